/- Merged texts below the law FnExactSyncFile: Go functions as Lean functions, their contracts, and plain lemmas. -/
import Derived.Test.YtmgeffgcihfpcaaDoorQFnExactSyncFile23
import Derived.Test.YtmgeffgcihfpcaaDoorQFnExactSyncFile24
import Derived.Test.YtmgeffgcihfpcaaDoorQFnExactSyncFile25
import Derived.Test.YtmgeffgcihfpcaaDoorQFnExactSyncFile26
import Derived.Shelf.Strings.SlTrimAscii
namespace Go.Proofs.YtmgeffgcihfpcaaDoor.F
open Go.RowKit Go.Proofs.YtmgeffgcihfpcaaDoorW.PrintWords Go.Proofs.YtmgeffgcihfpcaaDoorW.PrintWords.Kd Go.Proofs.YtmgeffgcihfpcaaDoorW.PrintMore.Kd Go.Proofs.YtmgeffgcihfpcaaDoorW.PrintLast Go.Proofs.YtmgeffgcihfpcaaDoorW.PrintMore
attribute [local go_sem] max2_int min2_int max_two min_two max_three min_three max_four min_four   -- for this text's walks alone
set_option linter.unusedVariables false
set_option linter.unusedSimpArgs false
def spec_SyncFile.f (k : Nat) (l0_0 : List (S74)) (a1 : ByteArray) : Option ((List (S74)) × Bool) := (spec_Content.f k l0_0 a1).bind fun bt326 => (if bt326.2 = true then ((spec_l03Put.f k l0_0 a1 bt326.1 ([] : List Int)).bind fun t330 => (some (t330, true))) else ((spec_l03Copy.f k l0_0).bind fun t333 => (some (t333, false))))
set_option maxHeartbeats 8000000 in
set_option maxRecDepth 100000 in
theorem spec_SyncFile.calls (k : Nat) (P0_0_ : Nat → Prop) (A0_0 : Option Addr) (c0_0 : Nat) (l0_0 : List (S74)) (a1 : ByteArray) (r1 : List (S74)) (r2 : Bool) (w : World) (hs0_0 : Kd.V k74 74 w w.heap.size (fun k_ => P0_0_ k_) (.slice A0_0 l0_0.length c0_0) l0_0) (h : spec_SyncFile.f k l0_0 a1 = some (r1, r2)) :
  Calls Tryd.prog 28 #[.agg #[.slice A0_0 l0_0.length c0_0], .string a1] w fun e w' => ∃ v0_ : Value, e = .returned (.tuple #[.agg #[v0_], .bool r2]) ∧ Kd.N k74 74 w' w.heap.size (fun k_ => (P0_0_ k_ ∨ w.heap.size ≤ k_)) v0_ r1 ∧ Below w.heap.size w w' := by
 have hu29 := Tryd.underlying29
 have hu74 := Tryd.underlying74
 have HO0_0 := Aside0.mk (show Kd.V k74 74 w w.heap.size (fun k_ => (P0_0_ k_ ∨ w.heap.size ≤ k_)) (.slice A0_0 l0_0.length c0_0) l0_0 from V_mono hs0_0 (fun k_ hk => .inl hk))
 have HB := Aside0.mk (Below.refl w.heap.size w)
 have H : ((spec_Content.f k l0_0 a1).bind fun bt326 => (if bt326.2 = true then ((spec_l03Put.f k l0_0 a1 bt326.1 ([] : List Int)).bind fun t330 => (some (t330, true))) else ((spec_l03Copy.f k l0_0).bind fun t333 => (some (t333, false))))) = some (r1, r2) := h
 clear h
 replace H := Option.bind_eq_some_iff.mp H
 obtain ⟨⟨t326, t329⟩, A30, H⟩ := H
 replace H : (if t329 = true then ((spec_l03Put.f k l0_0 a1 t326 ([] : List Int)).bind fun t330 => (some (t330, true))) else ((spec_l03Copy.f k l0_0).bind fun t333 => (some (t333, false)))) = some (r1, r2) := H
 have A3 := Aside0.mk A30
 clear A30
 by_cases c4 : t329 = true
 ·
  subst c4
  have H1 : ((spec_l03Put.f k l0_0 a1 t326 ([] : List Int)).bind fun t330 => (some (t330, true))) = some (r1, r2) := by rw [if_pos rfl] at H; exact H
  clear H
  have H := H1
  clear H1
  replace H := Option.bind_eq_some_iff.mp H
  obtain ⟨t330, A50, H⟩ := H
  replace H : (some (t330, true)) = some (r1, r2) := H
  have A5 := Aside0.mk A50
  clear A50
  simp only [Option.some.injEq, Prod.mk.injEq] at H
  obtain ⟨rfl, rfl⟩ := H
  go_enter Tryd.func28, Tryd.ntmps28
  go_wp2_with (first | ((with_reducible refine gate_dst (N := 2) rfl ?_); refine box_event ?hg (N := 2) ?hd (cs := #[.slice A0_0 l0_0.length c0_0]) (t := 29) ?hr ?_; (case hd => rfl); (case hg => rfl); (case hr => first | (go_simp; done) | (go_simp; rfl)); intro gb324 hg w6 hbox hb; have n0_ := Aside0.mk (V_below (V_elderB (by (with_reducible repeat (first | apply V_alloc | apply V_drewN | apply V_drew)); exact HO0_0.out) gb324 (Nat.le_of_eq hg.symm)) hb); have n1_ := Aside0.mk (below_step (by repeat (first | (with_reducible first | exact HB.out | apply below_alloc | apply pw_below_drewN | apply below_drew1) | exact HB.out)) hb); have n2_ := Aside0.mk (hbox); have n3_ := Aside0.mk ((by rw [hg]; exact (below_size (by repeat (first | (with_reducible first | exact HB.out | apply below_alloc | apply pw_below_drewN | apply below_drew1) | exact HB.out))) : w.heap.size ≤ gb324)); have n4_ := Aside0.mk ((by rw [hg]; exact (below_size (by repeat (first | (with_reducible first | exact HB.out | apply below_alloc | apply pw_below_drewN | apply below_drew1) | exact HB.out))) : w.heap.size ≤ gb324)); clear HO0_0; clear HB; have HO0_0 := n0_; have HB := n1_; have BK324 := n2_; have GW324 := n3_; have GE324 := n4_; clear n0_ n1_ n2_ n3_ n4_; clear hb hbox hg) | ((with_reducible refine gate_dst (N := 4) rfl ?_); refine box_event ?hg (N := 4) ?hd (cs := #[.slice none 0 0]) (t := 29) ?hr ?_; (case hd => rfl); (case hg => rfl); (case hr => first | (go_simp; done) | (go_simp; rfl)); intro gb325 hg w7 hbox hb; have n0_ := Aside0.mk (V_below (V_elderB (by (with_reducible repeat (first | apply V_alloc | apply V_drewN | apply V_drew)); exact HO0_0.out) gb325 (Nat.le_of_eq hg.symm)) hb); have n1_ := Aside0.mk (blk_below (g := gb324) (o := .cells #[.slice A0_0 l0_0.length c0_0] 29 (0, 0)) (by (with_reducible repeat (first | refine blk_drewN ?_ _ | refine blk_drew ?_ | refine blk_alloc ?_ _)); exact BK324.out) hb); have n2_ := Aside0.mk (below_step (by repeat (first | (with_reducible first | exact HB.out | apply below_alloc | apply pw_below_drewN | apply below_drew1 | refine below_set ?_ GE324.out) | exact HB.out)) hb); have n3_ := Aside0.mk (hbox); have n4_ := Aside0.mk ((by rw [hg]; exact (below_size (by repeat (first | (with_reducible first | exact HB.out | apply below_alloc | apply pw_below_drewN | apply below_drew1 | refine below_set ?_ GE324.out) | exact HB.out))) : w.heap.size ≤ gb325)); have n5_ := Aside0.mk ((by rw [hg]; exact (below_size (by repeat (first | (with_reducible first | exact HB.out | apply below_alloc | apply pw_below_drewN | apply below_drew1 | refine below_set ?_ GE324.out) | exact HB.out))) : w.heap.size ≤ gb325)); have n6_ := Aside0.mk ((by rw [hg]; exact Nat.ne_of_lt (blk_lt (g := gb324) (o := .cells #[.slice A0_0 l0_0.length c0_0] 29 (0, 0)) (by (with_reducible repeat (first | refine blk_drewN ?_ _ | refine blk_drew ?_ | refine blk_alloc ?_ _)); exact BK324.out)) : gb324 ≠ gb325)); have n7_ := Aside0.mk ((by rw [hg]; exact Nat.ne_of_gt (blk_lt (g := gb324) (o := .cells #[.slice A0_0 l0_0.length c0_0] 29 (0, 0)) (by (with_reducible repeat (first | refine blk_drewN ?_ _ | refine blk_drew ?_ | refine blk_alloc ?_ _)); exact BK324.out)) : gb325 ≠ gb324)); clear HO0_0; clear BK324; clear HB; have HO0_0 := n0_; have BK324 := n1_; have HB := n2_; have BK325 := n3_; have GW325 := n4_; have GE325 := n5_; have NB324_325 := n6_; have NB325_324 := n7_; clear n0_ n1_ n2_ n3_ n4_ n5_ n6_ n7_; clear hb hbox hg; have hnb8 := NB324_325.out; have hnc8 := NB325_324.out; have hcz9_0 : w7.cell? ⟨gb324, 0, none⟩ = some (.slice A0_0 l0_0.length c0_0) := (blk_cell BK324.out 0).trans rfl; have hfz9_0 := blk_frozen BK324.out 0) | ((with_reducible refine gate_callee (f := 19) rfl ?_); refine goesL_ (some 11) rfl rfl Tryd.func19 (by kernel_rfl) rfl #[.agg #[.slice A0_0 l0_0.length c0_0], .string a1] rfl (by (try simp only [List.map_toArray, List.map_cons, List.map_nil]); first | done | rfl | (simp only [List.length_drop, List.length_take]; rfl)) ?_; (with_reducible refine (spec_Content.calls k _ _ l0_0 a1 t326 true _ ?side1 ?side2 A3.out).mono ?_); (case side1 => repeat (first | exact (V_reads' HO0_0.out).2.2 | (with_reducible refine C_alloc ?_ _) | (with_reducible refine C_drewN ?_ _) | (with_reducible refine C_drew ?_))); (case side2 => exact (V_reads' HO0_0.out).2.1); rintro e w10 ⟨v327, rfl, ho0, hb⟩; refine ⟨_, rfl, ?_⟩; have n0_ := Aside0.mk (V_elder' (by (with_reducible repeat (first | apply V_alloc | apply V_drewN | apply V_drew)); exact HO0_0.out) (R_base ho0) hb); have n1_ := Aside0.mk (R_lower (R_newM (M := fun k_ => (w.heap.size ≤ k_)) ho0 (below_size (by repeat (first | (with_reducible first | exact HB.out | apply below_alloc | apply pw_below_drewN | apply below_drew1 | refine below_set ?_ GE324.out | refine below_set ?_ GE325.out) | exact HB.out))) (fun k_ h_ => h_)) (below_size (by repeat (first | (with_reducible first | exact HB.out | apply below_alloc | apply pw_below_drewN | apply below_drew1 | refine below_set ?_ GE324.out | refine below_set ?_ GE325.out) | exact HB.out)))); have n2_ := Aside0.mk (blk_below (g := gb324) (o := .cells #[.slice A0_0 l0_0.length c0_0] 29 (0, 0)) (by (with_reducible repeat (first | refine blk_drewN ?_ _ | refine blk_drew ?_ | refine blk_alloc ?_ _)); exact BK324.out) hb); have n3_ := Aside0.mk (blk_below (g := gb325) (o := .cells #[.slice none 0 0] 29 (0, 0)) (by (with_reducible repeat (first | refine blk_drewN ?_ _ | refine blk_drew ?_ | refine blk_alloc ?_ _)); exact BK325.out) hb); have n4_ := Aside0.mk (below_step (by repeat (first | (with_reducible first | exact HB.out | apply below_alloc | apply pw_below_drewN | apply below_drew1 | refine below_set ?_ GE324.out | refine below_set ?_ GE325.out) | exact HB.out)) hb); clear HO0_0; clear BK324; clear BK325; clear HB; have HO0_0 := n0_; have HO328 := n1_; have BK324 := n2_; have BK325 := n3_; have HB := n4_; clear n0_ n1_ n2_ n3_ n4_; (try clear hb); (try clear hb2); (try clear hk); (try clear hi); (try clear ho0); have hcz11_0 : w10.cell? ⟨gb324, 0, none⟩ = some (.slice A0_0 l0_0.length c0_0) := (blk_cell BK324.out 0).trans rfl; have hfz11_0 := blk_frozen BK324.out 0; obtain ⟨Ao12, co12, eo12⟩ := R_slice HO328.out; subst eo12) | ((with_reducible refine gate_callee (f := 70) rfl ?_); refine goesL_ (some 22) rfl rfl Tryd.func70 (by kernel_rfl) rfl #[.agg #[.slice A0_0 l0_0.length c0_0], .agg #[.string a1, .slice Ao12 t326.length co12, .slice none 0 0]] rfl (by (try simp only [List.map_toArray, List.map_cons, List.map_nil]); first | done | rfl | (simp only [List.length_drop, List.length_take]; rfl)) ?_; (refine (spec_l03Put.calls k (fun k_ => ((((P0_0_ k_ ∨ w.heap.size ≤ k_) ∧ k_ ≠ gb324) ∧ k_ ≠ gb325) ∧ some k_ ≠ (.slice Ao12 t326.length co12 : Value).ownBlock)) _ _ l0_0 a1 (fun k_ => some k_ = (.slice Ao12 t326.length co12 : Value).ownBlock) _ _ t326 (fun k_ => False) _ _ ([] : List Int) t330 _ ?side1 ?side2 ?side3 A5.out).mono ?_); (case side1 => exact HO0_0.out); (case side2 => exact R_V (R_tight rfl (R_types (R_types (HO328.out) BK324.out (by decide)) BK325.out (by decide)))); (case side3 => exact V_nil _ _ _ _ _); rintro e w13 ⟨v331, rfl, ho0, hb⟩; refine ⟨_, rfl, ?_⟩; have n0_ := Aside0.mk (V_elder' (by (with_reducible repeat (first | apply V_alloc | apply V_drewN | apply V_drew)); exact HO0_0.out) (N_base ho0) hb); have n1_ := Aside0.mk (R_below (by (with_reducible repeat (first | apply R_alloc | apply R_drewN | apply R_drew)); exact HO328.out) hb); have n2_ := Aside0.mk (N_lower (N_mono (ok' := fun k_ => (P0_0_ k_ ∨ w.heap.size ≤ k_) ∧ k_ ≠ gb324 ∧ k_ ≠ gb325) ho0 (fun k_ hk_ => ⟨Or.elim hk_ (fun hs_ => Or.elim hs_ (fun hs_ => hs_.1.1.1) (fun hs_ => Or.elim hs_ (fun hs_ => (.inr (((R_types (R_types (HO328.out) BK324.out (by decide)) BK325.out (by decide)).1 k_ hs_.symm).1.1.1))) (fun hs_ => (hs_).elim))) (fun hn_ => (.inr (Nat.le_trans (below_size (by repeat (first | (with_reducible first | exact HB.out | apply below_alloc | apply pw_below_drewN | apply below_drew1 | refine below_set ?_ GE324.out | refine below_set ?_ GE325.out) | exact HB.out))) hn_))), Or.elim hk_ (fun hs_ => Or.elim hs_ (fun hs_ => hs_.1.1.2) (fun hs_ => Or.elim hs_ (fun hs_ => ((R_types (R_types (HO328.out) BK324.out (by decide)) BK325.out (by decide)).1 k_ hs_.symm).1.2) (fun hs_ => (hs_).elim))) (fun hn_ => (Kd.freshB (g := gb324) (o := .cells #[.slice A0_0 l0_0.length c0_0] 29 (0, 0)) (by (with_reducible repeat (first | refine blk_drewN ?_ _ | refine blk_drew ?_ | refine blk_alloc ?_ _)); exact BK324.out) k_ hn_)), Or.elim hk_ (fun hs_ => Or.elim hs_ (fun hs_ => hs_.1.2) (fun hs_ => Or.elim hs_ (fun hs_ => ((R_types (R_types (HO328.out) BK324.out (by decide)) BK325.out (by decide)).1 k_ hs_.symm).2) (fun hs_ => (hs_).elim))) (fun hn_ => (Kd.freshB (g := gb325) (o := .cells #[.slice none 0 0] 29 (0, 0)) (by (with_reducible repeat (first | refine blk_drewN ?_ _ | refine blk_drew ?_ | refine blk_alloc ?_ _)); exact BK325.out) k_ hn_))⟩)) (below_size (by repeat (first | (with_reducible first | exact HB.out | apply below_alloc | apply pw_below_drewN | apply below_drew1 | refine below_set ?_ GE324.out | refine below_set ?_ GE325.out) | exact HB.out)))); have n3_ := Aside0.mk (blk_below (g := gb324) (o := .cells #[.slice A0_0 l0_0.length c0_0] 29 (0, 0)) (by (with_reducible repeat (first | refine blk_drewN ?_ _ | refine blk_drew ?_ | refine blk_alloc ?_ _)); exact BK324.out) hb); have n4_ := Aside0.mk (blk_below (g := gb325) (o := .cells #[.slice none 0 0] 29 (0, 0)) (by (with_reducible repeat (first | refine blk_drewN ?_ _ | refine blk_drew ?_ | refine blk_alloc ?_ _)); exact BK325.out) hb); have n5_ := Aside0.mk (below_step (by repeat (first | (with_reducible first | exact HB.out | apply below_alloc | apply pw_below_drewN | apply below_drew1 | refine below_set ?_ GE324.out | refine below_set ?_ GE325.out) | exact HB.out)) hb); clear HO0_0; clear HO328; clear BK324; clear BK325; clear HB; have HO0_0 := n0_; have HO328 := n1_; have HO332 := n2_; have BK324 := n3_; have BK325 := n4_; have HB := n5_; clear n0_ n1_ n2_ n3_ n4_ n5_; (try clear hb); (try clear hb2); (try clear hk); (try clear hi); (try clear ho0); obtain ⟨Ao14, co14, eo14⟩ := N_slice HO332.out; subst eo14; have hcz15_0 : w13.cell? ⟨gb325, 0, none⟩ = some (.slice none 0 0) := (blk_cell BK325.out 0).trans rfl; have hfz15_0 := blk_frozen BK325.out 0))
  refine bodyPost_ret (results_ct rfl _ _ gb325 29 #[.slice Ao14 t330.length co14] (0, 0) _ rfl (by (with_reducible repeat (first | refine blk_drewN ?_ _ | refine blk_drew ?_ | refine blk_alloc ?_ _)); refine blk_put (cs := #[.slice none 0 0]) ?_ 0 _ rfl; (with_reducible repeat (first | refine blk_drewN ?_ _ | refine blk_drew ?_ | refine blk_alloc ?_ _)); exact BK325.out) Tryd.underlying29 rfl (by kernel_rfl)) rfl ?_
  exact ⟨_, by first | rfl | (simp [errW_none, errW_some] <;> rfl) | (simp [*, errW_none, errW_some] <;> rfl), by (with_reducible repeat (first | apply N_alloc | apply N_drewN | apply N_drew)); exact N_mono (N_far (p := ⟨gb325, 0, none⟩) (N_mono HO332.out (fun k_ hk => (⟨hk, hk.2.2⟩ : _ ∧ k_ ≠ gb325))) (fun _ hk => hk.2) (.slice Ao14 t330.length co14)) (fun _ hk => hk.1.1), by repeat (first | (with_reducible first | exact HB.out | apply below_alloc | apply pw_below_drewN | apply below_drew1 | refine below_set ?_ GE324.out | refine below_set ?_ GE325.out) | exact HB.out)⟩
 ·
  replace c4 := Bool.eq_false_iff.mpr c4
  subst c4
  have H1 : ((spec_l03Copy.f k l0_0).bind fun t333 => (some (t333, false))) = some (r1, r2) := by rw [if_neg (show ¬ (false = true) by decide)] at H; exact H
  clear H
  have H := H1
  clear H1
  replace H := Option.bind_eq_some_iff.mp H
  obtain ⟨t333, A160, H⟩ := H
  replace H : (some (t333, false)) = some (r1, r2) := H
  have A16 := Aside0.mk A160
  clear A160
  simp only [Option.some.injEq, Prod.mk.injEq] at H
  obtain ⟨rfl, rfl⟩ := H
  go_enter Tryd.func28, Tryd.ntmps28
  go_wp2_with (first | ((with_reducible refine gate_dst (N := 2) rfl ?_); refine box_event ?hg (N := 2) ?hd (cs := #[.slice A0_0 l0_0.length c0_0]) (t := 29) ?hr ?_; (case hd => rfl); (case hg => rfl); (case hr => first | (go_simp; done) | (go_simp; rfl)); intro gb324 hg w17 hbox hb; have n0_ := Aside0.mk (V_below (V_elderB (by (with_reducible repeat (first | apply V_alloc | apply V_drewN | apply V_drew)); exact HO0_0.out) gb324 (Nat.le_of_eq hg.symm)) hb); have n1_ := Aside0.mk (below_step (by repeat (first | (with_reducible first | exact HB.out | apply below_alloc | apply pw_below_drewN | apply below_drew1) | exact HB.out)) hb); have n2_ := Aside0.mk (hbox); have n3_ := Aside0.mk ((by rw [hg]; exact (below_size (by repeat (first | (with_reducible first | exact HB.out | apply below_alloc | apply pw_below_drewN | apply below_drew1) | exact HB.out))) : w.heap.size ≤ gb324)); have n4_ := Aside0.mk ((by rw [hg]; exact (below_size (by repeat (first | (with_reducible first | exact HB.out | apply below_alloc | apply pw_below_drewN | apply below_drew1) | exact HB.out))) : w.heap.size ≤ gb324)); clear HO0_0; clear HB; have HO0_0 := n0_; have HB := n1_; have BK324 := n2_; have GW324 := n3_; have GE324 := n4_; clear n0_ n1_ n2_ n3_ n4_; clear hb hbox hg) | ((with_reducible refine gate_dst (N := 4) rfl ?_); refine box_event ?hg (N := 4) ?hd (cs := #[.slice none 0 0]) (t := 29) ?hr ?_; (case hd => rfl); (case hg => rfl); (case hr => first | (go_simp; done) | (go_simp; rfl)); intro gb325 hg w18 hbox hb; have n0_ := Aside0.mk (V_below (V_elderB (by (with_reducible repeat (first | apply V_alloc | apply V_drewN | apply V_drew)); exact HO0_0.out) gb325 (Nat.le_of_eq hg.symm)) hb); have n1_ := Aside0.mk (blk_below (g := gb324) (o := .cells #[.slice A0_0 l0_0.length c0_0] 29 (0, 0)) (by (with_reducible repeat (first | refine blk_drewN ?_ _ | refine blk_drew ?_ | refine blk_alloc ?_ _)); exact BK324.out) hb); have n2_ := Aside0.mk (below_step (by repeat (first | (with_reducible first | exact HB.out | apply below_alloc | apply pw_below_drewN | apply below_drew1 | refine below_set ?_ GE324.out) | exact HB.out)) hb); have n3_ := Aside0.mk (hbox); have n4_ := Aside0.mk ((by rw [hg]; exact (below_size (by repeat (first | (with_reducible first | exact HB.out | apply below_alloc | apply pw_below_drewN | apply below_drew1 | refine below_set ?_ GE324.out) | exact HB.out))) : w.heap.size ≤ gb325)); have n5_ := Aside0.mk ((by rw [hg]; exact (below_size (by repeat (first | (with_reducible first | exact HB.out | apply below_alloc | apply pw_below_drewN | apply below_drew1 | refine below_set ?_ GE324.out) | exact HB.out))) : w.heap.size ≤ gb325)); have n6_ := Aside0.mk ((by rw [hg]; exact Nat.ne_of_lt (blk_lt (g := gb324) (o := .cells #[.slice A0_0 l0_0.length c0_0] 29 (0, 0)) (by (with_reducible repeat (first | refine blk_drewN ?_ _ | refine blk_drew ?_ | refine blk_alloc ?_ _)); exact BK324.out)) : gb324 ≠ gb325)); have n7_ := Aside0.mk ((by rw [hg]; exact Nat.ne_of_gt (blk_lt (g := gb324) (o := .cells #[.slice A0_0 l0_0.length c0_0] 29 (0, 0)) (by (with_reducible repeat (first | refine blk_drewN ?_ _ | refine blk_drew ?_ | refine blk_alloc ?_ _)); exact BK324.out)) : gb325 ≠ gb324)); clear HO0_0; clear BK324; clear HB; have HO0_0 := n0_; have BK324 := n1_; have HB := n2_; have BK325 := n3_; have GW325 := n4_; have GE325 := n5_; have NB324_325 := n6_; have NB325_324 := n7_; clear n0_ n1_ n2_ n3_ n4_ n5_ n6_ n7_; clear hb hbox hg; have hnb19 := NB324_325.out; have hnc19 := NB325_324.out; have hcz20_0 : w18.cell? ⟨gb324, 0, none⟩ = some (.slice A0_0 l0_0.length c0_0) := (blk_cell BK324.out 0).trans rfl; have hfz20_0 := blk_frozen BK324.out 0) | ((with_reducible refine gate_callee (f := 19) rfl ?_); refine goesL_ (some 11) rfl rfl Tryd.func19 (by kernel_rfl) rfl #[.agg #[.slice A0_0 l0_0.length c0_0], .string a1] rfl (by (try simp only [List.map_toArray, List.map_cons, List.map_nil]); first | done | rfl | (simp only [List.length_drop, List.length_take]; rfl)) ?_; (with_reducible refine (spec_Content.calls k _ _ l0_0 a1 t326 false _ ?side1 ?side2 A3.out).mono ?_); (case side1 => repeat (first | exact (V_reads' HO0_0.out).2.2 | (with_reducible refine C_alloc ?_ _) | (with_reducible refine C_drewN ?_ _) | (with_reducible refine C_drew ?_))); (case side2 => exact (V_reads' HO0_0.out).2.1); rintro e w21 ⟨v327, rfl, ho0, hb⟩; refine ⟨_, rfl, ?_⟩; have n0_ := Aside0.mk (V_elder' (by (with_reducible repeat (first | apply V_alloc | apply V_drewN | apply V_drew)); exact HO0_0.out) (R_base ho0) hb); have n1_ := Aside0.mk (R_lower (R_newM (M := fun k_ => (w.heap.size ≤ k_)) ho0 (below_size (by repeat (first | (with_reducible first | exact HB.out | apply below_alloc | apply pw_below_drewN | apply below_drew1 | refine below_set ?_ GE324.out | refine below_set ?_ GE325.out) | exact HB.out))) (fun k_ h_ => h_)) (below_size (by repeat (first | (with_reducible first | exact HB.out | apply below_alloc | apply pw_below_drewN | apply below_drew1 | refine below_set ?_ GE324.out | refine below_set ?_ GE325.out) | exact HB.out)))); have n2_ := Aside0.mk (blk_below (g := gb324) (o := .cells #[.slice A0_0 l0_0.length c0_0] 29 (0, 0)) (by (with_reducible repeat (first | refine blk_drewN ?_ _ | refine blk_drew ?_ | refine blk_alloc ?_ _)); exact BK324.out) hb); have n3_ := Aside0.mk (blk_below (g := gb325) (o := .cells #[.slice none 0 0] 29 (0, 0)) (by (with_reducible repeat (first | refine blk_drewN ?_ _ | refine blk_drew ?_ | refine blk_alloc ?_ _)); exact BK325.out) hb); have n4_ := Aside0.mk (below_step (by repeat (first | (with_reducible first | exact HB.out | apply below_alloc | apply pw_below_drewN | apply below_drew1 | refine below_set ?_ GE324.out | refine below_set ?_ GE325.out) | exact HB.out)) hb); clear HO0_0; clear BK324; clear BK325; clear HB; have HO0_0 := n0_; have HO328 := n1_; have BK324 := n2_; have BK325 := n3_; have HB := n4_; clear n0_ n1_ n2_ n3_ n4_; (try clear hb); (try clear hb2); (try clear hk); (try clear hi); (try clear ho0); have hcz22_0 : w21.cell? ⟨gb324, 0, none⟩ = some (.slice A0_0 l0_0.length c0_0) := (blk_cell BK324.out 0).trans rfl; have hfz22_0 := blk_frozen BK324.out 0) | ((with_reducible refine gate_callee (f := 66) rfl ?_); refine goesL_ (some 17) rfl rfl Tryd.func66 (by kernel_rfl) rfl #[.agg #[.slice A0_0 l0_0.length c0_0]] rfl (by (try simp only [List.map_toArray, List.map_cons, List.map_nil]); first | done | rfl | (simp only [List.length_drop, List.length_take]; rfl)) ?_; (with_reducible refine (spec_l03Copy.calls k _ _ l0_0 t333 _ ?side1 ?side2 A16.out).mono ?_); (case side1 => repeat (first | exact (V_reads' HO0_0.out).2.2 | (with_reducible refine C_alloc ?_ _) | (with_reducible refine C_drewN ?_ _) | (with_reducible refine C_drew ?_))); (case side2 => exact (V_reads' HO0_0.out).2.1); rintro e w23 ⟨v334, rfl, ho0, hb⟩; refine ⟨_, rfl, ?_⟩; have n0_ := Aside0.mk (V_elder' (by (with_reducible repeat (first | apply V_alloc | apply V_drewN | apply V_drew)); exact HO0_0.out) (S_base ho0) hb); have n1_ := Aside0.mk (R_below (by (with_reducible repeat (first | apply R_alloc | apply R_drewN | apply R_drew)); exact HO328.out) hb); have n2_ := Aside0.mk (N_lower (N_mono (ok' := fun k_ => (P0_0_ k_ ∨ w.heap.size ≤ k_) ∧ some k_ ≠ (v327 : Value).ownBlock ∧ k_ ≠ gb324 ∧ k_ ≠ gb325) (S_N (S_bound ho0)) (fun k_ hk_ => ⟨(.inr (Nat.le_trans (below_size (by repeat (first | (with_reducible first | exact HB.out | apply below_alloc | apply pw_below_drewN | apply below_drew1 | refine below_set ?_ GE324.out | refine below_set ?_ GE325.out) | exact HB.out))) hk_.2.1)), (Kd.fresh' (R_lt (by (with_reducible repeat (first | apply R_alloc | apply R_drewN | apply R_drew)); exact HO328.out)) k_ hk_.2.1), (Kd.freshB (g := gb324) (o := .cells #[.slice A0_0 l0_0.length c0_0] 29 (0, 0)) (by (with_reducible repeat (first | refine blk_drewN ?_ _ | refine blk_drew ?_ | refine blk_alloc ?_ _)); exact BK324.out) k_ hk_.2.1), (Kd.freshB (g := gb325) (o := .cells #[.slice none 0 0] 29 (0, 0)) (by (with_reducible repeat (first | refine blk_drewN ?_ _ | refine blk_drew ?_ | refine blk_alloc ?_ _)); exact BK325.out) k_ hk_.2.1)⟩)) (below_size (by repeat (first | (with_reducible first | exact HB.out | apply below_alloc | apply pw_below_drewN | apply below_drew1 | refine below_set ?_ GE324.out | refine below_set ?_ GE325.out) | exact HB.out)))); have n3_ := Aside0.mk (blk_below (g := gb324) (o := .cells #[.slice A0_0 l0_0.length c0_0] 29 (0, 0)) (by (with_reducible repeat (first | refine blk_drewN ?_ _ | refine blk_drew ?_ | refine blk_alloc ?_ _)); exact BK324.out) hb); have n4_ := Aside0.mk (blk_below (g := gb325) (o := .cells #[.slice none 0 0] 29 (0, 0)) (by (with_reducible repeat (first | refine blk_drewN ?_ _ | refine blk_drew ?_ | refine blk_alloc ?_ _)); exact BK325.out) hb); have n5_ := Aside0.mk (below_step (by repeat (first | (with_reducible first | exact HB.out | apply below_alloc | apply pw_below_drewN | apply below_drew1 | refine below_set ?_ GE324.out | refine below_set ?_ GE325.out) | exact HB.out)) hb); clear HO0_0; clear HO328; clear BK324; clear BK325; clear HB; have HO0_0 := n0_; have HO328 := n1_; have HO335 := n2_; have BK324 := n3_; have BK325 := n4_; have HB := n5_; clear n0_ n1_ n2_ n3_ n4_ n5_; (try clear hb); (try clear hb2); (try clear hk); (try clear hi); (try clear ho0); obtain ⟨Ao24, co24, eo24⟩ := N_slice HO335.out; subst eo24; have hcz25_0 : w23.cell? ⟨gb325, 0, none⟩ = some (.slice none 0 0) := (blk_cell BK325.out 0).trans rfl; have hfz25_0 := blk_frozen BK325.out 0))
  refine bodyPost_ret (results_ct rfl _ _ gb325 29 #[.slice Ao24 t333.length co24] (0, 0) _ rfl (by (with_reducible repeat (first | refine blk_drewN ?_ _ | refine blk_drew ?_ | refine blk_alloc ?_ _)); refine blk_put (cs := #[.slice none 0 0]) ?_ 0 _ rfl; (with_reducible repeat (first | refine blk_drewN ?_ _ | refine blk_drew ?_ | refine blk_alloc ?_ _)); exact BK325.out) Tryd.underlying29 rfl (by kernel_rfl)) rfl ?_
  exact ⟨_, by first | rfl | (simp [errW_none, errW_some] <;> rfl) | (simp [*, errW_none, errW_some] <;> rfl), by (with_reducible repeat (first | apply N_alloc | apply N_drewN | apply N_drew)); exact N_mono (N_far (p := ⟨gb325, 0, none⟩) (N_mono HO335.out (fun k_ hk => (⟨hk, hk.2.2.2⟩ : _ ∧ k_ ≠ gb325))) (fun _ hk => hk.2) (.slice Ao24 t333.length co24)) (fun _ hk => hk.1.1), by repeat (first | (with_reducible first | exact HB.out | apply below_alloc | apply pw_below_drewN | apply below_drew1 | refine below_set ?_ GE324.out | refine below_set ?_ GE325.out) | exact HB.out)⟩
end Go.Proofs.YtmgeffgcihfpcaaDoor.F

namespace Go.Proofs.YtmgeffgcihfpcaaDoor.F
open Go.RowKit Go.Proofs.YtmgeffgcihfpcaaDoorW.PrintWords Go.Proofs.YtmgeffgcihfpcaaDoorW.PrintWords.Kd Go.Proofs.YtmgeffgcihfpcaaDoorW.PrintMore.Kd Go.Proofs.YtmgeffgcihfpcaaDoorW.PrintLast Go.Proofs.YtmgeffgcihfpcaaDoorW.PrintMore
attribute [local go_sem] max2_int min2_int max_two min_two max_three min_three max_four min_four   -- for this text's walks alone
set_option linter.unusedVariables false
set_option linter.unusedSimpArgs false
def impl_copyDisk.l0 : Nat → List (S74) → Int → Int → List (S74) → Option ((List (S74)))
 | 0, _, _, _, _ => none
 | k + 1, x8, x9, x10, x266000 => if x10 < x9 then (if 0 ≤ x10 then (if x10 < (x8.length : Int) then ((some (([] : List Int) : List Int)).bind fun y268 => (if y268.length + ((rd_T74 x8 x10).f1).length < 140737488355328 then ((some (([] : List Int) : List Int)).bind fun y274 => (if y274.length + ((rd_T74 x8 x10).f2).length < 140737488355328 then (if x266000.length < 2199023255552 then (impl_copyDisk.l0 k x8 x9 (wrap64 (x10 + 1)) (x266000 ++ [(⟨(rd_T74 x8 x10).f0, (y268 ++ ((rd_T74 x8 x10).f1)), (y274 ++ ((rd_T74 x8 x10).f2))⟩ : S74)])) else (none)) else (none))) else (none))) else (none)) else (none)) else (some x266000)
def impl_copyDisk.f (k : Nat) (l0_0 : List (S74)) : Option ((List (S74))) := impl_copyDisk.l0 k l0_0 (l0_0.length : Int) 0 ([] : List (S74))
def impl_copyDisk.T5 : Bool × List (List Nat × List Nat) := (true, [([], []), ([0], [0]), ([], []), ([2], [2]), ([], []), ([], []), ([5], [5]), ([4, 6], [4, 6]), ([], []), ([], []), ([9], [9]), ([8, 10, 7], [8, 10]), ([3, 7, 11], [3, 7, 11]), ([12], [12]), ([1, 13, 11], [1, 13]), ([0, 1, 2, 3, 4, 5, 6, 7, 8, 9, 10, 11, 12, 13, 14], []), ([15, 14, 14, 0, 1, 2, 3, 4, 5, 6, 7, 8, 9, 10, 11, 12, 13, 14], [14, 15])])
def impl_copyDisk.B5 : List Nat := [0, 1, 0, 4, 0, 0, 32, 112, 0, 0, 512, 2032, 4092, 8188, 16383, 32767, 65535]
theorem impl_copyDisk.tab5 : rtab .any (opsOf Tryd.f76 5) = impl_copyDisk.T5 := by kernel_rfl
theorem impl_copyDisk.bits5 : waitsOk impl_copyDisk.T5.2 impl_copyDisk.B5 = true := by kernel_rfl
set_option maxHeartbeats 8000000 in
set_option maxRecDepth 100000 in
theorem impl_copyDisk.calls (k : Nat) (A0_0 : Option Addr) (c0_0 : Nat) (l0_0 : List (S74)) (r : List (S74)) (w : World) (hr0_0 : Kd.C k74 w A0_0 l0_0.length l0_0) (hc0_0 : l0_0.length ≤ c0_0) (h : impl_copyDisk.f k l0_0 = some r) :
  Calls Tryd.prog 76 #[.agg #[.slice A0_0 l0_0.length c0_0]] w fun e w' => ∃ v0_ : Value, e = .returned (.agg #[v0_]) ∧ Kd.S k74 74 w' w.heap.size (fun _ => True) v0_ r ∧ Below w.heap.size w w' := by
 have hu29 := Tryd.underlying29
 have hu74 := Tryd.underlying74
 have HR0_0 := Aside0.mk hr0_0
 have HC0_0 := Aside0.mk hc0_0
 clear hr0_0 hc0_0
 have HB := Aside0.mk (Below.refl w.heap.size w)
 have H : (impl_copyDisk.l0 k l0_0 (l0_0.length : Int) 0 ([] : List (S74))) = some r := h
 clear h
 have H' := Aside0.mk H
 clear H
 go_enter Tryd.func76, Tryd.ntmps76
 go_wp2_with (first | ((with_reducible refine gate_dst (N := 1) rfl ?_); refine box_event ?hg (N := 1) ?hd (cs := #[.slice A0_0 l0_0.length c0_0]) (t := 29) ?hr ?_; (case hd => rfl); (case hg => rfl); (case hr => first | (go_simp; done) | (go_simp; rfl)); intro gb263 hg w2 hbox hb; have n0_ := Aside0.mk (below_step (by repeat (first | (with_reducible first | exact HB.out | apply below_alloc | apply pw_below_drewN | apply below_drew1) | exact HB.out)) hb); have n1_ := Aside0.mk (hbox); have n2_ := Aside0.mk ((by rw [hg]; exact (below_size (by repeat (first | (with_reducible first | exact HB.out | apply below_alloc | apply pw_below_drewN | apply below_drew1) | exact HB.out))) : w.heap.size ≤ gb263)); have n3_ := Aside0.mk ((by rw [hg]; exact (below_size (by repeat (first | (with_reducible first | exact HB.out | apply below_alloc | apply pw_below_drewN | apply below_drew1) | exact HB.out))) : w.heap.size ≤ gb263)); clear HB; have HB := n0_; have BK263 := n1_; have GW263 := n2_; have GE263 := n3_; clear n0_ n1_ n2_ n3_; clear hb hbox hg) | ((with_reducible refine gate_dst (N := 2) rfl ?_); refine box_event ?hg (N := 2) ?hd (cs := #[.slice none 0 0]) (t := 29) ?hr ?_; (case hd => rfl); (case hg => rfl); (case hr => first | (go_simp; done) | (go_simp; rfl)); intro gb264 hg w3 hbox hb; have n0_ := Aside0.mk (blk_below (g := gb263) (o := .cells #[.slice A0_0 l0_0.length c0_0] 29 (0, 0)) (by (with_reducible repeat (first | refine blk_drewN ?_ _ | refine blk_drew ?_ | refine blk_alloc ?_ _)); exact BK263.out) hb); have n1_ := Aside0.mk (below_step (by repeat (first | (with_reducible first | exact HB.out | apply below_alloc | apply pw_below_drewN | apply below_drew1 | refine below_set ?_ GE263.out) | exact HB.out)) hb); have n2_ := Aside0.mk (hbox); have n3_ := Aside0.mk ((by rw [hg]; exact (below_size (by repeat (first | (with_reducible first | exact HB.out | apply below_alloc | apply pw_below_drewN | apply below_drew1 | refine below_set ?_ GE263.out) | exact HB.out))) : w.heap.size ≤ gb264)); have n4_ := Aside0.mk ((by rw [hg]; exact (below_size (by repeat (first | (with_reducible first | exact HB.out | apply below_alloc | apply pw_below_drewN | apply below_drew1 | refine below_set ?_ GE263.out) | exact HB.out))) : w.heap.size ≤ gb264)); have n5_ := Aside0.mk ((by rw [hg]; exact Nat.ne_of_lt (blk_lt (g := gb263) (o := .cells #[.slice A0_0 l0_0.length c0_0] 29 (0, 0)) (by (with_reducible repeat (first | refine blk_drewN ?_ _ | refine blk_drew ?_ | refine blk_alloc ?_ _)); exact BK263.out)) : gb263 ≠ gb264)); have n6_ := Aside0.mk ((by rw [hg]; exact Nat.ne_of_gt (blk_lt (g := gb263) (o := .cells #[.slice A0_0 l0_0.length c0_0] 29 (0, 0)) (by (with_reducible repeat (first | refine blk_drewN ?_ _ | refine blk_drew ?_ | refine blk_alloc ?_ _)); exact BK263.out)) : gb264 ≠ gb263)); clear BK263; clear HB; have BK263 := n0_; have HB := n1_; have BK264 := n2_; have GW264 := n3_; have GE264 := n4_; have NB263_264 := n5_; have NB264_263 := n6_; clear n0_ n1_ n2_ n3_ n4_ n5_ n6_; clear hb hbox hg) | ((with_reducible refine gate_dst (N := 3) rfl ?_); refine box_event ?hg (N := 3) ?hd (cs := #[.slice none 0 0]) (t := 29) ?hr ?_; (case hd => rfl); (case hg => rfl); (case hr => first | (go_simp; done) | (go_simp; rfl)); intro gb265 hg w4 hbox hb; have n0_ := Aside0.mk (blk_below (g := gb263) (o := .cells #[.slice A0_0 l0_0.length c0_0] 29 (0, 0)) (by (with_reducible repeat (first | refine blk_drewN ?_ _ | refine blk_drew ?_ | refine blk_alloc ?_ _)); exact BK263.out) hb); have n1_ := Aside0.mk (blk_below (g := gb264) (o := .cells #[.slice none 0 0] 29 (0, 0)) (by (with_reducible repeat (first | refine blk_drewN ?_ _ | refine blk_drew ?_ | refine blk_alloc ?_ _)); exact BK264.out) hb); have n2_ := Aside0.mk (below_step (by repeat (first | (with_reducible first | exact HB.out | apply below_alloc | apply pw_below_drewN | apply below_drew1 | refine below_set ?_ GE263.out | refine below_set ?_ GE264.out) | exact HB.out)) hb); have n3_ := Aside0.mk (hbox); have n4_ := Aside0.mk ((by rw [hg]; exact (below_size (by repeat (first | (with_reducible first | exact HB.out | apply below_alloc | apply pw_below_drewN | apply below_drew1 | refine below_set ?_ GE263.out | refine below_set ?_ GE264.out) | exact HB.out))) : w.heap.size ≤ gb265)); have n5_ := Aside0.mk ((by rw [hg]; exact (below_size (by repeat (first | (with_reducible first | exact HB.out | apply below_alloc | apply pw_below_drewN | apply below_drew1 | refine below_set ?_ GE263.out | refine below_set ?_ GE264.out) | exact HB.out))) : w.heap.size ≤ gb265)); have n6_ := Aside0.mk ((by rw [hg]; exact Nat.ne_of_lt (blk_lt (g := gb263) (o := .cells #[.slice A0_0 l0_0.length c0_0] 29 (0, 0)) (by (with_reducible repeat (first | refine blk_drewN ?_ _ | refine blk_drew ?_ | refine blk_alloc ?_ _)); exact BK263.out)) : gb263 ≠ gb265)); have n7_ := Aside0.mk ((by rw [hg]; exact Nat.ne_of_gt (blk_lt (g := gb263) (o := .cells #[.slice A0_0 l0_0.length c0_0] 29 (0, 0)) (by (with_reducible repeat (first | refine blk_drewN ?_ _ | refine blk_drew ?_ | refine blk_alloc ?_ _)); exact BK263.out)) : gb265 ≠ gb263)); have n8_ := Aside0.mk ((by rw [hg]; exact Nat.ne_of_lt (blk_lt (g := gb264) (o := .cells #[.slice none 0 0] 29 (0, 0)) (by (with_reducible repeat (first | refine blk_drewN ?_ _ | refine blk_drew ?_ | refine blk_alloc ?_ _)); exact BK264.out)) : gb264 ≠ gb265)); have n9_ := Aside0.mk ((by rw [hg]; exact Nat.ne_of_gt (blk_lt (g := gb264) (o := .cells #[.slice none 0 0] 29 (0, 0)) (by (with_reducible repeat (first | refine blk_drewN ?_ _ | refine blk_drew ?_ | refine blk_alloc ?_ _)); exact BK264.out)) : gb265 ≠ gb264)); clear BK263; clear BK264; clear HB; have BK263 := n0_; have BK264 := n1_; have HB := n2_; have BK265 := n3_; have GW265 := n4_; have GE265 := n5_; have NB263_265 := n6_; have NB265_263 := n7_; have NB264_265 := n8_; have NB265_264 := n9_; clear n0_ n1_ n2_ n3_ n4_ n5_ n6_ n7_ n8_ n9_; clear hb hbox hg; have hnb5 := NB265_263.out; have hnc5 := NB263_265.out; have hnb6 := NB265_264.out; have hnc6 := NB264_265.out; have hcz7_0 : w4.cell? ⟨gb265, 0, none⟩ = some (.slice none 0 0) := (blk_cell BK265.out 0).trans rfl; have hfz7_0 := blk_frozen BK265.out 0; have hnb8 := NB263_264.out; have hnc8 := NB264_263.out; have hcz9_0 : w4.cell? ⟨gb263, 0, none⟩ = some (.slice A0_0 l0_0.length c0_0) := (blk_cell BK263.out 0).trans rfl; have hfz9_0 := blk_frozen BK263.out 0))
 go_loopg [10] k (fun kq v10 w' => ∃ (x10_1 : Int) (x266000_1 : List (S74)) (u266000 : Value), v10 = .int .i64 x10_1 ∧ Aside0 (impl_copyDisk.l0 kq l0_0 (l0_0.length : Int) x10_1 x266000_1 = some r) ∧ Aside0 (kq ≤ k) ∧ Aside0 (Kd.S k74 74 w' w.heap.size (fun _ => True) u266000 x266000_1) ∧ Aside0 (w'.heap[gb263]? = some (.cells #[(.slice A0_0 l0_0.length c0_0)] 29 (0, 0))) ∧ Aside0 (w'.heap[gb264]? = some (.cells #[(.slice none 0 0)] 29 (0, 0))) ∧ Aside0 (w'.heap[gb265]? = some (.cells #[u266000] 29 (0, 0))) ∧ Aside0 (Below w.heap.size w w'))
 case atStart => exact ⟨(0), (([] : List (S74))), (.slice none 0 0), (by first | rfl | (simp; done) | (simp [*]; done)), H', ⟨Nat.le_refl _⟩, ⟨by first | exact S_nil _ _ _ _ _ | exact N_nil _ _ _ _ _ | exact V_nil _ _ _ _ _ | exact Q_nil _ _ _ _ _ | exact R_nil _ _ _ _ _⟩, ⟨by (with_reducible repeat (first | refine blk_drewN ?_ _ | refine blk_drew ?_ | refine blk_alloc ?_ _)); refine blk_far ?_ NB263_265.out _; (with_reducible repeat (first | refine blk_drewN ?_ _ | refine blk_drew ?_ | refine blk_alloc ?_ _)); exact BK263.out⟩, ⟨by (with_reducible repeat (first | refine blk_drewN ?_ _ | refine blk_drew ?_ | refine blk_alloc ?_ _)); refine blk_far ?_ NB264_265.out _; (with_reducible repeat (first | refine blk_drewN ?_ _ | refine blk_drew ?_ | refine blk_alloc ?_ _)); exact BK264.out⟩, ⟨by (with_reducible repeat (first | refine blk_drewN ?_ _ | refine blk_drew ?_ | refine blk_alloc ?_ _)); refine blk_put (cs := #[.slice none 0 0]) ?_ 0 _ rfl; (with_reducible repeat (first | refine blk_drewN ?_ _ | refine blk_drew ?_ | refine blk_alloc ?_ _)); exact BK265.out⟩, ⟨by repeat (first | (with_reducible first | exact HB.out | apply below_alloc | apply pw_below_drewN | apply below_drew1 | refine below_set ?_ GE263.out | refine below_set ?_ GE264.out | refine below_set ?_ GE265.out) | exact HB.out)⟩⟩
 case round =>
  clear H'
  try clear p2
  try clear c5
  try clear c6
  try clear c7
  try clear c8
  try clear hcz7_0
  try clear hcz9_0
  try clear hfz7_0
  try clear hfz9_0
  obtain ⟨x10_1, x266000_1, u266000, rfl, HA, HK1, HO_266000, BK263, BK264, BK265, HB⟩ := hrel
  cases gk with
  | zero => exact absurd HA.out (by simp [impl_copyDisk.l0])
  | succ k1 =>
   have H := HA.out
   clear HA
   simp only [impl_copyDisk.l0] at H
   by_cases c10 : x10_1 < (l0_0.length : Int)
   ·
    rw [if_pos c10] at H
    have c10b0 : decide (x10_1 < (l0_0.length : Int)) = true := decide_eq_true c10
    clear c10
    by_cases c11 : 0 ≤ x10_1
    ·
     rw [if_pos c11] at H
     have c11b0 : decide (0 ≤ x10_1) = true := decide_eq_true c11
     clear c11
     by_cases c12 : x10_1 < (l0_0.length : Int)
     ·
      rw [if_pos c12] at H
      have c12b0 : decide (x10_1 < (l0_0.length : Int)) = true := decide_eq_true c12
      clear c12
      obtain ⟨y268, hy268⟩ : ∃ y_ : List Int, y_ = (([] : List Int)) := ⟨_, rfl⟩
      replace H : (if y268.length + ((rd_T74 l0_0 x10_1).f1).length < 140737488355328 then ((some (([] : List Int) : List Int)).bind fun y274 => (if y274.length + ((rd_T74 l0_0 x10_1).f2).length < 140737488355328 then (if x266000_1.length < 2199023255552 then (impl_copyDisk.l0 k1 l0_0 (l0_0.length : Int) (wrap64 (x10_1 + 1)) (x266000_1 ++ [(⟨(rd_T74 l0_0 x10_1).f0, (y268 ++ ((rd_T74 l0_0 x10_1).f1)), (y274 ++ ((rd_T74 l0_0 x10_1).f2))⟩ : S74)])) else (none)) else (none))) else (none)) = some r := by first | (rw [hy268]; with_reducible exact H) | (have H2_ := (Option.bind_some _ _).symm.trans H; rw [hy268]; with_reducible exact H2_) | (have H2_ := (Option.bind_some _ _).symm.trans H; with_reducible exact H2_) | with_reducible exact H | (rw [hy268]; exact H) | exact H
      have Ny268 := Aside0.mk hy268
      clear hy268
      by_cases c13 : y268.length + ((rd_T74 l0_0 x10_1).f1).length < 140737488355328
      ·
       rw [if_pos c13] at H
       have LMc13 := Aside0.mk c13
       clear c13
       obtain ⟨y271, hy271⟩ : ∃ y_ : List Int, y_ = (y268 ++ ((rd_T74 l0_0 x10_1).f1)) := ⟨_, rfl⟩
       replace H : ((some (([] : List Int) : List Int)).bind fun y274 => (if y274.length + ((rd_T74 l0_0 x10_1).f2).length < 140737488355328 then (if x266000_1.length < 2199023255552 then (impl_copyDisk.l0 k1 l0_0 (l0_0.length : Int) (wrap64 (x10_1 + 1)) (x266000_1 ++ [(⟨(rd_T74 l0_0 x10_1).f0, y271, (y274 ++ ((rd_T74 l0_0 x10_1).f2))⟩ : S74)])) else (none)) else (none))) = some r := by first | (rw [hy271]; with_reducible exact H) | (have H2_ := (Option.bind_some _ _).symm.trans H; rw [hy271]; with_reducible exact H2_) | (have H2_ := (Option.bind_some _ _).symm.trans H; with_reducible exact H2_) | with_reducible exact H | (rw [hy271]; exact H) | exact H
       have Ny271 := Aside0.mk hy271
       clear hy271
       obtain ⟨y274, hy274⟩ : ∃ y_ : List Int, y_ = (([] : List Int)) := ⟨_, rfl⟩
       replace H : (if y274.length + ((rd_T74 l0_0 x10_1).f2).length < 140737488355328 then (if x266000_1.length < 2199023255552 then (impl_copyDisk.l0 k1 l0_0 (l0_0.length : Int) (wrap64 (x10_1 + 1)) (x266000_1 ++ [(⟨(rd_T74 l0_0 x10_1).f0, y271, (y274 ++ ((rd_T74 l0_0 x10_1).f2))⟩ : S74)])) else (none)) else (none)) = some r := by first | (rw [hy274]; with_reducible exact H) | (have H2_ := (Option.bind_some _ _).symm.trans H; rw [hy274]; with_reducible exact H2_) | (have H2_ := (Option.bind_some _ _).symm.trans H; with_reducible exact H2_) | with_reducible exact H | (rw [hy274]; exact H) | exact H
       have Ny274 := Aside0.mk hy274
       clear hy274
       by_cases c14 : y274.length + ((rd_T74 l0_0 x10_1).f2).length < 140737488355328
       ·
        rw [if_pos c14] at H
        have LMc14 := Aside0.mk c14
        clear c14
        obtain ⟨y277, hy277⟩ : ∃ y_ : List Int, y_ = (y274 ++ ((rd_T74 l0_0 x10_1).f2)) := ⟨_, rfl⟩
        replace H : (if x266000_1.length < 2199023255552 then (impl_copyDisk.l0 k1 l0_0 (l0_0.length : Int) (wrap64 (x10_1 + 1)) (x266000_1 ++ [(⟨(rd_T74 l0_0 x10_1).f0, y271, y277⟩ : S74)])) else (none)) = some r := by first | (rw [hy277]; with_reducible exact H) | (have H2_ := (Option.bind_some _ _).symm.trans H; rw [hy277]; with_reducible exact H2_) | (have H2_ := (Option.bind_some _ _).symm.trans H; with_reducible exact H2_) | with_reducible exact H | (rw [hy277]; exact H) | exact H
        have Ny277 := Aside0.mk hy277
        clear hy277
        by_cases c15 : x266000_1.length < 2199023255552
        ·
         rw [if_pos c15] at H
         have LMc15 := Aside0.mk c15
         clear c15
         obtain ⟨y280, hy280⟩ : ∃ y_ : List (S74), y_ = (x266000_1 ++ [(⟨(rd_T74 l0_0 x10_1).f0, y271, y277⟩ : S74)]) := ⟨_, rfl⟩
         replace H : (impl_copyDisk.l0 k1 l0_0 (l0_0.length : Int) (wrap64 (x10_1 + 1)) y280) = some r := by first | (rw [hy280]; with_reducible exact H) | (have H2_ := (Option.bind_some _ _).symm.trans H; rw [hy280]; with_reducible exact H2_) | (have H2_ := (Option.bind_some _ _).symm.trans H; with_reducible exact H2_) | with_reducible exact H | (rw [hy280]; exact H) | exact H
         have Ny280 := Aside0.mk hy280
         clear hy280
         have H' := Aside0.mk H
         clear H
         have p266 : 0 ≤ (x10_1 : Int) := of_decide_eq_true (by first | (with_reducible assumption) | assumption)
         have q266 : x10_1 < (l0_0.length : Int) := of_decide_eq_true (by first | (with_reducible assumption) | assumption)
         obtain ⟨ad266, A266_1, c266_1, A266_2, c266_2, e266, hx266_0, hx266_1, hx266_2, hl266_1, hi266_1, hl266_2, hi266_2⟩ := at_T74 HR0_0.out x10_1 p266 q266
         cases e266
         replace hx266_0 := (HB.out.cell (World.block_lt_of_cell? w _ hx266_0)).trans hx266_0
         replace hx266_1 := (HB.out.cell (World.block_lt_of_cell? w _ hx266_1)).trans hx266_1
         replace hx266_2 := (HB.out.cell (World.block_lt_of_cell? w _ hx266_2)).trans hx266_2
         have HR266_1 := Aside0.mk hi266_1
         have HC266_1 := Aside0.mk hl266_1
         clear hi266_1 hl266_1
         have HR266_2 := Aside0.mk hi266_2
         have HC266_2 := Aside0.mk hl266_2
         clear hi266_2 hl266_2
         replace p266 := eq_true p266
         replace q266 := eq_true q266
         try go_wp2_with (first | ((with_reducible refine gate_dst (N := 5) rfl ?_); refine box_event ?hg (N := 5) ?hd (cs := #[.string (⟨#[]⟩ : ByteArray), .slice none 0 0, .slice none 0 0]) (t := 74) ?hr ?_; (case hd => rfl); (case hg => rfl); (case hr => first | (go_simp; done) | (go_simp; rfl)); intro gb267 hg w16 hbox hb; have n0_ := Aside0.mk (S_below (S_elderB (by (with_reducible repeat (first | apply S_alloc | apply S_drewN | apply S_drew)); exact HO_266000.out) gb267 (Nat.le_of_eq hg.symm)) hb); have n1_ := Aside0.mk (blk_below (g := gb263) (o := .cells #[.slice (some ad266) l0_0.length c0_0] 29 (0, 0)) (by (with_reducible repeat (first | refine blk_drewN ?_ _ | refine blk_drew ?_ | refine blk_alloc ?_ _)); exact BK263.out) hb); have n2_ := Aside0.mk (blk_below (g := gb264) (o := .cells #[.slice none 0 0] 29 (0, 0)) (by (with_reducible repeat (first | refine blk_drewN ?_ _ | refine blk_drew ?_ | refine blk_alloc ?_ _)); exact BK264.out) hb); have n3_ := Aside0.mk (blk_below (g := gb265) (o := .cells #[u266000] 29 (0, 0)) (by (with_reducible repeat (first | refine blk_drewN ?_ _ | refine blk_drew ?_ | refine blk_alloc ?_ _)); exact BK265.out) hb); have n4_ := Aside0.mk (below_step (by repeat (first | (with_reducible first | exact HB.out | apply below_alloc | apply pw_below_drewN | apply below_drew1 | refine below_set ?_ GE263.out | refine below_set ?_ GE264.out | refine below_set ?_ GE265.out) | exact HB.out)) hb); have n5_ := Aside0.mk (hbox); have n6_ := Aside0.mk ((by rw [hg]; exact (below_size (by repeat (first | (with_reducible first | exact HB.out | apply below_alloc | apply pw_below_drewN | apply below_drew1 | refine below_set ?_ GE263.out | refine below_set ?_ GE264.out | refine below_set ?_ GE265.out) | exact HB.out))) : w.heap.size ≤ gb267)); have n7_ := Aside0.mk ((by rw [hg]; exact (below_size (by repeat (first | (with_reducible first | exact HB.out | apply below_alloc | apply pw_below_drewN | apply below_drew1 | refine below_set ?_ GE263.out | refine below_set ?_ GE264.out | refine below_set ?_ GE265.out) | exact HB.out))) : w.heap.size ≤ gb267)); have n8_ := Aside0.mk ((by rw [hg]; exact Nat.ne_of_lt (blk_lt (g := gb263) (o := .cells #[.slice (some ad266) l0_0.length c0_0] 29 (0, 0)) (by (with_reducible repeat (first | refine blk_drewN ?_ _ | refine blk_drew ?_ | refine blk_alloc ?_ _)); exact BK263.out)) : gb263 ≠ gb267)); have n9_ := Aside0.mk ((by rw [hg]; exact Nat.ne_of_gt (blk_lt (g := gb263) (o := .cells #[.slice (some ad266) l0_0.length c0_0] 29 (0, 0)) (by (with_reducible repeat (first | refine blk_drewN ?_ _ | refine blk_drew ?_ | refine blk_alloc ?_ _)); exact BK263.out)) : gb267 ≠ gb263)); have n10_ := Aside0.mk ((by rw [hg]; exact Nat.ne_of_lt (blk_lt (g := gb264) (o := .cells #[.slice none 0 0] 29 (0, 0)) (by (with_reducible repeat (first | refine blk_drewN ?_ _ | refine blk_drew ?_ | refine blk_alloc ?_ _)); exact BK264.out)) : gb264 ≠ gb267)); have n11_ := Aside0.mk ((by rw [hg]; exact Nat.ne_of_gt (blk_lt (g := gb264) (o := .cells #[.slice none 0 0] 29 (0, 0)) (by (with_reducible repeat (first | refine blk_drewN ?_ _ | refine blk_drew ?_ | refine blk_alloc ?_ _)); exact BK264.out)) : gb267 ≠ gb264)); have n12_ := Aside0.mk ((by rw [hg]; exact Nat.ne_of_lt (blk_lt (g := gb265) (o := .cells #[u266000] 29 (0, 0)) (by (with_reducible repeat (first | refine blk_drewN ?_ _ | refine blk_drew ?_ | refine blk_alloc ?_ _)); exact BK265.out)) : gb265 ≠ gb267)); have n13_ := Aside0.mk ((by rw [hg]; exact Nat.ne_of_gt (blk_lt (g := gb265) (o := .cells #[u266000] 29 (0, 0)) (by (with_reducible repeat (first | refine blk_drewN ?_ _ | refine blk_drew ?_ | refine blk_alloc ?_ _)); exact BK265.out)) : gb267 ≠ gb265)); clear HO_266000; clear BK263; clear BK264; clear BK265; clear HB; have HO_266000 := n0_; have BK263 := n1_; have BK264 := n2_; have BK265 := n3_; have HB := n4_; have BK267 := n5_; have GW267 := n6_; have GE267 := n7_; have NB263_267 := n8_; have NB267_263 := n9_; have NB264_267 := n10_; have NB267_264 := n11_; have NB265_267 := n12_; have NB267_265 := n13_; clear n0_ n1_ n2_ n3_ n4_ n5_ n6_ n7_ n8_ n9_ n10_ n11_ n12_ n13_; clear hb hbox hg; have hnb17 := NB267_263.out; have hnc17 := NB263_267.out; have hnb18 := NB267_264.out; have hnc18 := NB264_267.out; have hnb19 := NB267_265.out; have hnc19 := NB265_267.out; have hcz20_0 : w16.cell? ⟨gb267, 0, none⟩ = some (.string (⟨#[]⟩ : ByteArray)) := (blk_cell BK267.out 0).trans rfl; have hcz20_1 : w16.cell? ⟨gb267, 1, none⟩ = some (.slice none 0 0) := (blk_cell BK267.out 1).trans rfl; have hcz20_2 : w16.cell? ⟨gb267, 2, none⟩ = some (.slice none 0 0) := (blk_cell BK267.out 2).trans rfl; have hfz20_0 := blk_frozen BK267.out 0; have hfz20_1 := blk_frozen BK267.out 1; have hfz20_2 := blk_frozen BK267.out 2; obtain ⟨Ao21, co21, eo21⟩ := S_slice HO_266000.out; subst eo21))
         have n0_ : Aside0 (Kd.S k74 74 (((w16.setCell ⟨gb267, 0, none⟩ (.string ((rd_T74 l0_0 x10_1).f0))).setCell ⟨gb267, 1, none⟩ (.slice A266_1 ((rd_T74 l0_0 x10_1).f1).length c266_1)).setCell ⟨gb267, 2, none⟩ (.slice A266_2 ((rd_T74 l0_0 x10_1).f2).length c266_2)) w.heap.size (fun k_ => k_ ≠ gb267) (.slice Ao21 x266000_1.length co21) x266000_1) := ⟨by (with_reducible repeat (first | apply S_alloc | apply S_drewN | apply S_drew)); exact S_mono (S_far (p := ⟨gb267, 2, none⟩) (S_far (p := ⟨gb267, 1, none⟩) (S_far (p := ⟨gb267, 0, none⟩) (S_mono HO_266000.out (fun k_ hk => (⟨hk, hk.2⟩ : _ ∧ k_ ≠ gb267))) (fun _ hk => hk.2) (.string ((rd_T74 l0_0 x10_1).f0))) (fun _ hk => hk.2) (.slice A266_1 ((rd_T74 l0_0 x10_1).f1).length c266_1)) (fun _ hk => hk.2) (.slice A266_2 ((rd_T74 l0_0 x10_1).f2).length c266_2)) (fun _ hk => hk.1.2)⟩
         have n1_ : Aside0 ((((w16.setCell ⟨gb267, 0, none⟩ (.string ((rd_T74 l0_0 x10_1).f0))).setCell ⟨gb267, 1, none⟩ (.slice A266_1 ((rd_T74 l0_0 x10_1).f1).length c266_1)).setCell ⟨gb267, 2, none⟩ (.slice A266_2 ((rd_T74 l0_0 x10_1).f2).length c266_2)).heap[gb263]? = some (.cells #[.slice (some ad266) l0_0.length c0_0] 29 (0, 0))) := ⟨by (with_reducible repeat (first | refine blk_drewN ?_ _ | refine blk_drew ?_ | refine blk_alloc ?_ _)); refine blk_far ?_ NB263_267.out _; (with_reducible repeat (first | refine blk_drewN ?_ _ | refine blk_drew ?_ | refine blk_alloc ?_ _)); refine blk_far ?_ NB263_267.out _; (with_reducible repeat (first | refine blk_drewN ?_ _ | refine blk_drew ?_ | refine blk_alloc ?_ _)); refine blk_far ?_ NB263_267.out _; (with_reducible repeat (first | refine blk_drewN ?_ _ | refine blk_drew ?_ | refine blk_alloc ?_ _)); exact BK263.out⟩
         have n2_ : Aside0 ((((w16.setCell ⟨gb267, 0, none⟩ (.string ((rd_T74 l0_0 x10_1).f0))).setCell ⟨gb267, 1, none⟩ (.slice A266_1 ((rd_T74 l0_0 x10_1).f1).length c266_1)).setCell ⟨gb267, 2, none⟩ (.slice A266_2 ((rd_T74 l0_0 x10_1).f2).length c266_2)).heap[gb264]? = some (.cells #[.slice none 0 0] 29 (0, 0))) := ⟨by (with_reducible repeat (first | refine blk_drewN ?_ _ | refine blk_drew ?_ | refine blk_alloc ?_ _)); refine blk_far ?_ NB264_267.out _; (with_reducible repeat (first | refine blk_drewN ?_ _ | refine blk_drew ?_ | refine blk_alloc ?_ _)); refine blk_far ?_ NB264_267.out _; (with_reducible repeat (first | refine blk_drewN ?_ _ | refine blk_drew ?_ | refine blk_alloc ?_ _)); refine blk_far ?_ NB264_267.out _; (with_reducible repeat (first | refine blk_drewN ?_ _ | refine blk_drew ?_ | refine blk_alloc ?_ _)); exact BK264.out⟩
         have n3_ : Aside0 ((((w16.setCell ⟨gb267, 0, none⟩ (.string ((rd_T74 l0_0 x10_1).f0))).setCell ⟨gb267, 1, none⟩ (.slice A266_1 ((rd_T74 l0_0 x10_1).f1).length c266_1)).setCell ⟨gb267, 2, none⟩ (.slice A266_2 ((rd_T74 l0_0 x10_1).f2).length c266_2)).heap[gb265]? = some (.cells #[.slice Ao21 x266000_1.length co21] 29 (0, 0))) := ⟨by (with_reducible repeat (first | refine blk_drewN ?_ _ | refine blk_drew ?_ | refine blk_alloc ?_ _)); refine blk_far ?_ NB265_267.out _; (with_reducible repeat (first | refine blk_drewN ?_ _ | refine blk_drew ?_ | refine blk_alloc ?_ _)); refine blk_far ?_ NB265_267.out _; (with_reducible repeat (first | refine blk_drewN ?_ _ | refine blk_drew ?_ | refine blk_alloc ?_ _)); refine blk_far ?_ NB265_267.out _; (with_reducible repeat (first | refine blk_drewN ?_ _ | refine blk_drew ?_ | refine blk_alloc ?_ _)); exact BK265.out⟩
         have n4_ : Aside0 ((((w16.setCell ⟨gb267, 0, none⟩ (.string ((rd_T74 l0_0 x10_1).f0))).setCell ⟨gb267, 1, none⟩ (.slice A266_1 ((rd_T74 l0_0 x10_1).f1).length c266_1)).setCell ⟨gb267, 2, none⟩ (.slice A266_2 ((rd_T74 l0_0 x10_1).f2).length c266_2)).heap[gb267]? = some (.cells #[.string ((rd_T74 l0_0 x10_1).f0), .slice A266_1 ((rd_T74 l0_0 x10_1).f1).length c266_1, .slice A266_2 ((rd_T74 l0_0 x10_1).f2).length c266_2] 74 (0, 0))) := ⟨by (with_reducible repeat (first | refine blk_drewN ?_ _ | refine blk_drew ?_ | refine blk_alloc ?_ _)); refine blk_put (cs := #[.string ((rd_T74 l0_0 x10_1).f0), .slice A266_1 ((rd_T74 l0_0 x10_1).f1).length c266_1, .slice none 0 0]) ?_ 2 _ rfl; (with_reducible repeat (first | refine blk_drewN ?_ _ | refine blk_drew ?_ | refine blk_alloc ?_ _)); refine blk_put (cs := #[.string ((rd_T74 l0_0 x10_1).f0), .slice none 0 0, .slice none 0 0]) ?_ 1 _ rfl; (with_reducible repeat (first | refine blk_drewN ?_ _ | refine blk_drew ?_ | refine blk_alloc ?_ _)); refine blk_put (cs := #[.string (⟨#[]⟩ : ByteArray), .slice none 0 0, .slice none 0 0]) ?_ 0 _ rfl; (with_reducible repeat (first | refine blk_drewN ?_ _ | refine blk_drew ?_ | refine blk_alloc ?_ _)); exact BK267.out⟩
         have n5_ : Aside0 (Below w.heap.size w (((w16.setCell ⟨gb267, 0, none⟩ (.string ((rd_T74 l0_0 x10_1).f0))).setCell ⟨gb267, 1, none⟩ (.slice A266_1 ((rd_T74 l0_0 x10_1).f1).length c266_1)).setCell ⟨gb267, 2, none⟩ (.slice A266_2 ((rd_T74 l0_0 x10_1).f2).length c266_2))) := ⟨by repeat (first | (with_reducible first | exact HB.out | apply below_alloc | apply pw_below_drewN | apply below_drew1 | refine below_set ?_ GE263.out | refine below_set ?_ GE264.out | refine below_set ?_ GE265.out | refine below_set ?_ GE267.out) | exact HB.out)⟩
         (try clear HO_266000)
         (try clear BK263)
         (try clear BK264)
         (try clear BK265)
         (try clear BK267)
         (try clear HB)
         generalize (((w16.setCell ⟨gb267, 0, none⟩ (.string ((rd_T74 l0_0 x10_1).f0))).setCell ⟨gb267, 1, none⟩ (.slice A266_1 ((rd_T74 l0_0 x10_1).f1).length c266_1)).setCell ⟨gb267, 2, none⟩ (.slice A266_2 ((rd_T74 l0_0 x10_1).f2).length c266_2)) = w22 at n0_ n1_ n2_ n3_ n4_ n5_ ⊢
         have HO_266000 := n0_
         have BK263 := n1_
         have BK264 := n2_
         have BK265 := n3_
         have BK267 := n4_
         have HB := n5_
         clear n0_ n1_ n2_ n3_ n4_ n5_
         have n0_ := Aside0.mk (S_drew HO_266000.out)
         have n1_ := Aside0.mk (blk_drew BK263.out)
         have n2_ := Aside0.mk (blk_drew BK264.out)
         have n3_ := Aside0.mk (blk_drew BK265.out)
         have n4_ := Aside0.mk (blk_drew BK267.out)
         have n5_ := Aside0.mk (below_drew1 HB.out)
         clear HO_266000
         clear BK263
         clear BK264
         clear BK265
         clear BK267
         clear HB
         have HO_266000 := n0_
         have BK263 := n1_
         have BK264 := n2_
         have BK265 := n3_
         have BK267 := n4_
         have HB := n5_
         clear n0_ n1_ n2_ n3_ n4_ n5_
         refine start_ (n := 17) (S := fun w' => w'.cell? ⟨gb265, 0, none⟩ = some (.slice Ao21 x266000_1.length co21) ∧ w'.cell? ⟨gb267, 0, none⟩ = some (.string ((rd_T74 l0_0 x10_1).f0)) ∧ w'.cell? ⟨gb267, 1, none⟩ = some (.slice A266_1 ((rd_T74 l0_0 x10_1).f1).length c266_1) ∧ w'.cell? ⟨gb267, 2, none⟩ = some (.slice A266_2 ((rd_T74 l0_0 x10_1).f2).length c266_2)) (ds := [16]) #[false, false, false, false, false, false, false, false, false, false, false, false, false, false, false, false, false] (by kernel_rfl) rfl rfl ⟨(blk_cell BK265.out 0).trans rfl, (blk_cell BK267.out 0).trans rfl, (blk_cell BK267.out 1).trans rfl, (blk_cell BK267.out 2).trans rfl⟩ (fun hHeld => ?_); refine with_tabW impl_copyDisk.tab5 impl_copyDisk.bits5 (fun HT_ HW_ => ?_)
         generalize w22.drew = w23 at HO_266000 BK263 BK264 BK265 BK267 HB hHeld ⊢
         refine pure_ (i := 0) (N := some 14) (v := ?_) (a' := ?_) #[true, false, false, false, false, false, false, false, false, false, false, false, false, false, false, false, false] rfl rfl (any_of HT_.out (by kernel_rfl)) (fun _ _ _ h => h) (Or.inl ⟨by rfl, ?_⟩) ?_ ?_
         rotate_left
         ·
          intro w'
          go_simp
          with_reducible rfl
         rotate_left
         ·
          simp only [Act.put, List.setIfInBounds_toArray, List.set_cons_zero, List.set_cons_succ, i64_w, i32_w]
          rfl
         refine pure_ (i := 2) (N := some 16) (v := ?_) (a' := ?_) #[true, false, true, false, false, false, false, false, false, false, false, false, false, false, false, false, false] rfl rfl (any_of HT_.out (by kernel_rfl)) (fun _ _ _ h => h) (Or.inl ⟨by rfl, ?_⟩) ?_ ?_
         rotate_left
         ·
          intro w'
          go_simp
          with_reducible rfl
         rotate_left
         ·
          simp only [Act.put, List.setIfInBounds_toArray, List.set_cons_zero, List.set_cons_succ, i64_w, i32_w]
          rfl
         refine pure_ (i := 5) (N := some 19) (v := ?_) (a' := ?_) #[true, false, true, false, false, true, false, false, false, false, false, false, false, false, false, false, false] rfl rfl (any_of HT_.out (by kernel_rfl)) (fun _ _ _ h => h) (Or.inl ⟨by rfl, ?_⟩) ?_ ?_
         rotate_left
         ·
          intro w'
          go_simp
          with_reducible rfl
         rotate_left
         ·
          simp only [Act.put, List.setIfInBounds_toArray, List.set_cons_zero, List.set_cons_succ, i64_w, i32_w]
          rfl
         refine pure_ (i := 9) (N := some 23) (v := ?_) (a' := ?_) #[true, false, true, false, false, true, false, false, false, true, false, false, false, false, false, false, false] rfl rfl (any_of HT_.out (by kernel_rfl)) (fun _ _ _ h => h) (Or.inl ⟨by rfl, ?_⟩) ?_ ?_
         rotate_left
         ·
          intro w'
          go_simp
          with_reducible rfl
         rotate_left
         ·
          simp only [Act.put, List.setIfInBounds_toArray, List.set_cons_zero, List.set_cons_succ, i64_w, i32_w]
          rfl
         refine take_ (i := 1) (N := some 15) (v := ?_) (a' := ?_) #[true, true, true, false, false, true, false, false, false, true, false, false, false, false, false, false, false] rfl rfl (take_ofW HT_.out HW_.out (by kernel_rfl)) (fun _ _ _ h => h) (Or.inl ⟨by rfl, ?_⟩) hHeld ?_ ?_
         rotate_left
         ·
          rintro w' ⟨s0, s1, s2, s3⟩
          go_simp
          with_reducible rfl
         rotate_left
         ·
          simp only [Act.put, List.setIfInBounds_toArray, List.set_cons_zero, List.set_cons_succ, i64_w, i32_w]
          rfl
         refine take_ (i := 3) (N := some 17) (v := ?_) (a' := ?_) #[true, true, true, true, false, true, false, false, false, true, false, false, false, false, false, false, false] rfl rfl (take_ofW HT_.out HW_.out (by kernel_rfl)) (fun _ _ _ h => h) (Or.inl ⟨by rfl, ?_⟩) hHeld ?_ ?_
         rotate_left
         ·
          rintro w' ⟨s0, s1, s2, s3⟩
          go_simp
          with_reducible rfl
         rotate_left
         ·
          simp only [Act.put, List.setIfInBounds_toArray, List.set_cons_zero, List.set_cons_succ, i64_w, i32_w]
          rfl
         refine take_ (i := 6) (N := some 20) (v := ?_) (a' := ?_) #[true, true, true, true, false, true, true, false, false, true, false, false, false, false, false, false, false] rfl rfl (take_ofW HT_.out HW_.out (by kernel_rfl)) (fun _ _ _ h => h) (Or.inl ⟨by rfl, ?_⟩) hHeld ?_ ?_
         rotate_left
         ·
          rintro w' ⟨s0, s1, s2, s3⟩
          go_simp
          with_reducible rfl
         rotate_left
         ·
          simp only [Act.put, List.setIfInBounds_toArray, List.set_cons_zero, List.set_cons_succ, i64_w, i32_w]
          rfl
         refine take_ (i := 10) (N := some 24) (v := ?_) (a' := ?_) #[true, true, true, true, false, true, true, false, false, true, true, false, false, false, false, false, false] rfl rfl (take_ofW HT_.out HW_.out (by kernel_rfl)) (fun _ _ _ h => h) (Or.inl ⟨by rfl, ?_⟩) hHeld ?_ ?_
         rotate_left
         ·
          rintro w' ⟨s0, s1, s2, s3⟩
          go_simp
          with_reducible rfl
         rotate_left
         ·
          simp only [Act.put, List.setIfInBounds_toArray, List.set_cons_zero, List.set_cons_succ, i64_w, i32_w]
          rfl
         refine join_ (σ := Value × Value × Value) 6 #[true, true, true, true, true, true, true, true, true, true, true, false, false, false, false, false, false] (fun s_ => [(18, s_.1), (21, s_.2.1), (22, s_.2.2)]) (fun s_ w' => (w'.cell? ⟨gb265, 0, none⟩ = some (.slice Ao21 x266000_1.length co21) ∧ w'.cell? ⟨gb267, 0, none⟩ = some (.string ((rd_T74 l0_0 x10_1).f0)) ∧ w'.cell? ⟨gb267, 1, none⟩ = some (.slice A266_1 ((rd_T74 l0_0 x10_1).f1).length c266_1) ∧ w'.cell? ⟨gb267, 2, none⟩ = some (.slice A266_2 ((rd_T74 l0_0 x10_1).f2).length c266_2)) ∧ (Kd.R (Kd.int .u8) 5 w' w.heap.size (fun k_ => some k_ ≠ (s_.2.2 : Value).ownBlock) s_.2.1 y271) ∧ (Kd.R (Kd.int .u8) 5 w' w.heap.size (fun k_ => some k_ ≠ (s_.2.1 : Value).ownBlock) s_.2.2 y274) ∧ (Kd.S k74 74 w' w.heap.size (fun k_ => some k_ ≠ (s_.2.1 : Value).ownBlock ∧ some k_ ≠ (s_.2.2 : Value).ownBlock ∧ k_ ≠ gb267) (.slice Ao21 x266000_1.length co21) x266000_1) ∧ (w'.heap[gb263]? = some (.cells #[.slice (some ad266) l0_0.length c0_0] 29 (0, 0))) ∧ (w'.heap[gb264]? = some (.cells #[.slice none 0 0] 29 (0, 0))) ∧ (w'.heap[gb265]? = some (.cells #[.slice Ao21 x266000_1.length co21] 29 (0, 0))) ∧ (w'.heap[gb267]? = some (.cells #[.string ((rd_T74 l0_0 x10_1).f0), .slice A266_1 ((rd_T74 l0_0 x10_1).f1).length c266_1, .slice A266_2 ((rd_T74 l0_0 x10_1).f2).length c266_2] 74 (0, 0))) ∧ (Below w.heap.size w w')) ?_ ?_
         rotate_left
         ·
          intro hCont
          refine two_ (i := 4) (j := 8) (Ni := some 18) (Nj := some 22) #[true, true, true, true, true, true, true, false, false, true, true, false, false, false, false, false, false] #[true, true, true, true, false, true, true, false, true, true, true, false, false, false, false, false, false] rfl rfl rfl rfl (two_of HT_.out (by kernel_rfl)) (by decide) (by decide) (fun K hK => ?_) (fun K hK => ?_)
          ·
           skip
           refine R_lit_step (Kd.int .u8) _ 5 ?hg (N := 18) ?hd (xs := ([] : List Int)) (inner := []) (ok := fun _ => True) (okp := fun _ => True) ?hr ?hp (fun _ hk => hk) trivial (Below.refl _ _) (Nat.le_refl _) (by simp) ?_; (case hd => rfl); (case hg => rfl); (case hr => first | (go_simp; done) | (go_simp; rfl)); (case hp => exact (Reps.none _ _))
           intro v269 w24 ho25 hb hg_ hnew_
           clear hg_ hnew_
           (first | rw [← Ny268.out] at ho25 | (simp only [Int.reduceToNat] at ho25; rw [← Ny268.out] at ho25))
           have n0_ := Aside0.mk (S_elder' (by (with_reducible repeat (first | apply S_alloc | apply S_drewN | apply S_drew)); exact HO_266000.out) (R_base ho25) hb)
           have n1_ := Aside0.mk (R_lower ho25 (below_size (by repeat (first | (with_reducible first | exact HB.out | apply below_alloc | apply pw_below_drewN | apply below_drew1 | refine below_set ?_ GE263.out | refine below_set ?_ GE264.out | refine below_set ?_ GE265.out | refine below_set ?_ GE267.out) | exact HB.out))))
           have n2_ := Aside0.mk (blk_below (g := gb263) (o := .cells #[.slice (some ad266) l0_0.length c0_0] 29 (0, 0)) (by (with_reducible repeat (first | refine blk_drewN ?_ _ | refine blk_drew ?_ | refine blk_alloc ?_ _)); exact BK263.out) hb)
           have n3_ := Aside0.mk (blk_below (g := gb264) (o := .cells #[.slice none 0 0] 29 (0, 0)) (by (with_reducible repeat (first | refine blk_drewN ?_ _ | refine blk_drew ?_ | refine blk_alloc ?_ _)); exact BK264.out) hb)
           have n4_ := Aside0.mk (blk_below (g := gb265) (o := .cells #[.slice Ao21 x266000_1.length co21] 29 (0, 0)) (by (with_reducible repeat (first | refine blk_drewN ?_ _ | refine blk_drew ?_ | refine blk_alloc ?_ _)); exact BK265.out) hb)
           have n5_ := Aside0.mk (blk_below (g := gb267) (o := .cells #[.string ((rd_T74 l0_0 x10_1).f0), .slice A266_1 ((rd_T74 l0_0 x10_1).f1).length c266_1, .slice A266_2 ((rd_T74 l0_0 x10_1).f2).length c266_2] 74 (0, 0)) (by (with_reducible repeat (first | refine blk_drewN ?_ _ | refine blk_drew ?_ | refine blk_alloc ?_ _)); exact BK267.out) hb)
           have n6_ := Aside0.mk (below_step (by repeat (first | (with_reducible first | exact HB.out | apply below_alloc | apply pw_below_drewN | apply below_drew1 | refine below_set ?_ GE263.out | refine below_set ?_ GE264.out | refine below_set ?_ GE265.out | refine below_set ?_ GE267.out) | exact HB.out)) hb)
           clear HO_266000
           clear BK263
           clear BK264
           clear BK265
           clear BK267
           clear HB
           have HO_266000 := n0_
           have HO270 := n1_
           have BK263 := n2_
           have BK264 := n3_
           have BK265 := n4_
           have BK267 := n5_
           have HB := n6_
           clear n0_ n1_ n2_ n3_ n4_ n5_ n6_
           clear hb ho25
           refine hK.out _ _ ⟨(blk_cell BK265.out 0).trans rfl, (blk_cell BK267.out 0).trans rfl, (blk_cell BK267.out 1).trans rfl, (blk_cell BK267.out 2).trans rfl⟩ (fun hHeld => ?_)
           clear hK K
           refine norm_ (a' := ?_) ?_ ?_
           rotate_left
           ·
            show Act.put _ (some 18) _ = _
            simp only [Act.put, List.setIfInBounds_toArray, List.set_cons_zero, List.set_cons_succ, i64_w, i32_w]
            rfl
           refine two_ (i := 7) (j := 8) (Ni := some 21) (Nj := some 22) #[true, true, true, true, true, true, true, true, false, true, true, false, false, false, false, false, false] #[true, true, true, true, true, true, true, false, true, true, true, false, false, false, false, false, false] rfl rfl rfl rfl (two_of HT_.out (by kernel_rfl)) (by decide) (by decide) (fun K hK => ?_) (fun K hK => ?_)
           ·
            skip
            refine R_append_rows_step (Kd.int .u8) (w0 := w) w.heap.size (by rfl) (.tmp 18) (.tmp 20) 33 5 (.int .u8 0) 1 rfl Tryd.underlying33 info5 rfl (by decide) (by omega) v269 y268 ((rd_T74 l0_0 x10_1).f1) _ _ _ (fun _ => True) (fun _ => False) rfl rfl ?aO ?aR (fun _ _ h => h) (fun _ h => h.elim) ?aF ?aB ?aS ?aL ?_
            (case aR => repeat (first | exact (C_below HR266_1.out HB.out) | (with_reducible refine C_alloc ?_ _) | (with_reducible refine C_drewN ?_ _) | (with_reducible refine C_drew ?_)))
            (case aB => exact (by repeat (first | (with_reducible first | exact HB.out | apply below_alloc | apply pw_below_drewN | apply below_drew1 | refine below_set ?_ GE263.out | refine below_set ?_ GE264.out | refine below_set ?_ GE265.out | refine below_set ?_ GE267.out) | exact HB.out)))
            (case aF => exact (fun _ _ => trivial))
            (case aO => exact (by (with_reducible repeat (first | apply R_alloc | apply R_drewN | apply R_drew)); exact HO270.out))
            (case aS => exact (below_size (by repeat (first | (with_reducible first | exact HB.out | apply below_alloc | apply pw_below_drewN | apply below_drew1 | refine below_set ?_ GE263.out | refine below_set ?_ GE264.out | refine below_set ?_ GE265.out | refine below_set ?_ GE267.out) | exact HB.out))))
            (case aL => have := LMc13.out; omega)
            intro v272 w26 ho hb hg hat
            rw [← Ny271.out] at ho
            have n0_ := Aside0.mk (S_after (ok := (fun k_ => k_ ≠ gb267)) (by (with_reducible repeat (first | apply S_alloc | apply S_drewN | apply S_drew)); exact HO_266000.out) hg hat)
            have n1_ := Aside0.mk (blk_grown (g := gb263) (o := .cells #[.slice (some ad266) l0_0.length c0_0] 29 (0, 0)) (by (with_reducible repeat (first | refine blk_drewN ?_ _ | refine blk_drew ?_ | refine blk_alloc ?_ _)); exact BK263.out) hg (R_ne HO270.out BK263.out (by decide)))
            have n2_ := Aside0.mk (blk_grown (g := gb264) (o := .cells #[.slice none 0 0] 29 (0, 0)) (by (with_reducible repeat (first | refine blk_drewN ?_ _ | refine blk_drew ?_ | refine blk_alloc ?_ _)); exact BK264.out) hg (R_ne HO270.out BK264.out (by decide)))
            have n3_ := Aside0.mk (blk_grown (g := gb265) (o := .cells #[.slice Ao21 x266000_1.length co21] 29 (0, 0)) (by (with_reducible repeat (first | refine blk_drewN ?_ _ | refine blk_drew ?_ | refine blk_alloc ?_ _)); exact BK265.out) hg (R_ne HO270.out BK265.out (by decide)))
            have n4_ := Aside0.mk (blk_grown (g := gb267) (o := .cells #[.string ((rd_T74 l0_0 x10_1).f0), .slice A266_1 ((rd_T74 l0_0 x10_1).f1).length c266_1, .slice A266_2 ((rd_T74 l0_0 x10_1).f2).length c266_2] 74 (0, 0)) (by (with_reducible repeat (first | refine blk_drewN ?_ _ | refine blk_drew ?_ | refine blk_alloc ?_ _)); exact BK267.out) hg (R_ne HO270.out BK267.out (by decide)))
            have n5_ := Aside0.mk (hb)
            have n6_ := Aside0.mk (ho)
            clear HO_266000
            clear BK263
            clear BK264
            clear BK265
            clear BK267
            clear HB
            clear HO270
            have HO_266000 := n0_
            have BK263 := n1_
            have BK264 := n2_
            have BK265 := n3_
            have BK267 := n4_
            have HB := n5_
            have HO273 := n6_
            clear n0_ n1_ n2_ n3_ n4_ n5_ n6_
            clear ho hb hg hat
            refine hK.out _ _ ⟨(blk_cell BK265.out 0).trans rfl, (blk_cell BK267.out 0).trans rfl, (blk_cell BK267.out 1).trans rfl, (blk_cell BK267.out 2).trans rfl⟩ (fun hHeld => ?_)
            clear hK K
            refine norm_ (a' := ?_) ?_ ?_
            rotate_left
            ·
             show Act.put _ (some 21) _ = _
             simp only [Act.put, List.setIfInBounds_toArray, List.set_cons_zero, List.set_cons_succ, i64_w, i32_w]
             rfl
            refine one_ (i := 8) (N := some 22) #[true, true, true, true, true, true, true, true, true, true, true, false, false, false, false, false, false] rfl rfl (one_of HT_.out (by kernel_rfl)) (by decide) (fun K hK => ?_)
            refine R_lit_step (Kd.int .u8) _ 5 ?hg (N := 22) ?hd (xs := ([] : List Int)) (inner := []) (ok := fun _ => True) (okp := fun _ => True) ?hr ?hp (fun _ hk => hk) trivial (Below.refl _ _) (Nat.le_refl _) (by simp) ?_; (case hd => rfl); (case hg => rfl); (case hr => first | (go_simp; done) | (go_simp; rfl)); (case hp => exact (Reps.none _ _))
            intro v275 w27 ho28 hb hg_ hnew_
            clear hg_ hnew_
            (first | rw [← Ny274.out] at ho28 | (simp only [Int.reduceToNat] at ho28; rw [← Ny274.out] at ho28))
            have n0_ := Aside0.mk (S_elder' (by (with_reducible repeat (first | apply S_alloc | apply S_drewN | apply S_drew)); exact HO_266000.out) (R_base ho28) hb)
            have n1_ := Aside0.mk (R_elder' (by (with_reducible repeat (first | apply R_alloc | apply R_drewN | apply R_drew)); exact HO273.out) (R_base ho28) hb)
            have n2_ := Aside0.mk (R_lower (R_new' ho28 (R_lt (by (with_reducible repeat (first | apply R_alloc | apply R_drewN | apply R_drew)); exact HO273.out))) (below_size (by repeat (first | (with_reducible first | exact HB.out | apply below_alloc | apply pw_below_drewN | apply below_drew1 | refine below_set ?_ GE263.out | refine below_set ?_ GE264.out | refine below_set ?_ GE265.out | refine below_set ?_ GE267.out) | exact HB.out))))
            have n3_ := Aside0.mk (blk_below (g := gb263) (o := .cells #[.slice (some ad266) l0_0.length c0_0] 29 (0, 0)) (by (with_reducible repeat (first | refine blk_drewN ?_ _ | refine blk_drew ?_ | refine blk_alloc ?_ _)); exact BK263.out) hb)
            have n4_ := Aside0.mk (blk_below (g := gb264) (o := .cells #[.slice none 0 0] 29 (0, 0)) (by (with_reducible repeat (first | refine blk_drewN ?_ _ | refine blk_drew ?_ | refine blk_alloc ?_ _)); exact BK264.out) hb)
            have n5_ := Aside0.mk (blk_below (g := gb265) (o := .cells #[.slice Ao21 x266000_1.length co21] 29 (0, 0)) (by (with_reducible repeat (first | refine blk_drewN ?_ _ | refine blk_drew ?_ | refine blk_alloc ?_ _)); exact BK265.out) hb)
            have n6_ := Aside0.mk (blk_below (g := gb267) (o := .cells #[.string ((rd_T74 l0_0 x10_1).f0), .slice A266_1 ((rd_T74 l0_0 x10_1).f1).length c266_1, .slice A266_2 ((rd_T74 l0_0 x10_1).f2).length c266_2] 74 (0, 0)) (by (with_reducible repeat (first | refine blk_drewN ?_ _ | refine blk_drew ?_ | refine blk_alloc ?_ _)); exact BK267.out) hb)
            have n7_ := Aside0.mk (below_step (by repeat (first | (with_reducible first | exact HB.out | apply below_alloc | apply pw_below_drewN | apply below_drew1 | refine below_set ?_ GE263.out | refine below_set ?_ GE264.out | refine below_set ?_ GE265.out | refine below_set ?_ GE267.out) | exact HB.out)) hb)
            clear HO_266000
            clear HO273
            clear BK263
            clear BK264
            clear BK265
            clear BK267
            clear HB
            have HO_266000 := n0_
            have HO273 := n1_
            have HO276 := n2_
            have BK263 := n3_
            have BK264 := n4_
            have BK265 := n5_
            have BK267 := n6_
            have HB := n7_
            clear n0_ n1_ n2_ n3_ n4_ n5_ n6_ n7_
            clear hb ho28
            refine hK.out _ _ ⟨(blk_cell BK265.out 0).trans rfl, (blk_cell BK267.out 0).trans rfl, (blk_cell BK267.out 1).trans rfl, (blk_cell BK267.out 2).trans rfl⟩ (fun hHeld => ?_)
            clear hK K
            refine norm_ (a' := ?_) ?_ ?_
            rotate_left
            ·
             show Act.put _ (some 22) _ = _
             simp only [Act.put, List.setIfInBounds_toArray, List.set_cons_zero, List.set_cons_succ, i64_w, i32_w]
             rfl
            exact norm_ (by simp only [putAll, Act.put, List.setIfInBounds_toArray, List.set_cons_zero, List.set_cons_succ]) (hCont (v269, v272, v275) _ ⟨hHeld, (by (with_reducible repeat (first | apply R_alloc | apply R_drewN | apply R_drew)); exact R_mono HO273.out (fun _ hk => hk.2)), (by (with_reducible repeat (first | apply R_alloc | apply R_drewN | apply R_drew)); exact R_mono HO276.out (fun _ hk => hk.2)), (by (with_reducible repeat (first | apply S_alloc | apply S_drewN | apply S_drew)); exact S_mono HO_266000.out (fun _ hk => ⟨hk.1.2, ⟨hk.2, hk.1.1⟩⟩)), (by (with_reducible repeat (first | refine blk_drewN ?_ _ | refine blk_drew ?_ | refine blk_alloc ?_ _)); exact BK263.out), (by (with_reducible repeat (first | refine blk_drewN ?_ _ | refine blk_drew ?_ | refine blk_alloc ?_ _)); exact BK264.out), (by (with_reducible repeat (first | refine blk_drewN ?_ _ | refine blk_drew ?_ | refine blk_alloc ?_ _)); exact BK265.out), (by (with_reducible repeat (first | refine blk_drewN ?_ _ | refine blk_drew ?_ | refine blk_alloc ?_ _)); exact BK267.out), (by repeat (first | (with_reducible first | exact HB.out | apply below_alloc | apply pw_below_drewN | apply below_drew1 | refine below_set ?_ GE263.out | refine below_set ?_ GE264.out | refine below_set ?_ GE265.out | refine below_set ?_ GE267.out) | exact HB.out))⟩)
           ·
            skip
            refine R_lit_step (Kd.int .u8) _ 5 ?hg (N := 22) ?hd (xs := ([] : List Int)) (inner := []) (ok := fun _ => True) (okp := fun _ => True) ?hr ?hp (fun _ hk => hk) trivial (Below.refl _ _) (Nat.le_refl _) (by simp) ?_; (case hd => rfl); (case hg => rfl); (case hr => first | (go_simp; done) | (go_simp; rfl)); (case hp => exact (Reps.none _ _))
            intro v275 w26 ho27 hb hg_ hnew_
            clear hg_ hnew_
            (first | rw [← Ny274.out] at ho27 | (simp only [Int.reduceToNat] at ho27; rw [← Ny274.out] at ho27))
            have n0_ := Aside0.mk (S_elder' (by (with_reducible repeat (first | apply S_alloc | apply S_drewN | apply S_drew)); exact HO_266000.out) (R_base ho27) hb)
            have n1_ := Aside0.mk (R_elder' (by (with_reducible repeat (first | apply R_alloc | apply R_drewN | apply R_drew)); exact HO270.out) (R_base ho27) hb)
            have n2_ := Aside0.mk (R_lower (R_new' ho27 (R_lt (by (with_reducible repeat (first | apply R_alloc | apply R_drewN | apply R_drew)); exact HO270.out))) (below_size (by repeat (first | (with_reducible first | exact HB.out | apply below_alloc | apply pw_below_drewN | apply below_drew1 | refine below_set ?_ GE263.out | refine below_set ?_ GE264.out | refine below_set ?_ GE265.out | refine below_set ?_ GE267.out) | exact HB.out))))
            have n3_ := Aside0.mk (blk_below (g := gb263) (o := .cells #[.slice (some ad266) l0_0.length c0_0] 29 (0, 0)) (by (with_reducible repeat (first | refine blk_drewN ?_ _ | refine blk_drew ?_ | refine blk_alloc ?_ _)); exact BK263.out) hb)
            have n4_ := Aside0.mk (blk_below (g := gb264) (o := .cells #[.slice none 0 0] 29 (0, 0)) (by (with_reducible repeat (first | refine blk_drewN ?_ _ | refine blk_drew ?_ | refine blk_alloc ?_ _)); exact BK264.out) hb)
            have n5_ := Aside0.mk (blk_below (g := gb265) (o := .cells #[.slice Ao21 x266000_1.length co21] 29 (0, 0)) (by (with_reducible repeat (first | refine blk_drewN ?_ _ | refine blk_drew ?_ | refine blk_alloc ?_ _)); exact BK265.out) hb)
            have n6_ := Aside0.mk (blk_below (g := gb267) (o := .cells #[.string ((rd_T74 l0_0 x10_1).f0), .slice A266_1 ((rd_T74 l0_0 x10_1).f1).length c266_1, .slice A266_2 ((rd_T74 l0_0 x10_1).f2).length c266_2] 74 (0, 0)) (by (with_reducible repeat (first | refine blk_drewN ?_ _ | refine blk_drew ?_ | refine blk_alloc ?_ _)); exact BK267.out) hb)
            have n7_ := Aside0.mk (below_step (by repeat (first | (with_reducible first | exact HB.out | apply below_alloc | apply pw_below_drewN | apply below_drew1 | refine below_set ?_ GE263.out | refine below_set ?_ GE264.out | refine below_set ?_ GE265.out | refine below_set ?_ GE267.out) | exact HB.out)) hb)
            clear HO_266000
            clear HO270
            clear BK263
            clear BK264
            clear BK265
            clear BK267
            clear HB
            have HO_266000 := n0_
            have HO270 := n1_
            have HO276 := n2_
            have BK263 := n3_
            have BK264 := n4_
            have BK265 := n5_
            have BK267 := n6_
            have HB := n7_
            clear n0_ n1_ n2_ n3_ n4_ n5_ n6_ n7_
            clear hb ho27
            refine hK.out _ _ ⟨(blk_cell BK265.out 0).trans rfl, (blk_cell BK267.out 0).trans rfl, (blk_cell BK267.out 1).trans rfl, (blk_cell BK267.out 2).trans rfl⟩ (fun hHeld => ?_)
            clear hK K
            refine norm_ (a' := ?_) ?_ ?_
            rotate_left
            ·
             show Act.put _ (some 22) _ = _
             simp only [Act.put, List.setIfInBounds_toArray, List.set_cons_zero, List.set_cons_succ, i64_w, i32_w]
             rfl
            refine one_ (i := 7) (N := some 21) #[true, true, true, true, true, true, true, true, true, true, true, false, false, false, false, false, false] rfl rfl (one_of HT_.out (by kernel_rfl)) (by decide) (fun K hK => ?_)
            refine R_append_rows_step (Kd.int .u8) (w0 := w) w.heap.size (by rfl) (.tmp 18) (.tmp 20) 33 5 (.int .u8 0) 1 rfl Tryd.underlying33 info5 rfl (by decide) (by omega) v269 y268 ((rd_T74 l0_0 x10_1).f1) _ _ _ (fun k_ => some k_ ≠ (v275 : Value).ownBlock) (fun _ => False) rfl rfl ?aO ?aR (fun _ _ h => h) (fun _ h => h.elim) ?aF ?aB ?aS ?aL ?_
            (case aR => repeat (first | exact (C_below HR266_1.out HB.out) | (with_reducible refine C_alloc ?_ _) | (with_reducible refine C_drewN ?_ _) | (with_reducible refine C_drew ?_)))
            (case aB => exact (by repeat (first | (with_reducible first | exact HB.out | apply below_alloc | apply pw_below_drewN | apply below_drew1 | refine below_set ?_ GE263.out | refine below_set ?_ GE264.out | refine below_set ?_ GE265.out | refine below_set ?_ GE267.out) | exact HB.out)))
            (case aF => exact (fun k_ hk => Kd.fresh' (R_lt (by (with_reducible repeat (first | apply R_alloc | apply R_drewN | apply R_drew)); exact HO276.out)) k_ hk))
            (case aO => exact (by (with_reducible repeat (first | apply R_alloc | apply R_drewN | apply R_drew)); exact R_mono HO270.out (fun _ hk => hk.2)))
            (case aS => exact (below_size (by repeat (first | (with_reducible first | exact HB.out | apply below_alloc | apply pw_below_drewN | apply below_drew1 | refine below_set ?_ GE263.out | refine below_set ?_ GE264.out | refine below_set ?_ GE265.out | refine below_set ?_ GE267.out) | exact HB.out))))
            (case aL => have := LMc13.out; omega)
            intro v272 w28 ho hb hg hat
            rw [← Ny271.out] at ho
            have n0_ := Aside0.mk (S_after (ok := (fun k_ => some k_ ≠ (v275 : Value).ownBlock ∧ k_ ≠ gb267)) (by (with_reducible repeat (first | apply S_alloc | apply S_drewN | apply S_drew)); exact S_mono HO_266000.out (fun _ hk => ⟨⟨hk.2, hk.1.1⟩, hk.1.2⟩)) hg hat)
            have n1_ := Aside0.mk (blk_grown (g := gb263) (o := .cells #[.slice (some ad266) l0_0.length c0_0] 29 (0, 0)) (by (with_reducible repeat (first | refine blk_drewN ?_ _ | refine blk_drew ?_ | refine blk_alloc ?_ _)); exact BK263.out) hg (R_ne HO270.out BK263.out (by decide)))
            have n2_ := Aside0.mk (blk_grown (g := gb264) (o := .cells #[.slice none 0 0] 29 (0, 0)) (by (with_reducible repeat (first | refine blk_drewN ?_ _ | refine blk_drew ?_ | refine blk_alloc ?_ _)); exact BK264.out) hg (R_ne HO270.out BK264.out (by decide)))
            have n3_ := Aside0.mk (blk_grown (g := gb265) (o := .cells #[.slice Ao21 x266000_1.length co21] 29 (0, 0)) (by (with_reducible repeat (first | refine blk_drewN ?_ _ | refine blk_drew ?_ | refine blk_alloc ?_ _)); exact BK265.out) hg (R_ne HO270.out BK265.out (by decide)))
            have n4_ := Aside0.mk (blk_grown (g := gb267) (o := .cells #[.string ((rd_T74 l0_0 x10_1).f0), .slice A266_1 ((rd_T74 l0_0 x10_1).f1).length c266_1, .slice A266_2 ((rd_T74 l0_0 x10_1).f2).length c266_2] 74 (0, 0)) (by (with_reducible repeat (first | refine blk_drewN ?_ _ | refine blk_drew ?_ | refine blk_alloc ?_ _)); exact BK267.out) hg (R_ne HO270.out BK267.out (by decide)))
            have n5_ := Aside0.mk (R_after (ok := (fun _ => True)) (by (with_reducible repeat (first | apply R_alloc | apply R_drewN | apply R_drew)); exact HO276.out) hg hat)
            have n6_ := Aside0.mk (hb)
            have n7_ := Aside0.mk (ho)
            clear HO_266000
            clear BK263
            clear BK264
            clear BK265
            clear BK267
            clear HO276
            clear HB
            clear HO270
            have HO_266000 := n0_
            have BK263 := n1_
            have BK264 := n2_
            have BK265 := n3_
            have BK267 := n4_
            have HO276 := n5_
            have HB := n6_
            have HO273 := n7_
            clear n0_ n1_ n2_ n3_ n4_ n5_ n6_ n7_
            clear ho hb hg hat
            refine hK.out _ _ ⟨(blk_cell BK265.out 0).trans rfl, (blk_cell BK267.out 0).trans rfl, (blk_cell BK267.out 1).trans rfl, (blk_cell BK267.out 2).trans rfl⟩ (fun hHeld => ?_)
            clear hK K
            refine norm_ (a' := ?_) ?_ ?_
            rotate_left
            ·
             show Act.put _ (some 21) _ = _
             simp only [Act.put, List.setIfInBounds_toArray, List.set_cons_zero, List.set_cons_succ, i64_w, i32_w]
             rfl
            exact norm_ (by simp only [putAll, Act.put, List.setIfInBounds_toArray, List.set_cons_zero, List.set_cons_succ]) (hCont (v269, v272, v275) _ ⟨hHeld, (by (with_reducible repeat (first | apply R_alloc | apply R_drewN | apply R_drew)); exact HO273.out), (by (with_reducible repeat (first | apply R_alloc | apply R_drewN | apply R_drew)); exact R_mono HO276.out (fun _ hk => hk.2)), (by (with_reducible repeat (first | apply S_alloc | apply S_drewN | apply S_drew)); exact S_mono HO_266000.out (fun _ hk => ⟨hk.2, ⟨hk.1.1, hk.1.2⟩⟩)), (by (with_reducible repeat (first | refine blk_drewN ?_ _ | refine blk_drew ?_ | refine blk_alloc ?_ _)); exact BK263.out), (by (with_reducible repeat (first | refine blk_drewN ?_ _ | refine blk_drew ?_ | refine blk_alloc ?_ _)); exact BK264.out), (by (with_reducible repeat (first | refine blk_drewN ?_ _ | refine blk_drew ?_ | refine blk_alloc ?_ _)); exact BK265.out), (by (with_reducible repeat (first | refine blk_drewN ?_ _ | refine blk_drew ?_ | refine blk_alloc ?_ _)); exact BK267.out), (by repeat (first | (with_reducible first | exact HB.out | apply below_alloc | apply pw_below_drewN | apply below_drew1 | refine below_set ?_ GE263.out | refine below_set ?_ GE264.out | refine below_set ?_ GE265.out | refine below_set ?_ GE267.out) | exact HB.out))⟩)
          ·
           skip
           refine R_lit_step (Kd.int .u8) _ 5 ?hg (N := 22) ?hd (xs := ([] : List Int)) (inner := []) (ok := fun _ => True) (okp := fun _ => True) ?hr ?hp (fun _ hk => hk) trivial (Below.refl _ _) (Nat.le_refl _) (by simp) ?_; (case hd => rfl); (case hg => rfl); (case hr => first | (go_simp; done) | (go_simp; rfl)); (case hp => exact (Reps.none _ _))
           intro v275 w24 ho25 hb hg_ hnew_
           clear hg_ hnew_
           (first | rw [← Ny274.out] at ho25 | (simp only [Int.reduceToNat] at ho25; rw [← Ny274.out] at ho25))
           have n0_ := Aside0.mk (S_elder' (by (with_reducible repeat (first | apply S_alloc | apply S_drewN | apply S_drew)); exact HO_266000.out) (R_base ho25) hb)
           have n1_ := Aside0.mk (R_lower ho25 (below_size (by repeat (first | (with_reducible first | exact HB.out | apply below_alloc | apply pw_below_drewN | apply below_drew1 | refine below_set ?_ GE263.out | refine below_set ?_ GE264.out | refine below_set ?_ GE265.out | refine below_set ?_ GE267.out) | exact HB.out))))
           have n2_ := Aside0.mk (blk_below (g := gb263) (o := .cells #[.slice (some ad266) l0_0.length c0_0] 29 (0, 0)) (by (with_reducible repeat (first | refine blk_drewN ?_ _ | refine blk_drew ?_ | refine blk_alloc ?_ _)); exact BK263.out) hb)
           have n3_ := Aside0.mk (blk_below (g := gb264) (o := .cells #[.slice none 0 0] 29 (0, 0)) (by (with_reducible repeat (first | refine blk_drewN ?_ _ | refine blk_drew ?_ | refine blk_alloc ?_ _)); exact BK264.out) hb)
           have n4_ := Aside0.mk (blk_below (g := gb265) (o := .cells #[.slice Ao21 x266000_1.length co21] 29 (0, 0)) (by (with_reducible repeat (first | refine blk_drewN ?_ _ | refine blk_drew ?_ | refine blk_alloc ?_ _)); exact BK265.out) hb)
           have n5_ := Aside0.mk (blk_below (g := gb267) (o := .cells #[.string ((rd_T74 l0_0 x10_1).f0), .slice A266_1 ((rd_T74 l0_0 x10_1).f1).length c266_1, .slice A266_2 ((rd_T74 l0_0 x10_1).f2).length c266_2] 74 (0, 0)) (by (with_reducible repeat (first | refine blk_drewN ?_ _ | refine blk_drew ?_ | refine blk_alloc ?_ _)); exact BK267.out) hb)
           have n6_ := Aside0.mk (below_step (by repeat (first | (with_reducible first | exact HB.out | apply below_alloc | apply pw_below_drewN | apply below_drew1 | refine below_set ?_ GE263.out | refine below_set ?_ GE264.out | refine below_set ?_ GE265.out | refine below_set ?_ GE267.out) | exact HB.out)) hb)
           clear HO_266000
           clear BK263
           clear BK264
           clear BK265
           clear BK267
           clear HB
           have HO_266000 := n0_
           have HO276 := n1_
           have BK263 := n2_
           have BK264 := n3_
           have BK265 := n4_
           have BK267 := n5_
           have HB := n6_
           clear n0_ n1_ n2_ n3_ n4_ n5_ n6_
           clear hb ho25
           refine hK.out _ _ ⟨(blk_cell BK265.out 0).trans rfl, (blk_cell BK267.out 0).trans rfl, (blk_cell BK267.out 1).trans rfl, (blk_cell BK267.out 2).trans rfl⟩ (fun hHeld => ?_)
           clear hK K
           refine norm_ (a' := ?_) ?_ ?_
           rotate_left
           ·
            show Act.put _ (some 22) _ = _
            simp only [Act.put, List.setIfInBounds_toArray, List.set_cons_zero, List.set_cons_succ, i64_w, i32_w]
            rfl
           refine one_ (i := 4) (N := some 18) #[true, true, true, true, true, true, true, false, true, true, true, false, false, false, false, false, false] rfl rfl (one_of HT_.out (by kernel_rfl)) (by decide) (fun K hK => ?_)
           refine R_lit_step (Kd.int .u8) _ 5 ?hg (N := 18) ?hd (xs := ([] : List Int)) (inner := []) (ok := fun _ => True) (okp := fun _ => True) ?hr ?hp (fun _ hk => hk) trivial (Below.refl _ _) (Nat.le_refl _) (by simp) ?_; (case hd => rfl); (case hg => rfl); (case hr => first | (go_simp; done) | (go_simp; rfl)); (case hp => exact (Reps.none _ _))
           intro v269 w26 ho27 hb hg_ hnew_
           clear hg_ hnew_
           (first | rw [← Ny268.out] at ho27 | (simp only [Int.reduceToNat] at ho27; rw [← Ny268.out] at ho27))
           have n0_ := Aside0.mk (S_elder' (by (with_reducible repeat (first | apply S_alloc | apply S_drewN | apply S_drew)); exact HO_266000.out) (R_base ho27) hb)
           have n1_ := Aside0.mk (R_elder' (by (with_reducible repeat (first | apply R_alloc | apply R_drewN | apply R_drew)); exact HO276.out) (R_base ho27) hb)
           have n2_ := Aside0.mk (R_lower (R_new' ho27 (R_lt (by (with_reducible repeat (first | apply R_alloc | apply R_drewN | apply R_drew)); exact HO276.out))) (below_size (by repeat (first | (with_reducible first | exact HB.out | apply below_alloc | apply pw_below_drewN | apply below_drew1 | refine below_set ?_ GE263.out | refine below_set ?_ GE264.out | refine below_set ?_ GE265.out | refine below_set ?_ GE267.out) | exact HB.out))))
           have n3_ := Aside0.mk (blk_below (g := gb263) (o := .cells #[.slice (some ad266) l0_0.length c0_0] 29 (0, 0)) (by (with_reducible repeat (first | refine blk_drewN ?_ _ | refine blk_drew ?_ | refine blk_alloc ?_ _)); exact BK263.out) hb)
           have n4_ := Aside0.mk (blk_below (g := gb264) (o := .cells #[.slice none 0 0] 29 (0, 0)) (by (with_reducible repeat (first | refine blk_drewN ?_ _ | refine blk_drew ?_ | refine blk_alloc ?_ _)); exact BK264.out) hb)
           have n5_ := Aside0.mk (blk_below (g := gb265) (o := .cells #[.slice Ao21 x266000_1.length co21] 29 (0, 0)) (by (with_reducible repeat (first | refine blk_drewN ?_ _ | refine blk_drew ?_ | refine blk_alloc ?_ _)); exact BK265.out) hb)
           have n6_ := Aside0.mk (blk_below (g := gb267) (o := .cells #[.string ((rd_T74 l0_0 x10_1).f0), .slice A266_1 ((rd_T74 l0_0 x10_1).f1).length c266_1, .slice A266_2 ((rd_T74 l0_0 x10_1).f2).length c266_2] 74 (0, 0)) (by (with_reducible repeat (first | refine blk_drewN ?_ _ | refine blk_drew ?_ | refine blk_alloc ?_ _)); exact BK267.out) hb)
           have n7_ := Aside0.mk (below_step (by repeat (first | (with_reducible first | exact HB.out | apply below_alloc | apply pw_below_drewN | apply below_drew1 | refine below_set ?_ GE263.out | refine below_set ?_ GE264.out | refine below_set ?_ GE265.out | refine below_set ?_ GE267.out) | exact HB.out)) hb)
           clear HO_266000
           clear HO276
           clear BK263
           clear BK264
           clear BK265
           clear BK267
           clear HB
           have HO_266000 := n0_
           have HO276 := n1_
           have HO270 := n2_
           have BK263 := n3_
           have BK264 := n4_
           have BK265 := n5_
           have BK267 := n6_
           have HB := n7_
           clear n0_ n1_ n2_ n3_ n4_ n5_ n6_ n7_
           clear hb ho27
           refine hK.out _ _ ⟨(blk_cell BK265.out 0).trans rfl, (blk_cell BK267.out 0).trans rfl, (blk_cell BK267.out 1).trans rfl, (blk_cell BK267.out 2).trans rfl⟩ (fun hHeld => ?_)
           clear hK K
           refine norm_ (a' := ?_) ?_ ?_
           rotate_left
           ·
            show Act.put _ (some 18) _ = _
            simp only [Act.put, List.setIfInBounds_toArray, List.set_cons_zero, List.set_cons_succ, i64_w, i32_w]
            rfl
           refine one_ (i := 7) (N := some 21) #[true, true, true, true, true, true, true, true, true, true, true, false, false, false, false, false, false] rfl rfl (one_of HT_.out (by kernel_rfl)) (by decide) (fun K hK => ?_)
           refine R_append_rows_step (Kd.int .u8) (w0 := w) w.heap.size (by rfl) (.tmp 18) (.tmp 20) 33 5 (.int .u8 0) 1 rfl Tryd.underlying33 info5 rfl (by decide) (by omega) v269 y268 ((rd_T74 l0_0 x10_1).f1) _ _ _ (fun k_ => some k_ ≠ (v275 : Value).ownBlock) (fun _ => False) rfl rfl ?aO ?aR (fun _ _ h => h) (fun _ h => h.elim) ?aF ?aB ?aS ?aL ?_
           (case aR => repeat (first | exact (C_below HR266_1.out HB.out) | (with_reducible refine C_alloc ?_ _) | (with_reducible refine C_drewN ?_ _) | (with_reducible refine C_drew ?_)))
           (case aB => exact (by repeat (first | (with_reducible first | exact HB.out | apply below_alloc | apply pw_below_drewN | apply below_drew1 | refine below_set ?_ GE263.out | refine below_set ?_ GE264.out | refine below_set ?_ GE265.out | refine below_set ?_ GE267.out) | exact HB.out)))
           (case aF => exact (fun k_ hk => Kd.fresh' (R_lt (by (with_reducible repeat (first | apply R_alloc | apply R_drewN | apply R_drew)); exact HO276.out)) k_ hk))
           (case aO => exact (by (with_reducible repeat (first | apply R_alloc | apply R_drewN | apply R_drew)); exact R_mono HO270.out (fun _ hk => hk.2)))
           (case aS => exact (below_size (by repeat (first | (with_reducible first | exact HB.out | apply below_alloc | apply pw_below_drewN | apply below_drew1 | refine below_set ?_ GE263.out | refine below_set ?_ GE264.out | refine below_set ?_ GE265.out | refine below_set ?_ GE267.out) | exact HB.out))))
           (case aL => have := LMc13.out; omega)
           intro v272 w28 ho hb hg hat
           rw [← Ny271.out] at ho
           have n0_ := Aside0.mk (S_after (ok := (fun k_ => some k_ ≠ (v275 : Value).ownBlock ∧ k_ ≠ gb267)) (by (with_reducible repeat (first | apply S_alloc | apply S_drewN | apply S_drew)); exact S_mono HO_266000.out (fun _ hk => ⟨⟨hk.1.2, hk.1.1⟩, hk.2⟩)) hg hat)
           have n1_ := Aside0.mk (blk_grown (g := gb263) (o := .cells #[.slice (some ad266) l0_0.length c0_0] 29 (0, 0)) (by (with_reducible repeat (first | refine blk_drewN ?_ _ | refine blk_drew ?_ | refine blk_alloc ?_ _)); exact BK263.out) hg (R_ne HO270.out BK263.out (by decide)))
           have n2_ := Aside0.mk (blk_grown (g := gb264) (o := .cells #[.slice none 0 0] 29 (0, 0)) (by (with_reducible repeat (first | refine blk_drewN ?_ _ | refine blk_drew ?_ | refine blk_alloc ?_ _)); exact BK264.out) hg (R_ne HO270.out BK264.out (by decide)))
           have n3_ := Aside0.mk (blk_grown (g := gb265) (o := .cells #[.slice Ao21 x266000_1.length co21] 29 (0, 0)) (by (with_reducible repeat (first | refine blk_drewN ?_ _ | refine blk_drew ?_ | refine blk_alloc ?_ _)); exact BK265.out) hg (R_ne HO270.out BK265.out (by decide)))
           have n4_ := Aside0.mk (blk_grown (g := gb267) (o := .cells #[.string ((rd_T74 l0_0 x10_1).f0), .slice A266_1 ((rd_T74 l0_0 x10_1).f1).length c266_1, .slice A266_2 ((rd_T74 l0_0 x10_1).f2).length c266_2] 74 (0, 0)) (by (with_reducible repeat (first | refine blk_drewN ?_ _ | refine blk_drew ?_ | refine blk_alloc ?_ _)); exact BK267.out) hg (R_ne HO270.out BK267.out (by decide)))
           have n5_ := Aside0.mk (R_after (ok := (fun _ => True)) (by (with_reducible repeat (first | apply R_alloc | apply R_drewN | apply R_drew)); exact HO276.out) hg hat)
           have n6_ := Aside0.mk (hb)
           have n7_ := Aside0.mk (ho)
           clear HO_266000
           clear BK263
           clear BK264
           clear BK265
           clear BK267
           clear HO276
           clear HB
           clear HO270
           have HO_266000 := n0_
           have BK263 := n1_
           have BK264 := n2_
           have BK265 := n3_
           have BK267 := n4_
           have HO276 := n5_
           have HB := n6_
           have HO273 := n7_
           clear n0_ n1_ n2_ n3_ n4_ n5_ n6_ n7_
           clear ho hb hg hat
           refine hK.out _ _ ⟨(blk_cell BK265.out 0).trans rfl, (blk_cell BK267.out 0).trans rfl, (blk_cell BK267.out 1).trans rfl, (blk_cell BK267.out 2).trans rfl⟩ (fun hHeld => ?_)
           clear hK K
           refine norm_ (a' := ?_) ?_ ?_
           rotate_left
           ·
            show Act.put _ (some 21) _ = _
            simp only [Act.put, List.setIfInBounds_toArray, List.set_cons_zero, List.set_cons_succ, i64_w, i32_w]
            rfl
           exact norm_ (by simp only [putAll, Act.put, List.setIfInBounds_toArray, List.set_cons_zero, List.set_cons_succ]) (hCont (v269, v272, v275) _ ⟨hHeld, (by (with_reducible repeat (first | apply R_alloc | apply R_drewN | apply R_drew)); exact HO273.out), (by (with_reducible repeat (first | apply R_alloc | apply R_drewN | apply R_drew)); exact R_mono HO276.out (fun _ hk => hk.2)), (by (with_reducible repeat (first | apply S_alloc | apply S_drewN | apply S_drew)); exact S_mono HO_266000.out (fun _ hk => ⟨hk.2, ⟨hk.1.1, hk.1.2⟩⟩)), (by (with_reducible repeat (first | refine blk_drewN ?_ _ | refine blk_drew ?_ | refine blk_alloc ?_ _)); exact BK263.out), (by (with_reducible repeat (first | refine blk_drewN ?_ _ | refine blk_drew ?_ | refine blk_alloc ?_ _)); exact BK264.out), (by (with_reducible repeat (first | refine blk_drewN ?_ _ | refine blk_drew ?_ | refine blk_alloc ?_ _)); exact BK265.out), (by (with_reducible repeat (first | refine blk_drewN ?_ _ | refine blk_drew ?_ | refine blk_alloc ?_ _)); exact BK267.out), (by repeat (first | (with_reducible first | exact HB.out | apply below_alloc | apply pw_below_drewN | apply below_drew1 | refine below_set ?_ GE263.out | refine below_set ?_ GE264.out | refine below_set ?_ GE265.out | refine below_set ?_ GE267.out) | exact HB.out))⟩)
         rintro ⟨v269, v272, v275⟩ w29 ⟨hS_, h0_, h1_, h2_, h3_, h4_, h5_, h6_, h7_⟩
         have n0_ : Aside0 (Kd.R (Kd.int .u8) 5 w29 w.heap.size (fun k_ => some k_ ≠ (v275 : Value).ownBlock) v272 y271) := ⟨h0_⟩
         have n1_ : Aside0 (Kd.R (Kd.int .u8) 5 w29 w.heap.size (fun k_ => some k_ ≠ (v272 : Value).ownBlock) v275 y274) := ⟨h1_⟩
         have n2_ : Aside0 (Kd.S k74 74 w29 w.heap.size (fun k_ => some k_ ≠ (v272 : Value).ownBlock ∧ some k_ ≠ (v275 : Value).ownBlock ∧ k_ ≠ gb267) (.slice Ao21 x266000_1.length co21) x266000_1) := ⟨h2_⟩
         have n3_ : Aside0 (w29.heap[gb263]? = some (.cells #[.slice (some ad266) l0_0.length c0_0] 29 (0, 0))) := ⟨h3_⟩
         have n4_ : Aside0 (w29.heap[gb264]? = some (.cells #[.slice none 0 0] 29 (0, 0))) := ⟨h4_⟩
         have n5_ : Aside0 (w29.heap[gb265]? = some (.cells #[.slice Ao21 x266000_1.length co21] 29 (0, 0))) := ⟨h5_⟩
         have n6_ : Aside0 (w29.heap[gb267]? = some (.cells #[.string ((rd_T74 l0_0 x10_1).f0), .slice A266_1 ((rd_T74 l0_0 x10_1).f1).length c266_1, .slice A266_2 ((rd_T74 l0_0 x10_1).f2).length c266_2] 74 (0, 0))) := ⟨h6_⟩
         have n7_ : Aside0 (Below w.heap.size w w29) := ⟨h7_⟩
         clear HO_266000
         clear BK263
         clear BK264
         clear BK265
         clear BK267
         clear HB
         clear h0_ h1_ h2_ h3_ h4_ h5_ h6_ h7_
         have HO273 := n0_
         have HO276 := n1_
         have HO_266000 := n2_
         have BK263 := n3_
         have BK264 := n4_
         have BK265 := n5_
         have BK267 := n6_
         have HB := n7_
         clear n0_ n1_ n2_ n3_ n4_ n5_ n6_ n7_
         have hHeld : w29.cell? ⟨gb265, 0, none⟩ = some (.slice Ao21 x266000_1.length co21) ∧ w29.cell? ⟨gb267, 0, none⟩ = some (.string ((rd_T74 l0_0 x10_1).f0)) ∧ w29.cell? ⟨gb267, 1, none⟩ = some (.slice A266_1 ((rd_T74 l0_0 x10_1).f1).length c266_1) ∧ w29.cell? ⟨gb267, 2, none⟩ = some (.slice A266_2 ((rd_T74 l0_0 x10_1).f2).length c266_2) := hS_
         refine norm_ (a' := ?_) ?_ ?_
         rotate_left
         ·
          simp only [putAll, Act.put, List.setIfInBounds_toArray, List.set_cons_zero, List.set_cons_succ]
          rfl
         refine one_ (i := 11) (N := some 25) #[true, true, true, true, true, true, true, true, true, true, true, true, false, false, false, false, false] rfl rfl (one_of HT_.out (by kernel_rfl)) (by decide) (fun K hK => ?_)
         refine R_append_rows_step (Kd.int .u8) (w0 := w) w.heap.size (by rfl) (.tmp 22) (.tmp 24) 33 5 (.int .u8 0) 1 rfl Tryd.underlying33 info5 rfl (by decide) (by omega) v275 y274 ((rd_T74 l0_0 x10_1).f2) _ _ _ (fun k_ => some k_ ≠ (v272 : Value).ownBlock) (fun _ => False) rfl rfl ?aO ?aR (fun _ _ h => h) (fun _ h => h.elim) ?aF ?aB ?aS ?aL ?_
         (case aR => repeat (first | exact (C_below HR266_2.out HB.out) | (with_reducible refine C_alloc ?_ _) | (with_reducible refine C_drewN ?_ _) | (with_reducible refine C_drew ?_)))
         (case aB => exact (by repeat (first | (with_reducible first | exact HB.out | apply below_alloc | apply pw_below_drewN | apply below_drew1 | refine below_set ?_ GE263.out | refine below_set ?_ GE264.out | refine below_set ?_ GE265.out | refine below_set ?_ GE267.out) | exact HB.out)))
         (case aF => exact (fun k_ hk => Kd.fresh' (R_lt (by (with_reducible repeat (first | apply R_alloc | apply R_drewN | apply R_drew)); exact HO273.out)) k_ hk))
         (case aO => exact (by (with_reducible repeat (first | apply R_alloc | apply R_drewN | apply R_drew)); exact HO276.out))
         (case aS => exact (below_size (by repeat (first | (with_reducible first | exact HB.out | apply below_alloc | apply pw_below_drewN | apply below_drew1 | refine below_set ?_ GE263.out | refine below_set ?_ GE264.out | refine below_set ?_ GE265.out | refine below_set ?_ GE267.out) | exact HB.out))))
         (case aL => have := LMc14.out; omega)
         intro v278 w30 ho hb hg hat
         rw [← Ny277.out] at ho
         have n0_ := Aside0.mk (S_after (ok := (fun k_ => some k_ ≠ (v272 : Value).ownBlock ∧ k_ ≠ gb267)) (by (with_reducible repeat (first | apply S_alloc | apply S_drewN | apply S_drew)); exact S_mono HO_266000.out (fun _ hk => ⟨⟨hk.1, hk.2.2⟩, hk.2.1⟩)) hg hat)
         have n1_ := Aside0.mk (blk_grown (g := gb263) (o := .cells #[.slice (some ad266) l0_0.length c0_0] 29 (0, 0)) (by (with_reducible repeat (first | refine blk_drewN ?_ _ | refine blk_drew ?_ | refine blk_alloc ?_ _)); exact BK263.out) hg (R_ne HO276.out BK263.out (by decide)))
         have n2_ := Aside0.mk (blk_grown (g := gb264) (o := .cells #[.slice none 0 0] 29 (0, 0)) (by (with_reducible repeat (first | refine blk_drewN ?_ _ | refine blk_drew ?_ | refine blk_alloc ?_ _)); exact BK264.out) hg (R_ne HO276.out BK264.out (by decide)))
         have n3_ := Aside0.mk (blk_grown (g := gb265) (o := .cells #[.slice Ao21 x266000_1.length co21] 29 (0, 0)) (by (with_reducible repeat (first | refine blk_drewN ?_ _ | refine blk_drew ?_ | refine blk_alloc ?_ _)); exact BK265.out) hg (R_ne HO276.out BK265.out (by decide)))
         have n4_ := Aside0.mk (blk_grown (g := gb267) (o := .cells #[.string ((rd_T74 l0_0 x10_1).f0), .slice A266_1 ((rd_T74 l0_0 x10_1).f1).length c266_1, .slice A266_2 ((rd_T74 l0_0 x10_1).f2).length c266_2] 74 (0, 0)) (by (with_reducible repeat (first | refine blk_drewN ?_ _ | refine blk_drew ?_ | refine blk_alloc ?_ _)); exact BK267.out) hg (R_ne HO276.out BK267.out (by decide)))
         have n5_ := Aside0.mk (R_after (ok := (fun _ => True)) (by (with_reducible repeat (first | apply R_alloc | apply R_drewN | apply R_drew)); exact R_mono HO273.out (fun _ hk => ⟨trivial, hk⟩)) hg hat)
         have n6_ := Aside0.mk (hb)
         have n7_ := Aside0.mk (ho)
         clear HO_266000
         clear BK263
         clear BK264
         clear BK265
         clear BK267
         clear HO273
         clear HB
         clear HO276
         have HO_266000 := n0_
         have BK263 := n1_
         have BK264 := n2_
         have BK265 := n3_
         have BK267 := n4_
         have HO273 := n5_
         have HB := n6_
         have HO279 := n7_
         clear n0_ n1_ n2_ n3_ n4_ n5_ n6_ n7_
         clear ho hb hg hat
         obtain ⟨Ao31, co31, eo31⟩ := R_slice HO279.out
         (first | subst eo31 | (injection eo31 with f1_ f2_ f3_; have f4_ := f1_.symm; have f5_ := f3_.symm; clear f1_ f2_ f3_; subst f4_; subst f5_))
         obtain ⟨Ao32, co32, eo32⟩ := R_slice HO273.out
         (first | subst eo32 | (injection eo32 with f1_ f2_ f3_; have f4_ := f1_.symm; have f5_ := f3_.symm; clear f1_ f2_ f3_; subst f4_; subst f5_))
         refine hK.out _ _ ⟨(blk_cell BK265.out 0).trans rfl, (blk_cell BK267.out 0).trans rfl, (blk_cell BK267.out 1).trans rfl, (blk_cell BK267.out 2).trans rfl⟩ (fun hHeld => ?_)
         clear hK K
         refine norm_ (a' := ?_) ?_ ?_
         rotate_left
         ·
          show Act.put _ (some 25) _ = _
          simp only [Act.put, List.setIfInBounds_toArray, List.set_cons_zero, List.set_cons_succ, i64_w, i32_w]
          rfl
         refine pure_ (i := 12) (N := some 26) (v := ?_) (a' := ?_) #[true, true, true, true, true, true, true, true, true, true, true, true, true, false, false, false, false] rfl rfl (any_of HT_.out (by kernel_rfl)) (fun _ _ _ h => h) (Or.inl ⟨by rfl, ?_⟩) ?_ ?_
         rotate_left
         ·
          intro w'
          go_simp
          with_reducible rfl
         rotate_left
         ·
          simp only [Act.put, List.setIfInBounds_toArray, List.set_cons_zero, List.set_cons_succ, i64_w, i32_w]
          rfl
         refine one_ (i := 13) (N := some 27) #[true, true, true, true, true, true, true, true, true, true, true, true, true, true, false, false, false] rfl rfl (one_of HT_.out (by kernel_rfl)) (by decide) (fun K hK => ?_)
         refine value_ (w1 := ?_) (v := ?_) (by rfl) rfl ?_ ?_
         rotate_left 2
         ·
          go_simp
          constructor
          ·
           rfl
          ·
           rfl
         refine hK.out _ _ ⟨(blk_cell (blk_alloc BK265.out _) 0).trans rfl, (blk_cell (blk_alloc BK267.out _) 0).trans rfl, (blk_cell (blk_alloc BK267.out _) 1).trans rfl, (blk_cell (blk_alloc BK267.out _) 2).trans rfl⟩ (fun hHeld => ?_)
         clear hK K
         refine norm_ (a' := ?_) ?_ ?_
         rotate_left
         ·
          show Act.put _ (some 27) _ = _
          simp only [Act.put, List.setIfInBounds_toArray, List.set_cons_zero, List.set_cons_succ, i64_w, i32_w]
          rfl
         refine one_ (i := 14) (N := some 28) #[true, true, true, true, true, true, true, true, true, true, true, true, true, true, true, false, false] rfl rfl (one_of HT_.out (by kernel_rfl)) (by decide) (fun K hK => ?_)
         refine S_append_step k74 (w0 := w) w.heap.size (by rfl) (.tmp 15) (.tmp 27) 27 74 (.agg #[(.string ⟨#[]⟩), (.slice none 0 0), (.slice none 0 0)]) 64 rfl Tryd.underlying27 info74 rfl (by decide) (by omega) (.slice Ao21 x266000_1.length co21) x266000_1 (⟨(rd_T74 l0_0 x10_1).f0, y271, y277⟩ : S74) [.string ((rd_T74 l0_0 x10_1).f0), .slice Ao32 y271.length co32, .slice Ao31 y277.length co31] (fun k_ => k_ ≠ gb267) (fun k_ => some k_ = (.slice Ao32 y271.length co32 : Value).ownBlock ∨ some k_ = (.slice Ao31 y277.length co31 : Value).ownBlock) rfl rfl ?aP (fun k_ hk_ => hk_.elim (fun h_ => ((R_mono (ok' := fun k_ => ((fun k_ => k_ ≠ gb267)) k_ ∧ some k_ ≠ (.slice Ao21 x266000_1.length co21 : Value).ownBlock) (R_types (R_apart' (HO273.out) (S_typed HO_266000.out) (by decide)) BK267.out (by decide)) (fun k_ hk => ⟨hk.2, hk.1.2⟩))).1 k_ h_.symm) (fun h_ => ((R_mono (ok' := fun k_ => ((fun k_ => k_ ≠ gb267)) k_ ∧ some k_ ≠ (.slice Ao21 x266000_1.length co21 : Value).ownBlock) (R_types (R_apart' (HO279.out) (S_typed HO_266000.out) (by decide)) BK267.out (by decide)) (fun k_ hk => ⟨hk.2, hk.1.2⟩))).1 k_ h_.symm)) ?aF ?aO ?aB ?aS ?aL ?_
         (case aP => exact k74_mkM _ _ _ (⟨(rd_T74 l0_0 x10_1).f0, y271, y277⟩ : S74) (R_mono (R_tight rfl (R_mono (ok' := fun k_ => ((fun k_ => k_ ≠ gb267)) k_ ∧ some k_ ≠ (.slice Ao21 x266000_1.length co21 : Value).ownBlock) (R_types (R_apart' (HO273.out) (S_typed HO_266000.out) (by decide)) BK267.out (by decide)) (fun k_ hk => ⟨hk.2, hk.1.2⟩))) (fun _ h_ => Or.inl h_)) (R_mono (R_tight rfl (R_mono (ok' := fun k_ => ((fun k_ => k_ ≠ gb267)) k_ ∧ some k_ ≠ (.slice Ao21 x266000_1.length co21 : Value).ownBlock) (R_types (R_apart' (HO279.out) (S_typed HO_266000.out) (by decide)) BK267.out (by decide)) (fun k_ hk => ⟨hk.2, hk.1.2⟩))) (fun _ h_ => Or.inr (h_))) (AP.ne_of (HO273.out) (HO279.out) (by first | exact .inl (fun k_ hk_ => by first | exact hk_ | exact hk_.1 | exact hk_.2 | exact hk_.1.1 | exact hk_.1.2 | exact hk_.2.1 | exact hk_.2.2) | exact .inr (fun k_ hk_ => by first | exact hk_ | exact hk_.1 | exact hk_.2 | exact hk_.1.1 | exact hk_.1.2 | exact hk_.2.1 | exact hk_.2.2))))
         (case aB => exact (by repeat (first | (with_reducible first | exact HB.out | apply below_alloc | apply pw_below_drewN | apply below_drew1 | refine below_set ?_ GE263.out | refine below_set ?_ GE264.out | refine below_set ?_ GE265.out | refine below_set ?_ GE267.out) | exact HB.out)))
         (case aF => exact (fun k_ hk => Kd.freshB (g := gb267) (o := .cells #[.string ((rd_T74 l0_0 x10_1).f0), .slice A266_1 ((rd_T74 l0_0 x10_1).f1).length c266_1, .slice A266_2 ((rd_T74 l0_0 x10_1).f2).length c266_2] 74 (0, 0)) (by (with_reducible repeat (first | refine blk_drewN ?_ _ | refine blk_drew ?_ | refine blk_alloc ?_ _)); exact BK267.out) k_ hk))
         (case aO => exact (by (with_reducible repeat (first | apply S_alloc | apply S_drewN | apply S_drew)); exact S_mono HO_266000.out (fun k_ hk => ⟨hk.1.2, fun e_ => e_.elim (fun h_ => hk.1.1 h_) (fun h_ => hk.2 h_)⟩)))
         (case aS => exact (below_size (by repeat (first | (with_reducible first | exact HB.out | apply below_alloc | apply pw_below_drewN | apply below_drew1 | refine below_set ?_ GE263.out | refine below_set ?_ GE264.out | refine below_set ?_ GE265.out | refine below_set ?_ GE267.out) | exact HB.out))))
         (case aL => have := LMc15.out; omega)
         intro v281 w33 ho hb hg hat
         rw [← Ny280.out] at ho
         have n0_ := Aside0.mk (blk_grown (g := gb263) (o := .cells #[.slice (some ad266) l0_0.length c0_0] 29 (0, 0)) (by (with_reducible repeat (first | refine blk_drewN ?_ _ | refine blk_drew ?_ | refine blk_alloc ?_ _)); exact BK263.out) hg (S_ne HO_266000.out BK263.out (by decide)))
         have n1_ := Aside0.mk (blk_grown (g := gb264) (o := .cells #[.slice none 0 0] 29 (0, 0)) (by (with_reducible repeat (first | refine blk_drewN ?_ _ | refine blk_drew ?_ | refine blk_alloc ?_ _)); exact BK264.out) hg (S_ne HO_266000.out BK264.out (by decide)))
         have n2_ := Aside0.mk (blk_grown (g := gb265) (o := .cells #[.slice Ao21 x266000_1.length co21] 29 (0, 0)) (by (with_reducible repeat (first | refine blk_drewN ?_ _ | refine blk_drew ?_ | refine blk_alloc ?_ _)); exact BK265.out) hg (S_ne HO_266000.out BK265.out (by decide)))
         have n3_ := Aside0.mk (blk_grown (g := gb267) (o := .cells #[.string ((rd_T74 l0_0 x10_1).f0), .slice A266_1 ((rd_T74 l0_0 x10_1).f1).length c266_1, .slice A266_2 ((rd_T74 l0_0 x10_1).f2).length c266_2] 74 (0, 0)) (by (with_reducible repeat (first | refine blk_drewN ?_ _ | refine blk_drew ?_ | refine blk_alloc ?_ _)); exact BK267.out) hg (S_away HO_266000.out (fun _ hk => hk.1.2)))
         have n4_ := Aside0.mk (hb)
         have n5_ := Aside0.mk (ho)
         clear BK263
         clear BK264
         clear BK265
         clear BK267
         clear HB
         clear HO_266000
         clear HO273
         clear HO279
         have BK263 := n0_
         have BK264 := n1_
         have BK265 := n2_
         have BK267 := n3_
         have HB := n4_
         have HO282 := n5_
         clear n0_ n1_ n2_ n3_ n4_ n5_
         clear ho hb hg hat
         obtain ⟨Ao34, co34, eo34⟩ := S_slice HO282.out
         (first | subst eo34 | (injection eo34 with f1_ f2_ f3_; have f4_ := f1_.symm; have f5_ := f3_.symm; clear f1_ f2_ f3_; subst f4_; subst f5_))
         refine hK.out _ _ ⟨(blk_cell BK265.out 0).trans rfl, (blk_cell BK267.out 0).trans rfl, (blk_cell BK267.out 1).trans rfl, (blk_cell BK267.out 2).trans rfl⟩ (fun hHeld => ?_)
         clear hK K
         refine norm_ (a' := ?_) ?_ ?_
         rotate_left
         ·
          show Act.put _ (some 28) _ = _
          simp only [Act.put, List.setIfInBounds_toArray, List.set_cons_zero, List.set_cons_succ, i64_w, i32_w]
          rfl
         refine pure_ (i := 15) (N := some 29) (v := ?_) (a' := ?_) #[true, true, true, true, true, true, true, true, true, true, true, true, true, true, true, true, false] rfl rfl (any_of HT_.out (by kernel_rfl)) (fun _ _ _ h => h) (Or.inl ⟨by rfl, ?_⟩) ?_ ?_
         rotate_left
         ·
          intro w'
          go_simp
          with_reducible rfl
         rotate_left
         ·
          simp only [Act.put, List.setIfInBounds_toArray, List.set_cons_zero, List.set_cons_succ, i64_w, i32_w]
          rfl
         refine last_ (i := 16) (N := none) #[true, true, true, true, true, true, true, true, true, true, true, true, true, true, true, true, true] rfl rfl (one_of HT_.out (by kernel_rfl)) (by decide) (fun K hK => ?_)
         have hs35 : w33.cell? ⟨gb265, 0, none⟩ = some (.slice Ao21 x266000_1.length co21) := (blk_cell BK265.out 0).trans rfl
         have hfs35 := blk_frozen BK265.out 0
         have hns35_0 := NB263_265.out
         have hns35_1 := NB264_265.out
         have hns35_3 := NB267_265.out
         have hms35_0 := NB265_263.out
         have hms35_1 := NB265_264.out
         have hms35_3 := NB265_267.out
         refine skip_ (w1 := ?_) (by rfl) rfl ?_ ?_
         rotate_left
         ·
          go_simp
          rfl
         refine hK.out _ _ ?_
         clear hK K
         refine done_ (done_of HT_.out (by kernel_rfl)) ?_
         try go_wp2
         go_roundg k1
         case measure => have := HK1.out; omega
         case rel => exact ⟨(wrap64 (x10_1 + 1)), (y280), (.slice Ao34 y280.length co34), (by first | rfl | (simp; done) | (simp [*]; done)), H', ⟨by have := HK1.out; omega⟩, ⟨by (with_reducible repeat (first | apply S_alloc | apply S_drewN | apply S_drew)); exact S_mono (S_far (p := ⟨gb265, 0, none⟩) (S_types HO282.out BK265.out (by decide)) (fun _ hk => hk.2) (.slice Ao34 y280.length co34)) (fun _ hk => trivial)⟩, ⟨by (with_reducible repeat (first | refine blk_drewN ?_ _ | refine blk_drew ?_ | refine blk_alloc ?_ _)); refine blk_far ?_ NB263_265.out _; (with_reducible repeat (first | refine blk_drewN ?_ _ | refine blk_drew ?_ | refine blk_alloc ?_ _)); exact BK263.out⟩, ⟨by (with_reducible repeat (first | refine blk_drewN ?_ _ | refine blk_drew ?_ | refine blk_alloc ?_ _)); refine blk_far ?_ NB264_265.out _; (with_reducible repeat (first | refine blk_drewN ?_ _ | refine blk_drew ?_ | refine blk_alloc ?_ _)); exact BK264.out⟩, ⟨by (with_reducible repeat (first | refine blk_drewN ?_ _ | refine blk_drew ?_ | refine blk_alloc ?_ _)); refine blk_put (cs := #[.slice Ao21 x266000_1.length co21]) ?_ 0 _ rfl; (with_reducible repeat (first | refine blk_drewN ?_ _ | refine blk_drew ?_ | refine blk_alloc ?_ _)); exact BK265.out⟩, ⟨by repeat (first | (with_reducible first | exact HB.out | apply below_alloc | apply pw_below_drewN | apply below_drew1 | refine below_set ?_ GE263.out | refine below_set ?_ GE264.out | refine below_set ?_ GE265.out | refine below_set ?_ GE267.out) | exact HB.out)⟩⟩
        ·
         rw [if_neg c15] at H
         exact absurd H (by simp)
       ·
        rw [if_neg c14] at H
        exact absurd H (by simp)
      ·
       rw [if_neg c13] at H
       exact absurd H (by simp)
     ·
      rw [if_neg c12] at H
      exact absurd H (by simp)
    ·
     rw [if_neg c11] at H
     exact absurd H (by simp)
   ·
    rw [if_neg c10] at H
    have c10b0 : decide (x10_1 < (l0_0.length : Int)) = false := decide_eq_false c10
    clear c10
    obtain rfl := Option.some.inj H
    have hnb36 := NB265_263.out
    have hnc36 := NB263_265.out
    have hnb37 := NB265_264.out
    have hnc37 := NB264_265.out
    have hcz38_0 : wr.cell? ⟨gb265, 0, none⟩ = some (u266000) := (blk_cell BK265.out 0).trans rfl
    have hfz38_0 := blk_frozen BK265.out 0
    obtain ⟨Ao39, co39, eo39⟩ := S_slice HO_266000.out
    subst eo39
    have hnb40 := NB264_263.out
    have hnc40 := NB263_264.out
    have hcz41_0 : wr.cell? ⟨gb264, 0, none⟩ = some (.slice none 0 0) := (blk_cell BK264.out 0).trans rfl
    have hfz41_0 := blk_frozen BK264.out 0
    go_wp2
    refine bodyPost_ret (results_cell_row rfl _ _ gb264 29 #[.slice Ao39 x266000_1.length co39] (0, 0) _ rfl (by (with_reducible repeat (first | refine blk_drewN ?_ _ | refine blk_drew ?_ | refine blk_alloc ?_ _)); refine blk_put (cs := #[.slice none 0 0]) ?_ 0 _ rfl; (with_reducible repeat (first | refine blk_drewN ?_ _ | refine blk_drew ?_ | refine blk_alloc ?_ _)); exact BK264.out) Tryd.underlying29 rfl (by kernel_rfl)) rfl ?_
    exact ⟨_, by first | rfl | (simp [errW_none, errW_some] <;> rfl) | (simp [*, errW_none, errW_some] <;> rfl), by (with_reducible repeat (first | apply S_alloc | apply S_drewN | apply S_drew)); exact S_mono (S_far (p := ⟨gb264, 0, none⟩) (S_types HO_266000.out BK264.out (by decide)) (fun _ hk => hk.2) (.slice Ao39 x266000_1.length co39)) (fun _ hk => trivial), by repeat (first | (with_reducible first | exact HB.out | apply below_alloc | apply pw_below_drewN | apply below_drew1 | refine below_set ?_ GE263.out | refine below_set ?_ GE264.out | refine below_set ?_ GE265.out) | exact HB.out)⟩
end Go.Proofs.YtmgeffgcihfpcaaDoor.F

namespace Go.Proofs.YtmgeffgcihfpcaaDoor.F
open Go.RowKit Go.Proofs.YtmgeffgcihfpcaaDoorW.PrintWords Go.Proofs.YtmgeffgcihfpcaaDoorW.PrintLast Go.Proofs.YtmgeffgcihfpcaaDoorW.PrintMore
set_option linter.unusedVariables false
def lays160_ren : Go.Shelf.Ren := ⟨fun | 160 => 104 | 232 => 110 | 231 => 109 | 227 => 111 | 234 => 113 | 233 => 112 | 236 => 115 | 235 => 114 | 228 => 118 | 271 => 121 | 151 => 120 | 197 => 119 | 120 => 125 | 152 => 124 | 260 => 123 | 137 => 127 | 119 => 128 | 224 => 129 | 225 => 130 | 217 => 131 | 266 => 132 | n => n, fun | 9 => 9 | 4 => 4 | 3 => 3 | 5 => 5 | 117 => 122 | 116 => 121 | 0 => 0 | 124 => 125 | 21 => 21 | 105 => 129 | 46 => 127 | 119 => 134 | 139 => 137 | 138 => 136 | n => n, fun | 3 => 0 | 4 => 1 | n => n⟩
theorem lays160 : Go.Proofs.Lays.n160 Tryd.prog lays160_ren where
  mixed := by kernel_rfl
  f119 := Tryd.func128.trans (congrArg some (by kernel_rfl))
  f120 := Tryd.func125.trans (congrArg some (by kernel_rfl))
  f137 := Tryd.func127.trans (congrArg some (by kernel_rfl))
  f151 := Tryd.func120.trans (congrArg some (by kernel_rfl))
  f152 := Tryd.func124.trans (congrArg some (by kernel_rfl))
  f160 := Tryd.func104.trans (congrArg some (by kernel_rfl))
  f197 := Tryd.func119.trans (congrArg some (by kernel_rfl))
  f217 := Tryd.func131.trans (congrArg some (by kernel_rfl))
  f224 := Tryd.func129.trans (congrArg some (by kernel_rfl))
  f225 := Tryd.func130.trans (congrArg some (by kernel_rfl))
  f227 := Tryd.func111.trans (congrArg some (by kernel_rfl))
  f228 := Tryd.func118.trans (congrArg some (by kernel_rfl))
  f231 := Tryd.func109.trans (congrArg some (by kernel_rfl))
  f232 := Tryd.func110.trans (congrArg some (by kernel_rfl))
  f233 := Tryd.func112.trans (congrArg some (by kernel_rfl))
  f234 := Tryd.func113.trans (congrArg some (by kernel_rfl))
  f235 := Tryd.func114.trans (congrArg some (by kernel_rfl))
  f236 := Tryd.func115.trans (congrArg some (by kernel_rfl))
  f260 := Tryd.func123.trans (congrArg some (by kernel_rfl))
  f266 := Tryd.func132.trans (congrArg some (by kernel_rfl))
  f271 := Tryd.func121.trans (congrArg some (by kernel_rfl))
  t0 := Tryd.underlying0
  a0 := Tryd.isAgg0
  z0 := Tryd.sizeOf0
  v0 := Tryd.zeroValue0
  t3 := Tryd.underlying3
  a3 := Tryd.isAgg3
  z3 := Tryd.sizeOf3
  v3 := Tryd.zeroValue3
  t4 := Tryd.underlying4
  a4 := Tryd.isAgg4
  z4 := Tryd.sizeOf4
  v4 := Tryd.zeroValue4
  t5 := Tryd.underlying5
  a5 := Tryd.isAgg5
  z5 := Tryd.sizeOf5
  v5 := Tryd.zeroValue5
  t9 := Tryd.underlying9
  a9 := Tryd.isAgg9
  z9 := Tryd.sizeOf9
  v9 := Tryd.zeroValue9
  t21 := Tryd.underlying21
  a21 := Tryd.isAgg21
  z21 := Tryd.sizeOf21
  v21 := Tryd.zeroValue21
  t46 := Tryd.underlying127
  a46 := Tryd.isAgg127
  z46 := Tryd.sizeOf127
  v46 := Tryd.zeroValue127
  t105 := Tryd.underlying129
  a105 := Tryd.isAgg129
  z105 := Tryd.sizeOf129
  v105 := Tryd.zeroValue129
  t116 := Tryd.underlying121
  a116 := Tryd.isAgg121
  z116 := Tryd.sizeOf121
  t117 := Tryd.underlying122
  a117 := Tryd.isAgg122
  z117 := Tryd.sizeOf122
  v117 := Tryd.zeroValue122
  t119 := Tryd.underlying134
  a119 := Tryd.isAgg134
  z119 := Tryd.sizeOf134
  t124 := Tryd.underlying125
  a124 := Tryd.isAgg125
  z124 := Tryd.sizeOf125
  v124 := Tryd.zeroValue125
  t138 := Tryd.underlying136
  a138 := Tryd.isAgg136
  z138 := Tryd.sizeOf136
  v138 := Tryd.zeroValue136
  t139 := Tryd.underlying137
  a139 := Tryd.isAgg137
  z139 := Tryd.sizeOf137
  v139 := Tryd.zeroValue137
  g3 := by kernel_rfl
  g4 := by kernel_rfl
def trimF.f (s c : ByteArray) : Option ByteArray := if s.size ≤ 9223372036854775807 ∧ c.size < 4294967281 ∧ c.data.toList.all (fun b => decide (b.toNat < 128)) = true then some ⟨(Go.Lib.trimS s.data.toList c.data.toList).toArray⟩ else none
theorem trimF.calls (a0 a1 : ByteArray) (r : ByteArray) (w : World) (h : trimF.f a0 a1 = some r) :
    Calls Tryd.prog 104 #[.string a0, .string a1] w fun e w' => e = .returned (.string r) ∧ Below w.heap.size w w' := by
  unfold trimF.f at h
  split at h
  · rename_i hc
    have h := Option.some.inj h
    subst h
    exact Any.strings_Trim_laid lays160 (by kernel_rfl) a0 a1 w hc.1 hc.2.1 (ascii_of_all hc.2.2)
  · cases h
end Go.Proofs.YtmgeffgcihfpcaaDoor.F

namespace Go.Proofs.YtmgeffgcihfpcaaDoor.F
open Go.RowKit Go.Proofs.YtmgeffgcihfpcaaDoorW.PrintWords Go.Proofs.YtmgeffgcihfpcaaDoorW.PrintWords.Kd Go.Proofs.YtmgeffgcihfpcaaDoorW.PrintMore.Kd Go.Proofs.YtmgeffgcihfpcaaDoorW.PrintLast Go.Proofs.YtmgeffgcihfpcaaDoorW.PrintMore
attribute [local go_sem] max2_int min2_int max_two min_two max_three min_three max_four min_four   -- for this text's walks alone
set_option linter.unusedVariables false
set_option linter.unusedSimpArgs false
def impl_isFileName.f (a0 : ByteArray) : Option (Bool) := if (a0.size : Int) ≥ 1 then (if (a0.size : Int) ≤ 12 then ((trimF.f a0 (⟨#[97, 98, 99, 100, 101, 102, 103, 104, 105, 106, 107, 108, 109, 110, 111, 112, 113, 114, 115, 116, 117, 118, 119, 120, 121, 122, 48, 49, 50, 51, 52, 53, 54, 55, 56, 57]⟩ : ByteArray)).bind fun t147 => (some (t147.toList == ([] : List UInt8)))) else (some false)) else (some false)
set_option maxHeartbeats 8000000 in
set_option maxRecDepth 100000 in
theorem impl_isFileName.calls (a0 : ByteArray) (r : Bool) (w : World) (h : impl_isFileName.f a0 = some r) :
  Calls Tryd.prog 91 #[.string a0] w fun e w' => e = .returned (.bool r) ∧ Below w.heap.size w w' := by
 have HB := Aside0.mk (Below.refl w.heap.size w)
 have H : (if (a0.size : Int) ≥ 1 then (if (a0.size : Int) ≤ 12 then ((trimF.f a0 (⟨#[97, 98, 99, 100, 101, 102, 103, 104, 105, 106, 107, 108, 109, 110, 111, 112, 113, 114, 115, 116, 117, 118, 119, 120, 121, 122, 48, 49, 50, 51, 52, 53, 54, 55, 56, 57]⟩ : ByteArray)).bind fun t147 => (some (t147.toList == ([] : List UInt8)))) else (some false)) else (some false)) = some r := h
 clear h
 by_cases c2 : (a0.size : Int) ≥ 1
 ·
  rw [if_pos c2] at H
  have c2b0 : decide (1 ≤ (a0.size : Int)) = true := decide_eq_true c2
  have c2b1 : decide (1 ≤ a0.size) = true := decide_eq_true (by omega)
  clear c2
  by_cases c3 : (a0.size : Int) ≤ 12
  ·
   rw [if_pos c3] at H
   have c3b0 : decide ((a0.size : Int) ≤ 12) = true := decide_eq_true c3
   have c3b1 : decide (a0.size ≤ 12) = true := decide_eq_true (by omega)
   clear c3
   replace H := Option.bind_eq_some_iff.mp H
   obtain ⟨t147, A40, H⟩ := H
   replace H : (some (t147.toList == ([] : List UInt8))) = some r := H
   have A4 := Aside0.mk A40
   clear A40
   obtain rfl := Option.some.inj H
   go_enter Tryd.func91, Tryd.ntmps91
   go_wp2_with (first | (go_at_call 104; (with_reducible refine (trimF.calls a0 (⟨#[97, 98, 99, 100, 101, 102, 103, 104, 105, 106, 107, 108, 109, 110, 111, 112, 113, 114, 115, 116, 117, 118, 119, 120, 121, 122, 48, 49, 50, 51, 52, 53, 54, 55, 56, 57]⟩ : ByteArray) t147 _ A4.out).mono ?_); rintro e w5 ⟨rfl, hb⟩; have n0_ := Aside0.mk (below_step (by repeat (first | (with_reducible first | exact HB.out | apply below_alloc | apply pw_below_drewN | apply below_drew1) | exact HB.out)) hb); clear HB; have HB := n0_; clear n0_; (try clear hb); (try clear hb2); (try clear hk); (try clear hi)))
   go_ret
   exact ⟨by first | rfl | (simp [errW_none, errW_some] <;> rfl) | (simp [*, errW_none, errW_some] <;> rfl), by repeat (first | (with_reducible first | exact HB.out | apply below_alloc | apply pw_below_drewN | apply below_drew1) | exact HB.out)⟩
  ·
   rw [if_neg c3] at H
   have c3b0 : decide ((a0.size : Int) ≤ 12) = false := decide_eq_false c3
   have c3b1 : decide (a0.size ≤ 12) = false := decide_eq_false (by omega)
   clear c3
   obtain rfl := Option.some.inj H
   go_enter Tryd.func91, Tryd.ntmps91
   go_wp2
   go_ret
   exact ⟨by first | rfl | (simp [errW_none, errW_some] <;> rfl) | (simp [*, errW_none, errW_some] <;> rfl), by repeat (first | (with_reducible first | exact HB.out | apply below_alloc | apply pw_below_drewN | apply below_drew1) | exact HB.out)⟩
 ·
  rw [if_neg c2] at H
  have c2b0 : decide (1 ≤ (a0.size : Int)) = false := decide_eq_false c2
  have c2b1 : decide (1 ≤ a0.size) = false := decide_eq_false (by omega)
  clear c2
  obtain rfl := Option.some.inj H
  go_enter Tryd.func91, Tryd.ntmps91
  go_wp2
  go_ret
  exact ⟨by first | rfl | (simp [errW_none, errW_some] <;> rfl) | (simp [*, errW_none, errW_some] <;> rfl), by repeat (first | (with_reducible first | exact HB.out | apply below_alloc | apply pw_below_drewN | apply below_drew1) | exact HB.out)⟩
end Go.Proofs.YtmgeffgcihfpcaaDoor.F

namespace Go.Proofs.YtmgeffgcihfpcaaDoor.F
open Go.RowKit Go.Proofs.YtmgeffgcihfpcaaDoorW.PrintWords Go.Proofs.YtmgeffgcihfpcaaDoorW.PrintWords.Kd Go.Proofs.YtmgeffgcihfpcaaDoorW.PrintMore.Kd Go.Proofs.YtmgeffgcihfpcaaDoorW.PrintLast Go.Proofs.YtmgeffgcihfpcaaDoorW.PrintMore
attribute [local go_sem] max2_int min2_int max_two min_two max_three min_three max_four min_four   -- for this text's walks alone
set_option linter.unusedVariables false
set_option linter.unusedSimpArgs false
def impl_isDisk.l0 : Nat → List (S74) → Int → Int → List (S74) → Option (Bool)
 | 0, _, _, _, _ => none
 | k + 1, x6, x7, x8, x149000 => if x8 < x7 then (if 0 ≤ x8 then (if x8 < (x6.length : Int) then ((impl_isFileName.f ((rd_T74 x6 x8).f0)).bind fun t151 => (if t151 = true then (if (wrap64 ((((rd_T74 x6 x8).f1).length : Int) + (((rd_T74 x6 x8).f2).length : Int))) > 20000 then (some false) else (if x8 > 0 then (if 0 ≤ (wrap64 (x8 - 1)) then (if (wrap64 (x8 - 1)) < (x149000.length : Int) then (if ((Op.bytesLess (((rd_T74 x149000 (wrap64 (x8 - 1))).f0).toList) (((rd_T74 x6 x8).f0).toList)) = true) then (impl_isDisk.l0 k x6 x7 (wrap64 (x8 + 1)) x149000) else (some false)) else (none)) else (none)) else (impl_isDisk.l0 k x6 x7 (wrap64 (x8 + 1)) x149000))) else (some false))) else (none)) else (none)) else (some (decide ((x149000.length : Int) ≤ 8)))
def impl_isDisk.f (k : Nat) (l0_0 : List (S74)) : Option (Bool) := impl_isDisk.l0 k l0_0 (l0_0.length : Int) 0 l0_0
def impl_isDisk.T4 : Bool × List (List Nat × List Nat) := (true, [([], []), ([0], [0]), ([1], [1]), ([2], [2]), ([3, 2], [3]), ([4], [4]), ([5, 4], [4, 5]), ([6, 4], [4, 6]), ([4], [4]), ([8, 4], [4, 8]), ([9, 4], [4, 9]), ([7, 10, 4], [4, 7, 10]), ([11, 4], [4, 11]), ([4, 12], [4, 12]), ([13, 4], [13]), ([14], [14]), ([15, 14], [14, 15]), ([16, 14, 14], [14, 16]), ([17], [17]), ([18, 17], [17, 18]), ([17], [17]), ([20, 17], [17, 20]), ([19, 21, 17], [17, 19, 21]), ([22, 17], [17, 22]), ([23, 17], [17, 23]), ([17], [17]), ([25, 17], [17, 25]), ([24, 26, 17], [17, 24, 26]), ([17, 27, 14], [14, 17, 27]), ([14, 28], [14, 28])])
def impl_isDisk.B4 : List Nat := [0, 1, 3, 7, 15, 31, 63, 127, 31, 287, 799, 2047, 4095, 8191, 16383, 32767, 65535, 131071, 262143, 524287, 262143, 1310719, 4194303, 8388607, 16777215, 262143, 33816575, 134217727, 268435455, 536870911]
theorem impl_isDisk.tab4 : rtab .any (opsOf Tryd.f59 4) = impl_isDisk.T4 := by kernel_rfl
theorem impl_isDisk.bits4 : waitsOk impl_isDisk.T4.2 impl_isDisk.B4 = true := by kernel_rfl
set_option maxHeartbeats 8000000 in
set_option maxRecDepth 100000 in
theorem impl_isDisk.calls (k : Nat) (A0_0 : Option Addr) (c0_0 : Nat) (l0_0 : List (S74)) (r : Bool) (w : World) (hr0_0 : Kd.C k74 w A0_0 l0_0.length l0_0) (hc0_0 : l0_0.length ≤ c0_0) (h : impl_isDisk.f k l0_0 = some r) :
  Calls Tryd.prog 59 #[.agg #[.slice A0_0 l0_0.length c0_0]] w fun e w' => e = .returned (.bool r) ∧ Below w.heap.size w w' := by
 have hu29 := Tryd.underlying29
 have hu74 := Tryd.underlying74
 have HR0_0 := Aside0.mk hr0_0
 have HC0_0 := Aside0.mk hc0_0
 clear hr0_0 hc0_0
 have HB := Aside0.mk (Below.refl w.heap.size w)
 have H : (impl_isDisk.l0 k l0_0 (l0_0.length : Int) 0 l0_0) = some r := h
 clear h
 have H' := Aside0.mk H
 clear H
 go_enter Tryd.func59, Tryd.ntmps59
 go_wp2_with (first | ((with_reducible refine gate_dst (N := 1) rfl ?_); (try (refine gate_guard (by rfl) ?_; dsimp only)); refine box_event ?hg (N := 1) ?hd (cs := #[.slice A0_0 l0_0.length c0_0]) (t := 29) ?hr ?_; (case hd => rfl); (case hg => rfl); (case hr => first | (go_simp; done) | (go_simp; rfl)); intro gb148 hg w2 hbox hb; have n0_ := Aside0.mk (below_step (by repeat (first | (with_reducible first | exact HB.out | apply below_alloc | apply pw_below_drewN | apply below_drew1) | exact HB.out)) hb); have n1_ := Aside0.mk (hbox); have n2_ := Aside0.mk ((by rw [hg]; exact (below_size (by repeat (first | (with_reducible first | exact HB.out | apply below_alloc | apply pw_below_drewN | apply below_drew1) | exact HB.out))) : w.heap.size ≤ gb148)); have n3_ := Aside0.mk ((by rw [hg]; exact (below_size (by repeat (first | (with_reducible first | exact HB.out | apply below_alloc | apply pw_below_drewN | apply below_drew1) | exact HB.out))) : w.heap.size ≤ gb148)); clear HB; have HB := n0_; have BK148 := n1_; have GW148 := n2_; have GE148 := n3_; clear n0_ n1_ n2_ n3_; clear hb hbox hg; have hcz3_0 : w2.cell? ⟨gb148, 0, none⟩ = some (.slice A0_0 l0_0.length c0_0) := (blk_cell BK148.out 0).trans rfl; have hfz3_0 := blk_frozen BK148.out 0))
 go_loopg [8] k (fun kq v8 w' => ∃ (x8_1 : Int), v8 = .int .i64 x8_1 ∧ Aside0 (impl_isDisk.l0 kq l0_0 (l0_0.length : Int) x8_1 l0_0 = some r) ∧ Aside0 (kq ≤ k) ∧ Aside0 (w'.heap[gb148]? = some (.cells #[(.slice A0_0 l0_0.length c0_0)] 29 (0, 0))) ∧ Aside0 (Below w.heap.size w w'))
 case atStart => exact ⟨(0), (by first | rfl | (simp; done) | (simp [*]; done)), H', ⟨Nat.le_refl _⟩, ⟨by (with_reducible repeat (first | refine blk_drewN ?_ _ | refine blk_drew ?_ | refine blk_alloc ?_ _)); exact BK148.out⟩, ⟨by repeat (first | (with_reducible first | exact HB.out | apply below_alloc | apply pw_below_drewN | apply below_drew1 | refine below_set ?_ GE148.out) | exact HB.out)⟩⟩
 case round =>
  clear H'
  try clear p2
  try clear hcz3_0
  try clear hfz3_0
  obtain ⟨x8_1, rfl, HA, HK1, BK148, HB⟩ := hrel
  cases gk with
  | zero => exact absurd HA.out (by simp [impl_isDisk.l0])
  | succ k1 =>
   have H := HA.out
   clear HA
   simp only [impl_isDisk.l0] at H
   by_cases c4 : x8_1 < (l0_0.length : Int)
   ·
    rw [if_pos c4] at H
    have c4b0 : decide (x8_1 < (l0_0.length : Int)) = true := decide_eq_true c4
    clear c4
    by_cases c5 : 0 ≤ x8_1
    ·
     rw [if_pos c5] at H
     have c5b0 : decide (0 ≤ x8_1) = true := decide_eq_true c5
     clear c5
     by_cases c6 : x8_1 < (l0_0.length : Int)
     ·
      rw [if_pos c6] at H
      have c6b0 : decide (x8_1 < (l0_0.length : Int)) = true := decide_eq_true c6
      clear c6
      replace H := Option.bind_eq_some_iff.mp H
      obtain ⟨t151, A70, H⟩ := H
      replace H : (if t151 = true then (if (wrap64 ((((rd_T74 l0_0 x8_1).f1).length : Int) + (((rd_T74 l0_0 x8_1).f2).length : Int))) > 20000 then (some false) else (if x8_1 > 0 then (if 0 ≤ (wrap64 (x8_1 - 1)) then (if (wrap64 (x8_1 - 1)) < (l0_0.length : Int) then (if ((Op.bytesLess (((rd_T74 l0_0 (wrap64 (x8_1 - 1))).f0).toList) (((rd_T74 l0_0 x8_1).f0).toList)) = true) then (impl_isDisk.l0 k1 l0_0 (l0_0.length : Int) (wrap64 (x8_1 + 1)) l0_0) else (some false)) else (none)) else (none)) else (impl_isDisk.l0 k1 l0_0 (l0_0.length : Int) (wrap64 (x8_1 + 1)) l0_0))) else (some false)) = some r := H
      have A7 := Aside0.mk A70
      clear A70
      by_cases c8 : t151 = true
      ·
       subst c8
       have H1 : (if (wrap64 ((((rd_T74 l0_0 x8_1).f1).length : Int) + (((rd_T74 l0_0 x8_1).f2).length : Int))) > 20000 then (some false) else (if x8_1 > 0 then (if 0 ≤ (wrap64 (x8_1 - 1)) then (if (wrap64 (x8_1 - 1)) < (l0_0.length : Int) then (if ((Op.bytesLess (((rd_T74 l0_0 (wrap64 (x8_1 - 1))).f0).toList) (((rd_T74 l0_0 x8_1).f0).toList)) = true) then (impl_isDisk.l0 k1 l0_0 (l0_0.length : Int) (wrap64 (x8_1 + 1)) l0_0) else (some false)) else (none)) else (none)) else (impl_isDisk.l0 k1 l0_0 (l0_0.length : Int) (wrap64 (x8_1 + 1)) l0_0))) = some r := by rw [if_pos rfl] at H; exact H
       clear H
       have H := H1
       clear H1
       by_cases c9 : (wrap64 ((((rd_T74 l0_0 x8_1).f1).length : Int) + (((rd_T74 l0_0 x8_1).f2).length : Int))) > 20000
       ·
        rw [if_pos c9] at H
        have c9b0 : decide (20000 < (wrap64 ((((rd_T74 l0_0 x8_1).f1).length : Int) + (((rd_T74 l0_0 x8_1).f2).length : Int)))) = true := decide_eq_true c9
        clear c9
        obtain rfl := Option.some.inj H
        have p149 : 0 ≤ (x8_1 : Int) := of_decide_eq_true (by first | (with_reducible assumption) | assumption)
        have q149 : x8_1 < (l0_0.length : Int) := of_decide_eq_true (by first | (with_reducible assumption) | assumption)
        obtain ⟨ad149, A149_1, c149_1, A149_2, c149_2, e149, hx149_0, hx149_1, hx149_2, hl149_1, hi149_1, hl149_2, hi149_2⟩ := at_T74 HR0_0.out x8_1 p149 q149
        cases e149
        replace hx149_0 := (HB.out.cell (World.block_lt_of_cell? w _ hx149_0)).trans hx149_0
        replace hx149_1 := (HB.out.cell (World.block_lt_of_cell? w _ hx149_1)).trans hx149_1
        replace hx149_2 := (HB.out.cell (World.block_lt_of_cell? w _ hx149_2)).trans hx149_2
        have HR149_1 := Aside0.mk hi149_1
        have HC149_1 := Aside0.mk hl149_1
        clear hi149_1 hl149_1
        have HR149_2 := Aside0.mk hi149_2
        have HC149_2 := Aside0.mk hl149_2
        clear hi149_2 hl149_2
        replace p149 := eq_true p149
        replace q149 := eq_true q149
        try go_wp2_with (first | ((with_reducible refine gate_dst (N := 4) rfl ?_); (try (refine gate_guard (by rfl) ?_; dsimp only)); refine box_event ?hg (N := 4) ?hd (cs := #[.string (⟨#[]⟩ : ByteArray), .slice none 0 0, .slice none 0 0]) (t := 74) ?hr ?_; (case hd => rfl); (case hg => rfl); (case hr => first | (go_simp; done) | (go_simp; rfl)); intro gb150 hg w10 hbox hb; have n0_ := Aside0.mk (blk_below (g := gb148) (o := .cells #[.slice (some ad149) l0_0.length c0_0] 29 (0, 0)) (by (with_reducible repeat (first | refine blk_drewN ?_ _ | refine blk_drew ?_ | refine blk_alloc ?_ _)); exact BK148.out) hb); have n1_ := Aside0.mk (below_step (by repeat (first | (with_reducible first | exact HB.out | apply below_alloc | apply pw_below_drewN | apply below_drew1 | refine below_set ?_ GE148.out) | exact HB.out)) hb); have n2_ := Aside0.mk (hbox); have n3_ := Aside0.mk ((by rw [hg]; exact (below_size (by repeat (first | (with_reducible first | exact HB.out | apply below_alloc | apply pw_below_drewN | apply below_drew1 | refine below_set ?_ GE148.out) | exact HB.out))) : w.heap.size ≤ gb150)); have n4_ := Aside0.mk ((by rw [hg]; exact (below_size (by repeat (first | (with_reducible first | exact HB.out | apply below_alloc | apply pw_below_drewN | apply below_drew1 | refine below_set ?_ GE148.out) | exact HB.out))) : w.heap.size ≤ gb150)); have n5_ := Aside0.mk ((by rw [hg]; exact Nat.ne_of_lt (blk_lt (g := gb148) (o := .cells #[.slice (some ad149) l0_0.length c0_0] 29 (0, 0)) (by (with_reducible repeat (first | refine blk_drewN ?_ _ | refine blk_drew ?_ | refine blk_alloc ?_ _)); exact BK148.out)) : gb148 ≠ gb150)); have n6_ := Aside0.mk ((by rw [hg]; exact Nat.ne_of_gt (blk_lt (g := gb148) (o := .cells #[.slice (some ad149) l0_0.length c0_0] 29 (0, 0)) (by (with_reducible repeat (first | refine blk_drewN ?_ _ | refine blk_drew ?_ | refine blk_alloc ?_ _)); exact BK148.out)) : gb150 ≠ gb148)); clear BK148; clear HB; have BK148 := n0_; have HB := n1_; have BK150 := n2_; have GW150 := n3_; have GE150 := n4_; have NB148_150 := n5_; have NB150_148 := n6_; clear n0_ n1_ n2_ n3_ n4_ n5_ n6_; clear hb hbox hg; have hnb11 := NB150_148.out; have hnc11 := NB148_150.out; have hcz12_0 : w10.cell? ⟨gb150, 0, none⟩ = some (.string (⟨#[]⟩ : ByteArray)) := (blk_cell BK150.out 0).trans rfl; have hcz12_1 : w10.cell? ⟨gb150, 1, none⟩ = some (.slice none 0 0) := (blk_cell BK150.out 1).trans rfl; have hcz12_2 : w10.cell? ⟨gb150, 2, none⟩ = some (.slice none 0 0) := (blk_cell BK150.out 2).trans rfl; have hfz12_0 := blk_frozen BK150.out 0; have hfz12_1 := blk_frozen BK150.out 1; have hfz12_2 := blk_frozen BK150.out 2))
        have n0_ : Aside0 ((((w10.setCell ⟨gb150, 0, none⟩ (.string ((rd_T74 l0_0 x8_1).f0))).setCell ⟨gb150, 1, none⟩ (.slice A149_1 ((rd_T74 l0_0 x8_1).f1).length c149_1)).setCell ⟨gb150, 2, none⟩ (.slice A149_2 ((rd_T74 l0_0 x8_1).f2).length c149_2)).heap[gb148]? = some (.cells #[.slice (some ad149) l0_0.length c0_0] 29 (0, 0))) := ⟨by (with_reducible repeat (first | refine blk_drewN ?_ _ | refine blk_drew ?_ | refine blk_alloc ?_ _)); refine blk_far ?_ NB148_150.out _; (with_reducible repeat (first | refine blk_drewN ?_ _ | refine blk_drew ?_ | refine blk_alloc ?_ _)); refine blk_far ?_ NB148_150.out _; (with_reducible repeat (first | refine blk_drewN ?_ _ | refine blk_drew ?_ | refine blk_alloc ?_ _)); refine blk_far ?_ NB148_150.out _; (with_reducible repeat (first | refine blk_drewN ?_ _ | refine blk_drew ?_ | refine blk_alloc ?_ _)); exact BK148.out⟩
        have n1_ : Aside0 ((((w10.setCell ⟨gb150, 0, none⟩ (.string ((rd_T74 l0_0 x8_1).f0))).setCell ⟨gb150, 1, none⟩ (.slice A149_1 ((rd_T74 l0_0 x8_1).f1).length c149_1)).setCell ⟨gb150, 2, none⟩ (.slice A149_2 ((rd_T74 l0_0 x8_1).f2).length c149_2)).heap[gb150]? = some (.cells #[.string ((rd_T74 l0_0 x8_1).f0), .slice A149_1 ((rd_T74 l0_0 x8_1).f1).length c149_1, .slice A149_2 ((rd_T74 l0_0 x8_1).f2).length c149_2] 74 (0, 0))) := ⟨by (with_reducible repeat (first | refine blk_drewN ?_ _ | refine blk_drew ?_ | refine blk_alloc ?_ _)); refine blk_put (cs := #[.string ((rd_T74 l0_0 x8_1).f0), .slice A149_1 ((rd_T74 l0_0 x8_1).f1).length c149_1, .slice none 0 0]) ?_ 2 _ rfl; (with_reducible repeat (first | refine blk_drewN ?_ _ | refine blk_drew ?_ | refine blk_alloc ?_ _)); refine blk_put (cs := #[.string ((rd_T74 l0_0 x8_1).f0), .slice none 0 0, .slice none 0 0]) ?_ 1 _ rfl; (with_reducible repeat (first | refine blk_drewN ?_ _ | refine blk_drew ?_ | refine blk_alloc ?_ _)); refine blk_put (cs := #[.string (⟨#[]⟩ : ByteArray), .slice none 0 0, .slice none 0 0]) ?_ 0 _ rfl; (with_reducible repeat (first | refine blk_drewN ?_ _ | refine blk_drew ?_ | refine blk_alloc ?_ _)); exact BK150.out⟩
        have n2_ : Aside0 (Below w.heap.size w (((w10.setCell ⟨gb150, 0, none⟩ (.string ((rd_T74 l0_0 x8_1).f0))).setCell ⟨gb150, 1, none⟩ (.slice A149_1 ((rd_T74 l0_0 x8_1).f1).length c149_1)).setCell ⟨gb150, 2, none⟩ (.slice A149_2 ((rd_T74 l0_0 x8_1).f2).length c149_2))) := ⟨by repeat (first | (with_reducible first | exact HB.out | apply below_alloc | apply pw_below_drewN | apply below_drew1 | refine below_set ?_ GE148.out | refine below_set ?_ GE150.out) | exact HB.out)⟩
        (try clear BK148)
        (try clear BK150)
        (try clear HB)
        generalize (((w10.setCell ⟨gb150, 0, none⟩ (.string ((rd_T74 l0_0 x8_1).f0))).setCell ⟨gb150, 1, none⟩ (.slice A149_1 ((rd_T74 l0_0 x8_1).f1).length c149_1)).setCell ⟨gb150, 2, none⟩ (.slice A149_2 ((rd_T74 l0_0 x8_1).f2).length c149_2)) = w13 at n0_ n1_ n2_ ⊢
        have BK148 := n0_
        have BK150 := n1_
        have HB := n2_
        clear n0_ n1_ n2_
        have n0_ := Aside0.mk (blk_drew BK148.out)
        have n1_ := Aside0.mk (blk_drew BK150.out)
        have n2_ := Aside0.mk (below_drew1 HB.out)
        clear BK148
        clear BK150
        clear HB
        have BK148 := n0_
        have BK150 := n1_
        have HB := n2_
        clear n0_ n1_ n2_
        refine start_ (n := 30) (S := fun w' => w'.cell? ⟨gb150, 0, none⟩ = some (.string ((rd_T74 l0_0 x8_1).f0)) ∧ w'.cell? ⟨gb150, 1, none⟩ = some (.slice A149_1 ((rd_T74 l0_0 x8_1).f1).length c149_1) ∧ w'.cell? ⟨gb150, 2, none⟩ = some (.slice A149_2 ((rd_T74 l0_0 x8_1).f2).length c149_2)) (ds := []) #[false, false, false, false, false, false, false, false, false, false, false, false, false, false, false, false, false, false, false, false, false, false, false, false, false, false, false, false, false, false] (by kernel_rfl) rfl rfl ⟨(blk_cell BK150.out 0).trans rfl, (blk_cell BK150.out 1).trans rfl, (blk_cell BK150.out 2).trans rfl⟩ (fun hHeld => ?_); refine with_tabW impl_isDisk.tab4 impl_isDisk.bits4 (fun HT_ HW_ => ?_)
        generalize w13.drew = w14 at BK148 BK150 HB hHeld ⊢
        refine pure_ (i := 0) (N := some 13) (v := ?_) (a' := ?_) #[true, false, false, false, false, false, false, false, false, false, false, false, false, false, false, false, false, false, false, false, false, false, false, false, false, false, false, false, false, false] rfl rfl (any_of HT_.out (by kernel_rfl)) (fun _ _ _ h => h) (Or.inl ⟨by rfl, ?_⟩) ?_ ?_
        rotate_left
        ·
         intro w'
         go_simp
         with_reducible rfl
        rotate_left
        ·
         simp only [Act.put, List.setIfInBounds_toArray, List.set_cons_zero, List.set_cons_succ, i64_w, i32_w]
         rfl
        refine take_ (i := 1) (N := some 14) (v := ?_) (a' := ?_) #[true, true, false, false, false, false, false, false, false, false, false, false, false, false, false, false, false, false, false, false, false, false, false, false, false, false, false, false, false, false] rfl rfl (take_ofW HT_.out HW_.out (by kernel_rfl)) (fun _ _ _ h => h) (Or.inl ⟨by rfl, ?_⟩) hHeld ?_ ?_
        rotate_left
        ·
         rintro w' ⟨s0, s1, s2⟩
         go_simp
         with_reducible rfl
        rotate_left
        ·
         simp only [Act.put, List.setIfInBounds_toArray, List.set_cons_zero, List.set_cons_succ, i64_w, i32_w]
         rfl
        refine one_ (i := 2) (N := some 15) #[true, true, true, false, false, false, false, false, false, false, false, false, false, false, false, false, false, false, false, false, false, false, false, false, false, false, false, false, false, false] rfl rfl (one_of HT_.out (by kernel_rfl)) (by decide) (fun K hK => ?_)
        refine goes_ Tryd.func91 (by kernel_rfl) rfl #[.string ((rd_T74 l0_0 x8_1).f0)] (by rfl) rfl rfl (by (try simp only [List.map_toArray, List.map_cons, List.map_nil]); first | done | rfl | (simp only [List.length_drop, List.length_take]; rfl)) ?_
        with_reducible refine (impl_isFileName.calls ((rd_T74 l0_0 x8_1).f0) true _ A7.out).mono ?_
        rintro e w15 ⟨rfl, hb⟩
        refine ⟨_, rfl, ?_⟩
        have n0_ := Aside0.mk (blk_below (g := gb148) (o := .cells #[.slice (some ad149) l0_0.length c0_0] 29 (0, 0)) (by (with_reducible repeat (first | refine blk_drewN ?_ _ | refine blk_drew ?_ | refine blk_alloc ?_ _)); exact BK148.out) hb)
        have n1_ := Aside0.mk (blk_below (g := gb150) (o := .cells #[.string ((rd_T74 l0_0 x8_1).f0), .slice A149_1 ((rd_T74 l0_0 x8_1).f1).length c149_1, .slice A149_2 ((rd_T74 l0_0 x8_1).f2).length c149_2] 74 (0, 0)) (by (with_reducible repeat (first | refine blk_drewN ?_ _ | refine blk_drew ?_ | refine blk_alloc ?_ _)); exact BK150.out) hb)
        have n2_ := Aside0.mk (below_step (by repeat (first | (with_reducible first | exact HB.out | apply below_alloc | apply pw_below_drewN | apply below_drew1 | refine below_set ?_ GE148.out | refine below_set ?_ GE150.out) | exact HB.out)) hb)
        clear BK148
        clear BK150
        clear HB
        have BK148 := n0_
        have BK150 := n1_
        have HB := n2_
        clear n0_ n1_ n2_
        (try clear hb)
        (try clear hb2)
        (try clear hk)
        (try clear hi)
        refine hK.out _ _ ⟨(blk_cell BK150.out 0).trans rfl, (blk_cell BK150.out 1).trans rfl, (blk_cell BK150.out 2).trans rfl⟩ (fun hHeld => ?_)
        clear hK K
        refine norm_ (a' := ?_) ?_ ?_
        rotate_left
        ·
         show Act.put _ (some 15) _ = _
         simp only [Act.put, List.setIfInBounds_toArray, List.set_cons_zero, List.set_cons_succ, i64_w, i32_w]
         rfl
        refine pure_ (i := 3) (N := some 16) (v := ?_) (a' := ?_) #[true, true, true, true, false, false, false, false, false, false, false, false, false, false, false, false, false, false, false, false, false, false, false, false, false, false, false, false, false, false] rfl rfl (any_of HT_.out (by kernel_rfl)) (fun _ _ _ h => h) (Or.inl ⟨by rfl, ?_⟩) ?_ ?_
        rotate_left
        ·
         intro w'
         go_simp
         with_reducible rfl
        rotate_left
        ·
         simp only [Act.put, List.setIfInBounds_toArray, List.set_cons_zero, List.set_cons_succ, i64_w, i32_w]
         rfl
        refine pure_ (i := 4) (N := some 17) (v := ?_) (a' := ?_) #[true, true, true, true, true, false, false, false, false, false, false, false, false, false, false, false, false, false, false, false, false, false, false, false, false, false, false, false, false, false] rfl rfl (any_of HT_.out (by kernel_rfl)) (fun _ _ _ h => h) (Or.inl ⟨by rfl, ?_⟩) ?_ ?_
        rotate_left
        ·
         intro w'
         go_simp
         with_reducible rfl
        rotate_left
        ·
         simp only [Act.put, List.setIfInBounds_toArray, List.set_cons_zero, List.set_cons_succ, i64_w, i32_w]
         rfl
        refine pure_ (i := 5) (N := some 18) (v := ?_) (a' := ?_) #[true, true, true, true, true, true, false, false, false, false, false, false, false, false, false, false, false, false, false, false, false, false, false, false, false, false, false, false, false, false] rfl rfl (any_of HT_.out (by kernel_rfl)) (fun _ _ _ h => h) (Or.inl ⟨by rfl, ?_⟩) ?_ ?_
        rotate_left
        ·
         intro w'
         go_simp
         with_reducible rfl
        rotate_left
        ·
         simp only [Act.put, List.setIfInBounds_toArray, List.set_cons_zero, List.set_cons_succ, i64_w, i32_w]
         rfl
        refine pure_ (i := 8) (N := some 21) (v := ?_) (a' := ?_) #[true, true, true, true, true, true, false, false, true, false, false, false, false, false, false, false, false, false, false, false, false, false, false, false, false, false, false, false, false, false] rfl rfl (any_of HT_.out (by kernel_rfl)) (fun _ _ _ h => h) (Or.inl ⟨by rfl, ?_⟩) ?_ ?_
        rotate_left
        ·
         intro w'
         go_simp
         with_reducible rfl
        rotate_left
        ·
         simp only [Act.put, List.setIfInBounds_toArray, List.set_cons_zero, List.set_cons_succ, i64_w, i32_w]
         rfl
        refine take_ (i := 6) (N := some 19) (v := ?_) (a' := ?_) #[true, true, true, true, true, true, true, false, true, false, false, false, false, false, false, false, false, false, false, false, false, false, false, false, false, false, false, false, false, false] rfl rfl (take_ofW HT_.out HW_.out (by kernel_rfl)) (fun _ _ _ h => h) (Or.inl ⟨by rfl, ?_⟩) hHeld ?_ ?_
        rotate_left
        ·
         rintro w' ⟨s0, s1, s2⟩
         go_simp
         with_reducible rfl
        rotate_left
        ·
         simp only [Act.put, List.setIfInBounds_toArray, List.set_cons_zero, List.set_cons_succ, i64_w, i32_w]
         rfl
        refine pure_ (i := 7) (N := some 20) (v := ?_) (a' := ?_) #[true, true, true, true, true, true, true, true, true, false, false, false, false, false, false, false, false, false, false, false, false, false, false, false, false, false, false, false, false, false] rfl rfl (any_of HT_.out (by kernel_rfl)) (fun _ _ _ h => h) (Or.inl ⟨by rfl, ?_⟩) ?_ ?_
        rotate_left
        ·
         intro w'
         go_simp
         with_reducible rfl
        rotate_left
        ·
         simp only [Act.put, List.setIfInBounds_toArray, List.set_cons_zero, List.set_cons_succ, i64_w, i32_w]
         rfl
        refine take_ (i := 9) (N := some 22) (v := ?_) (a' := ?_) #[true, true, true, true, true, true, true, true, true, true, false, false, false, false, false, false, false, false, false, false, false, false, false, false, false, false, false, false, false, false] rfl rfl (take_ofW HT_.out HW_.out (by kernel_rfl)) (fun _ _ _ h => h) (Or.inl ⟨by rfl, ?_⟩) hHeld ?_ ?_
        rotate_left
        ·
         rintro w' ⟨s0, s1, s2⟩
         go_simp
         with_reducible rfl
        rotate_left
        ·
         simp only [Act.put, List.setIfInBounds_toArray, List.set_cons_zero, List.set_cons_succ, i64_w, i32_w]
         rfl
        refine pure_ (i := 10) (N := some 23) (v := ?_) (a' := ?_) #[true, true, true, true, true, true, true, true, true, true, true, false, false, false, false, false, false, false, false, false, false, false, false, false, false, false, false, false, false, false] rfl rfl (any_of HT_.out (by kernel_rfl)) (fun _ _ _ h => h) (Or.inl ⟨by rfl, ?_⟩) ?_ ?_
        rotate_left
        ·
         intro w'
         go_simp
         with_reducible rfl
        rotate_left
        ·
         simp only [Act.put, List.setIfInBounds_toArray, List.set_cons_zero, List.set_cons_succ, i64_w, i32_w]
         rfl
        refine pure_ (i := 11) (N := some 24) (v := ?_) (a' := ?_) #[true, true, true, true, true, true, true, true, true, true, true, true, false, false, false, false, false, false, false, false, false, false, false, false, false, false, false, false, false, false] rfl rfl (any_of HT_.out (by kernel_rfl)) (fun _ _ _ h => h) (Or.inl ⟨by rfl, ?_⟩) ?_ ?_
        rotate_left
        ·
         intro w'
         go_simp
         with_reducible rfl
        rotate_left
        ·
         simp only [Act.put, List.setIfInBounds_toArray, List.set_cons_zero, List.set_cons_succ, i64_w, i32_w]
         rfl
        refine pure_ (i := 12) (N := some 25) (v := ?_) (a' := ?_) #[true, true, true, true, true, true, true, true, true, true, true, true, true, false, false, false, false, false, false, false, false, false, false, false, false, false, false, false, false, false] rfl rfl (any_of HT_.out (by kernel_rfl)) (fun _ _ _ h => h) (Or.inl ⟨by rfl, ?_⟩) ?_ ?_
        rotate_left
        ·
         intro w'
         go_simp
         with_reducible rfl
        rotate_left
        ·
         simp only [Act.put, List.setIfInBounds_toArray, List.set_cons_zero, List.set_cons_succ, i64_w, i32_w]
         rfl
        refine pure_ (i := 13) (N := some 26) (v := ?_) (a' := ?_) #[true, true, true, true, true, true, true, true, true, true, true, true, true, true, false, false, false, false, false, false, false, false, false, false, false, false, false, false, false, false] rfl rfl (any_of HT_.out (by kernel_rfl)) (fun _ _ _ h => h) (Or.inl ⟨by rfl, ?_⟩) ?_ ?_
        rotate_left
        ·
         intro w'
         go_simp
         with_reducible rfl
        rotate_left
        ·
         simp only [Act.put, List.setIfInBounds_toArray, List.set_cons_zero, List.set_cons_succ, i64_w, i32_w]
         rfl
        refine pure_ (i := 14) (N := some 27) (v := ?_) (a' := ?_) #[true, true, true, true, true, true, true, true, true, true, true, true, true, true, true, false, false, false, false, false, false, false, false, false, false, false, false, false, false, false] rfl rfl (any_of HT_.out (by kernel_rfl)) (fun _ _ _ h => h) (Or.inl ⟨by rfl, ?_⟩) ?_ ?_
        rotate_left
        ·
         intro w'
         go_simp
         with_reducible rfl
        rotate_left
        ·
         simp only [Act.put, List.setIfInBounds_toArray, List.set_cons_zero, List.set_cons_succ, i64_w, i32_w]
         rfl
        refine pure_ (i := 15) (N := some 28) (v := undef) (a' := ?_) #[true, true, true, true, true, true, true, true, true, true, true, true, true, true, true, true, false, false, false, false, false, false, false, false, false, false, false, false, false, false] rfl rfl (any_of HT_.out (by kernel_rfl)) (fun _ _ _ h => h) (Or.inr ⟨by rfl, rfl⟩) ?_ ?_
        rotate_left
        ·
         simp only [Act.put, List.setIfInBounds_toArray, List.set_cons_zero, List.set_cons_succ, i64_w, i32_w]
         rfl
        refine pure_ (i := 16) (N := some 29) (v := undef) (a' := ?_) #[true, true, true, true, true, true, true, true, true, true, true, true, true, true, true, true, true, false, false, false, false, false, false, false, false, false, false, false, false, false] rfl rfl (any_of HT_.out (by kernel_rfl)) (fun _ _ _ h => h) (Or.inr ⟨by rfl, rfl⟩) ?_ ?_
        rotate_left
        ·
         simp only [Act.put, List.setIfInBounds_toArray, List.set_cons_zero, List.set_cons_succ, i64_w, i32_w]
         rfl
        refine pure_ (i := 17) (N := some 30) (v := undef) (a' := ?_) #[true, true, true, true, true, true, true, true, true, true, true, true, true, true, true, true, true, true, false, false, false, false, false, false, false, false, false, false, false, false] rfl rfl (any_of HT_.out (by kernel_rfl)) (fun _ _ _ h => h) (Or.inr ⟨by rfl, rfl⟩) ?_ ?_
        rotate_left
        ·
         simp only [Act.put, List.setIfInBounds_toArray, List.set_cons_zero, List.set_cons_succ, i64_w, i32_w]
         rfl
        refine pure_ (i := 18) (N := some 31) (v := undef) (a' := ?_) #[true, true, true, true, true, true, true, true, true, true, true, true, true, true, true, true, true, true, true, false, false, false, false, false, false, false, false, false, false, false] rfl rfl (any_of HT_.out (by kernel_rfl)) (fun _ _ _ h => h) (Or.inr ⟨by rfl, rfl⟩) ?_ ?_
        rotate_left
        ·
         simp only [Act.put, List.setIfInBounds_toArray, List.set_cons_zero, List.set_cons_succ, i64_w, i32_w]
         rfl
        refine pure_ (i := 19) (N := some 32) (v := undef) (a' := ?_) #[true, true, true, true, true, true, true, true, true, true, true, true, true, true, true, true, true, true, true, true, false, false, false, false, false, false, false, false, false, false] rfl rfl (any_of HT_.out (by kernel_rfl)) (fun _ _ _ h => h) (Or.inr ⟨by rfl, rfl⟩) ?_ ?_
        rotate_left
        ·
         simp only [Act.put, List.setIfInBounds_toArray, List.set_cons_zero, List.set_cons_succ, i64_w, i32_w]
         rfl
        refine pure_ (i := 20) (N := some 33) (v := undef) (a' := ?_) #[true, true, true, true, true, true, true, true, true, true, true, true, true, true, true, true, true, true, true, true, true, false, false, false, false, false, false, false, false, false] rfl rfl (any_of HT_.out (by kernel_rfl)) (fun _ _ _ h => h) (Or.inr ⟨by rfl, rfl⟩) ?_ ?_
        rotate_left
        ·
         simp only [Act.put, List.setIfInBounds_toArray, List.set_cons_zero, List.set_cons_succ, i64_w, i32_w]
         rfl
        refine pure_ (i := 21) (N := some 34) (v := undef) (a' := ?_) #[true, true, true, true, true, true, true, true, true, true, true, true, true, true, true, true, true, true, true, true, true, true, false, false, false, false, false, false, false, false] rfl rfl (any_of HT_.out (by kernel_rfl)) (fun _ _ _ h => h) (Or.inr ⟨by rfl, rfl⟩) ?_ ?_
        rotate_left
        ·
         simp only [Act.put, List.setIfInBounds_toArray, List.set_cons_zero, List.set_cons_succ, i64_w, i32_w]
         rfl
        refine pure_ (i := 22) (N := some 35) (v := undef) (a' := ?_) #[true, true, true, true, true, true, true, true, true, true, true, true, true, true, true, true, true, true, true, true, true, true, true, false, false, false, false, false, false, false] rfl rfl (any_of HT_.out (by kernel_rfl)) (fun _ _ _ h => h) (Or.inr ⟨by rfl, rfl⟩) ?_ ?_
        rotate_left
        ·
         simp only [Act.put, List.setIfInBounds_toArray, List.set_cons_zero, List.set_cons_succ, i64_w, i32_w]
         rfl
        refine pure_ (i := 23) (N := some 36) (v := undef) (a' := ?_) #[true, true, true, true, true, true, true, true, true, true, true, true, true, true, true, true, true, true, true, true, true, true, true, true, false, false, false, false, false, false] rfl rfl (any_of HT_.out (by kernel_rfl)) (fun _ _ _ h => h) (Or.inr ⟨by rfl, rfl⟩) ?_ ?_
        rotate_left
        ·
         simp only [Act.put, List.setIfInBounds_toArray, List.set_cons_zero, List.set_cons_succ, i64_w, i32_w]
         rfl
        refine pure_ (i := 24) (N := some 37) (v := undef) (a' := ?_) #[true, true, true, true, true, true, true, true, true, true, true, true, true, true, true, true, true, true, true, true, true, true, true, true, true, false, false, false, false, false] rfl rfl (any_of HT_.out (by kernel_rfl)) (fun _ _ _ h => h) (Or.inr ⟨by rfl, rfl⟩) ?_ ?_
        rotate_left
        ·
         simp only [Act.put, List.setIfInBounds_toArray, List.set_cons_zero, List.set_cons_succ, i64_w, i32_w]
         rfl
        refine pure_ (i := 25) (N := some 38) (v := undef) (a' := ?_) #[true, true, true, true, true, true, true, true, true, true, true, true, true, true, true, true, true, true, true, true, true, true, true, true, true, true, false, false, false, false] rfl rfl (any_of HT_.out (by kernel_rfl)) (fun _ _ _ h => h) (Or.inr ⟨by rfl, rfl⟩) ?_ ?_
        rotate_left
        ·
         simp only [Act.put, List.setIfInBounds_toArray, List.set_cons_zero, List.set_cons_succ, i64_w, i32_w]
         rfl
        refine pure_ (i := 26) (N := some 39) (v := undef) (a' := ?_) #[true, true, true, true, true, true, true, true, true, true, true, true, true, true, true, true, true, true, true, true, true, true, true, true, true, true, true, false, false, false] rfl rfl (any_of HT_.out (by kernel_rfl)) (fun _ _ _ h => h) (Or.inr ⟨by rfl, rfl⟩) ?_ ?_
        rotate_left
        ·
         simp only [Act.put, List.setIfInBounds_toArray, List.set_cons_zero, List.set_cons_succ, i64_w, i32_w]
         rfl
        refine pure_ (i := 27) (N := some 40) (v := undef) (a' := ?_) #[true, true, true, true, true, true, true, true, true, true, true, true, true, true, true, true, true, true, true, true, true, true, true, true, true, true, true, true, false, false] rfl rfl (any_of HT_.out (by kernel_rfl)) (fun _ _ _ h => h) (Or.inr ⟨by rfl, rfl⟩) ?_ ?_
        rotate_left
        ·
         simp only [Act.put, List.setIfInBounds_toArray, List.set_cons_zero, List.set_cons_succ, i64_w, i32_w]
         rfl
        refine pure_ (i := 28) (N := some 41) (v := undef) (a' := ?_) #[true, true, true, true, true, true, true, true, true, true, true, true, true, true, true, true, true, true, true, true, true, true, true, true, true, true, true, true, true, false] rfl rfl (any_of HT_.out (by kernel_rfl)) (fun _ _ _ h => h) (Or.inr ⟨by rfl, rfl⟩) ?_ ?_
        rotate_left
        ·
         simp only [Act.put, List.setIfInBounds_toArray, List.set_cons_zero, List.set_cons_succ, i64_w, i32_w]
         rfl
        refine pure_ (i := 29) (N := some 42) (v := ?_) (a' := ?_) #[true, true, true, true, true, true, true, true, true, true, true, true, true, true, true, true, true, true, true, true, true, true, true, true, true, true, true, true, true, true] rfl rfl (any_of HT_.out (by kernel_rfl)) (fun _ _ _ h => h) (Or.inl ⟨by rfl, ?_⟩) ?_ ?_
        rotate_left
        ·
         intro w'
         go_simp
         with_reducible rfl
        rotate_left
        ·
         simp only [Act.put, List.setIfInBounds_toArray, List.set_cons_zero, List.set_cons_succ, i64_w, i32_w]
         rfl
        refine done_ (done_of HT_.out (by kernel_rfl)) ?_
        try go_wp2
        go_ret
        exact ⟨by first | rfl | (simp [errW_none, errW_some] <;> rfl) | (simp [*, errW_none, errW_some] <;> rfl), by repeat (first | (with_reducible first | exact HB.out | apply below_alloc | apply pw_below_drewN | apply below_drew1 | refine below_set ?_ GE148.out | refine below_set ?_ GE150.out) | exact HB.out)⟩
       ·
        rw [if_neg c9] at H
        have c9b0 : decide (20000 < (wrap64 ((((rd_T74 l0_0 x8_1).f1).length : Int) + (((rd_T74 l0_0 x8_1).f2).length : Int)))) = false := decide_eq_false c9
        clear c9
        by_cases c16 : x8_1 > 0
        ·
         rw [if_pos c16] at H
         have c16b0 : decide (0 < x8_1) = true := decide_eq_true c16
         clear c16
         obtain ⟨ji17, hji17⟩ : ∃ j_ : Int, (wrap64 (x8_1 - 1)) = j_ := ⟨_, rfl⟩
         replace H : (if 0 ≤ (ji17) then (if (ji17) < (l0_0.length : Int) then (if ((Op.bytesLess (((rd_T74 l0_0 (ji17)).f0).toList) (((rd_T74 l0_0 x8_1).f0).toList)) = true) then (impl_isDisk.l0 k1 l0_0 (l0_0.length : Int) (wrap64 (x8_1 + 1)) l0_0) else (some false)) else (none)) else (none)) = some r := by first | (rw [hji17] at H; exact H) | (simp only [hji17] at H ⊢; exact H)
         (try rw [hji17] at A7)
         have hji17w : (IntKind.i64.wrap (x8_1 - 1)) = ji17 := (i64_w _).trans hji17
         by_cases c18 : 0 ≤ (ji17)
         ·
          rw [if_pos c18] at H
          have c18b0 : decide (0 ≤ (ji17)) = true := decide_eq_true c18
          clear c18
          by_cases c19 : (ji17) < (l0_0.length : Int)
          ·
           rw [if_pos c19] at H
           have c19b0 : decide ((ji17) < (l0_0.length : Int)) = true := decide_eq_true c19
           clear c19
           by_cases c20 : ((Op.bytesLess (((rd_T74 l0_0 (ji17)).f0).toList) (((rd_T74 l0_0 x8_1).f0).toList)) = true)
           ·
            rw [if_pos c20] at H
            have c20b0 : (Op.bytesLess (((rd_T74 l0_0 (ji17)).f0).toList) (((rd_T74 l0_0 x8_1).f0).toList)) = true := c20
            clear c20
            have H' := Aside0.mk H
            clear H
            have p149 : 0 ≤ (x8_1 : Int) := of_decide_eq_true (by first | (with_reducible assumption) | assumption)
            have q149 : x8_1 < (l0_0.length : Int) := of_decide_eq_true (by first | (with_reducible assumption) | assumption)
            obtain ⟨ad149, A149_1, c149_1, A149_2, c149_2, e149, hx149_0, hx149_1, hx149_2, hl149_1, hi149_1, hl149_2, hi149_2⟩ := at_T74 HR0_0.out x8_1 p149 q149
            cases e149
            replace hx149_0 := (HB.out.cell (World.block_lt_of_cell? w _ hx149_0)).trans hx149_0
            replace hx149_1 := (HB.out.cell (World.block_lt_of_cell? w _ hx149_1)).trans hx149_1
            replace hx149_2 := (HB.out.cell (World.block_lt_of_cell? w _ hx149_2)).trans hx149_2
            have HR149_1 := Aside0.mk hi149_1
            have HC149_1 := Aside0.mk hl149_1
            clear hi149_1 hl149_1
            have HR149_2 := Aside0.mk hi149_2
            have HC149_2 := Aside0.mk hl149_2
            clear hi149_2 hl149_2
            replace p149 := eq_true p149
            replace q149 := eq_true q149
            try go_wp2_with (first | ((with_reducible refine gate_dst (N := 4) rfl ?_); (try (refine gate_guard (by rfl) ?_; dsimp only)); refine box_event ?hg (N := 4) ?hd (cs := #[.string (⟨#[]⟩ : ByteArray), .slice none 0 0, .slice none 0 0]) (t := 74) ?hr ?_; (case hd => rfl); (case hg => rfl); (case hr => first | (go_simp; done) | (go_simp; rfl)); intro gb150 hg w21 hbox hb; have n0_ := Aside0.mk (blk_below (g := gb148) (o := .cells #[.slice (some ad149) l0_0.length c0_0] 29 (0, 0)) (by (with_reducible repeat (first | refine blk_drewN ?_ _ | refine blk_drew ?_ | refine blk_alloc ?_ _)); exact BK148.out) hb); have n1_ := Aside0.mk (below_step (by repeat (first | (with_reducible first | exact HB.out | apply below_alloc | apply pw_below_drewN | apply below_drew1 | refine below_set ?_ GE148.out) | exact HB.out)) hb); have n2_ := Aside0.mk (hbox); have n3_ := Aside0.mk ((by rw [hg]; exact (below_size (by repeat (first | (with_reducible first | exact HB.out | apply below_alloc | apply pw_below_drewN | apply below_drew1 | refine below_set ?_ GE148.out) | exact HB.out))) : w.heap.size ≤ gb150)); have n4_ := Aside0.mk ((by rw [hg]; exact (below_size (by repeat (first | (with_reducible first | exact HB.out | apply below_alloc | apply pw_below_drewN | apply below_drew1 | refine below_set ?_ GE148.out) | exact HB.out))) : w.heap.size ≤ gb150)); have n5_ := Aside0.mk ((by rw [hg]; exact Nat.ne_of_lt (blk_lt (g := gb148) (o := .cells #[.slice (some ad149) l0_0.length c0_0] 29 (0, 0)) (by (with_reducible repeat (first | refine blk_drewN ?_ _ | refine blk_drew ?_ | refine blk_alloc ?_ _)); exact BK148.out)) : gb148 ≠ gb150)); have n6_ := Aside0.mk ((by rw [hg]; exact Nat.ne_of_gt (blk_lt (g := gb148) (o := .cells #[.slice (some ad149) l0_0.length c0_0] 29 (0, 0)) (by (with_reducible repeat (first | refine blk_drewN ?_ _ | refine blk_drew ?_ | refine blk_alloc ?_ _)); exact BK148.out)) : gb150 ≠ gb148)); clear BK148; clear HB; have BK148 := n0_; have HB := n1_; have BK150 := n2_; have GW150 := n3_; have GE150 := n4_; have NB148_150 := n5_; have NB150_148 := n6_; clear n0_ n1_ n2_ n3_ n4_ n5_ n6_; clear hb hbox hg; have hnb22 := NB150_148.out; have hnc22 := NB148_150.out; have hcz23_0 : w21.cell? ⟨gb150, 0, none⟩ = some (.string (⟨#[]⟩ : ByteArray)) := (blk_cell BK150.out 0).trans rfl; have hcz23_1 : w21.cell? ⟨gb150, 1, none⟩ = some (.slice none 0 0) := (blk_cell BK150.out 1).trans rfl; have hcz23_2 : w21.cell? ⟨gb150, 2, none⟩ = some (.slice none 0 0) := (blk_cell BK150.out 2).trans rfl; have hfz23_0 := blk_frozen BK150.out 0; have hfz23_1 := blk_frozen BK150.out 1; have hfz23_2 := blk_frozen BK150.out 2))
            have n0_ : Aside0 ((((w21.setCell ⟨gb150, 0, none⟩ (.string ((rd_T74 l0_0 x8_1).f0))).setCell ⟨gb150, 1, none⟩ (.slice A149_1 ((rd_T74 l0_0 x8_1).f1).length c149_1)).setCell ⟨gb150, 2, none⟩ (.slice A149_2 ((rd_T74 l0_0 x8_1).f2).length c149_2)).heap[gb148]? = some (.cells #[.slice (some ad149) l0_0.length c0_0] 29 (0, 0))) := ⟨by (with_reducible repeat (first | refine blk_drewN ?_ _ | refine blk_drew ?_ | refine blk_alloc ?_ _)); refine blk_far ?_ NB148_150.out _; (with_reducible repeat (first | refine blk_drewN ?_ _ | refine blk_drew ?_ | refine blk_alloc ?_ _)); refine blk_far ?_ NB148_150.out _; (with_reducible repeat (first | refine blk_drewN ?_ _ | refine blk_drew ?_ | refine blk_alloc ?_ _)); refine blk_far ?_ NB148_150.out _; (with_reducible repeat (first | refine blk_drewN ?_ _ | refine blk_drew ?_ | refine blk_alloc ?_ _)); exact BK148.out⟩
            have n1_ : Aside0 ((((w21.setCell ⟨gb150, 0, none⟩ (.string ((rd_T74 l0_0 x8_1).f0))).setCell ⟨gb150, 1, none⟩ (.slice A149_1 ((rd_T74 l0_0 x8_1).f1).length c149_1)).setCell ⟨gb150, 2, none⟩ (.slice A149_2 ((rd_T74 l0_0 x8_1).f2).length c149_2)).heap[gb150]? = some (.cells #[.string ((rd_T74 l0_0 x8_1).f0), .slice A149_1 ((rd_T74 l0_0 x8_1).f1).length c149_1, .slice A149_2 ((rd_T74 l0_0 x8_1).f2).length c149_2] 74 (0, 0))) := ⟨by (with_reducible repeat (first | refine blk_drewN ?_ _ | refine blk_drew ?_ | refine blk_alloc ?_ _)); refine blk_put (cs := #[.string ((rd_T74 l0_0 x8_1).f0), .slice A149_1 ((rd_T74 l0_0 x8_1).f1).length c149_1, .slice none 0 0]) ?_ 2 _ rfl; (with_reducible repeat (first | refine blk_drewN ?_ _ | refine blk_drew ?_ | refine blk_alloc ?_ _)); refine blk_put (cs := #[.string ((rd_T74 l0_0 x8_1).f0), .slice none 0 0, .slice none 0 0]) ?_ 1 _ rfl; (with_reducible repeat (first | refine blk_drewN ?_ _ | refine blk_drew ?_ | refine blk_alloc ?_ _)); refine blk_put (cs := #[.string (⟨#[]⟩ : ByteArray), .slice none 0 0, .slice none 0 0]) ?_ 0 _ rfl; (with_reducible repeat (first | refine blk_drewN ?_ _ | refine blk_drew ?_ | refine blk_alloc ?_ _)); exact BK150.out⟩
            have n2_ : Aside0 (Below w.heap.size w (((w21.setCell ⟨gb150, 0, none⟩ (.string ((rd_T74 l0_0 x8_1).f0))).setCell ⟨gb150, 1, none⟩ (.slice A149_1 ((rd_T74 l0_0 x8_1).f1).length c149_1)).setCell ⟨gb150, 2, none⟩ (.slice A149_2 ((rd_T74 l0_0 x8_1).f2).length c149_2))) := ⟨by repeat (first | (with_reducible first | exact HB.out | apply below_alloc | apply pw_below_drewN | apply below_drew1 | refine below_set ?_ GE148.out | refine below_set ?_ GE150.out) | exact HB.out)⟩
            (try clear BK148)
            (try clear BK150)
            (try clear HB)
            generalize (((w21.setCell ⟨gb150, 0, none⟩ (.string ((rd_T74 l0_0 x8_1).f0))).setCell ⟨gb150, 1, none⟩ (.slice A149_1 ((rd_T74 l0_0 x8_1).f1).length c149_1)).setCell ⟨gb150, 2, none⟩ (.slice A149_2 ((rd_T74 l0_0 x8_1).f2).length c149_2)) = w24 at n0_ n1_ n2_ ⊢
            have BK148 := n0_
            have BK150 := n1_
            have HB := n2_
            clear n0_ n1_ n2_
            have n0_ := Aside0.mk (blk_drew BK148.out)
            have n1_ := Aside0.mk (blk_drew BK150.out)
            have n2_ := Aside0.mk (below_drew1 HB.out)
            clear BK148
            clear BK150
            clear HB
            have BK148 := n0_
            have BK150 := n1_
            have HB := n2_
            clear n0_ n1_ n2_
            have p152 : 0 ≤ ((ji17) : Int) := of_decide_eq_true (by first | (with_reducible assumption) | assumption)
            have q152 : (ji17) < (l0_0.length : Int) := of_decide_eq_true (by first | (with_reducible assumption) | assumption)
            obtain ⟨ad152, A152_1, c152_1, A152_2, c152_2, e152, hx152_0, hx152_1, hx152_2, hl152_1, hi152_1, hl152_2, hi152_2⟩ := at_T74 HR0_0.out (ji17) p152 q152
            have hw152_2 := hx152_2
            have hw152_1 := hx152_1
            have hw152_0 := hx152_0
            obtain rfl : ad149 = ad152 := (by injection e152)
            replace hx152_0 := (HB.out.cell (World.block_lt_of_cell? w _ hx152_0)).trans hx152_0
            replace hx152_1 := (HB.out.cell (World.block_lt_of_cell? w _ hx152_1)).trans hx152_1
            replace hx152_2 := (HB.out.cell (World.block_lt_of_cell? w _ hx152_2)).trans hx152_2
            have HR152_1 := Aside0.mk hi152_1
            have HC152_1 := Aside0.mk hl152_1
            clear hi152_1 hl152_1
            have HR152_2 := Aside0.mk hi152_2
            have HC152_2 := Aside0.mk hl152_2
            clear hi152_2 hl152_2
            replace p152 := eq_true p152
            replace q152 := eq_true q152
            refine start_ (n := 30) (S := fun w' => w'.cell? ⟨gb150, 0, none⟩ = some (.string ((rd_T74 l0_0 x8_1).f0)) ∧ w'.cell? ⟨gb150, 1, none⟩ = some (.slice A149_1 ((rd_T74 l0_0 x8_1).f1).length c149_1) ∧ w'.cell? ⟨gb150, 2, none⟩ = some (.slice A149_2 ((rd_T74 l0_0 x8_1).f2).length c149_2) ∧ w'.cell? ⟨gb148, 0, none⟩ = some (.slice (some ad149) l0_0.length c0_0) ∧ w'.cell? (ad149.add (((ji17)).toNat * 3)) = some (.string ((rd_T74 l0_0 (ji17)).f0)) ∧ w'.cell? ⟨(ad149.add (((ji17)).toNat * 3)).block, (ad149.add (((ji17)).toNat * 3)).off + 1, none⟩ = some (.slice A152_1 ((rd_T74 l0_0 (ji17)).f1).length c152_1) ∧ w'.cell? ⟨(ad149.add (((ji17)).toNat * 3)).block, (ad149.add (((ji17)).toNat * 3)).off + 2, none⟩ = some (.slice A152_2 ((rd_T74 l0_0 (ji17)).f2).length c152_2)) (ds := []) #[false, false, false, false, false, false, false, false, false, false, false, false, false, false, false, false, false, false, false, false, false, false, false, false, false, false, false, false, false, false] (by kernel_rfl) rfl rfl ⟨(blk_cell BK150.out 0).trans rfl, (blk_cell BK150.out 1).trans rfl, (blk_cell BK150.out 2).trans rfl, (blk_cell BK148.out 0).trans rfl, ((HB.out.cell (World.block_lt_of_cell? w _ hw152_0)).trans hw152_0), ((HB.out.cell (World.block_lt_of_cell? w _ hw152_1)).trans hw152_1), ((HB.out.cell (World.block_lt_of_cell? w _ hw152_2)).trans hw152_2)⟩ (fun hHeld => ?_); refine with_tabW impl_isDisk.tab4 impl_isDisk.bits4 (fun HT_ HW_ => ?_)
            generalize w24.drew = w25 at BK148 BK150 HB HR152_1 HR152_2 hx152_0 hx152_1 hx152_2 hHeld ⊢
            refine pure_ (i := 0) (N := some 13) (v := ?_) (a' := ?_) #[true, false, false, false, false, false, false, false, false, false, false, false, false, false, false, false, false, false, false, false, false, false, false, false, false, false, false, false, false, false] rfl rfl (any_of HT_.out (by kernel_rfl)) (fun _ _ _ h => h) (Or.inl ⟨by rfl, ?_⟩) ?_ ?_
            rotate_left
            ·
             intro w'
             go_simp
             with_reducible rfl
            rotate_left
            ·
             simp only [Act.put, List.setIfInBounds_toArray, List.set_cons_zero, List.set_cons_succ, i64_w, i32_w]
             rfl
            refine take_ (i := 1) (N := some 14) (v := ?_) (a' := ?_) #[true, true, false, false, false, false, false, false, false, false, false, false, false, false, false, false, false, false, false, false, false, false, false, false, false, false, false, false, false, false] rfl rfl (take_ofW HT_.out HW_.out (by kernel_rfl)) (fun _ _ _ h => h) (Or.inl ⟨by rfl, ?_⟩) hHeld ?_ ?_
            rotate_left
            ·
             rintro w' ⟨s0, s1, s2, s3, s4, s5, s6⟩
             go_simp
             with_reducible rfl
            rotate_left
            ·
             simp only [Act.put, List.setIfInBounds_toArray, List.set_cons_zero, List.set_cons_succ, i64_w, i32_w]
             rfl
            refine one_ (i := 2) (N := some 15) #[true, true, true, false, false, false, false, false, false, false, false, false, false, false, false, false, false, false, false, false, false, false, false, false, false, false, false, false, false, false] rfl rfl (one_of HT_.out (by kernel_rfl)) (by decide) (fun K hK => ?_)
            refine goes_ Tryd.func91 (by kernel_rfl) rfl #[.string ((rd_T74 l0_0 x8_1).f0)] (by rfl) rfl rfl (by (try simp only [List.map_toArray, List.map_cons, List.map_nil]); first | done | rfl | (simp only [List.length_drop, List.length_take]; rfl)) ?_
            with_reducible refine (impl_isFileName.calls ((rd_T74 l0_0 x8_1).f0) true _ A7.out).mono ?_
            rintro e w26 ⟨rfl, hb⟩
            refine ⟨_, rfl, ?_⟩
            have n0_ := Aside0.mk (blk_below (g := gb148) (o := .cells #[.slice (some ad149) l0_0.length c0_0] 29 (0, 0)) (by (with_reducible repeat (first | refine blk_drewN ?_ _ | refine blk_drew ?_ | refine blk_alloc ?_ _)); exact BK148.out) hb)
            have n1_ := Aside0.mk (blk_below (g := gb150) (o := .cells #[.string ((rd_T74 l0_0 x8_1).f0), .slice A149_1 ((rd_T74 l0_0 x8_1).f1).length c149_1, .slice A149_2 ((rd_T74 l0_0 x8_1).f2).length c149_2] 74 (0, 0)) (by (with_reducible repeat (first | refine blk_drewN ?_ _ | refine blk_drew ?_ | refine blk_alloc ?_ _)); exact BK150.out) hb)
            have n2_ := Aside0.mk (below_step (by repeat (first | (with_reducible first | exact HB.out | apply below_alloc | apply pw_below_drewN | apply below_drew1 | refine below_set ?_ GE148.out | refine below_set ?_ GE150.out) | exact HB.out)) hb)
            clear BK148
            clear BK150
            clear HB
            have BK148 := n0_
            have BK150 := n1_
            have HB := n2_
            clear n0_ n1_ n2_
            (try clear hb)
            (try clear hb2)
            (try clear hk)
            (try clear hi)
            refine hK.out _ _ ⟨(blk_cell BK150.out 0).trans rfl, (blk_cell BK150.out 1).trans rfl, (blk_cell BK150.out 2).trans rfl, (blk_cell BK148.out 0).trans rfl, ((HB.out.cell (World.block_lt_of_cell? w _ hw152_0)).trans hw152_0), ((HB.out.cell (World.block_lt_of_cell? w _ hw152_1)).trans hw152_1), ((HB.out.cell (World.block_lt_of_cell? w _ hw152_2)).trans hw152_2)⟩ (fun hHeld => ?_)
            clear hK K
            refine norm_ (a' := ?_) ?_ ?_
            rotate_left
            ·
             show Act.put _ (some 15) _ = _
             simp only [Act.put, List.setIfInBounds_toArray, List.set_cons_zero, List.set_cons_succ, i64_w, i32_w]
             rfl
            refine pure_ (i := 3) (N := some 16) (v := ?_) (a' := ?_) #[true, true, true, true, false, false, false, false, false, false, false, false, false, false, false, false, false, false, false, false, false, false, false, false, false, false, false, false, false, false] rfl rfl (any_of HT_.out (by kernel_rfl)) (fun _ _ _ h => h) (Or.inl ⟨by rfl, ?_⟩) ?_ ?_
            rotate_left
            ·
             intro w'
             go_simp
             with_reducible rfl
            rotate_left
            ·
             simp only [Act.put, List.setIfInBounds_toArray, List.set_cons_zero, List.set_cons_succ, i64_w, i32_w]
             rfl
            refine pure_ (i := 4) (N := some 17) (v := ?_) (a' := ?_) #[true, true, true, true, true, false, false, false, false, false, false, false, false, false, false, false, false, false, false, false, false, false, false, false, false, false, false, false, false, false] rfl rfl (any_of HT_.out (by kernel_rfl)) (fun _ _ _ h => h) (Or.inl ⟨by rfl, ?_⟩) ?_ ?_
            rotate_left
            ·
             intro w'
             go_simp
             with_reducible rfl
            rotate_left
            ·
             simp only [Act.put, List.setIfInBounds_toArray, List.set_cons_zero, List.set_cons_succ, i64_w, i32_w]
             rfl
            refine pure_ (i := 5) (N := some 18) (v := ?_) (a' := ?_) #[true, true, true, true, true, true, false, false, false, false, false, false, false, false, false, false, false, false, false, false, false, false, false, false, false, false, false, false, false, false] rfl rfl (any_of HT_.out (by kernel_rfl)) (fun _ _ _ h => h) (Or.inl ⟨by rfl, ?_⟩) ?_ ?_
            rotate_left
            ·
             intro w'
             go_simp
             with_reducible rfl
            rotate_left
            ·
             simp only [Act.put, List.setIfInBounds_toArray, List.set_cons_zero, List.set_cons_succ, i64_w, i32_w]
             rfl
            refine pure_ (i := 8) (N := some 21) (v := ?_) (a' := ?_) #[true, true, true, true, true, true, false, false, true, false, false, false, false, false, false, false, false, false, false, false, false, false, false, false, false, false, false, false, false, false] rfl rfl (any_of HT_.out (by kernel_rfl)) (fun _ _ _ h => h) (Or.inl ⟨by rfl, ?_⟩) ?_ ?_
            rotate_left
            ·
             intro w'
             go_simp
             with_reducible rfl
            rotate_left
            ·
             simp only [Act.put, List.setIfInBounds_toArray, List.set_cons_zero, List.set_cons_succ, i64_w, i32_w]
             rfl
            refine take_ (i := 6) (N := some 19) (v := ?_) (a' := ?_) #[true, true, true, true, true, true, true, false, true, false, false, false, false, false, false, false, false, false, false, false, false, false, false, false, false, false, false, false, false, false] rfl rfl (take_ofW HT_.out HW_.out (by kernel_rfl)) (fun _ _ _ h => h) (Or.inl ⟨by rfl, ?_⟩) hHeld ?_ ?_
            rotate_left
            ·
             rintro w' ⟨s0, s1, s2, s3, s4, s5, s6⟩
             go_simp
             with_reducible rfl
            rotate_left
            ·
             simp only [Act.put, List.setIfInBounds_toArray, List.set_cons_zero, List.set_cons_succ, i64_w, i32_w]
             rfl
            refine pure_ (i := 7) (N := some 20) (v := ?_) (a' := ?_) #[true, true, true, true, true, true, true, true, true, false, false, false, false, false, false, false, false, false, false, false, false, false, false, false, false, false, false, false, false, false] rfl rfl (any_of HT_.out (by kernel_rfl)) (fun _ _ _ h => h) (Or.inl ⟨by rfl, ?_⟩) ?_ ?_
            rotate_left
            ·
             intro w'
             go_simp
             with_reducible rfl
            rotate_left
            ·
             simp only [Act.put, List.setIfInBounds_toArray, List.set_cons_zero, List.set_cons_succ, i64_w, i32_w]
             rfl
            refine take_ (i := 9) (N := some 22) (v := ?_) (a' := ?_) #[true, true, true, true, true, true, true, true, true, true, false, false, false, false, false, false, false, false, false, false, false, false, false, false, false, false, false, false, false, false] rfl rfl (take_ofW HT_.out HW_.out (by kernel_rfl)) (fun _ _ _ h => h) (Or.inl ⟨by rfl, ?_⟩) hHeld ?_ ?_
            rotate_left
            ·
             rintro w' ⟨s0, s1, s2, s3, s4, s5, s6⟩
             go_simp
             with_reducible rfl
            rotate_left
            ·
             simp only [Act.put, List.setIfInBounds_toArray, List.set_cons_zero, List.set_cons_succ, i64_w, i32_w]
             rfl
            refine pure_ (i := 10) (N := some 23) (v := ?_) (a' := ?_) #[true, true, true, true, true, true, true, true, true, true, true, false, false, false, false, false, false, false, false, false, false, false, false, false, false, false, false, false, false, false] rfl rfl (any_of HT_.out (by kernel_rfl)) (fun _ _ _ h => h) (Or.inl ⟨by rfl, ?_⟩) ?_ ?_
            rotate_left
            ·
             intro w'
             go_simp
             with_reducible rfl
            rotate_left
            ·
             simp only [Act.put, List.setIfInBounds_toArray, List.set_cons_zero, List.set_cons_succ, i64_w, i32_w]
             rfl
            refine pure_ (i := 11) (N := some 24) (v := ?_) (a' := ?_) #[true, true, true, true, true, true, true, true, true, true, true, true, false, false, false, false, false, false, false, false, false, false, false, false, false, false, false, false, false, false] rfl rfl (any_of HT_.out (by kernel_rfl)) (fun _ _ _ h => h) (Or.inl ⟨by rfl, ?_⟩) ?_ ?_
            rotate_left
            ·
             intro w'
             go_simp
             with_reducible rfl
            rotate_left
            ·
             simp only [Act.put, List.setIfInBounds_toArray, List.set_cons_zero, List.set_cons_succ, i64_w, i32_w]
             rfl
            refine pure_ (i := 12) (N := some 25) (v := ?_) (a' := ?_) #[true, true, true, true, true, true, true, true, true, true, true, true, true, false, false, false, false, false, false, false, false, false, false, false, false, false, false, false, false, false] rfl rfl (any_of HT_.out (by kernel_rfl)) (fun _ _ _ h => h) (Or.inl ⟨by rfl, ?_⟩) ?_ ?_
            rotate_left
            ·
             intro w'
             go_simp
             with_reducible rfl
            rotate_left
            ·
             simp only [Act.put, List.setIfInBounds_toArray, List.set_cons_zero, List.set_cons_succ, i64_w, i32_w]
             rfl
            refine pure_ (i := 13) (N := some 26) (v := ?_) (a' := ?_) #[true, true, true, true, true, true, true, true, true, true, true, true, true, true, false, false, false, false, false, false, false, false, false, false, false, false, false, false, false, false] rfl rfl (any_of HT_.out (by kernel_rfl)) (fun _ _ _ h => h) (Or.inl ⟨by rfl, ?_⟩) ?_ ?_
            rotate_left
            ·
             intro w'
             go_simp
             with_reducible rfl
            rotate_left
            ·
             simp only [Act.put, List.setIfInBounds_toArray, List.set_cons_zero, List.set_cons_succ, i64_w, i32_w]
             rfl
            refine pure_ (i := 14) (N := some 27) (v := ?_) (a' := ?_) #[true, true, true, true, true, true, true, true, true, true, true, true, true, true, true, false, false, false, false, false, false, false, false, false, false, false, false, false, false, false] rfl rfl (any_of HT_.out (by kernel_rfl)) (fun _ _ _ h => h) (Or.inl ⟨by rfl, ?_⟩) ?_ ?_
            rotate_left
            ·
             intro w'
             go_simp
             with_reducible rfl
            rotate_left
            ·
             simp only [Act.put, List.setIfInBounds_toArray, List.set_cons_zero, List.set_cons_succ, i64_w, i32_w]
             rfl
            refine pure_ (i := 15) (N := some 28) (v := ?_) (a' := ?_) #[true, true, true, true, true, true, true, true, true, true, true, true, true, true, true, true, false, false, false, false, false, false, false, false, false, false, false, false, false, false] rfl rfl (any_of HT_.out (by kernel_rfl)) (fun _ _ _ h => h) (Or.inl ⟨by rfl, ?_⟩) ?_ ?_
            rotate_left
            ·
             intro w'
             go_simp
             with_reducible rfl
            rotate_left
            ·
             simp only [Act.put, List.setIfInBounds_toArray, List.set_cons_zero, List.set_cons_succ, i64_w, i32_w]
             rfl
            refine pure_ (i := 16) (N := some 29) (v := ?_) (a' := ?_) #[true, true, true, true, true, true, true, true, true, true, true, true, true, true, true, true, true, false, false, false, false, false, false, false, false, false, false, false, false, false] rfl rfl (any_of HT_.out (by kernel_rfl)) (fun _ _ _ h => h) (Or.inl ⟨by rfl, ?_⟩) ?_ ?_
            rotate_left
            ·
             intro w'
             go_simp
             with_reducible rfl
            rotate_left
            ·
             simp only [Act.put, List.setIfInBounds_toArray, List.set_cons_zero, List.set_cons_succ, i64_w, i32_w]
             rfl
            refine pure_ (i := 17) (N := some 30) (v := ?_) (a' := ?_) #[true, true, true, true, true, true, true, true, true, true, true, true, true, true, true, true, true, true, false, false, false, false, false, false, false, false, false, false, false, false] rfl rfl (any_of HT_.out (by kernel_rfl)) (fun _ _ _ h => h) (Or.inl ⟨by rfl, ?_⟩) ?_ ?_
            rotate_left
            ·
             intro w'
             go_simp
             with_reducible rfl
            rotate_left
            ·
             simp only [Act.put, List.setIfInBounds_toArray, List.set_cons_zero, List.set_cons_succ, i64_w, i32_w]
             rfl
            refine pure_ (i := 18) (N := some 31) (v := ?_) (a' := ?_) #[true, true, true, true, true, true, true, true, true, true, true, true, true, true, true, true, true, true, true, false, false, false, false, false, false, false, false, false, false, false] rfl rfl (any_of HT_.out (by kernel_rfl)) (fun _ _ _ h => h) (Or.inl ⟨by rfl, ?_⟩) ?_ ?_
            rotate_left
            ·
             intro w'
             go_simp
             with_reducible rfl
            rotate_left
            ·
             simp only [Act.put, List.setIfInBounds_toArray, List.set_cons_zero, List.set_cons_succ, i64_w, i32_w]
             rfl
            refine pure_ (i := 20) (N := some 33) (v := ?_) (a' := ?_) #[true, true, true, true, true, true, true, true, true, true, true, true, true, true, true, true, true, true, true, false, true, false, false, false, false, false, false, false, false, false] rfl rfl (any_of HT_.out (by kernel_rfl)) (fun _ _ _ h => h) (Or.inl ⟨by rfl, ?_⟩) ?_ ?_
            rotate_left
            ·
             intro w'
             go_simp
             with_reducible rfl
            rotate_left
            ·
             simp only [Act.put, List.setIfInBounds_toArray, List.set_cons_zero, List.set_cons_succ, i64_w, i32_w]
             rfl
            refine pure_ (i := 21) (N := some 34) (v := ?_) (a' := ?_) #[true, true, true, true, true, true, true, true, true, true, true, true, true, true, true, true, true, true, true, false, true, true, false, false, false, false, false, false, false, false] rfl rfl (any_of HT_.out (by kernel_rfl)) (fun _ _ _ h => h) (Or.inl ⟨by rfl, ?_⟩) ?_ ?_
            rotate_left
            ·
             intro w'
             go_simp
             with_reducible rfl
            rotate_left
            ·
             simp only [Act.put, List.setIfInBounds_toArray, List.set_cons_zero, List.set_cons_succ, i64_w, i32_w]
             rfl
            refine pure_ (i := 25) (N := some 38) (v := ?_) (a' := ?_) #[true, true, true, true, true, true, true, true, true, true, true, true, true, true, true, true, true, true, true, false, true, true, false, false, false, true, false, false, false, false] rfl rfl (any_of HT_.out (by kernel_rfl)) (fun _ _ _ h => h) (Or.inl ⟨by rfl, ?_⟩) ?_ ?_
            rotate_left
            ·
             intro w'
             go_simp
             with_reducible rfl
            rotate_left
            ·
             simp only [Act.put, List.setIfInBounds_toArray, List.set_cons_zero, List.set_cons_succ, i64_w, i32_w]
             rfl
            refine take_ (i := 19) (N := some 32) (v := ?_) (a' := ?_) #[true, true, true, true, true, true, true, true, true, true, true, true, true, true, true, true, true, true, true, true, true, true, false, false, false, true, false, false, false, false] rfl rfl (take_ofW HT_.out HW_.out (by kernel_rfl)) (fun _ _ _ h => h) (Or.inl ⟨by rfl, ?_⟩) hHeld ?_ ?_
            rotate_left
            ·
             rintro w' ⟨s0, s1, s2, s3, s4, s5, s6⟩
             go_simp
             with_reducible rfl
            rotate_left
            ·
             simp only [Act.put, List.setIfInBounds_toArray, List.set_cons_zero, List.set_cons_succ, i64_w, i32_w]
             rfl
            refine pure_ (i := 22) (N := some 35) (v := ?_) (a' := ?_) #[true, true, true, true, true, true, true, true, true, true, true, true, true, true, true, true, true, true, true, true, true, true, true, false, false, true, false, false, false, false] rfl rfl (any_of HT_.out (by kernel_rfl)) (fun _ _ _ h => h) (Or.inl ⟨by rfl, ?_⟩) ?_ ?_
            rotate_left
            ·
             intro w'
             go_simp
             with_reducible rfl
            rotate_left
            ·
             simp only [Act.put, List.setIfInBounds_toArray, List.set_cons_zero, List.set_cons_succ, i64_w, i32_w]
             rfl
            refine pure_ (i := 23) (N := some 36) (v := ?_) (a' := ?_) #[true, true, true, true, true, true, true, true, true, true, true, true, true, true, true, true, true, true, true, true, true, true, true, true, false, true, false, false, false, false] rfl rfl (any_of HT_.out (by kernel_rfl)) (fun _ _ _ h => h) (Or.inl ⟨by rfl, ?_⟩) ?_ ?_
            rotate_left
            ·
             intro w'
             go_simp
             with_reducible rfl
            rotate_left
            ·
             simp only [Act.put, List.setIfInBounds_toArray, List.set_cons_zero, List.set_cons_succ, i64_w, i32_w]
             rfl
            refine take_ (i := 24) (N := some 37) (v := ?_) (a' := ?_) #[true, true, true, true, true, true, true, true, true, true, true, true, true, true, true, true, true, true, true, true, true, true, true, true, true, true, false, false, false, false] rfl rfl (take_ofW HT_.out HW_.out (by kernel_rfl)) (fun _ _ _ h => h) (Or.inl ⟨by rfl, ?_⟩) hHeld ?_ ?_
            rotate_left
            ·
             rintro w' ⟨s0, s1, s2, s3, s4, s5, s6⟩
             go_simp
             with_reducible rfl
            rotate_left
            ·
             simp only [Act.put, List.setIfInBounds_toArray, List.set_cons_zero, List.set_cons_succ, i64_w, i32_w]
             rfl
            refine take_ (i := 26) (N := some 39) (v := ?_) (a' := ?_) #[true, true, true, true, true, true, true, true, true, true, true, true, true, true, true, true, true, true, true, true, true, true, true, true, true, true, true, false, false, false] rfl rfl (take_ofW HT_.out HW_.out (by kernel_rfl)) (fun _ _ _ h => h) (Or.inl ⟨by rfl, ?_⟩) hHeld ?_ ?_
            rotate_left
            ·
             rintro w' ⟨s0, s1, s2, s3, s4, s5, s6⟩
             go_simp
             with_reducible rfl
            rotate_left
            ·
             simp only [Act.put, List.setIfInBounds_toArray, List.set_cons_zero, List.set_cons_succ, i64_w, i32_w]
             rfl
            refine pure_ (i := 27) (N := some 40) (v := ?_) (a' := ?_) #[true, true, true, true, true, true, true, true, true, true, true, true, true, true, true, true, true, true, true, true, true, true, true, true, true, true, true, true, false, false] rfl rfl (any_of HT_.out (by kernel_rfl)) (fun _ _ _ h => h) (Or.inl ⟨by rfl, ?_⟩) ?_ ?_
            rotate_left
            ·
             intro w'
             go_simp
             with_reducible rfl
            rotate_left
            ·
             simp only [Act.put, List.setIfInBounds_toArray, List.set_cons_zero, List.set_cons_succ, i64_w, i32_w]
             rfl
            refine pure_ (i := 28) (N := some 41) (v := ?_) (a' := ?_) #[true, true, true, true, true, true, true, true, true, true, true, true, true, true, true, true, true, true, true, true, true, true, true, true, true, true, true, true, true, false] rfl rfl (any_of HT_.out (by kernel_rfl)) (fun _ _ _ h => h) (Or.inl ⟨by rfl, ?_⟩) ?_ ?_
            rotate_left
            ·
             intro w'
             go_simp
             with_reducible rfl
            rotate_left
            ·
             simp only [Act.put, List.setIfInBounds_toArray, List.set_cons_zero, List.set_cons_succ, i64_w, i32_w]
             rfl
            refine pure_ (i := 29) (N := some 42) (v := ?_) (a' := ?_) #[true, true, true, true, true, true, true, true, true, true, true, true, true, true, true, true, true, true, true, true, true, true, true, true, true, true, true, true, true, true] rfl rfl (any_of HT_.out (by kernel_rfl)) (fun _ _ _ h => h) (Or.inl ⟨by rfl, ?_⟩) ?_ ?_
            rotate_left
            ·
             intro w'
             go_simp
             with_reducible rfl
            rotate_left
            ·
             simp only [Act.put, List.setIfInBounds_toArray, List.set_cons_zero, List.set_cons_succ, i64_w, i32_w]
             rfl
            refine done_ (done_of HT_.out (by kernel_rfl)) ?_
            try go_wp2
            go_roundg k1
            case measure => have := HK1.out; omega
            case rel => exact ⟨(wrap64 (x8_1 + 1)), (by first | rfl | (simp; done) | (simp [*]; done)), H', ⟨by have := HK1.out; omega⟩, ⟨by (with_reducible repeat (first | refine blk_drewN ?_ _ | refine blk_drew ?_ | refine blk_alloc ?_ _)); exact BK148.out⟩, ⟨by repeat (first | (with_reducible first | exact HB.out | apply below_alloc | apply pw_below_drewN | apply below_drew1 | refine below_set ?_ GE148.out | refine below_set ?_ GE150.out) | exact HB.out)⟩⟩
           ·
            rw [if_neg c20] at H
            have c20b0 : (Op.bytesLess (((rd_T74 l0_0 (ji17)).f0).toList) (((rd_T74 l0_0 x8_1).f0).toList)) = false := by simpa using c20
            clear c20
            obtain rfl := Option.some.inj H
            have p149 : 0 ≤ (x8_1 : Int) := of_decide_eq_true (by first | (with_reducible assumption) | assumption)
            have q149 : x8_1 < (l0_0.length : Int) := of_decide_eq_true (by first | (with_reducible assumption) | assumption)
            obtain ⟨ad149, A149_1, c149_1, A149_2, c149_2, e149, hx149_0, hx149_1, hx149_2, hl149_1, hi149_1, hl149_2, hi149_2⟩ := at_T74 HR0_0.out x8_1 p149 q149
            cases e149
            replace hx149_0 := (HB.out.cell (World.block_lt_of_cell? w _ hx149_0)).trans hx149_0
            replace hx149_1 := (HB.out.cell (World.block_lt_of_cell? w _ hx149_1)).trans hx149_1
            replace hx149_2 := (HB.out.cell (World.block_lt_of_cell? w _ hx149_2)).trans hx149_2
            have HR149_1 := Aside0.mk hi149_1
            have HC149_1 := Aside0.mk hl149_1
            clear hi149_1 hl149_1
            have HR149_2 := Aside0.mk hi149_2
            have HC149_2 := Aside0.mk hl149_2
            clear hi149_2 hl149_2
            replace p149 := eq_true p149
            replace q149 := eq_true q149
            try go_wp2_with (first | ((with_reducible refine gate_dst (N := 4) rfl ?_); (try (refine gate_guard (by rfl) ?_; dsimp only)); refine box_event ?hg (N := 4) ?hd (cs := #[.string (⟨#[]⟩ : ByteArray), .slice none 0 0, .slice none 0 0]) (t := 74) ?hr ?_; (case hd => rfl); (case hg => rfl); (case hr => first | (go_simp; done) | (go_simp; rfl)); intro gb150 hg w27 hbox hb; have n0_ := Aside0.mk (blk_below (g := gb148) (o := .cells #[.slice (some ad149) l0_0.length c0_0] 29 (0, 0)) (by (with_reducible repeat (first | refine blk_drewN ?_ _ | refine blk_drew ?_ | refine blk_alloc ?_ _)); exact BK148.out) hb); have n1_ := Aside0.mk (below_step (by repeat (first | (with_reducible first | exact HB.out | apply below_alloc | apply pw_below_drewN | apply below_drew1 | refine below_set ?_ GE148.out) | exact HB.out)) hb); have n2_ := Aside0.mk (hbox); have n3_ := Aside0.mk ((by rw [hg]; exact (below_size (by repeat (first | (with_reducible first | exact HB.out | apply below_alloc | apply pw_below_drewN | apply below_drew1 | refine below_set ?_ GE148.out) | exact HB.out))) : w.heap.size ≤ gb150)); have n4_ := Aside0.mk ((by rw [hg]; exact (below_size (by repeat (first | (with_reducible first | exact HB.out | apply below_alloc | apply pw_below_drewN | apply below_drew1 | refine below_set ?_ GE148.out) | exact HB.out))) : w.heap.size ≤ gb150)); have n5_ := Aside0.mk ((by rw [hg]; exact Nat.ne_of_lt (blk_lt (g := gb148) (o := .cells #[.slice (some ad149) l0_0.length c0_0] 29 (0, 0)) (by (with_reducible repeat (first | refine blk_drewN ?_ _ | refine blk_drew ?_ | refine blk_alloc ?_ _)); exact BK148.out)) : gb148 ≠ gb150)); have n6_ := Aside0.mk ((by rw [hg]; exact Nat.ne_of_gt (blk_lt (g := gb148) (o := .cells #[.slice (some ad149) l0_0.length c0_0] 29 (0, 0)) (by (with_reducible repeat (first | refine blk_drewN ?_ _ | refine blk_drew ?_ | refine blk_alloc ?_ _)); exact BK148.out)) : gb150 ≠ gb148)); clear BK148; clear HB; have BK148 := n0_; have HB := n1_; have BK150 := n2_; have GW150 := n3_; have GE150 := n4_; have NB148_150 := n5_; have NB150_148 := n6_; clear n0_ n1_ n2_ n3_ n4_ n5_ n6_; clear hb hbox hg; have hnb28 := NB150_148.out; have hnc28 := NB148_150.out; have hcz29_0 : w27.cell? ⟨gb150, 0, none⟩ = some (.string (⟨#[]⟩ : ByteArray)) := (blk_cell BK150.out 0).trans rfl; have hcz29_1 : w27.cell? ⟨gb150, 1, none⟩ = some (.slice none 0 0) := (blk_cell BK150.out 1).trans rfl; have hcz29_2 : w27.cell? ⟨gb150, 2, none⟩ = some (.slice none 0 0) := (blk_cell BK150.out 2).trans rfl; have hfz29_0 := blk_frozen BK150.out 0; have hfz29_1 := blk_frozen BK150.out 1; have hfz29_2 := blk_frozen BK150.out 2))
            have n0_ : Aside0 ((((w27.setCell ⟨gb150, 0, none⟩ (.string ((rd_T74 l0_0 x8_1).f0))).setCell ⟨gb150, 1, none⟩ (.slice A149_1 ((rd_T74 l0_0 x8_1).f1).length c149_1)).setCell ⟨gb150, 2, none⟩ (.slice A149_2 ((rd_T74 l0_0 x8_1).f2).length c149_2)).heap[gb148]? = some (.cells #[.slice (some ad149) l0_0.length c0_0] 29 (0, 0))) := ⟨by (with_reducible repeat (first | refine blk_drewN ?_ _ | refine blk_drew ?_ | refine blk_alloc ?_ _)); refine blk_far ?_ NB148_150.out _; (with_reducible repeat (first | refine blk_drewN ?_ _ | refine blk_drew ?_ | refine blk_alloc ?_ _)); refine blk_far ?_ NB148_150.out _; (with_reducible repeat (first | refine blk_drewN ?_ _ | refine blk_drew ?_ | refine blk_alloc ?_ _)); refine blk_far ?_ NB148_150.out _; (with_reducible repeat (first | refine blk_drewN ?_ _ | refine blk_drew ?_ | refine blk_alloc ?_ _)); exact BK148.out⟩
            have n1_ : Aside0 ((((w27.setCell ⟨gb150, 0, none⟩ (.string ((rd_T74 l0_0 x8_1).f0))).setCell ⟨gb150, 1, none⟩ (.slice A149_1 ((rd_T74 l0_0 x8_1).f1).length c149_1)).setCell ⟨gb150, 2, none⟩ (.slice A149_2 ((rd_T74 l0_0 x8_1).f2).length c149_2)).heap[gb150]? = some (.cells #[.string ((rd_T74 l0_0 x8_1).f0), .slice A149_1 ((rd_T74 l0_0 x8_1).f1).length c149_1, .slice A149_2 ((rd_T74 l0_0 x8_1).f2).length c149_2] 74 (0, 0))) := ⟨by (with_reducible repeat (first | refine blk_drewN ?_ _ | refine blk_drew ?_ | refine blk_alloc ?_ _)); refine blk_put (cs := #[.string ((rd_T74 l0_0 x8_1).f0), .slice A149_1 ((rd_T74 l0_0 x8_1).f1).length c149_1, .slice none 0 0]) ?_ 2 _ rfl; (with_reducible repeat (first | refine blk_drewN ?_ _ | refine blk_drew ?_ | refine blk_alloc ?_ _)); refine blk_put (cs := #[.string ((rd_T74 l0_0 x8_1).f0), .slice none 0 0, .slice none 0 0]) ?_ 1 _ rfl; (with_reducible repeat (first | refine blk_drewN ?_ _ | refine blk_drew ?_ | refine blk_alloc ?_ _)); refine blk_put (cs := #[.string (⟨#[]⟩ : ByteArray), .slice none 0 0, .slice none 0 0]) ?_ 0 _ rfl; (with_reducible repeat (first | refine blk_drewN ?_ _ | refine blk_drew ?_ | refine blk_alloc ?_ _)); exact BK150.out⟩
            have n2_ : Aside0 (Below w.heap.size w (((w27.setCell ⟨gb150, 0, none⟩ (.string ((rd_T74 l0_0 x8_1).f0))).setCell ⟨gb150, 1, none⟩ (.slice A149_1 ((rd_T74 l0_0 x8_1).f1).length c149_1)).setCell ⟨gb150, 2, none⟩ (.slice A149_2 ((rd_T74 l0_0 x8_1).f2).length c149_2))) := ⟨by repeat (first | (with_reducible first | exact HB.out | apply below_alloc | apply pw_below_drewN | apply below_drew1 | refine below_set ?_ GE148.out | refine below_set ?_ GE150.out) | exact HB.out)⟩
            (try clear BK148)
            (try clear BK150)
            (try clear HB)
            generalize (((w27.setCell ⟨gb150, 0, none⟩ (.string ((rd_T74 l0_0 x8_1).f0))).setCell ⟨gb150, 1, none⟩ (.slice A149_1 ((rd_T74 l0_0 x8_1).f1).length c149_1)).setCell ⟨gb150, 2, none⟩ (.slice A149_2 ((rd_T74 l0_0 x8_1).f2).length c149_2)) = w30 at n0_ n1_ n2_ ⊢
            have BK148 := n0_
            have BK150 := n1_
            have HB := n2_
            clear n0_ n1_ n2_
            have n0_ := Aside0.mk (blk_drew BK148.out)
            have n1_ := Aside0.mk (blk_drew BK150.out)
            have n2_ := Aside0.mk (below_drew1 HB.out)
            clear BK148
            clear BK150
            clear HB
            have BK148 := n0_
            have BK150 := n1_
            have HB := n2_
            clear n0_ n1_ n2_
            have p152 : 0 ≤ ((ji17) : Int) := of_decide_eq_true (by first | (with_reducible assumption) | assumption)
            have q152 : (ji17) < (l0_0.length : Int) := of_decide_eq_true (by first | (with_reducible assumption) | assumption)
            obtain ⟨ad152, A152_1, c152_1, A152_2, c152_2, e152, hx152_0, hx152_1, hx152_2, hl152_1, hi152_1, hl152_2, hi152_2⟩ := at_T74 HR0_0.out (ji17) p152 q152
            have hw152_2 := hx152_2
            have hw152_1 := hx152_1
            have hw152_0 := hx152_0
            obtain rfl : ad149 = ad152 := (by injection e152)
            replace hx152_0 := (HB.out.cell (World.block_lt_of_cell? w _ hx152_0)).trans hx152_0
            replace hx152_1 := (HB.out.cell (World.block_lt_of_cell? w _ hx152_1)).trans hx152_1
            replace hx152_2 := (HB.out.cell (World.block_lt_of_cell? w _ hx152_2)).trans hx152_2
            have HR152_1 := Aside0.mk hi152_1
            have HC152_1 := Aside0.mk hl152_1
            clear hi152_1 hl152_1
            have HR152_2 := Aside0.mk hi152_2
            have HC152_2 := Aside0.mk hl152_2
            clear hi152_2 hl152_2
            replace p152 := eq_true p152
            replace q152 := eq_true q152
            refine start_ (n := 30) (S := fun w' => w'.cell? ⟨gb150, 0, none⟩ = some (.string ((rd_T74 l0_0 x8_1).f0)) ∧ w'.cell? ⟨gb150, 1, none⟩ = some (.slice A149_1 ((rd_T74 l0_0 x8_1).f1).length c149_1) ∧ w'.cell? ⟨gb150, 2, none⟩ = some (.slice A149_2 ((rd_T74 l0_0 x8_1).f2).length c149_2) ∧ w'.cell? ⟨gb148, 0, none⟩ = some (.slice (some ad149) l0_0.length c0_0) ∧ w'.cell? (ad149.add (((ji17)).toNat * 3)) = some (.string ((rd_T74 l0_0 (ji17)).f0)) ∧ w'.cell? ⟨(ad149.add (((ji17)).toNat * 3)).block, (ad149.add (((ji17)).toNat * 3)).off + 1, none⟩ = some (.slice A152_1 ((rd_T74 l0_0 (ji17)).f1).length c152_1) ∧ w'.cell? ⟨(ad149.add (((ji17)).toNat * 3)).block, (ad149.add (((ji17)).toNat * 3)).off + 2, none⟩ = some (.slice A152_2 ((rd_T74 l0_0 (ji17)).f2).length c152_2)) (ds := []) #[false, false, false, false, false, false, false, false, false, false, false, false, false, false, false, false, false, false, false, false, false, false, false, false, false, false, false, false, false, false] (by kernel_rfl) rfl rfl ⟨(blk_cell BK150.out 0).trans rfl, (blk_cell BK150.out 1).trans rfl, (blk_cell BK150.out 2).trans rfl, (blk_cell BK148.out 0).trans rfl, ((HB.out.cell (World.block_lt_of_cell? w _ hw152_0)).trans hw152_0), ((HB.out.cell (World.block_lt_of_cell? w _ hw152_1)).trans hw152_1), ((HB.out.cell (World.block_lt_of_cell? w _ hw152_2)).trans hw152_2)⟩ (fun hHeld => ?_); refine with_tabW impl_isDisk.tab4 impl_isDisk.bits4 (fun HT_ HW_ => ?_)
            generalize w30.drew = w31 at BK148 BK150 HB HR152_1 HR152_2 hx152_0 hx152_1 hx152_2 hHeld ⊢
            refine pure_ (i := 0) (N := some 13) (v := ?_) (a' := ?_) #[true, false, false, false, false, false, false, false, false, false, false, false, false, false, false, false, false, false, false, false, false, false, false, false, false, false, false, false, false, false] rfl rfl (any_of HT_.out (by kernel_rfl)) (fun _ _ _ h => h) (Or.inl ⟨by rfl, ?_⟩) ?_ ?_
            rotate_left
            ·
             intro w'
             go_simp
             with_reducible rfl
            rotate_left
            ·
             simp only [Act.put, List.setIfInBounds_toArray, List.set_cons_zero, List.set_cons_succ, i64_w, i32_w]
             rfl
            refine take_ (i := 1) (N := some 14) (v := ?_) (a' := ?_) #[true, true, false, false, false, false, false, false, false, false, false, false, false, false, false, false, false, false, false, false, false, false, false, false, false, false, false, false, false, false] rfl rfl (take_ofW HT_.out HW_.out (by kernel_rfl)) (fun _ _ _ h => h) (Or.inl ⟨by rfl, ?_⟩) hHeld ?_ ?_
            rotate_left
            ·
             rintro w' ⟨s0, s1, s2, s3, s4, s5, s6⟩
             go_simp
             with_reducible rfl
            rotate_left
            ·
             simp only [Act.put, List.setIfInBounds_toArray, List.set_cons_zero, List.set_cons_succ, i64_w, i32_w]
             rfl
            refine one_ (i := 2) (N := some 15) #[true, true, true, false, false, false, false, false, false, false, false, false, false, false, false, false, false, false, false, false, false, false, false, false, false, false, false, false, false, false] rfl rfl (one_of HT_.out (by kernel_rfl)) (by decide) (fun K hK => ?_)
            refine goes_ Tryd.func91 (by kernel_rfl) rfl #[.string ((rd_T74 l0_0 x8_1).f0)] (by rfl) rfl rfl (by (try simp only [List.map_toArray, List.map_cons, List.map_nil]); first | done | rfl | (simp only [List.length_drop, List.length_take]; rfl)) ?_
            with_reducible refine (impl_isFileName.calls ((rd_T74 l0_0 x8_1).f0) true _ A7.out).mono ?_
            rintro e w32 ⟨rfl, hb⟩
            refine ⟨_, rfl, ?_⟩
            have n0_ := Aside0.mk (blk_below (g := gb148) (o := .cells #[.slice (some ad149) l0_0.length c0_0] 29 (0, 0)) (by (with_reducible repeat (first | refine blk_drewN ?_ _ | refine blk_drew ?_ | refine blk_alloc ?_ _)); exact BK148.out) hb)
            have n1_ := Aside0.mk (blk_below (g := gb150) (o := .cells #[.string ((rd_T74 l0_0 x8_1).f0), .slice A149_1 ((rd_T74 l0_0 x8_1).f1).length c149_1, .slice A149_2 ((rd_T74 l0_0 x8_1).f2).length c149_2] 74 (0, 0)) (by (with_reducible repeat (first | refine blk_drewN ?_ _ | refine blk_drew ?_ | refine blk_alloc ?_ _)); exact BK150.out) hb)
            have n2_ := Aside0.mk (below_step (by repeat (first | (with_reducible first | exact HB.out | apply below_alloc | apply pw_below_drewN | apply below_drew1 | refine below_set ?_ GE148.out | refine below_set ?_ GE150.out) | exact HB.out)) hb)
            clear BK148
            clear BK150
            clear HB
            have BK148 := n0_
            have BK150 := n1_
            have HB := n2_
            clear n0_ n1_ n2_
            (try clear hb)
            (try clear hb2)
            (try clear hk)
            (try clear hi)
            refine hK.out _ _ ⟨(blk_cell BK150.out 0).trans rfl, (blk_cell BK150.out 1).trans rfl, (blk_cell BK150.out 2).trans rfl, (blk_cell BK148.out 0).trans rfl, ((HB.out.cell (World.block_lt_of_cell? w _ hw152_0)).trans hw152_0), ((HB.out.cell (World.block_lt_of_cell? w _ hw152_1)).trans hw152_1), ((HB.out.cell (World.block_lt_of_cell? w _ hw152_2)).trans hw152_2)⟩ (fun hHeld => ?_)
            clear hK K
            refine norm_ (a' := ?_) ?_ ?_
            rotate_left
            ·
             show Act.put _ (some 15) _ = _
             simp only [Act.put, List.setIfInBounds_toArray, List.set_cons_zero, List.set_cons_succ, i64_w, i32_w]
             rfl
            refine pure_ (i := 3) (N := some 16) (v := ?_) (a' := ?_) #[true, true, true, true, false, false, false, false, false, false, false, false, false, false, false, false, false, false, false, false, false, false, false, false, false, false, false, false, false, false] rfl rfl (any_of HT_.out (by kernel_rfl)) (fun _ _ _ h => h) (Or.inl ⟨by rfl, ?_⟩) ?_ ?_
            rotate_left
            ·
             intro w'
             go_simp
             with_reducible rfl
            rotate_left
            ·
             simp only [Act.put, List.setIfInBounds_toArray, List.set_cons_zero, List.set_cons_succ, i64_w, i32_w]
             rfl
            refine pure_ (i := 4) (N := some 17) (v := ?_) (a' := ?_) #[true, true, true, true, true, false, false, false, false, false, false, false, false, false, false, false, false, false, false, false, false, false, false, false, false, false, false, false, false, false] rfl rfl (any_of HT_.out (by kernel_rfl)) (fun _ _ _ h => h) (Or.inl ⟨by rfl, ?_⟩) ?_ ?_
            rotate_left
            ·
             intro w'
             go_simp
             with_reducible rfl
            rotate_left
            ·
             simp only [Act.put, List.setIfInBounds_toArray, List.set_cons_zero, List.set_cons_succ, i64_w, i32_w]
             rfl
            refine pure_ (i := 5) (N := some 18) (v := ?_) (a' := ?_) #[true, true, true, true, true, true, false, false, false, false, false, false, false, false, false, false, false, false, false, false, false, false, false, false, false, false, false, false, false, false] rfl rfl (any_of HT_.out (by kernel_rfl)) (fun _ _ _ h => h) (Or.inl ⟨by rfl, ?_⟩) ?_ ?_
            rotate_left
            ·
             intro w'
             go_simp
             with_reducible rfl
            rotate_left
            ·
             simp only [Act.put, List.setIfInBounds_toArray, List.set_cons_zero, List.set_cons_succ, i64_w, i32_w]
             rfl
            refine pure_ (i := 8) (N := some 21) (v := ?_) (a' := ?_) #[true, true, true, true, true, true, false, false, true, false, false, false, false, false, false, false, false, false, false, false, false, false, false, false, false, false, false, false, false, false] rfl rfl (any_of HT_.out (by kernel_rfl)) (fun _ _ _ h => h) (Or.inl ⟨by rfl, ?_⟩) ?_ ?_
            rotate_left
            ·
             intro w'
             go_simp
             with_reducible rfl
            rotate_left
            ·
             simp only [Act.put, List.setIfInBounds_toArray, List.set_cons_zero, List.set_cons_succ, i64_w, i32_w]
             rfl
            refine take_ (i := 6) (N := some 19) (v := ?_) (a' := ?_) #[true, true, true, true, true, true, true, false, true, false, false, false, false, false, false, false, false, false, false, false, false, false, false, false, false, false, false, false, false, false] rfl rfl (take_ofW HT_.out HW_.out (by kernel_rfl)) (fun _ _ _ h => h) (Or.inl ⟨by rfl, ?_⟩) hHeld ?_ ?_
            rotate_left
            ·
             rintro w' ⟨s0, s1, s2, s3, s4, s5, s6⟩
             go_simp
             with_reducible rfl
            rotate_left
            ·
             simp only [Act.put, List.setIfInBounds_toArray, List.set_cons_zero, List.set_cons_succ, i64_w, i32_w]
             rfl
            refine pure_ (i := 7) (N := some 20) (v := ?_) (a' := ?_) #[true, true, true, true, true, true, true, true, true, false, false, false, false, false, false, false, false, false, false, false, false, false, false, false, false, false, false, false, false, false] rfl rfl (any_of HT_.out (by kernel_rfl)) (fun _ _ _ h => h) (Or.inl ⟨by rfl, ?_⟩) ?_ ?_
            rotate_left
            ·
             intro w'
             go_simp
             with_reducible rfl
            rotate_left
            ·
             simp only [Act.put, List.setIfInBounds_toArray, List.set_cons_zero, List.set_cons_succ, i64_w, i32_w]
             rfl
            refine take_ (i := 9) (N := some 22) (v := ?_) (a' := ?_) #[true, true, true, true, true, true, true, true, true, true, false, false, false, false, false, false, false, false, false, false, false, false, false, false, false, false, false, false, false, false] rfl rfl (take_ofW HT_.out HW_.out (by kernel_rfl)) (fun _ _ _ h => h) (Or.inl ⟨by rfl, ?_⟩) hHeld ?_ ?_
            rotate_left
            ·
             rintro w' ⟨s0, s1, s2, s3, s4, s5, s6⟩
             go_simp
             with_reducible rfl
            rotate_left
            ·
             simp only [Act.put, List.setIfInBounds_toArray, List.set_cons_zero, List.set_cons_succ, i64_w, i32_w]
             rfl
            refine pure_ (i := 10) (N := some 23) (v := ?_) (a' := ?_) #[true, true, true, true, true, true, true, true, true, true, true, false, false, false, false, false, false, false, false, false, false, false, false, false, false, false, false, false, false, false] rfl rfl (any_of HT_.out (by kernel_rfl)) (fun _ _ _ h => h) (Or.inl ⟨by rfl, ?_⟩) ?_ ?_
            rotate_left
            ·
             intro w'
             go_simp
             with_reducible rfl
            rotate_left
            ·
             simp only [Act.put, List.setIfInBounds_toArray, List.set_cons_zero, List.set_cons_succ, i64_w, i32_w]
             rfl
            refine pure_ (i := 11) (N := some 24) (v := ?_) (a' := ?_) #[true, true, true, true, true, true, true, true, true, true, true, true, false, false, false, false, false, false, false, false, false, false, false, false, false, false, false, false, false, false] rfl rfl (any_of HT_.out (by kernel_rfl)) (fun _ _ _ h => h) (Or.inl ⟨by rfl, ?_⟩) ?_ ?_
            rotate_left
            ·
             intro w'
             go_simp
             with_reducible rfl
            rotate_left
            ·
             simp only [Act.put, List.setIfInBounds_toArray, List.set_cons_zero, List.set_cons_succ, i64_w, i32_w]
             rfl
            refine pure_ (i := 12) (N := some 25) (v := ?_) (a' := ?_) #[true, true, true, true, true, true, true, true, true, true, true, true, true, false, false, false, false, false, false, false, false, false, false, false, false, false, false, false, false, false] rfl rfl (any_of HT_.out (by kernel_rfl)) (fun _ _ _ h => h) (Or.inl ⟨by rfl, ?_⟩) ?_ ?_
            rotate_left
            ·
             intro w'
             go_simp
             with_reducible rfl
            rotate_left
            ·
             simp only [Act.put, List.setIfInBounds_toArray, List.set_cons_zero, List.set_cons_succ, i64_w, i32_w]
             rfl
            refine pure_ (i := 13) (N := some 26) (v := ?_) (a' := ?_) #[true, true, true, true, true, true, true, true, true, true, true, true, true, true, false, false, false, false, false, false, false, false, false, false, false, false, false, false, false, false] rfl rfl (any_of HT_.out (by kernel_rfl)) (fun _ _ _ h => h) (Or.inl ⟨by rfl, ?_⟩) ?_ ?_
            rotate_left
            ·
             intro w'
             go_simp
             with_reducible rfl
            rotate_left
            ·
             simp only [Act.put, List.setIfInBounds_toArray, List.set_cons_zero, List.set_cons_succ, i64_w, i32_w]
             rfl
            refine pure_ (i := 14) (N := some 27) (v := ?_) (a' := ?_) #[true, true, true, true, true, true, true, true, true, true, true, true, true, true, true, false, false, false, false, false, false, false, false, false, false, false, false, false, false, false] rfl rfl (any_of HT_.out (by kernel_rfl)) (fun _ _ _ h => h) (Or.inl ⟨by rfl, ?_⟩) ?_ ?_
            rotate_left
            ·
             intro w'
             go_simp
             with_reducible rfl
            rotate_left
            ·
             simp only [Act.put, List.setIfInBounds_toArray, List.set_cons_zero, List.set_cons_succ, i64_w, i32_w]
             rfl
            refine pure_ (i := 15) (N := some 28) (v := ?_) (a' := ?_) #[true, true, true, true, true, true, true, true, true, true, true, true, true, true, true, true, false, false, false, false, false, false, false, false, false, false, false, false, false, false] rfl rfl (any_of HT_.out (by kernel_rfl)) (fun _ _ _ h => h) (Or.inl ⟨by rfl, ?_⟩) ?_ ?_
            rotate_left
            ·
             intro w'
             go_simp
             with_reducible rfl
            rotate_left
            ·
             simp only [Act.put, List.setIfInBounds_toArray, List.set_cons_zero, List.set_cons_succ, i64_w, i32_w]
             rfl
            refine pure_ (i := 16) (N := some 29) (v := ?_) (a' := ?_) #[true, true, true, true, true, true, true, true, true, true, true, true, true, true, true, true, true, false, false, false, false, false, false, false, false, false, false, false, false, false] rfl rfl (any_of HT_.out (by kernel_rfl)) (fun _ _ _ h => h) (Or.inl ⟨by rfl, ?_⟩) ?_ ?_
            rotate_left
            ·
             intro w'
             go_simp
             with_reducible rfl
            rotate_left
            ·
             simp only [Act.put, List.setIfInBounds_toArray, List.set_cons_zero, List.set_cons_succ, i64_w, i32_w]
             rfl
            refine pure_ (i := 17) (N := some 30) (v := ?_) (a' := ?_) #[true, true, true, true, true, true, true, true, true, true, true, true, true, true, true, true, true, true, false, false, false, false, false, false, false, false, false, false, false, false] rfl rfl (any_of HT_.out (by kernel_rfl)) (fun _ _ _ h => h) (Or.inl ⟨by rfl, ?_⟩) ?_ ?_
            rotate_left
            ·
             intro w'
             go_simp
             with_reducible rfl
            rotate_left
            ·
             simp only [Act.put, List.setIfInBounds_toArray, List.set_cons_zero, List.set_cons_succ, i64_w, i32_w]
             rfl
            refine pure_ (i := 18) (N := some 31) (v := ?_) (a' := ?_) #[true, true, true, true, true, true, true, true, true, true, true, true, true, true, true, true, true, true, true, false, false, false, false, false, false, false, false, false, false, false] rfl rfl (any_of HT_.out (by kernel_rfl)) (fun _ _ _ h => h) (Or.inl ⟨by rfl, ?_⟩) ?_ ?_
            rotate_left
            ·
             intro w'
             go_simp
             with_reducible rfl
            rotate_left
            ·
             simp only [Act.put, List.setIfInBounds_toArray, List.set_cons_zero, List.set_cons_succ, i64_w, i32_w]
             rfl
            refine pure_ (i := 20) (N := some 33) (v := ?_) (a' := ?_) #[true, true, true, true, true, true, true, true, true, true, true, true, true, true, true, true, true, true, true, false, true, false, false, false, false, false, false, false, false, false] rfl rfl (any_of HT_.out (by kernel_rfl)) (fun _ _ _ h => h) (Or.inl ⟨by rfl, ?_⟩) ?_ ?_
            rotate_left
            ·
             intro w'
             go_simp
             with_reducible rfl
            rotate_left
            ·
             simp only [Act.put, List.setIfInBounds_toArray, List.set_cons_zero, List.set_cons_succ, i64_w, i32_w]
             rfl
            refine pure_ (i := 21) (N := some 34) (v := ?_) (a' := ?_) #[true, true, true, true, true, true, true, true, true, true, true, true, true, true, true, true, true, true, true, false, true, true, false, false, false, false, false, false, false, false] rfl rfl (any_of HT_.out (by kernel_rfl)) (fun _ _ _ h => h) (Or.inl ⟨by rfl, ?_⟩) ?_ ?_
            rotate_left
            ·
             intro w'
             go_simp
             with_reducible rfl
            rotate_left
            ·
             simp only [Act.put, List.setIfInBounds_toArray, List.set_cons_zero, List.set_cons_succ, i64_w, i32_w]
             rfl
            refine pure_ (i := 25) (N := some 38) (v := ?_) (a' := ?_) #[true, true, true, true, true, true, true, true, true, true, true, true, true, true, true, true, true, true, true, false, true, true, false, false, false, true, false, false, false, false] rfl rfl (any_of HT_.out (by kernel_rfl)) (fun _ _ _ h => h) (Or.inl ⟨by rfl, ?_⟩) ?_ ?_
            rotate_left
            ·
             intro w'
             go_simp
             with_reducible rfl
            rotate_left
            ·
             simp only [Act.put, List.setIfInBounds_toArray, List.set_cons_zero, List.set_cons_succ, i64_w, i32_w]
             rfl
            refine take_ (i := 19) (N := some 32) (v := ?_) (a' := ?_) #[true, true, true, true, true, true, true, true, true, true, true, true, true, true, true, true, true, true, true, true, true, true, false, false, false, true, false, false, false, false] rfl rfl (take_ofW HT_.out HW_.out (by kernel_rfl)) (fun _ _ _ h => h) (Or.inl ⟨by rfl, ?_⟩) hHeld ?_ ?_
            rotate_left
            ·
             rintro w' ⟨s0, s1, s2, s3, s4, s5, s6⟩
             go_simp
             with_reducible rfl
            rotate_left
            ·
             simp only [Act.put, List.setIfInBounds_toArray, List.set_cons_zero, List.set_cons_succ, i64_w, i32_w]
             rfl
            refine pure_ (i := 22) (N := some 35) (v := ?_) (a' := ?_) #[true, true, true, true, true, true, true, true, true, true, true, true, true, true, true, true, true, true, true, true, true, true, true, false, false, true, false, false, false, false] rfl rfl (any_of HT_.out (by kernel_rfl)) (fun _ _ _ h => h) (Or.inl ⟨by rfl, ?_⟩) ?_ ?_
            rotate_left
            ·
             intro w'
             go_simp
             with_reducible rfl
            rotate_left
            ·
             simp only [Act.put, List.setIfInBounds_toArray, List.set_cons_zero, List.set_cons_succ, i64_w, i32_w]
             rfl
            refine pure_ (i := 23) (N := some 36) (v := ?_) (a' := ?_) #[true, true, true, true, true, true, true, true, true, true, true, true, true, true, true, true, true, true, true, true, true, true, true, true, false, true, false, false, false, false] rfl rfl (any_of HT_.out (by kernel_rfl)) (fun _ _ _ h => h) (Or.inl ⟨by rfl, ?_⟩) ?_ ?_
            rotate_left
            ·
             intro w'
             go_simp
             with_reducible rfl
            rotate_left
            ·
             simp only [Act.put, List.setIfInBounds_toArray, List.set_cons_zero, List.set_cons_succ, i64_w, i32_w]
             rfl
            refine take_ (i := 24) (N := some 37) (v := ?_) (a' := ?_) #[true, true, true, true, true, true, true, true, true, true, true, true, true, true, true, true, true, true, true, true, true, true, true, true, true, true, false, false, false, false] rfl rfl (take_ofW HT_.out HW_.out (by kernel_rfl)) (fun _ _ _ h => h) (Or.inl ⟨by rfl, ?_⟩) hHeld ?_ ?_
            rotate_left
            ·
             rintro w' ⟨s0, s1, s2, s3, s4, s5, s6⟩
             go_simp
             with_reducible rfl
            rotate_left
            ·
             simp only [Act.put, List.setIfInBounds_toArray, List.set_cons_zero, List.set_cons_succ, i64_w, i32_w]
             rfl
            refine take_ (i := 26) (N := some 39) (v := ?_) (a' := ?_) #[true, true, true, true, true, true, true, true, true, true, true, true, true, true, true, true, true, true, true, true, true, true, true, true, true, true, true, false, false, false] rfl rfl (take_ofW HT_.out HW_.out (by kernel_rfl)) (fun _ _ _ h => h) (Or.inl ⟨by rfl, ?_⟩) hHeld ?_ ?_
            rotate_left
            ·
             rintro w' ⟨s0, s1, s2, s3, s4, s5, s6⟩
             go_simp
             with_reducible rfl
            rotate_left
            ·
             simp only [Act.put, List.setIfInBounds_toArray, List.set_cons_zero, List.set_cons_succ, i64_w, i32_w]
             rfl
            refine pure_ (i := 27) (N := some 40) (v := ?_) (a' := ?_) #[true, true, true, true, true, true, true, true, true, true, true, true, true, true, true, true, true, true, true, true, true, true, true, true, true, true, true, true, false, false] rfl rfl (any_of HT_.out (by kernel_rfl)) (fun _ _ _ h => h) (Or.inl ⟨by rfl, ?_⟩) ?_ ?_
            rotate_left
            ·
             intro w'
             go_simp
             with_reducible rfl
            rotate_left
            ·
             simp only [Act.put, List.setIfInBounds_toArray, List.set_cons_zero, List.set_cons_succ, i64_w, i32_w]
             rfl
            refine pure_ (i := 28) (N := some 41) (v := ?_) (a' := ?_) #[true, true, true, true, true, true, true, true, true, true, true, true, true, true, true, true, true, true, true, true, true, true, true, true, true, true, true, true, true, false] rfl rfl (any_of HT_.out (by kernel_rfl)) (fun _ _ _ h => h) (Or.inl ⟨by rfl, ?_⟩) ?_ ?_
            rotate_left
            ·
             intro w'
             go_simp
             with_reducible rfl
            rotate_left
            ·
             simp only [Act.put, List.setIfInBounds_toArray, List.set_cons_zero, List.set_cons_succ, i64_w, i32_w]
             rfl
            refine pure_ (i := 29) (N := some 42) (v := ?_) (a' := ?_) #[true, true, true, true, true, true, true, true, true, true, true, true, true, true, true, true, true, true, true, true, true, true, true, true, true, true, true, true, true, true] rfl rfl (any_of HT_.out (by kernel_rfl)) (fun _ _ _ h => h) (Or.inl ⟨by rfl, ?_⟩) ?_ ?_
            rotate_left
            ·
             intro w'
             go_simp
             with_reducible rfl
            rotate_left
            ·
             simp only [Act.put, List.setIfInBounds_toArray, List.set_cons_zero, List.set_cons_succ, i64_w, i32_w]
             rfl
            refine done_ (done_of HT_.out (by kernel_rfl)) ?_
            try go_wp2
            go_ret
            exact ⟨by first | rfl | (simp [errW_none, errW_some] <;> rfl) | (simp only [← hji17]; first | rfl | (simp [errW_none, errW_some] <;> rfl)) | (simp [*, errW_none, errW_some] <;> rfl), by repeat (first | (with_reducible first | exact HB.out | apply below_alloc | apply pw_below_drewN | apply below_drew1 | refine below_set ?_ GE148.out | refine below_set ?_ GE150.out) | exact HB.out)⟩
          ·
           rw [if_neg c19] at H
           exact absurd H (by simp)
         ·
          rw [if_neg c18] at H
          exact absurd H (by simp)
        ·
         rw [if_neg c16] at H
         have c16b0 : decide (0 < x8_1) = false := decide_eq_false c16
         clear c16
         have H' := Aside0.mk H
         clear H
         have p149 : 0 ≤ (x8_1 : Int) := of_decide_eq_true (by first | (with_reducible assumption) | assumption)
         have q149 : x8_1 < (l0_0.length : Int) := of_decide_eq_true (by first | (with_reducible assumption) | assumption)
         obtain ⟨ad149, A149_1, c149_1, A149_2, c149_2, e149, hx149_0, hx149_1, hx149_2, hl149_1, hi149_1, hl149_2, hi149_2⟩ := at_T74 HR0_0.out x8_1 p149 q149
         cases e149
         replace hx149_0 := (HB.out.cell (World.block_lt_of_cell? w _ hx149_0)).trans hx149_0
         replace hx149_1 := (HB.out.cell (World.block_lt_of_cell? w _ hx149_1)).trans hx149_1
         replace hx149_2 := (HB.out.cell (World.block_lt_of_cell? w _ hx149_2)).trans hx149_2
         have HR149_1 := Aside0.mk hi149_1
         have HC149_1 := Aside0.mk hl149_1
         clear hi149_1 hl149_1
         have HR149_2 := Aside0.mk hi149_2
         have HC149_2 := Aside0.mk hl149_2
         clear hi149_2 hl149_2
         replace p149 := eq_true p149
         replace q149 := eq_true q149
         try go_wp2_with (first | ((with_reducible refine gate_dst (N := 4) rfl ?_); (try (refine gate_guard (by rfl) ?_; dsimp only)); refine box_event ?hg (N := 4) ?hd (cs := #[.string (⟨#[]⟩ : ByteArray), .slice none 0 0, .slice none 0 0]) (t := 74) ?hr ?_; (case hd => rfl); (case hg => rfl); (case hr => first | (go_simp; done) | (go_simp; rfl)); intro gb150 hg w33 hbox hb; have n0_ := Aside0.mk (blk_below (g := gb148) (o := .cells #[.slice (some ad149) l0_0.length c0_0] 29 (0, 0)) (by (with_reducible repeat (first | refine blk_drewN ?_ _ | refine blk_drew ?_ | refine blk_alloc ?_ _)); exact BK148.out) hb); have n1_ := Aside0.mk (below_step (by repeat (first | (with_reducible first | exact HB.out | apply below_alloc | apply pw_below_drewN | apply below_drew1 | refine below_set ?_ GE148.out) | exact HB.out)) hb); have n2_ := Aside0.mk (hbox); have n3_ := Aside0.mk ((by rw [hg]; exact (below_size (by repeat (first | (with_reducible first | exact HB.out | apply below_alloc | apply pw_below_drewN | apply below_drew1 | refine below_set ?_ GE148.out) | exact HB.out))) : w.heap.size ≤ gb150)); have n4_ := Aside0.mk ((by rw [hg]; exact (below_size (by repeat (first | (with_reducible first | exact HB.out | apply below_alloc | apply pw_below_drewN | apply below_drew1 | refine below_set ?_ GE148.out) | exact HB.out))) : w.heap.size ≤ gb150)); have n5_ := Aside0.mk ((by rw [hg]; exact Nat.ne_of_lt (blk_lt (g := gb148) (o := .cells #[.slice (some ad149) l0_0.length c0_0] 29 (0, 0)) (by (with_reducible repeat (first | refine blk_drewN ?_ _ | refine blk_drew ?_ | refine blk_alloc ?_ _)); exact BK148.out)) : gb148 ≠ gb150)); have n6_ := Aside0.mk ((by rw [hg]; exact Nat.ne_of_gt (blk_lt (g := gb148) (o := .cells #[.slice (some ad149) l0_0.length c0_0] 29 (0, 0)) (by (with_reducible repeat (first | refine blk_drewN ?_ _ | refine blk_drew ?_ | refine blk_alloc ?_ _)); exact BK148.out)) : gb150 ≠ gb148)); clear BK148; clear HB; have BK148 := n0_; have HB := n1_; have BK150 := n2_; have GW150 := n3_; have GE150 := n4_; have NB148_150 := n5_; have NB150_148 := n6_; clear n0_ n1_ n2_ n3_ n4_ n5_ n6_; clear hb hbox hg; have hnb34 := NB150_148.out; have hnc34 := NB148_150.out; have hcz35_0 : w33.cell? ⟨gb150, 0, none⟩ = some (.string (⟨#[]⟩ : ByteArray)) := (blk_cell BK150.out 0).trans rfl; have hcz35_1 : w33.cell? ⟨gb150, 1, none⟩ = some (.slice none 0 0) := (blk_cell BK150.out 1).trans rfl; have hcz35_2 : w33.cell? ⟨gb150, 2, none⟩ = some (.slice none 0 0) := (blk_cell BK150.out 2).trans rfl; have hfz35_0 := blk_frozen BK150.out 0; have hfz35_1 := blk_frozen BK150.out 1; have hfz35_2 := blk_frozen BK150.out 2))
         have n0_ : Aside0 ((((w33.setCell ⟨gb150, 0, none⟩ (.string ((rd_T74 l0_0 x8_1).f0))).setCell ⟨gb150, 1, none⟩ (.slice A149_1 ((rd_T74 l0_0 x8_1).f1).length c149_1)).setCell ⟨gb150, 2, none⟩ (.slice A149_2 ((rd_T74 l0_0 x8_1).f2).length c149_2)).heap[gb148]? = some (.cells #[.slice (some ad149) l0_0.length c0_0] 29 (0, 0))) := ⟨by (with_reducible repeat (first | refine blk_drewN ?_ _ | refine blk_drew ?_ | refine blk_alloc ?_ _)); refine blk_far ?_ NB148_150.out _; (with_reducible repeat (first | refine blk_drewN ?_ _ | refine blk_drew ?_ | refine blk_alloc ?_ _)); refine blk_far ?_ NB148_150.out _; (with_reducible repeat (first | refine blk_drewN ?_ _ | refine blk_drew ?_ | refine blk_alloc ?_ _)); refine blk_far ?_ NB148_150.out _; (with_reducible repeat (first | refine blk_drewN ?_ _ | refine blk_drew ?_ | refine blk_alloc ?_ _)); exact BK148.out⟩
         have n1_ : Aside0 ((((w33.setCell ⟨gb150, 0, none⟩ (.string ((rd_T74 l0_0 x8_1).f0))).setCell ⟨gb150, 1, none⟩ (.slice A149_1 ((rd_T74 l0_0 x8_1).f1).length c149_1)).setCell ⟨gb150, 2, none⟩ (.slice A149_2 ((rd_T74 l0_0 x8_1).f2).length c149_2)).heap[gb150]? = some (.cells #[.string ((rd_T74 l0_0 x8_1).f0), .slice A149_1 ((rd_T74 l0_0 x8_1).f1).length c149_1, .slice A149_2 ((rd_T74 l0_0 x8_1).f2).length c149_2] 74 (0, 0))) := ⟨by (with_reducible repeat (first | refine blk_drewN ?_ _ | refine blk_drew ?_ | refine blk_alloc ?_ _)); refine blk_put (cs := #[.string ((rd_T74 l0_0 x8_1).f0), .slice A149_1 ((rd_T74 l0_0 x8_1).f1).length c149_1, .slice none 0 0]) ?_ 2 _ rfl; (with_reducible repeat (first | refine blk_drewN ?_ _ | refine blk_drew ?_ | refine blk_alloc ?_ _)); refine blk_put (cs := #[.string ((rd_T74 l0_0 x8_1).f0), .slice none 0 0, .slice none 0 0]) ?_ 1 _ rfl; (with_reducible repeat (first | refine blk_drewN ?_ _ | refine blk_drew ?_ | refine blk_alloc ?_ _)); refine blk_put (cs := #[.string (⟨#[]⟩ : ByteArray), .slice none 0 0, .slice none 0 0]) ?_ 0 _ rfl; (with_reducible repeat (first | refine blk_drewN ?_ _ | refine blk_drew ?_ | refine blk_alloc ?_ _)); exact BK150.out⟩
         have n2_ : Aside0 (Below w.heap.size w (((w33.setCell ⟨gb150, 0, none⟩ (.string ((rd_T74 l0_0 x8_1).f0))).setCell ⟨gb150, 1, none⟩ (.slice A149_1 ((rd_T74 l0_0 x8_1).f1).length c149_1)).setCell ⟨gb150, 2, none⟩ (.slice A149_2 ((rd_T74 l0_0 x8_1).f2).length c149_2))) := ⟨by repeat (first | (with_reducible first | exact HB.out | apply below_alloc | apply pw_below_drewN | apply below_drew1 | refine below_set ?_ GE148.out | refine below_set ?_ GE150.out) | exact HB.out)⟩
         (try clear BK148)
         (try clear BK150)
         (try clear HB)
         generalize (((w33.setCell ⟨gb150, 0, none⟩ (.string ((rd_T74 l0_0 x8_1).f0))).setCell ⟨gb150, 1, none⟩ (.slice A149_1 ((rd_T74 l0_0 x8_1).f1).length c149_1)).setCell ⟨gb150, 2, none⟩ (.slice A149_2 ((rd_T74 l0_0 x8_1).f2).length c149_2)) = w36 at n0_ n1_ n2_ ⊢
         have BK148 := n0_
         have BK150 := n1_
         have HB := n2_
         clear n0_ n1_ n2_
         have n0_ := Aside0.mk (blk_drew BK148.out)
         have n1_ := Aside0.mk (blk_drew BK150.out)
         have n2_ := Aside0.mk (below_drew1 HB.out)
         clear BK148
         clear BK150
         clear HB
         have BK148 := n0_
         have BK150 := n1_
         have HB := n2_
         clear n0_ n1_ n2_
         refine start_ (n := 30) (S := fun w' => w'.cell? ⟨gb150, 0, none⟩ = some (.string ((rd_T74 l0_0 x8_1).f0)) ∧ w'.cell? ⟨gb150, 1, none⟩ = some (.slice A149_1 ((rd_T74 l0_0 x8_1).f1).length c149_1) ∧ w'.cell? ⟨gb150, 2, none⟩ = some (.slice A149_2 ((rd_T74 l0_0 x8_1).f2).length c149_2)) (ds := []) #[false, false, false, false, false, false, false, false, false, false, false, false, false, false, false, false, false, false, false, false, false, false, false, false, false, false, false, false, false, false] (by kernel_rfl) rfl rfl ⟨(blk_cell BK150.out 0).trans rfl, (blk_cell BK150.out 1).trans rfl, (blk_cell BK150.out 2).trans rfl⟩ (fun hHeld => ?_); refine with_tabW impl_isDisk.tab4 impl_isDisk.bits4 (fun HT_ HW_ => ?_)
         generalize w36.drew = w37 at BK148 BK150 HB hHeld ⊢
         refine pure_ (i := 0) (N := some 13) (v := ?_) (a' := ?_) #[true, false, false, false, false, false, false, false, false, false, false, false, false, false, false, false, false, false, false, false, false, false, false, false, false, false, false, false, false, false] rfl rfl (any_of HT_.out (by kernel_rfl)) (fun _ _ _ h => h) (Or.inl ⟨by rfl, ?_⟩) ?_ ?_
         rotate_left
         ·
          intro w'
          go_simp
          with_reducible rfl
         rotate_left
         ·
          simp only [Act.put, List.setIfInBounds_toArray, List.set_cons_zero, List.set_cons_succ, i64_w, i32_w]
          rfl
         refine take_ (i := 1) (N := some 14) (v := ?_) (a' := ?_) #[true, true, false, false, false, false, false, false, false, false, false, false, false, false, false, false, false, false, false, false, false, false, false, false, false, false, false, false, false, false] rfl rfl (take_ofW HT_.out HW_.out (by kernel_rfl)) (fun _ _ _ h => h) (Or.inl ⟨by rfl, ?_⟩) hHeld ?_ ?_
         rotate_left
         ·
          rintro w' ⟨s0, s1, s2⟩
          go_simp
          with_reducible rfl
         rotate_left
         ·
          simp only [Act.put, List.setIfInBounds_toArray, List.set_cons_zero, List.set_cons_succ, i64_w, i32_w]
          rfl
         refine one_ (i := 2) (N := some 15) #[true, true, true, false, false, false, false, false, false, false, false, false, false, false, false, false, false, false, false, false, false, false, false, false, false, false, false, false, false, false] rfl rfl (one_of HT_.out (by kernel_rfl)) (by decide) (fun K hK => ?_)
         refine goes_ Tryd.func91 (by kernel_rfl) rfl #[.string ((rd_T74 l0_0 x8_1).f0)] (by rfl) rfl rfl (by (try simp only [List.map_toArray, List.map_cons, List.map_nil]); first | done | rfl | (simp only [List.length_drop, List.length_take]; rfl)) ?_
         with_reducible refine (impl_isFileName.calls ((rd_T74 l0_0 x8_1).f0) true _ A7.out).mono ?_
         rintro e w38 ⟨rfl, hb⟩
         refine ⟨_, rfl, ?_⟩
         have n0_ := Aside0.mk (blk_below (g := gb148) (o := .cells #[.slice (some ad149) l0_0.length c0_0] 29 (0, 0)) (by (with_reducible repeat (first | refine blk_drewN ?_ _ | refine blk_drew ?_ | refine blk_alloc ?_ _)); exact BK148.out) hb)
         have n1_ := Aside0.mk (blk_below (g := gb150) (o := .cells #[.string ((rd_T74 l0_0 x8_1).f0), .slice A149_1 ((rd_T74 l0_0 x8_1).f1).length c149_1, .slice A149_2 ((rd_T74 l0_0 x8_1).f2).length c149_2] 74 (0, 0)) (by (with_reducible repeat (first | refine blk_drewN ?_ _ | refine blk_drew ?_ | refine blk_alloc ?_ _)); exact BK150.out) hb)
         have n2_ := Aside0.mk (below_step (by repeat (first | (with_reducible first | exact HB.out | apply below_alloc | apply pw_below_drewN | apply below_drew1 | refine below_set ?_ GE148.out | refine below_set ?_ GE150.out) | exact HB.out)) hb)
         clear BK148
         clear BK150
         clear HB
         have BK148 := n0_
         have BK150 := n1_
         have HB := n2_
         clear n0_ n1_ n2_
         (try clear hb)
         (try clear hb2)
         (try clear hk)
         (try clear hi)
         refine hK.out _ _ ⟨(blk_cell BK150.out 0).trans rfl, (blk_cell BK150.out 1).trans rfl, (blk_cell BK150.out 2).trans rfl⟩ (fun hHeld => ?_)
         clear hK K
         refine norm_ (a' := ?_) ?_ ?_
         rotate_left
         ·
          show Act.put _ (some 15) _ = _
          simp only [Act.put, List.setIfInBounds_toArray, List.set_cons_zero, List.set_cons_succ, i64_w, i32_w]
          rfl
         refine pure_ (i := 3) (N := some 16) (v := ?_) (a' := ?_) #[true, true, true, true, false, false, false, false, false, false, false, false, false, false, false, false, false, false, false, false, false, false, false, false, false, false, false, false, false, false] rfl rfl (any_of HT_.out (by kernel_rfl)) (fun _ _ _ h => h) (Or.inl ⟨by rfl, ?_⟩) ?_ ?_
         rotate_left
         ·
          intro w'
          go_simp
          with_reducible rfl
         rotate_left
         ·
          simp only [Act.put, List.setIfInBounds_toArray, List.set_cons_zero, List.set_cons_succ, i64_w, i32_w]
          rfl
         refine pure_ (i := 4) (N := some 17) (v := ?_) (a' := ?_) #[true, true, true, true, true, false, false, false, false, false, false, false, false, false, false, false, false, false, false, false, false, false, false, false, false, false, false, false, false, false] rfl rfl (any_of HT_.out (by kernel_rfl)) (fun _ _ _ h => h) (Or.inl ⟨by rfl, ?_⟩) ?_ ?_
         rotate_left
         ·
          intro w'
          go_simp
          with_reducible rfl
         rotate_left
         ·
          simp only [Act.put, List.setIfInBounds_toArray, List.set_cons_zero, List.set_cons_succ, i64_w, i32_w]
          rfl
         refine pure_ (i := 5) (N := some 18) (v := ?_) (a' := ?_) #[true, true, true, true, true, true, false, false, false, false, false, false, false, false, false, false, false, false, false, false, false, false, false, false, false, false, false, false, false, false] rfl rfl (any_of HT_.out (by kernel_rfl)) (fun _ _ _ h => h) (Or.inl ⟨by rfl, ?_⟩) ?_ ?_
         rotate_left
         ·
          intro w'
          go_simp
          with_reducible rfl
         rotate_left
         ·
          simp only [Act.put, List.setIfInBounds_toArray, List.set_cons_zero, List.set_cons_succ, i64_w, i32_w]
          rfl
         refine pure_ (i := 8) (N := some 21) (v := ?_) (a' := ?_) #[true, true, true, true, true, true, false, false, true, false, false, false, false, false, false, false, false, false, false, false, false, false, false, false, false, false, false, false, false, false] rfl rfl (any_of HT_.out (by kernel_rfl)) (fun _ _ _ h => h) (Or.inl ⟨by rfl, ?_⟩) ?_ ?_
         rotate_left
         ·
          intro w'
          go_simp
          with_reducible rfl
         rotate_left
         ·
          simp only [Act.put, List.setIfInBounds_toArray, List.set_cons_zero, List.set_cons_succ, i64_w, i32_w]
          rfl
         refine take_ (i := 6) (N := some 19) (v := ?_) (a' := ?_) #[true, true, true, true, true, true, true, false, true, false, false, false, false, false, false, false, false, false, false, false, false, false, false, false, false, false, false, false, false, false] rfl rfl (take_ofW HT_.out HW_.out (by kernel_rfl)) (fun _ _ _ h => h) (Or.inl ⟨by rfl, ?_⟩) hHeld ?_ ?_
         rotate_left
         ·
          rintro w' ⟨s0, s1, s2⟩
          go_simp
          with_reducible rfl
         rotate_left
         ·
          simp only [Act.put, List.setIfInBounds_toArray, List.set_cons_zero, List.set_cons_succ, i64_w, i32_w]
          rfl
         refine pure_ (i := 7) (N := some 20) (v := ?_) (a' := ?_) #[true, true, true, true, true, true, true, true, true, false, false, false, false, false, false, false, false, false, false, false, false, false, false, false, false, false, false, false, false, false] rfl rfl (any_of HT_.out (by kernel_rfl)) (fun _ _ _ h => h) (Or.inl ⟨by rfl, ?_⟩) ?_ ?_
         rotate_left
         ·
          intro w'
          go_simp
          with_reducible rfl
         rotate_left
         ·
          simp only [Act.put, List.setIfInBounds_toArray, List.set_cons_zero, List.set_cons_succ, i64_w, i32_w]
          rfl
         refine take_ (i := 9) (N := some 22) (v := ?_) (a' := ?_) #[true, true, true, true, true, true, true, true, true, true, false, false, false, false, false, false, false, false, false, false, false, false, false, false, false, false, false, false, false, false] rfl rfl (take_ofW HT_.out HW_.out (by kernel_rfl)) (fun _ _ _ h => h) (Or.inl ⟨by rfl, ?_⟩) hHeld ?_ ?_
         rotate_left
         ·
          rintro w' ⟨s0, s1, s2⟩
          go_simp
          with_reducible rfl
         rotate_left
         ·
          simp only [Act.put, List.setIfInBounds_toArray, List.set_cons_zero, List.set_cons_succ, i64_w, i32_w]
          rfl
         refine pure_ (i := 10) (N := some 23) (v := ?_) (a' := ?_) #[true, true, true, true, true, true, true, true, true, true, true, false, false, false, false, false, false, false, false, false, false, false, false, false, false, false, false, false, false, false] rfl rfl (any_of HT_.out (by kernel_rfl)) (fun _ _ _ h => h) (Or.inl ⟨by rfl, ?_⟩) ?_ ?_
         rotate_left
         ·
          intro w'
          go_simp
          with_reducible rfl
         rotate_left
         ·
          simp only [Act.put, List.setIfInBounds_toArray, List.set_cons_zero, List.set_cons_succ, i64_w, i32_w]
          rfl
         refine pure_ (i := 11) (N := some 24) (v := ?_) (a' := ?_) #[true, true, true, true, true, true, true, true, true, true, true, true, false, false, false, false, false, false, false, false, false, false, false, false, false, false, false, false, false, false] rfl rfl (any_of HT_.out (by kernel_rfl)) (fun _ _ _ h => h) (Or.inl ⟨by rfl, ?_⟩) ?_ ?_
         rotate_left
         ·
          intro w'
          go_simp
          with_reducible rfl
         rotate_left
         ·
          simp only [Act.put, List.setIfInBounds_toArray, List.set_cons_zero, List.set_cons_succ, i64_w, i32_w]
          rfl
         refine pure_ (i := 12) (N := some 25) (v := ?_) (a' := ?_) #[true, true, true, true, true, true, true, true, true, true, true, true, true, false, false, false, false, false, false, false, false, false, false, false, false, false, false, false, false, false] rfl rfl (any_of HT_.out (by kernel_rfl)) (fun _ _ _ h => h) (Or.inl ⟨by rfl, ?_⟩) ?_ ?_
         rotate_left
         ·
          intro w'
          go_simp
          with_reducible rfl
         rotate_left
         ·
          simp only [Act.put, List.setIfInBounds_toArray, List.set_cons_zero, List.set_cons_succ, i64_w, i32_w]
          rfl
         refine pure_ (i := 13) (N := some 26) (v := ?_) (a' := ?_) #[true, true, true, true, true, true, true, true, true, true, true, true, true, true, false, false, false, false, false, false, false, false, false, false, false, false, false, false, false, false] rfl rfl (any_of HT_.out (by kernel_rfl)) (fun _ _ _ h => h) (Or.inl ⟨by rfl, ?_⟩) ?_ ?_
         rotate_left
         ·
          intro w'
          go_simp
          with_reducible rfl
         rotate_left
         ·
          simp only [Act.put, List.setIfInBounds_toArray, List.set_cons_zero, List.set_cons_succ, i64_w, i32_w]
          rfl
         refine pure_ (i := 14) (N := some 27) (v := ?_) (a' := ?_) #[true, true, true, true, true, true, true, true, true, true, true, true, true, true, true, false, false, false, false, false, false, false, false, false, false, false, false, false, false, false] rfl rfl (any_of HT_.out (by kernel_rfl)) (fun _ _ _ h => h) (Or.inl ⟨by rfl, ?_⟩) ?_ ?_
         rotate_left
         ·
          intro w'
          go_simp
          with_reducible rfl
         rotate_left
         ·
          simp only [Act.put, List.setIfInBounds_toArray, List.set_cons_zero, List.set_cons_succ, i64_w, i32_w]
          rfl
         refine pure_ (i := 15) (N := some 28) (v := ?_) (a' := ?_) #[true, true, true, true, true, true, true, true, true, true, true, true, true, true, true, true, false, false, false, false, false, false, false, false, false, false, false, false, false, false] rfl rfl (any_of HT_.out (by kernel_rfl)) (fun _ _ _ h => h) (Or.inl ⟨by rfl, ?_⟩) ?_ ?_
         rotate_left
         ·
          intro w'
          go_simp
          with_reducible rfl
         rotate_left
         ·
          simp only [Act.put, List.setIfInBounds_toArray, List.set_cons_zero, List.set_cons_succ, i64_w, i32_w]
          rfl
         refine pure_ (i := 16) (N := some 29) (v := ?_) (a' := ?_) #[true, true, true, true, true, true, true, true, true, true, true, true, true, true, true, true, true, false, false, false, false, false, false, false, false, false, false, false, false, false] rfl rfl (any_of HT_.out (by kernel_rfl)) (fun _ _ _ h => h) (Or.inl ⟨by rfl, ?_⟩) ?_ ?_
         rotate_left
         ·
          intro w'
          go_simp
          with_reducible rfl
         rotate_left
         ·
          simp only [Act.put, List.setIfInBounds_toArray, List.set_cons_zero, List.set_cons_succ, i64_w, i32_w]
          rfl
         refine pure_ (i := 17) (N := some 30) (v := ?_) (a' := ?_) #[true, true, true, true, true, true, true, true, true, true, true, true, true, true, true, true, true, true, false, false, false, false, false, false, false, false, false, false, false, false] rfl rfl (any_of HT_.out (by kernel_rfl)) (fun _ _ _ h => h) (Or.inl ⟨by rfl, ?_⟩) ?_ ?_
         rotate_left
         ·
          intro w'
          go_simp
          with_reducible rfl
         rotate_left
         ·
          simp only [Act.put, List.setIfInBounds_toArray, List.set_cons_zero, List.set_cons_succ, i64_w, i32_w]
          rfl
         refine pure_ (i := 18) (N := some 31) (v := undef) (a' := ?_) #[true, true, true, true, true, true, true, true, true, true, true, true, true, true, true, true, true, true, true, false, false, false, false, false, false, false, false, false, false, false] rfl rfl (any_of HT_.out (by kernel_rfl)) (fun _ _ _ h => h) (Or.inr ⟨by rfl, rfl⟩) ?_ ?_
         rotate_left
         ·
          simp only [Act.put, List.setIfInBounds_toArray, List.set_cons_zero, List.set_cons_succ, i64_w, i32_w]
          rfl
         refine pure_ (i := 19) (N := some 32) (v := undef) (a' := ?_) #[true, true, true, true, true, true, true, true, true, true, true, true, true, true, true, true, true, true, true, true, false, false, false, false, false, false, false, false, false, false] rfl rfl (any_of HT_.out (by kernel_rfl)) (fun _ _ _ h => h) (Or.inr ⟨by rfl, rfl⟩) ?_ ?_
         rotate_left
         ·
          simp only [Act.put, List.setIfInBounds_toArray, List.set_cons_zero, List.set_cons_succ, i64_w, i32_w]
          rfl
         refine pure_ (i := 20) (N := some 33) (v := undef) (a' := ?_) #[true, true, true, true, true, true, true, true, true, true, true, true, true, true, true, true, true, true, true, true, true, false, false, false, false, false, false, false, false, false] rfl rfl (any_of HT_.out (by kernel_rfl)) (fun _ _ _ h => h) (Or.inr ⟨by rfl, rfl⟩) ?_ ?_
         rotate_left
         ·
          simp only [Act.put, List.setIfInBounds_toArray, List.set_cons_zero, List.set_cons_succ, i64_w, i32_w]
          rfl
         refine pure_ (i := 21) (N := some 34) (v := undef) (a' := ?_) #[true, true, true, true, true, true, true, true, true, true, true, true, true, true, true, true, true, true, true, true, true, true, false, false, false, false, false, false, false, false] rfl rfl (any_of HT_.out (by kernel_rfl)) (fun _ _ _ h => h) (Or.inr ⟨by rfl, rfl⟩) ?_ ?_
         rotate_left
         ·
          simp only [Act.put, List.setIfInBounds_toArray, List.set_cons_zero, List.set_cons_succ, i64_w, i32_w]
          rfl
         refine pure_ (i := 22) (N := some 35) (v := undef) (a' := ?_) #[true, true, true, true, true, true, true, true, true, true, true, true, true, true, true, true, true, true, true, true, true, true, true, false, false, false, false, false, false, false] rfl rfl (any_of HT_.out (by kernel_rfl)) (fun _ _ _ h => h) (Or.inr ⟨by rfl, rfl⟩) ?_ ?_
         rotate_left
         ·
          simp only [Act.put, List.setIfInBounds_toArray, List.set_cons_zero, List.set_cons_succ, i64_w, i32_w]
          rfl
         refine pure_ (i := 23) (N := some 36) (v := undef) (a' := ?_) #[true, true, true, true, true, true, true, true, true, true, true, true, true, true, true, true, true, true, true, true, true, true, true, true, false, false, false, false, false, false] rfl rfl (any_of HT_.out (by kernel_rfl)) (fun _ _ _ h => h) (Or.inr ⟨by rfl, rfl⟩) ?_ ?_
         rotate_left
         ·
          simp only [Act.put, List.setIfInBounds_toArray, List.set_cons_zero, List.set_cons_succ, i64_w, i32_w]
          rfl
         refine pure_ (i := 24) (N := some 37) (v := undef) (a' := ?_) #[true, true, true, true, true, true, true, true, true, true, true, true, true, true, true, true, true, true, true, true, true, true, true, true, true, false, false, false, false, false] rfl rfl (any_of HT_.out (by kernel_rfl)) (fun _ _ _ h => h) (Or.inr ⟨by rfl, rfl⟩) ?_ ?_
         rotate_left
         ·
          simp only [Act.put, List.setIfInBounds_toArray, List.set_cons_zero, List.set_cons_succ, i64_w, i32_w]
          rfl
         refine pure_ (i := 25) (N := some 38) (v := undef) (a' := ?_) #[true, true, true, true, true, true, true, true, true, true, true, true, true, true, true, true, true, true, true, true, true, true, true, true, true, true, false, false, false, false] rfl rfl (any_of HT_.out (by kernel_rfl)) (fun _ _ _ h => h) (Or.inr ⟨by rfl, rfl⟩) ?_ ?_
         rotate_left
         ·
          simp only [Act.put, List.setIfInBounds_toArray, List.set_cons_zero, List.set_cons_succ, i64_w, i32_w]
          rfl
         refine pure_ (i := 26) (N := some 39) (v := undef) (a' := ?_) #[true, true, true, true, true, true, true, true, true, true, true, true, true, true, true, true, true, true, true, true, true, true, true, true, true, true, true, false, false, false] rfl rfl (any_of HT_.out (by kernel_rfl)) (fun _ _ _ h => h) (Or.inr ⟨by rfl, rfl⟩) ?_ ?_
         rotate_left
         ·
          simp only [Act.put, List.setIfInBounds_toArray, List.set_cons_zero, List.set_cons_succ, i64_w, i32_w]
          rfl
         refine pure_ (i := 27) (N := some 40) (v := undef) (a' := ?_) #[true, true, true, true, true, true, true, true, true, true, true, true, true, true, true, true, true, true, true, true, true, true, true, true, true, true, true, true, false, false] rfl rfl (any_of HT_.out (by kernel_rfl)) (fun _ _ _ h => h) (Or.inr ⟨by rfl, rfl⟩) ?_ ?_
         rotate_left
         ·
          simp only [Act.put, List.setIfInBounds_toArray, List.set_cons_zero, List.set_cons_succ, i64_w, i32_w]
          rfl
         refine pure_ (i := 28) (N := some 41) (v := ?_) (a' := ?_) #[true, true, true, true, true, true, true, true, true, true, true, true, true, true, true, true, true, true, true, true, true, true, true, true, true, true, true, true, true, false] rfl rfl (any_of HT_.out (by kernel_rfl)) (fun _ _ _ h => h) (Or.inl ⟨by rfl, ?_⟩) ?_ ?_
         rotate_left
         ·
          intro w'
          go_simp
          with_reducible rfl
         rotate_left
         ·
          simp only [Act.put, List.setIfInBounds_toArray, List.set_cons_zero, List.set_cons_succ, i64_w, i32_w]
          rfl
         refine pure_ (i := 29) (N := some 42) (v := ?_) (a' := ?_) #[true, true, true, true, true, true, true, true, true, true, true, true, true, true, true, true, true, true, true, true, true, true, true, true, true, true, true, true, true, true] rfl rfl (any_of HT_.out (by kernel_rfl)) (fun _ _ _ h => h) (Or.inl ⟨by rfl, ?_⟩) ?_ ?_
         rotate_left
         ·
          intro w'
          go_simp
          with_reducible rfl
         rotate_left
         ·
          simp only [Act.put, List.setIfInBounds_toArray, List.set_cons_zero, List.set_cons_succ, i64_w, i32_w]
          rfl
         refine done_ (done_of HT_.out (by kernel_rfl)) ?_
         try go_wp2
         go_roundg k1
         case measure => have := HK1.out; omega
         case rel => exact ⟨(wrap64 (x8_1 + 1)), (by first | rfl | (simp; done) | (simp [*]; done)), H', ⟨by have := HK1.out; omega⟩, ⟨by (with_reducible repeat (first | refine blk_drewN ?_ _ | refine blk_drew ?_ | refine blk_alloc ?_ _)); exact BK148.out⟩, ⟨by repeat (first | (with_reducible first | exact HB.out | apply below_alloc | apply pw_below_drewN | apply below_drew1 | refine below_set ?_ GE148.out | refine below_set ?_ GE150.out) | exact HB.out)⟩⟩
      ·
       replace c8 := Bool.eq_false_iff.mpr c8
       subst c8
       have H1 : (some false) = some r := by rw [if_neg (show ¬ (false = true) by decide)] at H; exact H
       clear H
       have H := H1
       clear H1
       obtain rfl := Option.some.inj H
       have p149 : 0 ≤ (x8_1 : Int) := of_decide_eq_true (by first | (with_reducible assumption) | assumption)
       have q149 : x8_1 < (l0_0.length : Int) := of_decide_eq_true (by first | (with_reducible assumption) | assumption)
       obtain ⟨ad149, A149_1, c149_1, A149_2, c149_2, e149, hx149_0, hx149_1, hx149_2, hl149_1, hi149_1, hl149_2, hi149_2⟩ := at_T74 HR0_0.out x8_1 p149 q149
       cases e149
       replace hx149_0 := (HB.out.cell (World.block_lt_of_cell? w _ hx149_0)).trans hx149_0
       replace hx149_1 := (HB.out.cell (World.block_lt_of_cell? w _ hx149_1)).trans hx149_1
       replace hx149_2 := (HB.out.cell (World.block_lt_of_cell? w _ hx149_2)).trans hx149_2
       have HR149_1 := Aside0.mk hi149_1
       have HC149_1 := Aside0.mk hl149_1
       clear hi149_1 hl149_1
       have HR149_2 := Aside0.mk hi149_2
       have HC149_2 := Aside0.mk hl149_2
       clear hi149_2 hl149_2
       replace p149 := eq_true p149
       replace q149 := eq_true q149
       try go_wp2_with (first | ((with_reducible refine gate_dst (N := 4) rfl ?_); (try (refine gate_guard (by rfl) ?_; dsimp only)); refine box_event ?hg (N := 4) ?hd (cs := #[.string (⟨#[]⟩ : ByteArray), .slice none 0 0, .slice none 0 0]) (t := 74) ?hr ?_; (case hd => rfl); (case hg => rfl); (case hr => first | (go_simp; done) | (go_simp; rfl)); intro gb150 hg w39 hbox hb; have n0_ := Aside0.mk (blk_below (g := gb148) (o := .cells #[.slice (some ad149) l0_0.length c0_0] 29 (0, 0)) (by (with_reducible repeat (first | refine blk_drewN ?_ _ | refine blk_drew ?_ | refine blk_alloc ?_ _)); exact BK148.out) hb); have n1_ := Aside0.mk (below_step (by repeat (first | (with_reducible first | exact HB.out | apply below_alloc | apply pw_below_drewN | apply below_drew1 | refine below_set ?_ GE148.out) | exact HB.out)) hb); have n2_ := Aside0.mk (hbox); have n3_ := Aside0.mk ((by rw [hg]; exact (below_size (by repeat (first | (with_reducible first | exact HB.out | apply below_alloc | apply pw_below_drewN | apply below_drew1 | refine below_set ?_ GE148.out) | exact HB.out))) : w.heap.size ≤ gb150)); have n4_ := Aside0.mk ((by rw [hg]; exact (below_size (by repeat (first | (with_reducible first | exact HB.out | apply below_alloc | apply pw_below_drewN | apply below_drew1 | refine below_set ?_ GE148.out) | exact HB.out))) : w.heap.size ≤ gb150)); have n5_ := Aside0.mk ((by rw [hg]; exact Nat.ne_of_lt (blk_lt (g := gb148) (o := .cells #[.slice (some ad149) l0_0.length c0_0] 29 (0, 0)) (by (with_reducible repeat (first | refine blk_drewN ?_ _ | refine blk_drew ?_ | refine blk_alloc ?_ _)); exact BK148.out)) : gb148 ≠ gb150)); have n6_ := Aside0.mk ((by rw [hg]; exact Nat.ne_of_gt (blk_lt (g := gb148) (o := .cells #[.slice (some ad149) l0_0.length c0_0] 29 (0, 0)) (by (with_reducible repeat (first | refine blk_drewN ?_ _ | refine blk_drew ?_ | refine blk_alloc ?_ _)); exact BK148.out)) : gb150 ≠ gb148)); clear BK148; clear HB; have BK148 := n0_; have HB := n1_; have BK150 := n2_; have GW150 := n3_; have GE150 := n4_; have NB148_150 := n5_; have NB150_148 := n6_; clear n0_ n1_ n2_ n3_ n4_ n5_ n6_; clear hb hbox hg; have hnb40 := NB150_148.out; have hnc40 := NB148_150.out; have hcz41_0 : w39.cell? ⟨gb150, 0, none⟩ = some (.string (⟨#[]⟩ : ByteArray)) := (blk_cell BK150.out 0).trans rfl; have hcz41_1 : w39.cell? ⟨gb150, 1, none⟩ = some (.slice none 0 0) := (blk_cell BK150.out 1).trans rfl; have hcz41_2 : w39.cell? ⟨gb150, 2, none⟩ = some (.slice none 0 0) := (blk_cell BK150.out 2).trans rfl; have hfz41_0 := blk_frozen BK150.out 0; have hfz41_1 := blk_frozen BK150.out 1; have hfz41_2 := blk_frozen BK150.out 2))
       have n0_ : Aside0 ((((w39.setCell ⟨gb150, 0, none⟩ (.string ((rd_T74 l0_0 x8_1).f0))).setCell ⟨gb150, 1, none⟩ (.slice A149_1 ((rd_T74 l0_0 x8_1).f1).length c149_1)).setCell ⟨gb150, 2, none⟩ (.slice A149_2 ((rd_T74 l0_0 x8_1).f2).length c149_2)).heap[gb148]? = some (.cells #[.slice (some ad149) l0_0.length c0_0] 29 (0, 0))) := ⟨by (with_reducible repeat (first | refine blk_drewN ?_ _ | refine blk_drew ?_ | refine blk_alloc ?_ _)); refine blk_far ?_ NB148_150.out _; (with_reducible repeat (first | refine blk_drewN ?_ _ | refine blk_drew ?_ | refine blk_alloc ?_ _)); refine blk_far ?_ NB148_150.out _; (with_reducible repeat (first | refine blk_drewN ?_ _ | refine blk_drew ?_ | refine blk_alloc ?_ _)); refine blk_far ?_ NB148_150.out _; (with_reducible repeat (first | refine blk_drewN ?_ _ | refine blk_drew ?_ | refine blk_alloc ?_ _)); exact BK148.out⟩
       have n1_ : Aside0 ((((w39.setCell ⟨gb150, 0, none⟩ (.string ((rd_T74 l0_0 x8_1).f0))).setCell ⟨gb150, 1, none⟩ (.slice A149_1 ((rd_T74 l0_0 x8_1).f1).length c149_1)).setCell ⟨gb150, 2, none⟩ (.slice A149_2 ((rd_T74 l0_0 x8_1).f2).length c149_2)).heap[gb150]? = some (.cells #[.string ((rd_T74 l0_0 x8_1).f0), .slice A149_1 ((rd_T74 l0_0 x8_1).f1).length c149_1, .slice A149_2 ((rd_T74 l0_0 x8_1).f2).length c149_2] 74 (0, 0))) := ⟨by (with_reducible repeat (first | refine blk_drewN ?_ _ | refine blk_drew ?_ | refine blk_alloc ?_ _)); refine blk_put (cs := #[.string ((rd_T74 l0_0 x8_1).f0), .slice A149_1 ((rd_T74 l0_0 x8_1).f1).length c149_1, .slice none 0 0]) ?_ 2 _ rfl; (with_reducible repeat (first | refine blk_drewN ?_ _ | refine blk_drew ?_ | refine blk_alloc ?_ _)); refine blk_put (cs := #[.string ((rd_T74 l0_0 x8_1).f0), .slice none 0 0, .slice none 0 0]) ?_ 1 _ rfl; (with_reducible repeat (first | refine blk_drewN ?_ _ | refine blk_drew ?_ | refine blk_alloc ?_ _)); refine blk_put (cs := #[.string (⟨#[]⟩ : ByteArray), .slice none 0 0, .slice none 0 0]) ?_ 0 _ rfl; (with_reducible repeat (first | refine blk_drewN ?_ _ | refine blk_drew ?_ | refine blk_alloc ?_ _)); exact BK150.out⟩
       have n2_ : Aside0 (Below w.heap.size w (((w39.setCell ⟨gb150, 0, none⟩ (.string ((rd_T74 l0_0 x8_1).f0))).setCell ⟨gb150, 1, none⟩ (.slice A149_1 ((rd_T74 l0_0 x8_1).f1).length c149_1)).setCell ⟨gb150, 2, none⟩ (.slice A149_2 ((rd_T74 l0_0 x8_1).f2).length c149_2))) := ⟨by repeat (first | (with_reducible first | exact HB.out | apply below_alloc | apply pw_below_drewN | apply below_drew1 | refine below_set ?_ GE148.out | refine below_set ?_ GE150.out) | exact HB.out)⟩
       (try clear BK148)
       (try clear BK150)
       (try clear HB)
       generalize (((w39.setCell ⟨gb150, 0, none⟩ (.string ((rd_T74 l0_0 x8_1).f0))).setCell ⟨gb150, 1, none⟩ (.slice A149_1 ((rd_T74 l0_0 x8_1).f1).length c149_1)).setCell ⟨gb150, 2, none⟩ (.slice A149_2 ((rd_T74 l0_0 x8_1).f2).length c149_2)) = w42 at n0_ n1_ n2_ ⊢
       have BK148 := n0_
       have BK150 := n1_
       have HB := n2_
       clear n0_ n1_ n2_
       have n0_ := Aside0.mk (blk_drew BK148.out)
       have n1_ := Aside0.mk (blk_drew BK150.out)
       have n2_ := Aside0.mk (below_drew1 HB.out)
       clear BK148
       clear BK150
       clear HB
       have BK148 := n0_
       have BK150 := n1_
       have HB := n2_
       clear n0_ n1_ n2_
       refine start_ (n := 30) (S := fun w' => w'.cell? ⟨gb150, 0, none⟩ = some (.string ((rd_T74 l0_0 x8_1).f0)) ∧ w'.cell? ⟨gb150, 1, none⟩ = some (.slice A149_1 ((rd_T74 l0_0 x8_1).f1).length c149_1) ∧ w'.cell? ⟨gb150, 2, none⟩ = some (.slice A149_2 ((rd_T74 l0_0 x8_1).f2).length c149_2)) (ds := []) #[false, false, false, false, false, false, false, false, false, false, false, false, false, false, false, false, false, false, false, false, false, false, false, false, false, false, false, false, false, false] (by kernel_rfl) rfl rfl ⟨(blk_cell BK150.out 0).trans rfl, (blk_cell BK150.out 1).trans rfl, (blk_cell BK150.out 2).trans rfl⟩ (fun hHeld => ?_); refine with_tabW impl_isDisk.tab4 impl_isDisk.bits4 (fun HT_ HW_ => ?_)
       generalize w42.drew = w43 at BK148 BK150 HB hHeld ⊢
       refine pure_ (i := 0) (N := some 13) (v := ?_) (a' := ?_) #[true, false, false, false, false, false, false, false, false, false, false, false, false, false, false, false, false, false, false, false, false, false, false, false, false, false, false, false, false, false] rfl rfl (any_of HT_.out (by kernel_rfl)) (fun _ _ _ h => h) (Or.inl ⟨by rfl, ?_⟩) ?_ ?_
       rotate_left
       ·
        intro w'
        go_simp
        with_reducible rfl
       rotate_left
       ·
        simp only [Act.put, List.setIfInBounds_toArray, List.set_cons_zero, List.set_cons_succ, i64_w, i32_w]
        rfl
       refine take_ (i := 1) (N := some 14) (v := ?_) (a' := ?_) #[true, true, false, false, false, false, false, false, false, false, false, false, false, false, false, false, false, false, false, false, false, false, false, false, false, false, false, false, false, false] rfl rfl (take_ofW HT_.out HW_.out (by kernel_rfl)) (fun _ _ _ h => h) (Or.inl ⟨by rfl, ?_⟩) hHeld ?_ ?_
       rotate_left
       ·
        rintro w' ⟨s0, s1, s2⟩
        go_simp
        with_reducible rfl
       rotate_left
       ·
        simp only [Act.put, List.setIfInBounds_toArray, List.set_cons_zero, List.set_cons_succ, i64_w, i32_w]
        rfl
       refine one_ (i := 2) (N := some 15) #[true, true, true, false, false, false, false, false, false, false, false, false, false, false, false, false, false, false, false, false, false, false, false, false, false, false, false, false, false, false] rfl rfl (one_of HT_.out (by kernel_rfl)) (by decide) (fun K hK => ?_)
       refine goes_ Tryd.func91 (by kernel_rfl) rfl #[.string ((rd_T74 l0_0 x8_1).f0)] (by rfl) rfl rfl (by (try simp only [List.map_toArray, List.map_cons, List.map_nil]); first | done | rfl | (simp only [List.length_drop, List.length_take]; rfl)) ?_
       with_reducible refine (impl_isFileName.calls ((rd_T74 l0_0 x8_1).f0) false _ A7.out).mono ?_
       rintro e w44 ⟨rfl, hb⟩
       refine ⟨_, rfl, ?_⟩
       have n0_ := Aside0.mk (blk_below (g := gb148) (o := .cells #[.slice (some ad149) l0_0.length c0_0] 29 (0, 0)) (by (with_reducible repeat (first | refine blk_drewN ?_ _ | refine blk_drew ?_ | refine blk_alloc ?_ _)); exact BK148.out) hb)
       have n1_ := Aside0.mk (blk_below (g := gb150) (o := .cells #[.string ((rd_T74 l0_0 x8_1).f0), .slice A149_1 ((rd_T74 l0_0 x8_1).f1).length c149_1, .slice A149_2 ((rd_T74 l0_0 x8_1).f2).length c149_2] 74 (0, 0)) (by (with_reducible repeat (first | refine blk_drewN ?_ _ | refine blk_drew ?_ | refine blk_alloc ?_ _)); exact BK150.out) hb)
       have n2_ := Aside0.mk (below_step (by repeat (first | (with_reducible first | exact HB.out | apply below_alloc | apply pw_below_drewN | apply below_drew1 | refine below_set ?_ GE148.out | refine below_set ?_ GE150.out) | exact HB.out)) hb)
       clear BK148
       clear BK150
       clear HB
       have BK148 := n0_
       have BK150 := n1_
       have HB := n2_
       clear n0_ n1_ n2_
       (try clear hb)
       (try clear hb2)
       (try clear hk)
       (try clear hi)
       refine hK.out _ _ ⟨(blk_cell BK150.out 0).trans rfl, (blk_cell BK150.out 1).trans rfl, (blk_cell BK150.out 2).trans rfl⟩ (fun hHeld => ?_)
       clear hK K
       refine norm_ (a' := ?_) ?_ ?_
       rotate_left
       ·
        show Act.put _ (some 15) _ = _
        simp only [Act.put, List.setIfInBounds_toArray, List.set_cons_zero, List.set_cons_succ, i64_w, i32_w]
        rfl
       refine pure_ (i := 3) (N := some 16) (v := ?_) (a' := ?_) #[true, true, true, true, false, false, false, false, false, false, false, false, false, false, false, false, false, false, false, false, false, false, false, false, false, false, false, false, false, false] rfl rfl (any_of HT_.out (by kernel_rfl)) (fun _ _ _ h => h) (Or.inl ⟨by rfl, ?_⟩) ?_ ?_
       rotate_left
       ·
        intro w'
        go_simp
        with_reducible rfl
       rotate_left
       ·
        simp only [Act.put, List.setIfInBounds_toArray, List.set_cons_zero, List.set_cons_succ, i64_w, i32_w]
        rfl
       refine pure_ (i := 4) (N := some 17) (v := ?_) (a' := ?_) #[true, true, true, true, true, false, false, false, false, false, false, false, false, false, false, false, false, false, false, false, false, false, false, false, false, false, false, false, false, false] rfl rfl (any_of HT_.out (by kernel_rfl)) (fun _ _ _ h => h) (Or.inl ⟨by rfl, ?_⟩) ?_ ?_
       rotate_left
       ·
        intro w'
        go_simp
        with_reducible rfl
       rotate_left
       ·
        simp only [Act.put, List.setIfInBounds_toArray, List.set_cons_zero, List.set_cons_succ, i64_w, i32_w]
        rfl
       refine pure_ (i := 5) (N := some 18) (v := undef) (a' := ?_) #[true, true, true, true, true, true, false, false, false, false, false, false, false, false, false, false, false, false, false, false, false, false, false, false, false, false, false, false, false, false] rfl rfl (any_of HT_.out (by kernel_rfl)) (fun _ _ _ h => h) (Or.inr ⟨by rfl, rfl⟩) ?_ ?_
       rotate_left
       ·
        simp only [Act.put, List.setIfInBounds_toArray, List.set_cons_zero, List.set_cons_succ, i64_w, i32_w]
        rfl
       refine pure_ (i := 6) (N := some 19) (v := undef) (a' := ?_) #[true, true, true, true, true, true, true, false, false, false, false, false, false, false, false, false, false, false, false, false, false, false, false, false, false, false, false, false, false, false] rfl rfl (any_of HT_.out (by kernel_rfl)) (fun _ _ _ h => h) (Or.inr ⟨by rfl, rfl⟩) ?_ ?_
       rotate_left
       ·
        simp only [Act.put, List.setIfInBounds_toArray, List.set_cons_zero, List.set_cons_succ, i64_w, i32_w]
        rfl
       refine pure_ (i := 7) (N := some 20) (v := undef) (a' := ?_) #[true, true, true, true, true, true, true, true, false, false, false, false, false, false, false, false, false, false, false, false, false, false, false, false, false, false, false, false, false, false] rfl rfl (any_of HT_.out (by kernel_rfl)) (fun _ _ _ h => h) (Or.inr ⟨by rfl, rfl⟩) ?_ ?_
       rotate_left
       ·
        simp only [Act.put, List.setIfInBounds_toArray, List.set_cons_zero, List.set_cons_succ, i64_w, i32_w]
        rfl
       refine pure_ (i := 8) (N := some 21) (v := undef) (a' := ?_) #[true, true, true, true, true, true, true, true, true, false, false, false, false, false, false, false, false, false, false, false, false, false, false, false, false, false, false, false, false, false] rfl rfl (any_of HT_.out (by kernel_rfl)) (fun _ _ _ h => h) (Or.inr ⟨by rfl, rfl⟩) ?_ ?_
       rotate_left
       ·
        simp only [Act.put, List.setIfInBounds_toArray, List.set_cons_zero, List.set_cons_succ, i64_w, i32_w]
        rfl
       refine pure_ (i := 9) (N := some 22) (v := undef) (a' := ?_) #[true, true, true, true, true, true, true, true, true, true, false, false, false, false, false, false, false, false, false, false, false, false, false, false, false, false, false, false, false, false] rfl rfl (any_of HT_.out (by kernel_rfl)) (fun _ _ _ h => h) (Or.inr ⟨by rfl, rfl⟩) ?_ ?_
       rotate_left
       ·
        simp only [Act.put, List.setIfInBounds_toArray, List.set_cons_zero, List.set_cons_succ, i64_w, i32_w]
        rfl
       refine pure_ (i := 10) (N := some 23) (v := undef) (a' := ?_) #[true, true, true, true, true, true, true, true, true, true, true, false, false, false, false, false, false, false, false, false, false, false, false, false, false, false, false, false, false, false] rfl rfl (any_of HT_.out (by kernel_rfl)) (fun _ _ _ h => h) (Or.inr ⟨by rfl, rfl⟩) ?_ ?_
       rotate_left
       ·
        simp only [Act.put, List.setIfInBounds_toArray, List.set_cons_zero, List.set_cons_succ, i64_w, i32_w]
        rfl
       refine pure_ (i := 11) (N := some 24) (v := undef) (a' := ?_) #[true, true, true, true, true, true, true, true, true, true, true, true, false, false, false, false, false, false, false, false, false, false, false, false, false, false, false, false, false, false] rfl rfl (any_of HT_.out (by kernel_rfl)) (fun _ _ _ h => h) (Or.inr ⟨by rfl, rfl⟩) ?_ ?_
       rotate_left
       ·
        simp only [Act.put, List.setIfInBounds_toArray, List.set_cons_zero, List.set_cons_succ, i64_w, i32_w]
        rfl
       refine pure_ (i := 12) (N := some 25) (v := undef) (a' := ?_) #[true, true, true, true, true, true, true, true, true, true, true, true, true, false, false, false, false, false, false, false, false, false, false, false, false, false, false, false, false, false] rfl rfl (any_of HT_.out (by kernel_rfl)) (fun _ _ _ h => h) (Or.inr ⟨by rfl, rfl⟩) ?_ ?_
       rotate_left
       ·
        simp only [Act.put, List.setIfInBounds_toArray, List.set_cons_zero, List.set_cons_succ, i64_w, i32_w]
        rfl
       refine pure_ (i := 13) (N := some 26) (v := ?_) (a' := ?_) #[true, true, true, true, true, true, true, true, true, true, true, true, true, true, false, false, false, false, false, false, false, false, false, false, false, false, false, false, false, false] rfl rfl (any_of HT_.out (by kernel_rfl)) (fun _ _ _ h => h) (Or.inl ⟨by rfl, ?_⟩) ?_ ?_
       rotate_left
       ·
        intro w'
        go_simp
        with_reducible rfl
       rotate_left
       ·
        simp only [Act.put, List.setIfInBounds_toArray, List.set_cons_zero, List.set_cons_succ, i64_w, i32_w]
        rfl
       refine pure_ (i := 14) (N := some 27) (v := ?_) (a' := ?_) #[true, true, true, true, true, true, true, true, true, true, true, true, true, true, true, false, false, false, false, false, false, false, false, false, false, false, false, false, false, false] rfl rfl (any_of HT_.out (by kernel_rfl)) (fun _ _ _ h => h) (Or.inl ⟨by rfl, ?_⟩) ?_ ?_
       rotate_left
       ·
        intro w'
        go_simp
        with_reducible rfl
       rotate_left
       ·
        simp only [Act.put, List.setIfInBounds_toArray, List.set_cons_zero, List.set_cons_succ, i64_w, i32_w]
        rfl
       refine pure_ (i := 15) (N := some 28) (v := undef) (a' := ?_) #[true, true, true, true, true, true, true, true, true, true, true, true, true, true, true, true, false, false, false, false, false, false, false, false, false, false, false, false, false, false] rfl rfl (any_of HT_.out (by kernel_rfl)) (fun _ _ _ h => h) (Or.inr ⟨by rfl, rfl⟩) ?_ ?_
       rotate_left
       ·
        simp only [Act.put, List.setIfInBounds_toArray, List.set_cons_zero, List.set_cons_succ, i64_w, i32_w]
        rfl
       refine pure_ (i := 16) (N := some 29) (v := undef) (a' := ?_) #[true, true, true, true, true, true, true, true, true, true, true, true, true, true, true, true, true, false, false, false, false, false, false, false, false, false, false, false, false, false] rfl rfl (any_of HT_.out (by kernel_rfl)) (fun _ _ _ h => h) (Or.inr ⟨by rfl, rfl⟩) ?_ ?_
       rotate_left
       ·
        simp only [Act.put, List.setIfInBounds_toArray, List.set_cons_zero, List.set_cons_succ, i64_w, i32_w]
        rfl
       refine pure_ (i := 17) (N := some 30) (v := undef) (a' := ?_) #[true, true, true, true, true, true, true, true, true, true, true, true, true, true, true, true, true, true, false, false, false, false, false, false, false, false, false, false, false, false] rfl rfl (any_of HT_.out (by kernel_rfl)) (fun _ _ _ h => h) (Or.inr ⟨by rfl, rfl⟩) ?_ ?_
       rotate_left
       ·
        simp only [Act.put, List.setIfInBounds_toArray, List.set_cons_zero, List.set_cons_succ, i64_w, i32_w]
        rfl
       refine pure_ (i := 18) (N := some 31) (v := undef) (a' := ?_) #[true, true, true, true, true, true, true, true, true, true, true, true, true, true, true, true, true, true, true, false, false, false, false, false, false, false, false, false, false, false] rfl rfl (any_of HT_.out (by kernel_rfl)) (fun _ _ _ h => h) (Or.inr ⟨by rfl, rfl⟩) ?_ ?_
       rotate_left
       ·
        simp only [Act.put, List.setIfInBounds_toArray, List.set_cons_zero, List.set_cons_succ, i64_w, i32_w]
        rfl
       refine pure_ (i := 19) (N := some 32) (v := undef) (a' := ?_) #[true, true, true, true, true, true, true, true, true, true, true, true, true, true, true, true, true, true, true, true, false, false, false, false, false, false, false, false, false, false] rfl rfl (any_of HT_.out (by kernel_rfl)) (fun _ _ _ h => h) (Or.inr ⟨by rfl, rfl⟩) ?_ ?_
       rotate_left
       ·
        simp only [Act.put, List.setIfInBounds_toArray, List.set_cons_zero, List.set_cons_succ, i64_w, i32_w]
        rfl
       refine pure_ (i := 20) (N := some 33) (v := undef) (a' := ?_) #[true, true, true, true, true, true, true, true, true, true, true, true, true, true, true, true, true, true, true, true, true, false, false, false, false, false, false, false, false, false] rfl rfl (any_of HT_.out (by kernel_rfl)) (fun _ _ _ h => h) (Or.inr ⟨by rfl, rfl⟩) ?_ ?_
       rotate_left
       ·
        simp only [Act.put, List.setIfInBounds_toArray, List.set_cons_zero, List.set_cons_succ, i64_w, i32_w]
        rfl
       refine pure_ (i := 21) (N := some 34) (v := undef) (a' := ?_) #[true, true, true, true, true, true, true, true, true, true, true, true, true, true, true, true, true, true, true, true, true, true, false, false, false, false, false, false, false, false] rfl rfl (any_of HT_.out (by kernel_rfl)) (fun _ _ _ h => h) (Or.inr ⟨by rfl, rfl⟩) ?_ ?_
       rotate_left
       ·
        simp only [Act.put, List.setIfInBounds_toArray, List.set_cons_zero, List.set_cons_succ, i64_w, i32_w]
        rfl
       refine pure_ (i := 22) (N := some 35) (v := undef) (a' := ?_) #[true, true, true, true, true, true, true, true, true, true, true, true, true, true, true, true, true, true, true, true, true, true, true, false, false, false, false, false, false, false] rfl rfl (any_of HT_.out (by kernel_rfl)) (fun _ _ _ h => h) (Or.inr ⟨by rfl, rfl⟩) ?_ ?_
       rotate_left
       ·
        simp only [Act.put, List.setIfInBounds_toArray, List.set_cons_zero, List.set_cons_succ, i64_w, i32_w]
        rfl
       refine pure_ (i := 23) (N := some 36) (v := undef) (a' := ?_) #[true, true, true, true, true, true, true, true, true, true, true, true, true, true, true, true, true, true, true, true, true, true, true, true, false, false, false, false, false, false] rfl rfl (any_of HT_.out (by kernel_rfl)) (fun _ _ _ h => h) (Or.inr ⟨by rfl, rfl⟩) ?_ ?_
       rotate_left
       ·
        simp only [Act.put, List.setIfInBounds_toArray, List.set_cons_zero, List.set_cons_succ, i64_w, i32_w]
        rfl
       refine pure_ (i := 24) (N := some 37) (v := undef) (a' := ?_) #[true, true, true, true, true, true, true, true, true, true, true, true, true, true, true, true, true, true, true, true, true, true, true, true, true, false, false, false, false, false] rfl rfl (any_of HT_.out (by kernel_rfl)) (fun _ _ _ h => h) (Or.inr ⟨by rfl, rfl⟩) ?_ ?_
       rotate_left
       ·
        simp only [Act.put, List.setIfInBounds_toArray, List.set_cons_zero, List.set_cons_succ, i64_w, i32_w]
        rfl
       refine pure_ (i := 25) (N := some 38) (v := undef) (a' := ?_) #[true, true, true, true, true, true, true, true, true, true, true, true, true, true, true, true, true, true, true, true, true, true, true, true, true, true, false, false, false, false] rfl rfl (any_of HT_.out (by kernel_rfl)) (fun _ _ _ h => h) (Or.inr ⟨by rfl, rfl⟩) ?_ ?_
       rotate_left
       ·
        simp only [Act.put, List.setIfInBounds_toArray, List.set_cons_zero, List.set_cons_succ, i64_w, i32_w]
        rfl
       refine pure_ (i := 26) (N := some 39) (v := undef) (a' := ?_) #[true, true, true, true, true, true, true, true, true, true, true, true, true, true, true, true, true, true, true, true, true, true, true, true, true, true, true, false, false, false] rfl rfl (any_of HT_.out (by kernel_rfl)) (fun _ _ _ h => h) (Or.inr ⟨by rfl, rfl⟩) ?_ ?_
       rotate_left
       ·
        simp only [Act.put, List.setIfInBounds_toArray, List.set_cons_zero, List.set_cons_succ, i64_w, i32_w]
        rfl
       refine pure_ (i := 27) (N := some 40) (v := undef) (a' := ?_) #[true, true, true, true, true, true, true, true, true, true, true, true, true, true, true, true, true, true, true, true, true, true, true, true, true, true, true, true, false, false] rfl rfl (any_of HT_.out (by kernel_rfl)) (fun _ _ _ h => h) (Or.inr ⟨by rfl, rfl⟩) ?_ ?_
       rotate_left
       ·
        simp only [Act.put, List.setIfInBounds_toArray, List.set_cons_zero, List.set_cons_succ, i64_w, i32_w]
        rfl
       refine pure_ (i := 28) (N := some 41) (v := undef) (a' := ?_) #[true, true, true, true, true, true, true, true, true, true, true, true, true, true, true, true, true, true, true, true, true, true, true, true, true, true, true, true, true, false] rfl rfl (any_of HT_.out (by kernel_rfl)) (fun _ _ _ h => h) (Or.inr ⟨by rfl, rfl⟩) ?_ ?_
       rotate_left
       ·
        simp only [Act.put, List.setIfInBounds_toArray, List.set_cons_zero, List.set_cons_succ, i64_w, i32_w]
        rfl
       refine pure_ (i := 29) (N := some 42) (v := ?_) (a' := ?_) #[true, true, true, true, true, true, true, true, true, true, true, true, true, true, true, true, true, true, true, true, true, true, true, true, true, true, true, true, true, true] rfl rfl (any_of HT_.out (by kernel_rfl)) (fun _ _ _ h => h) (Or.inl ⟨by rfl, ?_⟩) ?_ ?_
       rotate_left
       ·
        intro w'
        go_simp
        with_reducible rfl
       rotate_left
       ·
        simp only [Act.put, List.setIfInBounds_toArray, List.set_cons_zero, List.set_cons_succ, i64_w, i32_w]
        rfl
       refine done_ (done_of HT_.out (by kernel_rfl)) ?_
       try go_wp2
       go_ret
       exact ⟨by first | rfl | (simp [errW_none, errW_some] <;> rfl) | (simp [*, errW_none, errW_some] <;> rfl), by repeat (first | (with_reducible first | exact HB.out | apply below_alloc | apply pw_below_drewN | apply below_drew1 | refine below_set ?_ GE148.out | refine below_set ?_ GE150.out) | exact HB.out)⟩
     ·
      rw [if_neg c6] at H
      exact absurd H (by simp)
    ·
     rw [if_neg c5] at H
     exact absurd H (by simp)
   ·
    rw [if_neg c4] at H
    have c4b0 : decide (x8_1 < (l0_0.length : Int)) = false := decide_eq_false c4
    clear c4
    obtain rfl := Option.some.inj H
    have hcz45_0 : wr.cell? ⟨gb148, 0, none⟩ = some (.slice A0_0 l0_0.length c0_0) := (blk_cell BK148.out 0).trans rfl
    have hfz45_0 := blk_frozen BK148.out 0
    go_wp2
    go_ret
    exact ⟨by first | rfl | (simp [errW_none, errW_some] <;> rfl) | (simp [*, errW_none, errW_some] <;> rfl), by repeat (first | (with_reducible first | exact HB.out | apply below_alloc | apply pw_below_drewN | apply below_drew1 | refine below_set ?_ GE148.out) | exact HB.out)⟩
end Go.Proofs.YtmgeffgcihfpcaaDoor.F
