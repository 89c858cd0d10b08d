/- Merged texts below the law FnExactCutFile: Go functions as Lean functions, their contracts, and plain lemmas. -/
import Derived.Test.YtmgeffgcihfpcaaDoorQFnExactCutFile14
import Derived.Test.YtmgeffgcihfpcaaDoorQFnExactCutFile23
import Derived.Test.YtmgeffgcihfpcaaDoorQFnExactCutFile25
import Derived.Test.YtmgeffgcihfpcaaDoorQFnExactCutFile26
import Derived.Test.YtmgeffgcihfpcaaDoorQFnExactCutFile24
import Derived.Test.YtmgeffgcihfpcaaDoorVFnExactCutFileMore
import Derived.Deep.Slices
import Derived.ChangeSame
import Derived.WideShapes
namespace Go.Proofs.YtmgeffgcihfpcaaDoor.F
open Go.Proofs.YtmgeffgcihfpcaaDoor
open Go.RowKit Go.Proofs.YtmgeffgcihfpcaaDoorW.PrintWords Go.Proofs.YtmgeffgcihfpcaaDoorW.PrintWords.Kd Go.Proofs.YtmgeffgcihfpcaaDoorW.PrintMore.Kd Go.Proofs.YtmgeffgcihfpcaaDoorW.PrintLast Go.Proofs.YtmgeffgcihfpcaaDoorW.PrintMore
attribute [local go_sem] max2_int min2_int max_two min_two max_three min_three max_four min_four   -- for this text's walks alone
set_option linter.unusedVariables false
set_option linter.unusedSimpArgs false
def spec_CutFile.j0 : Nat → ByteArray → Int → List Int → Bool → List (S74) → Option ((List (S74)) × Bool)
 | 0, _, _, _, _, _ => none
 | k + 1, x1, x2, x8, x24, x343000 => if x24 = true then ((spec_l03Copy.f k x343000).bind fun t349 => (some (t349, false))) else (if 0 ≤ x2 then (if x2 ≤ (x8.length : Int) then ((spec_l03Put.f k x343000 x1 (x8.take (x2 : Int).toNat) ([] : List Int)).bind fun t357 => (some (t357, true))) else (none)) else (none))
def spec_CutFile.f (k : Nat) (l0_0 : List (S74)) (a1 : ByteArray) (a2 : Int) : Option ((List (S74)) × Bool) := (spec_Content.f k l0_0 a1).bind fun bt344 => (if bt344.2 = true then ((spec_l01In.f a2 0 (bt344.1.length : Int)).bind fun t348 => (spec_CutFile.j0 k a1 a2 bt344.1 (!t348) l0_0)) else (spec_CutFile.j0 k a1 a2 bt344.1 true l0_0))
def spec_CutFile.T4 : Bool × List (List Nat × List Nat) := (true, [([], []), ([], []), ([], []), ([], []), ([2, 3], [2, 3]), ([1, 4], [1, 4]), ([0, 5], [0, 5]), ([6, 6, 0, 1, 2, 3, 4, 5, 6], [6]), ([7, 0, 1, 2, 3, 4, 5, 6, 7], [])])
def spec_CutFile.B4 : List Nat := [0, 0, 0, 0, 12, 30, 63, 127, 255]
theorem spec_CutFile.tab4 : rtab .any (opsOf Tryd.f30 4) = spec_CutFile.T4 := by kernel_rfl
theorem spec_CutFile.bits4 : waitsOk spec_CutFile.T4.2 spec_CutFile.B4 = true := by kernel_rfl
set_option maxHeartbeats 8000000 in
set_option maxRecDepth 100000 in
theorem spec_CutFile.calls (k : Nat) (P0_0_ : Nat → Prop) (A0_0 : Option Addr) (c0_0 : Nat) (l0_0 : List (S74)) (a1 : ByteArray) (a2 : Int) (r1 : List (S74)) (r2 : Bool) (w : World) (hs0_0 : Kd.V k74 74 w w.heap.size (fun k_ => P0_0_ k_) (.slice A0_0 l0_0.length c0_0) l0_0) (h : spec_CutFile.f k l0_0 a1 a2 = some (r1, r2)) :
  Calls Tryd.prog 30 #[.agg #[.slice A0_0 l0_0.length c0_0], .string a1, .int .i64 a2] w fun e w' => ∃ v0_ : Value, e = .returned (.tuple #[.agg #[v0_], .bool r2]) ∧ Kd.N k74 74 w' w.heap.size (fun k_ => (P0_0_ k_ ∨ w.heap.size ≤ k_)) v0_ r1 ∧ Below w.heap.size w w' := by
 have hu29 := Tryd.underlying29
 have hu74 := Tryd.underlying74
 have HO0_0 := Aside0.mk (show Kd.V k74 74 w w.heap.size (fun k_ => (P0_0_ k_ ∨ w.heap.size ≤ k_)) (.slice A0_0 l0_0.length c0_0) l0_0 from V_mono hs0_0 (fun k_ hk => .inl hk))
 have HB := Aside0.mk (Below.refl w.heap.size w)
 have H : ((spec_Content.f k l0_0 a1).bind fun bt344 => (if bt344.2 = true then ((spec_l01In.f a2 0 (bt344.1.length : Int)).bind fun t348 => (spec_CutFile.j0 k a1 a2 bt344.1 (!t348) l0_0)) else (spec_CutFile.j0 k a1 a2 bt344.1 true l0_0))) = some (r1, r2) := h
 clear h
 replace H := Option.bind_eq_some_iff.mp H
 obtain ⟨⟨t344, t347⟩, A40, H⟩ := H
 replace H : (if t347 = true then ((spec_l01In.f a2 0 (t344.length : Int)).bind fun t348 => (spec_CutFile.j0 k a1 a2 t344 (!t348) l0_0)) else (spec_CutFile.j0 k a1 a2 t344 true l0_0)) = some (r1, r2) := H
 have A4 := Aside0.mk A40
 clear A40
 have HC5 := Aside0.mk H
 clear H
 go_enter Tryd.func30, Tryd.ntmps30
 go_upto_region 2 with (first | ((with_reducible refine gate_dst (N := 3) rfl ?_); (try (refine gate_guard (by rfl) ?_; dsimp only)); refine box_event ?hg (N := 3) ?hd (cs := #[.slice A0_0 l0_0.length c0_0]) (t := 29) ?hr ?_; (case hd => rfl); (case hg => rfl); (case hr => first | (go_simp; done) | (go_simp; rfl)); intro gb342 hg w6 hbox hb; have n0_ := Aside0.mk (V_below (V_elderB (by (with_reducible repeat (first | apply V_alloc | apply V_drewN | apply V_drew)); exact HO0_0.out) gb342 (Nat.le_of_eq hg.symm)) hb); have n1_ := Aside0.mk (below_step (by repeat (first | (with_reducible first | exact HB.out | apply below_alloc | apply pw_below_drewN | apply below_drew1) | exact HB.out)) hb); have n2_ := Aside0.mk (hbox); have n3_ := Aside0.mk ((by rw [hg]; exact (below_size (by repeat (first | (with_reducible first | exact HB.out | apply below_alloc | apply pw_below_drewN | apply below_drew1) | exact HB.out))) : w.heap.size ≤ gb342)); have n4_ := Aside0.mk ((by rw [hg]; exact (below_size (by repeat (first | (with_reducible first | exact HB.out | apply below_alloc | apply pw_below_drewN | apply below_drew1) | exact HB.out))) : w.heap.size ≤ gb342)); clear HO0_0; clear HB; have HO0_0 := n0_; have HB := n1_; have BK342 := n2_; have GW342 := n3_; have GE342 := n4_; clear n0_ n1_ n2_ n3_ n4_; clear hb hbox hg) | ((with_reducible refine gate_dst (N := 6) rfl ?_); (try (refine gate_guard (by rfl) ?_; dsimp only)); refine box_event ?hg (N := 6) ?hd (cs := #[.slice none 0 0]) (t := 29) ?hr ?_; (case hd => rfl); (case hg => rfl); (case hr => first | (go_simp; done) | (go_simp; rfl)); intro gb343 hg w7 hbox hb; have n0_ := Aside0.mk (V_below (V_elderB (by (with_reducible repeat (first | apply V_alloc | apply V_drewN | apply V_drew)); exact HO0_0.out) gb343 (Nat.le_of_eq hg.symm)) hb); have n1_ := Aside0.mk (blk_below (g := gb342) (o := .cells #[.slice A0_0 l0_0.length c0_0] 29 (0, 0)) (by (with_reducible repeat (first | refine blk_drewN ?_ _ | refine blk_drew ?_ | refine blk_alloc ?_ _)); exact BK342.out) hb); have n2_ := Aside0.mk (below_step (by repeat (first | (with_reducible first | exact HB.out | apply below_alloc | apply pw_below_drewN | apply below_drew1 | refine below_set ?_ GE342.out) | exact HB.out)) hb); have n3_ := Aside0.mk (hbox); have n4_ := Aside0.mk ((by rw [hg]; exact (below_size (by repeat (first | (with_reducible first | exact HB.out | apply below_alloc | apply pw_below_drewN | apply below_drew1 | refine below_set ?_ GE342.out) | exact HB.out))) : w.heap.size ≤ gb343)); have n5_ := Aside0.mk ((by rw [hg]; exact (below_size (by repeat (first | (with_reducible first | exact HB.out | apply below_alloc | apply pw_below_drewN | apply below_drew1 | refine below_set ?_ GE342.out) | exact HB.out))) : w.heap.size ≤ gb343)); have n6_ := Aside0.mk ((by rw [hg]; exact Nat.ne_of_lt (blk_lt (g := gb342) (o := .cells #[.slice A0_0 l0_0.length c0_0] 29 (0, 0)) (by (with_reducible repeat (first | refine blk_drewN ?_ _ | refine blk_drew ?_ | refine blk_alloc ?_ _)); exact BK342.out)) : gb342 ≠ gb343)); have n7_ := Aside0.mk ((by rw [hg]; exact Nat.ne_of_gt (blk_lt (g := gb342) (o := .cells #[.slice A0_0 l0_0.length c0_0] 29 (0, 0)) (by (with_reducible repeat (first | refine blk_drewN ?_ _ | refine blk_drew ?_ | refine blk_alloc ?_ _)); exact BK342.out)) : gb343 ≠ gb342)); clear HO0_0; clear BK342; clear HB; have HO0_0 := n0_; have BK342 := n1_; have HB := n2_; have BK343 := n3_; have GW343 := n4_; have GE343 := n5_; have NB342_343 := n6_; have NB343_342 := n7_; clear n0_ n1_ n2_ n3_ n4_ n5_ n6_ n7_; clear hb hbox hg; have hnb8 := NB342_343.out; have hnc8 := NB343_342.out; have hcz9_0 : w7.cell? ⟨gb342, 0, none⟩ = some (.slice A0_0 l0_0.length c0_0) := (blk_cell BK342.out 0).trans rfl; have hfz9_0 := blk_frozen BK342.out 0) | ((with_reducible refine gate_callee (f := 19) rfl ?_); refine goesL_ (some 13) rfl rfl Tryd.func19 (by kernel_rfl) rfl #[.agg #[.slice A0_0 l0_0.length c0_0], .string a1] rfl (by (try simp only [List.map_toArray, List.map_cons, List.map_nil]); first | done | rfl | (simp only [List.length_drop, List.length_take]; rfl)) ?_; (with_reducible refine (spec_Content.calls k _ _ l0_0 a1 t344 t347 _ ?side1 ?side2 A4.out).mono ?_); (case side1 => repeat (first | exact (V_reads' HO0_0.out).2.2 | (with_reducible refine C_alloc ?_ _) | (with_reducible refine C_drewN ?_ _) | (with_reducible refine C_drew ?_))); (case side2 => exact (V_reads' HO0_0.out).2.1); rintro e w10 ⟨v345, rfl, ho0, hb⟩; refine ⟨_, rfl, ?_⟩; have n0_ := Aside0.mk (V_elder' (by (with_reducible repeat (first | apply V_alloc | apply V_drewN | apply V_drew)); exact HO0_0.out) (R_base ho0) hb); have n1_ := Aside0.mk (R_lower (R_newM (M := fun k_ => (w.heap.size ≤ k_)) ho0 (below_size (by repeat (first | (with_reducible first | exact HB.out | apply below_alloc | apply pw_below_drewN | apply below_drew1 | refine below_set ?_ GE342.out | refine below_set ?_ GE343.out) | exact HB.out))) (fun k_ h_ => h_)) (below_size (by repeat (first | (with_reducible first | exact HB.out | apply below_alloc | apply pw_below_drewN | apply below_drew1 | refine below_set ?_ GE342.out | refine below_set ?_ GE343.out) | exact HB.out)))); have n2_ := Aside0.mk (blk_below (g := gb342) (o := .cells #[.slice A0_0 l0_0.length c0_0] 29 (0, 0)) (by (with_reducible repeat (first | refine blk_drewN ?_ _ | refine blk_drew ?_ | refine blk_alloc ?_ _)); exact BK342.out) hb); have n3_ := Aside0.mk (blk_below (g := gb343) (o := .cells #[.slice none 0 0] 29 (0, 0)) (by (with_reducible repeat (first | refine blk_drewN ?_ _ | refine blk_drew ?_ | refine blk_alloc ?_ _)); exact BK343.out) hb); have n4_ := Aside0.mk (below_step (by repeat (first | (with_reducible first | exact HB.out | apply below_alloc | apply pw_below_drewN | apply below_drew1 | refine below_set ?_ GE342.out | refine below_set ?_ GE343.out) | exact HB.out)) hb); clear HO0_0; clear BK342; clear BK343; clear HB; have HO0_0 := n0_; have HO346 := n1_; have BK342 := n2_; have BK343 := n3_; have HB := n4_; clear n0_ n1_ n2_ n3_ n4_; (try clear hb); (try clear hb2); (try clear hk); (try clear hi); (try clear ho0)))
 (try simp only [Act.put, List.setIfInBounds_toArray, List.set_cons_zero, List.set_cons_succ])
 go_cut [24] (fun v24 wc => ∃ (kq : Nat) (x24_4 : Bool), v24 = .bool x24_4 ∧ Aside0 (spec_CutFile.j0 kq a1 a2 t344 x24_4 l0_0 = some (r1, r2)) ∧ Aside0 (kq ≤ k) ∧ Aside0 (Kd.R (Kd.int .u8) 5 wc w.heap.size (fun k_ => (w.heap.size ≤ k_)) v345 t344) ∧ Aside0 (Kd.V k74 74 wc w.heap.size (fun k_ => (P0_0_ k_ ∨ w.heap.size ≤ k_) ∧ some k_ ≠ (v345 : Value).ownBlock ∧ k_ ≠ gb342 ∧ k_ ≠ gb343) (.slice A0_0 l0_0.length c0_0) l0_0) ∧ Aside0 (wc.heap[gb342]? = some (.cells #[(.slice A0_0 l0_0.length c0_0)] 29 (0, 0))) ∧ Aside0 (wc.heap[gb343]? = some (.cells #[(.slice none 0 0)] 29 (0, 0))) ∧ Aside0 (Below w.heap.size w wc))
 case first =>
  have H := HC5.out
  clear HC5
  by_cases c11 : t347 = true
  ·
   subst c11
   have H1 : ((spec_l01In.f a2 0 (t344.length : Int)).bind fun t348 => (spec_CutFile.j0 k a1 a2 t344 (!t348) l0_0)) = some (r1, r2) := by rw [if_pos rfl] at H; exact H
   clear H
   have H := H1
   clear H1
   replace H := Option.bind_eq_some_iff.mp H
   obtain ⟨t348, A120, H⟩ := H
   replace H : (spec_CutFile.j0 k a1 a2 t344 (!t348) l0_0) = some (r1, r2) := H
   have A12 := Aside0.mk A120
   clear A120
   have H' := Aside0.mk H
   clear H
   obtain ⟨Ao13, co13, eo13⟩ := R_slice HO346.out
   subst eo13
   go_wp2_with (first | (go_at_call 72; (with_reducible refine (spec_l01In.calls a2 0 (t344.length : Int) t348 _ A12.out).mono ?_); rintro e w' ⟨rfl, ⟨nd, rfl⟩⟩))
   go_meet
   case rel => exact ⟨_, (!t348), (by first | rfl | (simp; done) | (simp [*]; done)), H', ⟨by first | omega | exact Nat.le_refl _⟩, ⟨by (with_reducible repeat (first | apply R_alloc | apply R_drewN | apply R_drew)); exact R_mono HO346.out (fun _ hk => hk.1)⟩, ⟨by (with_reducible repeat (first | apply V_alloc | apply V_drewN | apply V_drew)); exact V_mono HO0_0.out (fun _ hk => ⟨hk.1.1.1, ⟨hk.2, ⟨hk.1.1.2, hk.1.2⟩⟩⟩)⟩, ⟨by (with_reducible repeat (first | refine blk_drewN ?_ _ | refine blk_drew ?_ | refine blk_alloc ?_ _)); exact BK342.out⟩, ⟨by (with_reducible repeat (first | refine blk_drewN ?_ _ | refine blk_drew ?_ | refine blk_alloc ?_ _)); exact BK343.out⟩, ⟨by repeat (first | (with_reducible first | exact HB.out | apply below_alloc | apply pw_below_drewN | apply below_drew1 | refine below_set ?_ GE342.out | refine below_set ?_ GE343.out) | exact HB.out)⟩⟩
  ·
   replace c11 := Bool.eq_false_iff.mpr c11
   subst c11
   have H1 : (spec_CutFile.j0 k a1 a2 t344 true l0_0) = some (r1, r2) := by rw [if_neg (show ¬ (false = true) by decide)] at H; exact H
   clear H
   have H := H1
   clear H1
   have H' := Aside0.mk H
   clear H
   go_wp2
   go_meet
   case rel => exact ⟨_, (true), (by first | rfl | (simp; done) | (simp [*]; done)), H', ⟨by first | omega | exact Nat.le_refl _⟩, ⟨by (with_reducible repeat (first | apply R_alloc | apply R_drewN | apply R_drew)); exact R_mono HO346.out (fun _ hk => hk.1)⟩, ⟨by (with_reducible repeat (first | apply V_alloc | apply V_drewN | apply V_drew)); exact V_mono HO0_0.out (fun _ hk => ⟨hk.1.1.1, ⟨hk.2, ⟨hk.1.1.2, hk.1.2⟩⟩⟩)⟩, ⟨by (with_reducible repeat (first | refine blk_drewN ?_ _ | refine blk_drew ?_ | refine blk_alloc ?_ _)); exact BK342.out⟩, ⟨by (with_reducible repeat (first | refine blk_drewN ?_ _ | refine blk_drew ?_ | refine blk_alloc ?_ _)); exact BK343.out⟩, ⟨by repeat (first | (with_reducible first | exact HB.out | apply below_alloc | apply pw_below_drewN | apply below_drew1 | refine below_set ?_ GE342.out | refine below_set ?_ GE343.out) | exact HB.out)⟩⟩
 case rest =>
  clear HC5
  try clear c1
  try clear p2
  try clear c3
  try clear c8
  try clear c11
  try clear hcz9_0
  try clear hfz9_0
  obtain ⟨kq, x24_4, rfl, HA, HJ4, HO_8, HO_343000, BK342, BK343, HB⟩ := hcut
  cases kq with
  | zero => exact absurd HA.out (by simp [spec_CutFile.j0])
  | succ kj4 =>
   have H := HA.out
   clear HA
   simp only [spec_CutFile.j0] at H
   by_cases c14 : x24_4 = true
   ·
    subst c14
    have H1 : ((spec_l03Copy.f kj4 l0_0).bind fun t349 => (some (t349, false))) = some (r1, r2) := by rw [if_pos rfl] at H; exact H
    clear H
    have H := H1
    clear H1
    replace H := Option.bind_eq_some_iff.mp H
    obtain ⟨t349, A150, H⟩ := H
    replace H : (some (t349, false)) = some (r1, r2) := H
    have A15 := Aside0.mk A150
    clear A150
    simp only [Option.some.injEq, Prod.mk.injEq] at H
    obtain ⟨rfl, rfl⟩ := H
    have hnb16 := NB342_343.out
    have hnc16 := NB343_342.out
    have hcz17_0 : wc.cell? ⟨gb342, 0, none⟩ = some (.slice A0_0 l0_0.length c0_0) := (blk_cell BK342.out 0).trans rfl
    have hfz17_0 := blk_frozen BK342.out 0
    go_wp2_with (first | ((with_reducible refine gate_callee (f := 66) rfl ?_); refine goesL_ (some 26) rfl rfl Tryd.func66 (by kernel_rfl) rfl #[.agg #[.slice A0_0 l0_0.length c0_0]] rfl (by (try simp only [List.map_toArray, List.map_cons, List.map_nil]); first | done | rfl | (simp only [List.length_drop, List.length_take]; rfl)) ?_; (with_reducible refine (spec_l03Copy.calls kj4 _ _ l0_0 t349 _ ?side1 ?side2 A15.out).mono ?_); (case side1 => repeat (first | exact (V_reads' HO_343000.out).2.2 | (with_reducible refine C_alloc ?_ _) | (with_reducible refine C_drewN ?_ _) | (with_reducible refine C_drew ?_))); (case side2 => exact (V_reads' HO_343000.out).2.1); rintro e w18 ⟨v350, rfl, ho0, hb⟩; refine ⟨_, rfl, ?_⟩; have n0_ := Aside0.mk (R_below (by (with_reducible repeat (first | apply R_alloc | apply R_drewN | apply R_drew)); exact HO_8.out) hb); have n1_ := Aside0.mk (V_elder' (by (with_reducible repeat (first | apply V_alloc | apply V_drewN | apply V_drew)); exact HO_343000.out) (S_base ho0) hb); have n2_ := Aside0.mk (N_lower (N_mono (ok' := fun k_ => (P0_0_ k_ ∨ w.heap.size ≤ k_) ∧ some k_ ≠ (v345 : Value).ownBlock ∧ k_ ≠ gb342 ∧ k_ ≠ gb343) (S_N (S_bound ho0)) (fun k_ hk_ => ⟨(.inr (Nat.le_trans (below_size (by repeat (first | (with_reducible first | exact HB.out | apply below_alloc | apply pw_below_drewN | apply below_drew1 | refine below_set ?_ GE342.out | refine below_set ?_ GE343.out) | exact HB.out))) hk_.2.1)), (Kd.fresh' (R_lt (by (with_reducible repeat (first | apply R_alloc | apply R_drewN | apply R_drew)); exact HO_8.out)) k_ hk_.2.1), (Kd.freshB (g := gb342) (o := .cells #[.slice A0_0 l0_0.length c0_0] 29 (0, 0)) (by (with_reducible repeat (first | refine blk_drewN ?_ _ | refine blk_drew ?_ | refine blk_alloc ?_ _)); exact BK342.out) k_ hk_.2.1), (Kd.freshB (g := gb343) (o := .cells #[.slice none 0 0] 29 (0, 0)) (by (with_reducible repeat (first | refine blk_drewN ?_ _ | refine blk_drew ?_ | refine blk_alloc ?_ _)); exact BK343.out) k_ hk_.2.1)⟩)) (below_size (by repeat (first | (with_reducible first | exact HB.out | apply below_alloc | apply pw_below_drewN | apply below_drew1 | refine below_set ?_ GE342.out | refine below_set ?_ GE343.out) | exact HB.out)))); have n3_ := Aside0.mk (blk_below (g := gb342) (o := .cells #[.slice A0_0 l0_0.length c0_0] 29 (0, 0)) (by (with_reducible repeat (first | refine blk_drewN ?_ _ | refine blk_drew ?_ | refine blk_alloc ?_ _)); exact BK342.out) hb); have n4_ := Aside0.mk (blk_below (g := gb343) (o := .cells #[.slice none 0 0] 29 (0, 0)) (by (with_reducible repeat (first | refine blk_drewN ?_ _ | refine blk_drew ?_ | refine blk_alloc ?_ _)); exact BK343.out) hb); have n5_ := Aside0.mk (below_step (by repeat (first | (with_reducible first | exact HB.out | apply below_alloc | apply pw_below_drewN | apply below_drew1 | refine below_set ?_ GE342.out | refine below_set ?_ GE343.out) | exact HB.out)) hb); clear HO_8; clear HO_343000; clear BK342; clear BK343; clear HB; have HO_8 := n0_; have HO_343000 := n1_; have HO351 := n2_; have BK342 := n3_; have BK343 := n4_; have HB := n5_; clear n0_ n1_ n2_ n3_ n4_ n5_; (try clear hb); (try clear hb2); (try clear hk); (try clear hi); (try clear ho0); obtain ⟨Ao19, co19, eo19⟩ := N_slice HO351.out; subst eo19; have hcz20_0 : w18.cell? ⟨gb343, 0, none⟩ = some (.slice none 0 0) := (blk_cell BK343.out 0).trans rfl; have hfz20_0 := blk_frozen BK343.out 0))
    refine bodyPost_ret (results_ct rfl _ _ gb343 29 #[.slice Ao19 t349.length co19] (0, 0) _ rfl (by (with_reducible repeat (first | refine blk_drewN ?_ _ | refine blk_drew ?_ | refine blk_alloc ?_ _)); refine blk_put (cs := #[.slice none 0 0]) ?_ 0 _ rfl; (with_reducible repeat (first | refine blk_drewN ?_ _ | refine blk_drew ?_ | refine blk_alloc ?_ _)); exact BK343.out) Tryd.underlying29 rfl (by kernel_rfl)) rfl ?_
    exact ⟨_, by first | rfl | (simp [errW_none, errW_some] <;> rfl) | (simp [*, errW_none, errW_some] <;> rfl), by (with_reducible repeat (first | apply N_alloc | apply N_drewN | apply N_drew)); exact N_mono (N_far (p := ⟨gb343, 0, none⟩) (N_mono HO351.out (fun k_ hk => (⟨hk, hk.2.2.2⟩ : _ ∧ k_ ≠ gb343))) (fun _ hk => hk.2) (.slice Ao19 t349.length co19)) (fun _ hk => hk.1.1), by repeat (first | (with_reducible first | exact HB.out | apply below_alloc | apply pw_below_drewN | apply below_drew1 | refine below_set ?_ GE342.out | refine below_set ?_ GE343.out) | exact HB.out)⟩
   ·
    replace c14 := Bool.eq_false_iff.mpr c14
    subst c14
    have H1 : (if 0 ≤ a2 then (if a2 ≤ (t344.length : Int) then ((spec_l03Put.f kj4 l0_0 a1 (t344.take (a2 : Int).toNat) ([] : List Int)).bind fun t357 => (some (t357, true))) else (none)) else (none)) = some (r1, r2) := by rw [if_neg (show ¬ (false = true) by decide)] at H; exact H
    clear H
    have H := H1
    clear H1
    by_cases c21 : 0 ≤ a2
    ·
     rw [if_pos c21] at H
     have c21b0 := eq_true c21
     have c21b1 : decide (0 ≤ a2) = true := decide_eq_true c21
     clear c21
     by_cases c22 : a2 ≤ (t344.length : Int)
     ·
      rw [if_pos c22] at H
      have c22b0 := eq_true c22
      have c22b1 : decide (a2 ≤ (t344.length : Int)) = true := decide_eq_true c22
      clear c22
      obtain ⟨y352, hy352⟩ : ∃ y_ : List Int, y_ = (t344.take (a2 : Int).toNat) := ⟨_, rfl⟩
      replace H : ((spec_l03Put.f kj4 l0_0 a1 y352 ([] : List Int)).bind fun t357 => (some (t357, true))) = some (r1, r2) := by first | (rw [hy352]; with_reducible exact H) | (have H2_ := (Option.bind_some _ _).symm.trans H; rw [hy352]; with_reducible exact H2_) | (have H2_ := (Option.bind_some _ _).symm.trans H; with_reducible exact H2_) | with_reducible exact H | (rw [hy352]; exact H) | exact H
      have Ny352 := Aside0.mk hy352
      clear hy352
      replace H := Option.bind_eq_some_iff.mp H
      obtain ⟨t357, A230, H⟩ := H
      replace H : (some (t357, true)) = some (r1, r2) := H
      have A23 := Aside0.mk A230
      clear A230
      simp only [Option.some.injEq, Prod.mk.injEq] at H
      obtain ⟨rfl, rfl⟩ := H
      try go_wp2
      have n0_ := Aside0.mk (R_drew HO_8.out)
      have n1_ := Aside0.mk (V_drew HO_343000.out)
      have n2_ := Aside0.mk (blk_drew BK342.out)
      have n3_ := Aside0.mk (blk_drew BK343.out)
      have n4_ := Aside0.mk (below_drew1 HB.out)
      clear HO_8
      clear HO_343000
      clear BK342
      clear BK343
      clear HB
      have HO_8 := n0_
      have HO_343000 := n1_
      have BK342 := n2_
      have BK343 := n3_
      have HB := n4_
      clear n0_ n1_ n2_ n3_ n4_
      obtain ⟨Ao26, co26, eo26⟩ := R_slice HO_8.out
      (first | subst eo26 | (injection eo26 with f1_ f2_ f3_; have f4_ := f1_.symm; have f5_ := f3_.symm; clear f1_ f2_ f3_; subst f4_; subst f5_))
      have q25 : (a2 : Int) ≤ ((t344.length : Int) : Int) := of_decide_eq_true (by first | (with_reducible assumption) | assumption)
      obtain ⟨i025, hi025, _, hsz25, _⟩ := info_parts info5
      have hroom25 : t344.length ≤ co26 := (R_reads' HO_8.out).2.1
      have hC25 : Kd.F (Kd.int .u8) _ _ Ao26 t344.length t344 := (V_at (base := w.heap.size) (V_mono (ok' := (fun k_ => (((P0_0_ k_ ∨ w.heap.size ≤ k_) ∧ k_ ≠ gb342) ∧ k_ ≠ gb343))) (R_V (R_types (R_types (HO_8.out) BK342.out (by decide)) BK343.out (by decide))) (fun k_ hk => ⟨⟨(.inr (hk.1.1)), hk.1.2⟩, hk.2⟩))).2.2
      have hcut25 := cut_to (P := Tryd.prog) 33 5 .i64 Tryd.underlying33 hi025 Ao26 t344.length co26 a2 (of_decide_eq_true (by first | (with_reducible assumption) | assumption)) q25 hroom25
      have hr25 := F_take (m := (a2 : Int).toNat) hC25 (by omega)
      have hy25 : y352.length = (a2 : Int).toNat := (by rw [Ny352.out, List.length_take]; omega)
      rw [← Ny352.out] at hr25
      rw [← hy25] at hcut25
      have HO356 := Aside0.mk (show Kd.V (Kd.int .u8) 5 _ w.heap.size _ (.slice Ao26 y352.length co26) y352 from V_mk (by omega) hr25)
      have HC356 := Aside0.mk (show y352.length ≤ co26 from by omega)
      clear hr25 hC25 hroom25 hi025 hsz25
      have KY25 := Aside0.mk hy25
      clear hy25
      replace q25 := eq_true q25
      refine start_ (n := 9) (S := fun w' => w'.cell? ⟨gb342, 0, none⟩ = some (.slice A0_0 l0_0.length c0_0)) (ds := []) #[false, false, false, false, false, false, false, false, false] (by kernel_rfl) rfl rfl ((blk_cell BK342.out 0).trans rfl) (fun hHeld => ?_); refine with_tabW spec_CutFile.tab4 spec_CutFile.bits4 (fun HT_ HW_ => ?_)
      generalize wc.drew = w24 at HO_8 HO_343000 BK342 BK343 HB HO356 hHeld ⊢
      refine SQ.pu 1 28 HT_ ?_
      refine SQ.pu 2 29 HT_ ?_
      refine SQ.pu 3 30 HT_ ?_
      refine SQ.pu 4 31 HT_ ?_
      refine SQ.pu 5 32 HT_ ?_
      refine take_ (i := 0) (N := some 27) (v := ?_) (a' := ?_) #[true, true, true, true, true, true, false, false, false] rfl rfl (take_ofW HT_.out HW_.out (by kernel_rfl)) (fun _ _ _ h => h) (Or.inl ⟨by rfl, ?_⟩) hHeld ?_ ?_
      rotate_left
      ·
       intro w' s0
       go_simp
       with_reducible rfl
      rotate_left
      ·
       simp only [Act.put, List.setIfInBounds_toArray, List.set_cons_zero, List.set_cons_succ, i64_w, i32_w]
       rfl
      refine one_ (i := 6) (N := some 33) #[true, true, true, true, true, true, true, false, false] rfl rfl (one_of HT_.out (by kernel_rfl)) (by decide) (fun K hK => ?_)
      refine goes_ Tryd.func70 (by kernel_rfl) rfl #[.agg #[.slice A0_0 l0_0.length c0_0], .agg #[.string a1, .slice Ao26 y352.length co26, .slice none 0 0]] (by rfl) rfl rfl (by (try simp only [List.map_toArray, List.map_cons, List.map_nil]); first | done | rfl | (simp only [List.length_drop, List.length_take]; rfl)) ?_
      refine (spec_l03Put.calls kj4 (fun k_ => ((P0_0_ k_ ∨ w.heap.size ≤ k_) ∧ (some k_ ≠ (.slice Ao26 t344.length co26 : Value).ownBlock ∧ (k_ ≠ gb342 ∧ k_ ≠ gb343)))) _ _ l0_0 a1 (fun k_ => (((P0_0_ k_ ∨ w.heap.size ≤ k_) ∧ k_ ≠ gb342) ∧ k_ ≠ gb343)) _ _ y352 (fun k_ => False) _ _ ([] : List Int) t357 _ ?side1 ?side2 ?side3 A23.out).mono ?_
      (case side1 => exact HO_343000.out)
      (case side2 => exact HO356.out)
      (case side3 => exact V_nil _ _ _ _ _)
      rintro e w27 ⟨v358, rfl, ho0, hb⟩
      refine ⟨_, rfl, ?_⟩
      have n0_ := Aside0.mk (R_below (by (with_reducible repeat (first | apply R_alloc | apply R_drewN | apply R_drew)); exact HO_8.out) hb)
      have n1_ := Aside0.mk (V_elder' (by (with_reducible repeat (first | apply V_alloc | apply V_drewN | apply V_drew)); exact HO_343000.out) (N_base ho0) hb)
      have n2_ := Aside0.mk (V_elder' (by (with_reducible repeat (first | apply V_alloc | apply V_drewN | apply V_drew)); exact HO356.out) (N_base ho0) hb)
      have n3_ := Aside0.mk (N_lower (N_mono (ok' := fun k_ => (P0_0_ k_ ∨ w.heap.size ≤ k_) ∧ k_ ≠ gb342 ∧ k_ ≠ gb343) ho0 (fun k_ hk_ => ⟨Or.elim hk_ (fun hs_ => Or.elim hs_ (fun hs_ => hs_.1) (fun hs_ => Or.elim hs_ (fun hs_ => hs_.1.1) (fun hs_ => (hs_).elim))) (fun hn_ => (.inr (Nat.le_trans (below_size (by repeat (first | (with_reducible first | exact HB.out | apply below_alloc | apply pw_below_drewN | apply below_drew1 | refine below_set ?_ GE342.out | refine below_set ?_ GE343.out) | exact HB.out))) hn_))), Or.elim hk_ (fun hs_ => Or.elim hs_ (fun hs_ => hs_.2.2.1) (fun hs_ => Or.elim hs_ (fun hs_ => hs_.1.2) (fun hs_ => (hs_).elim))) (fun hn_ => (Kd.freshB (g := gb342) (o := .cells #[.slice A0_0 l0_0.length c0_0] 29 (0, 0)) (by (with_reducible repeat (first | refine blk_drewN ?_ _ | refine blk_drew ?_ | refine blk_alloc ?_ _)); exact BK342.out) k_ hn_)), Or.elim hk_ (fun hs_ => Or.elim hs_ (fun hs_ => hs_.2.2.2) (fun hs_ => Or.elim hs_ (fun hs_ => hs_.2) (fun hs_ => (hs_).elim))) (fun hn_ => (Kd.freshB (g := gb343) (o := .cells #[.slice none 0 0] 29 (0, 0)) (by (with_reducible repeat (first | refine blk_drewN ?_ _ | refine blk_drew ?_ | refine blk_alloc ?_ _)); exact BK343.out) k_ hn_))⟩)) (below_size (by repeat (first | (with_reducible first | exact HB.out | apply below_alloc | apply pw_below_drewN | apply below_drew1 | refine below_set ?_ GE342.out | refine below_set ?_ GE343.out) | exact HB.out))))
      have n4_ := Aside0.mk (blk_below (g := gb342) (o := .cells #[.slice A0_0 l0_0.length c0_0] 29 (0, 0)) (by (with_reducible repeat (first | refine blk_drewN ?_ _ | refine blk_drew ?_ | refine blk_alloc ?_ _)); exact BK342.out) hb)
      have n5_ := Aside0.mk (blk_below (g := gb343) (o := .cells #[.slice none 0 0] 29 (0, 0)) (by (with_reducible repeat (first | refine blk_drewN ?_ _ | refine blk_drew ?_ | refine blk_alloc ?_ _)); exact BK343.out) hb)
      have n6_ := Aside0.mk (below_step (by repeat (first | (with_reducible first | exact HB.out | apply below_alloc | apply pw_below_drewN | apply below_drew1 | refine below_set ?_ GE342.out | refine below_set ?_ GE343.out) | exact HB.out)) hb)
      clear HO_8
      clear HO_343000
      clear HO356
      clear BK342
      clear BK343
      clear HB
      have HO_8 := n0_
      have HO_343000 := n1_
      have HO356 := n2_
      have HO359 := n3_
      have BK342 := n4_
      have BK343 := n5_
      have HB := n6_
      clear n0_ n1_ n2_ n3_ n4_ n5_ n6_
      (try clear hb)
      (try clear hb2)
      (try clear hk)
      (try clear hi)
      (try clear ho0)
      obtain ⟨Ao28, co28, eo28⟩ := N_slice HO359.out
      (first | subst eo28 | (injection eo28 with f1_ f2_ f3_; have f4_ := f1_.symm; have f5_ := f3_.symm; clear f1_ f2_ f3_; subst f4_; subst f5_))
      refine hK.out _ _ ((blk_cell BK342.out 0).trans rfl) (fun hHeld => ?_)
      clear hK K
      refine norm_ (a' := ?_) ?_ ?_
      rotate_left
      ·
       show Act.put _ (some 33) _ = _
       simp only [Act.put, List.setIfInBounds_toArray, List.set_cons_zero, List.set_cons_succ, i64_w, i32_w]
       rfl
      refine one_ (i := 7) (N := none) #[true, true, true, true, true, true, true, true, false] rfl rfl (one_of HT_.out (by kernel_rfl)) (by decide) (fun K hK => ?_)
      have hs29 : w27.cell? ⟨gb343, 0, none⟩ = some (.slice none 0 0) := (blk_cell BK343.out 0).trans rfl
      have hfs29 := blk_frozen BK343.out 0
      have hns29_0 := NB342_343.out
      have hms29_0 := NB343_342.out
      refine skip_ (w1 := ?_) (by rfl) rfl ?_ ?_
      rotate_left
      ·
       go_simp
       rfl
      refine hK.out _ _ (((cell_far (p := ⟨gb343, _, none⟩) NB342_343.out _).trans (hHeld))) (fun hHeld => ?_)
      clear hK K
      refine SQ.pu 8 7 HT_ ?_
      refine done_ (done_of HT_.out (by kernel_rfl)) ?_
      try go_wp2
      refine bodyPost_ret (results_ct rfl _ _ gb343 29 #[.slice Ao28 t357.length co28] (0, 0) _ rfl (by (with_reducible repeat (first | refine blk_drewN ?_ _ | refine blk_drew ?_ | refine blk_alloc ?_ _)); refine blk_put (cs := #[.slice none 0 0]) ?_ 0 _ rfl; (with_reducible repeat (first | refine blk_drewN ?_ _ | refine blk_drew ?_ | refine blk_alloc ?_ _)); exact BK343.out) Tryd.underlying29 rfl (by kernel_rfl)) rfl ?_
      exact ⟨_, by first | rfl | (simp [errW_none, errW_some] <;> rfl) | (simp [*, errW_none, errW_some] <;> rfl), by (with_reducible repeat (first | apply N_alloc | apply N_drewN | apply N_drew)); exact N_mono (N_far (p := ⟨gb343, 0, none⟩) (N_mono HO359.out (fun k_ hk => (⟨hk, hk.2.2⟩ : _ ∧ k_ ≠ gb343))) (fun _ hk => hk.2) (.slice Ao28 t357.length co28)) (fun _ hk => hk.1.1), by repeat (first | (with_reducible first | exact HB.out | apply below_alloc | apply pw_below_drewN | apply below_drew1 | refine below_set ?_ GE342.out | refine below_set ?_ GE343.out) | exact HB.out)⟩
     ·
      rw [if_neg c22] at H
      exact absurd H (by simp)
    ·
     rw [if_neg c21] at H
     exact absurd H (by simp)
end Go.Proofs.YtmgeffgcihfpcaaDoor.F

namespace Go.Proofs.YtmgeffgcihfpcaaDoor.F
open Go.RowKit Go.Proofs.YtmgeffgcihfpcaaDoorW.PrintWords Go.Proofs.YtmgeffgcihfpcaaDoorW.PrintLast Go.Proofs.YtmgeffgcihfpcaaDoorW.PrintMore
set_option linter.unusedVariables false
set_option linter.unusedSimpArgs false
def laws_markFileS.l0 : Nat → List S74 → Int → Int → Option (Int × List S74)
  | 0, _, _, _ => none
  | k + 1, x0, x1, x5 => if x5 < (x0.length : Int) then (if 0 ≤ x5 then ((laws_markText.f k x1).bind fun a => ((laws_markByteS.f k (rd_T74 x0 x5).f1 (wrap64 (x1 + 1))).bind fun b => ((laws_markByteS.f k (rd_T74 x0 x5).f2 b.1).bind fun c => laws_markFileS.l0 k (x0.set x5.toNat ⟨a, b.2, c.2⟩) c.1 (wrap64 (x5 + 1))))) else none) else some (x1, x0)
def laws_markFileS.f (k : Nat) (l0 : List S74) (a1 : Int) : Option (Int × List S74) := laws_markFileS.l0 k l0 a1 0
theorem S_lent {α : Type} {d : Kd α} {e base : Nat} {W : World} {ok : Nat → Prop} {v : Value} {xs : List α} (h : Kd.S d e W base ok v xs) (z : α) (i : Int) (h0 : 0 ≤ i) (h1 : i < xs.length) :
    ∃ (g cap : Nat) (oki : Nat → Prop) (c : List Value), v = .slice (some ⟨g, 0, none⟩) xs.length cap ∧ base ≤ g ∧ ok g ∧ c.length = d.sz ∧ d.M W base oki (xs.getD i.toNat z) c ∧ (∀ j u, c[j]? = some u → W.cell? ⟨g, i.toNat * d.sz + j, none⟩ = some u) ∧ (∀ j, W.frozen? ⟨g, i.toNat * d.sz + j, none⟩ = false) ∧ (∀ k, oki k → ok k ∧ k ≠ g) ∧ Kd.H d e W base ok v xs i oki c := by
  obtain ⟨g, cap, rfl, hg, _, _⟩ := Kd.S_form h (by omega)
  obtain ⟨oki, c, a1, a2, a3, a6, a4, a5⟩ := Kd.S_elem h z i h0 h1
  exact ⟨g, cap, oki, c, rfl, hg, (Kd.S_R h).1 g (by simp [Value.ownBlock]), a1, a2, a3, a6, a4, a5⟩
theorem R_back {α : Type} {d : Kd α} {e base : Nat} {W W1 : World} {ok ok' : Nat → Prop} {v : Value} {xs ys : List α} (hE : d.E = []) (h : d.R e W base ok v xs) (h' : d.R e W1 base ok' v ys) : d.R e W1 base ok v ys :=
  Kd.R_mono (Kd.R_tight hE h') (fun k hk => h.1 k hk.symm)
set_option maxHeartbeats 8000000 in
set_option maxRecDepth 100000 in
theorem laws_markFileS.calls (k : Nat) (P0_ : Nat → Prop) (u9000_ : Value) (l0 : List S74) (a1 : Int) (r1 : Int) (r2 : List S74) (w0 w : World) (hB : Below w0.heap.size w0 w) (ho0 : Kd.S k74 74 w w0.heap.size P0_ u9000_ l0) (h : laws_markFileS.f k l0 a1 = some (r1, r2)) :
    Calls Tryd.prog 65 #[u9000_, .int .i64 a1] w fun e w' => e = .returned (.int .i64 r1) ∧ Kd.S k74 74 w' w0.heap.size P0_ u9000_ r2 ∧ Below w0.heap.size w0 w' ∧ Kept w w' (fun k_ => P0_ k_) := by
  obtain ⟨A0, c0, rfl⟩ := Kd.S_slice ho0
  have HO0 := Aside0.mk ho0
  have HK := Aside0.mk (Kept.refl w (fun k_ => P0_ k_))
  have HB := Aside0.mk hB
  clear hB ho0
  have H' := Aside0.mk (show laws_markFileS.l0 k l0 a1 0 = some (r1, r2) from h)
  clear h
  have hu74 := Tryd.underlying74
  go_enter Tryd.func65, Tryd.ntmps65
  go_wp2
  go_loopg [1, 5] k (fun kq v1 v5 w' => ∃ (x0 : List S74) (x1 x5 : Int), v1 = .int .i64 x1 ∧ v5 = .int .i64 x5 ∧ Aside0 (laws_markFileS.l0 kq x0 x1 x5 = some (r1, r2)) ∧ Aside0 (kq ≤ k) ∧ Aside0 (Kd.S k74 74 w' w0.heap.size P0_ (.slice A0 l0.length c0) x0) ∧ Aside0 (Kept w w' (fun k_ => P0_ k_)) ∧ Aside0 (Below w0.heap.size w0 w'))
  case atStart => exact ⟨l0, a1, 0, by first | rfl | (simp; done), by first | rfl | (simp; done), H', ⟨Nat.le_refl _⟩, HO0, HK, HB⟩
  case round =>
    clear H' HO0 HK HB
    obtain ⟨x0, x1, x5, rfl, rfl, HA, HK1, HO, HK, HB⟩ := hrel
    cases gk with
    | zero => exact absurd HA.out (by simp [laws_markFileS.l0])
    | succ k1 =>
      have H := HA.out
      clear HA
      have hl : l0.length = x0.length := (Kd.S_reads' HO.out).1
      simp only [laws_markFileS.l0, ← hl] at H
      by_cases c3 : x5 < (l0.length : Int)
      · rw [if_pos c3] at H
        have q5 := decide_eq_true c3
        by_cases c4 : 0 ≤ x5
        · rw [if_pos c4] at H
          obtain ⟨t0, A4, H⟩ := Option.bind_eq_some_iff.mp H
          obtain ⟨⟨t1, t2⟩, A5, H⟩ := Option.bind_eq_some_iff.mp H
          obtain ⟨⟨t3, t4⟩, A7, H⟩ := Option.bind_eq_some_iff.mp H
          dsimp only at A7 H
          have H' := Aside0.mk H
          clear H
          have A3 := Aside0.mk A4
          clear A4
          have p6 := eq_true c4
          have q6 := eq_true c3
          have C3 := Aside0.mk c3
          have C4 := Aside0.mk c4
          have HL := Aside0.mk hl
          clear hl
          go_wp2_with fail
          refine (laws_markText.calls k1 x1 t0 _ A3.out).mono ?_
          rintro e w5 ⟨rfl, hb0⟩
          replace HO := Aside0.mk (Kd.S_below HO.out hb0)
          replace HB := Aside0.mk (below_then HB.out HB.out.size hb0)
          replace HK := Aside0.mk (HK.out.below hb0)
          clear hb0
          have hl := HL.out
          have c3 := C3.out
          have c4 := C4.out
          obtain ⟨g, cap, oki, c, hv, hg, hok, hcl, hM, hcc, hfr, hoki, hH⟩ := S_lent HO.out z74 x5 c4 (by omega)
          have hM : k74.M w5 w0.heap.size oki (rd_T74 x0 x5) c := hM
          generalize rd_T74 x0 x5 = y at A5 A7 hM
          have A6 := Aside0.mk A5
          have A8 := Aside0.mk A7
          clear A5 A7
          obtain ⟨pp, v1, v2, rfl, hA1, hA2⟩ := k74_openA hM
          have hNN := fun k (h1 : some k = v1.ownBlock) (h2 : some k = v2.ownBlock) => (hA2.1 k h2.symm).2 (hA1.1 k h1.symm).2
          have hR1 := Kd.R_mono hA1 (fun _ h => h.1)
          have hR2 := Kd.R_mono hA2 (fun _ h => h.1)
          have hx0 : w5.cell? ⟨g, x5.toNat * 3, none⟩ = some (.string y.f0) := hcc 0 _ rfl
          have hf0 : w5.frozen? ⟨g, x5.toNat * 3, none⟩ = false := hfr 0
          have hil : x5.toNat < x0.length := by omega
          have hP := (Kd.S_seg (okg := fun _ => False) (seg := [.string t0]) (j := 0) (x' := (⟨t0, y.f1, y.f2⟩ : S74)) (Kd.H_mono (v := .slice (some ⟨g, 0, none⟩) x0.length cap) (hv ▸ hH) (fun k hk => ⟨hk, fun h => h⟩)) c4 (by omega) (show 0 + 1 ≤ 3 by decide) (k74_mkM _ _ _ (⟨t0, y.f1, y.f2⟩ : S74) hR1 hR2 hNN) (fun k hk => .inl hk) (fun k hk => hk.elim)).1
          have HP : Aside0 (Kd.S k74 74 (w5.setCell ⟨g, x5.toNat * 3, none⟩ (.string t0)) w0.heap.size P0_ (.slice (some ⟨g, 0, none⟩) x0.length cap) (x0.set x5.toNat (⟨t0, y.f1, y.f2⟩ : S74))) := ⟨hP⟩
          have HB2 := Aside0.mk (below_set (g := g) (j := x5.toNat * 3) (v := .string t0) HB.out hg)
          have HK2 := Aside0.mk (Kept.setCell (p := ⟨g, x5.toNat * 3, none⟩) HK.out (.inl hok) (.string t0))
          injection hv with e1 e2 e3
          subst e1
          subst e3
          have HIL := Aside0.mk hil
          clear hNN hA1 hA2
          clear e2 hM hcc hfr hoki hH hcl hR1 hR2 hP hil HO HB HK hg hok hl
          go_wp2_with ((with_reducible refine gate_store (t := 9) (p := 17) rfl ?_); refine store_event (t := 9) (p := 17) (v := ?vo) (w1 := (w5.setCell ⟨g, x5.toNat * 3, none⟩ (.string t0))) ?hg ?ho ?hn ?hr ?_; (case ho => rfl); (case hg => rfl); (case hn => rfl); (case hr => first | (go_simp; done) | (go_simp; rfl)); intro w2 hw; rw [← hw] at HP HB2 HK2; clear hw hx0 hf0; obtain ⟨g2, cap2, oki, c, hv, hg, hok, hcl, hM, hcc, hfr, hoki, hH⟩ := S_lent HP.out z74 x5 C4.out (by rw [List.length_set]; exact (Int.toNat_lt C4.out).1 HIL.out); injection hv with e1 e2 e3; injection e1 with e1; injection e1 with e1; subst e1; clear e2 e3; rw [List.getD_eq_getElem?_getD, List.getElem?_set_self HIL.out, Option.getD_some] at hM; obtain ⟨pp2, v3, v4, rfl, hA1, hA2⟩ := k74_openA hM; have GN := Aside0.mk (fun k (h1 : some k = v3.ownBlock) (h2 : some k = v4.ownBlock) => (hA2.1 k h2.symm).2 (hA1.1 k h1.symm).2); have hR1 := Kd.R_mono hA1 (fun _ h => h.1); have hR2 := Kd.R_mono hA2 (fun _ h => h.1); have hx1 : w2.cell? ⟨g, x5.toNat * 3 + 1, none⟩ = some v3 := hcc 1 _ rfl; have hx2 : w2.cell? ⟨g, x5.toNat * 3 + 2, none⟩ = some v4 := hcc 2 _ rfl; have GR1 := Aside0.mk hR1; have GR2 := Aside0.mk hR2; have GH := Aside0.mk hH; have GI := Aside0.mk hoki; have GO := Aside0.mk hok; clear hM hcc hfr hoki hH hcl hR1 hR2 hg hok HP hA1 hA2)
          have T1 := Kd.R_tight rfl GR1.out
          have T2 := Kd.R_tight rfl GR2.out
          refine (laws_markByteS.calls k1 (fun k => some k = v3.ownBlock) v3 y.f1 _ t1 t2 w0 _ HB2.out T1 A6.out).mono ?_
          rintro e w3 ⟨rfl, hR1, hB1, hK1⟩
          have U1 := Aside0.mk (R_back rfl T1 hR1)
          have U2 := Aside0.mk (Kd.R_kept T2 hK1 (fun k h1 h2 => GN.out k h2 h1))
          have UH := Aside0.mk (Kd.H_kept GH.out hK1 (fun k hk hn hs => hn (GR1.out.1 k hs.symm)))
          have UK := Aside0.mk (HK2.out.then_ hK1 (fun k hk => .inl (GI.out k (GR1.out.1 k hk.symm)).1))
          have hx3 : w3.cell? ⟨g, x5.toNat * 3 + 2, none⟩ = some v4 := cell_kept hx2 hK1 (fun hs => (GI.out _ (GR1.out.1 _ hs.symm)).2 rfl)
          have UB := Aside0.mk hB1
          have NE1 := Aside0.mk GN.out
          clear T1 T2 hR1 hB1 hK1 hx1 hx2 GH HK2 HB2
          go_wp2_with fail
          refine (laws_markByteS.calls k1 (fun k => some k = v4.ownBlock) v4 y.f2 _ t3 t4 w0 _ UB.out U2.out A8.out).mono ?_
          rintro e w4 ⟨rfl, hR2, hB1, hK1⟩
          have V2 := R_back rfl U2.out hR2
          have V1 := Kd.R_kept U1.out hK1 NE1.out
          have VH := Kd.H_kept UH.out hK1 (fun k hk hn hs => hn (GR2.out.1 k hs.symm))
          have N1 := Aside0.mk (Kd.H_back VH (okp := oki) (k74_mkM _ _ _ (⟨t0, t2, t4⟩ : S74) (Kd.R_mono V1 (fun k hk => GR1.out.1 k hk.symm)) (Kd.R_mono V2 (fun k hk => GR2.out.1 k hk.symm)) GN.out) (fun _ h => h))
          rw [List.set_set] at N1
          have N2 := Aside0.mk (UK.out.then_ hK1 (fun k hk => .inl (GI.out k (GR2.out.1 k hk.symm)).1))
          have N3 := Aside0.mk hB1
          clear V1 V2 VH hR2 hB1 hK1 hx3 U1 U2 UH UK UB NE1 GR1 GR2 GI GO
          rw [HL.out.symm] at N1
          go_wp2
          go_roundg k1
          case measure => have := HK1.out; omega
          case rel => exact ⟨_, t3, _, rfl, by first | rfl | (simp; done), H', ⟨by have := HK1.out; omega⟩, N1, N2, N3⟩
        · rw [if_neg c4] at H
          exact absurd H (by simp)
      · rw [if_neg c3] at H
        have q5 := decide_eq_false c3
        simp only [Option.some.injEq, Prod.mk.injEq] at H
        obtain ⟨rfl, rfl⟩ := H
        clear hl c3
        go_wp2
        go_ret
        exact ⟨rfl, HO.out, HB.out, HK.out⟩
def laws_markDisk.f (k : Nat) (l0_0 : List S74) (a1 : Int) : Option (Int × List S74) := laws_markFileS.f k l0_0 a1
set_option maxHeartbeats 8000000 in
theorem laws_markDisk.calls (k : Nat) (P0_0_ : Nat → Prop) (u9000_ : Value) (l0_0 : List S74) (a1 : Int) (r1 : Int) (r2 : List S74) (w0 w : World) (hB : Below w0.heap.size w0 w) (ho0_0 : Kd.S k74 74 w w0.heap.size P0_0_ u9000_ l0_0) (h : laws_markDisk.f k l0_0 a1 = some (r1, r2)) :
    Calls Tryd.prog 22 #[.agg #[u9000_], .int .i64 a1] w fun e w' => e = .returned (.int .i64 r1) ∧ Kd.S k74 74 w' w0.heap.size P0_0_ u9000_ r2 ∧ Below w0.heap.size w0 w' ∧ Kept w w' (fun k_ => P0_0_ k_) := by
  obtain ⟨A0, c0, rfl⟩ := Kd.S_slice ho0_0
  have HO0 := Aside0.mk ho0_0
  have HB := Aside0.mk hB
  have H := Aside0.mk (show laws_markFileS.f k l0_0 a1 = some (r1, r2) from h)
  clear hB ho0_0 h
  go_enter Tryd.func22, Tryd.ntmps22
  go_wp2_with fail
  have B1 := below_alloc (Below.refl w.heap.size w) (.cells #[.slice A0 l0_0.length c0] 29)
  refine (laws_markFileS.calls k P0_0_ _ l0_0 a1 r1 r2 w0 _ (below_then HB.out HB.out.size B1) (Kd.S_below HO0.out B1) H.out).mono ?_
  rintro e w' ⟨rfl, hS, hB2, hK⟩
  have HS := Aside0.mk hS
  have HB2 := Aside0.mk hB2
  have HK := Aside0.mk ((Kept.of_below B1 _).then_ hK (fun k hk => .inl hk))
  clear hS hB2 hK B1
  go_wp2
  go_ret
  exact ⟨rfl, HS.out, HB2.out, HK.out⟩
end Go.Proofs.YtmgeffgcihfpcaaDoor.F

namespace Go.Proofs.YtmgeffgcihfpcaaDoor.F
open Go.RowKit Go.Proofs.YtmgeffgcihfpcaaDoorW.PrintWords Go.Proofs.YtmgeffgcihfpcaaDoorW.PrintLast Go.Proofs.YtmgeffgcihfpcaaDoorW.PrintMore
set_option linter.unusedVariables false
set_option linter.unusedSimpArgs false
set_option maxHeartbeats 8000000 in
set_option maxRecDepth 100000 in
theorem laws_markFileS.callsC (k : Nat) (P0_ : Nat → Prop) (u9000_ : Value) (l0 : List S74) (a1 : Int) (r1 : Int) (r2 : List S74) (w0 w : World) (hB : Below w0.heap.size w0 w) (ho0 : Kd.S k74c 74 w w0.heap.size P0_ u9000_ l0) (h : laws_markFileS.f k l0 a1 = some (r1, r2)) :
    Calls Tryd.prog 65 #[u9000_, .int .i64 a1] w fun e w' => e = .returned (.int .i64 r1) ∧ Kd.S k74c 74 w' w0.heap.size P0_ u9000_ r2 ∧ Below w0.heap.size w0 w' ∧ Kept w w' (fun k_ => P0_ k_) := by
  obtain ⟨A0, c0, rfl⟩ := Kd.S_slice ho0
  have HO0 := Aside0.mk ho0
  have HK := Aside0.mk (Kept.refl w (fun k_ => P0_ k_))
  have HB := Aside0.mk hB
  clear hB ho0
  have H' := Aside0.mk (show laws_markFileS.l0 k l0 a1 0 = some (r1, r2) from h)
  clear h
  have hu74 := Tryd.underlying74
  go_enter Tryd.func65, Tryd.ntmps65
  go_wp2
  go_loopg [1, 5] k (fun kq v1 v5 w' => ∃ (x0 : List S74) (x1 x5 : Int), v1 = .int .i64 x1 ∧ v5 = .int .i64 x5 ∧ Aside0 (laws_markFileS.l0 kq x0 x1 x5 = some (r1, r2)) ∧ Aside0 (kq ≤ k) ∧ Aside0 (Kd.S k74c 74 w' w0.heap.size P0_ (.slice A0 l0.length c0) x0) ∧ Aside0 (Kept w w' (fun k_ => P0_ k_)) ∧ Aside0 (Below w0.heap.size w0 w'))
  case atStart => exact ⟨l0, a1, 0, by first | rfl | (simp; done), by first | rfl | (simp; done), H', ⟨Nat.le_refl _⟩, HO0, HK, HB⟩
  case round =>
    clear H' HO0 HK HB
    obtain ⟨x0, x1, x5, rfl, rfl, HA, HK1, HO, HK, HB⟩ := hrel
    cases gk with
    | zero => exact absurd HA.out (by simp [laws_markFileS.l0])
    | succ k1 =>
      have H := HA.out
      clear HA
      have hl : l0.length = x0.length := (Kd.S_reads' HO.out).1
      simp only [laws_markFileS.l0, ← hl] at H
      by_cases c3 : x5 < (l0.length : Int)
      · rw [if_pos c3] at H
        have q5 := decide_eq_true c3
        by_cases c4 : 0 ≤ x5
        · rw [if_pos c4] at H
          obtain ⟨t0, A4, H⟩ := Option.bind_eq_some_iff.mp H
          obtain ⟨⟨t1, t2⟩, A5, H⟩ := Option.bind_eq_some_iff.mp H
          obtain ⟨⟨t3, t4⟩, A7, H⟩ := Option.bind_eq_some_iff.mp H
          dsimp only at A7 H
          have H' := Aside0.mk H
          clear H
          have A3 := Aside0.mk A4
          clear A4
          have p6 := eq_true c4
          have q6 := eq_true c3
          have C3 := Aside0.mk c3
          have C4 := Aside0.mk c4
          have HL := Aside0.mk hl
          clear hl
          go_wp2_with fail
          refine (laws_markText.calls k1 x1 t0 _ A3.out).mono ?_
          rintro e w5 ⟨rfl, hb0⟩
          replace HO := Aside0.mk (Kd.S_below HO.out hb0)
          replace HB := Aside0.mk (below_then HB.out HB.out.size hb0)
          replace HK := Aside0.mk (HK.out.below hb0)
          clear hb0
          have hl := HL.out
          have c3 := C3.out
          have c4 := C4.out
          obtain ⟨g, cap, oki, c, hv, hg, hok, hcl, hM, hcc, hfr, hoki, hH⟩ := S_lent HO.out z74 x5 c4 (by omega)
          have hM : k74c.M w5 w0.heap.size oki (rd_T74 x0 x5) c := hM
          generalize rd_T74 x0 x5 = y at A5 A7 hM
          have A6 := Aside0.mk A5
          have A8 := Aside0.mk A7
          clear A5 A7
          obtain ⟨pp, v1, v2, x1, x2, rfl, hcu1, hcu2, hA1, hA2⟩ := k74c_openA hM
          have hNN := fun k (h1 : some k = x1.ownBlock) (h2 : some k = x2.ownBlock) => (hA2.1 k h2.symm).2 (hA1.1 k h1.symm).2
          have hR1 := Kd.R_mono hA1 (fun _ h => h.1)
          have hR2 := Kd.R_mono hA2 (fun _ h => h.1)
          have hx0 : w5.cell? ⟨g, x5.toNat * 3, none⟩ = some (.string y.f0) := hcc 0 _ rfl
          have hf0 : w5.frozen? ⟨g, x5.toNat * 3, none⟩ = false := hfr 0
          have hil : x5.toNat < x0.length := by omega
          have hP := (Kd.S_seg (okg := fun _ => False) (seg := [.string t0]) (j := 0) (x' := (⟨t0, y.f1, y.f2⟩ : S74)) (Kd.H_mono (v := .slice (some ⟨g, 0, none⟩) x0.length cap) (hv ▸ hH) (fun k hk => ⟨hk, fun h => h⟩)) c4 (by omega) (show 0 + 1 ≤ 3 by decide) (k74c_mkM _ _ _ (⟨t0, y.f1, y.f2⟩ : S74) hcu1 hcu2 hR1 hR2 hNN) (fun k hk => .inl hk) (fun k hk => hk.elim)).1
          have HP : Aside0 (Kd.S k74c 74 (w5.setCell ⟨g, x5.toNat * 3, none⟩ (.string t0)) w0.heap.size P0_ (.slice (some ⟨g, 0, none⟩) x0.length cap) (x0.set x5.toNat (⟨t0, y.f1, y.f2⟩ : S74))) := ⟨hP⟩
          have HB2 := Aside0.mk (below_set (g := g) (j := x5.toNat * 3) (v := .string t0) HB.out hg)
          have HK2 := Aside0.mk (Kept.setCell (p := ⟨g, x5.toNat * 3, none⟩) HK.out (.inl hok) (.string t0))
          injection hv with e1 e2 e3
          subst e1
          subst e3
          have HIL := Aside0.mk hil
          clear hNN hA1 hA2 hcu1 hcu2
          clear e2 hM hcc hfr hoki hH hcl hR1 hR2 hP hil HO HB HK hg hok hl
          go_wp2_with ((with_reducible refine gate_store (t := 9) (p := 17) rfl ?_); refine store_event (t := 9) (p := 17) (v := ?vo) (w1 := (w5.setCell ⟨g, x5.toNat * 3, none⟩ (.string t0))) ?hg ?ho ?hn ?hr ?_; (case ho => rfl); (case hg => rfl); (case hn => rfl); (case hr => first | (go_simp; done) | (go_simp; rfl)); intro w2 hw; rw [← hw] at HP HB2 HK2; clear hw hx0 hf0; obtain ⟨g2, cap2, oki, c, hv, hg, hok, hcl, hM, hcc, hfr, hoki, hH⟩ := S_lent HP.out z74 x5 C4.out (by rw [List.length_set]; exact (Int.toNat_lt C4.out).1 HIL.out); injection hv with e1 e2 e3; injection e1 with e1; injection e1 with e1; subst e1; clear e2 e3; rw [List.getD_eq_getElem?_getD, List.getElem?_set_self HIL.out, Option.getD_some] at hM; obtain ⟨pp2, v3, v4, x3, x4, rfl, hcu3, hcu4, hA1, hA2⟩ := k74c_openA hM; have CU3 := Aside0.mk hcu3; have CU4 := Aside0.mk hcu4; clear hcu3 hcu4; have GN := Aside0.mk (fun k (h1 : some k = x3.ownBlock) (h2 : some k = x4.ownBlock) => (hA2.1 k h2.symm).2 (hA1.1 k h1.symm).2); have hR1 := Kd.R_mono hA1 (fun _ h => h.1); have hR2 := Kd.R_mono hA2 (fun _ h => h.1); have hx1 : w2.cell? ⟨g, x5.toNat * 3 + 1, none⟩ = some v3 := hcc 1 _ rfl; have hx2 : w2.cell? ⟨g, x5.toNat * 3 + 2, none⟩ = some v4 := hcc 2 _ rfl; have GR1 := Aside0.mk hR1; have GR2 := Aside0.mk hR2; have GH := Aside0.mk hH; have GI := Aside0.mk hoki; have GO := Aside0.mk hok; clear hM hcc hfr hoki hH hcl hR1 hR2 hg hok HP hA1 hA2)
          have T1 := Kd.R_tight rfl GR1.out
          have T2 := Kd.R_tight rfl GR2.out
          refine (laws_markByteS.callsC k1 (fun k => some k = x3.ownBlock) v3 x3 y.f1 _ t1 t2 w0 _ HB2.out CU3.out T1 A6.out).mono ?_
          rintro e w3 ⟨rfl, hR1, hB1, hK1⟩
          have U1 := Aside0.mk (R_back rfl T1 hR1)
          have U2 := Aside0.mk (Kd.R_kept T2 hK1 (fun k h1 h2 => GN.out k h2 h1))
          have UH := Aside0.mk (Kd.H_kept GH.out hK1 (fun k hk hn hs => hn (GR1.out.1 k hs.symm)))
          have UK := Aside0.mk (HK2.out.then_ hK1 (fun k hk => .inl (GI.out k (GR1.out.1 k hk.symm)).1))
          have hx3 : w3.cell? ⟨g, x5.toNat * 3 + 2, none⟩ = some v4 := cell_kept hx2 hK1 (fun hs => (GI.out _ (GR1.out.1 _ hs.symm)).2 rfl)
          have UB := Aside0.mk hB1
          have NE1 := Aside0.mk GN.out
          clear T1 T2 hR1 hB1 hK1 hx1 hx2 GH HK2 HB2
          go_wp2_with fail
          refine (laws_markByteS.callsC k1 (fun k => some k = x4.ownBlock) v4 x4 y.f2 _ t3 t4 w0 _ UB.out CU4.out U2.out A8.out).mono ?_
          rintro e w4 ⟨rfl, hR2, hB1, hK1⟩
          have V2 := R_back rfl U2.out hR2
          have V1 := Kd.R_kept U1.out hK1 NE1.out
          have VH := Kd.H_kept UH.out hK1 (fun k hk hn hs => hn (GR2.out.1 k hs.symm))
          have N1 := Aside0.mk (Kd.H_back VH (okp := oki) (k74c_mkM _ _ _ (⟨t0, t2, t4⟩ : S74) CU3.out CU4.out (Kd.R_mono V1 (fun k hk => GR1.out.1 k hk.symm)) (Kd.R_mono V2 (fun k hk => GR2.out.1 k hk.symm)) GN.out) (fun _ h => h))
          rw [List.set_set] at N1
          have N2 := Aside0.mk (UK.out.then_ hK1 (fun k hk => .inl (GI.out k (GR2.out.1 k hk.symm)).1))
          have N3 := Aside0.mk hB1
          clear V1 V2 VH hR2 hB1 hK1 hx3 U1 U2 UH UK UB NE1 GR1 GR2 GI GO
          rw [HL.out.symm] at N1
          go_wp2
          go_roundg k1
          case measure => have := HK1.out; omega
          case rel => exact ⟨_, t3, _, rfl, by first | rfl | (simp; done), H', ⟨by have := HK1.out; omega⟩, N1, N2, N3⟩
        · rw [if_neg c4] at H
          exact absurd H (by simp)
      · rw [if_neg c3] at H
        have q5 := decide_eq_false c3
        simp only [Option.some.injEq, Prod.mk.injEq] at H
        obtain ⟨rfl, rfl⟩ := H
        clear hl c3
        go_wp2
        go_ret
        exact ⟨rfl, HO.out, HB.out, HK.out⟩
set_option maxHeartbeats 8000000 in
theorem laws_markDisk.callsC (k : Nat) (P0_0_ : Nat → Prop) (u9000_ : Value) (l0_0 : List S74) (a1 : Int) (r1 : Int) (r2 : List S74) (w0 w : World) (hB : Below w0.heap.size w0 w) (ho0_0 : Kd.S k74c 74 w w0.heap.size P0_0_ u9000_ l0_0) (h : laws_markDisk.f k l0_0 a1 = some (r1, r2)) :
    Calls Tryd.prog 22 #[.agg #[u9000_], .int .i64 a1] w fun e w' => e = .returned (.int .i64 r1) ∧ Kd.S k74c 74 w' w0.heap.size P0_0_ u9000_ r2 ∧ Below w0.heap.size w0 w' ∧ Kept w w' (fun k_ => P0_0_ k_) := by
  obtain ⟨A0, c0, rfl⟩ := Kd.S_slice ho0_0
  have HO0 := Aside0.mk ho0_0
  have HB := Aside0.mk hB
  have H := Aside0.mk (show laws_markFileS.f k l0_0 a1 = some (r1, r2) from h)
  clear hB ho0_0 h
  go_enter Tryd.func22, Tryd.ntmps22
  go_wp2_with fail
  have B1 := below_alloc (Below.refl w.heap.size w) (.cells #[.slice A0 l0_0.length c0] 29)
  refine (laws_markFileS.callsC k P0_0_ _ l0_0 a1 r1 r2 w0 _ (below_then HB.out HB.out.size B1) (Kd.S_below HO0.out B1) H.out).mono ?_
  rintro e w' ⟨rfl, hS, hB2, hK⟩
  have HS := Aside0.mk hS
  have HB2 := Aside0.mk hB2
  have HK := Aside0.mk ((Kept.of_below B1 _).then_ hK (fun k hk => .inl hk))
  clear hS hB2 hK B1
  go_wp2
  go_ret
  exact ⟨rfl, HS.out, HB2.out, HK.out⟩
end Go.Proofs.YtmgeffgcihfpcaaDoor.F

namespace Go.Proofs.YtmgeffgcihfpcaaDoor.F
open Go.RowKit Go.Proofs.YtmgeffgcihfpcaaDoorW.PrintWords Go.Proofs.YtmgeffgcihfpcaaDoorW.PrintLast Go.Proofs.YtmgeffgcihfpcaaDoorW.PrintMore
open Go.Proofs.YtmgeffgcihfpcaaDoor
set_option linter.unusedVariables false
set_option linter.unusedSimpArgs false
def laws_FnExactCutFile.f (k : Nat) (l0_0 : List (S101)) (a1 : ByteArray) (a2 : Int) : Option Bool := (if (a1.size : Int) > 1048576 then some true else ((laws_szDisk.f k l0_0 1048576).bind fun p3 => (if p3 < 0 then some true else ((laws_toDisk.f k l0_0).bind fun p9 => ((spec_CutFile.f k p9 a1 a2).bind fun p17 => ((laws_toDisk.f k l0_0).bind fun p26 => ((impl_CutFile.f k p26 a1 a2).bind fun p34 => ((laws_eqDisk.f k p34.1 p17.1).bind fun p43 => (if p43 = true then (if p34.2 = p17.2 then ((laws_toDisk.f k l0_0).bind fun p49 => ((laws_eqDisk.f k p26 p49).bind fun p56 => (if p56 = true then ((laws_markDisk.f k p26 1).bind fun p62 => (if p62.1 < 0 then none else ((laws_eqDisk.f k p34.1 p17.1).bind fun p72 => (if p72 = true then (if p17.2 = p17.2 then ((laws_markDisk.f k p34.1 1).bind fun p78 => ((laws_heldDisk.f k p78.2 1).bind fun p85 => (if p85 < 0 then none else (if p85 = p78.1 then ((laws_toDisk.f k l0_0).bind fun p93 => ((impl_CutFile.f k p93 a1 a2).bind fun p101 => ((laws_eqDisk.f k p101.1 p17.1).bind fun p110 => (if p110 = true then (if p101.2 = p17.2 then ((laws_heldDisk.f k p78.2 1).bind fun p117 => (if p117 < 0 then none else (if p117 = p78.1 then (some true) else none))) else none) else none)))) else none)))) else none) else none)))) else none))) else none) else none)))))))))
set_option maxHeartbeats 16000000 in
set_option maxRecDepth 100000 in
theorem laws_FnExactCutFile.calls (k : Nat) (A0_0 : Option Addr) (c0_0 : Nat) (l0_0 : List (S101)) (a1 : ByteArray) (a2 : Int) (r : Bool) (w : World) (hr0_0 : Kd.C k101 w A0_0 l0_0.length l0_0) (hc0_0 : l0_0.length ≤ c0_0) (h : laws_FnExactCutFile.f k l0_0 a1 a2 = some r) :
    Calls Tryd.prog 7 #[.agg #[.slice A0_0 l0_0.length c0_0], .string a1, .int .i64 a2] w fun e w' => e = .returned (.bool r) ∧ Below w.heap.size w w' := by
  have HR0_0 := Aside0.mk hr0_0
  have HC0_0 := Aside0.mk hc0_0
  clear hr0_0 hc0_0
  have ST := Aside0.mk (LW.St.start w)
  unfold laws_FnExactCutFile.f at h
  by_cases c1 : (a1.size : Int) > 1048576
  · rw [if_pos c1] at h
    obtain rfl := Option.some.inj h
    have c1b : decide ((a1.size : Int) > 1048576) = true := decide_eq_true c1
    clear c1
    go_enter Tryd.func7, Tryd.ntmps7
    go_wp2
    go_ret
    exact ⟨rfl, by repeat (first | exact Below.refl _ _ | apply below_alloc)⟩
  rw [if_neg c1] at h
  have c1b : decide ((a1.size : Int) > 1048576) = false := decide_eq_false c1
  clear c1
  go_enter Tryd.func7, Tryd.ntmps7
  go_wp2_with fail
  replace ST := Aside0.mk (ST.out.alloc #[.slice A0_0 l0_0.length c0_0] 24 (g := w.heap.size) rfl)
  replace h := Option.bind_eq_some_iff.mp h
  obtain ⟨t2, HA_, h⟩ := h
  try dsimp only at h
  replace HA_ := Aside0.mk HA_
  with_reducible refine (laws_szDisk.calls k _ _ l0_0 1048576 t2 _ (Kd.C_below HR0_0.out ST.out.b) HC0_0.out HA_.out).mono ?_
  rintro e w4 ⟨rfl, hb⟩
  clear HA_
  replace ST := Aside0.mk (ST.out.step hb)
  clear hb
  have hc5 := ST.out.cell 0 rfl 0 (u := .slice A0_0 l0_0.length c0_0) rfl
  have hl6 := ST.out.lt 0 rfl
  by_cases c7 : t2 < 0
  · rw [if_pos c7] at h
    obtain rfl := Option.some.inj h
    have c7b : decide (t2 < 0) = true := decide_eq_true c7
    clear c7
    go_wp2
    go_ret
    exact ⟨rfl, ST.out.b⟩
  rw [if_neg c7] at h
  have c7b : decide (t2 < 0) = false := decide_eq_false c7
  clear c7
  go_wp2_with fail
  replace h := Option.bind_eq_some_iff.mp h
  obtain ⟨t8, HA_, h⟩ := h
  try dsimp only at h
  replace HA_ := Aside0.mk HA_
  with_reducible refine (laws_toDisk.calls k _ _ l0_0 t8 _ (Kd.C_below HR0_0.out ST.out.b) HC0_0.out HA_.out).mono ?_
  rintro e w10 ⟨v11, rfl, ho12, hb⟩
  clear HA_
  obtain ⟨A13, c14, rfl⟩ := Kd.S_slice ho12
  replace ST := Aside0.mk (ST.out.row hb ho12)
  clear hb ho12
  clear hc5 hl6
  go_wp2_with fail
  replace h := Option.bind_eq_some_iff.mp h
  obtain ⟨⟨t15, t16⟩, HA_, h⟩ := h
  try dsimp only at h
  replace HA_ := Aside0.mk HA_
  with_reducible refine (spec_CutFile.calls k _ _ _ t8 a1 a2 t15 t16 _ (Kd.S_V (ST.out.own 0 rfl)) HA_.out).mono ?_
  rintro e w18 ⟨v19, rfl, ho20, hb⟩
  clear HA_
  obtain ⟨A21, c22, rfl⟩ := Kd.N_slice ho20
  replace ST := Aside0.mk (ST.out.seen 0 rfl hb ho20 (fun k_ hk_ => hk_))
  clear hb ho20
  have hc23 := ST.out.cell 2 rfl 0 (u := .slice A0_0 l0_0.length c0_0) rfl
  have hl24 := ST.out.lt 2 rfl
  go_wp2_with fail
  replace ST := Aside0.mk (ST.out.alloc #[.slice A21 t15.length c22] 29 (g := w18.heap.size) rfl)
  replace h := Option.bind_eq_some_iff.mp h
  obtain ⟨t25, HA_, h⟩ := h
  try dsimp only at h
  replace HA_ := Aside0.mk HA_
  with_reducible refine (laws_toDisk.calls k _ _ l0_0 t25 _ (Kd.C_below HR0_0.out ST.out.b) HC0_0.out HA_.out).mono ?_
  rintro e w27 ⟨v28, rfl, ho29, hb⟩
  clear HA_
  obtain ⟨A30, c31, rfl⟩ := Kd.S_slice ho29
  replace ST := Aside0.mk (ST.out.row hb ho29)
  clear hb ho29
  clear hc23 hl24
  go_wp2_with fail
  replace ST := Aside0.mk (ST.out.alloc #[.slice A30 t25.length c31] 29 (g := w27.heap.size) rfl)
  replace h := Option.bind_eq_some_iff.mp h
  obtain ⟨⟨t32, t33⟩, HA_, h⟩ := h
  try dsimp only at h
  replace HA_ := Aside0.mk HA_
  with_reducible refine (impl_CutFile.calls k _ _ t25 a1 a2 t32 t33 _ (ST.out.reads 1 rfl).2.2 (ST.out.reads 1 rfl).2.1 HA_.out).mono ?_
  rintro e w35 ⟨v36, rfl, ho37, hb⟩
  clear HA_
  obtain ⟨A38, c39, rfl⟩ := Kd.S_slice ho37
  replace ST := Aside0.mk (ST.out.row hb ho37)
  clear hb ho37
  have hc40 := ST.out.cell 3 rfl 0 (u := .slice A21 t15.length c22) rfl
  have hl41 := ST.out.lt 3 rfl
  go_wp2_with fail
  replace ST := Aside0.mk (ST.out.alloc #[.slice A38 t32.length c39] 29 (g := w35.heap.size) rfl)
  replace h := Option.bind_eq_some_iff.mp h
  obtain ⟨t42, HA_, h⟩ := h
  try dsimp only at h
  replace HA_ := Aside0.mk HA_
  with_reducible refine (laws_eqDisk.calls k _ _ t32 _ _ t15 t42 _ (k74c_C (ST.out.reads 1 rfl).2.2) (ST.out.reads 1 rfl).2.1 (ST.out.views 5 rfl).2.2 (ST.out.views 5 rfl).2.1 HA_.out).mono ?_
  rintro e w44 ⟨rfl, hb⟩
  clear HA_
  replace ST := Aside0.mk (ST.out.step hb)
  clear hb
  obtain rfl : t42 = true := by
    cases t42 with
    | true => rfl
    | false => exact absurd h (by simp)
  first | rw [if_pos rfl] at h | rw [if_pos trivial] at h
  clear hc40 hl41
  have e45 : t33 = t16 := by
    refine Decidable.byContradiction fun e_ => ?_
    rw [if_neg e_] at h
    exact absurd h (by simp)
  rw [if_pos e45] at h
  obtain rfl : t16 = t33 := by first | exact e45 | exact e45.symm
  clear e45
  have hq46 : (t16 != t16) = false := bne_self_eq_false _
  go_wp2_with fail
  replace ST := Aside0.mk ST.out.drew
  refine start_ (n := 5) (S := fun w' => w'.cell? ⟨w27.heap.size, 0, none⟩ = some (.slice A30 t25.length c31) ∧ w'.cell? ⟨w.heap.size, 0, none⟩ = some (.slice A0_0 l0_0.length c0_0)) (ds := []) #[false, false, false, false, false] (by kernel_rfl) rfl rfl ⟨ST.out.cell 2 rfl 0 rfl, ST.out.cell 7 rfl 0 rfl⟩ (fun hHeld => ?_)
  generalize w44.drew = w47 at ST hHeld ⊢
  refine take_ (i := 0) (N := some 52) (v := ?_) (a' := ?_) #[true, false, false, false, false] rfl rfl (by kernel_rfl) (fun _ _ _ h => h) (Or.inl ⟨by rfl, ?_⟩) hHeld ?_ ?_
  rotate_left
  · rintro w' ⟨s0, s1⟩
    go_simp
    with_reducible rfl
  rotate_left
  · simp only [Act.put, List.setIfInBounds_toArray, List.set_cons_zero, List.set_cons_succ, i64_w, i32_w]
    rfl
  refine take_ (i := 1) (N := some 53) (v := ?_) (a' := ?_) #[true, true, false, false, false] rfl rfl (by kernel_rfl) (fun _ _ _ h => h) (Or.inl ⟨by rfl, ?_⟩) hHeld ?_ ?_
  rotate_left
  · rintro w' ⟨s0, s1⟩
    go_simp
    with_reducible rfl
  rotate_left
  · simp only [Act.put, List.setIfInBounds_toArray, List.set_cons_zero, List.set_cons_succ, i64_w, i32_w]
    rfl
  refine one_ (i := 2) (N := some 54) #[true, true, true, false, false] rfl rfl (by kernel_rfl) (by decide) (fun K hK => ?_)
  replace h := Option.bind_eq_some_iff.mp h
  obtain ⟨t48, HA_, h⟩ := h
  try dsimp only at h
  replace HA_ := Aside0.mk HA_
  refine goes_ Tryd.func16 (by kernel_rfl) rfl #[.agg #[.slice A0_0 l0_0.length c0_0]] (by rfl) rfl rfl (by (try simp only [List.map_toArray, List.map_cons, List.map_nil]); first | done | rfl) ?_
  with_reducible refine (laws_toDisk.calls k _ _ l0_0 t48 _ (Kd.C_below HR0_0.out ST.out.b) HC0_0.out HA_.out).mono ?_
  rintro e w50 ⟨v51, rfl, ho52, hb⟩
  clear HA_
  refine ⟨_, rfl, ?_⟩
  obtain ⟨A53, c54, rfl⟩ := Kd.S_slice ho52
  replace ST := Aside0.mk (ST.out.row hb ho52)
  clear hb ho52
  refine hK.out _ _ ⟨ST.out.cell 3 rfl 0 rfl, ST.out.cell 8 rfl 0 rfl⟩ (fun hHeld => ?_)
  clear hK K
  refine norm_ (a' := ?_) ?_ ?_
  rotate_left
  · show Act.put _ (some 54) _ = _
    simp only [Act.put, List.setIfInBounds_toArray, List.set_cons_zero, List.set_cons_succ, i64_w, i32_w]
    rfl
  refine one_ (i := 3) (N := some 55) #[true, true, true, true, false] rfl rfl (by kernel_rfl) (by decide) (fun K hK => ?_)
  replace h := Option.bind_eq_some_iff.mp h
  obtain ⟨t55, HA_, h⟩ := h
  try dsimp only at h
  replace HA_ := Aside0.mk HA_
  refine goes_ Tryd.func18 (by kernel_rfl) rfl #[.agg #[.slice A30 t25.length c31], .agg #[.slice A53 t48.length c54]] (by rfl) rfl rfl (by (try simp only [List.map_toArray, List.map_cons, List.map_nil]); first | done | rfl) ?_
  with_reducible refine (laws_eqDisk.calls k _ _ t25 _ _ t48 t55 _ (ST.out.reads 4 rfl).2.2 (ST.out.reads 4 rfl).2.1 (ST.out.reads 0 rfl).2.2 (ST.out.reads 0 rfl).2.1 HA_.out).mono ?_
  rintro e w57 ⟨rfl, hb⟩
  clear HA_
  refine ⟨_, rfl, ?_⟩
  replace ST := Aside0.mk (ST.out.step hb)
  clear hb
  obtain rfl : t55 = true := by
    cases t55 with
    | true => rfl
    | false => exact absurd h (by simp)
  first | rw [if_pos rfl] at h | rw [if_pos trivial] at h
  refine hK.out _ _ ⟨ST.out.cell 3 rfl 0 rfl, ST.out.cell 8 rfl 0 rfl⟩ (fun hHeld => ?_)
  clear hK K
  refine norm_ (a' := ?_) ?_ ?_
  rotate_left
  · show Act.put _ (some 55) _ = _
    simp only [Act.put, List.setIfInBounds_toArray, List.set_cons_zero, List.set_cons_succ, i64_w, i32_w]
    rfl
  refine pure_ (i := 4) (N := some 56) (v := ?_) (a' := ?_) #[true, true, true, true, true] rfl rfl (by kernel_rfl) (fun _ _ _ h => h) (Or.inl ⟨by rfl, ?_⟩) ?_ ?_
  rotate_left
  · intro w'
    go_simp
    with_reducible rfl
  rotate_left
  · simp only [Act.put, List.setIfInBounds_toArray, List.set_cons_zero, List.set_cons_succ, i64_w, i32_w]
    rfl
  refine done_ (by kernel_rfl) ?_
  have hc58 := ST.out.cell 3 rfl 0 (u := .slice A30 t25.length c31) rfl
  have hl59 := ST.out.lt 3 rfl
  go_wp2_with fail
  replace h := Option.bind_eq_some_iff.mp h
  obtain ⟨⟨t60, t61⟩, HA_, h⟩ := h
  try dsimp only at h
  replace HA_ := Aside0.mk HA_
  with_reducible refine (laws_markDisk.calls k _ _ t25 1 t60 t61 w _ ST.out.b (ST.out.own 4 rfl) HA_.out).mono ?_
  rintro e w63 ⟨rfl, ho64, hb, hk⟩
  clear HA_
  replace ST := Aside0.mk (ST.out.write 4 rfl ho64 hb hk)
  clear hb hk ho64
  have el65 := (ST.out.reads 4 rfl).1
  simp only [el65] at ST ⊢
  clear el65
  clear hc58 hl59
  have hc66 := ST.out.cell 1 rfl 0 (u := .slice A38 t32.length c39) rfl
  have hl67 := ST.out.lt 1 rfl
  have hc68 := ST.out.cell 5 rfl 0 (u := .slice A21 t15.length c22) rfl
  have hl69 := ST.out.lt 5 rfl
  by_cases c70 : t60 < 0
  · rw [if_pos c70] at h
    exact absurd h (by simp)
  rw [if_neg c70] at h
  have c70b : decide (t60 < 0) = false := decide_eq_false c70
  clear c70
  go_wp2_with fail
  replace h := Option.bind_eq_some_iff.mp h
  obtain ⟨t71, HA_, h⟩ := h
  try dsimp only at h
  replace HA_ := Aside0.mk HA_
  with_reducible refine (laws_eqDisk.calls k _ _ t32 _ _ t15 t71 _ (k74c_C (ST.out.reads 2 rfl).2.2) (ST.out.reads 2 rfl).2.1 (ST.out.views 6 rfl).2.2 (ST.out.views 6 rfl).2.1 HA_.out).mono ?_
  rintro e w73 ⟨rfl, hb⟩
  clear HA_
  replace ST := Aside0.mk (ST.out.step hb)
  clear hb
  obtain rfl : t71 = true := by
    cases t71 with
    | true => rfl
    | false => exact absurd h (by simp)
  first | rw [if_pos rfl] at h | rw [if_pos trivial] at h
  clear hc66 hl67 hc68 hl69
  have hc74 := ST.out.cell 1 rfl 0 (u := .slice A38 t32.length c39) rfl
  have hl75 := ST.out.lt 1 rfl
  first | rw [if_pos rfl] at h | rw [if_pos trivial] at h
  go_wp2_with fail
  replace h := Option.bind_eq_some_iff.mp h
  obtain ⟨⟨t76, t77⟩, HA_, h⟩ := h
  try dsimp only at h
  replace HA_ := Aside0.mk HA_
  with_reducible refine (laws_markDisk.callsC k _ _ t32 1 t76 t77 w _ ST.out.b (ST.out.own 2 rfl) HA_.out).mono ?_
  rintro e w79 ⟨rfl, ho80, hb, hk⟩
  clear HA_
  replace ST := Aside0.mk (ST.out.write 2 rfl ho80 hb hk)
  clear hb hk ho80
  have el81 := (ST.out.reads 2 rfl).1
  simp only [el81] at ST ⊢
  clear el81
  clear hc74 hl75
  have hc82 := ST.out.cell 1 rfl 0 (u := .slice A38 t77.length c39) rfl
  have hl83 := ST.out.lt 1 rfl
  go_wp2_with fail
  replace h := Option.bind_eq_some_iff.mp h
  obtain ⟨t84, HA_, h⟩ := h
  try dsimp only at h
  replace HA_ := Aside0.mk HA_
  with_reducible refine (laws_heldDisk.calls k _ _ t77 1 t84 _ (k74c_C (ST.out.reads 2 rfl).2.2) (ST.out.reads 2 rfl).2.1 HA_.out).mono ?_
  rintro e w86 ⟨rfl, hb⟩
  clear HA_
  replace ST := Aside0.mk (ST.out.step hb)
  clear hb
  clear hc82 hl83
  have hc87 := ST.out.cell 8 rfl 0 (u := .slice A0_0 l0_0.length c0_0) rfl
  have hl88 := ST.out.lt 8 rfl
  by_cases c89 : t84 < 0
  · rw [if_pos c89] at h
    exact absurd h (by simp)
  rw [if_neg c89] at h
  have c89b : decide (t84 < 0) = false := decide_eq_false c89
  clear c89
  have e90 : t84 = t76 := by
    refine Decidable.byContradiction fun e_ => ?_
    rw [if_neg e_] at h
    exact absurd h (by simp)
  rw [if_pos e90] at h
  obtain rfl : t76 = t84 := by first | exact e90 | exact e90.symm
  clear e90
  have hq91 : (t76 != t76) = false := bne_self_eq_false _
  go_wp2_with fail
  replace h := Option.bind_eq_some_iff.mp h
  obtain ⟨t92, HA_, h⟩ := h
  try dsimp only at h
  replace HA_ := Aside0.mk HA_
  with_reducible refine (laws_toDisk.calls k _ _ l0_0 t92 _ (Kd.C_below HR0_0.out ST.out.b) HC0_0.out HA_.out).mono ?_
  rintro e w94 ⟨v95, rfl, ho96, hb⟩
  clear HA_
  obtain ⟨A97, c98, rfl⟩ := Kd.S_slice ho96
  replace ST := Aside0.mk (ST.out.row hb ho96)
  clear hb ho96
  clear hc87 hl88
  go_wp2_with fail
  replace h := Option.bind_eq_some_iff.mp h
  obtain ⟨⟨t99, t100⟩, HA_, h⟩ := h
  try dsimp only at h
  replace HA_ := Aside0.mk HA_
  with_reducible refine (impl_CutFile.calls k _ _ t92 a1 a2 t99 t100 _ (ST.out.reads 0 rfl).2.2 (ST.out.reads 0 rfl).2.1 HA_.out).mono ?_
  rintro e w102 ⟨v103, rfl, ho104, hb⟩
  clear HA_
  obtain ⟨A105, c106, rfl⟩ := Kd.S_slice ho104
  replace ST := Aside0.mk (ST.out.row hb ho104)
  clear hb ho104
  have hc107 := ST.out.cell 7 rfl 0 (u := .slice A21 t15.length c22) rfl
  have hl108 := ST.out.lt 7 rfl
  go_wp2_with fail
  replace ST := Aside0.mk (ST.out.alloc #[.slice A105 t99.length c106] 29 (g := w102.heap.size) rfl)
  replace h := Option.bind_eq_some_iff.mp h
  obtain ⟨t109, HA_, h⟩ := h
  try dsimp only at h
  replace HA_ := Aside0.mk HA_
  with_reducible refine (laws_eqDisk.calls k _ _ t99 _ _ t15 t109 _ (k74c_C (ST.out.reads 1 rfl).2.2) (ST.out.reads 1 rfl).2.1 (ST.out.views 9 rfl).2.2 (ST.out.views 9 rfl).2.1 HA_.out).mono ?_
  rintro e w111 ⟨rfl, hb⟩
  clear HA_
  replace ST := Aside0.mk (ST.out.step hb)
  clear hb
  obtain rfl : t109 = true := by
    cases t109 with
    | true => rfl
    | false => exact absurd h (by simp)
  first | rw [if_pos rfl] at h | rw [if_pos trivial] at h
  clear hc107 hl108
  have hc112 := ST.out.cell 4 rfl 0 (u := .slice A38 t77.length c39) rfl
  have hl113 := ST.out.lt 4 rfl
  have e114 : t100 = t16 := by
    refine Decidable.byContradiction fun e_ => ?_
    rw [if_neg e_] at h
    exact absurd h (by simp)
  rw [if_pos e114] at h
  obtain rfl : t16 = t100 := by first | exact e114 | exact e114.symm
  clear e114
  have hq115 : (t16 != t16) = false := bne_self_eq_false _
  go_wp2_with fail
  replace h := Option.bind_eq_some_iff.mp h
  obtain ⟨t116, HA_, h⟩ := h
  try dsimp only at h
  replace HA_ := Aside0.mk HA_
  with_reducible refine (laws_heldDisk.calls k _ _ t77 1 t116 _ (k74c_C (ST.out.reads 5 rfl).2.2) (ST.out.reads 5 rfl).2.1 HA_.out).mono ?_
  rintro e w118 ⟨rfl, hb⟩
  clear HA_
  replace ST := Aside0.mk (ST.out.step hb)
  clear hb
  clear hc112 hl113
  by_cases c119 : t116 < 0
  · rw [if_pos c119] at h
    exact absurd h (by simp)
  rw [if_neg c119] at h
  have c119b : decide (t116 < 0) = false := decide_eq_false c119
  clear c119
  have e120 : t116 = t76 := by
    refine Decidable.byContradiction fun e_ => ?_
    rw [if_neg e_] at h
    exact absurd h (by simp)
  rw [if_pos e120] at h
  obtain rfl : t76 = t116 := by first | exact e120 | exact e120.symm
  clear e120
  have hq121 : (t76 != t76) = false := bne_self_eq_false _
  obtain rfl := Option.some.inj h
  go_wp2
  go_ret
  exact ⟨rfl, ST.out.b⟩
end Go.Proofs.YtmgeffgcihfpcaaDoor.F

namespace Go.Proofs.YtmgeffgcihfpcaaDoor.PK
set_option linter.unusedVariables false
set_option linter.unusedSimpArgs false
open Go.RowKit Go.Proofs.YtmgeffgcihfpcaaDoorW.PrintWords
theorem EvS {α : Type} {g : Nat → Option α} {r : α} (h : Ev (fun k => g (k + 1)) r) : Ev g r := by
  obtain ⟨K, h⟩ := h
  refine ⟨K + 1, fun k hk => ?_⟩
  obtain ⟨m, rfl⟩ : ∃ m, k = m + 1 := ⟨k - 1, by omega⟩
  exact h m (by omega)
theorem EvB {α β : Type} {g : Nat → Option α} {f : Nat → α → Option β} {a : α} {r : β} (h : Ev g a) : Ev (fun k => (g k).bind (f k)) r ↔ Ev (fun k => f k a) r := by
  obtain ⟨K, h⟩ := h
  constructor
  · rintro ⟨K', h'⟩
    refine ⟨max K K', fun k hk => ?_⟩
    have h2 : (g k).bind (f k) = some r := h' k (by omega)
    rw [h k (by omega)] at h2
    exact h2
  · rintro ⟨K', h'⟩
    refine ⟨max K K', fun k hk => ?_⟩
    show (g k).bind (f k) = some r
    rw [h k (by omega)]
    exact h' k (by omega)
theorem EvN {α : Type} {r : α} : Ev (fun _ => some r) r := ⟨0, fun _ _ => rfl⟩
theorem EvE {α : Type} {g : Nat → Option α} {r : α} (h : Ev g r) : ∃ k, g k = some r := h.rounds
theorem w64 {x : Int} (h : -9223372036854775808 ≤ x) (h' : x ≤ 9223372036854775807) : wrap64 x = x := by
  unfold wrap64
  omega
theorem up {P : Int → Prop} (n : Nat) (base : P n) (step : ∀ i : Nat, i < n → P ((i + 1 : Nat) : Int) → P (i : Int)) : ∀ i : Nat, i ≤ n → P (i : Int) := by
  intro i hi
  obtain ⟨d, hd⟩ : ∃ d, d + i = n := ⟨n - i, by omega⟩
  induction d generalizing i with
  | zero => have : i = n := by omega
            subst this
            exact base
  | succ d ih => exact step i (by omega) (ih (i + 1) (by omega) (by omega))
theorem up0 {P : Int → Prop} (n : Nat) (base : P n) (step : ∀ i : Nat, i < n → P ((i + 1 : Nat) : Int) → P (i : Int)) : P 0 := up n base step 0 (Nat.zero_le _)
theorem getD_nat {α : Type} (l : List α) (z : α) (i : Nat) (h : i < l.length) : l.getD ((i : Int).toNat) z = l[i] := by
  simp [List.getD_eq_getElem?_getD, List.getElem?_eq_getElem h]
theorem drop_at {α : Type} (l : List α) (i : Nat) (h : i < l.length) : l.drop i = l[i] :: l.drop (i + 1) := List.drop_eq_getElem_cons h
end Go.Proofs.YtmgeffgcihfpcaaDoor.PK

namespace Go.Proofs.YtmgeffgcihfpcaaDoor.DK
set_option linter.unusedVariables false
set_option linter.unusedSimpArgs false
open Go.RowKit Go.Proofs.YtmgeffgcihfpcaaDoor.F Go.Proofs.YtmgeffgcihfpcaaDoor.PK Go.Proofs.YtmgeffgcihfpcaaDoorW.PrintWords Go.Proofs.YtmgeffgcihfpcaaDoorW.PrintLast Go.Proofs.YtmgeffgcihfpcaaDoorW.PrintMore
theorem nxt (i n : Nat) (h : i < n) (hn : n ≤ 9223372036854775807) : wrap64 ((i : Int) + 1) = ((i + 1 : Nat) : Int) := by rw [w64 (by omega) (by omega)]; omega
def inB (b : UInt8) : Bool := decide ((97 ≤ b.toNat ∧ b.toNat ≤ 122) ∨ (48 ≤ b.toNat ∧ b.toNat ≤ 57))
def nameM (s : ByteArray) : Bool := s.data.toList.all inB && decide (1 ≤ s.size ∧ s.size ≤ 12)
theorem bt_get (s : ByteArray) (i : Nat) (h : i < s.data.toList.length) : bt s (i : Int) = (s.data.toList[i].toNat : Int) := by
  have hs : i < s.size := by rw [← data_length]; exact h
  unfold bt
  rw [dif_pos (show (i : Int).toNat < s.size by rw [Int.toNat_natCast]; exact hs)]
  simp
  rfl
theorem spec_name (s : ByteArray) (hs : s.size ≤ 9223372036854775807) : Ev (fun k => spec_l01Name.f k s) (nameM s) := by
  have hl := data_length s
  have key := up0 (P := fun i => Ev (fun k => spec_l01Name.l0 k s i) ((s.data.toList.drop i.toNat).all inB && decide (1 ≤ s.size ∧ s.size ≤ 12))) s.size
    (EvS (by
      simp only [spec_l01Name.l0, Int.lt_irrefl, if_false, Int.toNat_natCast, spec_l01In.f]
      rw [List.drop_eq_nil_of_le (by omega), List.all_nil, Bool.true_and]
      by_cases h1 : 1 ≤ (s.size : Int)
      · simp only [if_pos h1, Option.bind_some]
        rw [show decide ((s.size : Int) ≤ 12) = decide (1 ≤ s.size ∧ s.size ≤ 12) from decide_eq_decide.2 (by omega)]
        exact EvN
      · simp only [if_neg h1, Option.bind_some]
        rw [decide_eq_false (show ¬ (1 ≤ s.size ∧ s.size ≤ 12) by omega)]
        exact EvN))
    (fun i hi ih => EvS (by
      have hil : i < s.data.toList.length := by omega
      rw [Int.toNat_natCast] at *
      rw [drop_at _ i hil, List.all_cons]
      simp only [spec_l01Name.l0, if_pos (show (i : Int) < (s.size : Int) by omega), if_pos (show 0 ≤ (i : Int) by omega), nxt i _ hi hs]
      have hb := bt_get s i hil
      generalize bt s (i : Int) = x at hb ⊢
      generalize s.data.toList[i] = b at hb ⊢
      by_cases c1 : x ≥ 97
      · by_cases c2 : x ≤ 122
        · simp only [if_pos c1, if_pos c2, show inB b = true from decide_eq_true (by omega), Bool.true_and]; exact ih
        · by_cases c3 : x ≥ 48
          · simp only [if_pos c1, if_neg c2, if_pos c3, if_neg (show ¬ x ≤ 57 by omega), show inB b = false from decide_eq_false (by omega), Bool.false_and]; exact EvN
          · omega
      · by_cases c3 : x ≥ 48
        · by_cases c4 : x ≤ 57
          · simp only [if_neg c1, if_pos c3, if_pos c4, show inB b = true from decide_eq_true (by omega), Bool.true_and]; exact ih
          · simp only [if_neg c1, if_pos c3, if_neg c4, show inB b = false from decide_eq_false (by omega), Bool.false_and]; exact EvN
        · simp only [if_neg c1, if_neg c3, show inB b = false from decide_eq_false (by omega), Bool.false_and]; exact EvN))
  unfold spec_l01Name.f nameM
  exact key
def cutB : List UInt8 := [97, 98, 99, 100, 101, 102, 103, 104, 105, 106, 107, 108, 109, 110, 111, 112, 113, 114, 115, 116, 117, 118, 119, 120, 121, 122, 48, 49, 50, 51, 52, 53, 54, 55, 56, 57]
theorem cut_in (b : UInt8) : cutB.contains b = inB b := by
  have h : ∀ n : Fin 256, cutB.contains (UInt8.ofNat n.val) = inB (UInt8.ofNat n.val) := by decide +kernel
  have := h ⟨b.toNat, b.toNat_lt⟩
  simpa using this
theorem dw_nil {α : Type} (p : α → Bool) : ∀ l : List α, l.dropWhile p = [] ↔ ∀ x ∈ l, p x = true
  | [] => by simp
  | a :: l => by
    rw [List.dropWhile_cons]
    by_cases h : p a = true
    · rw [if_pos h, dw_nil p l]
      simp [h]
    · rw [if_neg h]
      simp [h]
theorem dw_head {α : Type} (p : α → Bool) : ∀ (l : List α) (x : α) (r : List α), l.dropWhile p = x :: r → p x = false
  | [], x, r, h => by simp at h
  | a :: l, x, r, h => by
    rw [List.dropWhile_cons] at h
    by_cases hp : p a = true
    · rw [if_pos hp] at h
      exact dw_head p l x r h
    · rw [if_neg hp] at h
      injection h with h1 _
      rw [← h1]
      exact Bool.eq_false_iff.2 hp
theorem dw_mem {α : Type} (p : α → Bool) : ∀ (l : List α) (x : α), x ∈ l.dropWhile p → x ∈ l
  | [], x, h => by simp at h
  | a :: l, x, h => by
    rw [List.dropWhile_cons] at h
    by_cases hp : p a = true
    · rw [if_pos hp] at h
      exact List.mem_cons_of_mem _ (dw_mem p l x h)
    · rw [if_neg hp] at h
      exact h
theorem trim_nil (l : List UInt8) : (Go.Lib.trimS l cutB == []) = l.all inB := by
  unfold Go.Lib.trimS Go.Lib.trimLeftS Go.Lib.trimRightS
  rw [Bool.eq_iff_iff, beq_iff_eq, dw_nil, List.all_eq_true]
  constructor
  · intro h
    have hd : l.reverse.dropWhile (cutB.contains ·) = [] := by
      cases hq : l.reverse.dropWhile (cutB.contains ·) with
      | nil => rfl
      | cons x r =>
        have h1 := h x (by rw [hq]; simp)
        have h2 := dw_head (cutB.contains ·) _ _ _ hq
        rw [h1] at h2
        cases h2
    rw [dw_nil] at hd
    intro x hx
    rw [← cut_in]
    exact hd x (List.mem_reverse.2 hx)
  · intro h x hx
    rw [cut_in]
    exact h x (List.mem_reverse.1 (dw_mem _ _ _ (List.mem_reverse.1 hx)))
theorem impl_name (s : ByteArray) (hs : s.size ≤ 9223372036854775807) : impl_isFileName.f s = some (nameM s) := by
  unfold impl_isFileName.f nameM
  by_cases h1 : (s.size : Int) ≥ 1
  · by_cases h2 : (s.size : Int) ≤ 12
    · have ht : trimF.f s (⟨#[97, 98, 99, 100, 101, 102, 103, 104, 105, 106, 107, 108, 109, 110, 111, 112, 113, 114, 115, 116, 117, 118, 119, 120, 121, 122, 48, 49, 50, 51, 52, 53, 54, 55, 56, 57]⟩ : ByteArray) = some ⟨(Go.Lib.trimS s.data.toList cutB).toArray⟩ := by
        unfold trimF.f
        rw [if_pos ⟨hs, by decide, by decide⟩]
        rfl
      simp only [if_pos h1, if_pos h2, ht, Option.bind_some]
      rw [Go.Lib.toList_data, trim_nil, decide_eq_true (show 1 ≤ s.size ∧ s.size ≤ 12 by omega), Bool.and_true]
    · simp only [if_pos h1, if_neg h2]
      rw [decide_eq_false (show ¬ (1 ≤ s.size ∧ s.size ≤ 12) by omega), Bool.and_false]
  · simp only [if_neg h1]
    rw [decide_eq_false (show ¬ (1 ≤ s.size ∧ s.size ≤ 12) by omega), Bool.and_false]
end Go.Proofs.YtmgeffgcihfpcaaDoor.DK

namespace Go.Proofs.YtmgeffgcihfpcaaDoor.BY
set_option linter.unusedVariables false
set_option linter.unusedSimpArgs false
open Go.RowKit Go.Proofs.YtmgeffgcihfpcaaDoor.F Go.Proofs.YtmgeffgcihfpcaaDoor.PK Go.Proofs.YtmgeffgcihfpcaaDoorW.PrintWords Go.Proofs.YtmgeffgcihfpcaaDoorW.PrintLast
theorem rd_at (l : List Int) (i : Nat) (h : i < l.length) : rd l (i : Int) = l[i] := getD_nat l _ i h
theorem nxt (i n : Nat) (h : i < n) (hn : n ≤ 9223372036854775807) : wrap64 ((i : Int) + 1) = ((i + 1 : Nat) : Int) := by rw [w64 (by omega) (by omega)]; omega
theorem toByteS (l : List Int) (hl : l.length ≤ 1048576) : Ev (fun k => laws_toByteS.f k l) l := by
  have key := up (P := fun i => ∀ x : List Int, x.length = l.length → (∀ j : Nat, (j : Int) < i → x[j]? = l[j]?) → Ev (fun k => laws_toByteS.l0 k l x i) l) l.length
      (fun x h0 h1 => by
        have : x = l := List.ext_getElem? fun j => by
          by_cases hj : j < l.length
          · exact h1 j (by omega)
          · rw [List.getElem?_eq_none (by omega), List.getElem?_eq_none (by omega)]
        subst this
        exact EvS (by simp only [laws_toByteS.l0, Int.lt_irrefl, if_false]; exact EvN))
      (fun i hi ih x h0 h1 => by
        refine EvS ?_
        simp only [laws_toByteS.l0, rd_at l i hi, Option.bind_some, h0, Int.toNat_natCast, if_pos (show (i : Int) < (l.length : Int) by omega), if_pos (show 0 ≤ (i : Int) by omega), nxt i _ hi (by omega)]
        refine ih _ (by simpa using h0) fun j hj => ?_
        by_cases hji : j = i
        · subst hji
          rw [List.getElem?_set_self (by omega)]
          simp [List.getElem?_eq_getElem hi]
        · rw [List.getElem?_set_ne (by omega)]
          exact h1 j (by omega))
  have := key 0 (Nat.zero_le _) (List.replicate l.length 0) (by simp) (fun j hj => absurd hj (by omega))
  unfold laws_toByteS.f
  simp only [Int.toNat_natCast, if_pos (show 0 ≤ (l.length : Int) by omega), if_pos (show l.length ≤ 281474976710656 by omega)]
  exact this
theorem eqByteS (x : List Int) (hx : x.length ≤ 9223372036854775807) : Ev (fun k => laws_eqByteS.f k x x) true := by
  have key := up (P := fun i => Ev (fun k => laws_eqByteS.l0 k x x i) true) x.length
    (EvS (by simp only [laws_eqByteS.l0, Int.lt_irrefl, if_false]; exact EvN))
    (fun i hi ih => EvS (by simp only [laws_eqByteS.l0, if_true, Option.bind_some, if_pos (show (i : Int) < (x.length : Int) by omega), if_pos (show 0 ≤ (i : Int) by omega), nxt i _ hi hx]; exact ih))
  have := key 0 (Nat.zero_le _)
  unfold laws_eqByteS.f
  simp only [if_true]
  exact this
end Go.Proofs.YtmgeffgcihfpcaaDoor.BY

namespace Go.Proofs.YtmgeffgcihfpcaaDoor.DK
set_option linter.unusedVariables false
set_option linter.unusedSimpArgs false
open Go.RowKit Go.Proofs.YtmgeffgcihfpcaaDoor.F Go.Proofs.YtmgeffgcihfpcaaDoor.PK Go.Proofs.YtmgeffgcihfpcaaDoorW.PrintWords Go.Proofs.YtmgeffgcihfpcaaDoorW.PrintLast Go.Proofs.YtmgeffgcihfpcaaDoorW.PrintMore
open Go.Proofs.YtmgeffgcihfpcaaDoor.BY (toByteS eqByteS)
theorem rd74 (l : List S74) (i : Nat) (h : i < l.length) : rd_T74 l (i : Int) = l[i] := getD_nat l _ i h
theorem rd101 (l : List S101) (i : Nat) (h : i < l.length) : rd_T101 l (i : Int) = l[i] := getD_nat l _ i h
def conv101 (x : S101) : S74 := ⟨x.f0, x.f1, x.f2⟩
theorem toFile (a : ByteArray) (b c : List Int) (hb : b.length ≤ 1048576) (hc : c.length ≤ 1048576) : Ev (fun k => laws_toFile.f k a b c) (a, b, c) := by
  unfold laws_toFile.f
  simp only [EvB (toByteS b hb), EvB (toByteS c hc)]
  exact EvN
theorem toFileS (l : List S101) (hl : l.length ≤ 1048576) (hs : ∀ y ∈ l, y.f1.length ≤ 1048576 ∧ y.f2.length ≤ 1048576) : Ev (fun k => laws_toFileS.f k l) (l.map conv101) := by
  have key := up (P := fun i => ∀ x : List S74, x.length = l.length → (∀ j : Nat, (j : Int) < i → x[j]? = (l.map conv101)[j]?) → Ev (fun k => laws_toFileS.l0 k l x i) (l.map conv101)) l.length
      (fun x h0 h1 => by
        have : x = l.map conv101 := List.ext_getElem? fun j => by
          by_cases hj : j < l.length
          · exact h1 j (by omega)
          · rw [List.getElem?_eq_none (by omega), List.getElem?_eq_none (by rw [List.length_map]; omega)]
        subst this
        exact EvS (by simp only [laws_toFileS.l0, Int.lt_irrefl, if_false]; exact EvN))
      (fun i hi ih x h0 h1 => by
        have hy := hs _ (List.getElem_mem hi)
        refine EvS ?_
        simp only [laws_toFileS.l0, rd101 l i hi, EvB (toFile l[i].f0 l[i].f1 l[i].f2 hy.1 hy.2), h0, Int.toNat_natCast, if_pos (show (i : Int) < (l.length : Int) by omega), if_pos (show 0 ≤ (i : Int) by omega), nxt i _ hi (by omega)]
        refine ih _ (by simpa using h0) fun j hj => ?_
        by_cases hji : j = i
        · subst hji
          rw [List.getElem?_set_self (by omega)]
          simp [List.getElem?_eq_getElem hi, conv101]
        · rw [List.getElem?_set_ne (by omega)]
          exact h1 j (by omega))
  have := key 0 (Nat.zero_le _) (List.replicate l.length z74) (by simp) (fun j hj => absurd hj (by omega))
  unfold laws_toFileS.f
  have hS : (l.length ≤ 4398046511104) = True := eq_true (by omega)
  simp only [Int.toNat_natCast, if_pos (show 0 ≤ (l.length : Int) by omega), hS, if_true]
  exact this
theorem toDisk (l : List S101) (hl : l.length ≤ 1048576) (hs : ∀ y ∈ l, y.f1.length ≤ 1048576 ∧ y.f2.length ≤ 1048576) : Ev (fun k => laws_toDisk.f k l) (l.map conv101) := by
  unfold laws_toDisk.f
  simp only [EvB (toFileS l hl hs)]
  exact EvN
theorem szByteS (l : List Int) (c : Int) (h0 : 0 ≤ c) (h1 : c ≤ 1048576) (hl : l.length ≤ 9223372036854775807) : ∃ t, laws_szByteS.f l c = some t ∧ t ≤ c ∧ (0 ≤ t → (l.length : Int) ≤ c) := by
  unfold laws_szByteS.f
  rw [w64 (by omega) (by omega)]
  split
  · exact ⟨_, rfl, by omega, by omega⟩
  · exact ⟨_, rfl, by omega, by omega⟩
theorem szFile (a : ByteArray) (b d : List Int) (c : Int) (h0 : 0 ≤ c) (h1 : c ≤ 1048576) (ha : a.size ≤ 9223372036854775807) (hb : b.length ≤ 9223372036854775807) (hd : d.length ≤ 9223372036854775807) : ∃ t, laws_szFile.f a b d c = some t ∧ t ≤ c ∧ (0 ≤ t → b.length ≤ 1048576 ∧ d.length ≤ 1048576) := by
  unfold laws_szFile.f
  rw [w64 (by omega) (by omega)]
  by_cases g : c - (a.size : Int) < 0
  · exact ⟨-1, by rw [if_pos g], by omega, by omega⟩
  obtain ⟨t, e, a1, a2⟩ := szByteS b (c - (a.size : Int)) (by omega) (by omega) hb
  by_cases g1 : t < 0
  · exact ⟨-1, by simp only [if_neg g, e, Option.bind_some, if_pos g1], by omega, by omega⟩
  obtain ⟨u, e2, b1, b2⟩ := szByteS d t (by omega) (by omega) hd
  by_cases g2 : u < 0
  · exact ⟨-1, by simp only [if_neg g, e, Option.bind_some, if_neg g1, e2, if_pos g2], by omega, by omega⟩
  · exact ⟨u, by simp only [if_neg g, e, Option.bind_some, if_neg g1, e2, if_neg g2], by omega, by omega⟩
def wfF (l : List S101) : Prop := ∀ y ∈ l, y.f0.size ≤ 9223372036854775807 ∧ y.f1.length ≤ 9223372036854775807 ∧ y.f2.length ≤ 9223372036854775807
theorem szFileS (l : List S101) (hl : l.length ≤ 9223372036854775807) (hs : wfF l) : ∃ t, Ev (fun k => laws_szFileS.f k l 1048576) t ∧ (0 ≤ t → l.length ≤ 1048576 ∧ ∀ y ∈ l, y.f1.length ≤ 1048576 ∧ y.f2.length ≤ 1048576) := by
  by_cases h : (1048576 - (l.length : Int)) < 0
  · refine ⟨-1, ?_, by omega⟩
    unfold laws_szFileS.f
    rw [w64 (by omega) (by omega)]
    simp only [if_pos h]
    exact EvN
  · have key := up (P := fun i => ∀ x, 0 ≤ x → x ≤ 1048576 → ∃ t, Ev (fun k => laws_szFileS.l0 k l x i) t ∧ (0 ≤ t → ∀ y ∈ l.drop i.toNat, y.f1.length ≤ 1048576 ∧ y.f2.length ≤ 1048576)) l.length
      (fun x g0 g1 => ⟨x, EvS (by simp only [laws_szFileS.l0, Int.lt_irrefl, if_false]; exact EvN), fun _ y hy => by rw [Int.toNat_natCast, List.drop_length] at hy; cases hy⟩)
      (fun i hi ih x g0 g1 => by
        have hz := hs _ (List.getElem_mem hi)
        obtain ⟨t, e1, e2, e3⟩ := szFile l[i].f0 l[i].f1 l[i].f2 x g0 g1 hz.1 hz.2.1 hz.2.2
        by_cases h2 : t < 0
        · refine ⟨-1, EvS ?_, by omega⟩
          simp only [laws_szFileS.l0, rd101 l i hi, e1, Option.bind_some, if_pos h2, if_pos (show (i : Int) < (l.length : Int) by omega), if_pos (show 0 ≤ (i : Int) by omega)]
          exact EvN
        · obtain ⟨t', h3, h4⟩ := ih t (by omega) (by omega)
          refine ⟨t', EvS ?_, fun ht y hy => ?_⟩
          · simp only [laws_szFileS.l0, rd101 l i hi, e1, Option.bind_some, if_neg h2, if_pos (show (i : Int) < (l.length : Int) by omega), if_pos (show 0 ≤ (i : Int) by omega), nxt i _ hi hl]
            exact h3
          · rw [Int.toNat_natCast, drop_at l i hi] at hy
            rcases List.mem_cons.1 hy with rfl | hy
            · exact e3 (by omega)
            · exact h4 ht y (by rw [Int.toNat_natCast]; exact hy))
    obtain ⟨t, h2, h3⟩ := key 0 (Nat.zero_le _) (1048576 - (l.length : Int)) (by omega) (by omega)
    refine ⟨t, ?_, fun ht => ⟨by omega, fun y hy => h3 ht y (by simpa using hy)⟩⟩
    unfold laws_szFileS.f
    rw [w64 (by omega) (by omega)]
    simp only [if_neg h]
    exact h2
theorem szDisk (l : List S101) (hl : l.length ≤ 9223372036854775807) (hs : wfF l) : ∃ t, Ev (fun k => laws_szDisk.f k l 1048576) t ∧ (0 ≤ t → l.length ≤ 1048576 ∧ ∀ y ∈ l, y.f1.length ≤ 1048576 ∧ y.f2.length ≤ 1048576) := by
  obtain ⟨t, h1, h2⟩ := szFileS l hl hs
  unfold laws_szDisk.f
  by_cases h : t < 0
  · exact ⟨-1, by simp only [EvB h1, if_pos h]; exact EvN, by omega⟩
  · exact ⟨t, by simp only [EvB h1, if_neg h]; exact EvN, h2⟩
theorem eqFile (a : ByteArray) (b c : List Int) (hb : b.length ≤ 9223372036854775807) (hc : c.length ≤ 9223372036854775807) : Ev (fun k => laws_eqFile.f k a b c a b c) true := by
  unfold laws_eqFile.f
  simp only [if_true, EvB (eqByteS b hb), EvB (eqByteS c hc)]
  exact EvN
theorem eqFileS (x : List S74) (hx : x.length ≤ 9223372036854775807) (hy : ∀ y ∈ x, y.f1.length ≤ 9223372036854775807 ∧ y.f2.length ≤ 9223372036854775807) : Ev (fun k => laws_eqFileS.f k x x) true := by
  have key := up (P := fun i => Ev (fun k => laws_eqFileS.l0 k x x i) true) x.length
    (EvS (by simp only [laws_eqFileS.l0, Int.lt_irrefl, if_false]; exact EvN))
    (fun i hi ih => EvS (by
      have e := eqFile x[i].f0 x[i].f1 x[i].f2 (hy _ (List.getElem_mem hi)).1 (hy _ (List.getElem_mem hi)).2
      simp only [laws_eqFileS.l0, rd74 x i hi, if_pos (show (i : Int) < (x.length : Int) by omega), if_pos (show 0 ≤ (i : Int) by omega), EvB e, if_true, nxt i _ hi hx]; exact ih))
  have := key 0 (Nat.zero_le _)
  unfold laws_eqFileS.f
  simp only [if_true]
  exact this
theorem eqDisk (x : List S74) (hx : x.length ≤ 9223372036854775807) (hy : ∀ y ∈ x, y.f1.length ≤ 9223372036854775807 ∧ y.f2.length ≤ 9223372036854775807) : Ev (fun k => laws_eqDisk.f k x x) true := by
  unfold laws_eqDisk.f
  simp only [EvB (eqFileS x hx hy), if_true]
  exact EvN
def okAt (l : List S74) (i : Nat) : Bool := nameM (rd_T74 l i).f0 && (decide ((rd_T74 l i).f1.length + (rd_T74 l i).f2.length ≤ 20000) && (decide (i = 0) || Op.bytesLess (rd_T74 l ((i - 1 : Nat) : Int)).f0.toList (rd_T74 l i).f0.toList))
def goD (l : List S74) : Nat → Nat → Bool
  | 0, _ => true
  | d + 1, i => okAt l i && goD l d (i + 1)
def diskM (l : List S74) : Bool := decide (l.length ≤ 8) && goD l l.length 0
def wfD (l : List S74) : Prop := ∀ y ∈ l, y.f0.size ≤ 9223372036854775807 ∧ y.f1.length ≤ 1048576 ∧ y.f2.length ≤ 1048576
theorem specGo (l : List S74) (hl : l.length ≤ 1048576) (hw : wfD l) : ∀ d i : Nat, d + i = l.length → Ev (fun k => spec_DiskOk.l0 k i l) (goD l d i) := by
  intro d
  induction d with
  | zero =>
    intro i hi
    refine EvS ?_
    simp only [spec_DiskOk.l0, if_neg (show ¬ (i : Int) < (l.length : Int) by omega)]
    exact EvN
  | succ d ih =>
    intro i hi
    have hil : i < l.length := by omega
    have hy := hw _ (List.getElem_mem hil)
    refine EvS ?_
    have hn := spec_name l[i].f0 hy.1
    have h := ih (i + 1) (by omega)
    rw [← rd74 l i hil] at hn hy
    unfold goD okAt
    simp only [spec_DiskOk.l0, if_pos (show (i : Int) < (l.length : Int) by omega), if_pos (show 0 ≤ (i : Int) by omega), EvB hn, nxt i _ hil (by omega)]
    generalize rd_T74 l (i : Int) = y at hy hn ⊢
    by_cases c1 : nameM y.f0 = true
    · by_cases c2 : (y.f1.length : Int) > 20000
      · simp only [if_pos c1, if_pos c2, decide_eq_false (show ¬ y.f1.length + y.f2.length ≤ 20000 by omega), Bool.false_and, Bool.and_false]; exact EvN
      · have hw1 : wrap64 (20000 - (y.f1.length : Int)) = 20000 - (y.f1.length : Int) := w64 (by omega) (by omega)
        by_cases c3 : (y.f2.length : Int) > 20000 - (y.f1.length : Int)
        · simp only [if_pos c1, if_neg c2, hw1, if_pos c3, decide_eq_false (show ¬ y.f1.length + y.f2.length ≤ 20000 by omega), Bool.false_and, Bool.and_false]; exact EvN
        · simp only [if_pos c1, if_neg c2, hw1, if_neg c3, c1, decide_eq_true (show y.f1.length + y.f2.length ≤ 20000 by omega), Bool.true_and]
          by_cases c4 : i = 0
          · simp only [if_neg (show ¬ (i : Int) > 0 by omega), decide_eq_true c4, Bool.true_or, Bool.true_and]; exact h
          · have hw2 : wrap64 ((i : Int) - 1) = ((i - 1 : Nat) : Int) := by rw [w64 (by omega) (by omega)]; omega
            simp only [if_pos (show (i : Int) > 0 by omega), hw2, if_pos (show 0 ≤ ((i - 1 : Nat) : Int) by omega), if_pos (show ((i - 1 : Nat) : Int) < (l.length : Int) by omega), decide_eq_false c4, Bool.false_or]
            by_cases c5 : Op.bytesLess (rd_T74 l ((i - 1 : Nat) : Int)).f0.toList y.f0.toList = true
            · simp only [if_pos c5, c5, Bool.true_and]; exact h
            · simp only [if_neg c5, Bool.eq_false_iff.2 c5, Bool.false_and]; exact EvN
    · simp only [if_neg c1, Bool.eq_false_iff.2 c1, Bool.false_and]; exact EvN
theorem implGo (l : List S74) (hl : l.length ≤ 1048576) (hw : wfD l) : ∀ d i : Nat, d + i = l.length → Ev (fun k => impl_isDisk.l0 k l (l.length : Int) i l) (goD l d i && decide (l.length ≤ 8)) := by
  intro d
  induction d with
  | zero =>
    intro i hi
    refine EvS ?_
    simp only [impl_isDisk.l0, if_neg (show ¬ (i : Int) < (l.length : Int) by omega), goD, Bool.true_and]
    rw [show decide ((l.length : Int) ≤ 8) = decide (l.length ≤ 8) from decide_eq_decide.2 (by omega)]
    exact EvN
  | succ d ih =>
    intro i hi
    have hil : i < l.length := by omega
    have hy := hw _ (List.getElem_mem hil)
    refine EvS ?_
    have hn := impl_name l[i].f0 hy.1
    have h := ih (i + 1) (by omega)
    rw [← rd74 l i hil] at hn hy
    unfold goD okAt
    simp only [impl_isDisk.l0, if_pos (show (i : Int) < (l.length : Int) by omega), if_pos (show 0 ≤ (i : Int) by omega), hn, Option.bind_some, nxt i _ hil (by omega)]
    generalize rd_T74 l (i : Int) = y at hy hn ⊢
    by_cases c1 : nameM y.f0 = true
    · have hw1 : wrap64 ((y.f1.length : Int) + (y.f2.length : Int)) = (y.f1.length : Int) + (y.f2.length : Int) := w64 (by omega) (by omega)
      by_cases c3 : (y.f1.length : Int) + (y.f2.length : Int) > 20000
      · simp only [if_pos c1, hw1, if_pos c3, decide_eq_false (show ¬ y.f1.length + y.f2.length ≤ 20000 by omega), Bool.false_and, Bool.and_false]; exact EvN
      · simp only [if_pos c1, hw1, if_neg c3, c1, decide_eq_true (show y.f1.length + y.f2.length ≤ 20000 by omega), Bool.true_and]
        by_cases c4 : i = 0
        · simp only [if_neg (show ¬ (i : Int) > 0 by omega), decide_eq_true c4, Bool.true_or, Bool.true_and]; exact h
        · have hw2 : wrap64 ((i : Int) - 1) = ((i - 1 : Nat) : Int) := by rw [w64 (by omega) (by omega)]; omega
          simp only [if_pos (show (i : Int) > 0 by omega), hw2, if_pos (show 0 ≤ ((i - 1 : Nat) : Int) by omega), if_pos (show ((i - 1 : Nat) : Int) < (l.length : Int) by omega), decide_eq_false c4, Bool.false_or]
          by_cases c5 : Op.bytesLess (rd_T74 l ((i - 1 : Nat) : Int)).f0.toList y.f0.toList = true
          · simp only [if_pos c5, c5, Bool.true_and]; exact h
          · simp only [if_neg c5, Bool.eq_false_iff.2 c5, Bool.false_and]; exact EvN
    · simp only [if_neg c1, Bool.eq_false_iff.2 c1, Bool.false_and]; exact EvN
theorem spec_disk (l : List S74) (hl : l.length ≤ 1048576) (hw : wfD l) : Ev (fun k => spec_DiskOk.f k l) (diskM l) := by
  unfold spec_DiskOk.f diskM
  by_cases h : l.length ≤ 8
  · simp only [if_neg (show ¬ (l.length : Int) > 8 by omega), decide_eq_true h, Bool.true_and]
    exact specGo l hl hw l.length 0 rfl
  · simp only [if_pos (show (l.length : Int) > 8 by omega), decide_eq_false h, Bool.false_and]
    exact EvN
theorem impl_disk (l : List S74) (hl : l.length ≤ 1048576) (hw : wfD l) : Ev (fun k => impl_isDisk.f k l) (diskM l) := by
  unfold impl_isDisk.f diskM
  rw [Bool.and_comm]
  exact implGo l hl hw l.length 0 rfl
end Go.Proofs.YtmgeffgcihfpcaaDoor.DK

namespace Go.Proofs.YtmgeffgcihfpcaaDoor.F
open Go.RowKit Go.Proofs.YtmgeffgcihfpcaaDoorW.PrintWords Go.Proofs.YtmgeffgcihfpcaaDoorW.PrintWords.Kd Go.Proofs.YtmgeffgcihfpcaaDoorW.PrintMore.Kd Go.Proofs.YtmgeffgcihfpcaaDoorW.PrintLast Go.Proofs.YtmgeffgcihfpcaaDoorW.PrintMore
attribute [local go_sem] max2_int min2_int max_two min_two max_three min_three max_four min_four   -- for this text's walks alone
set_option linter.unusedVariables false
set_option linter.unusedSimpArgs false
end Go.Proofs.YtmgeffgcihfpcaaDoor.F

namespace Go.Proofs.YtmgeffgcihfpcaaDoor.DK
set_option linter.unusedVariables false
set_option linter.unusedSimpArgs false
open Go.RowKit Go.Proofs.YtmgeffgcihfpcaaDoor.F Go.Proofs.YtmgeffgcihfpcaaDoor.PK Go.Proofs.YtmgeffgcihfpcaaDoorW.PrintWords Go.Proofs.YtmgeffgcihfpcaaDoorW.PrintLast Go.Proofs.YtmgeffgcihfpcaaDoorW.PrintMore
theorem rdI (l : List Int) (i : Nat) (h : i < l.length) : rd l (i : Int) = l[i] := getD_nat l _ i h
theorem bytesS (l : List Int) (hl : l.length ≤ 1000000000) : Ev (fun k => spec_l01Bytes.f k l) l := by
  have key := up0 (P := fun i => Ev (fun k => spec_l01Bytes.l0 k l (l.take i.toNat) i) l) l.length
    (EvS (by simp only [spec_l01Bytes.l0, Int.lt_irrefl, if_false, Int.toNat_natCast, List.take_length]; exact EvN))
    (fun i hi ih => EvS (by
      simp only [spec_l01Bytes.l0, if_pos (show (i : Int) < (l.length : Int) by omega), if_pos (show 0 ≤ (i : Int) by omega), Int.toNat_natCast, rdI l i hi, nxt i _ hi (by omega), if_pos (show (l.take i).length < 140737488355328 by rw [List.length_take]; omega)]
      rw [Int.toNat_natCast, List.take_add_one, List.getElem?_eq_getElem hi] at ih
      exact ih))
  unfold spec_l01Bytes.f
  exact key
theorem joinS (l m : List Int) (hl : l.length ≤ 1000000000) (hm : m.length ≤ 1000000000) : Ev (fun k => spec_l01Join.f k l m) (l ++ m) := by
  have key := up0 (P := fun i => Ev (fun k => spec_l01Join.l0 k m (l ++ m.take i.toNat) i) (l ++ m)) m.length
    (EvS (by simp only [spec_l01Join.l0, Int.lt_irrefl, if_false, Int.toNat_natCast, List.take_length]; exact EvN))
    (fun i hi ih => EvS (by
      simp only [spec_l01Join.l0, if_pos (show (i : Int) < (m.length : Int) by omega), if_pos (show 0 ≤ (i : Int) by omega), Int.toNat_natCast, rdI m i hi, nxt i _ hi (by omega), if_pos (show (l ++ m.take i).length < 140737488355328 by rw [List.length_append, List.length_take]; omega)]
      rw [Int.toNat_natCast, List.take_add_one, List.getElem?_eq_getElem hi, ← List.append_assoc] at ih
      exact ih))
  unfold spec_l01Join.f
  simp only [EvB (bytesS l hl)]
  have e : l ++ m.take (0 : Int).toNat = l := by simp
  rw [e] at key
  exact key
def isN (a : ByteArray) : ByteArray → Bool := fun s => s.toList == a.toList
theorem find_ev (l : List S74) (a : ByteArray) (hl : l.length ≤ 1048576) : Ev (fun k => spec_l03Find.f k l a) (idxF (isN a) l 0) := by
  have key := up0 (P := fun i => Ev (fun k => spec_l03Find.l0 k a i l) (idxF (isN a) (l.drop i.toNat) i)) l.length
    (EvS (by
      simp only [spec_l03Find.l0, Int.lt_irrefl, if_false, Int.toNat_natCast, List.drop_length, idxF]
      exact EvN))
    (fun i hi ih => EvS (by
      rw [Int.toNat_natCast] at *
      rw [drop_at l i hi]
      simp only [spec_l03Find.l0, if_pos (show (i : Int) < (l.length : Int) by omega), if_pos (show 0 ≤ (i : Int) by omega), rd74 l i hi, nxt i _ hi (by omega), idxF]
      by_cases h : l[i].f0.toList = a.toList
      · simp only [if_pos h, isN, beq_iff_eq.2 h, if_true]; exact EvN
      · simp only [if_neg h, isN, beq_eq_false_iff_ne.2 h, Bool.false_eq_true, if_false]
        exact ih))
  unfold spec_l03Find.f
  exact key
theorem idxF_bd (p : ByteArray → Bool) : ∀ (l : List S74) (i : Int), 0 ≤ i → idxF p l i = -1 ∨ (i ≤ idxF p l i ∧ idxF p l i < i + l.length) := by
  intro l
  induction l with
  | nil => intro i _; exact .inl rfl
  | cons x t ih =>
    intro i hi
    unfold idxF
    by_cases h : p x.f0 = true
    · rw [if_pos h]; right; simp only [List.length_cons]; omega
    · rw [if_neg h]
      rcases ih (i + 1) (by omega) with h1 | h1
      · exact .inl h1
      · right; simp only [List.length_cons]; omega
def contentM (l : List S74) (a : ByteArray) : List Int × Bool := if diskM l = true then (if idxF (isN a) l 0 < 0 then ([], false) else ((rd_T74 l (idxF (isN a) l 0)).f1 ++ (rd_T74 l (idxF (isN a) l 0)).f2, true)) else ([], false)
theorem at_bd (l : List S74) (hw : wfD l) (i : Int) (h0 : 0 ≤ i) (h1 : i < l.length) : (rd_T74 l i).f1.length ≤ 1048576 ∧ (rd_T74 l i).f2.length ≤ 1048576 := by
  obtain ⟨n, rfl⟩ := Int.eq_ofNat_of_zero_le h0
  have hn : n < l.length := by omega
  rw [rd74 l n hn]
  exact (hw _ (List.getElem_mem hn)).2
theorem content_le (l : List S74) (a : ByteArray) (hw : wfD l) : (contentM l a).1.length ≤ 2097152 := by
  unfold contentM
  by_cases h : diskM l = true
  · rw [if_pos h]
    by_cases h2 : idxF (isN a) l 0 < 0
    · rw [if_pos h2]; simp
    · rw [if_neg h2]
      have := idxF_bd (isN a) l 0 (by omega)
      have := at_bd l hw (idxF (isN a) l 0) (by omega) (by omega)
      rw [List.length_append]
      omega
  · rw [if_neg h]; simp
theorem spec_content (l : List S74) (a : ByteArray) (hl : l.length ≤ 1048576) (hw : wfD l) : Ev (fun k => spec_Content.f k l a) (contentM l a) := by
  unfold spec_Content.f contentM
  simp only [EvB (find_ev l a hl), EvB (spec_disk l hl hw)]
  have hb := idxF_bd (isN a) l 0 (by omega)
  generalize idxF (isN a) l 0 = i at hb ⊢
  by_cases h : diskM l = true
  · by_cases h2 : i < 0
    · simp only [if_pos h, if_pos h2]; exact EvN
    · have hr := at_bd l hw i (by omega) (by omega)
      simp only [if_pos h, if_neg h2, if_pos (show 0 ≤ i by omega), if_pos (show i < (l.length : Int) by omega), EvB (joinS (rd_T74 l i).f1 (rd_T74 l i).f2 (by omega) (by omega))]
      exact EvN
  · simp only [if_neg h]; exact EvN
theorem lt47 (n m : Nat) (h : n ≤ 1000000000) (h' : m ≤ 1000000000) : n + m < 140737488355328 := by omega
end Go.Proofs.YtmgeffgcihfpcaaDoor.DK

namespace Go.Proofs.YtmgeffgcihfpcaaDoor.F
open Go.Proofs.YtmgeffgcihfpcaaDoor
open Go.RowKit Go.Proofs.YtmgeffgcihfpcaaDoorW.PrintWords Go.Proofs.YtmgeffgcihfpcaaDoorW.PrintWords.Kd Go.Proofs.YtmgeffgcihfpcaaDoorW.PrintMore.Kd Go.Proofs.YtmgeffgcihfpcaaDoorW.PrintLast Go.Proofs.YtmgeffgcihfpcaaDoorW.PrintMore
attribute [local go_sem] max2_int min2_int max_two min_two max_three min_three max_four min_four   -- for this text's walks alone
set_option linter.unusedVariables false
set_option linter.unusedSimpArgs false
end Go.Proofs.YtmgeffgcihfpcaaDoor.F

namespace Go.Proofs.YtmgeffgcihfpcaaDoor.DK
set_option linter.unusedVariables false
set_option linter.unusedSimpArgs false
open Go.RowKit Go.Proofs.YtmgeffgcihfpcaaDoor.F Go.Proofs.YtmgeffgcihfpcaaDoor.PK Go.Proofs.YtmgeffgcihfpcaaDoorW.PrintWords Go.Proofs.YtmgeffgcihfpcaaDoorW.PrintLast Go.Proofs.YtmgeffgcihfpcaaDoorW.PrintMore
theorem lt_irr : ∀ a : List UInt8, Op.bytesLess a a = false
  | [] => rfl
  | x :: r => by simp [Op.bytesLess, lt_irr r]
theorem lt_trans : ∀ a b c : List UInt8, Op.bytesLess a b = true → Op.bytesLess b c = true → Op.bytesLess a c = true
  | a, b, [], _, h => by cases b <;> simp [Op.bytesLess] at h
  | [], b, z :: c, _, _ => rfl
  | x :: a, [], z :: c, h, _ => by simp [Op.bytesLess] at h
  | x :: a, y :: b, z :: c, h, h' => by
    simp only [Op.bytesLess, Bool.or_eq_true, decide_eq_true_eq, Bool.and_eq_true, beq_iff_eq, UInt8.lt_iff_toNat_lt] at h h' ⊢
    rcases h with h | ⟨rfl, h⟩
    · rcases h' with h' | ⟨rfl, h'⟩
      · exact .inl (by omega)
      · exact .inl h
    · rcases h' with h' | ⟨rfl, h'⟩
      · exact .inl h'
      · exact .inr ⟨rfl, lt_trans a b c h h'⟩
theorem lt_ne {a b : List UInt8} (h : Op.bytesLess a b = true) : a ≠ b := by
  rintro rfl
  rw [lt_irr] at h
  cases h
def nm (x : S74) : List UInt8 := x.f0.toList
def srt (l : List S74) : Prop := ∀ i j : Nat, i < j → ∀ x y, l[i]? = some x → l[j]? = some y → Op.bytesLess (nm x) (nm y) = true
theorem goD_at (l : List S74) : ∀ d i : Nat, goD l d i = true → ∀ j, i ≤ j → j < i + d → okAt l j = true := by
  intro d
  induction d with
  | zero => intro i _ j _ _; omega
  | succ d ih =>
    intro i h j h1 h2
    unfold goD at h
    rw [Bool.and_eq_true] at h
    by_cases e : j = i
    · subst e; exact h.1
    · exact ih (i + 1) h.2 j (by omega) (by omega)
theorem disk_srt {l : List S74} (h : diskM l = true) : srt l := by
  unfold diskM at h
  rw [Bool.and_eq_true] at h
  have hk := goD_at l _ _ h.2
  have step : ∀ j, j + 1 < l.length → Op.bytesLess (nm (l.getD j z74)) (nm (l.getD (j + 1) z74)) = true := by
    intro j hj
    have := hk (j + 1) (by omega) (by omega)
    unfold okAt at this
    rw [Bool.and_eq_true, Bool.and_eq_true, Bool.or_eq_true] at this
    have h3 := this.2.2.resolve_left (by simp)
    simpa [rd_T74, nm] using h3
  have key : ∀ j i : Nat, i < j → j < l.length → Op.bytesLess (nm (l.getD i z74)) (nm (l.getD j z74)) = true := by
    intro j
    induction j with
    | zero => intro i h1; omega
    | succ j ih =>
      intro i h1 h2
      by_cases e : i = j
      · subst e; exact step i h2
      · exact lt_trans _ _ _ (ih i (by omega) (by omega)) (step j h2)
  intro i j hij x y hx hy
  have h1 := (List.getElem?_eq_some_iff.1 hy).1
  have := key j i hij h1
  rw [List.getD_eq_getElem?_getD, List.getD_eq_getElem?_getD, hx, hy] at this
  exact this
theorem idxF_at (p : ByteArray → Bool) : ∀ (l : List S74) (s : Int), (idxF p l s = -1 ∧ ∀ x ∈ l, p x.f0 = false) ∨ (∃ m : Nat, ∃ x, idxF p l s = s + m ∧ l[m]? = some x ∧ p x.f0 = true ∧ ∀ (j : Nat) (y : S74), j < m → l[j]? = some y → p y.f0 = false) := by
  intro l
  induction l with
  | nil => intro s; exact .inl ⟨rfl, fun x hx => by cases hx⟩
  | cons x t ih =>
    intro s
    unfold idxF
    by_cases h : p x.f0 = true
    · rw [if_pos h]
      exact .inr ⟨0, x, by simp, rfl, h, fun j y hj => by omega⟩
    · rw [if_neg h]
      rcases ih (s + 1) with ⟨h1, h2⟩ | ⟨m, y, h1, h2, h3, h4⟩
      · refine .inl ⟨h1, fun y hy => ?_⟩
        rcases List.mem_cons.1 hy with rfl | hy
        · exact Bool.eq_false_iff.2 h
        · exact h2 y hy
      · refine .inr ⟨m + 1, y, by rw [h1]; omega, by rw [List.getElem?_cons_succ]; exact h2, h3, fun j z hj hz => ?_⟩
        cases j with
        | zero => simp only [List.getElem?_cons_zero, Option.some.injEq] at hz; subst hz; exact Bool.eq_false_iff.2 h
        | succ j => rw [List.getElem?_cons_succ] at hz; exact h4 j z (by omega) hz
def notN (a : ByteArray) : S74 → Bool := fun x => !isN a x.f0
theorem filter_all {α : Type} {p : α → Bool} {l : List α} (h : ∀ x ∈ l, p x = true) : l.filter p = l := List.filter_eq_self.2 h
theorem split_at {α : Type} (l : List α) (m : Nat) (x : α) (h : l[m]? = some x) : l = l.take m ++ x :: l.drop (m + 1) := by
  obtain ⟨h1, h2⟩ := List.getElem?_eq_some_iff.1 h
  conv => lhs; rw [← List.take_append_drop m l, List.drop_eq_getElem_cons h1, h2]
theorem copyS (l : List S74) (hl : l.length ≤ 100000000) (hw : ∀ y ∈ l, y.f1.length ≤ 100000000 ∧ y.f2.length ≤ 100000000) : Ev (fun k => spec_l03Copy.f k l) l := by
  have key := up0 (P := fun i => Ev (fun k => spec_l03Copy.l0 k i l (l.take i.toNat)) l) l.length
    (EvS (by simp only [spec_l03Copy.l0, Int.lt_irrefl, if_false, Int.toNat_natCast, List.take_length]; exact EvN))
    (fun i hi ih => EvS (by
      have hy := hw _ (List.getElem_mem hi)
      simp only [spec_l03Copy.l0, if_pos (show (i : Int) < (l.length : Int) by omega), if_pos (show 0 ≤ (i : Int) by omega), Int.toNat_natCast, rd74 l i hi, EvB (bytesS _ (show l[i].f1.length ≤ 1000000000 by omega)), EvB (bytesS _ (show l[i].f2.length ≤ 1000000000 by omega)), nxt i _ hi (by omega), if_pos (show (l.take i).length < 2199023255552 by rw [List.length_take]; omega)]
      rw [Int.toNat_natCast, List.take_add_one, List.getElem?_eq_getElem hi] at ih
      exact ih))
  unfold spec_l03Copy.f
  exact key
theorem copyI (l : List S74) (hl : l.length ≤ 100000000) (hw : ∀ y ∈ l, y.f1.length ≤ 100000000 ∧ y.f2.length ≤ 100000000) : Ev (fun k => impl_copyDisk.f k l) l := by
  have key := up0 (P := fun i => Ev (fun k => impl_copyDisk.l0 k l (l.length : Int) i (l.take i.toNat)) l) l.length
    (EvS (by simp only [impl_copyDisk.l0, Int.lt_irrefl, if_false, Int.toNat_natCast, List.take_length]; exact EvN))
    (fun i hi ih => EvS (by
      have hy := hw _ (List.getElem_mem hi)
      simp only [impl_copyDisk.l0, if_pos (show (i : Int) < (l.length : Int) by omega), if_pos (show 0 ≤ (i : Int) by omega), Int.toNat_natCast, rd74 l i hi, Option.bind_some, if_pos (show ([] : List Int).length + l[i].f1.length < 140737488355328 by rw [List.length_nil]; omega), if_pos (show ([] : List Int).length + l[i].f2.length < 140737488355328 by rw [List.length_nil]; omega), List.nil_append, nxt i _ hi (by omega), if_pos (show (l.take i).length < 2199023255552 by rw [List.length_take]; omega)]
      rw [Int.toNat_natCast, List.take_add_one, List.getElem?_eq_getElem hi] at ih
      exact ih))
  unfold impl_copyDisk.f
  exact key
def lessN (a : ByteArray) : S74 → Bool := fun x => Op.bytesLess (nm x) a.toList
def putGo (f : S74) : Bool → List S74 → List S74 → List S74
  | b, [], out => if b = true then out else out ++ [f]
  | true, x :: r, out => if nm x = nm f then putGo f true r out else putGo f true r (out ++ [x])
  | false, x :: r, out => if lessN f.f0 x = true then (if nm x = nm f then putGo f false r out else putGo f false r (out ++ [x])) else (if nm x = nm f then putGo f true r (out ++ [f]) else putGo f true r (out ++ [f] ++ [x]))
theorem putGo_true (f : S74) : ∀ (l out : List S74), putGo f true l out = out ++ l.filter (notN f.f0)
  | [], out => by simp [putGo]
  | x :: r, out => by
    unfold putGo
    by_cases c : nm x = nm f
    · rw [if_pos c, putGo_true f r out, List.filter_cons, if_neg (by simp [notN, isN]; exact c)]
    · rw [if_neg c, putGo_true f r _, List.filter_cons, if_pos (by simp [notN, isN]; exact c), List.append_assoc]; rfl
theorem putGo_false (f : S74) : ∀ (l out : List S74), putGo f false l out = out ++ l.takeWhile (lessN f.f0) ++ f :: (l.dropWhile (lessN f.f0)).filter (notN f.f0)
  | [], out => by simp [putGo]
  | x :: r, out => by
    unfold putGo
    by_cases h : lessN f.f0 x = true
    · have c : ¬ nm x = nm f := lt_ne h
      rw [if_pos h, if_neg c, putGo_false f r _, List.takeWhile_cons_of_pos h, List.dropWhile_cons_of_pos h]
      simp
    · rw [if_neg h, List.takeWhile_cons_of_neg h, List.dropWhile_cons_of_neg h]
      by_cases c : nm x = nm f
      · rw [if_pos c, putGo_true, List.filter_cons, if_neg (by simp [notN, isN]; exact c)]
        simp
      · rw [if_neg c, putGo_true, List.filter_cons, if_pos (by simp [notN, isN]; exact c)]
        simp
def putM (l : List S74) (f : S74) : List S74 := l.takeWhile (lessN f.f0) ++ f :: (l.dropWhile (lessN f.f0)).filter (notN f.f0)
theorem put_len (f : S74) : ∀ (b : Bool) (l out : List S74), (putGo f b l out).length ≤ out.length + l.length + 1 := by
  intro b l out
  cases b with
  | true => rw [putGo_true, List.length_append]; have := List.length_filter_le (notN f.f0) l; omega
  | false =>
    rw [putGo_false]
    have h1 := List.length_filter_le (notN f.f0) (l.dropWhile (lessN f.f0))
    have h2 : (l.takeWhile (lessN f.f0)).length + (l.dropWhile (lessN f.f0)).length = l.length := by rw [← List.length_append, List.takeWhile_append_dropWhile]
    simp only [List.length_append, List.length_cons]
    omega
theorem put_mem (f : S74) (l : List S74) : ∀ y ∈ putM l f, y = f ∨ y ∈ l := by
  intro y hy
  rcases List.mem_append.1 hy with h | h
  · exact .inr ((List.takeWhile_sublist _).subset h)
  · rcases List.mem_cons.1 h with h | h
    · exact .inl h
    · exact .inr ((List.dropWhile_sublist _).subset (List.mem_filter.1 h).1)
end Go.Proofs.YtmgeffgcihfpcaaDoor.DK

namespace Go.Proofs.YtmgeffgcihfpcaaDoor.DK
set_option linter.unusedVariables false
set_option linter.unusedSimpArgs false
open Go.RowKit Go.Proofs.YtmgeffgcihfpcaaDoor.F Go.Proofs.YtmgeffgcihfpcaaDoor.PK Go.Proofs.YtmgeffgcihfpcaaDoorW.PrintWords Go.Proofs.YtmgeffgcihfpcaaDoorW.PrintLast Go.Proofs.YtmgeffgcihfpcaaDoorW.PrintMore
theorem putS (l : List S74) (f : S74) (hl : l.length ≤ 10000000) (hw : ∀ y ∈ l, y.f1.length ≤ 100000000 ∧ y.f2.length ≤ 100000000) (hf : f.f1.length ≤ 100000000 ∧ f.f2.length ≤ 100000000) : Ev (fun k => spec_l03Put.f k l f.f0 f.f1 f.f2) (putM l f) := by
  have hsz : (putM l f).length ≤ 100000000 := by
    have := put_len f false l []
    rw [putGo_false, List.length_nil] at this
    simp only [List.nil_append] at this
    show (l.takeWhile (lessN f.f0) ++ f :: (l.dropWhile (lessN f.f0)).filter (notN f.f0)).length ≤ _
    omega
  have fin : Ev (fun k => spec_l03Copy.f k (putM l f)) (putM l f) := copyS _ hsz (fun y hy => by
    rcases put_mem f l y hy with rfl | h
    · exact hf
    · exact hw y h)
  have key : ∀ d i : Nat, d + i = l.length → ∀ (b : Bool) (out : List S74), out.length ≤ 2 * i → putGo f b (l.drop i) out = putM l f → Ev (fun k => spec_l03Put.l0 k b i l f.f0 f.f1 f.f2 out) (putM l f) := by
    intro d
    induction d with
    | zero =>
      intro i hi b out h1 h3
      have hi : i = l.length := by omega
      subst hi
      rw [List.drop_length] at h3
      refine EvS ?_
      simp only [spec_l03Put.l0, Int.lt_irrefl, if_false]
      cases b with
      | true =>
        simp only [putGo, if_true] at h3
        subst h3
        simp only [if_true]
        exact (EvB fin).2 EvN
      | false =>
        simp only [putGo, Bool.false_eq_true, if_false] at h3
        simp only [Bool.false_eq_true, if_false, if_pos (show out.length < 2199023255552 by omega)]
        rw [h3]
        exact (EvB fin).2 EvN
    | succ d ih =>
      intro i hi b out h1 h3
      have hil : i < l.length := by omega
      rw [drop_at l i hil] at h3
      have ih' := fun b out h1 h3 => ih (i + 1) (by omega) b out h1 h3
      refine EvS ?_
      have hi1 : (i : Int) < (l.length : Int) := by omega
      have hi0 : 0 ≤ (i : Int) := by omega
      have hnx := nxt i _ hil (by omega)
      simp only [spec_l03Put.l0, if_pos hi1, if_pos hi0, rd74 l i hil]
      cases b with
      | true =>
        simp only [if_true]
        refine EvS ?_
        simp only [spec_l03Put.j1, Bool.false_eq_true, if_false, if_pos hi1, if_pos hi0, rd74 l i hil, hnx]
        simp only [putGo] at h3
        by_cases c : l[i].f0.toList = f.f0.toList
        · rw [if_pos (show nm l[i] = nm f from c)] at h3
          simp only [if_pos c]
          exact ih' _ _ (by omega) h3
        · rw [if_neg (show ¬ nm l[i] = nm f from c)] at h3
          simp only [if_neg c, if_pos (show out.length < 2199023255552 by omega)]
          exact ih' _ _ (by simp; omega) h3
      | false =>
        simp only [Bool.false_eq_true, if_false]
        refine EvS ?_
        simp only [putGo] at h3
        by_cases g : lessN f.f0 l[i] = true
        · have g' : Op.bytesLess l[i].f0.toList f.f0.toList = true := g
          rw [if_pos g] at h3
          simp only [g', Bool.not_true, spec_l03Put.j1, Bool.false_eq_true, if_false, if_pos hi1, if_pos hi0, rd74 l i hil, hnx]
          by_cases c : l[i].f0.toList = f.f0.toList
          · rw [if_pos (show nm l[i] = nm f from c)] at h3
            simp only [if_pos c]
            exact ih' _ _ (by omega) h3
          · rw [if_neg (show ¬ nm l[i] = nm f from c)] at h3
            simp only [if_neg c, if_pos (show out.length < 2199023255552 by omega)]
            exact ih' _ _ (by simp; omega) h3
        · have g' : Op.bytesLess l[i].f0.toList f.f0.toList = false := Bool.eq_false_iff.2 g
          rw [if_neg g] at h3
          simp only [g', Bool.not_false, spec_l03Put.j1, if_true, if_pos hi1, if_pos hi0, rd74 l i hil, hnx, if_pos (show out.length < 2199023255552 by omega), Option.bind_some]
          by_cases c : l[i].f0.toList = f.f0.toList
          · rw [if_pos (show nm l[i] = nm f from c)] at h3
            simp only [if_pos c]
            exact ih' _ _ (by simp; omega) h3
          · rw [if_neg (show ¬ nm l[i] = nm f from c)] at h3
            have hlen : (out ++ [(⟨f.f0, f.f1, f.f2⟩ : S74)]).length < 2199023255552 := by simp; omega
            simp only [if_neg c, if_pos hlen]
            exact ih' _ _ (by simp; omega) h3
  have := key l.length 0 rfl false [] (by simp) (by rw [List.drop_zero, putGo_false]; rfl)
  unfold spec_l03Put.f
  exact this
end Go.Proofs.YtmgeffgcihfpcaaDoor.DK

namespace Go.Proofs.YtmgeffgcihfpcaaDoor.DK
set_option linter.unusedVariables false
set_option linter.unusedSimpArgs false
open Go.RowKit Go.Proofs.YtmgeffgcihfpcaaDoor.F Go.Proofs.YtmgeffgcihfpcaaDoor.PK Go.Proofs.YtmgeffgcihfpcaaDoorW.PrintWords Go.Proofs.YtmgeffgcihfpcaaDoorW.PrintLast Go.Proofs.YtmgeffgcihfpcaaDoorW.PrintMore
theorem wfD_le' {l : List S74} (hw : wfD l) : ∀ y ∈ l, y.f1.length ≤ 100000000 ∧ y.f2.length ≤ 100000000 := fun y hy => by have := hw y hy; omega
theorem content_ok {l : List S74} {a : ByteArray} (h : (contentM l a).2 = true) : diskM l = true ∧ ¬ idxF (isN a) l 0 < 0 ∧ (contentM l a).1 = (rd_T74 l (idxF (isN a) l 0)).f1 ++ (rd_T74 l (idxF (isN a) l 0)).f2 := by
  unfold contentM at h ⊢
  by_cases h1 : diskM l = true
  · rw [if_pos h1] at h ⊢
    by_cases h2 : idxF (isN a) l 0 < 0
    · rw [if_pos h2] at h; cases h
    · rw [if_neg h2]; exact ⟨h1, h2, rfl⟩
  · rw [if_neg h1] at h; cases h
theorem content_no {l : List S74} {a : ByteArray} (h : ¬ (contentM l a).2 = true) : diskM l = true → idxF (isN a) l 0 < 0 := by
  intro h1
  refine Decidable.byContradiction fun h2 => h ?_
  unfold contentM
  rw [if_pos h1, if_neg h2]
theorem idx_at (l : List S74) (a : ByteArray) (h : ¬ idxF (isN a) l 0 < 0) : ∃ (m : Nat) (x : S74), idxF (isN a) l 0 = m ∧ l[m]? = some x ∧ nm x = a.toList ∧ m < l.length := by
  rcases idxF_at (isN a) l 0 with ⟨h1, _⟩ | ⟨m, x, h1, h2, h3, _⟩
  · omega
  · exact ⟨m, x, by omega, h2, by simpa [isN, nm] using h3, (List.getElem?_eq_some_iff.1 h2).1⟩
theorem put_at {l : List S74} (hs : srt l) (f : S74) (m : Nat) (x : S74) (hx : l[m]? = some x) (hn : nm x = f.f0.toList) : putM l f = l.set m f := by
  have hb : ∀ y ∈ l.take m, lessN f.f0 y = true := by
    intro y hy
    obtain ⟨j, hj⟩ := List.mem_iff_getElem?.1 hy
    rw [List.getElem?_take] at hj
    split at hj
    · have := hs j m (by omega) y x hj hx
      rw [hn] at this
      exact this
    · cases hj
  have ha : ∀ y ∈ l.drop (m + 1), notN f.f0 y = true := by
    intro y hy
    obtain ⟨j, hj⟩ := List.mem_iff_getElem?.1 hy
    rw [List.getElem?_drop] at hj
    have := lt_ne (hs m (m + 1 + j) (by omega) x y hx hj)
    simp only [notN, isN, Bool.not_eq_true', beq_eq_false_iff_ne]
    rw [← hn]; exact fun e => this e.symm
  have hx0 : lessN f.f0 x = false := by unfold lessN; rw [hn, lt_irr]
  have hx1 : notN f.f0 x = false := by unfold notN isN; rw [Bool.not_eq_false', beq_iff_eq]; exact hn
  have hm := (List.getElem?_eq_some_iff.1 hx).1
  unfold putM
  have e1 : l.takeWhile (lessN f.f0) = l.take m := by
    conv => lhs; rw [split_at l m x hx]
    rw [List.takeWhile_append_of_pos hb, List.takeWhile_cons_of_neg (by rw [hx0]; decide), List.append_nil]
  have e2 : l.dropWhile (lessN f.f0) = x :: l.drop (m + 1) := by
    conv => lhs; rw [split_at l m x hx]
    rw [List.dropWhile_append_of_pos hb, List.dropWhile_cons_of_neg (by rw [hx0]; decide)]
  rw [e1, e2, List.filter_cons, if_neg (by rw [hx1]; decide), filter_all ha, List.set_eq_take_append_cons_drop, if_pos hm]
theorem mem_set {l : List S74} {m : Nat} {f y : S74} (h : y ∈ l.set m f) : y = f ∨ y ∈ l := (List.mem_or_eq_of_mem_set h).symm
theorem content_at (l : List S74) (hw : wfD l) (i : Int) (h0 : 0 ≤ i) (h1 : i < l.length) : impl_File_content.f (rd_T74 l i).f0 (rd_T74 l i).f1 (rd_T74 l i).f2 = some ((rd_T74 l i).f1 ++ (rd_T74 l i).f2) := by
  have hr := at_bd l hw i h0 h1
  unfold impl_File_content.f
  rw [Option.bind_some, if_pos (lt47 _ _ (by simp) (by omega)), Option.bind_some, if_pos (lt47 _ _ (by simp; omega) (by omega)), List.nil_append]
end Go.Proofs.YtmgeffgcihfpcaaDoor.DK

namespace Go.Proofs.YtmgeffgcihfpcaaDoor.DK
set_option linter.unusedVariables false
set_option linter.unusedSimpArgs false
open Go.RowKit Go.Proofs.YtmgeffgcihfpcaaDoor.F Go.Proofs.YtmgeffgcihfpcaaDoor.PK Go.Proofs.YtmgeffgcihfpcaaDoorW.PrintWords Go.Proofs.YtmgeffgcihfpcaaDoorW.PrintLast Go.Proofs.YtmgeffgcihfpcaaDoorW.PrintMore
def cutM (l : List S74) (a : ByteArray) (n : Int) : List S74 × Bool := if (contentM l a).2 = true then (if 0 ≤ n ∧ n ≤ ((contentM l a).1.length : Int) then (l.set (idxF (isN a) l 0).toNat ⟨a, (contentM l a).1.take n.toNat, []⟩, true) else (l, false)) else (l, false)
theorem cut_le (l : List S74) (a : ByteArray) (n : Int) (hw : wfD l) : (cutM l a n).1.length = l.length ∧ ∀ y ∈ (cutM l a n).1, y.f1.length + y.f2.length ≤ 2097152 := by
  have hl : ∀ y ∈ l, y.f1.length + y.f2.length ≤ 2097152 := fun y hy => by have := hw y hy; omega
  unfold cutM
  by_cases h : (contentM l a).2 = true
  · rw [if_pos h]
    by_cases g : 0 ≤ n ∧ n ≤ ((contentM l a).1.length : Int)
    · rw [if_pos g]
      refine ⟨by simp, fun y hy => ?_⟩
      rcases mem_set hy with rfl | hy
      · have := content_le l a hw
        simp only [List.length_take, List.length_nil]
        omega
      · exact hl y hy
    · rw [if_neg g]; exact ⟨rfl, hl⟩
  · rw [if_neg h]; exact ⟨rfl, hl⟩
theorem spec_cut (l : List S74) (a : ByteArray) (n : Int) (hl : l.length ≤ 1048576) (hw : wfD l) : Ev (fun k => spec_CutFile.f k l a n) (cutM l a n) := by
  have hc := copyS l (by omega) (wfD_le' hw)
  have hS := spec_content l a hl hw
  have hb := content_le l a hw
  unfold spec_CutFile.f cutM
  simp only [EvB hS]
  by_cases h : (contentM l a).2 = true
  · obtain ⟨h1, h2, _⟩ := content_ok h
    obtain ⟨m, x, e, hx, hn, hm⟩ := idx_at l a h2
    simp only [if_pos h]
    by_cases g : 0 ≤ n ∧ n ≤ ((contentM l a).1.length : Int)
    · have hIn : spec_l01In.f n 0 ((contentM l a).1.length : Int) = some true := by unfold spec_l01In.f; rw [if_pos g.1, decide_eq_true g.2]
      have hP := putS l ⟨a, (contentM l a).1.take n.toNat, []⟩ (by omega) (wfD_le' hw) ⟨by show ((contentM l a).1.take n.toNat).length ≤ 100000000; rw [List.length_take]; omega, by simp⟩
      rw [put_at (disk_srt h1) _ m x hx hn] at hP
      simp only [hIn, Option.bind_some, Bool.not_true, if_pos g]
      refine EvS ?_
      simp only [spec_CutFile.j0, Bool.false_eq_true, if_false, if_pos g.1, if_pos g.2]
      rw [e, Int.toNat_natCast]
      exact (EvB hP).2 EvN
    · have hIn : spec_l01In.f n 0 ((contentM l a).1.length : Int) = some false := by
        unfold spec_l01In.f
        by_cases g1 : 0 ≤ n
        · rw [if_pos g1, decide_eq_false (fun g2 => g ⟨g1, g2⟩)]
        · rw [if_neg g1]
      simp only [hIn, Option.bind_some, Bool.not_false, if_neg g]
      refine EvS ?_
      simp only [spec_CutFile.j0, if_true]
      exact (EvB hc).2 EvN
  · simp only [if_neg h]
    refine EvS ?_
    simp only [spec_CutFile.j0, if_true]
    exact (EvB hc).2 EvN
theorem impl_cut (l : List S74) (a : ByteArray) (n : Int) (hl : l.length ≤ 1048576) (hw : wfD l) : Ev (fun k => impl_cutFile.f k l a n) (cutM l a n) := by
  have hc := copyI l (by omega) (wfD_le' hw)
  have hf : impl_fileOf.f l a = some (idxF (isN a) l 0) := by unfold impl_fileOf.f; rw [if_pos (by omega)]; rfl
  unfold impl_cutFile.f cutM
  simp only [EvB hc, hf, Option.bind_some, EvB (impl_disk l hl hw)]
  by_cases h : (contentM l a).2 = true
  · obtain ⟨h1, h2, h3⟩ := content_ok h
    obtain ⟨m, x, e, hx, hn, hm⟩ := idx_at l a h2
    have hil : idxF (isN a) l 0 < (l.length : Int) := by omega
    simp only [if_pos h1, if_neg h2, if_pos hil, content_at l hw _ (by omega) hil, Option.bind_some, if_pos h, h3]
    by_cases g1 : n < 0
    · simp only [if_pos g1, if_neg (show ¬ (0 ≤ n ∧ n ≤ (((rd_T74 l (idxF (isN a) l 0)).f1 ++ (rd_T74 l (idxF (isN a) l 0)).f2).length : Int)) by omega)]; exact EvN
    · by_cases g2 : n > (((rd_T74 l (idxF (isN a) l 0)).f1 ++ (rd_T74 l (idxF (isN a) l 0)).f2).length : Int)
      · simp only [if_neg g1, if_pos g2, if_neg (show ¬ (0 ≤ n ∧ n ≤ (((rd_T74 l (idxF (isN a) l 0)).f1 ++ (rd_T74 l (idxF (isN a) l 0)).f2).length : Int)) by omega)]; exact EvN
      · simp only [if_neg g1, if_neg g2, if_pos (show 0 ≤ n ∧ n ≤ (((rd_T74 l (idxF (isN a) l 0)).f1 ++ (rd_T74 l (idxF (isN a) l 0)).f2).length : Int) by omega)]; exact EvN
  · simp only [if_neg h]
    by_cases h1 : diskM l = true
    · simp only [if_pos h1, if_pos (content_no h h1)]; exact EvN
    · simp only [if_neg h1]; exact EvN
theorem impl_cut' (l : List S74) (a : ByteArray) (n : Int) (hl : l.length ≤ 1048576) (hw : wfD l) : Ev (fun k => impl_CutFile.f k l a n) (cutM l a n) := impl_cut l a n hl hw
end Go.Proofs.YtmgeffgcihfpcaaDoor.DK

namespace Go.Proofs.YtmgeffgcihfpcaaDoor.BY
set_option linter.unusedVariables false
set_option linter.unusedSimpArgs false
open Go.RowKit Go.Proofs.YtmgeffgcihfpcaaDoor.F Go.Proofs.YtmgeffgcihfpcaaDoor.PK Go.Proofs.YtmgeffgcihfpcaaDoorW.PrintWords Go.Proofs.YtmgeffgcihfpcaaDoorW.PrintLast
theorem markByteS (l : List Int) (hl : l.length ≤ 9000000000000000000) (a : Int) (ha : 0 ≤ a) (hla : a + l.length ≤ 9223372036854775807) : ∃ (m : Int) (l' : List Int), Ev (fun k => laws_markByteS.f k l a) (m, l') ∧ m = a + l.length ∧ l'.length = l.length ∧ Ev (fun k => laws_heldByteS.f k l' a) m := by
  have key : ∀ (d i : Nat), d + i = l.length → ∀ (x : List Int) (b : Int), x.length = l.length → b = a + i → ∃ l', Ev (fun k => laws_markByteS.l0 k x b i) (a + l.length, l') ∧ l'.length = l.length ∧ (∀ j, j < i → l'[j]? = x[j]?) ∧ Ev (fun k => laws_heldByteS.l0 k l' b i) (a + l.length) := by
    intro d
    induction d with
    | zero =>
      intro i hi x b hx hb
      have hi : i = l.length := by omega
      subst hi
      subst hb
      exact ⟨x, EvS (by simp only [laws_markByteS.l0, hx, Int.lt_irrefl, if_false]; exact EvN), hx, fun _ _ => rfl, EvS (by simp only [laws_heldByteS.l0, hx, Int.lt_irrefl, if_false]; exact EvN)⟩
    | succ d ih =>
      intro i hi x b hx hb
      have hw : wrap64 (b + 1) = b + 1 := w64 (by omega) (by omega)
      obtain ⟨l', h1, h2, h3, h4⟩ := ih (i + 1) (by omega) (x.set i (b % 256)) (b + 1) (by simpa using hx) (by omega)
      have hli : i < l'.length := by omega
      have he : l'[i] = b % 256 := by
        have := h3 i (by omega)
        rw [List.getElem?_set_self (by omega), List.getElem?_eq_getElem hli] at this
        exact Option.some.inj this
      refine ⟨l', EvS ?_, h2, fun j hj => ?_, EvS ?_⟩
      · simp only [laws_markByteS.l0, if_pos (show (i : Int) < (x.length : Int) by omega), if_pos (show 0 ≤ (i : Int) by omega), hw, Int.toNat_natCast, nxt i l.length (by omega) (by omega)]
        exact h1
      · rw [h3 j (by omega), List.getElem?_set_ne (by omega)]
      · simp only [laws_heldByteS.l0, if_pos (show (i : Int) < (l'.length : Int) by omega), if_pos (show 0 ≤ (i : Int) by omega), hw, rd_at l' i hli, he, if_true, nxt i l.length (by omega) (by omega)]
        exact h4
  obtain ⟨l', h1, h2, _, h4⟩ := key l.length 0 (by omega) l a rfl (by omega)
  exact ⟨_, l', h1, rfl, h2, h4⟩
end Go.Proofs.YtmgeffgcihfpcaaDoor.BY

namespace Go.Proofs.YtmgeffgcihfpcaaDoor.MT
set_option linter.unusedVariables false
set_option linter.unusedSimpArgs false
open Go.RowKit Go.Proofs.YtmgeffgcihfpcaaDoor.F Go.Proofs.YtmgeffgcihfpcaaDoor.PK Go.Proofs.YtmgeffgcihfpcaaDoorW.PrintWords Go.Proofs.YtmgeffgcihfpcaaDoorW.PrintLast
theorem strOf1 (x : Int) : (strOfNums [x]).size = 1 := rfl
theorem markText (x : Int) (h : x ≤ 9223372036854775807) : ∃ s, Ev (fun k => laws_markText.f k x) s := by
  have key : ∀ (d : Nat) (x : Int) (s : ByteArray), x < 10 ^ d → s.size + d ≤ 30 → ∃ r, Ev (fun k => laws_markText.l0 k x s) r := by
    intro d
    induction d with
    | zero =>
      intro x s hx hs
      have hS : (1 + s.size ≤ 9223372036854775807) = True := eq_true (by omega)
      refine ⟨(⟨#[109]⟩ : ByteArray) ++ s, EvS ?_⟩
      simp only [laws_markText.l0, if_neg (show ¬ x > 0 by simp at hx; omega), hS, if_true]
      exact EvN
    | succ d ih =>
      intro x s hx hs
      have hS : (1 + s.size ≤ 9223372036854775807) = True := eq_true (by omega)
      by_cases h0 : x > 0
      · have h10 : (10 : Int) ^ (d + 1) = 10 * 10 ^ d := by rw [Int.pow_succ, Int.mul_comm]
        have hq : Int.tdiv x 10 = x / 10 := Int.tdiv_eq_ediv_of_nonneg (by omega)
        obtain ⟨r, hr⟩ := ih (wrap64 (x / 10)) (strOfNums [(wrap64 (48 + (Int.tmod x 10))) % 256] ++ s) (by unfold wrap64; omega) (by rw [ByteArray.size_append, strOf1]; omega)
        refine ⟨r, EvS ?_⟩
        simp only [laws_markText.l0, if_pos h0, Option.bind_some, strOf1, hS, if_true, hq]
        exact hr
      · refine ⟨(⟨#[109]⟩ : ByteArray) ++ s, EvS ?_⟩
        simp only [laws_markText.l0, if_neg h0, hS, if_true]
        exact EvN
  by_cases h0 : x ≤ 0
  · exact ⟨⟨#[109, 48]⟩, by unfold laws_markText.f; simp only [if_pos h0]; exact EvN⟩
  · have h19 : (10 : Int) ^ 19 = 10000000000000000000 := by decide
    obtain ⟨r, hr⟩ := key 19 x ⟨#[]⟩ (by omega) (show 0 + 19 ≤ 30 by omega)
    exact ⟨r, by unfold laws_markText.f; simp only [if_neg h0]; exact hr⟩
end Go.Proofs.YtmgeffgcihfpcaaDoor.MT

namespace Go.Proofs.YtmgeffgcihfpcaaDoor.DK
set_option linter.unusedVariables false
set_option linter.unusedSimpArgs false
open Go.RowKit Go.Proofs.YtmgeffgcihfpcaaDoor.F Go.Proofs.YtmgeffgcihfpcaaDoor.PK Go.Proofs.YtmgeffgcihfpcaaDoorW.PrintWords Go.Proofs.YtmgeffgcihfpcaaDoorW.PrintLast Go.Proofs.YtmgeffgcihfpcaaDoorW.PrintMore
open Go.Proofs.YtmgeffgcihfpcaaDoor.BY (markByteS)
open Go.Proofs.YtmgeffgcihfpcaaDoor.MT (markText)
theorem markFS (B : Nat) (hB : B ≤ 3000000) : ∀ (d i : Nat) (x : List S74) (a : Int), d + i = x.length → x.length ≤ 3000000 → (∀ y ∈ x, 1 + y.f1.length + y.f2.length ≤ B) → 0 ≤ a → a + d * B ≤ 3900000000000000 →
    ∃ (m : Int) (x' : List S74), Ev (fun k => laws_markFileS.l0 k x a i) (m, x') ∧ a ≤ m ∧ m ≤ a + d * B ∧ x'.length = x.length ∧ (∀ j, j < i → x'[j]? = x[j]?) ∧ Ev (fun k => laws_heldFileS.l0 k x' a i) m := by
  intro d
  induction d with
  | zero =>
    intro i x a hi hx hy h0 h1
    have hi : i = x.length := by omega
    subst hi
    exact ⟨a, x, EvS (by simp only [laws_markFileS.l0, Int.lt_irrefl, if_false]; exact EvN), Int.le_refl _, by omega, rfl, fun _ _ => rfl, EvS (by simp only [laws_heldFileS.l0, Int.lt_irrefl, if_false]; exact EvN)⟩
  | succ d ih =>
    intro i x a hi hx hy h0 h1
    have hix : i < x.length := by omega
    have hyi := hy _ (List.getElem_mem hix)
    have hq : ((d + 1 : Nat) : Int) * (B : Int) = (d : Int) * (B : Int) + (B : Int) := by rw [Int.natCast_succ, Int.add_mul, Int.one_mul]
    have hdn : (0 : Int) ≤ (d : Int) * (B : Int) := Int.mul_nonneg (by omega) (by omega)
    rw [hq] at h1
    have hw : wrap64 (a + 1) = a + 1 := w64 (by omega) (by omega)
    obtain ⟨s, hs⟩ := markText a (by omega)
    obtain ⟨b, n', a1, a2, a3, a4⟩ := markByteS x[i].f1 (by omega) (a + 1) (by omega) (by omega)
    obtain ⟨c, w', b1, b2, b3, b4⟩ := markByteS x[i].f2 (by omega) b (by omega) (by omega)
    obtain ⟨m, x', f1, f2, f3, f4, f5, f6⟩ := ih (i + 1) (x.set i ⟨s, n', w'⟩) c (by simp; omega) (by simpa using hx) (fun y hmem => by
      rcases List.mem_or_eq_of_mem_set hmem with h | rfl
      · exact hy y h
      · simp only [a3, b3]; exact hyi) (by omega) (by omega)
    have hli : i < x'.length := by rw [f4]; simpa using hix
    have he : x'[i] = ⟨s, n', w'⟩ := by
      have := f5 i (by omega)
      rw [List.getElem?_set_self hix, List.getElem?_eq_getElem hli] at this
      exact Option.some.inj this
    refine ⟨m, x', EvS ?_, by omega, by rw [hq]; omega, by simpa using f4, fun j hj => ?_, EvS ?_⟩
    · simp only [laws_markFileS.l0, if_pos (show (i : Int) < (x.length : Int) by omega), if_pos (show 0 ≤ (i : Int) by omega), EvB hs, rd74 x i hix, hw, EvB a1, EvB b1, Int.toNat_natCast, nxt i x.length hix (by omega)]
      exact f1
    · rw [f5 j (by omega), List.getElem?_set_ne (by omega)]
    · simp only [laws_heldFileS.l0, if_pos (show (i : Int) < (x'.length : Int) by omega), if_pos (show 0 ≤ (i : Int) by omega), EvB hs, rd74 x' i hli, he, if_true, hw, EvB a4, EvB b4, if_neg (show ¬ b < 0 by omega), if_neg (show ¬ c < 0 by omega), nxt i x'.length hli (by rw [f4]; simp; omega)]
      exact f6
theorem markDisk (B : Nat) (x : List S74) (hB : B ≤ 3000000) (hx : x.length ≤ 3000000) (hs : 1 + (x.length : Int) * B ≤ 3900000000000000) (hy : ∀ y ∈ x, 1 + y.f1.length + y.f2.length ≤ B) : ∃ (m : Int) (x' : List S74), Ev (fun k => laws_markDisk.f k x 1) (m, x') ∧ 1 ≤ m ∧ Ev (fun k => laws_heldDisk.f k x' 1) m := by
  obtain ⟨m, x', h1, h2, _, _, _, h3⟩ := markFS B hB x.length 0 x 1 rfl hx hy (by omega) hs
  refine ⟨m, x', h1, h2, ?_⟩
  have h3 : Ev (fun k => laws_heldFileS.f k x' 1) m := h3
  unfold laws_heldDisk.f
  simp only [EvB h3, if_neg (show ¬ m < 0 by omega)]
  exact EvN
end Go.Proofs.YtmgeffgcihfpcaaDoor.DK

namespace Go.Proofs.YtmgeffgcihfpcaaDoor.Pure
set_option linter.unusedVariables false
set_option linter.unusedSimpArgs false
open Go.RowKit Go.Proofs.YtmgeffgcihfpcaaDoor.F Go.Proofs.YtmgeffgcihfpcaaDoor.PK Go.Proofs.YtmgeffgcihfpcaaDoorW.PrintWords Go.Proofs.YtmgeffgcihfpcaaDoorW.PrintLast
open Go.Proofs.YtmgeffgcihfpcaaDoor.DK Go.Proofs.YtmgeffgcihfpcaaDoor.BY
theorem FnExactCutFile (l0_0 : List (S101)) (a1 : ByteArray) (a2 : Int) (hw0 : l0_0.length ≤ 9223372036854775807 ∧ ∀ y_ ∈ l0_0, ((y_.f0.size ≤ 9223372036854775807) ∧ (y_.f1.length ≤ 9223372036854775807 ∧ ∀ z_ ∈ y_.f1, ((Lit.int .u8 z_).wf = true)) ∧ (y_.f2.length ≤ 9223372036854775807 ∧ ∀ z_ ∈ y_.f2, ((Lit.int .u8 z_).wf = true)))) (hw1 : a1.size ≤ 9223372036854775807) (hw2 : (Lit.int .i64 a2).wf = true) : ∃ k, laws_FnExactCutFile.f k l0_0 a1 a2 = some true := by
  refine EvE ?_
  unfold laws_FnExactCutFile.f
  by_cases h0 : (a1.size : Int) > 1048576
  · simp only [if_pos h0]; exact EvN
  obtain ⟨t, h1, h3⟩ := szDisk l0_0 hw0.1 (fun y hy => ⟨(hw0.2 y hy).1, (hw0.2 y hy).2.1.1, (hw0.2 y hy).2.2.1⟩)
  simp only [if_neg h0, EvB h1]
  by_cases h : t < 0
  · simp only [if_pos h]; exact EvN
  have h3 := h3 (by omega)
  have hT := toDisk l0_0 h3.1 h3.2
  have hw : wfD (l0_0.map conv101) := fun r hr => by
    obtain ⟨y, hy, rfl⟩ := List.mem_map.1 hr
    exact ⟨(hw0.2 y hy).1, h3.2 y hy⟩
  have hl : (l0_0.map conv101).length ≤ 1048576 := by rw [List.length_map]; exact h3.1
  generalize l0_0.map conv101 = l at hT hw hl
  have hS := spec_cut l a1 a2 hl hw
  have hI := impl_cut' l a1 a2 hl hw
  have hc := cut_le l a1 a2 hw
  generalize cutM l a1 a2 = r at hS hI hc
  obtain ⟨b, q⟩ := r
  simp only at hc
  have hwb : ∀ y ∈ b, y.f1.length + y.f2.length ≤ 2097152 := hc.2
  have hE := eqDisk l (by omega) (fun y hy => by have := hw y hy; omega)
  have hQ := eqDisk b (by omega) (fun y hy => by have := hwb y hy; omega)
  have hm : (l.length : Int) * ((2097153 : Nat) : Int) ≤ 1048576 * 2097153 := Int.mul_le_mul (by omega) (by omega) (by omega) (by omega)
  have hm2 : (b.length : Int) * ((2097153 : Nat) : Int) ≤ 1048576 * 2097153 := Int.mul_le_mul (by omega) (by omega) (by omega) (by omega)
  obtain ⟨m, l', m1, m2, _⟩ := markDisk 2097153 l (by omega) (by omega) (by omega) (fun y hy => by have := hw y hy; omega)
  obtain ⟨n, b', q1, q2, q3⟩ := markDisk 2097153 b (by omega) (by omega) (by omega) (fun y hy => by have := hwb y hy; omega)
  simp only [if_neg h, EvB hT, EvB hS, EvB hI, EvB hQ, if_true, EvB hE, EvB m1, if_neg (show ¬ m < 0 by omega), EvB q1, EvB q3, if_neg (show ¬ n < 0 by omega)]
  exact EvN
end Go.Proofs.YtmgeffgcihfpcaaDoor.Pure

namespace Go.Proofs.YtmgeffgcihfpcaaDoor.Opens
set_option linter.unusedVariables false
set_option linter.unusedSimpArgs false
open Go.RowKit Go.Proofs.YtmgeffgcihfpcaaDoorW.PrintWords
def Opens (P : Program) (t : TypeId) {α : Type} (d : Kd α) (ok : α → Prop) : Prop :=
  P.cellsOf t = d.sz ∧ ∀ (H : Type) (enc : TypeId × Value → H) (w : World) (spare : Nat → Bool) (fuel : Nat) (cs : List Value) (x : DataW H × List MemPlace), DataW.trod enc P w 0 spare true fuel t cs = some x → ∃ a : α, d.K w a cs ∧ ok a
variable {P : Program}
theorem opens_int {t : TypeId} {k : IntKind} (ht : P.underlying t = some (.int k)) (hc : P.cellsOf t = 1) : Opens P t (Kd.int k) (fun a => (Lit.int k a).wf = true) :=
  ⟨hc, fun _ _ _ _ _ _ _ h => by
    obtain ⟨n, rfl, _, hw⟩ := DataW.trod_int ht h
    exact ⟨n, rfl, hw⟩⟩
theorem opens_string {t : TypeId} (ht : P.underlying t = some .string) (hc : P.cellsOf t = 1) : Opens P t Kd.string (fun a => a.size ≤ 9223372036854775807) :=
  ⟨hc, fun _ _ _ _ _ _ _ h => by
    obtain ⟨n, rfl, _, hw⟩ := DataW.trod_string ht h
    exact ⟨n, rfl, hw⟩⟩
theorem add_add (a : Addr) (i j : Nat) : (a.add i).add j = a.add (i + j) := by
  unfold Addr.add
  by_cases hi : i = 0 <;> by_cases hj : j = 0 <;> simp [hi, hj, Nat.add_assoc]
theorem opens_slice {t e : TypeId} {α : Type} {d : Kd α} {ok : α → Prop} (ht : P.underlying t = some (.slice e)) (hc : P.cellsOf t = 1) (hd : Opens P e d ok) :
    Opens P t (Kd.slice e d) (fun l => l.length ≤ 9223372036854775807 ∧ ∀ a ∈ l, ok a) :=
  ⟨hc, fun H enc w spare fuel cs x h => by
    rcases Deep.open_slice ht h with ⟨rfl, _⟩ | ⟨a, len, cap, m, n, D, Pl, rfl, _, hl, hm, hmm, hxx, hx⟩
    · exact ⟨[], ⟨none, 0, rfl, Nat.le_refl _, rfl, Nat.zero_le _, fun h => absurd h (Nat.lt_irrefl _)⟩, Nat.zero_le _, fun _ h => nomatch h⟩
    · have hlm : len ≤ m := by rw [hmm]; split <;> omega
      have hex : ∀ i, i < len → ∃ b : α, ∃ cs', w.cells? 0 (a.add (i * P.cellsOf e)) (P.cellsOf e) = some cs' ∧ d.K w b cs' ∧ ok b := fun i hi => by
        obtain ⟨cs', h1, h2⟩ := hx i (Nat.lt_of_lt_of_le hi hlm)
        obtain ⟨b, hb⟩ := hd.2 H enc w spare n cs' _ h2
        exact ⟨b, cs', h1, hb.1, hb.2⟩
      have hml : len ≤ 9223372036854775807 := by unfold maxLen at hm; omega
      obtain ⟨l, hll, hat⟩ : ∃ l : List α, l.length = len ∧ ∀ i p, l[i]? = some p → ∃ cs', w.cells? 0 (a.add (i * P.cellsOf e)) (P.cellsOf e) = some cs' ∧ d.K w p cs' ∧ ok p := by
        clear hx hlm hmm hl hm hml hxx h
        induction len with
        | zero => exact ⟨[], rfl, fun i p h => by simp at h⟩
        | succ len ih =>
          obtain ⟨l, hll, hat⟩ := ih (fun i hi => hex i (Nat.lt_succ_of_lt hi))
          obtain ⟨b, hb⟩ := hex len (Nat.lt_succ_self _)
          refine ⟨l ++ [b], by simp [hll], fun i p h => ?_⟩
          rcases Nat.lt_or_ge i l.length with hi | hi
          · rw [List.getElem?_append_left hi] at h
            exact hat i p h
          · rw [List.getElem?_append_right hi] at h
            have hi0 : i - l.length = 0 := by
              rcases Nat.eq_zero_or_pos (i - l.length) with h0 | h0
              · exact h0
              · rw [List.getElem?_eq_none (by simp; omega)] at h
                cases h
            rw [hi0] at h
            have : b = p := by simpa using h
            subst this
            have : i = len := by omega
            subst this
            exact hb
      subst hll
      refine ⟨l, ⟨some a, cap, rfl, hl, rfl, hml, fun _ => ⟨a, rfl, fun j p hj => ?_⟩⟩, hml, fun b hb => ?_⟩
      · obtain ⟨cs', h1, hk, _⟩ := hat j p hj
        obtain ⟨_, hlen, hcell⟩ := World.cells?_some h1
        refine ⟨cs', hlen.trans hd.1, hk, fun i u hu => ?_⟩
        have hi : i < P.cellsOf e := by
          have := (List.getElem?_eq_some_iff.1 hu).1
          omega
        have := hcell i hi
        rw [hu, add_add, hd.1] at this
        exact this
      · obtain ⟨i, hi⟩ := List.getElem?_of_mem hb
        obtain ⟨_, _, _, hok⟩ := hat i b hi
        exact hok⟩
def OpensF (P : Program) (fs : List Field) (off : Nat) {α : Type} (d : Kd α) (ok : α → Prop) : Prop :=
  ∀ (H : Type) (enc : TypeId × Value → H) (w : World) (spare : Nat → Bool) (n : Nat) (cs : List Value), (∀ f, f ∈ fs → ∃ y, DataW.trod enc P w 0 spare true n f.type ((cs.drop f.offset).take (P.cellsOf f.type)) = some y) → cs.length = off + d.sz → ∃ a : α, d.K w a (cs.drop off) ∧ ok a
theorem opens_last {f : Field} {off : Nat} {α : Type} {d : Kd α} {ok : α → Prop} (ho : f.offset = off) (hd : Opens P f.type d ok) : OpensF P [f] off d ok := fun H enc w spare n cs hf hl => by
  obtain ⟨y, hy⟩ := hf f (List.mem_singleton.2 rfl)
  rw [ho, List.take_of_length_le (by rw [List.length_drop, hl, hd.1]; omega)] at hy
  exact hd.2 H enc w spare n _ y hy
theorem opens_field {f : Field} {fs : List Field} {off : Nat} {α β : Type} {d : Kd α} {d' : Kd β} {ok : α → Prop} {ok' : β → Prop} (ho : f.offset = off) (hd : Opens P f.type d ok) (hr : OpensF P fs (off + d.sz) d' ok') :
    OpensF P (f :: fs) off (Kd.pair d d') (fun p => ok p.1 ∧ ok' p.2) := fun H enc w spare n cs hf hl => by
  obtain ⟨y, hy⟩ := hf f (List.mem_cons_self ..)
  have hz : (Kd.pair d d').sz = d.sz + d'.sz := rfl
  rw [ho, hd.1] at hy
  obtain ⟨a, ha, hoa⟩ := hd.2 H enc w spare n _ y hy
  obtain ⟨b, hb, hob⟩ := hr H enc w spare n cs (fun g hg => hf g (List.mem_cons_of_mem _ hg)) (by omega)
  refine ⟨(a, b), ⟨(cs.drop off).take d.sz, cs.drop (off + d.sz), ?_, ha, hb⟩, hoa, hob⟩
  rw [← List.drop_drop, List.take_append_drop]
theorem opens_struct {t : TypeId} {fs : Array Field} {α : Type} {d : Kd α} {ok : α → Prop} (ht : P.underlying t = some (.struct fs)) (hc : P.cellsOf t = d.sz) (hf : OpensF P fs.toList 0 d ok) : Opens P t d ok :=
  ⟨hc, fun H enc w spare fuel cs x h => by
    obtain ⟨xs, n, _, _, hlen, hxs, hi⟩ := DataW.trod_struct ht h
    have := hf H enc w spare n cs (fun f hm => by
      obtain ⟨i, hi'⟩ := List.getElem?_of_mem hm
      have hq := hi i f (by simpa using hi')
      have hlt : i < xs.length := by
        have := (List.getElem?_eq_some_iff.1 hi').1
        rw [hxs]
        simpa using this
      rw [List.getElem?_eq_getElem hlt] at hq
      exact ⟨_, hq⟩) (by omega)
    simpa using this⟩
theorem opens_iso {t : TypeId} {α β : Type} {d : Kd α} {ok : α → Prop} (f : β → α) (g : α → β) (hfg : ∀ a, f (g a) = a) (h : Opens P t d ok) : Opens P t (Kd.iso d f) (fun b => ok (f b)) :=
  ⟨h.1, fun H enc w spare fuel cs x hx => by
    obtain ⟨a, ha, hok⟩ := h.2 H enc w spare fuel cs x hx
    exact ⟨g a, by show d.K w (f (g a)) cs; rw [hfg]; exact ha, by show ok (f (g a)); rw [hfg]; exact hok⟩⟩
end Go.Proofs.YtmgeffgcihfpcaaDoor.Opens
