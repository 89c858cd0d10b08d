/- Merged texts below the law FnCrash: Go functions as Lean functions, their contracts, and plain lemmas. -/
import Derived.Test.YtmgeffgcihfpcaaDoorQFnCrash23
import Derived.Test.YtmgeffgcihfpcaaDoorQFnCrash25
import Derived.Test.YtmgeffgcihfpcaaDoorQFnCrash13
import Derived.Test.YtmgeffgcihfpcaaDoorQFnCrash28
import Derived.BigQuiet
import Derived.Test.YtmgeffgcihfpcaaDoorVFnCrashMore
import Derived.Test.YtmgeffgcihfpcaaDoorQFnCrash26
import Derived.Test.YtmgeffgcihfpcaaDoorVFnCrashOT
import Derived.Laws.BitsAllLaws
namespace Go.Proofs.YtmgeffgcihfpcaaDoor.F
open Go.RowKit Go.Proofs.YtmgeffgcihfpcaaDoorW.PrintWords Go.Proofs.YtmgeffgcihfpcaaDoorW.PrintWords.Kd Go.Proofs.YtmgeffgcihfpcaaDoorW.PrintMore.Kd Go.Proofs.YtmgeffgcihfpcaaDoorW.PrintLast Go.Proofs.YtmgeffgcihfpcaaDoorW.PrintMore
attribute [local go_sem] max2_int min2_int max_two min_two max_three min_three max_four min_four   -- for this text's walks alone
set_option linter.unusedVariables false
set_option linter.unusedSimpArgs false
def impl_DiskOk.f (k : Nat) (l0_0 : List (S74)) : Option (Bool) := (impl_isDisk.f k l0_0).bind fun t144 => (some t144)
set_option maxHeartbeats 8000000 in
set_option maxRecDepth 100000 in
theorem impl_DiskOk.calls (k : Nat) (A0_0 : Option Addr) (c0_0 : Nat) (l0_0 : List (S74)) (r : Bool) (w : World) (hr0_0 : Kd.C k74 w A0_0 l0_0.length l0_0) (hc0_0 : l0_0.length ≤ c0_0) (h : impl_DiskOk.f k l0_0 = some r) :
  Calls Tryd.prog 17 #[.agg #[.slice A0_0 l0_0.length c0_0]] w fun e w' => e = .returned (.bool r) ∧ Below w.heap.size w w' := by
 have hu29 := Tryd.underlying29
 have HR0_0 := Zh hr0_0
 have HC0_0 := Zh hc0_0
 clear hr0_0 hc0_0
 have HB := Zh (Below.refl w.heap.size w)
 have H : ((impl_isDisk.f k l0_0).bind fun t144 => (some t144)) = some r := h
 clear h
 replace H := Option.bind_eq_some_iff.mp H
 obtain ⟨t144, A20, H⟩ := H
 replace H : (some t144) = some r := H
 have A2 := Zh A20
 clear A20
 obtain rfl := Option.some.inj H
 go_enter Tryd.func17, Tryd.ntmps17
 go_wp2_with (first | ((with_reducible refine gate_dst (N := 1) rfl ?_); refine box_event ?hg (N := 1) ?hd (cs := #[.slice A0_0 l0_0.length c0_0]) (t := 29) ?hr ?_; (case hd => rfl); (case hg => rfl); (case hr => first | (go_simp; done) | (go_simp; rfl)); intro gb143 hg w3 hbox hb; have BK143 := Zh (hbox); have GW143 := Zh ((by rw [hg]; exact (below_size Zs) : w.heap.size ≤ gb143)); have GE143 := Zh ((by rw [hg]; exact (below_size Zs) : w.heap.size ≤ gb143)); replace HB := Zh (Zl Zs hb); clear hb hbox hg; have hcz4_0 : w3.cell? ⟨gb143, 0, none⟩ = some (.slice A0_0 l0_0.length c0_0) := (blk_cell BK143.out 0).trans rfl; have hfz4_0 := Zn BK143.out 0) | ((with_reducible refine gate_callee (f := 59) rfl ?_); refine ZG (some 4) Tryd.func59 #[.agg #[.slice A0_0 l0_0.length c0_0]] rfl ?_; (with_reducible refine (impl_isDisk.calls k _ _ l0_0 t144 _ ?side1 ?side2 A2.out).mono ?_); (case side1 => repeat (first | exact (C_below HR0_0.out HB.out) | (with_reducible refine C_alloc ?_ _) | (with_reducible refine C_drewN ?_ _) | (with_reducible refine C_drew ?_))); (case side2 => exact HC0_0.out); rintro e w5 ⟨rfl, hb⟩; refine ⟨_, rfl, ?_⟩; replace BK143 := Zh (Zm (g := gb143) (o := .cells #[.slice A0_0 l0_0.length c0_0] 29 (0, 0)) Zk hb); replace HB := Zh (Zl Zs hb); (try clear hb); (try clear hb2); (try clear hk); (try clear hi)))
 go_ret
 exact ⟨ZE, Zs⟩
def impl_Content.f (k : Nat) (l0_0 : List (S74)) (a1 : ByteArray) : Option (List Int × Bool) := (impl_fileOf.f l0_0 a1).bind fun t207 => ((impl_isDisk.f k l0_0).bind fun t208 => (if t208 = true then (if t207 < 0 then (some (([] : List Int), false)) else (if 0 ≤ t207 then (if t207 < (l0_0.length : Int) then ((impl_File_content.f ((rd_T74 l0_0 t207).f0) ((rd_T74 l0_0 t207).f1) ((rd_T74 l0_0 t207).f2)).bind fun t210 => (some (t210, true))) else (none)) else (none))) else (some (([] : List Int), false))))
set_option maxHeartbeats 8000000 in
set_option maxRecDepth 100000 in
theorem impl_Content.calls (k : Nat) (A0_0 : Option Addr) (c0_0 : Nat) (l0_0 : List (S74)) (a1 : ByteArray) (r1 : List Int) (r2 : Bool) (w : World) (hr0_0 : Kd.C k74 w A0_0 l0_0.length l0_0) (hc0_0 : l0_0.length ≤ c0_0) (h : impl_Content.f k l0_0 a1 = some (r1, r2)) :
  Calls Tryd.prog 20 #[.agg #[.slice A0_0 l0_0.length c0_0], .string a1] w fun e w' => ∃ v0_ : Value, e = .returned (.tuple #[v0_, .bool r2]) ∧ Kd.R (Kd.int .u8) 5 w' w.heap.size (fun _ => True) v0_ r1 ∧ Below w.heap.size w w' := by
 have hu29 := Tryd.underlying29
 have hu74 := Tryd.underlying74
 have HR0_0 := Zh hr0_0
 have HC0_0 := Zh hc0_0
 clear hr0_0 hc0_0
 have HB := Zh (Below.refl w.heap.size w)
 have H : ((impl_fileOf.f l0_0 a1).bind fun t207 => ((impl_isDisk.f k l0_0).bind fun t208 => (if t208 = true then (if t207 < 0 then (some (([] : List Int), false)) else (if 0 ≤ t207 then (if t207 < (l0_0.length : Int) then ((impl_File_content.f ((rd_T74 l0_0 t207).f0) ((rd_T74 l0_0 t207).f1) ((rd_T74 l0_0 t207).f2)).bind fun t210 => (some (t210, true))) else (none)) else (none))) else (some (([] : List Int), false))))) = some (r1, r2) := h
 clear h
 replace H := Option.bind_eq_some_iff.mp H
 obtain ⟨t207, A30, H⟩ := H
 replace H : ((impl_isDisk.f k l0_0).bind fun t208 => (if t208 = true then (if t207 < 0 then (some (([] : List Int), false)) else (if 0 ≤ t207 then (if t207 < (l0_0.length : Int) then ((impl_File_content.f ((rd_T74 l0_0 t207).f0) ((rd_T74 l0_0 t207).f1) ((rd_T74 l0_0 t207).f2)).bind fun t210 => (some (t210, true))) else (none)) else (none))) else (some (([] : List Int), false)))) = some (r1, r2) := H
 have A3 := Zh A30
 clear A30
 replace H := Option.bind_eq_some_iff.mp H
 obtain ⟨t208, A40, H⟩ := H
 replace H : (if t208 = true then (if t207 < 0 then (some (([] : List Int), false)) else (if 0 ≤ t207 then (if t207 < (l0_0.length : Int) then ((impl_File_content.f ((rd_T74 l0_0 t207).f0) ((rd_T74 l0_0 t207).f1) ((rd_T74 l0_0 t207).f2)).bind fun t210 => (some (t210, true))) else (none)) else (none))) else (some (([] : List Int), false))) = some (r1, r2) := H
 have A4 := Zh A40
 clear A40
 by_cases c5 : t208 = true
 ·
  subst c5
  have H1 : (if t207 < 0 then (some (([] : List Int), false)) else (if 0 ≤ t207 then (if t207 < (l0_0.length : Int) then ((impl_File_content.f ((rd_T74 l0_0 t207).f0) ((rd_T74 l0_0 t207).f1) ((rd_T74 l0_0 t207).f2)).bind fun t210 => (some (t210, true))) else (none)) else (none))) = some (r1, r2) := by rw [if_pos rfl] at H; exact H
  clear H
  have H := H1
  clear H1
  by_cases c6 : t207 < 0
  ·
   rw [if_pos c6] at H
   have c6b0 : decide (t207 < 0) = true := decide_eq_true c6
   clear c6
   simp only [Option.some.injEq, Prod.mk.injEq] at H
   obtain ⟨rfl, rfl⟩ := H
   go_enter Tryd.func20, Tryd.ntmps20
   go_wp2_with (first | ((with_reducible refine gate_dst (N := 2) rfl ?_); refine box_event ?hg (N := 2) ?hd (cs := #[.slice A0_0 l0_0.length c0_0]) (t := 29) ?hr ?_; (case hd => rfl); (case hg => rfl); (case hr => first | (go_simp; done) | (go_simp; rfl)); intro gb206 hg w7 hbox hb; have BK206 := Zh (hbox); have GW206 := Zh ((by rw [hg]; exact (below_size Zs) : w.heap.size ≤ gb206)); have GE206 := Zh ((by rw [hg]; exact (below_size Zs) : w.heap.size ≤ gb206)); replace HB := Zh (Zl Zs hb); clear hb hbox hg; have hcz8_0 : w7.cell? ⟨gb206, 0, none⟩ = some (.slice A0_0 l0_0.length c0_0) := (blk_cell BK206.out 0).trans rfl; have hfz8_0 := Zn BK206.out 0) | ((with_reducible refine gate_callee (f := 63) rfl ?_); refine ZG (some 9) Tryd.func63 #[.agg #[.slice A0_0 l0_0.length c0_0], .string a1] rfl ?_; (with_reducible refine (impl_fileOf.calls _ _ l0_0 a1 t207 _ ?side1 ?side2 A3.out).mono ?_); (case side1 => repeat (first | exact (C_below HR0_0.out HB.out) | (with_reducible refine C_alloc ?_ _) | (with_reducible refine C_drewN ?_ _) | (with_reducible refine C_drew ?_))); (case side2 => exact HC0_0.out); rintro e w9 ⟨rfl, hb⟩; refine ⟨_, rfl, ?_⟩; replace BK206 := Zh (Zm (g := gb206) (o := .cells #[.slice A0_0 l0_0.length c0_0] 29 (0, 0)) Zk hb); replace HB := Zh (Zl Zs hb); (try clear hb); (try clear hb2); (try clear hk); (try clear hi); have hcz10_0 : w9.cell? ⟨gb206, 0, none⟩ = some (.slice A0_0 l0_0.length c0_0) := (blk_cell BK206.out 0).trans rfl; have hfz10_0 := Zn BK206.out 0) | ((with_reducible refine gate_callee (f := 59) rfl ?_); refine ZG (some 11) Tryd.func59 #[.agg #[.slice A0_0 l0_0.length c0_0]] rfl ?_; (with_reducible refine (impl_isDisk.calls k _ _ l0_0 true _ ?side1 ?side2 A4.out).mono ?_); (case side1 => repeat (first | exact (C_below HR0_0.out HB.out) | (with_reducible refine C_alloc ?_ _) | (with_reducible refine C_drewN ?_ _) | (with_reducible refine C_drew ?_))); (case side2 => exact HC0_0.out); rintro e w11 ⟨rfl, hb⟩; refine ⟨_, rfl, ?_⟩; replace BK206 := Zh (Zm (g := gb206) (o := .cells #[.slice A0_0 l0_0.length c0_0] 29 (0, 0)) Zk hb); replace HB := Zh (Zl Zs hb); (try clear hb); (try clear hb2); (try clear hk); (try clear hi)))
   go_ret2
   exact ⟨_, ZE, by first | exact R_nil _ _ _ _ _ | exact N_nil _ _ _ _ _ | exact V_nil _ _ _ _ _ | exact Q_nil _ _ _ _ _ | exact S_nil _ _ _ _ _, Zs⟩
  rw [if_neg c6] at H
  have c6b0 : decide (t207 < 0) = false := decide_eq_false c6
  clear c6
  by_cases c12 : 0 ≤ t207
  ·
   rw [if_pos c12] at H
   have c12b0 : decide (0 ≤ t207) = true := decide_eq_true c12
   clear c12
   by_cases c13 : t207 < (l0_0.length : Int)
   ·
    rw [if_pos c13] at H
    have c13b0 : decide (t207 < (l0_0.length : Int)) = true := decide_eq_true c13
    clear c13
    replace H := Option.bind_eq_some_iff.mp H
    obtain ⟨t210, A140, H⟩ := H
    replace H : (some (t210, true)) = some (r1, r2) := H
    have A14 := Zh A140
    clear A140
    simp only [Option.some.injEq, Prod.mk.injEq] at H
    obtain ⟨rfl, rfl⟩ := H
    go_enter Tryd.func20, Tryd.ntmps20
    go_wp2_with (first | ((with_reducible refine gate_dst (N := 2) rfl ?_); refine box_event ?hg (N := 2) ?hd (cs := #[.slice A0_0 l0_0.length c0_0]) (t := 29) ?hr ?_; (case hd => rfl); (case hg => rfl); (case hr => first | (go_simp; done) | (go_simp; rfl)); intro gb206 hg w15 hbox hb; have BK206 := Zh (hbox); have GW206 := Zh ((by rw [hg]; exact (below_size Zs) : w.heap.size ≤ gb206)); have GE206 := Zh ((by rw [hg]; exact (below_size Zs) : w.heap.size ≤ gb206)); replace HB := Zh (Zl Zs hb); clear hb hbox hg; have hcz16_0 : w15.cell? ⟨gb206, 0, none⟩ = some (.slice A0_0 l0_0.length c0_0) := (blk_cell BK206.out 0).trans rfl; have hfz16_0 := Zn BK206.out 0) | ((with_reducible refine gate_callee (f := 63) rfl ?_); refine ZG (some 9) Tryd.func63 #[.agg #[.slice A0_0 l0_0.length c0_0], .string a1] rfl ?_; (with_reducible refine (impl_fileOf.calls _ _ l0_0 a1 t207 _ ?side1 ?side2 A3.out).mono ?_); (case side1 => repeat (first | exact (C_below HR0_0.out HB.out) | (with_reducible refine C_alloc ?_ _) | (with_reducible refine C_drewN ?_ _) | (with_reducible refine C_drew ?_))); (case side2 => exact HC0_0.out); rintro e w17 ⟨rfl, hb⟩; refine ⟨_, rfl, ?_⟩; replace BK206 := Zh (Zm (g := gb206) (o := .cells #[.slice A0_0 l0_0.length c0_0] 29 (0, 0)) Zk hb); replace HB := Zh (Zl Zs hb); (try clear hb); (try clear hb2); (try clear hk); (try clear hi); have hcz18_0 : w17.cell? ⟨gb206, 0, none⟩ = some (.slice A0_0 l0_0.length c0_0) := (blk_cell BK206.out 0).trans rfl; have hfz18_0 := Zn BK206.out 0) | ((with_reducible refine gate_callee (f := 59) rfl ?_); refine ZG (some 11) Tryd.func59 #[.agg #[.slice A0_0 l0_0.length c0_0]] rfl ?_; (with_reducible refine (impl_isDisk.calls k _ _ l0_0 true _ ?side1 ?side2 A4.out).mono ?_); (case side1 => repeat (first | exact (C_below HR0_0.out HB.out) | (with_reducible refine C_alloc ?_ _) | (with_reducible refine C_drewN ?_ _) | (with_reducible refine C_drew ?_))); (case side2 => exact HC0_0.out); rintro e w19 ⟨rfl, hb⟩; refine ⟨_, rfl, ?_⟩; replace BK206 := Zh (Zm (g := gb206) (o := .cells #[.slice A0_0 l0_0.length c0_0] 29 (0, 0)) Zk hb); replace HB := Zh (Zl Zs hb); (try clear hb); (try clear hb2); (try clear hk); (try clear hi); have hcz20_0 : w19.cell? ⟨gb206, 0, none⟩ = some (.slice A0_0 l0_0.length c0_0) := (blk_cell BK206.out 0).trans rfl; have hfz20_0 := Zn BK206.out 0; have p209 : 0 ≤ (t207 : Int) := Zo; have q209 : t207 < (l0_0.length : Int) := Zo; obtain ⟨ad209, A209_1, c209_1, A209_2, c209_2, e209, hx209_0, hx209_1, hx209_2, hl209_1, hi209_1, hl209_2, hi209_2⟩ := at_T74 HR0_0.out t207 p209 q209; cases e209; replace hx209_0 := Zc HB.out hx209_0; replace hx209_1 := Zc HB.out hx209_1; replace hx209_2 := Zc HB.out hx209_2; have HR209_1 := Zh hi209_1; have HC209_1 := Zh hl209_1; clear hi209_1 hl209_1; have HR209_2 := Zh hi209_2; have HC209_2 := Zh hl209_2; clear hi209_2 hl209_2; replace p209 := eq_true p209; replace q209 := eq_true q209) | ((with_reducible refine gate_callee (f := 64) rfl ?_); refine ZG (some 22) Tryd.func64 #[.agg #[.string ((rd_T74 l0_0 t207).f0), .slice A209_1 ((rd_T74 l0_0 t207).f1).length c209_1, .slice A209_2 ((rd_T74 l0_0 t207).f2).length c209_2]] rfl ?_; (with_reducible refine (impl_File_content.calls ((rd_T74 l0_0 t207).f0) _ _ ((rd_T74 l0_0 t207).f1) _ _ ((rd_T74 l0_0 t207).f2) t210 _ ?side1 ?side2 ?side3 ?side4 A14.out).mono ?_); (case side1 => repeat (first | exact (C_below HR209_1.out HB.out) | (with_reducible refine C_alloc ?_ _) | (with_reducible refine C_drewN ?_ _) | (with_reducible refine C_drew ?_))); (case side2 => exact HC209_1.out); (case side3 => repeat (first | exact (C_below HR209_2.out HB.out) | (with_reducible refine C_alloc ?_ _) | (with_reducible refine C_drewN ?_ _) | (with_reducible refine C_drew ?_))); (case side4 => exact HC209_2.out); rintro e w21 ⟨v211, rfl, ho0, hb⟩; refine ⟨_, rfl, ?_⟩; have HO212 := Zh (R_lower ho0 (below_size Zs)); replace BK206 := Zh (Zm (g := gb206) (o := .cells #[.slice (some ad209) l0_0.length c0_0] 29 (0, 0)) Zk hb); replace HB := Zh (Zl Zs hb); (try clear hb); (try clear hb2); (try clear hk); (try clear hi); (try clear ho0)))
    go_ret2
    exact ⟨_, ZE, ZR HO212.out, Zs⟩
   rw [if_neg c13] at H
   exact absurd H (by simp)
  rw [if_neg c12] at H
  exact absurd H (by simp)
 replace c5 := Bool.eq_false_iff.mpr c5
 subst c5
 have H1 : (some (([] : List Int), false)) = some (r1, r2) := by rw [if_neg (show ¬ (false = true) by decide)] at H; exact H
 clear H
 have H := H1
 clear H1
 simp only [Option.some.injEq, Prod.mk.injEq] at H
 obtain ⟨rfl, rfl⟩ := H
 go_enter Tryd.func20, Tryd.ntmps20
 go_wp2_with (first | ((with_reducible refine gate_dst (N := 2) rfl ?_); refine box_event ?hg (N := 2) ?hd (cs := #[.slice A0_0 l0_0.length c0_0]) (t := 29) ?hr ?_; (case hd => rfl); (case hg => rfl); (case hr => first | (go_simp; done) | (go_simp; rfl)); intro gb206 hg w22 hbox hb; have BK206 := Zh (hbox); have GW206 := Zh ((by rw [hg]; exact (below_size Zs) : w.heap.size ≤ gb206)); have GE206 := Zh ((by rw [hg]; exact (below_size Zs) : w.heap.size ≤ gb206)); replace HB := Zh (Zl Zs hb); clear hb hbox hg; have hcz23_0 : w22.cell? ⟨gb206, 0, none⟩ = some (.slice A0_0 l0_0.length c0_0) := (blk_cell BK206.out 0).trans rfl; have hfz23_0 := Zn BK206.out 0) | ((with_reducible refine gate_callee (f := 63) rfl ?_); refine ZG (some 9) Tryd.func63 #[.agg #[.slice A0_0 l0_0.length c0_0], .string a1] rfl ?_; (with_reducible refine (impl_fileOf.calls _ _ l0_0 a1 t207 _ ?side1 ?side2 A3.out).mono ?_); (case side1 => repeat (first | exact (C_below HR0_0.out HB.out) | (with_reducible refine C_alloc ?_ _) | (with_reducible refine C_drewN ?_ _) | (with_reducible refine C_drew ?_))); (case side2 => exact HC0_0.out); rintro e w24 ⟨rfl, hb⟩; refine ⟨_, rfl, ?_⟩; replace BK206 := Zh (Zm (g := gb206) (o := .cells #[.slice A0_0 l0_0.length c0_0] 29 (0, 0)) Zk hb); replace HB := Zh (Zl Zs hb); (try clear hb); (try clear hb2); (try clear hk); (try clear hi); have hcz25_0 : w24.cell? ⟨gb206, 0, none⟩ = some (.slice A0_0 l0_0.length c0_0) := (blk_cell BK206.out 0).trans rfl; have hfz25_0 := Zn BK206.out 0) | ((with_reducible refine gate_callee (f := 59) rfl ?_); refine ZG (some 11) Tryd.func59 #[.agg #[.slice A0_0 l0_0.length c0_0]] rfl ?_; (with_reducible refine (impl_isDisk.calls k _ _ l0_0 false _ ?side1 ?side2 A4.out).mono ?_); (case side1 => repeat (first | exact (C_below HR0_0.out HB.out) | (with_reducible refine C_alloc ?_ _) | (with_reducible refine C_drewN ?_ _) | (with_reducible refine C_drew ?_))); (case side2 => exact HC0_0.out); rintro e w26 ⟨rfl, hb⟩; refine ⟨_, rfl, ?_⟩; replace BK206 := Zh (Zm (g := gb206) (o := .cells #[.slice A0_0 l0_0.length c0_0] 29 (0, 0)) Zk hb); replace HB := Zh (Zl Zs hb); (try clear hb); (try clear hb2); (try clear hk); (try clear hi)))
 go_ret2
 exact ⟨_, ZE, by first | exact R_nil _ _ _ _ _ | exact N_nil _ _ _ _ _ | exact V_nil _ _ _ _ _ | exact Q_nil _ _ _ _ _ | exact S_nil _ _ _ _ _, Zs⟩
def impl_SyncFile.f (k : Nat) (l0_0 : List (S74)) (a1 : ByteArray) : Option ((List (S74)) × Bool) := (impl_syncFile.f k l0_0 a1).bind fun bt276 => (some (bt276.1, bt276.2))
set_option maxHeartbeats 8000000 in
set_option maxRecDepth 100000 in
theorem impl_SyncFile.calls (k : Nat) (A0_0 : Option Addr) (c0_0 : Nat) (l0_0 : List (S74)) (a1 : ByteArray) (r1 : List (S74)) (r2 : Bool) (w : World) (hr0_0 : Kd.C k74 w A0_0 l0_0.length l0_0) (hc0_0 : l0_0.length ≤ c0_0) (h : impl_SyncFile.f k l0_0 a1 = some (r1, r2)) :
  Calls Tryd.prog 29 #[.agg #[.slice A0_0 l0_0.length c0_0], .string a1] w fun e w' => ∃ v0_ : Value, e = .returned (.tuple #[.agg #[v0_], .bool r2]) ∧ Kd.S k74 74 w' w.heap.size (fun _ => True) v0_ r1 ∧ Below w.heap.size w w' := by
 have hu29 := Tryd.underlying29
 have HR0_0 := Zh hr0_0
 have HC0_0 := Zh hc0_0
 clear hr0_0 hc0_0
 have HB := Zh (Below.refl w.heap.size w)
 have H : ((impl_syncFile.f k l0_0 a1).bind fun bt276 => (some (bt276.1, bt276.2))) = some (r1, r2) := h
 clear h
 replace H := Option.bind_eq_some_iff.mp H
 obtain ⟨⟨t276, t279⟩, A30, H⟩ := H
 replace H : (some (t276, t279)) = some (r1, r2) := H
 have A3 := Zh A30
 clear A30
 simp only [Option.some.injEq, Prod.mk.injEq] at H
 obtain ⟨rfl, rfl⟩ := H
 go_enter Tryd.func29, Tryd.ntmps29
 go_wp2_with (first | ((with_reducible refine gate_dst (N := 2) rfl ?_); refine box_event ?hg (N := 2) ?hd (cs := #[.slice A0_0 l0_0.length c0_0]) (t := 29) ?hr ?_; (case hd => rfl); (case hg => rfl); (case hr => first | (go_simp; done) | (go_simp; rfl)); intro gb274 hg w4 hbox hb; have BK274 := Zh (hbox); have GW274 := Zh ((by rw [hg]; exact (below_size Zs) : w.heap.size ≤ gb274)); have GE274 := Zh ((by rw [hg]; exact (below_size Zs) : w.heap.size ≤ gb274)); replace HB := Zh (Zl Zs hb); clear hb hbox hg) | ((with_reducible refine gate_dst (N := 4) rfl ?_); refine box_event ?hg (N := 4) ?hd (cs := #[.slice none 0 0]) (t := 29) ?hr ?_; (case hd => rfl); (case hg => rfl); (case hr => first | (go_simp; done) | (go_simp; rfl)); intro gb275 hg w5 hbox hb; have BK275 := Zh (hbox); have GW275 := Zh ((by rw [hg]; exact (below_size Zs) : w.heap.size ≤ gb275)); have GE275 := Zh ((by rw [hg]; exact (below_size Zs) : w.heap.size ≤ gb275)); replace HB := Zh (Zl Zs hb); have NB274_275 := Zh ((by rw [hg]; exact Nat.ne_of_lt (blk_lt (g := gb274) (o := .cells #[.slice A0_0 l0_0.length c0_0] 29 (0, 0)) Zk) : gb274 ≠ gb275)); have NB275_274 := Zh ((by rw [hg]; exact Nat.ne_of_gt (blk_lt (g := gb274) (o := .cells #[.slice A0_0 l0_0.length c0_0] 29 (0, 0)) Zk) : gb275 ≠ gb274)); replace BK274 := Zh (Zm (g := gb274) (o := .cells #[.slice A0_0 l0_0.length c0_0] 29 (0, 0)) Zk hb); clear hb hbox hg; have hnb6 := NB274_275.out; have hnc6 := NB275_274.out; have hcz7_0 : w5.cell? ⟨gb274, 0, none⟩ = some (.slice A0_0 l0_0.length c0_0) := (blk_cell BK274.out 0).trans rfl; have hfz7_0 := Zn BK274.out 0) | ((with_reducible refine gate_callee (f := 71) rfl ?_); refine ZG (some 8) Tryd.func71 #[.agg #[.slice A0_0 l0_0.length c0_0], .string a1] rfl ?_; (with_reducible refine (impl_syncFile.calls k _ _ l0_0 a1 t276 t279 _ ?side1 ?side2 A3.out).mono ?_); (case side1 => repeat (first | exact (C_below HR0_0.out HB.out) | (with_reducible refine C_alloc ?_ _) | (with_reducible refine C_drewN ?_ _) | (with_reducible refine C_drew ?_))); (case side2 => exact HC0_0.out); rintro e w8 ⟨v277, rfl, ho0, hb⟩; refine ⟨_, rfl, ?_⟩; have HO278 := Zh (S_lower ho0 (below_size Zs)); replace BK274 := Zh (Zm (g := gb274) (o := .cells #[.slice A0_0 l0_0.length c0_0] 29 (0, 0)) Zk hb); replace BK275 := Zh (Zm (g := gb275) (o := .cells #[.slice none 0 0] 29 (0, 0)) Zk hb); replace HB := Zh (Zl Zs hb); (try clear hb); (try clear hb2); (try clear hk); (try clear hi); (try clear ho0); obtain ⟨Ao9, co9, eo9⟩ := S_slice HO278.out; subst eo9; have hcz10_0 : w8.cell? ⟨gb275, 0, none⟩ = some (.slice none 0 0) := (blk_cell BK275.out 0).trans rfl; have hfz10_0 := Zn BK275.out 0))
 refine Zq (results_ct rfl _ _ gb275 29 #[.slice Ao9 t276.length co9] (0, 0) _ rfl (by (with_reducible repeat (first | refine Za ?_ _ | refine Zb ?_ | refine blk_alloc ?_ _)); refine blk_put (cs := #[.slice none 0 0]) ?_ 0 _ rfl; (with_reducible repeat (first | refine Za ?_ _ | refine Zb ?_ | refine blk_alloc ?_ _)); exact BK275.out) Tryd.underlying29 rfl (by kernel_rfl)) rfl ?_
 exact ⟨_, ZE, ZS (S_mono (S_far (p := ⟨gb275, 0, none⟩) (S_types HO278.out BK275.out (by decide)) (fun _ hk => hk.2) (.slice Ao9 t276.length co9)) (fun _ hk => trivial)), Zs⟩
mutual
def spec_Torn.l0 : Nat → List Int → Int → Int → List Int → Int → Option (List Int)
 | 0, _, _, _, _, _ => none
 | k + 1, x0, x1, x2, x7, x8 => if x8 < (x0.length : Int) then (spec_Torn.j1 k x0 x1 x2 x7 x8 (decide (x8 < x1))) else (spec_Torn.j1 k x0 x1 x2 x7 x8 false)
def spec_Torn.j1 : Nat → List Int → Int → Int → List Int → Int → Bool → Option (List Int)
 | 0, _, _, _, _, _, _ => none
 | k + 1, x0, x1, x2, x7, x8, x22 => if x22 = true then (if 0 ≤ x8 then (if x8 < (x0.length : Int) then (if x8 = x2 then (if x7.length < 140737488355328 then (spec_Torn.l0 k x0 x1 x2 (x7 ++ [(255 - (rd x0 x8)) % 256]) (wrap64 (x8 + 1))) else (none)) else (if x7.length < 140737488355328 then (spec_Torn.l0 k x0 x1 x2 (x7 ++ [rd x0 x8]) (wrap64 (x8 + 1))) else (none))) else (none)) else (none)) else (some x7)
end
def spec_Torn.f (k : Nat) (l0 : List Int) (a1 : Int) (a2 : Int) : Option (List Int) := if (l0.length : Int) > 20000 then (some ([] : List Int)) else (spec_Torn.l0 k l0 a1 a2 (([] : List Int)) 0)
set_option maxHeartbeats 8000000 in
set_option maxRecDepth 100000 in
theorem spec_Torn.calls (k : Nat) (A0 : Option Addr) (c0 : Nat) (l0 : List Int) (a1 : Int) (a2 : Int) (r : List Int) (w : World) (hr0 : Kd.C (Kd.int .u8) w A0 l0.length l0) (hc0 : l0.length ≤ c0) (h : spec_Torn.f k l0 a1 a2 = some r) :
  Calls Tryd.prog 74 #[.slice A0 l0.length c0, .int .i64 a1, .int .i64 a2] w fun e w' => ∃ v0_ : Value, e = .returned (v0_) ∧ Kd.R (Kd.int .u8) 5 w' w.heap.size (fun _ => True) v0_ r ∧ Below w.heap.size w w' := by
 have HR0 := Zh hr0
 have HC0 := Zh hc0
 clear hr0 hc0
 have HB := Zh (Below.refl w.heap.size w)
 have H : (if (l0.length : Int) > 20000 then (some ([] : List Int)) else (spec_Torn.l0 k l0 a1 a2 (([] : List Int)) 0)) = some r := h
 clear h
 by_cases c4 : (l0.length : Int) > 20000
 ·
  rw [if_pos c4] at H
  have c4b0 : decide (20000 < (l0.length : Int)) = true := decide_eq_true c4
  have c4b1 : decide (20000 < l0.length) = true := decide_eq_true (by omega)
  clear c4
  obtain rfl := Option.some.inj H
  go_enter Tryd.func74, Tryd.ntmps74
  go_wp2
  go_ret
  exact ⟨_, ZE, by first | exact R_nil _ _ _ _ _ | exact N_nil _ _ _ _ _ | exact V_nil _ _ _ _ _ | exact Q_nil _ _ _ _ _ | exact S_nil _ _ _ _ _, Zs⟩
 rw [if_neg c4] at H
 have c4b0 : decide (20000 < (l0.length : Int)) = false := decide_eq_false c4
 have c4b1 : decide (20000 < l0.length) = false := decide_eq_false (by omega)
 clear c4
 obtain ⟨y297, hy297⟩ : ∃ y_ : List Int, y_ = (([] : List Int)) := ⟨_, rfl⟩
 replace H : (spec_Torn.l0 k l0 a1 a2 y297 0) = some r := by first | (rw [hy297]; with_reducible exact H) | (have H2_ := (Option.bind_some _ _).symm.trans H; rw [hy297]; with_reducible exact H2_) | (have H2_ := (Option.bind_some _ _).symm.trans H; with_reducible exact H2_) | with_reducible exact H | (rw [hy297]; exact H) | exact H
 have Ny297 := Zh hy297
 clear hy297
 have H' := Zh H
 clear H
 go_enter Tryd.func74, Tryd.ntmps74
 go_wp2_with (first | ((with_reducible refine gate_dst (N := 13) rfl ?_); refine R_lit (Kd.int .u8) _ 5 ?hg (N := 13) ?hd (xs := ([] : List Int)) (inner := []) (ok := fun _ => True) (okp := fun _ => True) ?hr ?hp (fun _ hk => hk) trivial (Below.refl _ _) (Nat.le_refl _) (by simp) ?_; (case hd => rfl); (case hg => rfl); (case hr => first | (go_simp; done) | (go_simp; rfl)); (case hp => exact (Reps.none _ _)); intro v298 w5 ho6 hb hg_ hnew_; clear hg_ hnew_; (first | rw [← Ny297.out] at ho6 | (simp only [Int.reduceToNat] at ho6; rw [← Ny297.out] at ho6)); have HO299 := Zh (R_lower ho6 (below_size Zs)); replace HB := Zh (Zl Zs hb); clear hb ho6))
 go_loopg [7, 8] k (fun kq v7 v8 w' => ∃ (x7_1 : List Int) (x8_1 : Int), v8 = .int .i64 x8_1 ∧ Aside0 (spec_Torn.l0 kq l0 a1 a2 x7_1 x8_1 = some r) ∧ Aside0 (kq ≤ k) ∧ Aside0 (Kd.R (Kd.int .u8) 5 w' w.heap.size (fun _ => True) v7 x7_1) ∧ Aside0 (Below w.heap.size w w'))
 case atStart => exact ⟨(y297), (0), (by first | rfl | (simp; done) | (simp [*]; done)), H', ⟨Nat.le_refl _⟩, ⟨ZR HO299.out⟩, ⟨Zs⟩⟩
 case round =>
  clear H'
  try clear p2
  try clear c4
  try clear c4b0
  try clear c4b1
  obtain ⟨x7_1, x8_1, rfl, HA, HK1, HO_7, HB⟩ := hrel
  cases gk with
  | zero => exact absurd HA.out (by simp [spec_Torn.l0])
  | succ k1 =>
   have H := HA.out
   clear HA
   simp only [spec_Torn.l0] at H
   have HC7 := Zh H
   clear H
   go_upto_region 5 with (fail)
   go_cut [22] (fun v22 wc => ∃ (kq : Nat) (x22_6 : Bool), v22 = .bool x22_6 ∧ Aside0 (spec_Torn.j1 kq l0 a1 a2 x7_1 x8_1 x22_6 = some r) ∧ Aside0 (kq ≤ k1) ∧ Aside0 (Kd.R (Kd.int .u8) 5 wc w.heap.size (fun _ => True) u7 x7_1) ∧ Aside0 (Below w.heap.size w wc))
   case first =>
    have H := HC7.out
    clear HC7
    by_cases c8 : x8_1 < (l0.length : Int)
    ·
     rw [if_pos c8] at H
     have c8b0 : decide (x8_1 < (l0.length : Int)) = true := decide_eq_true c8
     clear c8
     (first | rw [c8b0] | (simp only [i64_w, i32_w]; rw [c8b0]) | skip)
     have H' := Zh H
     clear H
     go_wp2
     go_meet
     case rel => exact ⟨_, (decide (x8_1 < a1)), (by first | rfl | (simp; done) | (simp [*]; done)), H', ⟨by have := HK1.out; first | omega | exact Nat.le_refl _⟩, ⟨ZR HO_7.out⟩, ⟨Zs⟩⟩
    rw [if_neg c8] at H
    have c8b0 : decide (x8_1 < (l0.length : Int)) = false := decide_eq_false c8
    clear c8
    (first | rw [c8b0] | (simp only [i64_w, i32_w]; rw [c8b0]) | skip)
    have H' := Zh H
    clear H
    go_wp2
    go_meet
    case rel => exact ⟨_, (false), (by first | rfl | (simp; done) | (simp [*]; done)), H', ⟨by have := HK1.out; first | omega | exact Nat.le_refl _⟩, ⟨ZR HO_7.out⟩, ⟨Zs⟩⟩
   case rest =>
    clear HC7
    try clear p2
    try clear c4
    try clear c4b0
    try clear c4b1
    try clear c7
    try clear c8
    try clear c8b0
    try clear p2
    obtain ⟨kq, x22_6, rfl, HA, HJ6, HO_7, HB⟩ := hcut
    cases kq with
    | zero => exact absurd HA.out (by simp [spec_Torn.j1])
    | succ kj6 =>
     have H := HA.out
     clear HA
     simp only [spec_Torn.j1] at H
     by_cases c9 : x22_6 = true
     ·
      subst c9
      have H1 : (if 0 ≤ x8_1 then (if x8_1 < (l0.length : Int) then (if x8_1 = a2 then (if x7_1.length < 140737488355328 then (spec_Torn.l0 kj6 l0 a1 a2 (x7_1 ++ [(255 - (rd l0 x8_1)) % 256]) (wrap64 (x8_1 + 1))) else (none)) else (if x7_1.length < 140737488355328 then (spec_Torn.l0 kj6 l0 a1 a2 (x7_1 ++ [rd l0 x8_1]) (wrap64 (x8_1 + 1))) else (none))) else (none)) else (none)) = some r := by rw [if_pos rfl] at H; exact H
      clear H
      have H := H1
      clear H1
      by_cases c10 : 0 ≤ x8_1
      ·
       rw [if_pos c10] at H
       have c10b0 : decide (0 ≤ x8_1) = true := decide_eq_true c10
       clear c10
       by_cases c11 : x8_1 < (l0.length : Int)
       ·
        rw [if_pos c11] at H
        have c11b0 : decide (x8_1 < (l0.length : Int)) = true := decide_eq_true c11
        clear c11
        by_cases c12 : x8_1 = a2
        ·
         rw [if_pos c12] at H
         have c12b0 : (x8_1 == a2) = true := beq_iff_eq.mpr c12
         have c12b1 : (x8_1 != a2) = false := bne_eq_false_iff_eq.mpr c12
         clear c12
         by_cases c13 : x7_1.length < 140737488355328
         ·
          rw [if_pos c13] at H
          have LMc13 := Zh c13
          clear c13
          obtain ⟨y301, hy301⟩ : ∃ y_ : List Int, y_ = (x7_1 ++ [(255 - (rd l0 x8_1)) % 256]) := ⟨_, rfl⟩
          replace H : (spec_Torn.l0 kj6 l0 a1 a2 y301 (wrap64 (x8_1 + 1))) = some r := by first | (rw [hy301]; with_reducible exact H) | (have H2_ := (Option.bind_some _ _).symm.trans H; rw [hy301]; with_reducible exact H2_) | (have H2_ := (Option.bind_some _ _).symm.trans H; with_reducible exact H2_) | with_reducible exact H | (rw [hy301]; exact H) | exact H
          have Ny301 := Zh hy301
          clear hy301
          have H' := Zh H
          clear H
          have p300 : 0 ≤ (x8_1 : Int) := Zo
          have q300 : x8_1 < (l0.length : Int) := Zo
          obtain ⟨ad300, e300, hx300_0⟩ := Kd.at_int HR0.out x8_1 p300 q300
          cases e300
          replace hx300_0 := Zc HB.out hx300_0
          replace p300 := eq_true p300
          replace q300 := eq_true q300
          go_wp2_with (first | ((with_reducible refine gate_builtin (b := .append) (xs := #[.tmp 34, .tmp 36]) rfl ?_); at_builtin; refine R_append (Kd.int .u8) (w0 := w) w.heap.size rfl (.tmp 34) (.tmp 36) 33 5 (.int .u8 0) 1 rfl Tryd.underlying33 info5 rfl (by decide) (by omega) u7 x7_1 ((255 - (rd l0 x8_1)) % 256) [.int .u8 ((255 - (rd l0 x8_1)) % 256)] (fun _ => True) (fun _ => False) rfl rfl ?aP (fun _ hk => hk.elim) ?aF ?aO ?aB ?aS ?aL ?_; (case aP => exact rfl); (case aB => exact Zs); (case aF => exact (fun _ _ => trivial)); (case aO => exact (ZR HO_7.out)); (case aS => exact (below_size Zs)); (case aL => have := LMc13.out; omega); intro v302 w14 ho hb hg hat; rw [← Ny301.out] at ho; have n0_ := Zh (hb); have n1_ := Zh (ho); clear HB; clear HO_7; have HB := n0_; have HO303 := n1_; clear n0_ n1_; clear ho hb hg hat))
          go_roundg kj6
          case measure => have := HK1.out; have := HJ6.out; omega
          case rel => exact ⟨(y301), (wrap64 (x8_1 + 1)), (by first | rfl | (simp; done) | (simp [*]; done)), H', ⟨by have := HK1.out; have := HJ6.out; omega⟩, ⟨ZR HO303.out⟩, ⟨Zs⟩⟩
         rw [if_neg c13] at H
         exact absurd H (by simp)
        rw [if_neg c12] at H
        have c12b0 : (x8_1 == a2) = false := beq_eq_false_iff_ne.mpr c12
        have c12b1 : (x8_1 != a2) = true := bne_iff_ne.mpr c12
        by_cases c15 : x7_1.length < 140737488355328
        ·
         rw [if_pos c15] at H
         have LMc15 := Zh c15
         clear c15
         obtain ⟨y304, hy304⟩ : ∃ y_ : List Int, y_ = (x7_1 ++ [rd l0 x8_1]) := ⟨_, rfl⟩
         replace H : (spec_Torn.l0 kj6 l0 a1 a2 y304 (wrap64 (x8_1 + 1))) = some r := by first | (rw [hy304]; with_reducible exact H) | (have H2_ := (Option.bind_some _ _).symm.trans H; rw [hy304]; with_reducible exact H2_) | (have H2_ := (Option.bind_some _ _).symm.trans H; with_reducible exact H2_) | with_reducible exact H | (rw [hy304]; exact H) | exact H
         have Ny304 := Zh hy304
         clear hy304
         have H' := Zh H
         clear H
         have p300 : 0 ≤ (x8_1 : Int) := Zo
         have q300 : x8_1 < (l0.length : Int) := Zo
         obtain ⟨ad300, e300, hx300_0⟩ := Kd.at_int HR0.out x8_1 p300 q300
         cases e300
         replace hx300_0 := Zc HB.out hx300_0
         replace p300 := eq_true p300
         replace q300 := eq_true q300
         go_wp2_with (first | ((with_reducible refine gate_builtin (b := .append) (xs := #[.tmp 34, .tmp 36]) rfl ?_); at_builtin; refine R_append (Kd.int .u8) (w0 := w) w.heap.size rfl (.tmp 34) (.tmp 36) 33 5 (.int .u8 0) 1 rfl Tryd.underlying33 info5 rfl (by decide) (by omega) u7 x7_1 (rd l0 x8_1) [.int .u8 (rd l0 x8_1)] (fun _ => True) (fun _ => False) rfl rfl ?aP (fun _ hk => hk.elim) ?aF ?aO ?aB ?aS ?aL ?_; (case aP => exact rfl); (case aB => exact Zs); (case aF => exact (fun _ _ => trivial)); (case aO => exact (ZR HO_7.out)); (case aS => exact (below_size Zs)); (case aL => have := LMc15.out; omega); intro v305 w16 ho hb hg hat; rw [← Ny304.out] at ho; have n0_ := Zh (hb); have n1_ := Zh (ho); clear HB; clear HO_7; have HB := n0_; have HO306 := n1_; clear n0_ n1_; clear ho hb hg hat))
         go_roundg kj6
         case measure => have := HK1.out; have := HJ6.out; omega
         case rel => exact ⟨(y304), (wrap64 (x8_1 + 1)), (by first | rfl | (simp; done) | (simp [*]; done)), H', ⟨by have := HK1.out; have := HJ6.out; omega⟩, ⟨ZR HO306.out⟩, ⟨Zs⟩⟩
        rw [if_neg c15] at H
        exact absurd H (by simp)
       rw [if_neg c11] at H
       exact absurd H (by simp)
      rw [if_neg c10] at H
      exact absurd H (by simp)
     replace c9 := Bool.eq_false_iff.mpr c9
     subst c9
     have H1 : (some x7_1) = some r := by rw [if_neg (show ¬ (false = true) by decide)] at H; exact H
     clear H
     have H := H1
     clear H1
     obtain rfl := Option.some.inj H
     go_wp2
     go_ret
     exact ⟨_, ZE, ZR HO_7.out, Zs⟩
def spec_l03At.f (l0 : List Int) (a1 : Int) (a2 : Int) : Option (Int) := if a1 < (l0.length : Int) then (if 0 ≤ a1 then (some (rd l0 a1)) else (none)) else (some a2)
set_option maxHeartbeats 8000000 in
set_option maxRecDepth 100000 in
theorem spec_l03At.calls (A0 : Option Addr) (c0 : Nat) (l0 : List Int) (a1 : Int) (a2 : Int) (r : Int) (w : World) (hr0 : Kd.C (Kd.int .i64) w A0 l0.length l0) (hc0 : l0.length ≤ c0) (h : spec_l03At.f l0 a1 a2 = some r) :
  Calls Tryd.prog 75 #[.slice A0 l0.length c0, .int .i64 a1, .int .i64 a2] w fun e w' => e = .returned (.int .i64 r) ∧ Drawn0 w w' := by
 have HR0 := Zh hr0
 have HC0 := Zh hc0
 clear hr0 hc0
 have H : (if a1 < (l0.length : Int) then (if 0 ≤ a1 then (some (rd l0 a1)) else (none)) else (some a2)) = some r := h
 clear h
 by_cases c4 : a1 < (l0.length : Int)
 ·
  rw [if_pos c4] at H
  have c4b0 : decide (a1 < (l0.length : Int)) = true := decide_eq_true c4
  clear c4
  by_cases c5 : 0 ≤ a1
  ·
   rw [if_pos c5] at H
   have c5b0 : decide (0 ≤ a1) = true := decide_eq_true c5
   clear c5
   obtain rfl := Option.some.inj H
   have p307 : 0 ≤ (a1 : Int) := Zo
   have q307 : a1 < (l0.length : Int) := Zo
   obtain ⟨ad307, e307, hx307_0⟩ := Kd.at_int HR0.out a1 p307 q307
   cases e307
   replace p307 := eq_true p307
   replace q307 := eq_true q307
   go_enter Tryd.func75, Tryd.ntmps75
   go_wp2
   go_ret
   exact ⟨by first | rfl | (simp; done) | (simp [*]; done), by repeat (first | exact Drawn0.refl _ | apply Drawn0.step)⟩
  rw [if_neg c5] at H
  exact absurd H (by simp)
 rw [if_neg c4] at H
 have c4b0 : decide (a1 < (l0.length : Int)) = false := decide_eq_false c4
 clear c4
 obtain rfl := Option.some.inj H
 go_enter Tryd.func75, Tryd.ntmps75
 go_wp2
 go_ret
 exact ⟨by first | rfl | (simp; done) | (simp [*]; done), by repeat (first | exact Drawn0.refl _ | apply Drawn0.step)⟩
end Go.Proofs.YtmgeffgcihfpcaaDoor.F

namespace Go.Proofs.YtmgeffgcihfpcaaDoor.F
open Go.Proofs.YtmgeffgcihfpcaaDoor
open Go.RowKit Go.Proofs.YtmgeffgcihfpcaaDoorW.PrintWords Go.Proofs.YtmgeffgcihfpcaaDoorW.PrintWords.Kd Go.Proofs.YtmgeffgcihfpcaaDoorW.PrintMore.Kd Go.Proofs.YtmgeffgcihfpcaaDoorW.PrintLast Go.Proofs.YtmgeffgcihfpcaaDoorW.PrintMore
attribute [local go_sem] max2_int min2_int max_two min_two max_three min_three max_four min_four   -- for this text's walks alone
set_option linter.unusedVariables false
set_option linter.unusedSimpArgs false
def spec_Crash.l0 : Nat → List Int → List Int → Int → List (S74) → List (S74) → Option ((List (S74)))
 | 0, _, _, _, _, _ => none
 | k + 1, x1, x2, x8, x309000, x311000 => if x8 < (x309000.length : Int) then (if 0 ≤ x8 then ((spec_l03At.f x1 x8 0).bind fun t314 => ((spec_l03At.f x2 x8 (-1)).bind fun t315 => ((spec_Torn.f k ((rd_T74 x309000 x8).f2) t314 t315).bind fun t316 => ((spec_l01Join.f k ((rd_T74 x309000 x8).f1) t316).bind fun t319 => (if x311000.length < 2199023255552 then (spec_Crash.l0 k x1 x2 (wrap64 (x8 + 1)) x309000 (x311000 ++ [(⟨(rd_T74 x309000 x8).f0, t319, ([] : List Int)⟩ : S74)])) else (none)))))) else (none)) else (some x311000)
def spec_Crash.f (k : Nat) (l0_0 : List (S74)) (l1 : List Int) (l2 : List Int) : Option ((List (S74))) := (spec_DiskOk.f k l0_0).bind fun t311 => (if t311 = true then (spec_Crash.l0 k l1 l2 0 l0_0 ([] : List (S74))) else (some ([] : List (S74))))
def spec_Crash.T8 : Bool × List (List Nat × List Nat) := (true, [([], []), ([0], [0]), ([], []), ([2], [2]), ([], []), ([4], [4]), ([], []), ([6], [6]), ([], []), ([], []), ([8, 9], [8, 9]), ([], []), ([], []), ([11, 12, 10], [11, 12]), ([7, 10, 13, 13], [7, 10, 13]), ([5, 14, 14], [5, 14]), ([3, 15], [3, 15]), ([16], [16]), ([1, 17, 15], [1, 17]), ([0, 1, 2, 3, 4, 5, 6, 7, 8, 9, 10, 11, 12, 13, 14, 15, 16, 17, 18], []), ([19, 18, 18, 0, 1, 2, 3, 4, 5, 6, 7, 8, 9, 10, 11, 12, 13, 14, 15, 16, 17, 18], [18, 19])])
def spec_Crash.B8 : List Nat := [0, 1, 0, 4, 0, 16, 0, 64, 0, 0, 768, 0, 0, 7936, 16320, 32752, 65532, 131068, 262143, 524287, 1048575]
theorem spec_Crash.tab8 : rtab .any (opsOf Tryd.f32 8) = spec_Crash.T8 := by kernel_rfl
theorem spec_Crash.bits8 : waitsOk spec_Crash.T8.2 spec_Crash.B8 = true := by kernel_rfl
set_option maxHeartbeats 8000000 in
set_option maxRecDepth 100000 in
theorem spec_Crash.calls (k : Nat) (A0_0 : Option Addr) (c0_0 : Nat) (l0_0 : List (S74)) (A1 : Option Addr) (c1 : Nat) (l1 : List Int) (A2 : Option Addr) (c2 : Nat) (l2 : List Int) (r : List (S74)) (w : World) (hr0_0 : Kd.C k74 w A0_0 l0_0.length l0_0) (hc0_0 : l0_0.length ≤ c0_0) (hr1 : Kd.C (Kd.int .i64) w A1 l1.length l1) (hc1 : l1.length ≤ c1) (hr2 : Kd.C (Kd.int .i64) w A2 l2.length l2) (hc2 : l2.length ≤ c2) (h : spec_Crash.f k l0_0 l1 l2 = some r) :
  Calls Tryd.prog 32 #[.agg #[.slice A0_0 l0_0.length c0_0], .slice A1 l1.length c1, .slice A2 l2.length c2] w fun e w' => ∃ v0_ : Value, e = .returned (.agg #[v0_]) ∧ Kd.S k74 74 w' w.heap.size (fun _ => True) v0_ r ∧ Below w.heap.size w w' := by
 have hu29 := Tryd.underlying29
 have hu74 := Tryd.underlying74
 have HR0_0 := Zh hr0_0
 have HC0_0 := Zh hc0_0
 clear hr0_0 hc0_0
 have HR1 := Zh hr1
 have HC1 := Zh hc1
 clear hr1 hc1
 have HR2 := Zh hr2
 have HC2 := Zh hc2
 clear hr2 hc2
 have HB := Zh (Below.refl w.heap.size w)
 have H : ((spec_DiskOk.f k l0_0).bind fun t311 => (if t311 = true then (spec_Crash.l0 k l1 l2 0 l0_0 ([] : List (S74))) else (some ([] : List (S74))))) = some r := h
 clear h
 replace H := Option.bind_eq_some_iff.mp H
 obtain ⟨t311, A40, H⟩ := H
 replace H : (if t311 = true then (spec_Crash.l0 k l1 l2 0 l0_0 ([] : List (S74))) else (some ([] : List (S74)))) = some r := H
 have A4 := Zh A40
 clear A40
 by_cases c5 : t311 = true
 ·
  subst c5
  have H1 : (spec_Crash.l0 k l1 l2 0 l0_0 ([] : List (S74))) = some r := by rw [if_pos rfl] at H; exact H
  clear H
  have H := H1
  clear H1
  have H' := Zh H
  clear H
  go_enter Tryd.func32, Tryd.ntmps32
  go_wp2_with (first | ((with_reducible refine gate_dst (N := 3) rfl ?_); refine box_event ?hg (N := 3) ?hd (cs := #[.slice A0_0 l0_0.length c0_0]) (t := 29) ?hr ?_; (case hd => rfl); (case hg => rfl); (case hr => first | (go_simp; done) | (go_simp; rfl)); intro gb308 hg w6 hbox hb; have BK308 := Zh (hbox); have GW308 := Zh ((by rw [hg]; exact (below_size Zs) : w.heap.size ≤ gb308)); have GE308 := Zh ((by rw [hg]; exact (below_size Zs) : w.heap.size ≤ gb308)); replace HB := Zh (Zl Zs hb); clear hb hbox hg) | ((with_reducible refine gate_dst (N := 6) rfl ?_); refine box_event ?hg (N := 6) ?hd (cs := #[.slice none 0 0]) (t := 29) ?hr ?_; (case hd => rfl); (case hg => rfl); (case hr => first | (go_simp; done) | (go_simp; rfl)); intro gb309 hg w7 hbox hb; have BK309 := Zh (hbox); have GW309 := Zh ((by rw [hg]; exact (below_size Zs) : w.heap.size ≤ gb309)); have GE309 := Zh ((by rw [hg]; exact (below_size Zs) : w.heap.size ≤ gb309)); replace HB := Zh (Zl Zs hb); have NB308_309 := Zh ((by rw [hg]; exact Nat.ne_of_lt (blk_lt (g := gb308) (o := .cells #[.slice A0_0 l0_0.length c0_0] 29 (0, 0)) Zk) : gb308 ≠ gb309)); have NB309_308 := Zh ((by rw [hg]; exact Nat.ne_of_gt (blk_lt (g := gb308) (o := .cells #[.slice A0_0 l0_0.length c0_0] 29 (0, 0)) Zk) : gb309 ≠ gb308)); replace BK308 := Zh (Zm (g := gb308) (o := .cells #[.slice A0_0 l0_0.length c0_0] 29 (0, 0)) Zk hb); clear hb hbox hg) | ((with_reducible refine gate_dst (N := 7) rfl ?_); refine box_event ?hg (N := 7) ?hd (cs := #[.slice none 0 0]) (t := 29) ?hr ?_; (case hd => rfl); (case hg => rfl); (case hr => first | (go_simp; done) | (go_simp; rfl)); intro gb310 hg w8 hbox hb; have BK310 := Zh (hbox); have GW310 := Zh ((by rw [hg]; exact (below_size Zs) : w.heap.size ≤ gb310)); have GE310 := Zh ((by rw [hg]; exact (below_size Zs) : w.heap.size ≤ gb310)); replace HB := Zh (Zl Zs hb); have NB308_310 := Zh ((by rw [hg]; exact Nat.ne_of_lt (blk_lt (g := gb308) (o := .cells #[.slice A0_0 l0_0.length c0_0] 29 (0, 0)) Zk) : gb308 ≠ gb310)); have NB310_308 := Zh ((by rw [hg]; exact Nat.ne_of_gt (blk_lt (g := gb308) (o := .cells #[.slice A0_0 l0_0.length c0_0] 29 (0, 0)) Zk) : gb310 ≠ gb308)); replace BK308 := Zh (Zm (g := gb308) (o := .cells #[.slice A0_0 l0_0.length c0_0] 29 (0, 0)) Zk hb); have NB309_310 := Zh ((by rw [hg]; exact Nat.ne_of_lt (blk_lt (g := gb309) (o := .cells #[.slice none 0 0] 29 (0, 0)) Zk) : gb309 ≠ gb310)); have NB310_309 := Zh ((by rw [hg]; exact Nat.ne_of_gt (blk_lt (g := gb309) (o := .cells #[.slice none 0 0] 29 (0, 0)) Zk) : gb310 ≠ gb309)); replace BK309 := Zh (Zm (g := gb309) (o := .cells #[.slice none 0 0] 29 (0, 0)) Zk hb); clear hb hbox hg; have hnb9 := NB310_308.out; have hnc9 := NB308_310.out; have hnb10 := NB310_309.out; have hnc10 := NB309_310.out; have hcz11_0 : w8.cell? ⟨gb310, 0, none⟩ = some (.slice none 0 0) := (blk_cell BK310.out 0).trans rfl; have hfz11_0 := Zn BK310.out 0; have hnb12 := NB308_309.out; have hnc12 := NB309_308.out; have hcz13_0 : w8.cell? ⟨gb308, 0, none⟩ = some (.slice A0_0 l0_0.length c0_0) := (blk_cell BK308.out 0).trans rfl; have hfz13_0 := Zn BK308.out 0) | ((with_reducible refine gate_callee (f := 15) rfl ?_); refine ZG (some 12) Tryd.func15 #[.agg #[.slice A0_0 l0_0.length c0_0]] rfl ?_; (with_reducible refine (spec_DiskOk.calls k _ _ l0_0 true _ ?side1 ?side2 A4.out).mono ?_); (case side1 => exact C_below HR0_0.out Zs); (case side2 => exact HC0_0.out); rintro e w14 ⟨rfl, hb⟩; refine ⟨_, rfl, ?_⟩; replace BK308 := Zh (Zm (g := gb308) (o := .cells #[.slice A0_0 l0_0.length c0_0] 29 (0, 0)) (by (with_reducible repeat (first | refine Za ?_ _ | refine Zb ?_ | refine blk_alloc ?_ _)); refine blk_far ?_ NB308_310.out _; (with_reducible repeat (first | refine Za ?_ _ | refine Zb ?_ | refine blk_alloc ?_ _)); exact BK308.out) hb); replace BK309 := Zh (Zm (g := gb309) (o := .cells #[.slice none 0 0] 29 (0, 0)) (by (with_reducible repeat (first | refine Za ?_ _ | refine Zb ?_ | refine blk_alloc ?_ _)); refine blk_far ?_ NB309_310.out _; (with_reducible repeat (first | refine Za ?_ _ | refine Zb ?_ | refine blk_alloc ?_ _)); exact BK309.out) hb); replace BK310 := Zh (Zm (g := gb310) (o := .cells #[.slice none 0 0] 29 (0, 0)) (by (with_reducible repeat (first | refine Za ?_ _ | refine Zb ?_ | refine blk_alloc ?_ _)); refine blk_put (cs := #[.slice none 0 0]) ?_ 0 _ rfl; (with_reducible repeat (first | refine Za ?_ _ | refine Zb ?_ | refine blk_alloc ?_ _)); exact BK310.out) hb); replace HB := Zh (Zl Zs hb); (try clear hb); (try clear hb2); (try clear hk); (try clear hi)))
  go_loopg [8] k (fun kq v8 w' => ∃ (x8_1 : Int) (x311000_1 : List (S74)) (u311000 : Value), v8 = .int .i64 x8_1 ∧ Aside0 (spec_Crash.l0 kq l1 l2 x8_1 l0_0 x311000_1 = some r) ∧ Aside0 (kq ≤ k) ∧ Aside0 (Kd.S k74 74 w' w.heap.size (fun _ => True) u311000 x311000_1) ∧ Aside0 (w'.heap[gb308]? = some (.cells #[(.slice A0_0 l0_0.length c0_0)] 29 (0, 0))) ∧ Aside0 (w'.heap[gb309]? = some (.cells #[(.slice none 0 0)] 29 (0, 0))) ∧ Aside0 (w'.heap[gb310]? = some (.cells #[u311000] 29 (0, 0))) ∧ Aside0 (Below w.heap.size w w'))
  case atStart => exact ⟨(0), (([] : List (S74))), (.slice none 0 0), (by first | rfl | (simp; done) | (simp [*]; done)), H', ⟨Nat.le_refl _⟩, ⟨by first | exact S_nil _ _ _ _ _ | exact N_nil _ _ _ _ _ | exact V_nil _ _ _ _ _ | exact Q_nil _ _ _ _ _ | exact R_nil _ _ _ _ _⟩, ⟨Zk⟩, ⟨Zk⟩, ⟨Zk⟩, ⟨Zs⟩⟩
  case round =>
   clear H'
   try clear c1
   try clear c2
   try clear p2
   try clear c3
   try clear c5
   try clear c9
   try clear c10
   try clear c12
   try clear hcz11_0
   try clear hcz13_0
   try clear hfz11_0
   try clear hfz13_0
   obtain ⟨x8_1, x311000_1, u311000, rfl, HA, HK1, HO_311000, BK308, BK309, BK310, HB⟩ := hrel
   cases gk with
   | zero => exact absurd HA.out (by simp [spec_Crash.l0])
   | succ k1 =>
    have H := HA.out
    clear HA
    simp only [spec_Crash.l0] at H
    by_cases c15 : x8_1 < (l0_0.length : Int)
    ·
     rw [if_pos c15] at H
     have c15b0 : decide (x8_1 < (l0_0.length : Int)) = true := decide_eq_true c15
     clear c15
     by_cases c16 : 0 ≤ x8_1
     ·
      rw [if_pos c16] at H
      have c16b0 : decide (0 ≤ x8_1) = true := decide_eq_true c16
      clear c16
      replace H := Option.bind_eq_some_iff.mp H
      obtain ⟨t314, A170, H⟩ := H
      replace H : ((spec_l03At.f l2 x8_1 (-1)).bind fun t315 => ((spec_Torn.f k1 ((rd_T74 l0_0 x8_1).f2) t314 t315).bind fun t316 => ((spec_l01Join.f k1 ((rd_T74 l0_0 x8_1).f1) t316).bind fun t319 => (if x311000_1.length < 2199023255552 then (spec_Crash.l0 k1 l1 l2 (wrap64 (x8_1 + 1)) l0_0 (x311000_1 ++ [(⟨(rd_T74 l0_0 x8_1).f0, t319, ([] : List Int)⟩ : S74)])) else (none))))) = some r := H
      have A17 := Zh A170
      clear A170
      replace H := Option.bind_eq_some_iff.mp H
      obtain ⟨t315, A180, H⟩ := H
      replace H : ((spec_Torn.f k1 ((rd_T74 l0_0 x8_1).f2) t314 t315).bind fun t316 => ((spec_l01Join.f k1 ((rd_T74 l0_0 x8_1).f1) t316).bind fun t319 => (if x311000_1.length < 2199023255552 then (spec_Crash.l0 k1 l1 l2 (wrap64 (x8_1 + 1)) l0_0 (x311000_1 ++ [(⟨(rd_T74 l0_0 x8_1).f0, t319, ([] : List Int)⟩ : S74)])) else (none)))) = some r := H
      have A18 := Zh A180
      clear A180
      replace H := Option.bind_eq_some_iff.mp H
      obtain ⟨t316, A190, H⟩ := H
      replace H : ((spec_l01Join.f k1 ((rd_T74 l0_0 x8_1).f1) t316).bind fun t319 => (if x311000_1.length < 2199023255552 then (spec_Crash.l0 k1 l1 l2 (wrap64 (x8_1 + 1)) l0_0 (x311000_1 ++ [(⟨(rd_T74 l0_0 x8_1).f0, t319, ([] : List Int)⟩ : S74)])) else (none))) = some r := H
      have A19 := Zh A190
      clear A190
      replace H := Option.bind_eq_some_iff.mp H
      obtain ⟨t319, A200, H⟩ := H
      replace H : (if x311000_1.length < 2199023255552 then (spec_Crash.l0 k1 l1 l2 (wrap64 (x8_1 + 1)) l0_0 (x311000_1 ++ [(⟨(rd_T74 l0_0 x8_1).f0, t319, ([] : List Int)⟩ : S74)])) else (none)) = some r := H
      have A20 := Zh A200
      clear A200
      by_cases c21 : x311000_1.length < 2199023255552
      ·
       rw [if_pos c21] at H
       have LMc21 := Zh c21
       clear c21
       obtain ⟨y322, hy322⟩ : ∃ y_ : List (S74), y_ = (x311000_1 ++ [(⟨(rd_T74 l0_0 x8_1).f0, t319, ([] : List Int)⟩ : S74)]) := ⟨_, rfl⟩
       replace H : (spec_Crash.l0 k1 l1 l2 (wrap64 (x8_1 + 1)) l0_0 y322) = some r := by first | (rw [hy322]; with_reducible exact H) | (have H2_ := (Option.bind_some _ _).symm.trans H; rw [hy322]; with_reducible exact H2_) | (have H2_ := (Option.bind_some _ _).symm.trans H; with_reducible exact H2_) | with_reducible exact H | (rw [hy322]; exact H) | exact H
       have Ny322 := Zh hy322
       clear hy322
       have H' := Zh H
       clear H
       have hnb22 := NB308_309.out
       have hnc22 := NB309_308.out
       have hnb23 := NB308_310.out
       have hnc23 := NB310_308.out
       have hcz24_0 : wr.cell? ⟨gb308, 0, none⟩ = some (.slice A0_0 l0_0.length c0_0) := (blk_cell BK308.out 0).trans rfl
       have hfz24_0 := Zn BK308.out 0
       have p312 : 0 ≤ (x8_1 : Int) := Zo
       have q312 : x8_1 < (l0_0.length : Int) := Zo
       obtain ⟨ad312, A312_1, c312_1, A312_2, c312_2, e312, hx312_0, hx312_1, hx312_2, hl312_1, hi312_1, hl312_2, hi312_2⟩ := at_T74 HR0_0.out x8_1 p312 q312
       cases e312
       replace hx312_0 := Zc HB.out hx312_0
       replace hx312_1 := Zc HB.out hx312_1
       replace hx312_2 := Zc HB.out hx312_2
       have HR312_1 := Zh hi312_1
       have HC312_1 := Zh hl312_1
       clear hi312_1 hl312_1
       have HR312_2 := Zh hi312_2
       have HC312_2 := Zh hl312_2
       clear hi312_2 hl312_2
       replace p312 := eq_true p312
       replace q312 := eq_true q312
       try go_wp2_with (first | ((with_reducible refine gate_dst (N := 9) rfl ?_); refine box_event ?hg (N := 9) ?hd (cs := #[.string (⟨#[]⟩ : ByteArray), .slice none 0 0, .slice none 0 0]) (t := 74) ?hr ?_; (case hd => rfl); (case hg => rfl); (case hr => first | (go_simp; done) | (go_simp; rfl)); intro gb313 hg w25 hbox hb; replace HO_311000 := Zh (S_below (S_elderB (ZS HO_311000.out) gb313 (Nat.le_of_eq hg.symm)) hb); have BK313 := Zh (hbox); have GW313 := Zh ((by rw [hg]; exact (below_size Zs) : w.heap.size ≤ gb313)); have GE313 := Zh ((by rw [hg]; exact (below_size Zs) : w.heap.size ≤ gb313)); replace HB := Zh (Zl Zs hb); have NB308_313 := Zh ((by rw [hg]; exact Nat.ne_of_lt (blk_lt (g := gb308) (o := .cells #[.slice (some ad312) l0_0.length c0_0] 29 (0, 0)) Zk) : gb308 ≠ gb313)); have NB313_308 := Zh ((by rw [hg]; exact Nat.ne_of_gt (blk_lt (g := gb308) (o := .cells #[.slice (some ad312) l0_0.length c0_0] 29 (0, 0)) Zk) : gb313 ≠ gb308)); replace BK308 := Zh (Zm (g := gb308) (o := .cells #[.slice (some ad312) l0_0.length c0_0] 29 (0, 0)) Zk hb); have NB309_313 := Zh ((by rw [hg]; exact Nat.ne_of_lt (blk_lt (g := gb309) (o := .cells #[.slice none 0 0] 29 (0, 0)) Zk) : gb309 ≠ gb313)); have NB313_309 := Zh ((by rw [hg]; exact Nat.ne_of_gt (blk_lt (g := gb309) (o := .cells #[.slice none 0 0] 29 (0, 0)) Zk) : gb313 ≠ gb309)); replace BK309 := Zh (Zm (g := gb309) (o := .cells #[.slice none 0 0] 29 (0, 0)) Zk hb); have NB310_313 := Zh ((by rw [hg]; exact Nat.ne_of_lt (blk_lt (g := gb310) (o := .cells #[u311000] 29 (0, 0)) Zk) : gb310 ≠ gb313)); have NB313_310 := Zh ((by rw [hg]; exact Nat.ne_of_gt (blk_lt (g := gb310) (o := .cells #[u311000] 29 (0, 0)) Zk) : gb313 ≠ gb310)); replace BK310 := Zh (Zm (g := gb310) (o := .cells #[u311000] 29 (0, 0)) Zk hb); clear hb hbox hg; have hnb26 := NB313_308.out; have hnc26 := NB308_313.out; have hnb27 := NB313_309.out; have hnc27 := NB309_313.out; have hnb28 := NB313_310.out; have hnc28 := NB310_313.out; have hcz29_0 : w25.cell? ⟨gb313, 0, none⟩ = some (.string (⟨#[]⟩ : ByteArray)) := (blk_cell BK313.out 0).trans rfl; have hcz29_1 : w25.cell? ⟨gb313, 1, none⟩ = some (.slice none 0 0) := (blk_cell BK313.out 1).trans rfl; have hcz29_2 : w25.cell? ⟨gb313, 2, none⟩ = some (.slice none 0 0) := (blk_cell BK313.out 2).trans rfl; have hfz29_0 := Zn BK313.out 0; have hfz29_1 := Zn BK313.out 1; have hfz29_2 := Zn BK313.out 2))
       have n0_ : Aside0 (Kd.S k74 74 (((w25.setCell ⟨gb313, 0, none⟩ (.string ((rd_T74 l0_0 x8_1).f0))).setCell ⟨gb313, 1, none⟩ (.slice A312_1 ((rd_T74 l0_0 x8_1).f1).length c312_1)).setCell ⟨gb313, 2, none⟩ (.slice A312_2 ((rd_T74 l0_0 x8_1).f2).length c312_2)) w.heap.size (fun k_ => k_ ≠ gb313) u311000 x311000_1) := ⟨ZS (S_mono (S_far (p := ⟨gb313, 2, none⟩) (S_far (p := ⟨gb313, 1, none⟩) (S_far (p := ⟨gb313, 0, none⟩) (S_mono HO_311000.out (fun k_ hk => (⟨hk, hk.2⟩ : _ ∧ k_ ≠ gb313))) (fun _ hk => hk.2) (.string ((rd_T74 l0_0 x8_1).f0))) (fun _ hk => hk.2) (.slice A312_1 ((rd_T74 l0_0 x8_1).f1).length c312_1)) (fun _ hk => hk.2) (.slice A312_2 ((rd_T74 l0_0 x8_1).f2).length c312_2)) (fun _ hk => hk.1.2))⟩
       have n1_ : Aside0 ((((w25.setCell ⟨gb313, 0, none⟩ (.string ((rd_T74 l0_0 x8_1).f0))).setCell ⟨gb313, 1, none⟩ (.slice A312_1 ((rd_T74 l0_0 x8_1).f1).length c312_1)).setCell ⟨gb313, 2, none⟩ (.slice A312_2 ((rd_T74 l0_0 x8_1).f2).length c312_2)).heap[gb308]? = some (.cells #[.slice (some ad312) l0_0.length c0_0] 29 (0, 0))) := ⟨by (with_reducible repeat (first | refine Za ?_ _ | refine Zb ?_ | refine blk_alloc ?_ _)); refine blk_far ?_ NB308_313.out _; (with_reducible repeat (first | refine Za ?_ _ | refine Zb ?_ | refine blk_alloc ?_ _)); refine blk_far ?_ NB308_313.out _; (with_reducible repeat (first | refine Za ?_ _ | refine Zb ?_ | refine blk_alloc ?_ _)); refine blk_far ?_ NB308_313.out _; (with_reducible repeat (first | refine Za ?_ _ | refine Zb ?_ | refine blk_alloc ?_ _)); exact BK308.out⟩
       have n2_ : Aside0 ((((w25.setCell ⟨gb313, 0, none⟩ (.string ((rd_T74 l0_0 x8_1).f0))).setCell ⟨gb313, 1, none⟩ (.slice A312_1 ((rd_T74 l0_0 x8_1).f1).length c312_1)).setCell ⟨gb313, 2, none⟩ (.slice A312_2 ((rd_T74 l0_0 x8_1).f2).length c312_2)).heap[gb309]? = some (.cells #[.slice none 0 0] 29 (0, 0))) := ⟨by (with_reducible repeat (first | refine Za ?_ _ | refine Zb ?_ | refine blk_alloc ?_ _)); refine blk_far ?_ NB309_313.out _; (with_reducible repeat (first | refine Za ?_ _ | refine Zb ?_ | refine blk_alloc ?_ _)); refine blk_far ?_ NB309_313.out _; (with_reducible repeat (first | refine Za ?_ _ | refine Zb ?_ | refine blk_alloc ?_ _)); refine blk_far ?_ NB309_313.out _; (with_reducible repeat (first | refine Za ?_ _ | refine Zb ?_ | refine blk_alloc ?_ _)); exact BK309.out⟩
       have n3_ : Aside0 ((((w25.setCell ⟨gb313, 0, none⟩ (.string ((rd_T74 l0_0 x8_1).f0))).setCell ⟨gb313, 1, none⟩ (.slice A312_1 ((rd_T74 l0_0 x8_1).f1).length c312_1)).setCell ⟨gb313, 2, none⟩ (.slice A312_2 ((rd_T74 l0_0 x8_1).f2).length c312_2)).heap[gb310]? = some (.cells #[u311000] 29 (0, 0))) := ⟨by (with_reducible repeat (first | refine Za ?_ _ | refine Zb ?_ | refine blk_alloc ?_ _)); refine blk_far ?_ NB310_313.out _; (with_reducible repeat (first | refine Za ?_ _ | refine Zb ?_ | refine blk_alloc ?_ _)); refine blk_far ?_ NB310_313.out _; (with_reducible repeat (first | refine Za ?_ _ | refine Zb ?_ | refine blk_alloc ?_ _)); refine blk_far ?_ NB310_313.out _; (with_reducible repeat (first | refine Za ?_ _ | refine Zb ?_ | refine blk_alloc ?_ _)); exact BK310.out⟩
       have n4_ : Aside0 ((((w25.setCell ⟨gb313, 0, none⟩ (.string ((rd_T74 l0_0 x8_1).f0))).setCell ⟨gb313, 1, none⟩ (.slice A312_1 ((rd_T74 l0_0 x8_1).f1).length c312_1)).setCell ⟨gb313, 2, none⟩ (.slice A312_2 ((rd_T74 l0_0 x8_1).f2).length c312_2)).heap[gb313]? = some (.cells #[.string ((rd_T74 l0_0 x8_1).f0), .slice A312_1 ((rd_T74 l0_0 x8_1).f1).length c312_1, .slice A312_2 ((rd_T74 l0_0 x8_1).f2).length c312_2] 74 (0, 0))) := ⟨by (with_reducible repeat (first | refine Za ?_ _ | refine Zb ?_ | refine blk_alloc ?_ _)); refine blk_put (cs := #[.string ((rd_T74 l0_0 x8_1).f0), .slice A312_1 ((rd_T74 l0_0 x8_1).f1).length c312_1, .slice none 0 0]) ?_ 2 _ rfl; (with_reducible repeat (first | refine Za ?_ _ | refine Zb ?_ | refine blk_alloc ?_ _)); refine blk_put (cs := #[.string ((rd_T74 l0_0 x8_1).f0), .slice none 0 0, .slice none 0 0]) ?_ 1 _ rfl; (with_reducible repeat (first | refine Za ?_ _ | refine Zb ?_ | refine blk_alloc ?_ _)); refine blk_put (cs := #[.string (⟨#[]⟩ : ByteArray), .slice none 0 0, .slice none 0 0]) ?_ 0 _ rfl; (with_reducible repeat (first | refine Za ?_ _ | refine Zb ?_ | refine blk_alloc ?_ _)); exact BK313.out⟩
       have n5_ : Aside0 (Below w.heap.size w (((w25.setCell ⟨gb313, 0, none⟩ (.string ((rd_T74 l0_0 x8_1).f0))).setCell ⟨gb313, 1, none⟩ (.slice A312_1 ((rd_T74 l0_0 x8_1).f1).length c312_1)).setCell ⟨gb313, 2, none⟩ (.slice A312_2 ((rd_T74 l0_0 x8_1).f2).length c312_2))) := ⟨Zs⟩
       (try clear HO_311000)
       (try clear BK308)
       (try clear BK309)
       (try clear BK310)
       (try clear BK313)
       (try clear HB)
       generalize (((w25.setCell ⟨gb313, 0, none⟩ (.string ((rd_T74 l0_0 x8_1).f0))).setCell ⟨gb313, 1, none⟩ (.slice A312_1 ((rd_T74 l0_0 x8_1).f1).length c312_1)).setCell ⟨gb313, 2, none⟩ (.slice A312_2 ((rd_T74 l0_0 x8_1).f2).length c312_2)) = w30 at n0_ n1_ n2_ n3_ n4_ n5_ ⊢
       have HO_311000 := n0_
       have BK308 := n1_
       have BK309 := n2_
       have BK310 := n3_
       have BK313 := n4_
       have HB := n5_
       clear n0_ n1_ n2_ n3_ n4_ n5_
       replace HO_311000 := Zh (S_drew HO_311000.out)
       replace BK308 := Zh (Zb BK308.out)
       replace BK309 := Zh (Zb BK309.out)
       replace BK310 := Zh (Zb BK310.out)
       replace BK313 := Zh (Zb BK313.out)
       replace HB := Zh (Ze HB.out)
       refine start_ (n := 21) (S := fun w' => w'.cell? ⟨gb310, 0, none⟩ = some (u311000) ∧ w'.cell? ⟨gb313, 0, none⟩ = some (.string ((rd_T74 l0_0 x8_1).f0)) ∧ w'.cell? ⟨gb313, 1, none⟩ = some (.slice A312_1 ((rd_T74 l0_0 x8_1).f1).length c312_1) ∧ w'.cell? ⟨gb313, 2, none⟩ = some (.slice A312_2 ((rd_T74 l0_0 x8_1).f2).length c312_2)) (ds := [20]) #[false, false, false, false, false, false, false, false, false, false, false, false, false, false, false, false, false, false, false, false, false] (by kernel_rfl) rfl rfl ⟨(blk_cell BK310.out 0).trans rfl, (blk_cell BK313.out 0).trans rfl, (blk_cell BK313.out 1).trans rfl, (blk_cell BK313.out 2).trans rfl⟩ (fun hHeld => ?_); refine with_tabW spec_Crash.tab8 spec_Crash.bits8 (fun HT_ HW_ => ?_)
       generalize w30.drew = w31 at HO_311000 BK308 BK309 BK310 BK313 HB hHeld ⊢
       refine SQ.pu 0 27 HT_ ?_
       refine SQ.pu 2 29 HT_ ?_
       refine SQ.pu 4 31 HT_ ?_
       refine SQ.pu 6 33 HT_ ?_
       refine SQ.pu 8 35 HT_ ?_
       refine SQ.pu 9 36 HT_ ?_
       refine SQ.pu 11 38 HT_ ?_
       refine SQ.pu 12 39 HT_ ?_
       refine SQ.tk 1 28 HT_ HW_ hHeld ?_
       refine SQ.tk 3 30 HT_ HW_ hHeld ?_
       refine SQ.tk 5 32 HT_ HW_ hHeld ?_
       refine SQ.tk 7 34 HT_ HW_ hHeld ?_
       refine one_ (i := 10) (N := some 37) #[true, true, true, true, true, true, true, true, true, true, true, true, true, false, false, false, false, false, false, false, false] rfl rfl (one_of HT_.out (by kernel_rfl)) (by decide) (fun K hK => ?_)
       refine goes_ Tryd.func75 (by kernel_rfl) rfl #[.slice A1 l1.length c1, .int .i64 x8_1, .int .i64 0] (by rfl) rfl rfl (by (try simp only [List.map_toArray, List.map_cons, List.map_nil]); first | done | rfl | (simp only [List.length_drop, List.length_take]; rfl)) ?_
       with_reducible refine (spec_l03At.calls _ _ l1 x8_1 0 t314 _ ?side1 ?side2 A17.out).mono ?_
       (case side1 => repeat (first | exact (C_below HR1.out HB.out) | (with_reducible refine C_alloc ?_ _) | (with_reducible refine C_drewN ?_ _) | (with_reducible refine C_drew ?_)))
       (case side2 => exact HC1.out)
       rintro e w' ⟨rfl, ⟨nd, rfl⟩⟩
       refine ⟨_, rfl, ?_⟩
       refine hK.out _ _ ⟨(blk_cell BK310.out 0).trans rfl, (blk_cell BK313.out 0).trans rfl, (blk_cell BK313.out 1).trans rfl, (blk_cell BK313.out 2).trans rfl⟩ (fun hHeld => ?_)
       clear hK K
       refine norm_ (a' := ?_) ?_ ?_
       rotate_left
       ·
        show Act.put _ (some 37) _ = _
        simp only [Act.put, List.setIfInBounds_toArray, List.set_cons_zero, List.set_cons_succ, i64_w, i32_w]
        rfl
       refine one_ (i := 13) (N := some 40) #[true, true, true, true, true, true, true, true, true, true, true, true, true, true, false, false, false, false, false, false, false] rfl rfl (one_of HT_.out (by kernel_rfl)) (by decide) (fun K hK => ?_)
       refine goes_ Tryd.func75 (by kernel_rfl) rfl #[.slice A2 l2.length c2, .int .i64 x8_1, .int .i64 (-1)] (by rfl) rfl rfl (by (try simp only [List.map_toArray, List.map_cons, List.map_nil]); first | done | rfl | (simp only [List.length_drop, List.length_take]; rfl)) ?_
       with_reducible refine (spec_l03At.calls _ _ l2 x8_1 (-1) t315 _ ?side1 ?side2 A18.out).mono ?_
       (case side1 => repeat (first | exact (C_below HR2.out Zs) | (with_reducible refine C_alloc ?_ _) | (with_reducible refine C_drewN ?_ _) | (with_reducible refine C_drew ?_)))
       (case side2 => exact HC2.out)
       rintro e w' ⟨rfl, ⟨nd, rfl⟩⟩
       refine ⟨_, rfl, ?_⟩
       refine hK.out _ _ ⟨(blk_cell BK310.out 0).trans rfl, (blk_cell BK313.out 0).trans rfl, (blk_cell BK313.out 1).trans rfl, (blk_cell BK313.out 2).trans rfl⟩ (fun hHeld => ?_)
       clear hK K
       refine norm_ (a' := ?_) ?_ ?_
       rotate_left
       ·
        show Act.put _ (some 40) _ = _
        simp only [Act.put, List.setIfInBounds_toArray, List.set_cons_zero, List.set_cons_succ, i64_w, i32_w]
        rfl
       refine one_ (i := 14) (N := some 41) #[true, true, true, true, true, true, true, true, true, true, true, true, true, true, true, false, false, false, false, false, false] rfl rfl (one_of HT_.out (by kernel_rfl)) (by decide) (fun K hK => ?_)
       refine goes_ Tryd.func74 (by kernel_rfl) rfl #[.slice A312_2 ((rd_T74 l0_0 x8_1).f2).length c312_2, .int .i64 t314, .int .i64 t315] (by rfl) rfl rfl (by (try simp only [List.map_toArray, List.map_cons, List.map_nil]); first | done | rfl | (simp only [List.length_drop, List.length_take]; rfl)) ?_
       with_reducible refine (spec_Torn.calls k1 _ _ ((rd_T74 l0_0 x8_1).f2) t314 t315 t316 _ ?side1 ?side2 A19.out).mono ?_
       (case side1 => repeat (first | exact (C_below HR312_2.out Zs) | (with_reducible refine C_alloc ?_ _) | (with_reducible refine C_drewN ?_ _) | (with_reducible refine C_drew ?_)))
       (case side2 => exact HC312_2.out)
       rintro e w32 ⟨v317, rfl, ho0, hb⟩
       refine ⟨_, rfl, ?_⟩
       replace HO_311000 := Zh (S_elder' (ZS HO_311000.out) (R_base ho0) hb)
       have HO318 := Zh (R_lower ho0 (below_size Zs))
       replace BK308 := Zh (Zm (g := gb308) (o := .cells #[.slice (some ad312) l0_0.length c0_0] 29 (0, 0)) Zk hb)
       replace BK309 := Zh (Zm (g := gb309) (o := .cells #[.slice none 0 0] 29 (0, 0)) Zk hb)
       replace BK310 := Zh (Zm (g := gb310) (o := .cells #[u311000] 29 (0, 0)) Zk hb)
       replace BK313 := Zh (Zm (g := gb313) (o := .cells #[.string ((rd_T74 l0_0 x8_1).f0), .slice A312_1 ((rd_T74 l0_0 x8_1).f1).length c312_1, .slice A312_2 ((rd_T74 l0_0 x8_1).f2).length c312_2] 74 (0, 0)) Zk hb)
       replace HB := Zh (Zl Zs hb)
       (try clear hb)
       (try clear hb2)
       (try clear hk)
       (try clear hi)
       (try clear ho0)
       obtain ⟨Ao33, co33, eo33⟩ := R_slice HO318.out
       (first | subst eo33 | (injection eo33 with f1_ f2_ f3_; have f4_ := f1_.symm; have f5_ := f3_.symm; clear f1_ f2_ f3_; subst f4_; subst f5_))
       refine hK.out _ _ ⟨(blk_cell BK310.out 0).trans rfl, (blk_cell BK313.out 0).trans rfl, (blk_cell BK313.out 1).trans rfl, (blk_cell BK313.out 2).trans rfl⟩ (fun hHeld => ?_)
       clear hK K
       refine norm_ (a' := ?_) ?_ ?_
       rotate_left
       ·
        show Act.put _ (some 41) _ = _
        simp only [Act.put, List.setIfInBounds_toArray, List.set_cons_zero, List.set_cons_succ, i64_w, i32_w]
        rfl
       refine one_ (i := 15) (N := some 42) #[true, true, true, true, true, true, true, true, true, true, true, true, true, true, true, true, false, false, false, false, false] rfl rfl (one_of HT_.out (by kernel_rfl)) (by decide) (fun K hK => ?_)
       refine goes_ Tryd.func62 (by kernel_rfl) rfl #[.slice A312_1 ((rd_T74 l0_0 x8_1).f1).length c312_1, .slice Ao33 t316.length co33] (by rfl) rfl rfl (by (try simp only [List.map_toArray, List.map_cons, List.map_nil]); first | done | rfl | (simp only [List.length_drop, List.length_take]; rfl)) ?_
       with_reducible refine (spec_l01Join.calls k1 _ _ ((rd_T74 l0_0 x8_1).f1) _ _ t316 t319 _ ?side1 ?side2 ?side3 ?side4 A20.out).mono ?_
       (case side1 => repeat (first | exact (C_below HR312_1.out HB.out) | (with_reducible refine C_alloc ?_ _) | (with_reducible refine C_drewN ?_ _) | (with_reducible refine C_drew ?_)))
       (case side2 => exact HC312_1.out)
       (case side3 => repeat (first | exact (R_reads' HO318.out).2.2 | (with_reducible refine C_alloc ?_ _) | (with_reducible refine C_drewN ?_ _) | (with_reducible refine C_drew ?_)))
       (case side4 => exact (R_reads' HO318.out).2.1)
       rintro e w34 ⟨v320, rfl, ho0, hb⟩
       refine ⟨_, rfl, ?_⟩
       replace HO_311000 := Zh (S_elder' (ZS HO_311000.out) (R_base ho0) hb)
       have HO321 := Zh (R_lower (R_new' ho0 (R_lt (ZR HO318.out))) (below_size Zs))
       replace HO318 := Zh (R_elder' (ZR HO318.out) (R_base ho0) hb)
       replace BK308 := Zh (Zm (g := gb308) (o := .cells #[.slice (some ad312) l0_0.length c0_0] 29 (0, 0)) Zk hb)
       replace BK309 := Zh (Zm (g := gb309) (o := .cells #[.slice none 0 0] 29 (0, 0)) Zk hb)
       replace BK310 := Zh (Zm (g := gb310) (o := .cells #[u311000] 29 (0, 0)) Zk hb)
       replace BK313 := Zh (Zm (g := gb313) (o := .cells #[.string ((rd_T74 l0_0 x8_1).f0), .slice A312_1 ((rd_T74 l0_0 x8_1).f1).length c312_1, .slice A312_2 ((rd_T74 l0_0 x8_1).f2).length c312_2] 74 (0, 0)) Zk hb)
       replace HB := Zh (Zl Zs hb)
       (try clear hb)
       (try clear hb2)
       (try clear hk)
       (try clear hi)
       (try clear ho0)
       obtain ⟨Ao35, co35, eo35⟩ := R_slice HO321.out
       (first | subst eo35 | (injection eo35 with f1_ f2_ f3_; have f4_ := f1_.symm; have f5_ := f3_.symm; clear f1_ f2_ f3_; subst f4_; subst f5_))
       refine hK.out _ _ ⟨(blk_cell BK310.out 0).trans rfl, (blk_cell BK313.out 0).trans rfl, (blk_cell BK313.out 1).trans rfl, (blk_cell BK313.out 2).trans rfl⟩ (fun hHeld => ?_)
       clear hK K
       refine norm_ (a' := ?_) ?_ ?_
       rotate_left
       ·
        show Act.put _ (some 42) _ = _
        simp only [Act.put, List.setIfInBounds_toArray, List.set_cons_zero, List.set_cons_succ, i64_w, i32_w]
        rfl
       refine SQ.pu 16 43 HT_ ?_
       refine one_ (i := 17) (N := some 44) #[true, true, true, true, true, true, true, true, true, true, true, true, true, true, true, true, true, true, false, false, false] rfl rfl (one_of HT_.out (by kernel_rfl)) (by decide) (fun K hK => ?_)
       refine value_ (w1 := ?_) (v := ?_) (by rfl) rfl ?_ ?_
       rotate_left 2
       ·
        go_simp
        constructor
        ·
         rfl
        rfl
       refine hK.out _ _ ⟨(blk_cell (blk_alloc BK310.out _) 0).trans rfl, (blk_cell (blk_alloc BK313.out _) 0).trans rfl, (blk_cell (blk_alloc BK313.out _) 1).trans rfl, (blk_cell (blk_alloc BK313.out _) 2).trans rfl⟩ (fun hHeld => ?_)
       clear hK K
       refine norm_ (a' := ?_) ?_ ?_
       rotate_left
       ·
        show Act.put _ (some 44) _ = _
        simp only [Act.put, List.setIfInBounds_toArray, List.set_cons_zero, List.set_cons_succ, i64_w, i32_w]
        rfl
       refine one_ (i := 18) (N := some 45) #[true, true, true, true, true, true, true, true, true, true, true, true, true, true, true, true, true, true, true, false, false] rfl rfl (one_of HT_.out (by kernel_rfl)) (by decide) (fun K hK => ?_)
       refine S_append_step k74 (w0 := w) w.heap.size (by rfl) (.tmp 28) (.tmp 44) 27 74 (.agg #[(.string ⟨#[]⟩), (.slice none 0 0), (.slice none 0 0)]) 64 rfl Tryd.underlying27 info74 rfl (by decide) (by omega) u311000 x311000_1 (⟨(rd_T74 l0_0 x8_1).f0, t319, ([] : List Int)⟩ : S74) [.string ((rd_T74 l0_0 x8_1).f0), .slice Ao35 t319.length co35, .slice none 0 0] (fun k_ => some k_ ≠ (.slice Ao33 t316.length co33 : Value).ownBlock ∧ k_ ≠ gb313) (fun k_ => some k_ = (.slice Ao35 t319.length co35 : Value).ownBlock) rfl rfl ?aP (fun k_ hk_ => ((R_mono (ok' := fun k_ => ((fun k_ => some k_ ≠ (.slice Ao33 t316.length co33 : Value).ownBlock ∧ k_ ≠ gb313)) k_ ∧ some k_ ≠ (u311000 : Value).ownBlock) (R_types (R_apart' (HO321.out) (S_typed HO_311000.out) (by decide)) BK313.out (by decide)) (fun k_ hk => ⟨⟨hk.1.1.2, hk.2⟩, hk.1.2⟩))).1 k_ hk_.symm) ?aF ?aO ?aB ?aS ?aL ?_
       (case aP => exact k74_mkM _ _ _ (⟨(rd_T74 l0_0 x8_1).f0, t319, ([] : List Int)⟩ : S74) (R_mono (R_tight rfl (R_mono (ok' := fun k_ => ((fun k_ => some k_ ≠ (.slice Ao33 t316.length co33 : Value).ownBlock ∧ k_ ≠ gb313)) k_ ∧ some k_ ≠ (u311000 : Value).ownBlock) (R_types (R_apart' (HO321.out) (S_typed HO_311000.out) (by decide)) BK313.out (by decide)) (fun k_ hk => ⟨⟨hk.1.1.2, hk.2⟩, hk.1.2⟩))) (fun _ h_ => h_)) (R_nil _ _ _ _ _) AP.nil_ne)
       (case aB => exact Zs)
       (case aF => exact (fun k_ hk => ⟨Kd.fresh' (R_lt (ZR HO318.out)) k_ hk, Kd.freshB (g := gb313) (o := .cells #[.string ((rd_T74 l0_0 x8_1).f0), .slice A312_1 ((rd_T74 l0_0 x8_1).f1).length c312_1, .slice A312_2 ((rd_T74 l0_0 x8_1).f2).length c312_2] 74 (0, 0)) Zk k_ hk⟩))
       (case aO => exact (ZS (S_mono HO_311000.out (fun k_ hk => ⟨⟨hk.1.2, hk.1.1⟩, fun e_ => hk.2 e_⟩))))
       (case aS => exact (below_size Zs))
       (case aL => have := LMc21.out; omega)
       intro v323 w36 ho hb hg hat
       rw [← Ny322.out] at ho
       have n0_ := Zh (blk_grown (g := gb308) (o := .cells #[.slice (some ad312) l0_0.length c0_0] 29 (0, 0)) Zk hg (S_ne HO_311000.out BK308.out (by decide)))
       have n1_ := Zh (blk_grown (g := gb309) (o := .cells #[.slice none 0 0] 29 (0, 0)) Zk hg (S_ne HO_311000.out BK309.out (by decide)))
       have n2_ := Zh (blk_grown (g := gb310) (o := .cells #[u311000] 29 (0, 0)) Zk hg (S_ne HO_311000.out BK310.out (by decide)))
       have n3_ := Zh (blk_grown (g := gb313) (o := .cells #[.string ((rd_T74 l0_0 x8_1).f0), .slice A312_1 ((rd_T74 l0_0 x8_1).f1).length c312_1, .slice A312_2 ((rd_T74 l0_0 x8_1).f2).length c312_2] 74 (0, 0)) Zk hg (S_away HO_311000.out (fun _ hk => hk.1.1)))
       have n4_ := Zh (R_over' (ZR HO318.out) (S_typed (ZS HO_311000.out)) (by decide) hg)
       have n5_ := Zh (hb)
       have n6_ := Zh (ho)
       clear BK308
       clear BK309
       clear BK310
       clear BK313
       clear HO318
       clear HB
       clear HO_311000
       clear HO321
       have BK308 := n0_
       have BK309 := n1_
       have BK310 := n2_
       have BK313 := n3_
       have HO318 := n4_
       have HB := n5_
       have HO324 := n6_
       clear n0_ n1_ n2_ n3_ n4_ n5_ n6_
       clear ho hb hg hat
       obtain ⟨Ao37, co37, eo37⟩ := S_slice HO324.out
       (first | subst eo37 | (injection eo37 with f1_ f2_ f3_; have f4_ := f1_.symm; have f5_ := f3_.symm; clear f1_ f2_ f3_; subst f4_; subst f5_))
       refine hK.out _ _ ⟨(blk_cell BK310.out 0).trans rfl, (blk_cell BK313.out 0).trans rfl, (blk_cell BK313.out 1).trans rfl, (blk_cell BK313.out 2).trans rfl⟩ (fun hHeld => ?_)
       clear hK K
       refine norm_ (a' := ?_) ?_ ?_
       rotate_left
       ·
        show Act.put _ (some 45) _ = _
        simp only [Act.put, List.setIfInBounds_toArray, List.set_cons_zero, List.set_cons_succ, i64_w, i32_w]
        rfl
       refine SQ.pu 19 46 HT_ ?_
       refine last_ (i := 20) (N := none) #[true, true, true, true, true, true, true, true, true, true, true, true, true, true, true, true, true, true, true, true, true] rfl rfl (one_of HT_.out (by kernel_rfl)) (by decide) (fun K hK => ?_)
       have hs38 : w36.cell? ⟨gb310, 0, none⟩ = some (u311000) := (blk_cell BK310.out 0).trans rfl
       have hfs38 := Zn BK310.out 0
       have hns38_0 := NB308_310.out
       have hns38_1 := NB309_310.out
       have hns38_3 := NB313_310.out
       have hms38_0 := NB310_308.out
       have hms38_1 := NB310_309.out
       have hms38_3 := NB310_313.out
       refine skip_ (w1 := ?_) (by rfl) rfl ?_ ?_
       rotate_left
       ·
        go_simp
        rfl
       refine hK.out _ _ ?_
       clear hK K
       refine done_ (done_of HT_.out (by kernel_rfl)) ?_
       try go_wp2
       go_roundg k1
       case measure => have := HK1.out; omega
       case rel => exact ⟨(wrap64 (x8_1 + 1)), (y322), (.slice Ao37 y322.length co37), (by first | rfl | (simp; done) | (simp [*]; done)), H', ⟨by have := HK1.out; omega⟩, ⟨ZS (S_mono (S_far (p := ⟨gb310, 0, none⟩) (S_types HO324.out BK310.out (by decide)) (fun _ hk => hk.2) (.slice Ao37 y322.length co37)) (fun _ hk => trivial))⟩, ⟨by (with_reducible repeat (first | refine Za ?_ _ | refine Zb ?_ | refine blk_alloc ?_ _)); refine blk_far ?_ NB308_310.out _; (with_reducible repeat (first | refine Za ?_ _ | refine Zb ?_ | refine blk_alloc ?_ _)); exact BK308.out⟩, ⟨by (with_reducible repeat (first | refine Za ?_ _ | refine Zb ?_ | refine blk_alloc ?_ _)); refine blk_far ?_ NB309_310.out _; (with_reducible repeat (first | refine Za ?_ _ | refine Zb ?_ | refine blk_alloc ?_ _)); exact BK309.out⟩, ⟨by (with_reducible repeat (first | refine Za ?_ _ | refine Zb ?_ | refine blk_alloc ?_ _)); refine blk_put (cs := #[u311000]) ?_ 0 _ rfl; (with_reducible repeat (first | refine Za ?_ _ | refine Zb ?_ | refine blk_alloc ?_ _)); exact BK310.out⟩, ⟨Zs⟩⟩
      rw [if_neg c21] at H
      exact absurd H (by simp)
     rw [if_neg c16] at H
     exact absurd H (by simp)
    rw [if_neg c15] at H
    have c15b0 : decide (x8_1 < (l0_0.length : Int)) = false := decide_eq_false c15
    clear c15
    obtain rfl := Option.some.inj H
    have hnb39 := NB308_309.out
    have hnc39 := NB309_308.out
    have hnb40 := NB308_310.out
    have hnc40 := NB310_308.out
    have hcz41_0 : wr.cell? ⟨gb308, 0, none⟩ = some (.slice A0_0 l0_0.length c0_0) := (blk_cell BK308.out 0).trans rfl
    have hfz41_0 := Zn BK308.out 0
    have hnb42 := NB310_309.out
    have hnc42 := NB309_310.out
    have hcz43_0 : wr.cell? ⟨gb310, 0, none⟩ = some (u311000) := (blk_cell BK310.out 0).trans rfl
    have hfz43_0 := Zn BK310.out 0
    obtain ⟨Ao44, co44, eo44⟩ := S_slice HO_311000.out
    subst eo44
    have hcz45_0 : wr.cell? ⟨gb309, 0, none⟩ = some (.slice none 0 0) := (blk_cell BK309.out 0).trans rfl
    have hfz45_0 := Zn BK309.out 0
    go_wp2
    refine Zq (results_cell_row rfl _ _ gb309 29 #[.slice Ao44 x311000_1.length co44] (0, 0) _ rfl (by (with_reducible repeat (first | refine Za ?_ _ | refine Zb ?_ | refine blk_alloc ?_ _)); refine blk_put (cs := #[.slice none 0 0]) ?_ 0 _ rfl; (with_reducible repeat (first | refine Za ?_ _ | refine Zb ?_ | refine blk_alloc ?_ _)); exact BK309.out) Tryd.underlying29 rfl (by kernel_rfl)) rfl ?_
    exact ⟨_, ZE, ZS (S_mono (S_far (p := ⟨gb309, 0, none⟩) (S_types HO_311000.out BK309.out (by decide)) (fun _ hk => hk.2) (.slice Ao44 x311000_1.length co44)) (fun _ hk => trivial)), Zs⟩
 replace c5 := Bool.eq_false_iff.mpr c5
 subst c5
 have H1 : (some ([] : List (S74))) = some r := by rw [if_neg (show ¬ (false = true) by decide)] at H; exact H
 clear H
 have H := H1
 clear H1
 obtain rfl := Option.some.inj H
 go_enter Tryd.func32, Tryd.ntmps32
 go_wp2_with (first | ((with_reducible refine gate_dst (N := 3) rfl ?_); refine box_event ?hg (N := 3) ?hd (cs := #[.slice A0_0 l0_0.length c0_0]) (t := 29) ?hr ?_; (case hd => rfl); (case hg => rfl); (case hr => first | (go_simp; done) | (go_simp; rfl)); intro gb308 hg w46 hbox hb; have BK308 := Zh (hbox); have GW308 := Zh ((by rw [hg]; exact (below_size Zs) : w.heap.size ≤ gb308)); have GE308 := Zh ((by rw [hg]; exact (below_size Zs) : w.heap.size ≤ gb308)); replace HB := Zh (Zl Zs hb); clear hb hbox hg) | ((with_reducible refine gate_dst (N := 6) rfl ?_); refine box_event ?hg (N := 6) ?hd (cs := #[.slice none 0 0]) (t := 29) ?hr ?_; (case hd => rfl); (case hg => rfl); (case hr => first | (go_simp; done) | (go_simp; rfl)); intro gb309 hg w47 hbox hb; have BK309 := Zh (hbox); have GW309 := Zh ((by rw [hg]; exact (below_size Zs) : w.heap.size ≤ gb309)); have GE309 := Zh ((by rw [hg]; exact (below_size Zs) : w.heap.size ≤ gb309)); replace HB := Zh (Zl Zs hb); have NB308_309 := Zh ((by rw [hg]; exact Nat.ne_of_lt (blk_lt (g := gb308) (o := .cells #[.slice A0_0 l0_0.length c0_0] 29 (0, 0)) Zk) : gb308 ≠ gb309)); have NB309_308 := Zh ((by rw [hg]; exact Nat.ne_of_gt (blk_lt (g := gb308) (o := .cells #[.slice A0_0 l0_0.length c0_0] 29 (0, 0)) Zk) : gb309 ≠ gb308)); replace BK308 := Zh (Zm (g := gb308) (o := .cells #[.slice A0_0 l0_0.length c0_0] 29 (0, 0)) Zk hb); clear hb hbox hg) | ((with_reducible refine gate_dst (N := 7) rfl ?_); refine box_event ?hg (N := 7) ?hd (cs := #[.slice none 0 0]) (t := 29) ?hr ?_; (case hd => rfl); (case hg => rfl); (case hr => first | (go_simp; done) | (go_simp; rfl)); intro gb310 hg w48 hbox hb; have BK310 := Zh (hbox); have GW310 := Zh ((by rw [hg]; exact (below_size Zs) : w.heap.size ≤ gb310)); have GE310 := Zh ((by rw [hg]; exact (below_size Zs) : w.heap.size ≤ gb310)); replace HB := Zh (Zl Zs hb); have NB308_310 := Zh ((by rw [hg]; exact Nat.ne_of_lt (blk_lt (g := gb308) (o := .cells #[.slice A0_0 l0_0.length c0_0] 29 (0, 0)) Zk) : gb308 ≠ gb310)); have NB310_308 := Zh ((by rw [hg]; exact Nat.ne_of_gt (blk_lt (g := gb308) (o := .cells #[.slice A0_0 l0_0.length c0_0] 29 (0, 0)) Zk) : gb310 ≠ gb308)); replace BK308 := Zh (Zm (g := gb308) (o := .cells #[.slice A0_0 l0_0.length c0_0] 29 (0, 0)) Zk hb); have NB309_310 := Zh ((by rw [hg]; exact Nat.ne_of_lt (blk_lt (g := gb309) (o := .cells #[.slice none 0 0] 29 (0, 0)) Zk) : gb309 ≠ gb310)); have NB310_309 := Zh ((by rw [hg]; exact Nat.ne_of_gt (blk_lt (g := gb309) (o := .cells #[.slice none 0 0] 29 (0, 0)) Zk) : gb310 ≠ gb309)); replace BK309 := Zh (Zm (g := gb309) (o := .cells #[.slice none 0 0] 29 (0, 0)) Zk hb); clear hb hbox hg; have hnb49 := NB310_308.out; have hnc49 := NB308_310.out; have hnb50 := NB310_309.out; have hnc50 := NB309_310.out; have hcz51_0 : w48.cell? ⟨gb310, 0, none⟩ = some (.slice none 0 0) := (blk_cell BK310.out 0).trans rfl; have hfz51_0 := Zn BK310.out 0; have hnb52 := NB308_309.out; have hnc52 := NB309_308.out; have hcz53_0 : w48.cell? ⟨gb308, 0, none⟩ = some (.slice A0_0 l0_0.length c0_0) := (blk_cell BK308.out 0).trans rfl; have hfz53_0 := Zn BK308.out 0) | ((with_reducible refine gate_callee (f := 15) rfl ?_); refine ZG (some 12) Tryd.func15 #[.agg #[.slice A0_0 l0_0.length c0_0]] rfl ?_; (with_reducible refine (spec_DiskOk.calls k _ _ l0_0 false _ ?side1 ?side2 A4.out).mono ?_); (case side1 => exact C_below HR0_0.out Zs); (case side2 => exact HC0_0.out); rintro e w54 ⟨rfl, hb⟩; refine ⟨_, rfl, ?_⟩; replace BK308 := Zh (Zm (g := gb308) (o := .cells #[.slice A0_0 l0_0.length c0_0] 29 (0, 0)) (by (with_reducible repeat (first | refine Za ?_ _ | refine Zb ?_ | refine blk_alloc ?_ _)); refine blk_far ?_ NB308_310.out _; (with_reducible repeat (first | refine Za ?_ _ | refine Zb ?_ | refine blk_alloc ?_ _)); exact BK308.out) hb); replace BK309 := Zh (Zm (g := gb309) (o := .cells #[.slice none 0 0] 29 (0, 0)) (by (with_reducible repeat (first | refine Za ?_ _ | refine Zb ?_ | refine blk_alloc ?_ _)); refine blk_far ?_ NB309_310.out _; (with_reducible repeat (first | refine Za ?_ _ | refine Zb ?_ | refine blk_alloc ?_ _)); exact BK309.out) hb); replace BK310 := Zh (Zm (g := gb310) (o := .cells #[.slice none 0 0] 29 (0, 0)) (by (with_reducible repeat (first | refine Za ?_ _ | refine Zb ?_ | refine blk_alloc ?_ _)); refine blk_put (cs := #[.slice none 0 0]) ?_ 0 _ rfl; (with_reducible repeat (first | refine Za ?_ _ | refine Zb ?_ | refine blk_alloc ?_ _)); exact BK310.out) hb); replace HB := Zh (Zl Zs hb); (try clear hb); (try clear hb2); (try clear hk); (try clear hi); have hcz55_0 : w54.cell? ⟨gb310, 0, none⟩ = some (.slice none 0 0) := (blk_cell BK310.out 0).trans rfl; have hfz55_0 := Zn BK310.out 0; have hcz56_0 : w54.cell? ⟨gb309, 0, none⟩ = some (.slice none 0 0) := (blk_cell BK309.out 0).trans rfl; have hfz56_0 := Zn BK309.out 0))
 refine Zq (results_cell_row rfl _ _ gb309 29 #[.slice none 0 0] (0, 0) _ rfl (by (with_reducible repeat (first | refine Za ?_ _ | refine Zb ?_ | refine blk_alloc ?_ _)); refine blk_put (cs := #[.slice none 0 0]) ?_ 0 _ rfl; (with_reducible repeat (first | refine Za ?_ _ | refine Zb ?_ | refine blk_alloc ?_ _)); exact BK309.out) Tryd.underlying29 rfl (by kernel_rfl)) rfl ?_
 exact ⟨_, ZE, by first | exact S_nil _ _ _ _ _ | exact N_nil _ _ _ _ _ | exact V_nil _ _ _ _ _ | exact Q_nil _ _ _ _ _ | exact R_nil _ _ _ _ _, Zs⟩
def laws_sameDisk.l0 : Nat → Int → List (S74) → List (S74) → Option (Bool)
 | 0, _, _, _ => none
 | k + 1, x5, x673000, x674000 => if x5 < (x673000.length : Int) then (if 0 ≤ x5 then (if x5 < (x674000.length : Int) then (if ((rd_T74 x673000 x5).f0).toList = ((rd_T74 x674000 x5).f0).toList then (if (strOfNums ((rd_T74 x673000 x5).f1)).toList = (strOfNums ((rd_T74 x674000 x5).f1)).toList then (if (strOfNums ((rd_T74 x673000 x5).f2)).toList = (strOfNums ((rd_T74 x674000 x5).f2)).toList then (laws_sameDisk.l0 k (wrap64 (x5 + 1)) x673000 x674000) else (some false)) else (some false)) else (some false)) else (none)) else (none)) else (some true)
def laws_sameDisk.f (k : Nat) (l0_0 : List (S74)) (l1_0 : List (S74)) : Option (Bool) := if (l0_0.length : Int) = (l1_0.length : Int) then (laws_sameDisk.l0 k 0 l0_0 l1_0) else (some false)
def laws_sameDisk.T6 : Bool × List (List Nat × List Nat) := (true, [([], []), ([0], [0]), ([], []), ([1, 2], [1, 2]), ([3], [3]), ([], []), ([5], [5]), ([], []), ([6, 7], [6, 7]), ([8], [8]), ([], []), ([], []), ([10, 4, 0, 1, 2, 3, 4, 10, 11], [4, 10]), ([11, 9, 12, 0, 1, 2, 3, 4, 5, 6, 7, 8, 9, 10, 11, 12], [9, 11])])
def laws_sameDisk.B6 : List Nat := [0, 1, 0, 7, 15, 0, 32, 0, 224, 480, 0, 0, 3103, 8191]
theorem laws_sameDisk.tab6 : rtab .any (opsOf Tryd.f54 6) = laws_sameDisk.T6 := by kernel_rfl
theorem laws_sameDisk.bits6 : waitsOk laws_sameDisk.T6.2 laws_sameDisk.B6 = true := by kernel_rfl
set_option maxHeartbeats 8000000 in
set_option maxRecDepth 100000 in
theorem laws_sameDisk.calls (k : Nat) (A0_0 : Option Addr) (c0_0 : Nat) (l0_0 : List (S74)) (A1_0 : Option Addr) (c1_0 : Nat) (l1_0 : List (S74)) (r : Bool) (w : World) (hr0_0 : Kd.C k74 w A0_0 l0_0.length l0_0) (hc0_0 : l0_0.length ≤ c0_0) (hr1_0 : Kd.C k74 w A1_0 l1_0.length l1_0) (hc1_0 : l1_0.length ≤ c1_0) (h : laws_sameDisk.f k l0_0 l1_0 = some r) :
  Calls Tryd.prog 54 #[.agg #[.slice A0_0 l0_0.length c0_0], .agg #[.slice A1_0 l1_0.length c1_0]] w fun e w' => e = .returned (.bool r) ∧ Below w.heap.size w w' := by
 have hu29 := Tryd.underlying29
 have hu74 := Tryd.underlying74
 have HR0_0 := Zh hr0_0
 have HC0_0 := Zh hc0_0
 clear hr0_0 hc0_0
 have HR1_0 := Zh hr1_0
 have HC1_0 := Zh hc1_0
 clear hr1_0 hc1_0
 have HB := Zh (Below.refl w.heap.size w)
 have H : (if (l0_0.length : Int) = (l1_0.length : Int) then (laws_sameDisk.l0 k 0 l0_0 l1_0) else (some false)) = some r := h
 clear h
 by_cases c3 : (l0_0.length : Int) = (l1_0.length : Int)
 ·
  rw [if_pos c3] at H
  have c3b0 : ((l0_0.length : Int) == (l1_0.length : Int)) = true := beq_iff_eq.mpr c3
  have c3b1 : ((l0_0.length : Int) != (l1_0.length : Int)) = false := bne_eq_false_iff_eq.mpr c3
  have c3b2 : (l0_0.length == l1_0.length) = true := by first | simpa using c3 | (simp at c3 ⊢; omega)
  clear c3
  have H' := Zh H
  clear H
  go_enter Tryd.func54, Tryd.ntmps54
  go_wp2_with (first | ((with_reducible refine gate_dst (N := 2) rfl ?_); refine box_event ?hg (N := 2) ?hd (cs := #[.slice A0_0 l0_0.length c0_0]) (t := 29) ?hr ?_; (case hd => rfl); (case hg => rfl); (case hr => first | (go_simp; done) | (go_simp; rfl)); intro gb672 hg w4 hbox hb; have BK672 := Zh (hbox); have GW672 := Zh ((by rw [hg]; exact (below_size Zs) : w.heap.size ≤ gb672)); have GE672 := Zh ((by rw [hg]; exact (below_size Zs) : w.heap.size ≤ gb672)); replace HB := Zh (Zl Zs hb); clear hb hbox hg) | ((with_reducible refine gate_dst (N := 3) rfl ?_); refine box_event ?hg (N := 3) ?hd (cs := #[.slice A1_0 l1_0.length c1_0]) (t := 29) ?hr ?_; (case hd => rfl); (case hg => rfl); (case hr => first | (go_simp; done) | (go_simp; rfl)); intro gb673 hg w5 hbox hb; have BK673 := Zh (hbox); have GW673 := Zh ((by rw [hg]; exact (below_size Zs) : w.heap.size ≤ gb673)); have GE673 := Zh ((by rw [hg]; exact (below_size Zs) : w.heap.size ≤ gb673)); replace HB := Zh (Zl Zs hb); have NB672_673 := Zh ((by rw [hg]; exact Nat.ne_of_lt (blk_lt (g := gb672) (o := .cells #[.slice A0_0 l0_0.length c0_0] 29 (0, 0)) Zk) : gb672 ≠ gb673)); have NB673_672 := Zh ((by rw [hg]; exact Nat.ne_of_gt (blk_lt (g := gb672) (o := .cells #[.slice A0_0 l0_0.length c0_0] 29 (0, 0)) Zk) : gb673 ≠ gb672)); replace BK672 := Zh (Zm (g := gb672) (o := .cells #[.slice A0_0 l0_0.length c0_0] 29 (0, 0)) Zk hb); clear hb hbox hg; have hnb6 := NB672_673.out; have hnc6 := NB673_672.out; have hcz7_0 : w5.cell? ⟨gb672, 0, none⟩ = some (.slice A0_0 l0_0.length c0_0) := (blk_cell BK672.out 0).trans rfl; have hfz7_0 := Zn BK672.out 0; have hcz8_0 : w5.cell? ⟨gb673, 0, none⟩ = some (.slice A1_0 l1_0.length c1_0) := (blk_cell BK673.out 0).trans rfl; have hfz8_0 := Zn BK673.out 0))
  go_loopg [5] k (fun kq v5 w' => ∃ (x5_1 : Int), v5 = .int .i64 x5_1 ∧ Aside0 (laws_sameDisk.l0 kq x5_1 l0_0 l1_0 = some r) ∧ Aside0 (kq ≤ k) ∧ Aside0 (w'.heap[gb672]? = some (.cells #[(.slice A0_0 l0_0.length c0_0)] 29 (0, 0))) ∧ Aside0 (w'.heap[gb673]? = some (.cells #[(.slice A1_0 l1_0.length c1_0)] 29 (0, 0))) ∧ Aside0 (Below w.heap.size w w'))
  case atStart => exact ⟨(0), (by first | rfl | (simp; done) | (simp [*]; done)), H', ⟨Nat.le_refl _⟩, ⟨Zk⟩, ⟨Zk⟩, ⟨Zs⟩⟩
  case round =>
   clear H'
   try clear c1
   try clear p2
   try clear c3
   try clear c3b0
   try clear c3b1
   try clear c3b2
   try clear c5
   try clear c6
   try clear hcz7_0
   try clear hcz8_0
   try clear hfz7_0
   try clear hfz8_0
   obtain ⟨x5_1, rfl, HA, HK1, BK672, BK673, HB⟩ := hrel
   cases gk with
   | zero => exact absurd HA.out (by simp [laws_sameDisk.l0])
   | succ k1 =>
    have H := HA.out
    clear HA
    simp only [laws_sameDisk.l0] at H
    by_cases c9 : x5_1 < (l0_0.length : Int)
    ·
     rw [if_pos c9] at H
     have c9b0 : decide (x5_1 < (l0_0.length : Int)) = true := decide_eq_true c9
     clear c9
     by_cases c10 : 0 ≤ x5_1
     ·
      rw [if_pos c10] at H
      have c10b0 : decide (0 ≤ x5_1) = true := decide_eq_true c10
      clear c10
      by_cases c11 : x5_1 < (l1_0.length : Int)
      ·
       rw [if_pos c11] at H
       have c11b0 : decide (x5_1 < (l1_0.length : Int)) = true := decide_eq_true c11
       clear c11
       have HX_ := Zh H
       clear H
       have hnb15 := NB672_673.out
       have hnc15 := NB673_672.out
       have hcz16_0 : wr.cell? ⟨gb672, 0, none⟩ = some (.slice A0_0 l0_0.length c0_0) := (blk_cell BK672.out 0).trans rfl
       have hfz16_0 := Zn BK672.out 0
       try go_wp2
       replace BK672 := Zh (Zb BK672.out)
       replace BK673 := Zh (Zb BK673.out)
       replace HB := Zh (Ze HB.out)
       have p674 : 0 ≤ (x5_1 : Int) := Zo
       have q674 : x5_1 < (l0_0.length : Int) := Zo
       obtain ⟨ad674, A674_1, c674_1, A674_2, c674_2, e674, hx674_0, hx674_1, hx674_2, hl674_1, hi674_1, hl674_2, hi674_2⟩ := at_T74 HR0_0.out x5_1 p674 q674
       have hw674_2 := hx674_2
       have hw674_1 := hx674_1
       have hw674_0 := hx674_0
       cases e674
       replace hx674_0 := Zc HB.out hx674_0
       replace hx674_1 := Zc HB.out hx674_1
       replace hx674_2 := Zc HB.out hx674_2
       have HR674_1 := Zh hi674_1
       have HC674_1 := Zh hl674_1
       clear hi674_1 hl674_1
       have HR674_2 := Zh hi674_2
       have HC674_2 := Zh hl674_2
       clear hi674_2 hl674_2
       replace p674 := eq_true p674
       replace q674 := eq_true q674
       have p675 : 0 ≤ (x5_1 : Int) := Zo
       have q675 : x5_1 < (l1_0.length : Int) := Zo
       obtain ⟨ad675, A675_1, c675_1, A675_2, c675_2, e675, hx675_0, hx675_1, hx675_2, hl675_1, hi675_1, hl675_2, hi675_2⟩ := at_T74 HR1_0.out x5_1 p675 q675
       have hw675_2 := hx675_2
       have hw675_1 := hx675_1
       have hw675_0 := hx675_0
       cases e675
       replace hx675_0 := Zc HB.out hx675_0
       replace hx675_1 := Zc HB.out hx675_1
       replace hx675_2 := Zc HB.out hx675_2
       have HR675_1 := Zh hi675_1
       have HC675_1 := Zh hl675_1
       clear hi675_1 hl675_1
       have HR675_2 := Zh hi675_2
       have HC675_2 := Zh hl675_2
       clear hi675_2 hl675_2
       replace p675 := eq_true p675
       replace q675 := eq_true q675
       refine start_ (n := 14) (S := fun w' => w'.cell? ⟨gb672, 0, none⟩ = some (.slice (some ad674) l0_0.length c0_0) ∧ w'.cell? ⟨gb673, 0, none⟩ = some (.slice (some ad675) l1_0.length c1_0) ∧ w'.cell? (ad674.add ((x5_1).toNat * 3)) = some (.string ((rd_T74 l0_0 x5_1).f0)) ∧ w'.cell? ⟨(ad674.add ((x5_1).toNat * 3)).block, (ad674.add ((x5_1).toNat * 3)).off + 1, none⟩ = some (.slice A674_1 ((rd_T74 l0_0 x5_1).f1).length c674_1) ∧ w'.cell? ⟨(ad674.add ((x5_1).toNat * 3)).block, (ad674.add ((x5_1).toNat * 3)).off + 2, none⟩ = some (.slice A674_2 ((rd_T74 l0_0 x5_1).f2).length c674_2) ∧ w'.cell? (ad675.add ((x5_1).toNat * 3)) = some (.string ((rd_T74 l1_0 x5_1).f0)) ∧ w'.cell? ⟨(ad675.add ((x5_1).toNat * 3)).block, (ad675.add ((x5_1).toNat * 3)).off + 1, none⟩ = some (.slice A675_1 ((rd_T74 l1_0 x5_1).f1).length c675_1) ∧ w'.cell? ⟨(ad675.add ((x5_1).toNat * 3)).block, (ad675.add ((x5_1).toNat * 3)).off + 2, none⟩ = some (.slice A675_2 ((rd_T74 l1_0 x5_1).f2).length c675_2)) (ds := []) #[false, false, false, false, false, false, false, false, false, false, false, false, false, false] (by kernel_rfl) rfl rfl ⟨(blk_cell BK672.out 0).trans rfl, (blk_cell BK673.out 0).trans rfl, ((HB.out.cell (Zi w _ hw674_0)).trans hw674_0), ((HB.out.cell (Zi w _ hw674_1)).trans hw674_1), ((HB.out.cell (Zi w _ hw674_2)).trans hw674_2), ((HB.out.cell (Zi w _ hw675_0)).trans hw675_0), ((HB.out.cell (Zi w _ hw675_1)).trans hw675_1), ((HB.out.cell (Zi w _ hw675_2)).trans hw675_2)⟩ (fun hHeld => ?_); refine with_tabW laws_sameDisk.tab6 laws_sameDisk.bits6 (fun HT_ HW_ => ?_)
       generalize wr.drew = w17 at BK672 BK673 HB HR674_1 HR674_2 HR675_1 HR675_2 hx674_0 hx674_1 hx674_2 hx675_0 hx675_1 hx675_2 hHeld ⊢
       refine SQ.pu 0 22 HT_ ?_
       refine SQ.pu 2 24 HT_ ?_
       refine SQ.pu 5 27 HT_ ?_
       refine SQ.pu 7 29 HT_ ?_
       refine SQ.tk 1 23 HT_ HW_ hHeld ?_
       refine SQ.pu 3 25 HT_ ?_
       refine SQ.tk 4 26 HT_ HW_ hHeld ?_
       refine SQ.tk 6 28 HT_ HW_ hHeld ?_
       refine SQ.pu 8 30 HT_ ?_
       refine SQ.tk 9 31 HT_ HW_ hHeld ?_
       refine join_ (σ := Nat × Nat) 2 #[true, true, true, true, true, true, true, true, true, true, true, true, false, false] (fun s_ => [(6, .pointer (some ⟨s_.1, 0, none⟩)), (7, .pointer (some ⟨s_.2, 0, none⟩))]) (fun s_ w' => (w'.cell? ⟨gb672, 0, none⟩ = some (.slice (some ad674) l0_0.length c0_0) ∧ w'.cell? ⟨gb673, 0, none⟩ = some (.slice (some ad675) l1_0.length c1_0) ∧ w'.cell? (ad674.add ((x5_1).toNat * 3)) = some (.string ((rd_T74 l0_0 x5_1).f0)) ∧ w'.cell? ⟨(ad674.add ((x5_1).toNat * 3)).block, (ad674.add ((x5_1).toNat * 3)).off + 1, none⟩ = some (.slice A674_1 ((rd_T74 l0_0 x5_1).f1).length c674_1) ∧ w'.cell? ⟨(ad674.add ((x5_1).toNat * 3)).block, (ad674.add ((x5_1).toNat * 3)).off + 2, none⟩ = some (.slice A674_2 ((rd_T74 l0_0 x5_1).f2).length c674_2) ∧ w'.cell? (ad675.add ((x5_1).toNat * 3)) = some (.string ((rd_T74 l1_0 x5_1).f0)) ∧ w'.cell? ⟨(ad675.add ((x5_1).toNat * 3)).block, (ad675.add ((x5_1).toNat * 3)).off + 1, none⟩ = some (.slice A675_1 ((rd_T74 l1_0 x5_1).f1).length c675_1) ∧ w'.cell? ⟨(ad675.add ((x5_1).toNat * 3)).block, (ad675.add ((x5_1).toNat * 3)).off + 2, none⟩ = some (.slice A675_2 ((rd_T74 l1_0 x5_1).f2).length c675_2)) ∧ (w'.heap[gb672]? = some (.cells #[.slice (some ad674) l0_0.length c0_0] 29 (0, 0))) ∧ (w'.heap[gb673]? = some (.cells #[.slice (some ad675) l1_0.length c1_0] 29 (0, 0))) ∧ (w'.heap[s_.1]? = some (.cells #[.string (⟨#[]⟩ : ByteArray), .slice none 0 0, .slice none 0 0] 74 (0, 0))) ∧ (w'.heap[s_.2]? = some (.cells #[.string (⟨#[]⟩ : ByteArray), .slice none 0 0, .slice none 0 0] 74 (0, 0))) ∧ (w.heap.size ≤ s_.1) ∧ (w.heap.size ≤ s_.1) ∧ (gb672 ≠ s_.1) ∧ (s_.1 ≠ gb672) ∧ (gb673 ≠ s_.1) ∧ (s_.1 ≠ gb673) ∧ (s_.2 ≠ s_.1) ∧ (s_.1 ≠ s_.2) ∧ (w.heap.size ≤ s_.2) ∧ (w.heap.size ≤ s_.2) ∧ (gb672 ≠ s_.2) ∧ (s_.2 ≠ gb672) ∧ (gb673 ≠ s_.2) ∧ (s_.2 ≠ gb673) ∧ (Below w.heap.size w w')) ?_ ?_
       rotate_left
       ·
        intro hCont
        refine two_ (i := 10) (j := 11) (Ni := some 6) (Nj := some 7) #[true, true, true, true, true, true, true, true, true, true, true, false, false, false] #[true, true, true, true, true, true, true, true, true, true, false, true, false, false] rfl rfl rfl rfl (two_of HT_.out (by kernel_rfl)) (by decide) (by decide) (fun K hK => ?_) (fun K hK => ?_)
        ·
         skip
         refine box_step ?hg (N := 6) ?hd (cs := #[.string (⟨#[]⟩ : ByteArray), .slice none 0 0, .slice none 0 0]) (t := 74) ?hr ?_; (case hd => rfl); (case hg => rfl); (case hr => first | (go_simp; done) | (go_simp; rfl))
         intro gb676 hg w18 hbox hb
         have BK676 := Zh (hbox)
         have GW676 := Zh ((by rw [hg]; exact (below_size Zs) : w.heap.size ≤ gb676))
         have GE676 := Zh ((by rw [hg]; exact (below_size Zs) : w.heap.size ≤ gb676))
         replace HB := Zh (Zl Zs hb)
         have NB672_676 := Zh ((by rw [hg]; exact Nat.ne_of_lt (blk_lt (g := gb672) (o := .cells #[.slice (some ad674) l0_0.length c0_0] 29 (0, 0)) Zk) : gb672 ≠ gb676))
         have NB676_672 := Zh ((by rw [hg]; exact Nat.ne_of_gt (blk_lt (g := gb672) (o := .cells #[.slice (some ad674) l0_0.length c0_0] 29 (0, 0)) Zk) : gb676 ≠ gb672))
         replace BK672 := Zh (Zm (g := gb672) (o := .cells #[.slice (some ad674) l0_0.length c0_0] 29 (0, 0)) Zk hb)
         have NB673_676 := Zh ((by rw [hg]; exact Nat.ne_of_lt (blk_lt (g := gb673) (o := .cells #[.slice (some ad675) l1_0.length c1_0] 29 (0, 0)) Zk) : gb673 ≠ gb676))
         have NB676_673 := Zh ((by rw [hg]; exact Nat.ne_of_gt (blk_lt (g := gb673) (o := .cells #[.slice (some ad675) l1_0.length c1_0] 29 (0, 0)) Zk) : gb676 ≠ gb673))
         replace BK673 := Zh (Zm (g := gb673) (o := .cells #[.slice (some ad675) l1_0.length c1_0] 29 (0, 0)) Zk hb)
         clear hb hbox hg
         refine hK.out _ _ ⟨(blk_cell BK672.out 0).trans rfl, (blk_cell BK673.out 0).trans rfl, ((HB.out.cell (Zi w _ hw674_0)).trans hw674_0), ((HB.out.cell (Zi w _ hw674_1)).trans hw674_1), ((HB.out.cell (Zi w _ hw674_2)).trans hw674_2), ((HB.out.cell (Zi w _ hw675_0)).trans hw675_0), ((HB.out.cell (Zi w _ hw675_1)).trans hw675_1), ((HB.out.cell (Zi w _ hw675_2)).trans hw675_2)⟩ (fun hHeld => ?_)
         clear hK K
         refine norm_ (a' := ?_) ?_ ?_
         rotate_left
         ·
          show Act.put _ (some 6) _ = _
          simp only [Act.put, List.setIfInBounds_toArray, List.set_cons_zero, List.set_cons_succ, i64_w, i32_w]
          rfl
         refine one_ (i := 11) (N := some 7) #[true, true, true, true, true, true, true, true, true, true, true, true, false, false] rfl rfl (one_of HT_.out (by kernel_rfl)) (by decide) (fun K hK => ?_)
         refine box_step ?hg (N := 7) ?hd (cs := #[.string (⟨#[]⟩ : ByteArray), .slice none 0 0, .slice none 0 0]) (t := 74) ?hr ?_; (case hd => rfl); (case hg => rfl); (case hr => first | (go_simp; done) | (go_simp; rfl))
         intro gb677 hg w19 hbox hb
         have BK677 := Zh (hbox)
         have GW677 := Zh ((by rw [hg]; exact (below_size Zs) : w.heap.size ≤ gb677))
         have GE677 := Zh ((by rw [hg]; exact (below_size Zs) : w.heap.size ≤ gb677))
         replace HB := Zh (Zl Zs hb)
         have NB672_677 := Zh ((by rw [hg]; exact Nat.ne_of_lt (blk_lt (g := gb672) (o := .cells #[.slice (some ad674) l0_0.length c0_0] 29 (0, 0)) Zk) : gb672 ≠ gb677))
         have NB677_672 := Zh ((by rw [hg]; exact Nat.ne_of_gt (blk_lt (g := gb672) (o := .cells #[.slice (some ad674) l0_0.length c0_0] 29 (0, 0)) Zk) : gb677 ≠ gb672))
         replace BK672 := Zh (Zm (g := gb672) (o := .cells #[.slice (some ad674) l0_0.length c0_0] 29 (0, 0)) Zk hb)
         have NB673_677 := Zh ((by rw [hg]; exact Nat.ne_of_lt (blk_lt (g := gb673) (o := .cells #[.slice (some ad675) l1_0.length c1_0] 29 (0, 0)) Zk) : gb673 ≠ gb677))
         have NB677_673 := Zh ((by rw [hg]; exact Nat.ne_of_gt (blk_lt (g := gb673) (o := .cells #[.slice (some ad675) l1_0.length c1_0] 29 (0, 0)) Zk) : gb677 ≠ gb673))
         replace BK673 := Zh (Zm (g := gb673) (o := .cells #[.slice (some ad675) l1_0.length c1_0] 29 (0, 0)) Zk hb)
         have NB676_677 := Zh ((by rw [hg]; exact Nat.ne_of_lt (blk_lt (g := gb676) (o := .cells #[.string (⟨#[]⟩ : ByteArray), .slice none 0 0, .slice none 0 0] 74 (0, 0)) Zk) : gb676 ≠ gb677))
         have NB677_676 := Zh ((by rw [hg]; exact Nat.ne_of_gt (blk_lt (g := gb676) (o := .cells #[.string (⟨#[]⟩ : ByteArray), .slice none 0 0, .slice none 0 0] 74 (0, 0)) Zk) : gb677 ≠ gb676))
         replace BK676 := Zh (Zm (g := gb676) (o := .cells #[.string (⟨#[]⟩ : ByteArray), .slice none 0 0, .slice none 0 0] 74 (0, 0)) Zk hb)
         clear hb hbox hg
         refine hK.out _ _ ⟨(blk_cell BK672.out 0).trans rfl, (blk_cell BK673.out 0).trans rfl, ((HB.out.cell (Zi w _ hw674_0)).trans hw674_0), ((HB.out.cell (Zi w _ hw674_1)).trans hw674_1), ((HB.out.cell (Zi w _ hw674_2)).trans hw674_2), ((HB.out.cell (Zi w _ hw675_0)).trans hw675_0), ((HB.out.cell (Zi w _ hw675_1)).trans hw675_1), ((HB.out.cell (Zi w _ hw675_2)).trans hw675_2)⟩ (fun hHeld => ?_)
         clear hK K
         refine norm_ (a' := ?_) ?_ ?_
         rotate_left
         ·
          show Act.put _ (some 7) _ = _
          simp only [Act.put, List.setIfInBounds_toArray, List.set_cons_zero, List.set_cons_succ, i64_w, i32_w]
          rfl
         exact norm_ (by simp only [putAll, Act.put, List.setIfInBounds_toArray, List.set_cons_zero, List.set_cons_succ]) (hCont (gb676, gb677) _ ⟨hHeld, Zk, Zk, Zk, Zk, GW676.out, GE676.out, NB672_676.out, NB676_672.out, NB673_676.out, NB676_673.out, NB677_676.out, NB676_677.out, GW677.out, GE677.out, NB672_677.out, NB677_672.out, NB673_677.out, NB677_673.out, Zs⟩)
        skip
        refine box_step ?hg (N := 7) ?hd (cs := #[.string (⟨#[]⟩ : ByteArray), .slice none 0 0, .slice none 0 0]) (t := 74) ?hr ?_; (case hd => rfl); (case hg => rfl); (case hr => first | (go_simp; done) | (go_simp; rfl))
        intro gb677 hg w18 hbox hb
        have BK677 := Zh (hbox)
        have GW677 := Zh ((by rw [hg]; exact (below_size Zs) : w.heap.size ≤ gb677))
        have GE677 := Zh ((by rw [hg]; exact (below_size Zs) : w.heap.size ≤ gb677))
        replace HB := Zh (Zl Zs hb)
        have NB672_677 := Zh ((by rw [hg]; exact Nat.ne_of_lt (blk_lt (g := gb672) (o := .cells #[.slice (some ad674) l0_0.length c0_0] 29 (0, 0)) Zk) : gb672 ≠ gb677))
        have NB677_672 := Zh ((by rw [hg]; exact Nat.ne_of_gt (blk_lt (g := gb672) (o := .cells #[.slice (some ad674) l0_0.length c0_0] 29 (0, 0)) Zk) : gb677 ≠ gb672))
        replace BK672 := Zh (Zm (g := gb672) (o := .cells #[.slice (some ad674) l0_0.length c0_0] 29 (0, 0)) Zk hb)
        have NB673_677 := Zh ((by rw [hg]; exact Nat.ne_of_lt (blk_lt (g := gb673) (o := .cells #[.slice (some ad675) l1_0.length c1_0] 29 (0, 0)) Zk) : gb673 ≠ gb677))
        have NB677_673 := Zh ((by rw [hg]; exact Nat.ne_of_gt (blk_lt (g := gb673) (o := .cells #[.slice (some ad675) l1_0.length c1_0] 29 (0, 0)) Zk) : gb677 ≠ gb673))
        replace BK673 := Zh (Zm (g := gb673) (o := .cells #[.slice (some ad675) l1_0.length c1_0] 29 (0, 0)) Zk hb)
        clear hb hbox hg
        refine hK.out _ _ ⟨(blk_cell BK672.out 0).trans rfl, (blk_cell BK673.out 0).trans rfl, ((HB.out.cell (Zi w _ hw674_0)).trans hw674_0), ((HB.out.cell (Zi w _ hw674_1)).trans hw674_1), ((HB.out.cell (Zi w _ hw674_2)).trans hw674_2), ((HB.out.cell (Zi w _ hw675_0)).trans hw675_0), ((HB.out.cell (Zi w _ hw675_1)).trans hw675_1), ((HB.out.cell (Zi w _ hw675_2)).trans hw675_2)⟩ (fun hHeld => ?_)
        clear hK K
        refine norm_ (a' := ?_) ?_ ?_
        rotate_left
        ·
         show Act.put _ (some 7) _ = _
         simp only [Act.put, List.setIfInBounds_toArray, List.set_cons_zero, List.set_cons_succ, i64_w, i32_w]
         rfl
        refine one_ (i := 10) (N := some 6) #[true, true, true, true, true, true, true, true, true, true, true, true, false, false] rfl rfl (one_of HT_.out (by kernel_rfl)) (by decide) (fun K hK => ?_)
        refine box_step ?hg (N := 6) ?hd (cs := #[.string (⟨#[]⟩ : ByteArray), .slice none 0 0, .slice none 0 0]) (t := 74) ?hr ?_; (case hd => rfl); (case hg => rfl); (case hr => first | (go_simp; done) | (go_simp; rfl))
        intro gb676 hg w19 hbox hb
        have BK676 := Zh (hbox)
        have GW676 := Zh ((by rw [hg]; exact (below_size Zs) : w.heap.size ≤ gb676))
        have GE676 := Zh ((by rw [hg]; exact (below_size Zs) : w.heap.size ≤ gb676))
        replace HB := Zh (Zl Zs hb)
        have NB672_676 := Zh ((by rw [hg]; exact Nat.ne_of_lt (blk_lt (g := gb672) (o := .cells #[.slice (some ad674) l0_0.length c0_0] 29 (0, 0)) Zk) : gb672 ≠ gb676))
        have NB676_672 := Zh ((by rw [hg]; exact Nat.ne_of_gt (blk_lt (g := gb672) (o := .cells #[.slice (some ad674) l0_0.length c0_0] 29 (0, 0)) Zk) : gb676 ≠ gb672))
        replace BK672 := Zh (Zm (g := gb672) (o := .cells #[.slice (some ad674) l0_0.length c0_0] 29 (0, 0)) Zk hb)
        have NB673_676 := Zh ((by rw [hg]; exact Nat.ne_of_lt (blk_lt (g := gb673) (o := .cells #[.slice (some ad675) l1_0.length c1_0] 29 (0, 0)) Zk) : gb673 ≠ gb676))
        have NB676_673 := Zh ((by rw [hg]; exact Nat.ne_of_gt (blk_lt (g := gb673) (o := .cells #[.slice (some ad675) l1_0.length c1_0] 29 (0, 0)) Zk) : gb676 ≠ gb673))
        replace BK673 := Zh (Zm (g := gb673) (o := .cells #[.slice (some ad675) l1_0.length c1_0] 29 (0, 0)) Zk hb)
        have NB677_676 := Zh ((by rw [hg]; exact Nat.ne_of_lt (blk_lt (g := gb677) (o := .cells #[.string (⟨#[]⟩ : ByteArray), .slice none 0 0, .slice none 0 0] 74 (0, 0)) Zk) : gb677 ≠ gb676))
        have NB676_677 := Zh ((by rw [hg]; exact Nat.ne_of_gt (blk_lt (g := gb677) (o := .cells #[.string (⟨#[]⟩ : ByteArray), .slice none 0 0, .slice none 0 0] 74 (0, 0)) Zk) : gb676 ≠ gb677))
        replace BK677 := Zh (Zm (g := gb677) (o := .cells #[.string (⟨#[]⟩ : ByteArray), .slice none 0 0, .slice none 0 0] 74 (0, 0)) Zk hb)
        clear hb hbox hg
        refine hK.out _ _ ⟨(blk_cell BK672.out 0).trans rfl, (blk_cell BK673.out 0).trans rfl, ((HB.out.cell (Zi w _ hw674_0)).trans hw674_0), ((HB.out.cell (Zi w _ hw674_1)).trans hw674_1), ((HB.out.cell (Zi w _ hw674_2)).trans hw674_2), ((HB.out.cell (Zi w _ hw675_0)).trans hw675_0), ((HB.out.cell (Zi w _ hw675_1)).trans hw675_1), ((HB.out.cell (Zi w _ hw675_2)).trans hw675_2)⟩ (fun hHeld => ?_)
        clear hK K
        refine norm_ (a' := ?_) ?_ ?_
        rotate_left
        ·
         show Act.put _ (some 6) _ = _
         simp only [Act.put, List.setIfInBounds_toArray, List.set_cons_zero, List.set_cons_succ, i64_w, i32_w]
         rfl
        exact norm_ (by simp only [putAll, Act.put, List.setIfInBounds_toArray, List.set_cons_zero, List.set_cons_succ]) (hCont (gb676, gb677) _ ⟨hHeld, Zk, Zk, Zk, Zk, GW676.out, GE676.out, NB672_676.out, NB676_672.out, NB673_676.out, NB676_673.out, NB677_676.out, NB676_677.out, GW677.out, GE677.out, NB672_677.out, NB677_672.out, NB673_677.out, NB677_673.out, Zs⟩)
       rintro ⟨gb676, gb677⟩ w20 ⟨hS_, h0_, h1_, h2_, h3_, h4_, h5_, h6_, h7_, h8_, h9_, h10_, h11_, h12_, h13_, h14_, h15_, h16_, h17_, h18_⟩
       have n0_ : Aside0 (w20.heap[gb672]? = some (.cells #[.slice (some ad674) l0_0.length c0_0] 29 (0, 0))) := ⟨h0_⟩
       have n1_ : Aside0 (w20.heap[gb673]? = some (.cells #[.slice (some ad675) l1_0.length c1_0] 29 (0, 0))) := ⟨h1_⟩
       have n2_ : Aside0 (w20.heap[gb676]? = some (.cells #[.string (⟨#[]⟩ : ByteArray), .slice none 0 0, .slice none 0 0] 74 (0, 0))) := ⟨h2_⟩
       have n3_ : Aside0 (w20.heap[gb677]? = some (.cells #[.string (⟨#[]⟩ : ByteArray), .slice none 0 0, .slice none 0 0] 74 (0, 0))) := ⟨h3_⟩
       have n4_ : Aside0 (w.heap.size ≤ gb676) := ⟨h4_⟩
       have n5_ : Aside0 (w.heap.size ≤ gb676) := ⟨h5_⟩
       have n6_ : Aside0 (gb672 ≠ gb676) := ⟨h6_⟩
       have n7_ : Aside0 (gb676 ≠ gb672) := ⟨h7_⟩
       have n8_ : Aside0 (gb673 ≠ gb676) := ⟨h8_⟩
       have n9_ : Aside0 (gb676 ≠ gb673) := ⟨h9_⟩
       have n10_ : Aside0 (gb677 ≠ gb676) := ⟨h10_⟩
       have n11_ : Aside0 (gb676 ≠ gb677) := ⟨h11_⟩
       have n12_ : Aside0 (w.heap.size ≤ gb677) := ⟨h12_⟩
       have n13_ : Aside0 (w.heap.size ≤ gb677) := ⟨h13_⟩
       have n14_ : Aside0 (gb672 ≠ gb677) := ⟨h14_⟩
       have n15_ : Aside0 (gb677 ≠ gb672) := ⟨h15_⟩
       have n16_ : Aside0 (gb673 ≠ gb677) := ⟨h16_⟩
       have n17_ : Aside0 (gb677 ≠ gb673) := ⟨h17_⟩
       have n18_ : Aside0 (Below w.heap.size w w20) := ⟨h18_⟩
       clear BK672
       clear BK673
       clear HB
       clear h0_ h1_ h2_ h3_ h4_ h5_ h6_ h7_ h8_ h9_ h10_ h11_ h12_ h13_ h14_ h15_ h16_ h17_ h18_
       have BK672 := n0_
       have BK673 := n1_
       have BK676 := n2_
       have BK677 := n3_
       have GW676 := n4_
       have GE676 := n5_
       have NB672_676 := n6_
       have NB676_672 := n7_
       have NB673_676 := n8_
       have NB676_673 := n9_
       have NB677_676 := n10_
       have NB676_677 := n11_
       have GW677 := n12_
       have GE677 := n13_
       have NB672_677 := n14_
       have NB677_672 := n15_
       have NB673_677 := n16_
       have NB677_673 := n17_
       have HB := n18_
       clear n0_ n1_ n2_ n3_ n4_ n5_ n6_ n7_ n8_ n9_ n10_ n11_ n12_ n13_ n14_ n15_ n16_ n17_ n18_
       have hHeld : w20.cell? ⟨gb672, 0, none⟩ = some (.slice (some ad674) l0_0.length c0_0) ∧ w20.cell? ⟨gb673, 0, none⟩ = some (.slice (some ad675) l1_0.length c1_0) ∧ w20.cell? (ad674.add ((x5_1).toNat * 3)) = some (.string ((rd_T74 l0_0 x5_1).f0)) ∧ w20.cell? ⟨(ad674.add ((x5_1).toNat * 3)).block, (ad674.add ((x5_1).toNat * 3)).off + 1, none⟩ = some (.slice A674_1 ((rd_T74 l0_0 x5_1).f1).length c674_1) ∧ w20.cell? ⟨(ad674.add ((x5_1).toNat * 3)).block, (ad674.add ((x5_1).toNat * 3)).off + 2, none⟩ = some (.slice A674_2 ((rd_T74 l0_0 x5_1).f2).length c674_2) ∧ w20.cell? (ad675.add ((x5_1).toNat * 3)) = some (.string ((rd_T74 l1_0 x5_1).f0)) ∧ w20.cell? ⟨(ad675.add ((x5_1).toNat * 3)).block, (ad675.add ((x5_1).toNat * 3)).off + 1, none⟩ = some (.slice A675_1 ((rd_T74 l1_0 x5_1).f1).length c675_1) ∧ w20.cell? ⟨(ad675.add ((x5_1).toNat * 3)).block, (ad675.add ((x5_1).toNat * 3)).off + 2, none⟩ = some (.slice A675_2 ((rd_T74 l1_0 x5_1).f2).length c675_2) := hS_
       refine norm_ (a' := ?_) ?_ ?_
       rotate_left
       ·
        simp only [putAll, Act.put, List.setIfInBounds_toArray, List.set_cons_zero, List.set_cons_succ]
        rfl
       refine one_ (i := 12) (N := none) #[true, true, true, true, true, true, true, true, true, true, true, true, true, false] rfl rfl (one_of HT_.out (by kernel_rfl)) (by decide) (fun K hK => ?_)
       have hs21 : w20.cell? ⟨gb676, 0, none⟩ = some (.string (⟨#[]⟩ : ByteArray)) := (blk_cell BK676.out 0).trans rfl
       have hfs21 := Zn BK676.out 0
       have hns21_0 := NB672_676.out
       have hns21_1 := NB673_676.out
       have hns21_3 := NB677_676.out
       have hms21_0 := NB676_672.out
       have hms21_1 := NB676_673.out
       have hms21_3 := NB676_677.out
       have hs22 : w20.cell? ⟨gb676, 1, none⟩ = some (.slice none 0 0) := (blk_cell BK676.out 1).trans rfl
       have hfs22 := Zn BK676.out 1
       have hns22_0 := NB672_676.out
       have hns22_1 := NB673_676.out
       have hns22_3 := NB677_676.out
       have hms22_0 := NB676_672.out
       have hms22_1 := NB676_673.out
       have hms22_3 := NB676_677.out
       have hs23 : w20.cell? ⟨gb676, 2, none⟩ = some (.slice none 0 0) := (blk_cell BK676.out 2).trans rfl
       have hfs23 := Zn BK676.out 2
       have hns23_0 := NB672_676.out
       have hns23_1 := NB673_676.out
       have hns23_3 := NB677_676.out
       have hms23_0 := NB676_672.out
       have hms23_1 := NB676_673.out
       have hms23_3 := NB676_677.out
       refine skip_ (w1 := ?_) (by rfl) rfl ?_ ?_
       rotate_left
       ·
        go_simp
        rfl
       refine hK.out _ _ ⟨((cell_far (p := ⟨gb676, _, none⟩) NB672_676.out _).trans (((cell_far (p := ⟨gb676, _, none⟩) NB672_676.out _).trans (((cell_far (p := ⟨gb676, _, none⟩) NB672_676.out _).trans (hHeld.1)))))), ((cell_far (p := ⟨gb676, _, none⟩) NB673_676.out _).trans (((cell_far (p := ⟨gb676, _, none⟩) NB673_676.out _).trans (((cell_far (p := ⟨gb676, _, none⟩) NB673_676.out _).trans (hHeld.2.1)))))), ((cell_far (p := ⟨gb676, _, none⟩) (by first | exact Nat.ne_of_lt (Nat.lt_of_lt_of_le (by have := Zi _ _ hw674_0; first | rwa [add_block] at this | exact this) GW676.out) | (rw [add_block]; exact Nat.ne_of_lt (Nat.lt_of_lt_of_le (by have := Zi _ _ hw674_0; first | rwa [add_block] at this | exact this) GW676.out)) | (show (Addr.add _ _).block ≠ _; rw [add_block]; exact Nat.ne_of_lt (Nat.lt_of_lt_of_le (by have := Zi _ _ hw674_0; first | rwa [add_block] at this | exact this) GW676.out)) | (dsimp only; exact Nat.ne_of_lt (Nat.lt_of_lt_of_le (by have := Zi _ _ hw674_0; first | rwa [add_block] at this | exact this) GW676.out))) _).trans (((cell_far (p := ⟨gb676, _, none⟩) (by first | exact Nat.ne_of_lt (Nat.lt_of_lt_of_le (by have := Zi _ _ hw674_0; first | rwa [add_block] at this | exact this) GW676.out) | (rw [add_block]; exact Nat.ne_of_lt (Nat.lt_of_lt_of_le (by have := Zi _ _ hw674_0; first | rwa [add_block] at this | exact this) GW676.out)) | (show (Addr.add _ _).block ≠ _; rw [add_block]; exact Nat.ne_of_lt (Nat.lt_of_lt_of_le (by have := Zi _ _ hw674_0; first | rwa [add_block] at this | exact this) GW676.out)) | (dsimp only; exact Nat.ne_of_lt (Nat.lt_of_lt_of_le (by have := Zi _ _ hw674_0; first | rwa [add_block] at this | exact this) GW676.out))) _).trans (((cell_far (p := ⟨gb676, _, none⟩) (by first | exact Nat.ne_of_lt (Nat.lt_of_lt_of_le (by have := Zi _ _ hw674_0; first | rwa [add_block] at this | exact this) GW676.out) | (rw [add_block]; exact Nat.ne_of_lt (Nat.lt_of_lt_of_le (by have := Zi _ _ hw674_0; first | rwa [add_block] at this | exact this) GW676.out)) | (show (Addr.add _ _).block ≠ _; rw [add_block]; exact Nat.ne_of_lt (Nat.lt_of_lt_of_le (by have := Zi _ _ hw674_0; first | rwa [add_block] at this | exact this) GW676.out)) | (dsimp only; exact Nat.ne_of_lt (Nat.lt_of_lt_of_le (by have := Zi _ _ hw674_0; first | rwa [add_block] at this | exact this) GW676.out))) _).trans (hHeld.2.2.1)))))), ((cell_far (p := ⟨gb676, _, none⟩) (by first | exact Nat.ne_of_lt (Nat.lt_of_lt_of_le (by have := Zi _ _ hw674_1; first | rwa [add_block] at this | exact this) GW676.out) | (rw [add_block]; exact Nat.ne_of_lt (Nat.lt_of_lt_of_le (by have := Zi _ _ hw674_1; first | rwa [add_block] at this | exact this) GW676.out)) | (show (Addr.add _ _).block ≠ _; rw [add_block]; exact Nat.ne_of_lt (Nat.lt_of_lt_of_le (by have := Zi _ _ hw674_1; first | rwa [add_block] at this | exact this) GW676.out)) | (dsimp only; exact Nat.ne_of_lt (Nat.lt_of_lt_of_le (by have := Zi _ _ hw674_1; first | rwa [add_block] at this | exact this) GW676.out))) _).trans (((cell_far (p := ⟨gb676, _, none⟩) (by first | exact Nat.ne_of_lt (Nat.lt_of_lt_of_le (by have := Zi _ _ hw674_1; first | rwa [add_block] at this | exact this) GW676.out) | (rw [add_block]; exact Nat.ne_of_lt (Nat.lt_of_lt_of_le (by have := Zi _ _ hw674_1; first | rwa [add_block] at this | exact this) GW676.out)) | (show (Addr.add _ _).block ≠ _; rw [add_block]; exact Nat.ne_of_lt (Nat.lt_of_lt_of_le (by have := Zi _ _ hw674_1; first | rwa [add_block] at this | exact this) GW676.out)) | (dsimp only; exact Nat.ne_of_lt (Nat.lt_of_lt_of_le (by have := Zi _ _ hw674_1; first | rwa [add_block] at this | exact this) GW676.out))) _).trans (((cell_far (p := ⟨gb676, _, none⟩) (by first | exact Nat.ne_of_lt (Nat.lt_of_lt_of_le (by have := Zi _ _ hw674_1; first | rwa [add_block] at this | exact this) GW676.out) | (rw [add_block]; exact Nat.ne_of_lt (Nat.lt_of_lt_of_le (by have := Zi _ _ hw674_1; first | rwa [add_block] at this | exact this) GW676.out)) | (show (Addr.add _ _).block ≠ _; rw [add_block]; exact Nat.ne_of_lt (Nat.lt_of_lt_of_le (by have := Zi _ _ hw674_1; first | rwa [add_block] at this | exact this) GW676.out)) | (dsimp only; exact Nat.ne_of_lt (Nat.lt_of_lt_of_le (by have := Zi _ _ hw674_1; first | rwa [add_block] at this | exact this) GW676.out))) _).trans (hHeld.2.2.2.1)))))), ((cell_far (p := ⟨gb676, _, none⟩) (by first | exact Nat.ne_of_lt (Nat.lt_of_lt_of_le (by have := Zi _ _ hw674_2; first | rwa [add_block] at this | exact this) GW676.out) | (rw [add_block]; exact Nat.ne_of_lt (Nat.lt_of_lt_of_le (by have := Zi _ _ hw674_2; first | rwa [add_block] at this | exact this) GW676.out)) | (show (Addr.add _ _).block ≠ _; rw [add_block]; exact Nat.ne_of_lt (Nat.lt_of_lt_of_le (by have := Zi _ _ hw674_2; first | rwa [add_block] at this | exact this) GW676.out)) | (dsimp only; exact Nat.ne_of_lt (Nat.lt_of_lt_of_le (by have := Zi _ _ hw674_2; first | rwa [add_block] at this | exact this) GW676.out))) _).trans (((cell_far (p := ⟨gb676, _, none⟩) (by first | exact Nat.ne_of_lt (Nat.lt_of_lt_of_le (by have := Zi _ _ hw674_2; first | rwa [add_block] at this | exact this) GW676.out) | (rw [add_block]; exact Nat.ne_of_lt (Nat.lt_of_lt_of_le (by have := Zi _ _ hw674_2; first | rwa [add_block] at this | exact this) GW676.out)) | (show (Addr.add _ _).block ≠ _; rw [add_block]; exact Nat.ne_of_lt (Nat.lt_of_lt_of_le (by have := Zi _ _ hw674_2; first | rwa [add_block] at this | exact this) GW676.out)) | (dsimp only; exact Nat.ne_of_lt (Nat.lt_of_lt_of_le (by have := Zi _ _ hw674_2; first | rwa [add_block] at this | exact this) GW676.out))) _).trans (((cell_far (p := ⟨gb676, _, none⟩) (by first | exact Nat.ne_of_lt (Nat.lt_of_lt_of_le (by have := Zi _ _ hw674_2; first | rwa [add_block] at this | exact this) GW676.out) | (rw [add_block]; exact Nat.ne_of_lt (Nat.lt_of_lt_of_le (by have := Zi _ _ hw674_2; first | rwa [add_block] at this | exact this) GW676.out)) | (show (Addr.add _ _).block ≠ _; rw [add_block]; exact Nat.ne_of_lt (Nat.lt_of_lt_of_le (by have := Zi _ _ hw674_2; first | rwa [add_block] at this | exact this) GW676.out)) | (dsimp only; exact Nat.ne_of_lt (Nat.lt_of_lt_of_le (by have := Zi _ _ hw674_2; first | rwa [add_block] at this | exact this) GW676.out))) _).trans (hHeld.2.2.2.2.1)))))), ((cell_far (p := ⟨gb676, _, none⟩) (by first | exact Nat.ne_of_lt (Nat.lt_of_lt_of_le (by have := Zi _ _ hw675_0; first | rwa [add_block] at this | exact this) GW676.out) | (rw [add_block]; exact Nat.ne_of_lt (Nat.lt_of_lt_of_le (by have := Zi _ _ hw675_0; first | rwa [add_block] at this | exact this) GW676.out)) | (show (Addr.add _ _).block ≠ _; rw [add_block]; exact Nat.ne_of_lt (Nat.lt_of_lt_of_le (by have := Zi _ _ hw675_0; first | rwa [add_block] at this | exact this) GW676.out)) | (dsimp only; exact Nat.ne_of_lt (Nat.lt_of_lt_of_le (by have := Zi _ _ hw675_0; first | rwa [add_block] at this | exact this) GW676.out))) _).trans (((cell_far (p := ⟨gb676, _, none⟩) (by first | exact Nat.ne_of_lt (Nat.lt_of_lt_of_le (by have := Zi _ _ hw675_0; first | rwa [add_block] at this | exact this) GW676.out) | (rw [add_block]; exact Nat.ne_of_lt (Nat.lt_of_lt_of_le (by have := Zi _ _ hw675_0; first | rwa [add_block] at this | exact this) GW676.out)) | (show (Addr.add _ _).block ≠ _; rw [add_block]; exact Nat.ne_of_lt (Nat.lt_of_lt_of_le (by have := Zi _ _ hw675_0; first | rwa [add_block] at this | exact this) GW676.out)) | (dsimp only; exact Nat.ne_of_lt (Nat.lt_of_lt_of_le (by have := Zi _ _ hw675_0; first | rwa [add_block] at this | exact this) GW676.out))) _).trans (((cell_far (p := ⟨gb676, _, none⟩) (by first | exact Nat.ne_of_lt (Nat.lt_of_lt_of_le (by have := Zi _ _ hw675_0; first | rwa [add_block] at this | exact this) GW676.out) | (rw [add_block]; exact Nat.ne_of_lt (Nat.lt_of_lt_of_le (by have := Zi _ _ hw675_0; first | rwa [add_block] at this | exact this) GW676.out)) | (show (Addr.add _ _).block ≠ _; rw [add_block]; exact Nat.ne_of_lt (Nat.lt_of_lt_of_le (by have := Zi _ _ hw675_0; first | rwa [add_block] at this | exact this) GW676.out)) | (dsimp only; exact Nat.ne_of_lt (Nat.lt_of_lt_of_le (by have := Zi _ _ hw675_0; first | rwa [add_block] at this | exact this) GW676.out))) _).trans (hHeld.2.2.2.2.2.1)))))), ((cell_far (p := ⟨gb676, _, none⟩) (by first | exact Nat.ne_of_lt (Nat.lt_of_lt_of_le (by have := Zi _ _ hw675_1; first | rwa [add_block] at this | exact this) GW676.out) | (rw [add_block]; exact Nat.ne_of_lt (Nat.lt_of_lt_of_le (by have := Zi _ _ hw675_1; first | rwa [add_block] at this | exact this) GW676.out)) | (show (Addr.add _ _).block ≠ _; rw [add_block]; exact Nat.ne_of_lt (Nat.lt_of_lt_of_le (by have := Zi _ _ hw675_1; first | rwa [add_block] at this | exact this) GW676.out)) | (dsimp only; exact Nat.ne_of_lt (Nat.lt_of_lt_of_le (by have := Zi _ _ hw675_1; first | rwa [add_block] at this | exact this) GW676.out))) _).trans (((cell_far (p := ⟨gb676, _, none⟩) (by first | exact Nat.ne_of_lt (Nat.lt_of_lt_of_le (by have := Zi _ _ hw675_1; first | rwa [add_block] at this | exact this) GW676.out) | (rw [add_block]; exact Nat.ne_of_lt (Nat.lt_of_lt_of_le (by have := Zi _ _ hw675_1; first | rwa [add_block] at this | exact this) GW676.out)) | (show (Addr.add _ _).block ≠ _; rw [add_block]; exact Nat.ne_of_lt (Nat.lt_of_lt_of_le (by have := Zi _ _ hw675_1; first | rwa [add_block] at this | exact this) GW676.out)) | (dsimp only; exact Nat.ne_of_lt (Nat.lt_of_lt_of_le (by have := Zi _ _ hw675_1; first | rwa [add_block] at this | exact this) GW676.out))) _).trans (((cell_far (p := ⟨gb676, _, none⟩) (by first | exact Nat.ne_of_lt (Nat.lt_of_lt_of_le (by have := Zi _ _ hw675_1; first | rwa [add_block] at this | exact this) GW676.out) | (rw [add_block]; exact Nat.ne_of_lt (Nat.lt_of_lt_of_le (by have := Zi _ _ hw675_1; first | rwa [add_block] at this | exact this) GW676.out)) | (show (Addr.add _ _).block ≠ _; rw [add_block]; exact Nat.ne_of_lt (Nat.lt_of_lt_of_le (by have := Zi _ _ hw675_1; first | rwa [add_block] at this | exact this) GW676.out)) | (dsimp only; exact Nat.ne_of_lt (Nat.lt_of_lt_of_le (by have := Zi _ _ hw675_1; first | rwa [add_block] at this | exact this) GW676.out))) _).trans (hHeld.2.2.2.2.2.2.1)))))), ((cell_far (p := ⟨gb676, _, none⟩) (by first | exact Nat.ne_of_lt (Nat.lt_of_lt_of_le (by have := Zi _ _ hw675_2; first | rwa [add_block] at this | exact this) GW676.out) | (rw [add_block]; exact Nat.ne_of_lt (Nat.lt_of_lt_of_le (by have := Zi _ _ hw675_2; first | rwa [add_block] at this | exact this) GW676.out)) | (show (Addr.add _ _).block ≠ _; rw [add_block]; exact Nat.ne_of_lt (Nat.lt_of_lt_of_le (by have := Zi _ _ hw675_2; first | rwa [add_block] at this | exact this) GW676.out)) | (dsimp only; exact Nat.ne_of_lt (Nat.lt_of_lt_of_le (by have := Zi _ _ hw675_2; first | rwa [add_block] at this | exact this) GW676.out))) _).trans (((cell_far (p := ⟨gb676, _, none⟩) (by first | exact Nat.ne_of_lt (Nat.lt_of_lt_of_le (by have := Zi _ _ hw675_2; first | rwa [add_block] at this | exact this) GW676.out) | (rw [add_block]; exact Nat.ne_of_lt (Nat.lt_of_lt_of_le (by have := Zi _ _ hw675_2; first | rwa [add_block] at this | exact this) GW676.out)) | (show (Addr.add _ _).block ≠ _; rw [add_block]; exact Nat.ne_of_lt (Nat.lt_of_lt_of_le (by have := Zi _ _ hw675_2; first | rwa [add_block] at this | exact this) GW676.out)) | (dsimp only; exact Nat.ne_of_lt (Nat.lt_of_lt_of_le (by have := Zi _ _ hw675_2; first | rwa [add_block] at this | exact this) GW676.out))) _).trans (((cell_far (p := ⟨gb676, _, none⟩) (by first | exact Nat.ne_of_lt (Nat.lt_of_lt_of_le (by have := Zi _ _ hw675_2; first | rwa [add_block] at this | exact this) GW676.out) | (rw [add_block]; exact Nat.ne_of_lt (Nat.lt_of_lt_of_le (by have := Zi _ _ hw675_2; first | rwa [add_block] at this | exact this) GW676.out)) | (show (Addr.add _ _).block ≠ _; rw [add_block]; exact Nat.ne_of_lt (Nat.lt_of_lt_of_le (by have := Zi _ _ hw675_2; first | rwa [add_block] at this | exact this) GW676.out)) | (dsimp only; exact Nat.ne_of_lt (Nat.lt_of_lt_of_le (by have := Zi _ _ hw675_2; first | rwa [add_block] at this | exact this) GW676.out))) _).trans (hHeld.2.2.2.2.2.2.2))))))⟩ (fun hHeld => ?_)
       clear hK K
       refine one_ (i := 13) (N := none) #[true, true, true, true, true, true, true, true, true, true, true, true, true, true] rfl rfl (one_of HT_.out (by kernel_rfl)) (by decide) (fun K hK => ?_)
       have hs24 : w20.cell? ⟨gb677, 0, none⟩ = some (.string (⟨#[]⟩ : ByteArray)) := (blk_cell BK677.out 0).trans rfl
       have hfs24 := Zn BK677.out 0
       have hns24_0 := NB672_677.out
       have hns24_1 := NB673_677.out
       have hns24_2 := NB676_677.out
       have hms24_0 := NB677_672.out
       have hms24_1 := NB677_673.out
       have hms24_2 := NB677_676.out
       have hs25 : w20.cell? ⟨gb677, 1, none⟩ = some (.slice none 0 0) := (blk_cell BK677.out 1).trans rfl
       have hfs25 := Zn BK677.out 1
       have hns25_0 := NB672_677.out
       have hns25_1 := NB673_677.out
       have hns25_2 := NB676_677.out
       have hms25_0 := NB677_672.out
       have hms25_1 := NB677_673.out
       have hms25_2 := NB677_676.out
       have hs26 : w20.cell? ⟨gb677, 2, none⟩ = some (.slice none 0 0) := (blk_cell BK677.out 2).trans rfl
       have hfs26 := Zn BK677.out 2
       have hns26_0 := NB672_677.out
       have hns26_1 := NB673_677.out
       have hns26_2 := NB676_677.out
       have hms26_0 := NB677_672.out
       have hms26_1 := NB677_673.out
       have hms26_2 := NB677_676.out
       refine skip_ (w1 := ?_) (by rfl) rfl ?_ ?_
       rotate_left
       ·
        go_simp
        rfl
       refine hK.out _ _ ⟨((cell_far (p := ⟨gb677, _, none⟩) NB672_677.out _).trans (((cell_far (p := ⟨gb677, _, none⟩) NB672_677.out _).trans (((cell_far (p := ⟨gb677, _, none⟩) NB672_677.out _).trans (hHeld.1)))))), ((cell_far (p := ⟨gb677, _, none⟩) NB673_677.out _).trans (((cell_far (p := ⟨gb677, _, none⟩) NB673_677.out _).trans (((cell_far (p := ⟨gb677, _, none⟩) NB673_677.out _).trans (hHeld.2.1)))))), ((cell_far (p := ⟨gb677, _, none⟩) (by first | exact Nat.ne_of_lt (Nat.lt_of_lt_of_le (by have := Zi _ _ hw674_0; first | rwa [add_block] at this | exact this) GW677.out) | (rw [add_block]; exact Nat.ne_of_lt (Nat.lt_of_lt_of_le (by have := Zi _ _ hw674_0; first | rwa [add_block] at this | exact this) GW677.out)) | (show (Addr.add _ _).block ≠ _; rw [add_block]; exact Nat.ne_of_lt (Nat.lt_of_lt_of_le (by have := Zi _ _ hw674_0; first | rwa [add_block] at this | exact this) GW677.out)) | (dsimp only; exact Nat.ne_of_lt (Nat.lt_of_lt_of_le (by have := Zi _ _ hw674_0; first | rwa [add_block] at this | exact this) GW677.out))) _).trans (((cell_far (p := ⟨gb677, _, none⟩) (by first | exact Nat.ne_of_lt (Nat.lt_of_lt_of_le (by have := Zi _ _ hw674_0; first | rwa [add_block] at this | exact this) GW677.out) | (rw [add_block]; exact Nat.ne_of_lt (Nat.lt_of_lt_of_le (by have := Zi _ _ hw674_0; first | rwa [add_block] at this | exact this) GW677.out)) | (show (Addr.add _ _).block ≠ _; rw [add_block]; exact Nat.ne_of_lt (Nat.lt_of_lt_of_le (by have := Zi _ _ hw674_0; first | rwa [add_block] at this | exact this) GW677.out)) | (dsimp only; exact Nat.ne_of_lt (Nat.lt_of_lt_of_le (by have := Zi _ _ hw674_0; first | rwa [add_block] at this | exact this) GW677.out))) _).trans (((cell_far (p := ⟨gb677, _, none⟩) (by first | exact Nat.ne_of_lt (Nat.lt_of_lt_of_le (by have := Zi _ _ hw674_0; first | rwa [add_block] at this | exact this) GW677.out) | (rw [add_block]; exact Nat.ne_of_lt (Nat.lt_of_lt_of_le (by have := Zi _ _ hw674_0; first | rwa [add_block] at this | exact this) GW677.out)) | (show (Addr.add _ _).block ≠ _; rw [add_block]; exact Nat.ne_of_lt (Nat.lt_of_lt_of_le (by have := Zi _ _ hw674_0; first | rwa [add_block] at this | exact this) GW677.out)) | (dsimp only; exact Nat.ne_of_lt (Nat.lt_of_lt_of_le (by have := Zi _ _ hw674_0; first | rwa [add_block] at this | exact this) GW677.out))) _).trans (hHeld.2.2.1)))))), ((cell_far (p := ⟨gb677, _, none⟩) (by first | exact Nat.ne_of_lt (Nat.lt_of_lt_of_le (by have := Zi _ _ hw674_1; first | rwa [add_block] at this | exact this) GW677.out) | (rw [add_block]; exact Nat.ne_of_lt (Nat.lt_of_lt_of_le (by have := Zi _ _ hw674_1; first | rwa [add_block] at this | exact this) GW677.out)) | (show (Addr.add _ _).block ≠ _; rw [add_block]; exact Nat.ne_of_lt (Nat.lt_of_lt_of_le (by have := Zi _ _ hw674_1; first | rwa [add_block] at this | exact this) GW677.out)) | (dsimp only; exact Nat.ne_of_lt (Nat.lt_of_lt_of_le (by have := Zi _ _ hw674_1; first | rwa [add_block] at this | exact this) GW677.out))) _).trans (((cell_far (p := ⟨gb677, _, none⟩) (by first | exact Nat.ne_of_lt (Nat.lt_of_lt_of_le (by have := Zi _ _ hw674_1; first | rwa [add_block] at this | exact this) GW677.out) | (rw [add_block]; exact Nat.ne_of_lt (Nat.lt_of_lt_of_le (by have := Zi _ _ hw674_1; first | rwa [add_block] at this | exact this) GW677.out)) | (show (Addr.add _ _).block ≠ _; rw [add_block]; exact Nat.ne_of_lt (Nat.lt_of_lt_of_le (by have := Zi _ _ hw674_1; first | rwa [add_block] at this | exact this) GW677.out)) | (dsimp only; exact Nat.ne_of_lt (Nat.lt_of_lt_of_le (by have := Zi _ _ hw674_1; first | rwa [add_block] at this | exact this) GW677.out))) _).trans (((cell_far (p := ⟨gb677, _, none⟩) (by first | exact Nat.ne_of_lt (Nat.lt_of_lt_of_le (by have := Zi _ _ hw674_1; first | rwa [add_block] at this | exact this) GW677.out) | (rw [add_block]; exact Nat.ne_of_lt (Nat.lt_of_lt_of_le (by have := Zi _ _ hw674_1; first | rwa [add_block] at this | exact this) GW677.out)) | (show (Addr.add _ _).block ≠ _; rw [add_block]; exact Nat.ne_of_lt (Nat.lt_of_lt_of_le (by have := Zi _ _ hw674_1; first | rwa [add_block] at this | exact this) GW677.out)) | (dsimp only; exact Nat.ne_of_lt (Nat.lt_of_lt_of_le (by have := Zi _ _ hw674_1; first | rwa [add_block] at this | exact this) GW677.out))) _).trans (hHeld.2.2.2.1)))))), ((cell_far (p := ⟨gb677, _, none⟩) (by first | exact Nat.ne_of_lt (Nat.lt_of_lt_of_le (by have := Zi _ _ hw674_2; first | rwa [add_block] at this | exact this) GW677.out) | (rw [add_block]; exact Nat.ne_of_lt (Nat.lt_of_lt_of_le (by have := Zi _ _ hw674_2; first | rwa [add_block] at this | exact this) GW677.out)) | (show (Addr.add _ _).block ≠ _; rw [add_block]; exact Nat.ne_of_lt (Nat.lt_of_lt_of_le (by have := Zi _ _ hw674_2; first | rwa [add_block] at this | exact this) GW677.out)) | (dsimp only; exact Nat.ne_of_lt (Nat.lt_of_lt_of_le (by have := Zi _ _ hw674_2; first | rwa [add_block] at this | exact this) GW677.out))) _).trans (((cell_far (p := ⟨gb677, _, none⟩) (by first | exact Nat.ne_of_lt (Nat.lt_of_lt_of_le (by have := Zi _ _ hw674_2; first | rwa [add_block] at this | exact this) GW677.out) | (rw [add_block]; exact Nat.ne_of_lt (Nat.lt_of_lt_of_le (by have := Zi _ _ hw674_2; first | rwa [add_block] at this | exact this) GW677.out)) | (show (Addr.add _ _).block ≠ _; rw [add_block]; exact Nat.ne_of_lt (Nat.lt_of_lt_of_le (by have := Zi _ _ hw674_2; first | rwa [add_block] at this | exact this) GW677.out)) | (dsimp only; exact Nat.ne_of_lt (Nat.lt_of_lt_of_le (by have := Zi _ _ hw674_2; first | rwa [add_block] at this | exact this) GW677.out))) _).trans (((cell_far (p := ⟨gb677, _, none⟩) (by first | exact Nat.ne_of_lt (Nat.lt_of_lt_of_le (by have := Zi _ _ hw674_2; first | rwa [add_block] at this | exact this) GW677.out) | (rw [add_block]; exact Nat.ne_of_lt (Nat.lt_of_lt_of_le (by have := Zi _ _ hw674_2; first | rwa [add_block] at this | exact this) GW677.out)) | (show (Addr.add _ _).block ≠ _; rw [add_block]; exact Nat.ne_of_lt (Nat.lt_of_lt_of_le (by have := Zi _ _ hw674_2; first | rwa [add_block] at this | exact this) GW677.out)) | (dsimp only; exact Nat.ne_of_lt (Nat.lt_of_lt_of_le (by have := Zi _ _ hw674_2; first | rwa [add_block] at this | exact this) GW677.out))) _).trans (hHeld.2.2.2.2.1)))))), ((cell_far (p := ⟨gb677, _, none⟩) (by first | exact Nat.ne_of_lt (Nat.lt_of_lt_of_le (by have := Zi _ _ hw675_0; first | rwa [add_block] at this | exact this) GW677.out) | (rw [add_block]; exact Nat.ne_of_lt (Nat.lt_of_lt_of_le (by have := Zi _ _ hw675_0; first | rwa [add_block] at this | exact this) GW677.out)) | (show (Addr.add _ _).block ≠ _; rw [add_block]; exact Nat.ne_of_lt (Nat.lt_of_lt_of_le (by have := Zi _ _ hw675_0; first | rwa [add_block] at this | exact this) GW677.out)) | (dsimp only; exact Nat.ne_of_lt (Nat.lt_of_lt_of_le (by have := Zi _ _ hw675_0; first | rwa [add_block] at this | exact this) GW677.out))) _).trans (((cell_far (p := ⟨gb677, _, none⟩) (by first | exact Nat.ne_of_lt (Nat.lt_of_lt_of_le (by have := Zi _ _ hw675_0; first | rwa [add_block] at this | exact this) GW677.out) | (rw [add_block]; exact Nat.ne_of_lt (Nat.lt_of_lt_of_le (by have := Zi _ _ hw675_0; first | rwa [add_block] at this | exact this) GW677.out)) | (show (Addr.add _ _).block ≠ _; rw [add_block]; exact Nat.ne_of_lt (Nat.lt_of_lt_of_le (by have := Zi _ _ hw675_0; first | rwa [add_block] at this | exact this) GW677.out)) | (dsimp only; exact Nat.ne_of_lt (Nat.lt_of_lt_of_le (by have := Zi _ _ hw675_0; first | rwa [add_block] at this | exact this) GW677.out))) _).trans (((cell_far (p := ⟨gb677, _, none⟩) (by first | exact Nat.ne_of_lt (Nat.lt_of_lt_of_le (by have := Zi _ _ hw675_0; first | rwa [add_block] at this | exact this) GW677.out) | (rw [add_block]; exact Nat.ne_of_lt (Nat.lt_of_lt_of_le (by have := Zi _ _ hw675_0; first | rwa [add_block] at this | exact this) GW677.out)) | (show (Addr.add _ _).block ≠ _; rw [add_block]; exact Nat.ne_of_lt (Nat.lt_of_lt_of_le (by have := Zi _ _ hw675_0; first | rwa [add_block] at this | exact this) GW677.out)) | (dsimp only; exact Nat.ne_of_lt (Nat.lt_of_lt_of_le (by have := Zi _ _ hw675_0; first | rwa [add_block] at this | exact this) GW677.out))) _).trans (hHeld.2.2.2.2.2.1)))))), ((cell_far (p := ⟨gb677, _, none⟩) (by first | exact Nat.ne_of_lt (Nat.lt_of_lt_of_le (by have := Zi _ _ hw675_1; first | rwa [add_block] at this | exact this) GW677.out) | (rw [add_block]; exact Nat.ne_of_lt (Nat.lt_of_lt_of_le (by have := Zi _ _ hw675_1; first | rwa [add_block] at this | exact this) GW677.out)) | (show (Addr.add _ _).block ≠ _; rw [add_block]; exact Nat.ne_of_lt (Nat.lt_of_lt_of_le (by have := Zi _ _ hw675_1; first | rwa [add_block] at this | exact this) GW677.out)) | (dsimp only; exact Nat.ne_of_lt (Nat.lt_of_lt_of_le (by have := Zi _ _ hw675_1; first | rwa [add_block] at this | exact this) GW677.out))) _).trans (((cell_far (p := ⟨gb677, _, none⟩) (by first | exact Nat.ne_of_lt (Nat.lt_of_lt_of_le (by have := Zi _ _ hw675_1; first | rwa [add_block] at this | exact this) GW677.out) | (rw [add_block]; exact Nat.ne_of_lt (Nat.lt_of_lt_of_le (by have := Zi _ _ hw675_1; first | rwa [add_block] at this | exact this) GW677.out)) | (show (Addr.add _ _).block ≠ _; rw [add_block]; exact Nat.ne_of_lt (Nat.lt_of_lt_of_le (by have := Zi _ _ hw675_1; first | rwa [add_block] at this | exact this) GW677.out)) | (dsimp only; exact Nat.ne_of_lt (Nat.lt_of_lt_of_le (by have := Zi _ _ hw675_1; first | rwa [add_block] at this | exact this) GW677.out))) _).trans (((cell_far (p := ⟨gb677, _, none⟩) (by first | exact Nat.ne_of_lt (Nat.lt_of_lt_of_le (by have := Zi _ _ hw675_1; first | rwa [add_block] at this | exact this) GW677.out) | (rw [add_block]; exact Nat.ne_of_lt (Nat.lt_of_lt_of_le (by have := Zi _ _ hw675_1; first | rwa [add_block] at this | exact this) GW677.out)) | (show (Addr.add _ _).block ≠ _; rw [add_block]; exact Nat.ne_of_lt (Nat.lt_of_lt_of_le (by have := Zi _ _ hw675_1; first | rwa [add_block] at this | exact this) GW677.out)) | (dsimp only; exact Nat.ne_of_lt (Nat.lt_of_lt_of_le (by have := Zi _ _ hw675_1; first | rwa [add_block] at this | exact this) GW677.out))) _).trans (hHeld.2.2.2.2.2.2.1)))))), ((cell_far (p := ⟨gb677, _, none⟩) (by first | exact Nat.ne_of_lt (Nat.lt_of_lt_of_le (by have := Zi _ _ hw675_2; first | rwa [add_block] at this | exact this) GW677.out) | (rw [add_block]; exact Nat.ne_of_lt (Nat.lt_of_lt_of_le (by have := Zi _ _ hw675_2; first | rwa [add_block] at this | exact this) GW677.out)) | (show (Addr.add _ _).block ≠ _; rw [add_block]; exact Nat.ne_of_lt (Nat.lt_of_lt_of_le (by have := Zi _ _ hw675_2; first | rwa [add_block] at this | exact this) GW677.out)) | (dsimp only; exact Nat.ne_of_lt (Nat.lt_of_lt_of_le (by have := Zi _ _ hw675_2; first | rwa [add_block] at this | exact this) GW677.out))) _).trans (((cell_far (p := ⟨gb677, _, none⟩) (by first | exact Nat.ne_of_lt (Nat.lt_of_lt_of_le (by have := Zi _ _ hw675_2; first | rwa [add_block] at this | exact this) GW677.out) | (rw [add_block]; exact Nat.ne_of_lt (Nat.lt_of_lt_of_le (by have := Zi _ _ hw675_2; first | rwa [add_block] at this | exact this) GW677.out)) | (show (Addr.add _ _).block ≠ _; rw [add_block]; exact Nat.ne_of_lt (Nat.lt_of_lt_of_le (by have := Zi _ _ hw675_2; first | rwa [add_block] at this | exact this) GW677.out)) | (dsimp only; exact Nat.ne_of_lt (Nat.lt_of_lt_of_le (by have := Zi _ _ hw675_2; first | rwa [add_block] at this | exact this) GW677.out))) _).trans (((cell_far (p := ⟨gb677, _, none⟩) (by first | exact Nat.ne_of_lt (Nat.lt_of_lt_of_le (by have := Zi _ _ hw675_2; first | rwa [add_block] at this | exact this) GW677.out) | (rw [add_block]; exact Nat.ne_of_lt (Nat.lt_of_lt_of_le (by have := Zi _ _ hw675_2; first | rwa [add_block] at this | exact this) GW677.out)) | (show (Addr.add _ _).block ≠ _; rw [add_block]; exact Nat.ne_of_lt (Nat.lt_of_lt_of_le (by have := Zi _ _ hw675_2; first | rwa [add_block] at this | exact this) GW677.out)) | (dsimp only; exact Nat.ne_of_lt (Nat.lt_of_lt_of_le (by have := Zi _ _ hw675_2; first | rwa [add_block] at this | exact this) GW677.out))) _).trans (hHeld.2.2.2.2.2.2.2))))))⟩ (fun hHeld => ?_)
       clear hK K
       refine done_ (done_of HT_.out (by kernel_rfl)) ?_
       have hnb27 := NB676_672.out
       have hnc27 := NB672_676.out
       have hnb28 := NB676_673.out
       have hnc28 := NB673_676.out
       have hnb29 := NB676_677.out
       have hnc29 := NB677_676.out
       have hcz30_0 : w20.cell? ⟨gb676, 0, none⟩ = some (.string (⟨#[]⟩ : ByteArray)) := (blk_cell BK676.out 0).trans rfl
       have hcz30_1 : w20.cell? ⟨gb676, 1, none⟩ = some (.slice none 0 0) := (blk_cell BK676.out 1).trans rfl
       have hcz30_2 : w20.cell? ⟨gb676, 2, none⟩ = some (.slice none 0 0) := (blk_cell BK676.out 2).trans rfl
       have hfz30_0 := Zn BK676.out 0
       have hfz30_1 := Zn BK676.out 1
       have hfz30_2 := Zn BK676.out 2
       have hnb31 := NB677_672.out
       have hnc31 := NB672_677.out
       have hnb32 := NB677_673.out
       have hnc32 := NB673_677.out
       have hcz33_0 : w20.cell? ⟨gb677, 0, none⟩ = some (.string (⟨#[]⟩ : ByteArray)) := (blk_cell BK677.out 0).trans rfl
       have hcz33_1 : w20.cell? ⟨gb677, 1, none⟩ = some (.slice none 0 0) := (blk_cell BK677.out 1).trans rfl
       have hcz33_2 : w20.cell? ⟨gb677, 2, none⟩ = some (.slice none 0 0) := (blk_cell BK677.out 2).trans rfl
       have hfz33_0 := Zn BK677.out 0
       have hfz33_1 := Zn BK677.out 1
       have hfz33_2 := Zn BK677.out 2
       have HWS := Zh (fun (v1 v2 v3 v4 v5 v6 : Value) => (Zg (Zg (Zg (Zg (Zg (Zg HB.out GE676.out) GE676.out) GE676.out) GE677.out) GE677.out) GE677.out : Below w.heap.size w ((((((w20.setCell ⟨gb676, 0, none⟩ v1).setCell ⟨gb676, 1, none⟩ v2).setCell ⟨gb676, 2, none⟩ v3).setCell ⟨gb677, 0, none⟩ v4).setCell ⟨gb677, 1, none⟩ v5).setCell ⟨gb677, 2, none⟩ v6)))
       have hcs34 := fun (v1 v2 v3 v4 v5 v6 : Value) => C_string (P := Tryd.prog) (A := A674_1) (c := c674_1) Tryd.underlying33 Tryd.underlying5 Tryd.underlying9 (C_below HR674_1.out (HWS.out v1 v2 v3 v4 v5 v6))
       have hcs36 := fun (v1 v2 v3 v4 v5 v6 : Value) => C_string (P := Tryd.prog) (A := A675_1) (c := c675_1) Tryd.underlying33 Tryd.underlying5 Tryd.underlying9 (C_below HR675_1.out (HWS.out v1 v2 v3 v4 v5 v6))
       have hcs38 := fun (v1 v2 v3 v4 v5 v6 : Value) => C_string (P := Tryd.prog) (A := A674_2) (c := c674_2) Tryd.underlying33 Tryd.underlying5 Tryd.underlying9 (C_below HR674_2.out (HWS.out v1 v2 v3 v4 v5 v6))
       have hcs40 := fun (v1 v2 v3 v4 v5 v6 : Value) => C_string (P := Tryd.prog) (A := A675_2) (c := c675_2) Tryd.underlying33 Tryd.underlying5 Tryd.underlying9 (C_below HR675_2.out (HWS.out v1 v2 v3 v4 v5 v6))
       have H := HX_.out
       clear HX_
       by_cases c12 : ((rd_T74 l0_0 x5_1).f0).toList = ((rd_T74 l1_0 x5_1).f0).toList
       ·
        rw [if_pos c12] at H
        have c12b0 := beq_iff_eq.mpr c12
        have c12b1 := bne_eq_false_iff_eq.mpr c12
        clear c12
        by_cases c13 : (strOfNums ((rd_T74 l0_0 x5_1).f1)).toList = (strOfNums ((rd_T74 l1_0 x5_1).f1)).toList
        ·
         rw [if_pos c13] at H
         have c13b0 := beq_iff_eq.mpr c13
         have c13b1 := bne_eq_false_iff_eq.mpr c13
         clear c13
         by_cases c14 : (strOfNums ((rd_T74 l0_0 x5_1).f2)).toList = (strOfNums ((rd_T74 l1_0 x5_1).f2)).toList
         ·
          rw [if_pos c14] at H
          have c14b0 := beq_iff_eq.mpr c14
          have c14b1 := bne_eq_false_iff_eq.mpr c14
          clear c14
          have H' := Zh H
          clear H
          try go_wp2
          go_roundg k1
          case measure => have := HK1.out; omega
          case rel => exact ⟨(wrap64 (x5_1 + 1)), (by first | rfl | (simp; done) | (simp [*]; done)), H', ⟨by have := HK1.out; omega⟩, ⟨by (with_reducible repeat (first | refine Za ?_ _ | refine Zb ?_ | refine blk_alloc ?_ _)); refine blk_far ?_ NB672_677.out _; (with_reducible repeat (first | refine Za ?_ _ | refine Zb ?_ | refine blk_alloc ?_ _)); refine blk_far ?_ NB672_677.out _; (with_reducible repeat (first | refine Za ?_ _ | refine Zb ?_ | refine blk_alloc ?_ _)); refine blk_far ?_ NB672_677.out _; (with_reducible repeat (first | refine Za ?_ _ | refine Zb ?_ | refine blk_alloc ?_ _)); refine blk_far ?_ NB672_676.out _; (with_reducible repeat (first | refine Za ?_ _ | refine Zb ?_ | refine blk_alloc ?_ _)); refine blk_far ?_ NB672_676.out _; (with_reducible repeat (first | refine Za ?_ _ | refine Zb ?_ | refine blk_alloc ?_ _)); refine blk_far ?_ NB672_676.out _; (with_reducible repeat (first | refine Za ?_ _ | refine Zb ?_ | refine blk_alloc ?_ _)); exact BK672.out⟩, ⟨by (with_reducible repeat (first | refine Za ?_ _ | refine Zb ?_ | refine blk_alloc ?_ _)); refine blk_far ?_ NB673_677.out _; (with_reducible repeat (first | refine Za ?_ _ | refine Zb ?_ | refine blk_alloc ?_ _)); refine blk_far ?_ NB673_677.out _; (with_reducible repeat (first | refine Za ?_ _ | refine Zb ?_ | refine blk_alloc ?_ _)); refine blk_far ?_ NB673_677.out _; (with_reducible repeat (first | refine Za ?_ _ | refine Zb ?_ | refine blk_alloc ?_ _)); refine blk_far ?_ NB673_676.out _; (with_reducible repeat (first | refine Za ?_ _ | refine Zb ?_ | refine blk_alloc ?_ _)); refine blk_far ?_ NB673_676.out _; (with_reducible repeat (first | refine Za ?_ _ | refine Zb ?_ | refine blk_alloc ?_ _)); refine blk_far ?_ NB673_676.out _; (with_reducible repeat (first | refine Za ?_ _ | refine Zb ?_ | refine blk_alloc ?_ _)); exact BK673.out⟩, ⟨Zs⟩⟩
         rw [if_neg c14] at H
         have c14b0 := beq_eq_false_iff_ne.mpr c14
         have c14b1 := bne_iff_ne.mpr c14
         obtain rfl := Option.some.inj H
         try go_wp2
         go_ret
         exact ⟨ZE, Zs⟩
        rw [if_neg c13] at H
        have c13b0 := beq_eq_false_iff_ne.mpr c13
        have c13b1 := bne_iff_ne.mpr c13
        obtain rfl := Option.some.inj H
        try go_wp2
        go_ret
        exact ⟨ZE, Zs⟩
       rw [if_neg c12] at H
       have c12b0 := beq_eq_false_iff_ne.mpr c12
       have c12b1 := bne_iff_ne.mpr c12
       obtain rfl := Option.some.inj H
       try go_wp2
       go_ret
       exact ⟨ZE, Zs⟩
      rw [if_neg c11] at H
      exact absurd H (by simp)
     rw [if_neg c10] at H
     exact absurd H (by simp)
    rw [if_neg c9] at H
    have c9b0 : decide (x5_1 < (l0_0.length : Int)) = false := decide_eq_false c9
    clear c9
    obtain rfl := Option.some.inj H
    have hnb111 := NB672_673.out
    have hnc111 := NB673_672.out
    have hcz112_0 : wr.cell? ⟨gb672, 0, none⟩ = some (.slice A0_0 l0_0.length c0_0) := (blk_cell BK672.out 0).trans rfl
    have hfz112_0 := Zn BK672.out 0
    go_wp2
    go_ret
    exact ⟨ZE, Zs⟩
 rw [if_neg c3] at H
 have c3b0 : ((l0_0.length : Int) == (l1_0.length : Int)) = false := beq_eq_false_iff_ne.mpr c3
 have c3b1 : ((l0_0.length : Int) != (l1_0.length : Int)) = true := bne_iff_ne.mpr c3
 have c3b2 : (l0_0.length == l1_0.length) = false := by first | simpa using c3 | (simp at c3 ⊢; omega)
 obtain rfl := Option.some.inj H
 go_enter Tryd.func54, Tryd.ntmps54
 go_wp2_with (first | ((with_reducible refine gate_dst (N := 2) rfl ?_); refine box_event ?hg (N := 2) ?hd (cs := #[.slice A0_0 l0_0.length c0_0]) (t := 29) ?hr ?_; (case hd => rfl); (case hg => rfl); (case hr => first | (go_simp; done) | (go_simp; rfl)); intro gb672 hg w113 hbox hb; have BK672 := Zh (hbox); have GW672 := Zh ((by rw [hg]; exact (below_size Zs) : w.heap.size ≤ gb672)); have GE672 := Zh ((by rw [hg]; exact (below_size Zs) : w.heap.size ≤ gb672)); replace HB := Zh (Zl Zs hb); clear hb hbox hg) | ((with_reducible refine gate_dst (N := 3) rfl ?_); refine box_event ?hg (N := 3) ?hd (cs := #[.slice A1_0 l1_0.length c1_0]) (t := 29) ?hr ?_; (case hd => rfl); (case hg => rfl); (case hr => first | (go_simp; done) | (go_simp; rfl)); intro gb673 hg w114 hbox hb; have BK673 := Zh (hbox); have GW673 := Zh ((by rw [hg]; exact (below_size Zs) : w.heap.size ≤ gb673)); have GE673 := Zh ((by rw [hg]; exact (below_size Zs) : w.heap.size ≤ gb673)); replace HB := Zh (Zl Zs hb); have NB672_673 := Zh ((by rw [hg]; exact Nat.ne_of_lt (blk_lt (g := gb672) (o := .cells #[.slice A0_0 l0_0.length c0_0] 29 (0, 0)) Zk) : gb672 ≠ gb673)); have NB673_672 := Zh ((by rw [hg]; exact Nat.ne_of_gt (blk_lt (g := gb672) (o := .cells #[.slice A0_0 l0_0.length c0_0] 29 (0, 0)) Zk) : gb673 ≠ gb672)); replace BK672 := Zh (Zm (g := gb672) (o := .cells #[.slice A0_0 l0_0.length c0_0] 29 (0, 0)) Zk hb); clear hb hbox hg; have hnb115 := NB672_673.out; have hnc115 := NB673_672.out; have hcz116_0 : w114.cell? ⟨gb672, 0, none⟩ = some (.slice A0_0 l0_0.length c0_0) := (blk_cell BK672.out 0).trans rfl; have hfz116_0 := Zn BK672.out 0; have hcz117_0 : w114.cell? ⟨gb673, 0, none⟩ = some (.slice A1_0 l1_0.length c1_0) := (blk_cell BK673.out 0).trans rfl; have hfz117_0 := Zn BK673.out 0))
 go_ret
 exact ⟨ZE, Zs⟩
end Go.Proofs.YtmgeffgcihfpcaaDoor.F

namespace Go.Proofs.YtmgeffgcihfpcaaDoor.F
open Go.RowKit Go.Proofs.YtmgeffgcihfpcaaDoorW.PrintWords Go.Proofs.YtmgeffgcihfpcaaDoorW.PrintWords.Kd Go.Proofs.YtmgeffgcihfpcaaDoorW.PrintMore.Kd Go.Proofs.YtmgeffgcihfpcaaDoorW.PrintLast Go.Proofs.YtmgeffgcihfpcaaDoorW.PrintMore
attribute [local go_sem] max2_int min2_int max_two min_two max_three min_three max_four min_four   -- for this text's walks alone
set_option linter.unusedVariables false
set_option linter.unusedSimpArgs false
def laws_big.f (l0 : List Int) : Option (Bool) := some (decide ((l0.length : Int) > 1048576))
set_option maxHeartbeats 8000000 in
set_option maxRecDepth 100000 in
theorem laws_big.calls (A0 : Option Addr) (c0 : Nat) (l0 : List Int) (r : Bool) (w : World) (hr0 : Kd.C (Kd.int .u8) w A0 l0.length l0) (hc0 : l0.length ≤ c0) (h : laws_big.f l0 = some r) :
  Calls Tryd.prog 51 #[.slice A0 l0.length c0] w fun e w' => e = .returned (.bool r) ∧ Drawn0 w w' := by
 have HR0 := Zh hr0
 have HC0 := Zh hc0
 clear hr0 hc0
 have H : (some (decide ((l0.length : Int) > 1048576))) = some r := h
 clear h
 obtain rfl := Option.some.inj H
 go_enter Tryd.func51, Tryd.ntmps51
 go_wp2
 go_ret
 exact ⟨by first | rfl | (simp; done) | (simp [*]; done), by repeat (first | exact Drawn0.refl _ | apply Drawn0.step)⟩
end Go.Proofs.YtmgeffgcihfpcaaDoor.F

namespace Go.Proofs.YtmgeffgcihfpcaaDoor.F
open Go.RowKit Go.Proofs.YtmgeffgcihfpcaaDoorW.PrintWords Go.Proofs.YtmgeffgcihfpcaaDoorW.PrintLast Go.Proofs.YtmgeffgcihfpcaaDoorW.PrintMore
open Go.Proofs.YtmgeffgcihfpcaaDoor
set_option linter.unusedVariables false
set_option linter.unusedSimpArgs false
def laws_FnCrash.one (k : Nat) (d a : List S74) (i : Int) : Option Bool :=
  if 0 ≤ i then (if i < (d.length : Int) then (if i < (a.length : Int) then ((impl_Content.f k d (rd_T74 d i).f0).bind fun p => if p.2 = true then (if (rd_T74 a i).f0 = (rd_T74 d i).f0 then (if (rd_T74 a i).f2 = [] then (if (rd_T74 d i).f1.length ≤ (rd_T74 a i).f1.length then (if (rd_T74 a i).f1.length ≤ p.1.length then (if (rd_T74 a i).f1.take (rd_T74 d i).f1.length = (rd_T74 d i).f1 then ((impl_SyncFile.f k d (rd_T74 d i).f0).bind fun q => (impl_Crash.f k q.1 [] []).bind fun c => (impl_Content.f k c (rd_T74 d i).f0).bind fun z => if q.2 = true then (if z.2 = true then (if z.1 = p.1 then some true else none) else none) else none) else none) else none) else none) else none) else none) else none) else none) else none) else none
def laws_FnCrash.l0 : Nat → List S74 → List S74 → Int → Option Bool
  | 0, _, _, _ => none
  | k + 1, d, a, i => if i < (d.length : Int) then ((laws_FnCrash.one k d a i).bind fun _ => laws_FnCrash.l0 k d a (wrap64 (i + 1))) else some true
def laws_FnCrash.f (k : Nat) (l0 : List Int) : Option Bool := (laws_big.f l0).bind fun b => if b = true then some true else ((spec_DrawRightDisk.f k l0).bind fun g => (impl_PlayDisk.f k g.1 g.2.1).bind fun p => if (p.2.length : Int) = (g.2.1.length : Int) then ((impl_DiskOk.f k p.1).bind fun t => if t = true then ((impl_Crash.f k p.1 g.2.2.1 g.2.2.2).bind fun a => (impl_DiskOk.f k a).bind fun t2 => if t2 = true then (if (a.length : Int) = (p.1.length : Int) then ((laws_FnCrash.l0 k p.1 a 0).bind fun _ => (spec_Crash.f k p.1 [] []).bind fun c => (spec_PlayDisk.f k c []).bind fun e => (impl_Crash.f k p.1 [] []).bind fun c2 => (laws_sameDisk.f k c2 e.1).bind fun t3 => if t3 = true then some true else none) else none) else none) else none) else none)
structure FC (w0 w : World) (gd ga : Nat) (Ad : Option Addr) (cd : Nat) (d : List S74) (Aa : Option Addr) (ca : Nat) (a : List S74) : Prop where
  b : Below w0.heap.size w0 w
  rd : Kd.C k74 w Ad d.length d
  ld : d.length ≤ cd
  ra : Kd.C k74 w Aa a.length a
  la : a.length ≤ ca
  xd : w.heap[gd]? = some (.cells #[.slice Ad d.length cd] 29 (0, 0))
  xa : w.heap[ga]? = some (.cells #[.slice Aa a.length ca] 29 (0, 0))
theorem FC.step {w0 w w1 : World} {gd ga : Nat} {Ad : Option Addr} {cd : Nat} {d : List S74} {Aa : Option Addr} {ca : Nat} {a : List S74} (h : FC w0 w gd ga Ad cd d Aa ca a) (hb : Below w.heap.size w w1) : FC w0 w1 gd ga Ad cd d Aa ca a :=
  ⟨Zl h.b hb, Kd.C_below h.rd hb, h.ld, Kd.C_below h.ra hb, h.la, Zm h.xd hb, Zm h.xa hb⟩
theorem le00 {α : Type} : ([] : List α).length ≤ 0 := Nat.le_refl _
theorem C_noneO (w : World) : Kd.C k71 w none ([] : List S71).length [] := Kd.C_nil _ _
theorem C_noneI (w : World) : Kd.C (Kd.int .i64) w none ([] : List Int).length [] := Kd.C_nil _ _
set_option maxHeartbeats 8000000 in
set_option maxRecDepth 100000 in
theorem laws_FnCrash.calls (k : Nat) (A0 : Option Addr) (c0 : Nat) (l0 : List Int) (r : Bool) (w : World) (hr0 : Kd.C (Kd.int .u8) w A0 l0.length l0) (hc0 : l0.length ≤ c0) (h : laws_FnCrash.f k l0 = some r) :
    Calls Tryd.prog 13 #[.slice A0 l0.length c0] w fun e w' => e = .returned (.bool r) ∧ Below w.heap.size w w' := by
  have HR0 := Zh hr0
  have HC0 := Zh hc0
  clear hr0 hc0
  have hu29 := Tryd.underlying29
  have hu74 := Tryd.underlying74
  unfold laws_FnCrash.f at h
  obtain ⟨tb, HA1, h⟩ := Option.bind_eq_some_iff.mp h
  replace HA1 := Zh HA1
  have H := Zh h
  clear h
  go_enter Tryd.func13, Tryd.ntmps13
  go_wp2_with fail
  with_reducible refine (laws_big.calls _ _ l0 tb _ HR0.out HC0.out HA1.out).mono ?_
  rintro e w1 ⟨rfl, hb⟩
  replace hb := Drawn0.below hb
  have HB := Zh hb
  clear hb
  have h := H.out
  clear H
  by_cases ct : tb = true
  · subst ct
    rw [if_pos rfl] at h
    obtain rfl := Option.some.inj h
    clear h
    go_wp2
    go_ret
    exact ⟨rfl, HB.out⟩
  rw [if_neg ct] at h
  obtain rfl : tb = false := by simpa using ct
  obtain ⟨⟨d0, ops, kp, fl⟩, HA2, h⟩ := Option.bind_eq_some_iff.mp h
  obtain ⟨⟨d, tl⟩, HA3, h⟩ := Option.bind_eq_some_iff.mp h
  dsimp only at HA3 h
  replace HA2 := Zh HA2
  replace HA3 := Zh HA3
  have H := Zh h
  clear h ct
  go_wp2_with fail
  with_reducible refine (spec_DrawRightDisk.calls k _ _ l0 d0 ops kp fl _ (Kd.C_below HR0.out HB.out) HC0.out HA2.out).mono ?_
  rintro e w2 ⟨v0, v1, v2, v3, rfl, q0, q1, q2, q3, hb⟩
  obtain ⟨Ad0, cd0, rfl⟩ := Kd.S_slice q0
  obtain ⟨Ao, co, rfl⟩ := Kd.S_slice q1
  obtain ⟨Ak, ck, rfl⟩ := Kd.R_slice q2
  obtain ⟨Af, cf, rfl⟩ := Kd.R_slice q3
  have HD0 := Zh (Kd.S_reads' q0)
  have HO := Zh (Kd.S_reads' q1)
  have HK := Zh (Kd.R_reads' q2)
  have HF := Zh (Kd.R_reads' q3)
  replace HB := Zh (Zl HB.out hb)
  have ST := Zh (LW.St.start w2)
  clear hb q0 q1 q2 q3
  go_wp2_with fail
  replace ST := Zh (ST.out.alloc #[.slice Ad0 d0.length cd0] 29 (g := w2.heap.size) rfl)
  with_reducible refine (impl_PlayDisk.calls k _ _ d0 _ _ ops d tl _ (Kd.C_below HD0.out.2.2 ST.out.b) HD0.out.2.1 (Kd.C_below HO.out.2.2 ST.out.b) HO.out.2.1 HA3.out).mono ?_
  rintro e w3 ⟨v0, v1, rfl, q0, q1, hb⟩
  obtain ⟨Ad, cd, rfl⟩ := Kd.S_slice q0
  obtain ⟨At, ct, rfl⟩ := Kd.R_slice q1
  replace ST := Zh (ST.out.rows2S rfl hb q0 q1)
  clear hb q0 q1 HA3 HD0
  have h := H.out
  clear H
  by_cases c1 : (tl.length : Int) = (ops.length : Int)
  rotate_left
  · rw [if_neg c1] at h; exact absurd h (by simp)
  rw [if_pos c1] at h
  obtain ⟨t4, HA4, h⟩ := Option.bind_eq_some_iff.mp h
  replace HA4 := Zh HA4
  have H := Zh h
  clear h
  have c1b : ((tl.length : Int) != (ops.length : Int)) = false := bne_eq_false_iff_eq.mpr c1
  clear c1
  have hc0 := ST.out.cell 2 rfl 0 (u := .slice Ad0 d0.length cd0) rfl
  have hl0 := ST.out.lt 2 rfl
  have hf0 := ST.out.frozen 2 rfl 0
  go_wp2_with fail
  replace ST := Zh (ST.out.set 2 rfl 0 (.slice Ad d.length cd))
  clear hc0 hl0 hf0 c1b
  generalize w3.setCell ⟨w2.heap.size, 0, none⟩ (.slice Ad d.length cd) = w4 at ST ⊢
  with_reducible refine (impl_DiskOk.calls k _ _ d t4 _ (k74c_C (ST.out.reads 0 rfl).2.2) (ST.out.reads 0 rfl).2.1 HA4.out).mono ?_
  rintro e w5 ⟨rfl, hb⟩
  replace ST := Zh (ST.out.step hb)
  clear hb
  have h := H.out
  clear H
  by_cases ct : t4 = true
  rotate_left
  · rw [if_neg ct] at h; exact absurd h (by simp)
  subst ct
  rw [if_pos rfl] at h
  obtain ⟨a, HA5, h⟩ := Option.bind_eq_some_iff.mp h
  obtain ⟨t6, HA6, h⟩ := Option.bind_eq_some_iff.mp h
  replace HA5 := Zh HA5
  replace HA6 := Zh HA6
  have H := Zh h
  clear h
  have hc0 := ST.out.cell 2 rfl 0 (u := .slice Ad d.length cd) rfl
  have hl0 := ST.out.lt 2 rfl
  go_wp2_with fail
  with_reducible refine (impl_Crash.calls k _ _ d _ _ kp _ _ fl a _ (k74c_C (ST.out.reads 0 rfl).2.2) (ST.out.reads 0 rfl).2.1 (Kd.C_below HK.out.2.2 ST.out.b) HK.out.2.1 (Kd.C_below HF.out.2.2 ST.out.b) HF.out.2.1 HA5.out).mono ?_
  rintro e w6 ⟨v0, rfl, q0, hb⟩
  obtain ⟨Aa, ca, rfl⟩ := Kd.S_slice q0
  replace ST := Zh (ST.out.row hb q0)
  clear hb q0 hc0 hl0
  go_wp2_with fail
  replace ST := Zh (ST.out.alloc #[.slice Aa a.length ca] 29 (g := w6.heap.size) rfl)
  generalize (w6.alloc (.cells #[.slice Aa a.length ca] 29)) = w7 at ST ⊢
  have FCH : Aside0 (FC w w7 w2.heap.size w6.heap.size Ad cd d Aa ca a) := ⟨⟨Zl HB.out ST.out.b, k74c_C (ST.out.reads 2 rfl).2.2, (ST.out.reads 2 rfl).2.1, (ST.out.reads 1 rfl).2.2, (ST.out.reads 1 rfl).2.1, ST.out.blk 4 rfl, ST.out.blk 0 rfl⟩⟩
  clear ST HB HK HF HO
  with_reducible refine (impl_DiskOk.calls k _ _ a t6 _ FCH.out.ra FCH.out.la HA6.out).mono ?_
  rintro e w8 ⟨rfl, hb⟩
  replace FCH := Zh (FCH.out.step hb)
  clear hb
  have h := H.out
  clear H
  by_cases ct : t6 = true
  rotate_left
  · rw [if_neg ct] at h; exact absurd h (by simp)
  subst ct
  rw [if_pos rfl] at h
  by_cases c1 : (a.length : Int) = (d.length : Int)
  rotate_left
  · rw [if_neg c1] at h; exact absurd h (by simp)
  rw [if_pos c1] at h
  obtain ⟨zl, HL, h⟩ := Option.bind_eq_some_iff.mp h
  replace HL := Zh HL
  have H := Zh h
  clear h
  have c1b : ((a.length : Int) != (d.length : Int)) = false := bne_eq_false_iff_eq.mpr c1
  clear c1
  have hc0 := (blk_cell FCH.out.xd 0).trans (show _ = some (.slice Ad d.length cd) from rfl)
  have hc1 := (blk_cell FCH.out.xa 0).trans (show _ = some (.slice Aa a.length ca) from rfl)
  have hl0 := blk_lt FCH.out.xd
  have hl1 := blk_lt FCH.out.xa
  go_wp2_with fail
  clear hc0 hc1 hl0 hl1 c1b
  go_loopg [9] k (fun gg v9 w' => ∃ i : Int, v9 = .int .i64 i ∧ Aside0 (laws_FnCrash.l0 gg d a i = some zl) ∧ Aside0 (FC w w' w2.heap.size w6.heap.size Ad cd d Aa ca a))
  case atStart => exact ⟨0, rfl, HL, FCH⟩
  case round =>
    clear FCH HL
    obtain ⟨i, rfl, HL, FCH⟩ := hrel
    cases gk with
    | zero => exact absurd HL.out (by simp [laws_FnCrash.l0])
    | succ k1 =>
      have h := HL.out
      clear HL
      simp only [laws_FnCrash.l0] at h
      have hc0 := (blk_cell FCH.out.xd 0).trans (show _ = some (.slice Ad d.length cd) from rfl)
      have hl0 := blk_lt FCH.out.xd
      by_cases c3 : i < (d.length : Int)
      rotate_left
      · rw [if_neg c3] at h
        clear h
        have q3 := decide_eq_false c3
        have h := H.out
        clear H c3
        obtain ⟨c, HB1, h⟩ := Option.bind_eq_some_iff.mp h
        obtain ⟨⟨e1, e2⟩, HB2, h⟩ := Option.bind_eq_some_iff.mp h
        obtain ⟨c2, HB3, h⟩ := Option.bind_eq_some_iff.mp h
        obtain ⟨t3, HB4, h⟩ := Option.bind_eq_some_iff.mp h
        dsimp only at HB4
        replace HB1 := Zh HB1
        replace HB2 := Zh HB2
        replace HB3 := Zh HB3
        replace HB4 := Zh HB4
        by_cases ct : t3 = true
        rotate_left
        · rw [if_neg ct] at h; exact absurd h (by simp)
        subst ct
        rw [if_pos rfl] at h
        obtain rfl := Option.some.inj h
        clear h
        go_wp2_with fail
        refine (spec_Crash.calls k _ _ d none 0 [] none 0 [] c _ FCH.out.rd FCH.out.ld (C_noneI _) le00 (C_noneI _) le00 HB1.out).mono ?_
        rintro e w9 ⟨v0, rfl, q0, hb⟩
        obtain ⟨A9, c9, rfl⟩ := Kd.S_slice q0
        replace FCH := Zh (FCH.out.step hb)
        clear hb hc0 hl0
        go_wp2_with fail
        refine (spec_PlayDisk.calls k _ _ c none 0 [] e1 e2 _ (Kd.S_reads' q0).2.2 (Kd.S_reads' q0).2.1 (C_noneO _) le00 HB2.out).mono ?_
        rintro e w10 ⟨v0, v1, rfl, p0, p1, hb⟩
        obtain ⟨A10, c10, rfl⟩ := Kd.S_slice p0
        obtain ⟨A11, c11, rfl⟩ := Kd.R_slice p1
        replace FCH := Zh (FCH.out.step hb)
        have HP := Zh (Kd.S_reads' p0)
        clear hb q0 p0 p1
        go_wp2_with fail
        have hb := Zf (Below.refl w10.heap.size w10) (.cells #[.slice A10 e1.length c10] 29)
        have hz := blk_new w10 (.cells #[.slice A10 e1.length c10] 29)
        generalize w10.alloc (.cells #[.slice A10 e1.length c10] 29) = w11 at hb hz ⊢
        have hbd := Ze hb
        replace FCH := Zh ((FCH.out.step hb).step (Ze (Below.refl _ _)))
        replace HP := Zh (And.intro HP.out.2.1 (Kd.C_below HP.out.2.2 hbd))
        replace hz := Zb hz
        have HZ := Zh hz
        have hc0 := (blk_cell FCH.out.xd 0).trans (show _ = some (.slice Ad d.length cd) from rfl)
        have hz0 := (blk_cell HZ.out 0).trans (show _ = some (.slice A10 e1.length c10) from rfl)
        refine start_ (n := 5) (S := fun w' => w'.cell? ⟨w2.heap.size, 0, none⟩ = some (.slice Ad d.length cd) ∧ w'.cell? ⟨w10.heap.size, 0, none⟩ = some (.slice A10 e1.length c10)) (ds := []) #[false, false, false, false, false] (by kernel_rfl) rfl rfl ⟨hc0, hz0⟩ (fun hHeld => ?_)
        clear hb hbd hz hc0 hz0
        generalize w11.drew = w12 at FCH HP HZ hHeld ⊢
        refine SQ.t0 0 164 hHeld ?_
        refine SQ.t0 2 166 hHeld ?_
        refine one_ (i := 1) (N := some 165) #[true, true, true, false, false] rfl rfl (by kernel_rfl) (by decide) (fun K hK => ?_)
        refine goes_ Tryd.func34 (by kernel_rfl) rfl #[.agg #[.slice Ad d.length cd], .slice none 0 0, .slice none 0 0] (by rfl) rfl rfl (by (try simp only [List.map_toArray, List.map_cons, List.map_nil]); first | done | rfl) ?_
        refine (impl_Crash.calls k _ _ d none 0 [] none 0 [] c2 _ FCH.out.rd FCH.out.ld (C_noneI _) le00 (C_noneI _) le00 HB3.out).mono ?_
        rintro e w13 ⟨v0, rfl, q0, hb⟩
        refine ⟨_, rfl, ?_⟩
        obtain ⟨A13, c13, rfl⟩ := Kd.S_slice q0
        replace FCH := Zh (FCH.out.step hb)
        replace HP := Zh (And.intro HP.out.1 (Kd.C_below HP.out.2 hb))
        replace HZ := Zh (Zm HZ.out hb)
        have HQ := Zh (Kd.S_reads' q0)
        clear hb q0 hHeld
        refine hK.out _ _ ⟨(blk_cell FCH.out.xd 0).trans rfl, (blk_cell HZ.out 0).trans rfl⟩ (fun hHeld => ?_)
        clear hK K
        refine norm_ (a' := ?_) ?_ ?_
        rotate_left
        · show Act.put _ (some 165) _ = _
          simp only [Act.put, List.setIfInBounds_toArray, List.set_cons_zero, List.set_cons_succ, i64_w, i32_w]
          rfl
        refine one_ (i := 3) (N := some 167) #[true, true, true, true, false] rfl rfl (by kernel_rfl) (by decide) (fun K hK => ?_)
        refine goes_ Tryd.func54 (by kernel_rfl) rfl #[.agg #[.slice A13 c2.length c13], .agg #[.slice A10 e1.length c10]] (by rfl) rfl rfl (by (try simp only [List.map_toArray, List.map_cons, List.map_nil]); first | done | rfl) ?_
        with_reducible refine (laws_sameDisk.calls k _ _ c2 _ _ e1 true _ HQ.out.2.2 HQ.out.2.1 HP.out.2 HP.out.1 HB4.out).mono ?_
        rintro e w14 ⟨rfl, hb⟩
        refine ⟨_, rfl, ?_⟩
        replace FCH := Zh (FCH.out.step hb)
        replace HZ := Zh (Zm HZ.out hb)
        clear hb hHeld
        refine hK.out _ _ ⟨(blk_cell FCH.out.xd 0).trans rfl, (blk_cell HZ.out 0).trans rfl⟩ (fun hHeld => ?_)
        clear hK K
        refine norm_ (a' := ?_) ?_ ?_
        rotate_left
        · show Act.put _ (some 167) _ = _
          simp only [Act.put, List.setIfInBounds_toArray, List.set_cons_zero, List.set_cons_succ, i64_w, i32_w]
          rfl
        refine SQ.p0 4 2 ?_
        refine done_ (by kernel_rfl) ?_
        go_wp2
        go_ret
        exact ⟨rfl, FCH.out.b⟩
      rw [if_pos c3] at h
      obtain ⟨zo, HS, HL⟩ := Option.bind_eq_some_iff.mp h
      clear h
      replace HL := Zh HL
      unfold laws_FnCrash.one at HS
      by_cases c4 : 0 ≤ i
      rotate_left
      · rw [if_neg c4] at HS; exact absurd HS (by simp)
      rw [if_pos c4, if_pos c3] at HS
      by_cases c5 : i < (a.length : Int)
      rotate_left
      · rw [if_neg c5] at HS; exact absurd HS (by simp)
      rw [if_pos c5] at HS
      obtain ⟨⟨wh, okk⟩, HA7, HS⟩ := Option.bind_eq_some_iff.mp HS
      dsimp only at HS
      by_cases cok : okk = true
      rotate_left
      · rw [if_neg cok] at HS; exact absurd HS (by simp)
      subst cok
      rw [if_pos rfl] at HS
      by_cases d1 : (rd_T74 a i).f0 = (rd_T74 d i).f0
      rotate_left
      · rw [if_neg d1] at HS; exact absurd HS (by simp)
      rw [if_pos d1] at HS
      by_cases d2 : (rd_T74 a i).f2 = []
      rotate_left
      · rw [if_neg d2] at HS; exact absurd HS (by simp)
      rw [if_pos d2] at HS
      by_cases d3 : (rd_T74 d i).f1.length ≤ (rd_T74 a i).f1.length
      rotate_left
      · rw [if_neg d3] at HS; exact absurd HS (by simp)
      rw [if_pos d3] at HS
      by_cases d4 : (rd_T74 a i).f1.length ≤ wh.length
      rotate_left
      · rw [if_neg d4] at HS; exact absurd HS (by simp)
      rw [if_pos d4] at HS
      by_cases d5 : (rd_T74 a i).f1.take (rd_T74 d i).f1.length = (rd_T74 d i).f1
      rotate_left
      · rw [if_neg d5] at HS; exact absurd HS (by simp)
      rw [if_pos d5] at HS
      obtain ⟨⟨sf, fin⟩, HA8, HS⟩ := Option.bind_eq_some_iff.mp HS
      obtain ⟨cs, HA9, HS⟩ := Option.bind_eq_some_iff.mp HS
      obtain ⟨⟨kt, thr⟩, HA10, HS⟩ := Option.bind_eq_some_iff.mp HS
      dsimp only at HA9 HS
      by_cases cf1 : fin = true
      rotate_left
      · rw [if_neg cf1] at HS; exact absurd HS (by simp)
      subst cf1
      rw [if_pos rfl] at HS
      by_cases cf2 : thr = true
      rotate_left
      · rw [if_neg cf2] at HS; exact absurd HS (by simp)
      subst cf2
      rw [if_pos rfl] at HS
      by_cases cf3 : kt = wh
      rotate_left
      · rw [if_neg cf3] at HS; exact absurd HS (by simp)
      subst cf3
      clear HS
      replace HA7 := Zh HA7
      replace HA8 := Zh HA8
      replace HA9 := Zh HA9
      replace HA10 := Zh HA10
      have D1 := Zh d1
      have D2 := Zh d2
      have D3 := Zh d3
      have D4 := Zh d4
      have D5 := Zh d5
      clear d1 d2 d3 d4 d5
      have q3 := decide_eq_true c3
      have HI0 := Zh c4
      have HID := Zh c3
      have HIA := Zh c5
      clear c3 c4 c5
      go_wp2
      clear hc0 hl0 q3
      replace FCH := Zh (FCH.out.step (Ze (Below.refl _ _)))
      obtain ⟨ad, B1, m1, B2, m2, e, x0, x1, x2, g1l, g1, g2l, g2⟩ := at_T74 FCH.out.rd i HI0.out HID.out
      cases e
      obtain ⟨aa, E1, n1, E2, n2, e, y0, y1, y2, k1l, k1', k2l, k2⟩ := at_T74 FCH.out.ra i HI0.out HIA.out
      cases e
      have X0 := Zh x0
      have X1 := Zh x1
      have X2 := Zh x2
      have Y0 := Zh y0
      have Y1 := Zh y1
      have Y2 := Zh y2
      have G1 := Zh g1
      have G1L := Zh g1l
      have K1 := Zh k1'
      have K1L := Zh k1l
      have XD := Zh ((blk_cell FCH.out.xd 0).trans (show _ = some (.slice (some ad) d.length cd) from rfl))
      have XA := Zh ((blk_cell FCH.out.xa 0).trans (show _ = some (.slice (some aa) a.length ca) from rfl))
      clear x0 x1 x2 y0 y1 y2 g1 g1l k1' k1l g2 g2l k2 k2l
      have pI0 := eq_true HI0.out
      have pID := eq_true HID.out
      have pIA := eq_true HIA.out
      have ST := Zh (LW.St.start wr.drew)
      refine start_ (n := 14) (S := fun w' => w'.cell? ⟨w2.heap.size, 0, none⟩ = some (.slice (some ad) d.length cd) ∧ w'.cell? ⟨w6.heap.size, 0, none⟩ = some (.slice (some aa) a.length ca) ∧ w'.cell? (ad.add (i.toNat * 3)) = some (.string (rd_T74 d i).f0) ∧ w'.cell? ⟨(ad.add (i.toNat * 3)).block, (ad.add (i.toNat * 3)).off + 1, none⟩ = some (.slice B1 (rd_T74 d i).f1.length m1) ∧ w'.cell? ⟨(ad.add (i.toNat * 3)).block, (ad.add (i.toNat * 3)).off + 2, none⟩ = some (.slice B2 (rd_T74 d i).f2.length m2) ∧ w'.cell? (aa.add (i.toNat * 3)) = some (.string (rd_T74 a i).f0) ∧ w'.cell? ⟨(aa.add (i.toNat * 3)).block, (aa.add (i.toNat * 3)).off + 1, none⟩ = some (.slice E1 (rd_T74 a i).f1.length n1) ∧ w'.cell? ⟨(aa.add (i.toNat * 3)).block, (aa.add (i.toNat * 3)).off + 2, none⟩ = some (.slice E2 (rd_T74 a i).f2.length n2)) (ds := []) #[false, false, false, false, false, false, false, false, false, false, false, false, false, false] (by kernel_rfl) rfl rfl ⟨XD.out, XA.out, X0.out, X1.out, X2.out, Y0.out, Y1.out, Y2.out⟩ (fun hHeld => ?_)
      generalize wr.drew = w5 at FCH XD XA X0 X1 X2 Y0 Y1 Y2 G1 K1 ST hHeld ⊢
      refine SQ.p0 0 68 ?_
      refine SQ.p0 2 70 ?_
      refine SQ.p0 5 73 ?_
      refine SQ.p0 7 75 ?_
      refine SQ.t0 1 69 hHeld ?_
      refine SQ.p0 3 71 ?_
      refine SQ.t0 4 72 hHeld ?_
      refine SQ.t0 6 74 hHeld ?_
      refine SQ.p0 8 76 ?_
      refine SQ.t0 9 77 hHeld ?_
      refine join_ (σ := Nat × Nat) 2 #[true, true, true, true, true, true, true, true, true, true, true, true, false, false] (fun s_ => [(10, .pointer (some ⟨s_.1, 0, none⟩)), (11, .pointer (some ⟨s_.2, 0, none⟩))]) (fun s_ w' => (w'.cell? ⟨w2.heap.size, 0, none⟩ = some (.slice (some ad) d.length cd) ∧ w'.cell? ⟨w6.heap.size, 0, none⟩ = some (.slice (some aa) a.length ca) ∧ w'.cell? (ad.add (i.toNat * 3)) = some (.string (rd_T74 d i).f0) ∧ w'.cell? ⟨(ad.add (i.toNat * 3)).block, (ad.add (i.toNat * 3)).off + 1, none⟩ = some (.slice B1 (rd_T74 d i).f1.length m1) ∧ w'.cell? ⟨(ad.add (i.toNat * 3)).block, (ad.add (i.toNat * 3)).off + 2, none⟩ = some (.slice B2 (rd_T74 d i).f2.length m2) ∧ w'.cell? (aa.add (i.toNat * 3)) = some (.string (rd_T74 a i).f0) ∧ w'.cell? ⟨(aa.add (i.toNat * 3)).block, (aa.add (i.toNat * 3)).off + 1, none⟩ = some (.slice E1 (rd_T74 a i).f1.length n1) ∧ w'.cell? ⟨(aa.add (i.toNat * 3)).block, (aa.add (i.toNat * 3)).off + 2, none⟩ = some (.slice E2 (rd_T74 a i).f2.length n2)) ∧ LW.St w5 w' [LW.box s_.1 #[.string (⟨#[]⟩ : ByteArray), .slice none 0 0, .slice none 0 0] 74, LW.box s_.2 #[.string (⟨#[]⟩ : ByteArray), .slice none 0 0, .slice none 0 0] 74]) ?_ ?_
      rotate_left
      · intro hCont
        refine two_ (i := 10) (j := 11) (Ni := some 10) (Nj := some 11) #[true, true, true, true, true, true, true, true, true, true, true, false, false, false] #[true, true, true, true, true, true, true, true, true, true, false, true, false, false] rfl rfl rfl rfl (by kernel_rfl) (by decide) (by decide) (fun K hK => ?_) (fun K hK => ?_)
        · skip
          refine box_step ?hg (N := 10) ?hd (cs := #[.string (⟨#[]⟩ : ByteArray), .slice none 0 0, .slice none 0 0]) (t := 74) ?hr ?_; (case hd => rfl); (case hg => rfl); (case hr => first | (go_simp; done) | (go_simp; rfl))
          intro gx10 hg w6a hbox hb
          replace ST := Zh (ST.out.box hg hbox hb)
          clear hg hbox hb
          refine hK.out _ _ ⟨(ST.out.b.cell (Zi w5 _ XD.out)).trans XD.out, (ST.out.b.cell (Zi w5 _ XA.out)).trans XA.out, (ST.out.b.cell (Zi w5 _ X0.out)).trans X0.out, (ST.out.b.cell (Zi w5 _ X1.out)).trans X1.out, (ST.out.b.cell (Zi w5 _ X2.out)).trans X2.out, (ST.out.b.cell (Zi w5 _ Y0.out)).trans Y0.out, (ST.out.b.cell (Zi w5 _ Y1.out)).trans Y1.out, (ST.out.b.cell (Zi w5 _ Y2.out)).trans Y2.out⟩ (fun hHeld => ?_)
          clear hK K
          refine norm_ (a' := ?_) ?_ ?_
          rotate_left
          · show Act.put _ (some 10) _ = _
            simp only [Act.put, List.setIfInBounds_toArray, List.set_cons_zero, List.set_cons_succ, i64_w, i32_w]
            rfl
          refine one_ (i := 11) (N := some 11) #[true, true, true, true, true, true, true, true, true, true, true, true, false, false] rfl rfl (by kernel_rfl) (by decide) (fun K hK => ?_)
          refine box_step ?hg (N := 11) ?hd (cs := #[.string (⟨#[]⟩ : ByteArray), .slice none 0 0, .slice none 0 0]) (t := 74) ?hr ?_; (case hd => rfl); (case hg => rfl); (case hr => first | (go_simp; done) | (go_simp; rfl))
          intro gx11 hg w7a hbox hb
          replace ST := Zh (ST.out.box hg hbox hb)
          clear hg hbox hb
          refine hK.out _ _ ⟨(ST.out.b.cell (Zi w5 _ XD.out)).trans XD.out, (ST.out.b.cell (Zi w5 _ XA.out)).trans XA.out, (ST.out.b.cell (Zi w5 _ X0.out)).trans X0.out, (ST.out.b.cell (Zi w5 _ X1.out)).trans X1.out, (ST.out.b.cell (Zi w5 _ X2.out)).trans X2.out, (ST.out.b.cell (Zi w5 _ Y0.out)).trans Y0.out, (ST.out.b.cell (Zi w5 _ Y1.out)).trans Y1.out, (ST.out.b.cell (Zi w5 _ Y2.out)).trans Y2.out⟩ (fun hHeld => ?_)
          clear hK K
          refine norm_ (a' := ?_) ?_ ?_
          rotate_left
          · show Act.put _ (some 11) _ = _
            simp only [Act.put, List.setIfInBounds_toArray, List.set_cons_zero, List.set_cons_succ, i64_w, i32_w]
            rfl
          exact norm_ (by simp only [putAll, Act.put, List.setIfInBounds_toArray, List.set_cons_zero, List.set_cons_succ]) (hCont (gx10, gx11) _ ⟨hHeld, ST.out.sel [1, 0] (by decide)⟩)
        skip
        refine box_step ?hg (N := 11) ?hd (cs := #[.string (⟨#[]⟩ : ByteArray), .slice none 0 0, .slice none 0 0]) (t := 74) ?hr ?_; (case hd => rfl); (case hg => rfl); (case hr => first | (go_simp; done) | (go_simp; rfl))
        intro gx11 hg w6a hbox hb
        replace ST := Zh (ST.out.box hg hbox hb)
        clear hg hbox hb
        refine hK.out _ _ ⟨(ST.out.b.cell (Zi w5 _ XD.out)).trans XD.out, (ST.out.b.cell (Zi w5 _ XA.out)).trans XA.out, (ST.out.b.cell (Zi w5 _ X0.out)).trans X0.out, (ST.out.b.cell (Zi w5 _ X1.out)).trans X1.out, (ST.out.b.cell (Zi w5 _ X2.out)).trans X2.out, (ST.out.b.cell (Zi w5 _ Y0.out)).trans Y0.out, (ST.out.b.cell (Zi w5 _ Y1.out)).trans Y1.out, (ST.out.b.cell (Zi w5 _ Y2.out)).trans Y2.out⟩ (fun hHeld => ?_)
        clear hK K
        refine norm_ (a' := ?_) ?_ ?_
        rotate_left
        · show Act.put _ (some 11) _ = _
          simp only [Act.put, List.setIfInBounds_toArray, List.set_cons_zero, List.set_cons_succ, i64_w, i32_w]
          rfl
        refine one_ (i := 10) (N := some 10) #[true, true, true, true, true, true, true, true, true, true, true, true, false, false] rfl rfl (by kernel_rfl) (by decide) (fun K hK => ?_)
        refine box_step ?hg (N := 10) ?hd (cs := #[.string (⟨#[]⟩ : ByteArray), .slice none 0 0, .slice none 0 0]) (t := 74) ?hr ?_; (case hd => rfl); (case hg => rfl); (case hr => first | (go_simp; done) | (go_simp; rfl))
        intro gx10 hg w7a hbox hb
        replace ST := Zh (ST.out.box hg hbox hb)
        clear hg hbox hb
        refine hK.out _ _ ⟨(ST.out.b.cell (Zi w5 _ XD.out)).trans XD.out, (ST.out.b.cell (Zi w5 _ XA.out)).trans XA.out, (ST.out.b.cell (Zi w5 _ X0.out)).trans X0.out, (ST.out.b.cell (Zi w5 _ X1.out)).trans X1.out, (ST.out.b.cell (Zi w5 _ X2.out)).trans X2.out, (ST.out.b.cell (Zi w5 _ Y0.out)).trans Y0.out, (ST.out.b.cell (Zi w5 _ Y1.out)).trans Y1.out, (ST.out.b.cell (Zi w5 _ Y2.out)).trans Y2.out⟩ (fun hHeld => ?_)
        clear hK K
        refine norm_ (a' := ?_) ?_ ?_
        rotate_left
        · show Act.put _ (some 10) _ = _
          simp only [Act.put, List.setIfInBounds_toArray, List.set_cons_zero, List.set_cons_succ, i64_w, i32_w]
          rfl
        exact norm_ (by simp only [putAll, Act.put, List.setIfInBounds_toArray, List.set_cons_zero, List.set_cons_succ]) (hCont (gx10, gx11) _ ⟨hHeld, ST.out⟩)
      rintro ⟨gf, gg⟩ w8 ⟨hHeld, hst⟩
      replace ST := Zh hst
      clear hst
      dsimp only at ST
      refine norm_ (a' := ?_) ?_ ?_
      rotate_left
      · simp only [putAll, Act.put, List.setIfInBounds_toArray, List.set_cons_zero, List.set_cons_succ]
        rfl
      refine one_ (i := 12) (N := none) #[true, true, true, true, true, true, true, true, true, true, true, true, true, false] rfl rfl (by kernel_rfl) (by decide) (fun K hK => ?_)
      have hs0 := ST.out.cell 0 rfl 0 (u := .string (⟨#[]⟩ : ByteArray)) rfl
      have hf0 := ST.out.frozen 0 rfl 0
      have hs1 := ST.out.cell 0 rfl 1 (u := .slice none 0 0) rfl
      have hf1 := ST.out.frozen 0 rfl 1
      have hs2 := ST.out.cell 0 rfl 2 (u := .slice none 0 0) rfl
      have hf2 := ST.out.frozen 0 rfl 2
      have hsl := ST.out.lt 0 rfl
      refine skip_ (w1 := ?_) (by rfl) rfl ?_ ?_
      rotate_left
      · go_simp
        rfl
      clear hs0 hs1 hs2 hf0 hf1 hf2 hsl
      replace ST := Zh (((ST.out.set 0 rfl 0 (.string (rd_T74 d i).f0)).set 0 rfl 1 (.slice B1 (rd_T74 d i).f1.length m1)).set 0 rfl 2 (.slice B2 (rd_T74 d i).f2.length m2))
      refine hK.out _ _ ⟨(ST.out.b.cell (Zi w5 _ XD.out)).trans XD.out, (ST.out.b.cell (Zi w5 _ XA.out)).trans XA.out, (ST.out.b.cell (Zi w5 _ X0.out)).trans X0.out, (ST.out.b.cell (Zi w5 _ X1.out)).trans X1.out, (ST.out.b.cell (Zi w5 _ X2.out)).trans X2.out, (ST.out.b.cell (Zi w5 _ Y0.out)).trans Y0.out, (ST.out.b.cell (Zi w5 _ Y1.out)).trans Y1.out, (ST.out.b.cell (Zi w5 _ Y2.out)).trans Y2.out⟩ (fun hHeld => ?_)
      clear hK K
      refine one_ (i := 13) (N := none) #[true, true, true, true, true, true, true, true, true, true, true, true, true, true] rfl rfl (by kernel_rfl) (by decide) (fun K hK => ?_)
      have hs0 := ST.out.cell 1 rfl 0 (u := .string (⟨#[]⟩ : ByteArray)) rfl
      have hf0 := ST.out.frozen 1 rfl 0
      have hs1 := ST.out.cell 1 rfl 1 (u := .slice none 0 0) rfl
      have hf1 := ST.out.frozen 1 rfl 1
      have hs2 := ST.out.cell 1 rfl 2 (u := .slice none 0 0) rfl
      have hf2 := ST.out.frozen 1 rfl 2
      have hsl := ST.out.lt 1 rfl
      refine skip_ (w1 := ?_) (by rfl) rfl ?_ ?_
      rotate_left
      · go_simp
        rfl
      clear hs0 hs1 hs2 hf0 hf1 hf2 hsl
      replace ST := Zh (((ST.out.set 1 rfl 0 (.string (rd_T74 a i).f0)).set 1 rfl 1 (.slice E1 (rd_T74 a i).f1.length n1)).set 1 rfl 2 (.slice E2 (rd_T74 a i).f2.length n2))
      refine hK.out _ _ ⟨(ST.out.b.cell (Zi w5 _ XD.out)).trans XD.out, (ST.out.b.cell (Zi w5 _ XA.out)).trans XA.out, (ST.out.b.cell (Zi w5 _ X0.out)).trans X0.out, (ST.out.b.cell (Zi w5 _ X1.out)).trans X1.out, (ST.out.b.cell (Zi w5 _ X2.out)).trans X2.out, (ST.out.b.cell (Zi w5 _ Y0.out)).trans Y0.out, (ST.out.b.cell (Zi w5 _ Y1.out)).trans Y1.out, (ST.out.b.cell (Zi w5 _ Y2.out)).trans Y2.out⟩ (fun hHeld => ?_)
      clear hK K
      refine done_ (by kernel_rfl) ?_
      clear hHeld XD XA X0 X1 X2 Y0 Y1 Y2 pI0 pID pIA
      replace FCH := Zh (FCH.out.step ST.out.b)
      generalize ((((((w8.setCell ⟨gf, 0, none⟩ (.string (rd_T74 d i).f0)).setCell ⟨gf, 1, none⟩ (.slice B1 (rd_T74 d i).f1.length m1)).setCell ⟨gf, 2, none⟩ (.slice B2 (rd_T74 d i).f2.length m2)).setCell ⟨gg, 0, none⟩ (.string (rd_T74 a i).f0)).setCell ⟨gg, 1, none⟩ (.slice E1 (rd_T74 a i).f1.length n1)).setCell ⟨gg, 2, none⟩ (.slice E2 (rd_T74 a i).f2.length n2)) = w10 at ST FCH ⊢
      have hc0 := (blk_cell FCH.out.xd 0).trans (show _ = some (.slice (some ad) d.length cd) from rfl)
      have hl0 := blk_lt FCH.out.xd
      have hs0 := ST.out.cell 0 rfl 0 (u := .string (rd_T74 d i).f0) rfl
      have hsl := ST.out.lt 0 rfl
      go_wp2_with fail
      with_reducible refine (impl_Content.calls k1 _ _ d (rd_T74 d i).f0 kt true _ FCH.out.rd FCH.out.ld HA7.out).mono ?_
      rintro e w11 ⟨v11, rfl, ho, hb⟩
      obtain ⟨Aw, cw, rfl⟩ := Kd.R_slice ho
      replace FCH := Zh (FCH.out.step hb)
      replace ST := Zh (ST.out.rowR rfl hb ho)
      clear hb ho hc0 hl0 hs0 hsl HA7
      have hc0 := (blk_cell FCH.out.xd 0).trans (show _ = some (.slice (some ad) d.length cd) from rfl)
      have hl0 := blk_lt FCH.out.xd
      have hs0 := ST.out.cell 1 rfl 0 (u := .string (rd_T74 d i).f0) rfl
      have hs1 := ST.out.cell 1 rfl 1 (u := .slice B1 (rd_T74 d i).f1.length m1) rfl
      have hsl := ST.out.lt 1 rfl
      have ht0 := ST.out.cell 2 rfl 0 (u := .string (rd_T74 a i).f0) rfl
      have ht1 := ST.out.cell 2 rfl 1 (u := .slice E1 (rd_T74 a i).f1.length n1) rfl
      have ht2 := ST.out.cell 2 rfl 2 (u := .slice E2 (rd_T74 a i).f2.length n2) rfl
      have htl := ST.out.lt 2 rfl
      rw [D1.out] at ht0
      have n1a : ((rd_T74 d i).f0.toList != (rd_T74 d i).f0.toList) = false := bne_self_eq_false _
      have n2a : (((rd_T74 a i).f2.length : Int) != 0) = false := by rw [D2.out]; rfl
      have n3a : decide (((rd_T74 a i).f1.length : Int) < ((rd_T74 d i).f1.length : Int)) = false := decide_eq_false (by have := D3.out; omega)
      have n3b : decide ((rd_T74 a i).f1.length < (rd_T74 d i).f1.length) = false := decide_eq_false (by have := D3.out; omega)
      have n4a : decide ((kt.length : Int) < ((rd_T74 a i).f1.length : Int)) = false := decide_eq_false (by have := D4.out; omega)
      have n4b : decide (kt.length < (rd_T74 a i).f1.length) = false := decide_eq_false (by have := D4.out; omega)
      obtain ⟨i0z, hi0z, _, hszz, _⟩ := info_parts info5
      have hcut := cut_to (P := Tryd.prog) 33 5 .i64 Tryd.underlying33 hi0z E1 (rd_T74 a i).f1.length n1 ((rd_T74 d i).f1.length : Int) (Int.natCast_nonneg _) (by have := D3.out; omega) K1L.out
      rw [Int.toNat_natCast] at hcut
      have hct := Kd.C_take (m := (rd_T74 d i).f1.length) (Kd.C_below K1.out ST.out.b) D3.out
      rw [D5.out] at hct
      have hcvA := fun (nq : Nat) => Kd.C_string (P := Tryd.prog) (A := E1) (c := n1) Tryd.underlying33 Tryd.underlying5 Tryd.underlying9 (Kd.C_drewN hct nq)
      have hcvB := fun (nq : Nat) => Kd.C_string (P := Tryd.prog) (A := B1) (c := m1) Tryd.underlying33 Tryd.underlying5 Tryd.underlying9 (Kd.C_drewN (Kd.C_below G1.out ST.out.b) nq)
      have n5a : ((strOfNums (rd_T74 d i).f1).toList != (strOfNums (rd_T74 d i).f1).toList) = false := bne_self_eq_false _
      clear hct hi0z hszz
      have p3 : (((rd_T74 d i).f1.length : Int) ≤ ((rd_T74 a i).f1.length : Int)) = True := eq_true (by have := D3.out; omega)
      have p4 : ((0 : Int) ≤ ((rd_T74 d i).f1.length : Int)) = True := eq_true (Int.natCast_nonneg _)
      go_wp2_with fail
      go_quiet (fail)
      clear ht0 ht1 ht2 htl n1a n2a n3a n3b n4a n4b n5a hcut hcvA hcvB hs1 p3 p4
      go_wp2_with fail
      replace FCH := Zh (FCH.out.step (Zd (Below.refl _ _) nq))
      replace ST := Zh (ST.out.step (Zd (Below.refl _ _) nq))
      clear hc0 hl0 hs0 hsl
      with_reducible refine (impl_SyncFile.calls k1 _ _ d (rd_T74 d i).f0 sf true _ FCH.out.rd FCH.out.ld HA8.out).mono ?_
      rintro e w12 ⟨v12, rfl, q0, hb⟩
      obtain ⟨As, c12, rfl⟩ := Kd.S_slice q0
      replace FCH := Zh (FCH.out.step hb)
      replace ST := Zh (ST.out.row hb q0)
      clear hb q0 HA8
      go_wp2_with fail
      replace ST := Zh (ST.out.alloc #[.slice As sf.length c12] 29 (g := w12.heap.size) rfl)
      replace FCH := Zh (FCH.out.step (Zf (Below.refl _ _) (.cells #[.slice As sf.length c12] 29)))
      generalize w12.alloc (.cells #[.slice As sf.length c12] 29) = w13 at ST FCH ⊢
      replace ST := Zh ST.out.drew
      replace FCH := Zh (FCH.out.step (Ze (Below.refl _ _)))
      refine start_ (n := 10) (S := fun w' => w'.cell? ⟨w12.heap.size, 0, none⟩ = some (.slice As sf.length c12) ∧ w'.cell? ⟨gf, 0, none⟩ = some (.string (rd_T74 d i).f0)) (ds := []) #[false, false, false, false, false, false, false, false, false, false] (by kernel_rfl) rfl rfl ⟨ST.out.cell 0 rfl 0 rfl, ST.out.cell 3 rfl 0 rfl⟩ (fun hHeld => ?_)
      generalize w13.drew = w14 at ST FCH hHeld ⊢
      refine SQ.t0 0 138 hHeld ?_
      refine SQ.p0 2 140 ?_
      refine SQ.t0 3 141 hHeld ?_
      refine one_ (i := 1) (N := some 139) #[true, true, true, true, false, false, false, false, false, false] rfl rfl (by kernel_rfl) (by decide) (fun K hK => ?_)
      refine goes_ Tryd.func34 (by kernel_rfl) rfl #[.agg #[.slice As sf.length c12], .slice none 0 0, .slice none 0 0] (by rfl) rfl rfl (by (try simp only [List.map_toArray, List.map_cons, List.map_nil]); first | done | rfl) ?_
      refine (impl_Crash.calls k1 _ _ sf none 0 [] none 0 [] cs _ (ST.out.reads 1 rfl).2.2 (ST.out.reads 1 rfl).2.1 (C_noneI _) le00 (C_noneI _) le00 HA9.out).mono ?_
      rintro e w15 ⟨v15, rfl, q0, hb⟩
      refine ⟨_, rfl, ?_⟩
      obtain ⟨A15, c15, rfl⟩ := Kd.S_slice q0
      replace FCH := Zh (FCH.out.step hb)
      replace ST := Zh (ST.out.row hb q0)
      clear hb q0 HA9 hHeld
      refine hK.out _ _ ⟨ST.out.cell 1 rfl 0 rfl, ST.out.cell 4 rfl 0 rfl⟩ (fun hHeld => ?_)
      clear hK K
      refine norm_ (a' := ?_) ?_ ?_
      rotate_left
      · show Act.put _ (some 139) _ = _
        simp only [Act.put, List.setIfInBounds_toArray, List.set_cons_zero, List.set_cons_succ, i64_w, i32_w]
        rfl
      refine one_ (i := 4) (N := some 142) #[true, true, true, true, true, false, false, false, false, false] rfl rfl (by kernel_rfl) (by decide) (fun K hK => ?_)
      refine goes_ Tryd.func20 (by kernel_rfl) rfl #[.agg #[.slice A15 cs.length c15], .string (rd_T74 d i).f0] (by rfl) rfl rfl (by (try simp only [List.map_toArray, List.map_cons, List.map_nil]); first | done | rfl) ?_
      with_reducible refine (impl_Content.calls k1 _ _ cs (rd_T74 d i).f0 kt true _ (ST.out.reads 0 rfl).2.2 (ST.out.reads 0 rfl).2.1 HA10.out).mono ?_
      rintro e w16 ⟨v16, rfl, ho, hb⟩
      refine ⟨_, rfl, ?_⟩
      obtain ⟨A16, c16, rfl⟩ := Kd.R_slice ho
      replace FCH := Zh (FCH.out.step hb)
      replace ST := Zh (ST.out.rowR rfl hb ho)
      clear hb ho HA10 hHeld
      refine hK.out _ _ ⟨ST.out.cell 2 rfl 0 rfl, ST.out.cell 5 rfl 0 rfl⟩ (fun hHeld => ?_)
      clear hK K
      refine norm_ (a' := ?_) ?_ ?_
      rotate_left
      · show Act.put _ (some 142) _ = _
        simp only [Act.put, List.setIfInBounds_toArray, List.set_cons_zero, List.set_cons_succ, i64_w, i32_w]
        rfl
      refine SQ.p0 5 137 ?_
      refine SQ.p0 6 143 ?_
      refine SQ.p0 7 144 ?_
      refine SQ.p0 8 16 ?_
      refine SQ.p0 9 17 ?_
      refine done_ (by kernel_rfl) ?_
      clear hHeld
      have hv0 := Kd.C_string (P := Tryd.prog) (A := A16) (c := c16) Tryd.underlying33 Tryd.underlying5 Tryd.underlying9 (ST.out.reads 0 rfl).2.2
      have hv1 := Kd.C_string (P := Tryd.prog) (A := Aw) (c := cw) Tryd.underlying33 Tryd.underlying5 Tryd.underlying9 (ST.out.reads 4 rfl).2.2
      have n6 : ((strOfNums kt).toList != (strOfNums kt).toList) = false := bne_self_eq_false _
      go_wp2_with fail
      go_roundg k1
      case measure => omega
      case rel => exact ⟨_, rfl, HL, FCH⟩
end Go.Proofs.YtmgeffgcihfpcaaDoor.F

namespace Go.Proofs.YtmgeffgcihfpcaaDoor.PK
set_option linter.unusedVariables false
set_option linter.unusedSimpArgs false
open Go.RowKit Go.Proofs.YtmgeffgcihfpcaaDoorW.PrintWords
theorem EvS {α : Type} {g : Nat → Option α} {r : α} (h : Ev (fun k => g (k + 1)) r) : Ev g r := by
  obtain ⟨K, h⟩ := h
  refine ⟨K + 1, fun k hk => ?_⟩
  obtain ⟨m, rfl⟩ : ∃ m, k = m + 1 := ⟨k - 1, by omega⟩
  exact h m (by omega)
theorem EvP {α : Type} {g : Nat → Option α} {r : α} (h : Ev g r) : Ev (fun k => g (k + 1)) r := by
  obtain ⟨K, h⟩ := h
  exact ⟨K, fun k hk => h (k + 1) (by omega)⟩
theorem EvB {α β : Type} {g : Nat → Option α} {f : Nat → α → Option β} {a : α} {r : β} (h : Ev g a) : Ev (fun k => (g k).bind (f k)) r ↔ Ev (fun k => f k a) r := by
  obtain ⟨K, h⟩ := h
  constructor
  · rintro ⟨K', h'⟩
    refine ⟨max K K', fun k hk => ?_⟩
    have h2 : (g k).bind (f k) = some r := h' k (by omega)
    rw [h k (by omega)] at h2
    exact h2
  rintro ⟨K', h'⟩
  refine ⟨max K K', fun k hk => ?_⟩
  show (g k).bind (f k) = some r
  rw [h k (by omega)]
  exact h' k (by omega)
theorem EvN {α : Type} {r : α} : Ev (fun _ => some r) r := ⟨0, fun _ _ => rfl⟩
theorem EvE {α : Type} {g : Nat → Option α} {r : α} (h : Ev g r) : ∃ k, g k = some r := h.rounds
theorem w64 {x : Int} (h : -9223372036854775808 ≤ x) (h' : x ≤ 9223372036854775807) : wrap64 x = x := by
  unfold wrap64
  omega
theorem up {P : Int → Prop} (n : Nat) (base : P n) (step : ∀ i : Nat, i < n → P ((i + 1 : Nat) : Int) → P (i : Int)) : ∀ i : Nat, i ≤ n → P (i : Int) := by
  intro i hi
  obtain ⟨d, hd⟩ : ∃ d, d + i = n := ⟨n - i, by omega⟩
  induction d generalizing i with
  | zero => have : i = n := by omega
            subst this
            exact base
  | succ d ih => exact step i (by omega) (ih (i + 1) (by omega) (by omega))
theorem up0 {P : Int → Prop} (n : Nat) (base : P n) (step : ∀ i : Nat, i < n → P ((i + 1 : Nat) : Int) → P (i : Int)) : P 0 := up n base step 0 (Nat.zero_le _)
theorem getD_nat {α : Type} (l : List α) (z : α) (i : Nat) (h : i < l.length) : l.getD ((i : Int).toNat) z = l[i] := by
  simp [List.getD_eq_getElem?_getD, List.getElem?_eq_getElem h]
theorem drop_at {α : Type} (l : List α) (i : Nat) (h : i < l.length) : l.drop i = l[i] :: l.drop (i + 1) := List.drop_eq_getElem_cons h
end Go.Proofs.YtmgeffgcihfpcaaDoor.PK

namespace Go.Proofs.YtmgeffgcihfpcaaDoor.DK
set_option linter.unusedVariables false
set_option linter.unusedSimpArgs false
open Go.RowKit Go.Proofs.YtmgeffgcihfpcaaDoor.F Go.Proofs.YtmgeffgcihfpcaaDoor.PK Go.Proofs.YtmgeffgcihfpcaaDoorW.PrintWords Go.Proofs.YtmgeffgcihfpcaaDoorW.PrintLast Go.Proofs.YtmgeffgcihfpcaaDoorW.PrintMore
theorem nxt (i n : Nat) (h : i < n) (hn : n ≤ 9223372036854775807) : wrap64 ((i : Int) + 1) = ((i + 1 : Nat) : Int) := by rw [w64 (by omega) (by omega)]; omega
def inB (b : UInt8) : Bool := decide ((97 ≤ b.toNat ∧ b.toNat ≤ 122) ∨ (48 ≤ b.toNat ∧ b.toNat ≤ 57))
def nameM (s : ByteArray) : Bool := s.data.toList.all inB && decide (1 ≤ s.size ∧ s.size ≤ 12)
theorem bt_get (s : ByteArray) (i : Nat) (h : i < s.data.toList.length) : bt s (i : Int) = (s.data.toList[i].toNat : Int) := by
  have hs : i < s.size := by rw [← data_length]; exact h
  unfold bt
  rw [dif_pos (show (i : Int).toNat < s.size by rw [Int.toNat_natCast]; exact hs)]
  simp
  rfl
theorem spec_name (s : ByteArray) (hs : s.size ≤ 9223372036854775807) : Ev (fun k => spec_l01Name.f k s) (nameM s) := by
  have hl := data_length s
  have key := up0 (P := fun i => Ev (fun k => spec_l01Name.l0 k s i) ((s.data.toList.drop i.toNat).all inB && decide (1 ≤ s.size ∧ s.size ≤ 12))) s.size
    (EvS (by
      simp only [spec_l01Name.l0, Int.lt_irrefl, if_false, Int.toNat_natCast, spec_l01In.f]
      rw [List.drop_eq_nil_of_le (by omega), List.all_nil, Bool.true_and]
      by_cases h1 : 1 ≤ (s.size : Int)
      · simp only [if_pos h1, Option.bind_some]
        rw [show decide ((s.size : Int) ≤ 12) = decide (1 ≤ s.size ∧ s.size ≤ 12) from decide_eq_decide.2 (by omega)]
        exact EvN
      simp only [if_neg h1, Option.bind_some]
      rw [decide_eq_false (show ¬ (1 ≤ s.size ∧ s.size ≤ 12) by omega)]
      exact EvN))
    (fun i hi ih => EvS (by
      have hil : i < s.data.toList.length := by omega
      rw [Int.toNat_natCast] at *
      rw [drop_at _ i hil, List.all_cons]
      simp only [spec_l01Name.l0, if_pos (show (i : Int) < (s.size : Int) by omega), if_pos (show 0 ≤ (i : Int) by omega), nxt i _ hi hs]
      have hb := bt_get s i hil
      generalize bt s (i : Int) = x at hb ⊢
      generalize s.data.toList[i] = b at hb ⊢
      by_cases c1 : x ≥ 97
      · by_cases c2 : x ≤ 122
        · simp only [if_pos c1, if_pos c2, show inB b = true from decide_eq_true (by omega), Bool.true_and]; exact ih
        by_cases c3 : x ≥ 48
        · simp only [if_pos c1, if_neg c2, if_pos c3, if_neg (show ¬ x ≤ 57 by omega), show inB b = false from decide_eq_false (by omega), Bool.false_and]; exact EvN
        omega
      by_cases c3 : x ≥ 48
      · by_cases c4 : x ≤ 57
        · simp only [if_neg c1, if_pos c3, if_pos c4, show inB b = true from decide_eq_true (by omega), Bool.true_and]; exact ih
        simp only [if_neg c1, if_pos c3, if_neg c4, show inB b = false from decide_eq_false (by omega), Bool.false_and]; exact EvN
      simp only [if_neg c1, if_neg c3, show inB b = false from decide_eq_false (by omega), Bool.false_and]; exact EvN))
  unfold spec_l01Name.f nameM
  exact key
def cutB : List UInt8 := [97, 98, 99, 100, 101, 102, 103, 104, 105, 106, 107, 108, 109, 110, 111, 112, 113, 114, 115, 116, 117, 118, 119, 120, 121, 122, 48, 49, 50, 51, 52, 53, 54, 55, 56, 57]
theorem cut_in (b : UInt8) : cutB.contains b = inB b := by
  have h : ∀ n : Fin 256, cutB.contains (UInt8.ofNat n.val) = inB (UInt8.ofNat n.val) := by decide +kernel
  have := h ⟨b.toNat, b.toNat_lt⟩
  simpa using this
theorem dw_nil {α : Type} (p : α → Bool) : ∀ l : List α, l.dropWhile p = [] ↔ ∀ x ∈ l, p x = true
  | [] => by simp
  | a :: l => by
    rw [List.dropWhile_cons]
    by_cases h : p a = true
    · rw [if_pos h, dw_nil p l]
      simp [h]
    rw [if_neg h]
    simp [h]
theorem dw_head {α : Type} (p : α → Bool) : ∀ (l : List α) (x : α) (r : List α), l.dropWhile p = x :: r → p x = false
  | [], x, r, h => by simp at h
  | a :: l, x, r, h => by
    rw [List.dropWhile_cons] at h
    by_cases hp : p a = true
    · rw [if_pos hp] at h
      exact dw_head p l x r h
    rw [if_neg hp] at h
    injection h with h1 _
    rw [← h1]
    exact Bool.eq_false_iff.2 hp
theorem dw_mem {α : Type} (p : α → Bool) : ∀ (l : List α) (x : α), x ∈ l.dropWhile p → x ∈ l
  | [], x, h => by simp at h
  | a :: l, x, h => by
    rw [List.dropWhile_cons] at h
    by_cases hp : p a = true
    · rw [if_pos hp] at h
      exact List.mem_cons_of_mem _ (dw_mem p l x h)
    rw [if_neg hp] at h
    exact h
theorem trim_nil (l : List UInt8) : (Go.Lib.trimS l cutB == []) = l.all inB := by
  unfold Go.Lib.trimS Go.Lib.trimLeftS Go.Lib.trimRightS
  rw [Bool.eq_iff_iff, beq_iff_eq, dw_nil, List.all_eq_true]
  constructor
  · intro h
    have hd : l.reverse.dropWhile (cutB.contains ·) = [] := by
      cases hq : l.reverse.dropWhile (cutB.contains ·) with
      | nil => rfl
      | cons x r =>
        have h1 := h x (by rw [hq]; simp)
        have h2 := dw_head (cutB.contains ·) _ _ _ hq
        rw [h1] at h2
        cases h2
    rw [dw_nil] at hd
    intro x hx
    rw [← cut_in]
    exact hd x (List.mem_reverse.2 hx)
  intro h x hx
  rw [cut_in]
  exact h x (List.mem_reverse.1 (dw_mem _ _ _ (List.mem_reverse.1 hx)))
theorem impl_name (s : ByteArray) (hs : s.size ≤ 9223372036854775807) : impl_isFileName.f s = some (nameM s) := by
  unfold impl_isFileName.f nameM
  by_cases h1 : (s.size : Int) ≥ 1
  · by_cases h2 : (s.size : Int) ≤ 12
    · have ht : trimF.f s (⟨#[97, 98, 99, 100, 101, 102, 103, 104, 105, 106, 107, 108, 109, 110, 111, 112, 113, 114, 115, 116, 117, 118, 119, 120, 121, 122, 48, 49, 50, 51, 52, 53, 54, 55, 56, 57]⟩ : ByteArray) = some ⟨(Go.Lib.trimS s.data.toList cutB).toArray⟩ := by
        unfold trimF.f
        rw [if_pos ⟨hs, by decide, by decide⟩]
        rfl
      simp only [if_pos h1, if_pos h2, ht, Option.bind_some]
      rw [Go.Lib.toList_data, trim_nil, decide_eq_true (show 1 ≤ s.size ∧ s.size ≤ 12 by omega), Bool.and_true]
    simp only [if_pos h1, if_neg h2]
    rw [decide_eq_false (show ¬ (1 ≤ s.size ∧ s.size ≤ 12) by omega), Bool.and_false]
  simp only [if_neg h1]
  rw [decide_eq_false (show ¬ (1 ≤ s.size ∧ s.size ≤ 12) by omega), Bool.and_false]
end Go.Proofs.YtmgeffgcihfpcaaDoor.DK

namespace Go.Proofs.YtmgeffgcihfpcaaDoor.F
open Go.RowKit Go.Proofs.YtmgeffgcihfpcaaDoorW.PrintWords Go.Proofs.YtmgeffgcihfpcaaDoorW.PrintWords.Kd Go.Proofs.YtmgeffgcihfpcaaDoorW.PrintMore.Kd Go.Proofs.YtmgeffgcihfpcaaDoorW.PrintLast Go.Proofs.YtmgeffgcihfpcaaDoorW.PrintMore
attribute [local go_sem] max2_int min2_int max_two min_two max_three min_three max_four min_four   -- for this text's walks alone
set_option linter.unusedVariables false
set_option linter.unusedSimpArgs false
end Go.Proofs.YtmgeffgcihfpcaaDoor.F

namespace Go.Proofs.YtmgeffgcihfpcaaDoor.BY
set_option linter.unusedVariables false
set_option linter.unusedSimpArgs false
open Go.RowKit Go.Proofs.YtmgeffgcihfpcaaDoor.F Go.Proofs.YtmgeffgcihfpcaaDoor.PK Go.Proofs.YtmgeffgcihfpcaaDoorW.PrintWords Go.Proofs.YtmgeffgcihfpcaaDoorW.PrintLast
theorem rd_at (l : List Int) (i : Nat) (h : i < l.length) : rd l (i : Int) = l[i] := getD_nat l _ i h
theorem nxt (i n : Nat) (h : i < n) (hn : n ≤ 9223372036854775807) : wrap64 ((i : Int) + 1) = ((i + 1 : Nat) : Int) := by rw [w64 (by omega) (by omega)]; omega
end Go.Proofs.YtmgeffgcihfpcaaDoor.BY

namespace Go.Proofs.YtmgeffgcihfpcaaDoor.F
open Go.RowKit Go.Proofs.YtmgeffgcihfpcaaDoorW.PrintWords Go.Proofs.YtmgeffgcihfpcaaDoorW.PrintWords.Kd Go.Proofs.YtmgeffgcihfpcaaDoorW.PrintMore.Kd Go.Proofs.YtmgeffgcihfpcaaDoorW.PrintLast Go.Proofs.YtmgeffgcihfpcaaDoorW.PrintMore
attribute [local go_sem] max2_int min2_int max_two min_two max_three min_three max_four min_four   -- for this text's walks alone
set_option linter.unusedVariables false
set_option linter.unusedSimpArgs false
end Go.Proofs.YtmgeffgcihfpcaaDoor.F

namespace Go.Proofs.YtmgeffgcihfpcaaDoor.F
open Go.Proofs.YtmgeffgcihfpcaaDoor
open Go.RowKit Go.Proofs.YtmgeffgcihfpcaaDoorW.PrintWords Go.Proofs.YtmgeffgcihfpcaaDoorW.PrintWords.Kd Go.Proofs.YtmgeffgcihfpcaaDoorW.PrintMore.Kd Go.Proofs.YtmgeffgcihfpcaaDoorW.PrintLast Go.Proofs.YtmgeffgcihfpcaaDoorW.PrintMore
attribute [local go_sem] max2_int min2_int max_two min_two max_three min_three max_four min_four   -- for this text's walks alone
set_option linter.unusedVariables false
set_option linter.unusedSimpArgs false
end Go.Proofs.YtmgeffgcihfpcaaDoor.F

namespace Go.Proofs.YtmgeffgcihfpcaaDoor.F
open Go.RowKit Go.Proofs.YtmgeffgcihfpcaaDoorW.PrintWords Go.Proofs.YtmgeffgcihfpcaaDoorW.PrintWords.Kd Go.Proofs.YtmgeffgcihfpcaaDoorW.PrintMore.Kd Go.Proofs.YtmgeffgcihfpcaaDoorW.PrintLast Go.Proofs.YtmgeffgcihfpcaaDoorW.PrintMore
attribute [local go_sem] max2_int min2_int max_two min_two max_three min_three max_four min_four   -- for this text's walks alone
set_option linter.unusedVariables false
set_option linter.unusedSimpArgs false
end Go.Proofs.YtmgeffgcihfpcaaDoor.F

namespace Go.Proofs.YtmgeffgcihfpcaaDoor.DK
set_option linter.unusedVariables false
set_option linter.unusedSimpArgs false
open Go.RowKit Go.Proofs.YtmgeffgcihfpcaaDoor.F Go.Proofs.YtmgeffgcihfpcaaDoor.PK Go.Proofs.YtmgeffgcihfpcaaDoorW.PrintWords Go.Proofs.YtmgeffgcihfpcaaDoorW.PrintLast Go.Proofs.YtmgeffgcihfpcaaDoorW.PrintMore

theorem rd74 (l : List S74) (i : Nat) (h : i < l.length) : rd_T74 l (i : Int) = l[i] := getD_nat l _ i h
def okAt (l : List S74) (i : Nat) : Bool := nameM (rd_T74 l i).f0 && (decide ((rd_T74 l i).f1.length + (rd_T74 l i).f2.length ≤ 20000) && (decide (i = 0) || Op.bytesLess (rd_T74 l ((i - 1 : Nat) : Int)).f0.toList (rd_T74 l i).f0.toList))
def goD (l : List S74) : Nat → Nat → Bool
  | 0, _ => true
  | d + 1, i => okAt l i && goD l d (i + 1)
def diskM (l : List S74) : Bool := decide (l.length ≤ 8) && goD l l.length 0
def wfD (l : List S74) : Prop := ∀ y ∈ l, y.f0.size ≤ 9223372036854775807 ∧ y.f1.length ≤ 1048576 ∧ y.f2.length ≤ 1048576
theorem specGo (l : List S74) (hl : l.length ≤ 1048576) (hw : wfD l) : ∀ d i : Nat, d + i = l.length → Ev (fun k => spec_DiskOk.l0 k i l) (goD l d i) := by
  intro d
  induction d with
  | zero =>
    intro i hi
    refine EvS ?_
    simp only [spec_DiskOk.l0, if_neg (show ¬ (i : Int) < (l.length : Int) by omega)]
    exact EvN
  | succ d ih =>
    intro i hi
    have hil : i < l.length := by omega
    have hy := hw _ (List.getElem_mem hil)
    refine EvS ?_
    have hn := spec_name l[i].f0 hy.1
    have h := ih (i + 1) (by omega)
    rw [← rd74 l i hil] at hn hy
    unfold goD okAt
    simp only [spec_DiskOk.l0, if_pos (show (i : Int) < (l.length : Int) by omega), if_pos (show 0 ≤ (i : Int) by omega), EvB hn, nxt i _ hil (by omega)]
    generalize rd_T74 l (i : Int) = y at hy hn ⊢
    by_cases c1 : nameM y.f0 = true
    · by_cases c2 : (y.f1.length : Int) > 20000
      · simp only [if_pos c1, if_pos c2, decide_eq_false (show ¬ y.f1.length + y.f2.length ≤ 20000 by omega), Bool.false_and, Bool.and_false]; exact EvN
      have hw1 : wrap64 (20000 - (y.f1.length : Int)) = 20000 - (y.f1.length : Int) := w64 (by omega) (by omega)
      by_cases c3 : (y.f2.length : Int) > 20000 - (y.f1.length : Int)
      · simp only [if_pos c1, if_neg c2, hw1, if_pos c3, decide_eq_false (show ¬ y.f1.length + y.f2.length ≤ 20000 by omega), Bool.false_and, Bool.and_false]; exact EvN
      simp only [if_pos c1, if_neg c2, hw1, if_neg c3, c1, decide_eq_true (show y.f1.length + y.f2.length ≤ 20000 by omega), Bool.true_and]
      by_cases c4 : i = 0
      · simp only [if_neg (show ¬ (i : Int) > 0 by omega), decide_eq_true c4, Bool.true_or, Bool.true_and]; exact h
      have hw2 : wrap64 ((i : Int) - 1) = ((i - 1 : Nat) : Int) := by rw [w64 (by omega) (by omega)]; omega
      simp only [if_pos (show (i : Int) > 0 by omega), hw2, if_pos (show 0 ≤ ((i - 1 : Nat) : Int) by omega), if_pos (show ((i - 1 : Nat) : Int) < (l.length : Int) by omega), decide_eq_false c4, Bool.false_or]
      by_cases c5 : Op.bytesLess (rd_T74 l ((i - 1 : Nat) : Int)).f0.toList y.f0.toList = true
      · simp only [if_pos c5, c5, Bool.true_and]; exact h
      simp only [if_neg c5, Bool.eq_false_iff.2 c5, Bool.false_and]; exact EvN
    simp only [if_neg c1, Bool.eq_false_iff.2 c1, Bool.false_and]; exact EvN
theorem implGo (l : List S74) (hl : l.length ≤ 1048576) (hw : wfD l) : ∀ d i : Nat, d + i = l.length → Ev (fun k => impl_isDisk.l0 k l (l.length : Int) i l) (goD l d i && decide (l.length ≤ 8)) := by
  intro d
  induction d with
  | zero =>
    intro i hi
    refine EvS ?_
    simp only [impl_isDisk.l0, if_neg (show ¬ (i : Int) < (l.length : Int) by omega), goD, Bool.true_and]
    rw [show decide ((l.length : Int) ≤ 8) = decide (l.length ≤ 8) from decide_eq_decide.2 (by omega)]
    exact EvN
  | succ d ih =>
    intro i hi
    have hil : i < l.length := by omega
    have hy := hw _ (List.getElem_mem hil)
    refine EvS ?_
    have hn := impl_name l[i].f0 hy.1
    have h := ih (i + 1) (by omega)
    rw [← rd74 l i hil] at hn hy
    unfold goD okAt
    simp only [impl_isDisk.l0, if_pos (show (i : Int) < (l.length : Int) by omega), if_pos (show 0 ≤ (i : Int) by omega), hn, Option.bind_some, nxt i _ hil (by omega)]
    generalize rd_T74 l (i : Int) = y at hy hn ⊢
    by_cases c1 : nameM y.f0 = true
    · have hw1 : wrap64 ((y.f1.length : Int) + (y.f2.length : Int)) = (y.f1.length : Int) + (y.f2.length : Int) := w64 (by omega) (by omega)
      by_cases c3 : (y.f1.length : Int) + (y.f2.length : Int) > 20000
      · simp only [if_pos c1, hw1, if_pos c3, decide_eq_false (show ¬ y.f1.length + y.f2.length ≤ 20000 by omega), Bool.false_and, Bool.and_false]; exact EvN
      simp only [if_pos c1, hw1, if_neg c3, c1, decide_eq_true (show y.f1.length + y.f2.length ≤ 20000 by omega), Bool.true_and]
      by_cases c4 : i = 0
      · simp only [if_neg (show ¬ (i : Int) > 0 by omega), decide_eq_true c4, Bool.true_or, Bool.true_and]; exact h
      have hw2 : wrap64 ((i : Int) - 1) = ((i - 1 : Nat) : Int) := by rw [w64 (by omega) (by omega)]; omega
      simp only [if_pos (show (i : Int) > 0 by omega), hw2, if_pos (show 0 ≤ ((i - 1 : Nat) : Int) by omega), if_pos (show ((i - 1 : Nat) : Int) < (l.length : Int) by omega), decide_eq_false c4, Bool.false_or]
      by_cases c5 : Op.bytesLess (rd_T74 l ((i - 1 : Nat) : Int)).f0.toList y.f0.toList = true
      · simp only [if_pos c5, c5, Bool.true_and]; exact h
      simp only [if_neg c5, Bool.eq_false_iff.2 c5, Bool.false_and]; exact EvN
    simp only [if_neg c1, Bool.eq_false_iff.2 c1, Bool.false_and]; exact EvN
theorem spec_disk (l : List S74) (hl : l.length ≤ 1048576) (hw : wfD l) : Ev (fun k => spec_DiskOk.f k l) (diskM l) := by
  unfold spec_DiskOk.f diskM
  by_cases h : l.length ≤ 8
  · simp only [if_neg (show ¬ (l.length : Int) > 8 by omega), decide_eq_true h, Bool.true_and]
    exact specGo l hl hw l.length 0 rfl
  simp only [if_pos (show (l.length : Int) > 8 by omega), decide_eq_false h, Bool.false_and]
  exact EvN
theorem impl_disk (l : List S74) (hl : l.length ≤ 1048576) (hw : wfD l) : Ev (fun k => impl_isDisk.f k l) (diskM l) := by
  unfold impl_isDisk.f diskM
  rw [Bool.and_comm]
  exact implGo l hl hw l.length 0 rfl
theorem rdI (l : List Int) (i : Nat) (h : i < l.length) : rd l (i : Int) = l[i] := getD_nat l _ i h
theorem bytesS (l : List Int) (hl : l.length ≤ 1000000000) : Ev (fun k => spec_l01Bytes.f k l) l := by
  have key := up0 (P := fun i => Ev (fun k => spec_l01Bytes.l0 k l (l.take i.toNat) i) l) l.length
    (EvS (by simp only [spec_l01Bytes.l0, Int.lt_irrefl, if_false, Int.toNat_natCast, List.take_length]; exact EvN))
    (fun i hi ih => EvS (by
      simp only [spec_l01Bytes.l0, if_pos (show (i : Int) < (l.length : Int) by omega), if_pos (show 0 ≤ (i : Int) by omega), Int.toNat_natCast, rdI l i hi, nxt i _ hi (by omega), if_pos (show (l.take i).length < 140737488355328 by rw [List.length_take]; omega)]
      rw [Int.toNat_natCast, List.take_add_one, List.getElem?_eq_getElem hi] at ih
      exact ih))
  unfold spec_l01Bytes.f
  exact key
theorem joinS (l m : List Int) (hl : l.length ≤ 1000000000) (hm : m.length ≤ 1000000000) : Ev (fun k => spec_l01Join.f k l m) (l ++ m) := by
  have key := up0 (P := fun i => Ev (fun k => spec_l01Join.l0 k m (l ++ m.take i.toNat) i) (l ++ m)) m.length
    (EvS (by simp only [spec_l01Join.l0, Int.lt_irrefl, if_false, Int.toNat_natCast, List.take_length]; exact EvN))
    (fun i hi ih => EvS (by
      simp only [spec_l01Join.l0, if_pos (show (i : Int) < (m.length : Int) by omega), if_pos (show 0 ≤ (i : Int) by omega), Int.toNat_natCast, rdI m i hi, nxt i _ hi (by omega), if_pos (show (l ++ m.take i).length < 140737488355328 by rw [List.length_append, List.length_take]; omega)]
      rw [Int.toNat_natCast, List.take_add_one, List.getElem?_eq_getElem hi, ← List.append_assoc] at ih
      exact ih))
  unfold spec_l01Join.f
  simp only [EvB (bytesS l hl)]
  have e : l ++ m.take (0 : Int).toNat = l := by simp
  rw [e] at key
  exact key
def isN (a : ByteArray) : ByteArray → Bool := fun s => s.toList == a.toList
theorem find_ev (l : List S74) (a : ByteArray) (hl : l.length ≤ 1048576) : Ev (fun k => spec_l03Find.f k l a) (idxF (isN a) l 0) := by
  have key := up0 (P := fun i => Ev (fun k => spec_l03Find.l0 k a i l) (idxF (isN a) (l.drop i.toNat) i)) l.length
    (EvS (by
      simp only [spec_l03Find.l0, Int.lt_irrefl, if_false, Int.toNat_natCast, List.drop_length, idxF]
      exact EvN))
    (fun i hi ih => EvS (by
      rw [Int.toNat_natCast] at *
      rw [drop_at l i hi]
      simp only [spec_l03Find.l0, if_pos (show (i : Int) < (l.length : Int) by omega), if_pos (show 0 ≤ (i : Int) by omega), rd74 l i hi, nxt i _ hi (by omega), idxF]
      by_cases h : l[i].f0.toList = a.toList
      · simp only [if_pos h, isN, beq_iff_eq.2 h, if_true]; exact EvN
      simp only [if_neg h, isN, beq_eq_false_iff_ne.2 h, Bool.false_eq_true, if_false]
      exact ih))
  unfold spec_l03Find.f
  exact key
theorem idxF_bd (p : ByteArray → Bool) : ∀ (l : List S74) (i : Int), 0 ≤ i → idxF p l i = -1 ∨ (i ≤ idxF p l i ∧ idxF p l i < i + l.length) := by
  intro l
  induction l with
  | nil => intro i _; exact .inl rfl
  | cons x t ih =>
    intro i hi
    unfold idxF
    by_cases h : p x.f0 = true
    · rw [if_pos h]; right; simp only [List.length_cons]; omega
    rw [if_neg h]
    rcases ih (i + 1) (by omega) with h1 | h1
    · exact .inl h1
    right; simp only [List.length_cons]; omega
def contentM (l : List S74) (a : ByteArray) : List Int × Bool := if diskM l = true then (if idxF (isN a) l 0 < 0 then ([], false) else ((rd_T74 l (idxF (isN a) l 0)).f1 ++ (rd_T74 l (idxF (isN a) l 0)).f2, true)) else ([], false)
theorem at_bd (l : List S74) (hw : wfD l) (i : Int) (h0 : 0 ≤ i) (h1 : i < l.length) : (rd_T74 l i).f1.length ≤ 1048576 ∧ (rd_T74 l i).f2.length ≤ 1048576 := by
  obtain ⟨n, rfl⟩ := Int.eq_ofNat_of_zero_le h0
  have hn : n < l.length := by omega
  rw [rd74 l n hn]
  exact (hw _ (List.getElem_mem hn)).2
theorem content_le (l : List S74) (a : ByteArray) (hw : wfD l) : (contentM l a).1.length ≤ 2097152 := by
  unfold contentM
  by_cases h : diskM l = true
  · rw [if_pos h]
    by_cases h2 : idxF (isN a) l 0 < 0
    · rw [if_pos h2]; simp
    rw [if_neg h2]
    have := idxF_bd (isN a) l 0 (by omega)
    have := at_bd l hw (idxF (isN a) l 0) (by omega) (by omega)
    rw [List.length_append]
    omega
  rw [if_neg h]; simp
theorem spec_content (l : List S74) (a : ByteArray) (hl : l.length ≤ 1048576) (hw : wfD l) : Ev (fun k => spec_Content.f k l a) (contentM l a) := by
  unfold spec_Content.f contentM
  simp only [EvB (find_ev l a hl), EvB (spec_disk l hl hw)]
  have hb := idxF_bd (isN a) l 0 (by omega)
  generalize idxF (isN a) l 0 = i at hb ⊢
  by_cases h : diskM l = true
  · by_cases h2 : i < 0
    · simp only [if_pos h, if_pos h2]; exact EvN
    have hr := at_bd l hw i (by omega) (by omega)
    simp only [if_pos h, if_neg h2, if_pos (show 0 ≤ i by omega), if_pos (show i < (l.length : Int) by omega), EvB (joinS (rd_T74 l i).f1 (rd_T74 l i).f2 (by omega) (by omega))]
    exact EvN
  simp only [if_neg h]; exact EvN
theorem lt47 (n m : Nat) (h : n ≤ 1000000000) (h' : m ≤ 1000000000) : n + m < 140737488355328 := by omega
theorem impl_content (l : List S74) (a : ByteArray) (hl : l.length ≤ 1048576) (hw : wfD l) : Ev (fun k => impl_Content.f k l a) (contentM l a) := by
  unfold impl_Content.f contentM
  have hf : impl_fileOf.f l a = some (idxF (isN a) l 0) := by unfold impl_fileOf.f; rw [if_pos (by omega)]; rfl
  simp only [hf, Option.bind_some, EvB (impl_disk l hl hw)]
  have hb := idxF_bd (isN a) l 0 (by omega)
  generalize idxF (isN a) l 0 = i at hb ⊢
  by_cases h : diskM l = true
  · by_cases h2 : i < 0
    · simp only [if_pos h, if_pos h2]; exact EvN
    have hr := at_bd l hw i (by omega) (by omega)
    have hc : impl_File_content.f (rd_T74 l i).f0 (rd_T74 l i).f1 (rd_T74 l i).f2 = some ((rd_T74 l i).f1 ++ (rd_T74 l i).f2) := by
      unfold impl_File_content.f
      rw [Option.bind_some, if_pos (lt47 _ _ (by simp) (by omega)), Option.bind_some, if_pos (lt47 _ _ (by simp; omega) (by omega)), List.nil_append]
    simp only [if_pos h, if_neg h2, if_pos (show 0 ≤ i by omega), if_pos (show i < (l.length : Int) by omega), hc, Option.bind_some]
    exact EvN
  simp only [if_neg h]; exact EvN
theorem lt_irr : ∀ a : List UInt8, Op.bytesLess a a = false
  | [] => rfl
  | x :: r => by simp [Op.bytesLess, lt_irr r]
theorem lt_trans : ∀ a b c : List UInt8, Op.bytesLess a b = true → Op.bytesLess b c = true → Op.bytesLess a c = true
  | a, b, [], _, h => by cases b <;> simp [Op.bytesLess] at h
  | [], b, z :: c, _, _ => rfl
  | x :: a, [], z :: c, h, _ => by simp [Op.bytesLess] at h
  | x :: a, y :: b, z :: c, h, h' => by
    simp only [Op.bytesLess, Bool.or_eq_true, decide_eq_true_eq, Bool.and_eq_true, beq_iff_eq, UInt8.lt_iff_toNat_lt] at h h' ⊢
    rcases h with h | ⟨rfl, h⟩
    · rcases h' with h' | ⟨rfl, h'⟩
      · exact .inl (by omega)
      exact .inl h
    rcases h' with h' | ⟨rfl, h'⟩
    · exact .inl h'
    exact .inr ⟨rfl, lt_trans a b c h h'⟩
theorem lt_ne {a b : List UInt8} (h : Op.bytesLess a b = true) : a ≠ b := by
  rintro rfl
  rw [lt_irr] at h
  cases h
theorem lt_total : ∀ a b : List UInt8, Op.bytesLess a b = false → Op.bytesLess b a = false → a = b
  | [], [], _, _ => rfl
  | [], y :: b, h, _ => by simp [Op.bytesLess] at h
  | x :: a, [], _, h => by simp [Op.bytesLess] at h
  | x :: a, y :: b, h, h' => by
    simp only [Op.bytesLess, Bool.or_eq_false_iff, decide_eq_false_iff_not, Bool.and_eq_false_iff, beq_eq_false_iff_ne, UInt8.lt_iff_toNat_lt] at h h'
    have e : x = y := UInt8.toNat_inj.1 (by omega)
    subst e
    rw [lt_total a b (h.2.resolve_left (fun h => h rfl)) (h'.2.resolve_left (fun h => h rfl))]
def nm (x : S74) : List UInt8 := x.f0.toList
def srt (l : List S74) : Prop := ∀ i j : Nat, i < j → ∀ x y, l[i]? = some x → l[j]? = some y → Op.bytesLess (nm x) (nm y) = true
theorem goD_at (l : List S74) : ∀ d i : Nat, goD l d i = true → ∀ j, i ≤ j → j < i + d → okAt l j = true := by
  intro d
  induction d with
  | zero => intro i _ j _ _; omega
  | succ d ih =>
    intro i h j h1 h2
    unfold goD at h
    rw [Bool.and_eq_true] at h
    by_cases e : j = i
    · subst e; exact h.1
    exact ih (i + 1) h.2 j (by omega) (by omega)
theorem goD_of (l : List S74) : ∀ d i : Nat, (∀ j, i ≤ j → j < i + d → okAt l j = true) → goD l d i = true := by
  intro d
  induction d with
  | zero => intro i _; rfl
  | succ d ih =>
    intro i h
    unfold goD
    rw [Bool.and_eq_true]
    exact ⟨h i (by omega) (by omega), ih (i + 1) (fun j h1 h2 => h j (by omega) (by omega))⟩
theorem disk_srt {l : List S74} (h : diskM l = true) : srt l := by
  unfold diskM at h
  rw [Bool.and_eq_true] at h
  have hk := goD_at l _ _ h.2
  have step : ∀ j, j + 1 < l.length → Op.bytesLess (nm (l.getD j z74)) (nm (l.getD (j + 1) z74)) = true := by
    intro j hj
    have := hk (j + 1) (by omega) (by omega)
    unfold okAt at this
    rw [Bool.and_eq_true, Bool.and_eq_true, Bool.or_eq_true] at this
    have h3 := this.2.2.resolve_left (by simp)
    simpa [rd_T74, nm] using h3
  have key : ∀ j i : Nat, i < j → j < l.length → Op.bytesLess (nm (l.getD i z74)) (nm (l.getD j z74)) = true := by
    intro j
    induction j with
    | zero => intro i h1; omega
    | succ j ih =>
      intro i h1 h2
      by_cases e : i = j
      · subst e; exact step i h2
      exact lt_trans _ _ _ (ih i (by omega) (by omega)) (step j h2)
  intro i j hij x y hx hy
  have h1 := (List.getElem?_eq_some_iff.1 hy).1
  have := key j i hij h1
  rw [List.getD_eq_getElem?_getD, List.getD_eq_getElem?_getD, hx, hy] at this
  exact this
theorem idxF_at (p : ByteArray → Bool) : ∀ (l : List S74) (s : Int), (idxF p l s = -1 ∧ ∀ x ∈ l, p x.f0 = false) ∨ (∃ m : Nat, ∃ x, idxF p l s = s + m ∧ l[m]? = some x ∧ p x.f0 = true ∧ ∀ (j : Nat) (y : S74), j < m → l[j]? = some y → p y.f0 = false) := by
  intro l
  induction l with
  | nil => intro s; exact .inl ⟨rfl, fun x hx => by cases hx⟩
  | cons x t ih =>
    intro s
    unfold idxF
    by_cases h : p x.f0 = true
    · rw [if_pos h]
      exact .inr ⟨0, x, by simp, rfl, h, fun j y hj => by omega⟩
    rw [if_neg h]
    rcases ih (s + 1) with ⟨h1, h2⟩ | ⟨m, y, h1, h2, h3, h4⟩
    · refine .inl ⟨h1, fun y hy => ?_⟩
      rcases List.mem_cons.1 hy with rfl | hy
      · exact Bool.eq_false_iff.2 h
      exact h2 y hy
    refine .inr ⟨m + 1, y, by rw [h1]; omega, by rw [List.getElem?_cons_succ]; exact h2, h3, fun j z hj hz => ?_⟩
    cases j with
    | zero => simp only [List.getElem?_cons_zero, Option.some.injEq] at hz; subst hz; exact Bool.eq_false_iff.2 h
    | succ j => rw [List.getElem?_cons_succ] at hz; exact h4 j z (by omega) hz
def notN (a : ByteArray) : S74 → Bool := fun x => !isN a x.f0
theorem filter_all {α : Type} {p : α → Bool} {l : List α} (h : ∀ x ∈ l, p x = true) : l.filter p = l := List.filter_eq_self.2 h
theorem split_at {α : Type} (l : List α) (m : Nat) (x : α) (h : l[m]? = some x) : l = l.take m ++ x :: l.drop (m + 1) := by
  obtain ⟨h1, h2⟩ := List.getElem?_eq_some_iff.1 h
  conv => lhs; rw [← List.take_append_drop m l, List.drop_eq_getElem_cons h1, h2]
theorem without_at {l : List S74} (hs : srt l) (a : ByteArray) (m : Nat) (x : S74) (hx : l[m]? = some x) (hp : isN a x.f0 = true) : l.filter (notN a) = l.eraseIdx m := by
  have hn : nm x = a.toList := by simpa [isN, nm] using hp
  have hb : ∀ y ∈ l.take m, notN a y = true := by
    intro y hy
    obtain ⟨j, hj⟩ := List.mem_iff_getElem?.1 hy
    rw [List.getElem?_take] at hj
    split at hj
    · have := lt_ne (hs j m (by omega) y x hj hx)
      simp only [notN, isN, Bool.not_eq_true', beq_eq_false_iff_ne]
      rw [← hn]; exact this
    cases hj
  have ha : ∀ y ∈ l.drop (m + 1), notN a y = true := by
    intro y hy
    obtain ⟨j, hj⟩ := List.mem_iff_getElem?.1 hy
    rw [List.getElem?_drop] at hj
    have := lt_ne (hs m (m + 1 + j) (by omega) x y hx hj)
    simp only [notN, isN, Bool.not_eq_true', beq_eq_false_iff_ne]
    rw [← hn]; exact fun e => this e.symm
  conv => lhs; rw [split_at l m x hx]
  rw [List.filter_append, filter_all hb, List.filter_cons, if_neg (by simp [notN, hp]), filter_all ha, List.eraseIdx_eq_take_drop_succ]
theorem copyS (l : List S74) (hl : l.length ≤ 100000000) (hw : ∀ y ∈ l, y.f1.length ≤ 100000000 ∧ y.f2.length ≤ 100000000) : Ev (fun k => spec_l03Copy.f k l) l := by
  have key := up0 (P := fun i => Ev (fun k => spec_l03Copy.l0 k i l (l.take i.toNat)) l) l.length
    (EvS (by simp only [spec_l03Copy.l0, Int.lt_irrefl, if_false, Int.toNat_natCast, List.take_length]; exact EvN))
    (fun i hi ih => EvS (by
      have hy := hw _ (List.getElem_mem hi)
      simp only [spec_l03Copy.l0, if_pos (show (i : Int) < (l.length : Int) by omega), if_pos (show 0 ≤ (i : Int) by omega), Int.toNat_natCast, rd74 l i hi, EvB (bytesS _ (show l[i].f1.length ≤ 1000000000 by omega)), EvB (bytesS _ (show l[i].f2.length ≤ 1000000000 by omega)), nxt i _ hi (by omega), if_pos (show (l.take i).length < 2199023255552 by rw [List.length_take]; omega)]
      rw [Int.toNat_natCast, List.take_add_one, List.getElem?_eq_getElem hi] at ih
      exact ih))
  unfold spec_l03Copy.f
  exact key
theorem copyI (l : List S74) (hl : l.length ≤ 100000000) (hw : ∀ y ∈ l, y.f1.length ≤ 100000000 ∧ y.f2.length ≤ 100000000) : Ev (fun k => impl_copyDisk.f k l) l := by
  have key := up0 (P := fun i => Ev (fun k => impl_copyDisk.l0 k l (l.length : Int) i (l.take i.toNat)) l) l.length
    (EvS (by simp only [impl_copyDisk.l0, Int.lt_irrefl, if_false, Int.toNat_natCast, List.take_length]; exact EvN))
    (fun i hi ih => EvS (by
      have hy := hw _ (List.getElem_mem hi)
      simp only [impl_copyDisk.l0, if_pos (show (i : Int) < (l.length : Int) by omega), if_pos (show 0 ≤ (i : Int) by omega), Int.toNat_natCast, rd74 l i hi, Option.bind_some, if_pos (show ([] : List Int).length + l[i].f1.length < 140737488355328 by rw [List.length_nil]; omega), if_pos (show ([] : List Int).length + l[i].f2.length < 140737488355328 by rw [List.length_nil]; omega), List.nil_append, nxt i _ hi (by omega), if_pos (show (l.take i).length < 2199023255552 by rw [List.length_take]; omega)]
      rw [Int.toNat_natCast, List.take_add_one, List.getElem?_eq_getElem hi] at ih
      exact ih))
  unfold impl_copyDisk.f
  exact key
theorem withoutS (l : List S74) (a : ByteArray) (hl : l.length ≤ 100000000) (hw : ∀ y ∈ l, y.f1.length ≤ 100000000 ∧ y.f2.length ≤ 100000000) : Ev (fun k => spec_l03Without.f k l a) (l.filter (notN a)) := by
  have key := up0 (P := fun i => Ev (fun k => spec_l03Without.l0 k a i l ((l.take i.toNat).filter (notN a))) (l.filter (notN a))) l.length
    (EvS (by
      have hlf : (l.filter (notN a)).length ≤ 100000000 := Nat.le_trans (List.length_filter_le _ _) hl
      simp only [spec_l03Without.l0, Int.lt_irrefl, if_false, Int.toNat_natCast, List.take_length, EvB (copyS _ hlf (fun y hy => hw y (List.mem_filter.1 hy).1))]
      exact EvN))
    (fun i hi ih => EvS (by
      have hlf : ((l.take i).filter (notN a)).length ≤ i := Nat.le_trans (List.length_filter_le _ _) (by rw [List.length_take]; omega)
      rw [Int.toNat_natCast, List.take_add_one, List.getElem?_eq_getElem hi, Option.toList_some, List.filter_append, List.filter_cons, List.filter_nil] at ih
      simp only [spec_l03Without.l0, if_pos (show (i : Int) < (l.length : Int) by omega), if_pos (show 0 ≤ (i : Int) by omega), Int.toNat_natCast, rd74 l i hi, nxt i _ hi (by omega)]
      by_cases c : l[i].f0.toList = a.toList
      · rw [if_neg (by simp [notN, isN, c]), List.append_nil] at ih
        simp only [if_pos c]
        exact ih
      rw [if_pos (by simp [notN, isN, c])] at ih
      simp only [if_neg c, if_pos (show ((l.take i).filter (notN a)).length < 2199023255552 by omega)]
      exact ih))
  unfold spec_l03Without.f
  exact key
def lessN (a : ByteArray) : S74 → Bool := fun x => Op.bytesLess (nm x) a.toList
def putGo (f : S74) : Bool → List S74 → List S74 → List S74
  | b, [], out => if b = true then out else out ++ [f]
  | true, x :: r, out => if nm x = nm f then putGo f true r out else putGo f true r (out ++ [x])
  | false, x :: r, out => if lessN f.f0 x = true then (if nm x = nm f then putGo f false r out else putGo f false r (out ++ [x])) else (if nm x = nm f then putGo f true r (out ++ [f]) else putGo f true r (out ++ [f] ++ [x]))
theorem putGo_true (f : S74) : ∀ (l out : List S74), putGo f true l out = out ++ l.filter (notN f.f0)
  | [], out => by simp [putGo]
  | x :: r, out => by
    unfold putGo
    by_cases c : nm x = nm f
    · rw [if_pos c, putGo_true f r out, List.filter_cons, if_neg (by simp [notN, isN]; exact c)]
    rw [if_neg c, putGo_true f r _, List.filter_cons, if_pos (by simp [notN, isN]; exact c), List.append_assoc]; rfl
theorem putGo_false (f : S74) : ∀ (l out : List S74), putGo f false l out = out ++ l.takeWhile (lessN f.f0) ++ f :: (l.dropWhile (lessN f.f0)).filter (notN f.f0)
  | [], out => by simp [putGo]
  | x :: r, out => by
    unfold putGo
    by_cases h : lessN f.f0 x = true
    · have c : ¬ nm x = nm f := lt_ne h
      rw [if_pos h, if_neg c, putGo_false f r _, List.takeWhile_cons_of_pos h, List.dropWhile_cons_of_pos h]
      simp
    rw [if_neg h, List.takeWhile_cons_of_neg h, List.dropWhile_cons_of_neg h]
    by_cases c : nm x = nm f
    · rw [if_pos c, putGo_true, List.filter_cons, if_neg (by simp [notN, isN]; exact c)]
      simp
    rw [if_neg c, putGo_true, List.filter_cons, if_pos (by simp [notN, isN]; exact c)]
    simp
def putM (l : List S74) (f : S74) : List S74 := l.takeWhile (lessN f.f0) ++ f :: (l.dropWhile (lessN f.f0)).filter (notN f.f0)
theorem put_len (f : S74) : ∀ (b : Bool) (l out : List S74), (putGo f b l out).length ≤ out.length + l.length + 1 := by
  intro b l out
  cases b with
  | true => rw [putGo_true, List.length_append]; have := List.length_filter_le (notN f.f0) l; omega
  | false =>
    rw [putGo_false]
    have h1 := List.length_filter_le (notN f.f0) (l.dropWhile (lessN f.f0))
    have h2 : (l.takeWhile (lessN f.f0)).length + (l.dropWhile (lessN f.f0)).length = l.length := by rw [← List.length_append, List.takeWhile_append_dropWhile]
    simp only [List.length_append, List.length_cons]
    omega
theorem put_mem (f : S74) (l : List S74) : ∀ y ∈ putM l f, y = f ∨ y ∈ l := by
  intro y hy
  rcases List.mem_append.1 hy with h | h
  · exact .inr ((List.takeWhile_sublist _).subset h)
  rcases List.mem_cons.1 h with h | h
  · exact .inl h
  exact .inr ((List.dropWhile_sublist _).subset (List.mem_filter.1 h).1)
theorem putS (l : List S74) (f : S74) (hl : l.length ≤ 10000000) (hw : ∀ y ∈ l, y.f1.length ≤ 100000000 ∧ y.f2.length ≤ 100000000) (hf : f.f1.length ≤ 100000000 ∧ f.f2.length ≤ 100000000) : Ev (fun k => spec_l03Put.f k l f.f0 f.f1 f.f2) (putM l f) := by
  have hsz : (putM l f).length ≤ 100000000 := by
    have := put_len f false l []
    rw [putGo_false, List.length_nil] at this
    simp only [List.nil_append] at this
    show (l.takeWhile (lessN f.f0) ++ f :: (l.dropWhile (lessN f.f0)).filter (notN f.f0)).length ≤ _
    omega
  have fin : Ev (fun k => spec_l03Copy.f k (putM l f)) (putM l f) := copyS _ hsz (fun y hy => by
    rcases put_mem f l y hy with rfl | h
    · exact hf
    exact hw y h)
  have key : ∀ d i : Nat, d + i = l.length → ∀ (b : Bool) (out : List S74), out.length ≤ 2 * i → putGo f b (l.drop i) out = putM l f → Ev (fun k => spec_l03Put.l0 k b i l f.f0 f.f1 f.f2 out) (putM l f) := by
    intro d
    induction d with
    | zero =>
      intro i hi b out h1 h3
      have hi : i = l.length := by omega
      subst hi
      rw [List.drop_length] at h3
      refine EvS ?_
      simp only [spec_l03Put.l0, Int.lt_irrefl, if_false]
      cases b with
      | true =>
        simp only [putGo, if_true] at h3
        subst h3
        simp only [if_true]
        exact (EvB fin).2 EvN
      | false =>
        simp only [putGo, Bool.false_eq_true, if_false] at h3
        simp only [Bool.false_eq_true, if_false, if_pos (show out.length < 2199023255552 by omega)]
        rw [h3]
        exact (EvB fin).2 EvN
    | succ d ih =>
      intro i hi b out h1 h3
      have hil : i < l.length := by omega
      rw [drop_at l i hil] at h3
      have ih' := fun b out h1 h3 => ih (i + 1) (by omega) b out h1 h3
      refine EvS ?_
      have hi1 : (i : Int) < (l.length : Int) := by omega
      have hi0 : 0 ≤ (i : Int) := by omega
      have hnx := nxt i _ hil (by omega)
      simp only [spec_l03Put.l0, if_pos hi1, if_pos hi0, rd74 l i hil]
      cases b with
      | true =>
        simp only [if_true]
        refine EvS ?_
        simp only [spec_l03Put.j1, Bool.false_eq_true, if_false, if_pos hi1, if_pos hi0, rd74 l i hil, hnx]
        simp only [putGo] at h3
        by_cases c : l[i].f0.toList = f.f0.toList
        · rw [if_pos (show nm l[i] = nm f from c)] at h3
          simp only [if_pos c]
          exact ih' _ _ (by omega) h3
        rw [if_neg (show ¬ nm l[i] = nm f from c)] at h3
        simp only [if_neg c, if_pos (show out.length < 2199023255552 by omega)]
        exact ih' _ _ (by simp; omega) h3
      | false =>
        simp only [Bool.false_eq_true, if_false]
        refine EvS ?_
        simp only [putGo] at h3
        by_cases g : lessN f.f0 l[i] = true
        · have g' : Op.bytesLess l[i].f0.toList f.f0.toList = true := g
          rw [if_pos g] at h3
          simp only [g', Bool.not_true, spec_l03Put.j1, Bool.false_eq_true, if_false, if_pos hi1, if_pos hi0, rd74 l i hil, hnx]
          by_cases c : l[i].f0.toList = f.f0.toList
          · rw [if_pos (show nm l[i] = nm f from c)] at h3
            simp only [if_pos c]
            exact ih' _ _ (by omega) h3
          rw [if_neg (show ¬ nm l[i] = nm f from c)] at h3
          simp only [if_neg c, if_pos (show out.length < 2199023255552 by omega)]
          exact ih' _ _ (by simp; omega) h3
        have g' : Op.bytesLess l[i].f0.toList f.f0.toList = false := Bool.eq_false_iff.2 g
        rw [if_neg g] at h3
        simp only [g', Bool.not_false, spec_l03Put.j1, if_true, if_pos hi1, if_pos hi0, rd74 l i hil, hnx, if_pos (show out.length < 2199023255552 by omega), Option.bind_some]
        by_cases c : l[i].f0.toList = f.f0.toList
        · rw [if_pos (show nm l[i] = nm f from c)] at h3
          simp only [if_pos c]
          exact ih' _ _ (by simp; omega) h3
        rw [if_neg (show ¬ nm l[i] = nm f from c)] at h3
        have hlen : (out ++ [(⟨f.f0, f.f1, f.f2⟩ : S74)]).length < 2199023255552 := by simp; omega
        simp only [if_neg c, if_pos hlen]
        exact ih' _ _ (by simp; omega) h3
  have := key l.length 0 rfl false [] (by simp) (by rw [List.drop_zero, putGo_false]; rfl)
  unfold spec_l03Put.f
  exact this
theorem wfD_le' {l : List S74} (hw : wfD l) : ∀ y ∈ l, y.f1.length ≤ 100000000 ∧ y.f2.length ≤ 100000000 := fun y hy => by have := hw y hy; omega
theorem content_ok {l : List S74} {a : ByteArray} (h : (contentM l a).2 = true) : diskM l = true ∧ ¬ idxF (isN a) l 0 < 0 ∧ (contentM l a).1 = (rd_T74 l (idxF (isN a) l 0)).f1 ++ (rd_T74 l (idxF (isN a) l 0)).f2 := by
  unfold contentM at h ⊢
  by_cases h1 : diskM l = true
  · rw [if_pos h1] at h ⊢
    by_cases h2 : idxF (isN a) l 0 < 0
    · rw [if_pos h2] at h; cases h
    rw [if_neg h2]; exact ⟨h1, h2, rfl⟩
  rw [if_neg h1] at h; cases h
theorem content_no {l : List S74} {a : ByteArray} (h : ¬ (contentM l a).2 = true) : diskM l = true → idxF (isN a) l 0 < 0 := by
  intro h1
  refine Decidable.byContradiction fun h2 => h ?_
  unfold contentM
  rw [if_pos h1, if_neg h2]
theorem idx_at (l : List S74) (a : ByteArray) (h : ¬ idxF (isN a) l 0 < 0) : ∃ (m : Nat) (x : S74), idxF (isN a) l 0 = m ∧ l[m]? = some x ∧ nm x = a.toList ∧ m < l.length := by
  rcases idxF_at (isN a) l 0 with ⟨h1, _⟩ | ⟨m, x, h1, h2, h3, _⟩
  · omega
  exact ⟨m, x, by omega, h2, by simpa [isN, nm] using h3, (List.getElem?_eq_some_iff.1 h2).1⟩
theorem put_at {l : List S74} (hs : srt l) (f : S74) (m : Nat) (x : S74) (hx : l[m]? = some x) (hn : nm x = f.f0.toList) : putM l f = l.set m f := by
  have hb : ∀ y ∈ l.take m, lessN f.f0 y = true := by
    intro y hy
    obtain ⟨j, hj⟩ := List.mem_iff_getElem?.1 hy
    rw [List.getElem?_take] at hj
    split at hj
    · have := hs j m (by omega) y x hj hx
      rw [hn] at this
      exact this
    cases hj
  have ha : ∀ y ∈ l.drop (m + 1), notN f.f0 y = true := by
    intro y hy
    obtain ⟨j, hj⟩ := List.mem_iff_getElem?.1 hy
    rw [List.getElem?_drop] at hj
    have := lt_ne (hs m (m + 1 + j) (by omega) x y hx hj)
    simp only [notN, isN, Bool.not_eq_true', beq_eq_false_iff_ne]
    rw [← hn]; exact fun e => this e.symm
  have hx0 : lessN f.f0 x = false := by unfold lessN; rw [hn, lt_irr]
  have hx1 : notN f.f0 x = false := by unfold notN isN; rw [Bool.not_eq_false', beq_iff_eq]; exact hn
  have hm := (List.getElem?_eq_some_iff.1 hx).1
  unfold putM
  have e1 : l.takeWhile (lessN f.f0) = l.take m := by
    conv => lhs; rw [split_at l m x hx]
    rw [List.takeWhile_append_of_pos hb, List.takeWhile_cons_of_neg (by rw [hx0]; decide), List.append_nil]
  have e2 : l.dropWhile (lessN f.f0) = x :: l.drop (m + 1) := by
    conv => lhs; rw [split_at l m x hx]
    rw [List.dropWhile_append_of_pos hb, List.dropWhile_cons_of_neg (by rw [hx0]; decide)]
  rw [e1, e2, List.filter_cons, if_neg (by rw [hx1]; decide), filter_all ha, List.set_eq_take_append_cons_drop, if_pos hm]
theorem mem_set {l : List S74} {m : Nat} {f y : S74} (h : y ∈ l.set m f) : y = f ∨ y ∈ l := (List.mem_or_eq_of_mem_set h).symm
theorem content_at (l : List S74) (hw : wfD l) (i : Int) (h0 : 0 ≤ i) (h1 : i < l.length) : impl_File_content.f (rd_T74 l i).f0 (rd_T74 l i).f1 (rd_T74 l i).f2 = some ((rd_T74 l i).f1 ++ (rd_T74 l i).f2) := by
  have hr := at_bd l hw i h0 h1
  unfold impl_File_content.f
  rw [Option.bind_some, if_pos (lt47 _ _ (by simp) (by omega)), Option.bind_some, if_pos (lt47 _ _ (by simp; omega) (by omega)), List.nil_append]
def syncM (l : List S74) (a : ByteArray) : List S74 × Bool := if (contentM l a).2 = true then (l.set (idxF (isN a) l 0).toNat ⟨a, (contentM l a).1, []⟩, true) else (l, false)
theorem spec_sync (l : List S74) (a : ByteArray) (hl : l.length ≤ 1048576) (hw : wfD l) : Ev (fun k => spec_SyncFile.f k l a) (syncM l a) := by
  have hc := copyS l (by omega) (wfD_le' hw)
  have hS := spec_content l a hl hw
  have hb := content_le l a hw
  unfold spec_SyncFile.f syncM
  simp only [EvB hS]
  by_cases h : (contentM l a).2 = true
  · obtain ⟨h1, h2, _⟩ := content_ok h
    obtain ⟨m, x, e, hx, hn, hm⟩ := idx_at l a h2
    have hP := putS l ⟨a, (contentM l a).1, []⟩ (by omega) (wfD_le' hw) ⟨by show (contentM l a).1.length ≤ 100000000; omega, by simp⟩
    rw [put_at (disk_srt h1) _ m x hx hn] at hP
    simp only [if_pos h]
    rw [e, Int.toNat_natCast]
    exact (EvB hP).2 EvN
  simp only [if_neg h]
  exact (EvB hc).2 EvN
theorem impl_sync (l : List S74) (a : ByteArray) (hl : l.length ≤ 1048576) (hw : wfD l) : Ev (fun k => impl_syncFile.f k l a) (syncM l a) := by
  have hc := copyI l (by omega) (wfD_le' hw)
  have hf : impl_fileOf.f l a = some (idxF (isN a) l 0) := by unfold impl_fileOf.f; rw [if_pos (by omega)]; rfl
  unfold impl_syncFile.f syncM
  simp only [EvB hc, hf, Option.bind_some, EvB (impl_disk l hl hw)]
  by_cases h : (contentM l a).2 = true
  · obtain ⟨h1, h2, h3⟩ := content_ok h
    obtain ⟨m, x, e, hx, hn, hm⟩ := idx_at l a h2
    have hil : idxF (isN a) l 0 < (l.length : Int) := by omega
    simp only [if_pos h1, if_neg h2, if_pos hil, content_at l hw _ (by omega) hil, Option.bind_some, if_pos h, h3]
    exact EvN
  simp only [if_neg h]
  by_cases h1 : diskM l = true
  · simp only [if_pos h1, if_pos (content_no h h1)]; exact EvN
  simp only [if_neg h1]; exact EvN
def cutM (l : List S74) (a : ByteArray) (n : Int) : List S74 × Bool := if (contentM l a).2 = true then (if 0 ≤ n ∧ n ≤ ((contentM l a).1.length : Int) then (l.set (idxF (isN a) l 0).toNat ⟨a, (contentM l a).1.take n.toNat, []⟩, true) else (l, false)) else (l, false)
theorem spec_cut (l : List S74) (a : ByteArray) (n : Int) (hl : l.length ≤ 1048576) (hw : wfD l) : Ev (fun k => spec_CutFile.f k l a n) (cutM l a n) := by
  have hc := copyS l (by omega) (wfD_le' hw)
  have hS := spec_content l a hl hw
  have hb := content_le l a hw
  unfold spec_CutFile.f cutM
  simp only [EvB hS]
  by_cases h : (contentM l a).2 = true
  · obtain ⟨h1, h2, _⟩ := content_ok h
    obtain ⟨m, x, e, hx, hn, hm⟩ := idx_at l a h2
    simp only [if_pos h]
    by_cases g : 0 ≤ n ∧ n ≤ ((contentM l a).1.length : Int)
    · have hIn : spec_l01In.f n 0 ((contentM l a).1.length : Int) = some true := by unfold spec_l01In.f; rw [if_pos g.1, decide_eq_true g.2]
      have hP := putS l ⟨a, (contentM l a).1.take n.toNat, []⟩ (by omega) (wfD_le' hw) ⟨by show ((contentM l a).1.take n.toNat).length ≤ 100000000; rw [List.length_take]; omega, by simp⟩
      rw [put_at (disk_srt h1) _ m x hx hn] at hP
      simp only [hIn, Option.bind_some, Bool.not_true, if_pos g]
      refine EvS ?_
      simp only [spec_CutFile.j0, Bool.false_eq_true, if_false, if_pos g.1, if_pos g.2]
      rw [e, Int.toNat_natCast]
      exact (EvB hP).2 EvN
    have hIn : spec_l01In.f n 0 ((contentM l a).1.length : Int) = some false := by
      unfold spec_l01In.f
      by_cases g1 : 0 ≤ n
      · rw [if_pos g1, decide_eq_false (fun g2 => g ⟨g1, g2⟩)]
      rw [if_neg g1]
    simp only [hIn, Option.bind_some, Bool.not_false, if_neg g]
    refine EvS ?_
    simp only [spec_CutFile.j0, if_true]
    exact (EvB hc).2 EvN
  simp only [if_neg h]
  refine EvS ?_
  simp only [spec_CutFile.j0, if_true]
  exact (EvB hc).2 EvN
theorem impl_cut (l : List S74) (a : ByteArray) (n : Int) (hl : l.length ≤ 1048576) (hw : wfD l) : Ev (fun k => impl_cutFile.f k l a n) (cutM l a n) := by
  have hc := copyI l (by omega) (wfD_le' hw)
  have hf : impl_fileOf.f l a = some (idxF (isN a) l 0) := by unfold impl_fileOf.f; rw [if_pos (by omega)]; rfl
  unfold impl_cutFile.f cutM
  simp only [EvB hc, hf, Option.bind_some, EvB (impl_disk l hl hw)]
  by_cases h : (contentM l a).2 = true
  · obtain ⟨h1, h2, h3⟩ := content_ok h
    obtain ⟨m, x, e, hx, hn, hm⟩ := idx_at l a h2
    have hil : idxF (isN a) l 0 < (l.length : Int) := by omega
    simp only [if_pos h1, if_neg h2, if_pos hil, content_at l hw _ (by omega) hil, Option.bind_some, if_pos h, h3]
    by_cases g1 : n < 0
    · simp only [if_pos g1, if_neg (show ¬ (0 ≤ n ∧ n ≤ (((rd_T74 l (idxF (isN a) l 0)).f1 ++ (rd_T74 l (idxF (isN a) l 0)).f2).length : Int)) by omega)]; exact EvN
    by_cases g2 : n > (((rd_T74 l (idxF (isN a) l 0)).f1 ++ (rd_T74 l (idxF (isN a) l 0)).f2).length : Int)
    · simp only [if_neg g1, if_pos g2, if_neg (show ¬ (0 ≤ n ∧ n ≤ (((rd_T74 l (idxF (isN a) l 0)).f1 ++ (rd_T74 l (idxF (isN a) l 0)).f2).length : Int)) by omega)]; exact EvN
    simp only [if_neg g1, if_neg g2, if_pos (show 0 ≤ n ∧ n ≤ (((rd_T74 l (idxF (isN a) l 0)).f1 ++ (rd_T74 l (idxF (isN a) l 0)).f2).length : Int) by omega)]; exact EvN
  simp only [if_neg h]
  by_cases h1 : diskM l = true
  · simp only [if_pos h1, if_pos (content_no h h1)]; exact EvN
  simp only [if_neg h1]; exact EvN
def removeM (l : List S74) (a : ByteArray) : List S74 × Bool := if diskM l = true then (if idxF (isN a) l 0 < 0 then (l, false) else (l.eraseIdx (idxF (isN a) l 0).toNat, true)) else (l, false)
theorem wfD_le {l : List S74} (hw : wfD l) : ∀ y ∈ l, y.f1.length ≤ 100000000 ∧ y.f2.length ≤ 100000000 := fun y hy => by have := hw y hy; omega
theorem idx_in (l : List S74) (a : ByteArray) (h : ¬ idxF (isN a) l 0 < 0) : ∃ (m : Nat) (x : S74), idxF (isN a) l 0 = m ∧ l[m]? = some x ∧ isN a x.f0 = true ∧ m < l.length := by
  rcases idxF_at (isN a) l 0 with ⟨h1, _⟩ | ⟨m, x, h1, h2, h3, _⟩
  · omega
  exact ⟨m, x, by omega, h2, h3, (List.getElem?_eq_some_iff.1 h2).1⟩
theorem spec_remove (l : List S74) (a : ByteArray) (hl : l.length ≤ 1048576) (hw : wfD l) : Ev (fun k => spec_RemoveFile.f k l a) (removeM l a) := by
  have hc := copyS l (by omega) (wfD_le hw)
  unfold spec_RemoveFile.f removeM
  simp only [EvB (spec_disk l hl hw)]
  by_cases h : diskM l = true
  · simp only [if_pos h, EvB (find_ev l a hl)]
    refine EvS ?_
    by_cases h2 : idxF (isN a) l 0 < 0
    · simp only [spec_RemoveFile.j0, decide_eq_true h2, if_true, EvB (EvP hc), if_pos h2]
      exact (EvB hc).2 EvN
    obtain ⟨m, x, e, hx, hp, hm⟩ := idx_in l a h2
    have hW := withoutS l a (by omega) (wfD_le hw)
    rw [without_at (disk_srt h) a m x hx hp] at hW
    simp only [spec_RemoveFile.j0, decide_eq_false h2, Bool.false_eq_true, if_false, if_neg h2]
    rw [e, Int.toNat_natCast]
    exact (EvB hW).2 EvN
  simp only [if_neg h]
  refine EvS ?_
  simp only [spec_RemoveFile.j0, if_true]
  exact (EvB hc).2 EvN
theorem impl_remove (l : List S74) (a : ByteArray) (hl : l.length ≤ 1048576) (hw : wfD l) : Ev (fun k => impl_removeFile.f k l a) (removeM l a) := by
  have hc := copyI l (by omega) (wfD_le hw)
  have hf : impl_fileOf.f l a = some (idxF (isN a) l 0) := by unfold impl_fileOf.f; rw [if_pos (by omega)]; rfl
  unfold impl_removeFile.f removeM
  simp only [EvB hc, hf, Option.bind_some, EvB (impl_disk l hl hw)]
  by_cases h : diskM l = true
  · simp only [if_pos h]
    by_cases h2 : idxF (isN a) l 0 < 0
    · simp only [if_pos h2]; exact EvN
    obtain ⟨m, x, e, hx, hp, hm⟩ := idx_in l a h2
    simp only [if_neg h2, if_pos (show idxF (isN a) l 0 < (l.length : Int) by omega)]
    exact EvN
  simp only [if_neg h]; exact EvN
abbrev ltF (x y : S74) : Prop := Op.bytesLess (nm x) (nm y) = true
theorem srt_pw {l : List S74} : srt l ↔ l.Pairwise ltF := by
  rw [List.pairwise_iff_getElem]
  constructor
  · intro h i j hi hj hij
    exact h i j hij _ _ (List.getElem?_eq_getElem hi) (List.getElem?_eq_getElem hj)
  intro h i j hij x y hx hy
  obtain ⟨hi, rfl⟩ := List.getElem?_eq_some_iff.1 hx
  obtain ⟨hj, rfl⟩ := List.getElem?_eq_some_iff.1 hy
  exact h i j hi hj hij
theorem ins_take (x : S74) : ∀ l : List S74, l.take (wIdx x.f0 l) = l.takeWhile (lessN x.f0) ∧ l.drop (wIdx x.f0 l) = l.dropWhile (lessN x.f0)
  | [] => ⟨rfl, rfl⟩
  | y :: r => by
    obtain ⟨h1, h2⟩ := ins_take x r
    unfold wIdx
    cases h : Op.bytesLess y.f0.toList x.f0.toList with
    | true =>
      have hl : lessN x.f0 y = true := h
      simp only [if_true, List.take_succ_cons, List.drop_succ_cons, List.takeWhile_cons, List.dropWhile_cons, hl, h1, h2, and_self]
    | false =>
      have hl : lessN x.f0 y = false := h
      simp only [Bool.false_eq_true, if_false, List.take_zero, List.drop_zero, List.takeWhile_cons, List.dropWhile_cons, hl, and_self]
theorem ins_eq (l : List S74) (x : S74) : insM l x = l.takeWhile (lessN x.f0) ++ x :: l.dropWhile (lessN x.f0) := by
  unfold insM
  rw [(ins_take x l).1, (ins_take x l).2]
theorem less_not {a : ByteArray} {y : S74} (h : lessN a y = true) : notN a y = true := by
  have := lt_ne (a := nm y) (b := a.toList) h
  unfold notN isN
  simpa [nm] using this
theorem dw_less {a : ByteArray} : ∀ {l : List S74}, l.Pairwise ltF → ∀ y ∈ l.dropWhile (lessN a), lessN a y = false
  | [], _, y, hy => by simp at hy
  | x :: r, h, y, hy => by
    rw [List.dropWhile_cons] at hy
    cases hx : lessN a x with
    | true => rw [hx, if_pos rfl] at hy; exact dw_less (List.pairwise_cons.1 h).2 y hy
    | false =>
      rw [hx, if_neg (by decide)] at hy
      rcases List.mem_cons.1 hy with rfl | hy
      · exact hx
      cases hq : lessN a y with
      | false => rfl
      | true =>
        have h1 : lessN a x = true := lt_trans _ _ _ ((List.pairwise_cons.1 h).1 y hy) hq
        rw [hx] at h1
        cases h1
theorem tw_app {p : S74 → Bool} : ∀ (t d : List S74), (∀ y ∈ t, p y = true) → (∀ y ∈ d, p y = false) → (t ++ d).takeWhile p = t ∧ (t ++ d).dropWhile p = d
  | [], d, _, hd => by
    cases d with
    | nil => exact ⟨rfl, rfl⟩
    | cons y r =>
      have := hd y List.mem_cons_self
      simp [List.takeWhile_cons, List.dropWhile_cons, this]
  | x :: t, d, ht, hd => by
    obtain ⟨h1, h2⟩ := tw_app t d (fun y hy => ht y (List.mem_cons_of_mem _ hy)) hd
    have := ht x List.mem_cons_self
    simp [List.takeWhile_cons, List.dropWhile_cons, this, h1, h2]
theorem tw_all {p : S74 → Bool} : ∀ (l : List S74), ∀ y ∈ l.takeWhile p, p y = true
  | [], y, hy => by simp at hy
  | x :: r, y, hy => by
    rw [List.takeWhile_cons] at hy
    cases hx : p x with
    | true =>
      rw [hx, if_pos rfl] at hy
      rcases List.mem_cons.1 hy with rfl | hy
      · exact hx
      exact tw_all r y hy
    | false => rw [hx, if_neg (by decide)] at hy; simp at hy
theorem fil_split {a : ByteArray} {l : List S74} (h : l.Pairwise ltF) : (l.filter (notN a)).takeWhile (lessN a) = l.takeWhile (lessN a) ∧ (l.filter (notN a)).dropWhile (lessN a) = (l.dropWhile (lessN a)).filter (notN a) := by
  have e : l.filter (notN a) = l.takeWhile (lessN a) ++ (l.dropWhile (lessN a)).filter (notN a) := by
    conv => lhs; rw [← List.takeWhile_append_dropWhile (p := lessN a) (l := l)]
    rw [List.filter_append, filter_all (fun y hy => less_not (tw_all l y hy))]
  rw [e]
  exact tw_app _ _ (fun y hy => tw_all l y hy) (fun y hy => dw_less h y (List.mem_filter.1 hy).1)
theorem ins_put {l : List S74} (h : l.Pairwise ltF) (f : S74) : insM (l.filter (notN f.f0)) f = putM l f := by
  rw [ins_eq, (fil_split h).1, (fil_split h).2]
  rfl
theorem put_fil {l : List S74} (h : l.Pairwise ltF) (f : S74) : putM (l.filter (notN f.f0)) f = putM l f := by
  unfold putM
  rw [(fil_split h).1, (fil_split h).2, List.filter_filter]
  simp only [Bool.and_self]
theorem disk_each {l : List S74} (h : diskM l = true) : l.length ≤ 8 ∧ ∀ y ∈ l, nameM y.f0 = true ∧ y.f1.length + y.f2.length ≤ 20000 := by
  unfold diskM at h
  rw [Bool.and_eq_true, decide_eq_true_iff] at h
  refine ⟨h.1, fun y hy => ?_⟩
  obtain ⟨j, hj, rfl⟩ := List.mem_iff_getElem.1 hy
  have hk := goD_at l _ _ h.2 j (by omega) (by omega)
  unfold okAt at hk
  rw [Bool.and_eq_true, Bool.and_eq_true, decide_eq_true_iff, rd74 l j hj] at hk
  exact ⟨hk.1, hk.2.1⟩
theorem disk_of {l : List S74} (h1 : l.length ≤ 8) (h2 : ∀ y ∈ l, nameM y.f0 = true ∧ y.f1.length + y.f2.length ≤ 20000) (h3 : l.Pairwise ltF) : diskM l = true := by
  unfold diskM
  rw [Bool.and_eq_true, decide_eq_true_iff]
  refine ⟨h1, goD_of l _ _ fun j _ hj => ?_⟩
  have hj : j < l.length := by omega
  have hy := h2 _ (List.getElem_mem hj)
  unfold okAt
  rw [Bool.and_eq_true, Bool.and_eq_true, decide_eq_true_iff, rd74 l j hj]
  refine ⟨hy.1, hy.2, ?_⟩
  by_cases h0 : j = 0
  · simp [h0]
  rw [rd74 l (j - 1) (by omega), Bool.or_eq_true]
  exact .inr (List.pairwise_iff_getElem.1 h3 (j - 1) j (by omega) hj (by omega))
theorem disk_fil {l : List S74} (p : S74 → Bool) (h : diskM l = true) : diskM (l.filter p) = true := by
  obtain ⟨h1, h2⟩ := disk_each h
  exact disk_of (Nat.le_trans (List.length_filter_le _ _) h1) (fun y hy => h2 y (List.mem_filter.1 hy).1) ((srt_pw.1 (disk_srt h)).filter _)
theorem remove_fil {l : List S74} (a : ByteArray) (h : diskM l = true) : (removeM l a).1 = l.filter (notN a) := by
  unfold removeM
  rw [if_pos h]
  rcases idxF_at (isN a) l 0 with ⟨e, hn⟩ | ⟨m, x, e, hx, hp, _⟩
  · rw [if_pos (by omega)]
    exact (filter_all (fun y hy => by unfold notN; rw [hn y hy]; rfl)).symm
  rw [if_neg (by omega), without_at (disk_srt h) a m x hx hp]
  show l.eraseIdx _ = _
  congr 1
  omega
def renM (l : List S74) (a b : ByteArray) : List S74 × Bool := if diskM l = true ∧ ¬ idxF (isN a) l 0 < 0 ∧ nameM b = true then (putM (l.filter (notN a)) ⟨b, (rd_T74 l (idxF (isN a) l 0)).f1, (rd_T74 l (idxF (isN a) l 0)).f2⟩, true) else (l, false)
theorem ba_ext {a b : ByteArray} (h : a.toList = b.toList) : a = b := by
  rw [ByteArray.toList_eq, ByteArray.toList_eq] at h
  cases a with
  | mk x => cases b with
    | mk y => simpa using h
theorem spec_ren (l : List S74) (a b : ByteArray) (hl : l.length ≤ 1048576) (hw : wfD l) (hb : b.size ≤ 9223372036854775807) : Ev (fun k => spec_RenameFile.f k l a b) (renM l a b) := by
  have hc := copyS l (by omega) (wfD_le hw)
  have bad : ∀ i : Int, ¬ (diskM l = true ∧ ¬ idxF (isN a) l 0 < 0 ∧ nameM b = true) → Ev (fun k => spec_RenameFile.j0 k a b i true l) (renM l a b) := fun i h => EvS (by
    unfold renM
    rw [if_neg h]
    simp only [spec_RenameFile.j0, if_true]
    exact (EvB hc).2 EvN)
  unfold spec_RenameFile.f
  refine (EvB (find_ev l a hl)).2 ?_
  refine (EvB (spec_disk l hl hw)).2 ?_
  by_cases h : diskM l = true
  · by_cases h2 : idxF (isN a) l 0 < 0
    · simp only [if_pos h, if_pos h2]
      exact bad _ (fun q => q.2.1 h2)
    simp only [if_pos h, if_neg h2]
    refine (EvB (spec_name b hb)).2 ?_
    by_cases h3 : nameM b = true
    · obtain ⟨m, x, e, hx, hn, hm⟩ := idx_at l a h2
      rw [h3]
      refine EvS ?_
      have hr := hw _ (List.getElem_mem hm)
      have hW := withoutS l a (by omega) (wfD_le hw)
      have hl1 : (l.filter (notN a)).length ≤ l.length := List.length_filter_le _ _
      have hP := putS (l.filter (notN a)) (⟨b, (rd_T74 l (idxF (isN a) l 0)).f1, (rd_T74 l (idxF (isN a) l 0)).f2⟩ : S74) (by omega) (fun y hy => wfD_le hw y (List.mem_filter.1 hy).1) (by
        show (rd_T74 l (idxF (isN a) l 0)).f1.length ≤ 100000000 ∧ (rd_T74 l (idxF (isN a) l 0)).f2.length ≤ 100000000
        rw [e, rd74 l m hm]
        omega)
      unfold renM
      simp only [spec_RenameFile.j0, Bool.not_true, Bool.false_eq_true, if_false, if_pos (show 0 ≤ idxF (isN a) l 0 by omega), if_pos (show idxF (isN a) l 0 < (l.length : Int) by omega), if_pos (show diskM l = true ∧ ¬ idxF (isN a) l 0 < 0 ∧ nameM b = true from ⟨h, h2, h3⟩)]
      refine (EvB hW).2 ?_
      exact (EvB hP).2 EvN
    rw [Bool.eq_false_iff.2 h3]
    exact bad _ (fun q => h3 q.2.2)
  simp only [if_neg h]
  exact bad _ (fun q => h q.1)
theorem impl_ren (l : List S74) (a b : ByteArray) (hl : l.length ≤ 1048576) (hw : wfD l) (hb : b.size ≤ 9223372036854775807) : Ev (fun k => impl_renameFile.f k l a b) (renM l a b) := by
  have hc := copyI l (by omega) (wfD_le hw)
  have hf : impl_fileOf.f l a = some (idxF (isN a) l 0) := by unfold impl_fileOf.f; rw [if_pos (by omega)]; rfl
  unfold impl_renameFile.f renM
  simp only [hf, Option.bind_some, EvB (impl_disk l hl hw)]
  by_cases h : diskM l = true
  · by_cases h2 : idxF (isN a) l 0 < 0
    · simp only [if_pos h, if_pos h2, if_neg (show ¬ (diskM l = true ∧ ¬ idxF (isN a) l 0 < 0 ∧ nameM b = true) from fun q => q.2.1 h2)]
      exact (EvB hc).2 EvN
    simp only [if_pos h, if_neg h2, impl_name b hb, Option.bind_some]
    by_cases h3 : nameM b = true
    · obtain ⟨m, x, e, hx, hn, hm⟩ := idx_at l a h2
      have hpw := srt_pw.1 (disk_srt h)
      simp only [if_pos h3, if_pos (show diskM l = true ∧ ¬ idxF (isN a) l 0 < 0 ∧ nameM b = true from ⟨h, h2, h3⟩)]
      by_cases h4 : a.toList = b.toList
      · have hab := ba_ext h4
        subst hab
        simp only [if_true]
        have hp := put_fil hpw (⟨a, (rd_T74 l (idxF (isN a) l 0)).f1, (rd_T74 l (idxF (isN a) l 0)).f2⟩ : S74)
        rw [put_at (disk_srt h) _ m x hx hn] at hp
        have hxm : l[m] = x := by rw [List.getElem?_eq_getElem hm] at hx; exact Option.some.inj hx
        have hf : (⟨a, (rd_T74 l (idxF (isN a) l 0)).f1, (rd_T74 l (idxF (isN a) l 0)).f2⟩ : S74) = x := by
          rw [e, rd74 l m hm, hxm]
          have : x.f0 = a := ba_ext hn
          cases x
          simp only at this ⊢
          rw [this]
        rw [hf] at hp
        have hxa : x.f0 = a := ba_ext hn
        rw [hxa] at hp
        rw [hf, hp, show l.set m x = l by rw [← hxm]; exact List.set_getElem_self hm]
        exact (EvB hc).2 EvN
      simp only [if_neg h4]
      have hd1 := disk_fil (notN a) h
      have hl1 : (l.filter (notN a)).length ≤ l.length := List.length_filter_le _ _
      have hw1 : wfD (l.filter (notN a)) := fun y hy => hw y (List.mem_filter.1 hy).1
      have hl2 : ((l.filter (notN a)).filter (notN b)).length ≤ (l.filter (notN a)).length := List.length_filter_le _ _
      refine (EvB (impl_remove l a hl hw)).2 ?_
      rw [remove_fil a h]
      refine (EvB (impl_remove (l.filter (notN a)) b (by omega) hw1)).2 ?_
      rw [remove_fil b hd1]
      refine (EvB hc).2 ?_
      simp only [if_pos (show idxF (isN a) l 0 < (l.length : Int) by omega), if_pos (show (((l.filter (notN a)).filter (notN b)).length + 1) * 64 ≤ 140737488355328 by omega)]
      rw [ins_put (srt_pw.1 (disk_srt hd1)) (⟨b, (rd_T74 l (idxF (isN a) l 0)).f1, (rd_T74 l (idxF (isN a) l 0)).f2⟩ : S74)]
      exact EvN
    simp only [if_neg h3, if_neg (show ¬ (diskM l = true ∧ ¬ idxF (isN a) l 0 < 0 ∧ nameM b = true) from fun q => h3 q.2.2)]
    exact (EvB hc).2 EvN
  simp only [if_neg h, if_neg (show ¬ (diskM l = true ∧ ¬ idxF (isN a) l 0 < 0 ∧ nameM b = true) from fun q => h q.1)]
  exact (EvB hc).2 EvN
def appF (l : List S74) (a : ByteArray) (d f1 f2 : List Int) : List S74 × Bool := if d.length + f1.length + f2.length ≤ 20000 then (putM l ⟨a, f1, f2 ++ d⟩, true) else (l, false)
def appM (l : List S74) (a : ByteArray) (d : List Int) : List S74 × Bool :=
  if diskM l = true ∧ nameM a = true then (if idxF (isN a) l 0 < 0 then (if l.length = 8 then (l, false) else appF l a d [] []) else appF l a d (rd_T74 l (idxF (isN a) l 0)).f1 (rd_T74 l (idxF (isN a) l 0)).f2) else (l, false)
theorem spec_fin (l : List S74) (a : ByteArray) (d f1 f2 : List Int) (hl : l.length ≤ 1048576) (hw : wfD l) (hd : d.length ≤ 1048576) (h1 : f1.length ≤ 1048576) (h2 : f2.length ≤ 1048576) : Ev (fun k => spec_AppendFile.fin k l a d f1 f2) (appF l a d f1 f2) := by
  have hc := copyS l (by omega) (wfD_le hw)
  have e : wrap64 (wrap64 (20000 - (f1.length : Int)) - (f2.length : Int)) = 20000 - (f1.length : Int) - (f2.length : Int) := by
    rw [w64 (x := 20000 - (f1.length : Int)) (by omega) (by omega), w64 (by omega) (by omega)]
  unfold spec_AppendFile.fin appF
  rw [e]
  by_cases h : d.length + f1.length + f2.length ≤ 20000
  · have hP := putS l (⟨a, f1, f2 ++ d⟩ : S74) (by omega) (wfD_le hw) ⟨by show f1.length ≤ _; omega, by show (f2 ++ d).length ≤ _; rw [List.length_append]; omega⟩
    simp only [if_pos h, if_neg (show ¬ (d.length : Int) > 20000 - (f1.length : Int) - (f2.length : Int) by omega)]
    refine (EvB (joinS f2 d (by omega) (by omega))).2 ?_
    exact (EvB hP).2 EvN
  simp only [if_neg h, if_pos (show (d.length : Int) > 20000 - (f1.length : Int) - (f2.length : Int) by omega)]
  exact (EvB hc).2 EvN
theorem spec_app (l : List S74) (a : ByteArray) (d : List Int) (hl : l.length ≤ 1048576) (hw : wfD l) (ha : a.size ≤ 9223372036854775807) (hd : d.length ≤ 1048576) : Ev (fun k => spec_AppendFile.f k l a d) (appM l a d) := by
  have hc := copyS l (by omega) (wfD_le hw)
  unfold spec_AppendFile.f appM
  refine (EvB (find_ev l a hl)).2 ?_
  refine (EvB (spec_disk l hl hw)).2 ?_
  by_cases h : diskM l = true
  · simp only [if_pos h]
    refine (EvB (spec_name a ha)).2 ?_
    by_cases h3 : nameM a = true
    · simp only [if_pos h3, if_pos (show diskM l = true ∧ nameM a = true from ⟨h, h3⟩)]
      by_cases h2 : idxF (isN a) l 0 < 0
      · simp only [if_neg (show ¬ 0 ≤ idxF (isN a) l 0 by omega), if_pos h2]
        by_cases h8 : l.length = 8
        · simp only [if_pos h8, if_pos (show (l.length : Int) = 8 by omega)]
          exact (EvB hc).2 EvN
        simp only [if_neg h8, if_neg (show ¬ (l.length : Int) = 8 by omega)]
        exact spec_fin l a d [] [] hl hw hd (by simp) (by simp)
      obtain ⟨m, x, e, hx, hn, hm⟩ := idx_at l a h2
      have hr := hw _ (List.getElem_mem hm)
      have hxm : l[m] = x := by rw [List.getElem?_eq_getElem hm] at hx; exact Option.some.inj hx
      have hna : (rd_T74 l (idxF (isN a) l 0)).f0 = a := by rw [e, rd74 l m hm, hxm]; exact ba_ext hn
      simp only [if_pos (show 0 ≤ idxF (isN a) l 0 by omega), if_pos (show idxF (isN a) l 0 < (l.length : Int) by omega), if_neg h2]
      rw [hna]
      exact spec_fin l a d _ _ hl hw hd (by rw [e, rd74 l m hm]; exact hr.2.1) (by rw [e, rd74 l m hm]; exact hr.2.2)
    simp only [if_neg h3, if_neg (show ¬ (diskM l = true ∧ nameM a = true) from fun q => h3 q.2)]
    exact (EvB hc).2 EvN
  simp only [if_neg h, if_neg (show ¬ (diskM l = true ∧ nameM a = true) from fun q => h q.1)]
  exact (EvB hc).2 EvN

def wfW (l : List S74) : Prop := ∀ y ∈ l, y.f0.size ≤ 9223372036854775807 ∧ y.f1.length ≤ 4194304 ∧ y.f2.length ≤ 4194304
theorem implGoW (l : List S74) (hl : l.length ≤ 1048576) (hw : wfW l) : ∀ d i : Nat, d + i = l.length → Ev (fun k => impl_isDisk.l0 k l (l.length : Int) i l) (goD l d i && decide (l.length ≤ 8)) := by
  intro d
  induction d with
  | zero =>
    intro i hi
    refine EvS ?_
    simp only [impl_isDisk.l0, if_neg (show ¬ (i : Int) < (l.length : Int) by omega), goD, Bool.true_and]
    rw [show decide ((l.length : Int) ≤ 8) = decide (l.length ≤ 8) from decide_eq_decide.2 (by omega)]
    exact EvN
  | succ d ih =>
    intro i hi
    have hil : i < l.length := by omega
    have hy := hw _ (List.getElem_mem hil)
    refine EvS ?_
    have hn := impl_name l[i].f0 hy.1
    have h := ih (i + 1) (by omega)
    rw [← rd74 l i hil] at hn hy
    unfold goD okAt
    simp only [impl_isDisk.l0, if_pos (show (i : Int) < (l.length : Int) by omega), if_pos (show 0 ≤ (i : Int) by omega), hn, Option.bind_some, nxt i _ hil (by omega)]
    generalize rd_T74 l (i : Int) = y at hy hn ⊢
    by_cases c1 : nameM y.f0 = true
    · have hw1 : wrap64 ((y.f1.length : Int) + (y.f2.length : Int)) = (y.f1.length : Int) + (y.f2.length : Int) := w64 (by omega) (by omega)
      by_cases c3 : (y.f1.length : Int) + (y.f2.length : Int) > 20000
      · simp only [if_pos c1, hw1, if_pos c3, decide_eq_false (show ¬ y.f1.length + y.f2.length ≤ 20000 by omega), Bool.false_and, Bool.and_false]; exact EvN
      simp only [if_pos c1, hw1, if_neg c3, c1, decide_eq_true (show y.f1.length + y.f2.length ≤ 20000 by omega), Bool.true_and]
      by_cases c4 : i = 0
      · simp only [if_neg (show ¬ (i : Int) > 0 by omega), decide_eq_true c4, Bool.true_or, Bool.true_and]; exact h
      have hw2 : wrap64 ((i : Int) - 1) = ((i - 1 : Nat) : Int) := by rw [w64 (by omega) (by omega)]; omega
      simp only [if_pos (show (i : Int) > 0 by omega), hw2, if_pos (show 0 ≤ ((i - 1 : Nat) : Int) by omega), if_pos (show ((i - 1 : Nat) : Int) < (l.length : Int) by omega), decide_eq_false c4, Bool.false_or]
      by_cases c5 : Op.bytesLess (rd_T74 l ((i - 1 : Nat) : Int)).f0.toList y.f0.toList = true
      · simp only [if_pos c5, c5, Bool.true_and]; exact h
      simp only [if_neg c5, Bool.eq_false_iff.2 c5, Bool.false_and]; exact EvN
    simp only [if_neg c1, Bool.eq_false_iff.2 c1, Bool.false_and]; exact EvN
theorem impl_diskW (l : List S74) (hl : l.length ≤ 1048576) (hw : wfW l) : Ev (fun k => impl_isDisk.f k l) (diskM l) := by
  unfold impl_isDisk.f diskM
  rw [Bool.and_comm]
  exact implGoW l hl hw l.length 0 rfl
theorem impl_fin (l p : List S74) (a : ByteArray) (d : List Int) (m : Nat) (hm : m < p.length) (hn : p[m].f0 = a) (hi : idxF (isN a) p 0 = (m : Int)) (hl : l.length ≤ 1048576) (hw : wfD l) (hpl : p.length ≤ 1048576) (hp : wfD p) (hd : d.length ≤ 1048576) :
    Ev (fun k => impl_appendFile.fin k l p a d) (if diskM (p.set m ⟨a, p[m].f1, p[m].f2 ++ d⟩) = true then (p.set m ⟨a, p[m].f1, p[m].f2 ++ d⟩, true) else (l, false)) := by
  have hc := copyI l (by omega) (wfD_le hw)
  have hf : impl_fileOf.f p a = some (idxF (isN a) p 0) := by unfold impl_fileOf.f; rw [if_pos (by omega)]; rfl
  have hr := hp _ (List.getElem_mem hm)
  have hD := impl_diskW (p.set m ⟨a, p[m].f1, p[m].f2 ++ d⟩) (by rw [List.length_set]; exact hpl) (fun y hy => by
    rcases mem_set hy with rfl | hy
    · refine ⟨by rw [← hn]; exact hr.1, ?_, ?_⟩
      · show p[m].f1.length ≤ _; omega
      show (p[m].f2 ++ d).length ≤ _; rw [List.length_append]; omega
    have := hp y hy
    exact ⟨this.1, by omega, by omega⟩)
  unfold impl_appendFile.fin
  simp only [hf, Option.bind_some, hi, rd74 p m hm, hn, Int.toNat_natCast, if_pos (show 0 ≤ (m : Int) by omega), if_pos (show (m : Int) < (p.length : Int) by omega), if_pos (show p[m].f2.length + d.length ≤ 140737488355328 by omega)]
  refine (EvB hD).2 ?_
  by_cases h : diskM (p.set m ⟨a, p[m].f1, p[m].f2 ++ d⟩) = true
  · simp only [if_pos h]; exact EvN
  simp only [if_neg h]; exact (EvB hc).2 EvN
theorem disk_set (l : List S74) (m : Nat) (hm : m < l.length) (h : diskM l = true) (f : S74) (hn : f.f0 = l[m].f0) : diskM (l.set m f) = decide (f.f1.length + f.f2.length ≤ 20000) := by
  obtain ⟨h1, h2⟩ := disk_each h
  by_cases hb : f.f1.length + f.f2.length ≤ 20000
  · rw [decide_eq_true hb]
    refine disk_of (by rw [List.length_set]; exact h1) (fun y hy => ?_) (List.pairwise_iff_getElem.2 fun i j hi hj hij => ?_)
    · rcases mem_set hy with rfl | hy
      · exact ⟨by rw [hn]; exact (h2 _ (List.getElem_mem hm)).1, hb⟩
      exact h2 y hy
    rw [List.length_set] at hi hj
    have hs := List.pairwise_iff_getElem.1 (srt_pw.1 (disk_srt h)) i j hi hj hij
    have e : ∀ q (hq : q < l.length), nm ((l.set m f)[q]'(by rw [List.length_set]; exact hq)) = nm l[q] := fun q hq => by
      rw [List.getElem_set]
      split
      · rename_i e; subst e; unfold nm; rw [hn]
      rfl
    show Op.bytesLess (nm _) (nm _) = true
    rw [e i hi, e j hj]
    exact hs
  rw [decide_eq_false hb]
  cases hd : diskM (l.set m f) with
  | false => rfl
  | true => exact absurd ((disk_each hd).2 f (List.mem_set hm f)).2 hb
theorem fin_there (l : List S74) (a : ByteArray) (d : List Int) (m : Nat) (hm : m < l.length) (hn : l[m].f0 = a) (hi : idxF (isN a) l 0 = (m : Int)) (h : diskM l = true) (hl : l.length ≤ 1048576) (hw : wfD l) (hd : d.length ≤ 1048576) :
    Ev (fun k => impl_appendFile.fin k l l a d) (appF l a d l[m].f1 l[m].f2) := by
  have hF := impl_fin l l a d m hm hn hi hl hw hl hw hd
  have hs := disk_set l m hm h (⟨a, l[m].f1, l[m].f2 ++ d⟩ : S74) hn.symm
  have hp := put_at (disk_srt h) (⟨a, l[m].f1, l[m].f2 ++ d⟩ : S74) m l[m] (List.getElem?_eq_getElem hm) (by unfold nm; rw [hn])
  rw [hs] at hF
  unfold appF
  rw [hp]
  by_cases hb : d.length + l[m].f1.length + l[m].f2.length ≤ 20000
  · rw [if_pos hb]
    rwa [if_pos (decide_eq_true (show l[m].f1.length + (l[m].f2 ++ d).length ≤ 20000 by rw [List.length_append]; omega))] at hF
  rw [if_neg hb]
  rwa [if_neg (by rw [decide_eq_true_iff]; show ¬ l[m].f1.length + (l[m].f2 ++ d).length ≤ 20000; rw [List.length_append]; omega)] at hF
theorem put_new {l : List S74} (f : S74) (h : ∀ x ∈ l, isN f.f0 x.f0 = false) : putM l f = l.takeWhile (lessN f.f0) ++ f :: l.dropWhile (lessN f.f0) := by
  unfold putM
  rw [filter_all (fun y hy => by unfold notN; rw [h y (dw_mem _ _ _ hy)]; rfl)]
theorem disk_new {l : List S74} (f : S74) (h : diskM l = true) (hn : nameM f.f0 = true) (hno : ∀ x ∈ l, isN f.f0 x.f0 = false) : diskM (l.takeWhile (lessN f.f0) ++ f :: l.dropWhile (lessN f.f0)) = decide (l.length < 8 ∧ f.f1.length + f.f2.length ≤ 20000) := by
  obtain ⟨h1, h2⟩ := disk_each h
  have hpw := srt_pw.1 (disk_srt h)
  have hlen : (l.takeWhile (lessN f.f0) ++ f :: l.dropWhile (lessN f.f0)).length = l.length + 1 := by
    have := congrArg List.length (List.takeWhile_append_dropWhile (p := lessN f.f0) (l := l))
    simp only [List.length_append, List.length_cons] at this ⊢
    omega
  by_cases hb : l.length < 8 ∧ f.f1.length + f.f2.length ≤ 20000
  · rw [decide_eq_true hb]
    refine disk_of (by omega) (fun y hy => ?_) ?_
    · rcases List.mem_append.1 hy with hy | hy
      · exact h2 y ((List.takeWhile_sublist _).subset hy)
      rcases List.mem_cons.1 hy with rfl | hy
      · exact ⟨hn, hb.2⟩
      exact h2 y (dw_mem _ _ _ hy)
    have hs := hpw
    rw [← List.takeWhile_append_dropWhile (p := lessN f.f0) (l := l), List.pairwise_append] at hs
    refine List.pairwise_append.2 ⟨hs.1, List.pairwise_cons.2 ⟨fun y hy => ?_, hs.2.1⟩, fun x hx y hy => ?_⟩
    · have a1 := dw_less hpw y hy
      cases hq : Op.bytesLess (nm f) (nm y) with
      | true => exact hq
      | false =>
        have := lt_total _ _ a1 hq
        have h3 := hno y (dw_mem _ _ _ hy)
        unfold isN at h3
        rw [beq_eq_false_iff_ne] at h3
        exact absurd this h3
    rcases List.mem_cons.1 hy with rfl | hy
    · exact tw_all l x hx
    exact hs.2.2 x hx y hy
  rw [decide_eq_false hb]
  cases hd : diskM (l.takeWhile (lessN f.f0) ++ f :: l.dropWhile (lessN f.f0)) with
  | false => rfl
  | true =>
    have := disk_each hd
    exact absurd ⟨by omega, (this.2 f (by simp)).2⟩ hb
end Go.Proofs.YtmgeffgcihfpcaaDoor.DK

namespace Go.Proofs.YtmgeffgcihfpcaaDoor.GT
set_option linter.unusedVariables false
set_option linter.unusedSimpArgs false
open Go.RowKit Go.Proofs.YtmgeffgcihfpcaaDoor.F Go.Proofs.YtmgeffgcihfpcaaDoor.PK Go.Proofs.YtmgeffgcihfpcaaDoorW.PrintWords Go.Proofs.YtmgeffgcihfpcaaDoorW.PrintLast Go.Proofs.YtmgeffgcihfpcaaDoorW.PrintMore
open Go.Proofs.YtmgeffgcihfpcaaDoor.DK
def getM (l : List S74) (a : ByteArray) : Option S74 := l.find? (fun y => isN a y.f0)
theorem isN_iff (a b : ByteArray) : isN a b = true ↔ b = a := ⟨fun h => ba_ext (by simpa [isN] using h), fun h => by simp [isN, h]⟩
theorem get_none {l : List S74} {a : ByteArray} : getM l a = none ↔ ∀ y ∈ l, y.f0 ≠ a := by
  unfold getM
  rw [List.find?_eq_none]
  exact ⟨fun h y hy e => h y hy ((isN_iff a y.f0).2 e), fun h y hy e => h y hy ((isN_iff _ _).1 e)⟩
theorem get_some {l : List S74} {a : ByteArray} {y : S74} (h : getM l a = some y) : y ∈ l ∧ y.f0 = a := ⟨List.mem_of_find?_eq_some h, (isN_iff _ _).1 (by simpa using List.find?_some h)⟩
theorem get_mem {l : List S74} {y : S74} (h : diskM l = true) (hy : y ∈ l) : getM l y.f0 = some y := by
  cases e : getM l y.f0 with
  | none => exact absurd rfl (get_none.1 e y hy)
  | some z =>
    obtain ⟨hz, hn⟩ := get_some e
    congr
    obtain ⟨i, hi, rfl⟩ := List.mem_iff_getElem.1 hy
    obtain ⟨j, hj, rfl⟩ := List.mem_iff_getElem.1 hz
    rcases Nat.lt_trichotomy i j with hij | rfl | hij
    · have := disk_srt h i j hij _ _ (List.getElem?_eq_getElem hi) (List.getElem?_eq_getElem hj)
      unfold nm at this; rw [hn, lt_irr] at this; cases this
    · rfl
    have := disk_srt h j i hij _ _ (List.getElem?_eq_getElem hj) (List.getElem?_eq_getElem hi)
    unfold nm at this; rw [hn, lt_irr] at this; cases this
theorem get_in {l : List S74} {y : S74} {a : ByteArray} (h : diskM l = true) (hy : y ∈ l) (e : y.f0 = a) : getM l a = some y := e ▸ get_mem h hy
theorem mem_put {l : List S74} (f x : S74) : x ∈ putM l f ↔ x = f ∨ (x ∈ l ∧ x.f0 ≠ f.f0) := by
  have e : l.takeWhile (lessN f.f0) ++ l.dropWhile (lessN f.f0) = l := List.takeWhile_append_dropWhile
  have hl : x ∈ l ↔ x ∈ l.takeWhile (lessN f.f0) ∨ x ∈ l.dropWhile (lessN f.f0) := by rw [← List.mem_append, e]
  have ht : ∀ x ∈ l.takeWhile (lessN f.f0), x.f0 ≠ f.f0 := fun x hx q => by
    have := tw_all l x hx
    unfold lessN nm at this; rw [q, lt_irr] at this; cases this
  unfold putM
  rw [List.mem_append, List.mem_cons, List.mem_filter, hl]
  constructor
  · rintro (q | q | ⟨q, q2⟩)
    · exact .inr ⟨.inl q, ht x q⟩
    · exact .inl q
    exact .inr ⟨.inr q, fun e => by unfold notN at q2; rw [(isN_iff _ _).2 e] at q2; cases q2⟩
  rintro (q | ⟨q | q, q2⟩)
  · exact .inr (.inl q)
  · exact .inl q
  refine .inr (.inr ⟨q, ?_⟩)
  unfold notN
  cases h : isN f.f0 x.f0 with
  | true => exact absurd ((isN_iff _ _).1 h) q2
  | false => rfl
theorem put_self {l : List S74} {f : S74} (h : diskM (putM l f) = true) : getM (putM l f) f.f0 = some f := get_in h ((mem_put f f).2 (.inl rfl)) rfl
theorem idx_none {l : List S74} {a : ByteArray} : idxF (isN a) l 0 < 0 ↔ getM l a = none := by
  rw [get_none]
  rcases idxF_at (isN a) l 0 with ⟨e, q⟩ | ⟨m, x, e, hx, hp, _⟩
  · rw [e]
    exact ⟨fun _ y hy he => (by have := q y hy; rw [(isN_iff _ _).2 he] at this; cases this), fun _ => by decide⟩
  rw [e]
  exact ⟨fun h => by omega, fun h => absurd ((isN_iff _ _).1 hp) (h x (List.mem_of_getElem? hx))⟩
theorem idx_some {l : List S74} {a : ByteArray} {y : S74} (h : diskM l = true) (e : getM l a = some y) : ∃ (m : Nat) (hm : m < l.length), idxF (isN a) l 0 = m ∧ l[m] = y ∧ rd_T74 l (idxF (isN a) l 0) = y ∧ nm y = a.toList := by
  have hi : ¬ idxF (isN a) l 0 < 0 := fun q => by rw [idx_none.1 q] at e; cases e
  obtain ⟨m, x, e2, hx, hn, hm⟩ := idx_at l a hi
  have hxm : l[m] = x := by rw [List.getElem?_eq_getElem hm] at hx; exact Option.some.inj hx
  have h1 : getM l a = some x := get_in h (by rw [← hxm]; exact List.getElem_mem hm) (ba_ext hn)
  rw [h1] at e
  have hxy := Option.some.inj e
  subst hxy
  exact ⟨m, hm, e2, hxm, by rw [e2, rd74 l m hm, hxm], hn⟩
theorem content_of {l : List S74} {a : ByteArray} {y : S74} (h : diskM l = true) (e : getM l a = some y) : contentM l a = (y.f1 ++ y.f2, true) := by
  obtain ⟨m, hm, e1, _, e2, _⟩ := idx_some h e
  unfold contentM
  rw [if_pos h, if_neg (by omega), e2]
theorem bd_of {l : List S74} {a : ByteArray} {y : S74} (h : diskM l = true) (e : getM l a = some y) : y.f1.length + y.f2.length ≤ 20000 ∧ nameM a = true ∧ y.f0 = a := by
  obtain ⟨h1, h2⟩ := get_some e
  have := (disk_each h).2 y h1
  exact ⟨this.2, by rw [← h2]; exact this.1, h2⟩
theorem put_disk' {l : List S74} (f : S74) (h : diskM l = true) (hn : nameM f.f0 = true) (hb : f.f1.length + f.f2.length ≤ 20000) (hl : getM l f.f0 = none → l.length < 8) : diskM (putM l f) = true := by
  cases e : getM l f.f0 with
  | none =>
    have hq : ∀ x ∈ l, isN f.f0 x.f0 = false := fun x hx => by
      cases q : isN f.f0 x.f0 with
      | true => exact absurd ((isN_iff _ _).1 q) (get_none.1 e x hx)
      | false => rfl
    rw [put_new f hq, disk_new f h hn hq, decide_eq_true_iff]
    exact ⟨hl e, hb⟩
  | some y =>
    obtain ⟨m, hm, e1, e2, _, e3⟩ := idx_some h e
    rw [put_at (disk_srt h) f m y (by rw [List.getElem?_eq_getElem hm, e2]) e3, disk_set l m hm h f (by rw [e2]; exact (get_some e).2.symm), decide_eq_true_iff]
    exact hb
theorem put_len {l : List S74} {f : S74} : (putM l f).length ≤ l.length + 1 := by
  unfold putM
  have h1 := List.length_filter_le (notN f.f0) (l.dropWhile (lessN f.f0))
  have h2 : (l.takeWhile (lessN f.f0)).length + (l.dropWhile (lessN f.f0)).length = l.length := by rw [← List.length_append, List.takeWhile_append_dropWhile]
  rw [List.length_append, List.length_cons]
  omega
theorem sync_some {l : List S74} {a : ByteArray} {y : S74} (h : diskM l = true) (e : getM l a = some y) : syncM l a = (putM l ⟨a, y.f1 ++ y.f2, []⟩, true) ∧ diskM (putM l ⟨a, y.f1 ++ y.f2, []⟩) = true := by
  obtain ⟨m, hm, e1, e2, _, e3⟩ := idx_some h e
  have hb := bd_of h e
  refine ⟨?_, put_disk' (⟨a, y.f1 ++ y.f2, []⟩ : S74) h hb.2.1 (by simp only [List.length_append, List.length_nil]; omega) (fun q => by rw [show getM l a = none from q] at e; cases e)⟩
  unfold syncM
  rw [content_of h e, if_pos rfl, e1, Int.toNat_natCast, put_at (disk_srt h) (⟨a, y.f1 ++ y.f2, []⟩ : S74) m y (by rw [List.getElem?_eq_getElem hm, e2]) e3]
end Go.Proofs.YtmgeffgcihfpcaaDoor.GT

namespace Go.Proofs.YtmgeffgcihfpcaaDoor.TO
set_option linter.unusedVariables false
set_option linter.unusedSimpArgs false
open Go.RowKit Go.Proofs.YtmgeffgcihfpcaaDoor.F Go.Proofs.YtmgeffgcihfpcaaDoor.PK Go.Proofs.YtmgeffgcihfpcaaDoorW.PrintWords Go.Proofs.YtmgeffgcihfpcaaDoorW.PrintLast
open Go.Proofs.YtmgeffgcihfpcaaDoor.BY
theorem not8 (b : Int) (h0 : 0 ≤ b) (h1 : b ≤ 255) : Go.bits .xor .u8 255 b = (255 - b) % 256 := by
  obtain ⟨n, rfl⟩ := Int.eq_ofNat_of_zero_le h0
  have hn : n < 256 := by omega
  have := u8_xor_nat 255 n (by omega) hn
  rw [show ((255 : Nat) : Int) = 255 from rfl] at this
  rw [this]
  have h2 : ∀ m : Fin 256, ((255 ^^^ m.val : Nat) : Int) = (255 - (m.val : Int)) % 256 := by decide +kernel
  exact h2 ⟨n, hn⟩
def keepN (l : List Int) (a : Int) : Nat := min a.toNat l.length
def tornM (l : List Int) (a f : Int) : List Int := (l.take (keepN l a)).mapIdx fun i b => if (i : Int) = f then (255 - b) % 256 else b
theorem tornM_length (l : List Int) (a f : Int) : (tornM l a f).length = keepN l a := by
  unfold tornM
  rw [List.length_mapIdx, List.length_take]
  unfold keepN
  omega
theorem tornM_at (l : List Int) (a f : Int) (j : Nat) (h : j < keepN l a) (hl : j < l.length) : (tornM l a f)[j]? = some (if (j : Int) = f then (255 - l[j]) % 256 else l[j]) := by
  unfold tornM
  rw [List.getElem?_mapIdx, List.getElem?_take, if_pos h, List.getElem?_eq_getElem hl]
  rfl
theorem keepN_le (l : List Int) (a : Int) : keepN l a ≤ l.length := by unfold keepN; omega
theorem impl_torn (l : List Int) (a f : Int) (hl : l.length ≤ 1048576) (hb : ∀ x ∈ l, (Lit.int .u8 x).wf = true) : impl_torn.f l a f = some (tornM l a f) := by
  have hk : (mn (mx a 0) (l.length : Int)) = (keepN l a : Int) := by unfold mn mx keepN; omega
  have hle := keepN_le l a
  unfold impl_torn.f
  simp only [Option.bind_some, hk, Int.toNat_natCast, List.nil_append, List.length_nil, List.length_take, Nat.min_eq_left hle, if_pos (show 0 ≤ (keepN l a : Int) by omega), if_pos (show (keepN l a : Int) ≤ (l.length : Int) by omega), if_pos (show 0 + keepN l a < 140737488355328 by omega)]
  by_cases h0 : f ≥ 0
  · by_cases h1 : f < (keepN l a : Int)
    · simp only [if_pos h0, if_pos h1]
      obtain ⟨n, rfl⟩ := Int.eq_ofNat_of_zero_le (show 0 ≤ f by omega)
      have hn : n < (l.take (keepN l a)).length := by rw [List.length_take]; omega
      have hnl : n < l.length := by omega
      have hw : 0 ≤ l[n] ∧ l[n] ≤ 255 := by
        have := hb _ (List.getElem_mem hnl)
        simp only [Lit.wf, Bool.and_eq_true, decide_eq_true_eq] at this
        have h1 : IntKind.u8.min = 0 := by decide
        have h2 : IntKind.u8.max = 255 := by decide
        omega
      rw [rd_at _ n hn, List.getElem_take, not8 _ hw.1 hw.2, Int.toNat_natCast]
      congr 1
      apply List.ext_getElem?
      intro j
      by_cases hj : j < keepN l a
      · rw [tornM_at l a n j hj (by omega)]
        by_cases hjn : j = n
        · subst hjn
          rw [List.getElem?_set_self hn, if_pos rfl]
        rw [List.getElem?_set_ne (by omega), List.getElem?_take, if_pos hj, List.getElem?_eq_getElem (by omega), if_neg (by omega)]
      rw [List.getElem?_eq_none (by rw [List.length_set, List.length_take]; omega), List.getElem?_eq_none (by rw [tornM_length]; omega)]
    simp only [if_pos h0, if_neg h1]
    congr 1
    apply List.ext_getElem?
    intro j
    by_cases hj : j < keepN l a
    · rw [tornM_at l a f j hj (by omega), List.getElem?_take, if_pos hj, List.getElem?_eq_getElem (by omega), if_neg (by omega)]
    rw [List.getElem?_eq_none (by rw [List.length_take]; omega), List.getElem?_eq_none (by rw [tornM_length]; omega)]
  simp only [if_neg h0]
  congr 1
  apply List.ext_getElem?
  intro j
  by_cases hj : j < keepN l a
  · rw [tornM_at l a f j hj (by omega), List.getElem?_take, if_pos hj, List.getElem?_eq_getElem (by omega), if_neg (by omega)]
  rw [List.getElem?_eq_none (by rw [List.length_take]; omega), List.getElem?_eq_none (by rw [tornM_length]; omega)]
theorem spec_torn (l : List Int) (a f : Int) (hl : l.length ≤ 1048576) : Ev (fun k => spec_Torn.l0 k l a f [] 0) (tornM l a f) := by
  have key : ∀ (d i : Nat), d + i = keepN l a → Ev (fun k => spec_Torn.l0 k l a f ((tornM l a f).take i) i) (tornM l a f) := by
    intro d
    have hle := keepN_le l a
    induction d with
    | zero =>
      intro i hi
      have ht : (tornM l a f).take i = tornM l a f := List.take_of_length_le (by rw [tornM_length]; omega)
      rw [ht]
      refine EvS ?_
      by_cases h1 : (i : Int) < (l.length : Int)
      · have h2 : ¬ (i : Int) < a := by unfold keepN at hi; omega
        simp only [spec_Torn.l0, if_pos h1, decide_eq_false h2]
        refine EvS ?_
        simp only [spec_Torn.j1, Bool.false_eq_true, if_false]
        exact EvN
      simp only [spec_Torn.l0, if_neg h1]
      refine EvS ?_
      simp only [spec_Torn.j1, Bool.false_eq_true, if_false]
      exact EvN
    | succ d ih =>
      intro i hi
      have hil : i < l.length := by omega
      have hia : (i : Int) < a := by unfold keepN at hi; omega
      have h1 : (i : Int) < (l.length : Int) := by omega
      have hnx := ih (i + 1) (by omega)
      rw [List.take_add_one, tornM_at l a f i (by omega) hil] at hnx
      have hlen : ((tornM l a f).take i).length < 140737488355328 := by rw [List.length_take, tornM_length]; omega
      refine EvS ?_
      simp only [spec_Torn.l0, if_pos h1, decide_eq_true hia]
      refine EvS ?_
      simp only [spec_Torn.j1, if_true, if_pos (show 0 ≤ (i : Int) by omega), if_pos h1, if_pos hlen, rd_at l i hil, nxt i l.length hil (by omega)]
      by_cases hf : (i : Int) = f
      · rw [if_pos hf] at hnx
        simp only [if_pos hf]
        exact hnx
      rw [if_neg hf] at hnx
      simp only [if_neg hf]
      exact hnx
  exact key (keepN l a) 0 (by omega)
end Go.Proofs.YtmgeffgcihfpcaaDoor.TO
