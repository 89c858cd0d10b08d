/- Merged texts below the law FnFiles: Go functions as Lean functions, their contracts, and plain lemmas. -/
import Derived.Test.YtmgeffgcihfpcaaDoorQFnFiles23
import Derived.Test.YtmgeffgcihfpcaaDoorQFnFiles25
import Derived.Test.YtmgeffgcihfpcaaDoorQFnFiles13
import Derived.BigQuiet
import Derived.Deep.DeepCutAuto
namespace Go.Proofs.YtmgeffgcihfpcaaDoor.F
open Go.RowKit Go.Proofs.YtmgeffgcihfpcaaDoorW.PrintWords Go.Proofs.YtmgeffgcihfpcaaDoorW.PrintWords.Kd Go.Proofs.YtmgeffgcihfpcaaDoorW.PrintMore.Kd Go.Proofs.YtmgeffgcihfpcaaDoorW.PrintLast Go.Proofs.YtmgeffgcihfpcaaDoorW.PrintMore
attribute [local go_sem] max2_int min2_int max_two min_two max_three min_three max_four min_four   -- for this text's walks alone
set_option linter.unusedVariables false
set_option linter.unusedSimpArgs false
def spec_l03DrawOps.l0 : Nat → List (S71) → Int → List Int → Int → Int → Option ((List (S71)) × Int × Int)
 | 0, _, _, _, _, _ => none
 | k + 1, x5, x6, x1000, x1001, x1002 => if x6 > 0 then ((spec_l01Below.f x1000 x1001 x1002 7).bind fun bt583 => ((spec_l01PickInt.f x1000 bt583.2.1 bt583.2.2 (([0, 0, 0, 1, 1, 2, 3, 4, wrap64 (bt583.1 - 1)] : List Int))).bind fun bt589 => ((spec_l03DrawName.f x1000 bt589.2.1 bt589.2.2).bind fun bt593 => ((spec_l03DrawName.f x1000 bt593.2.1 bt593.2.2).bind fun bt596 => ((spec_l01Below.f x1000 bt596.2.1 bt596.2.2 5).bind fun bt599 => ((spec_l01DrawBytes.f k x1000 bt599.2.1 bt599.2.2 bt599.1).bind fun bt602 => ((spec_l01Below.f x1000 bt602.2.1 bt602.2.2 8).bind fun bt607 => (if x5.length < 1954687338268 then (spec_l03DrawOps.l0 k (x5 ++ [(⟨bt589.1, bt593.1, bt596.1, bt602.1, wrap64 (bt607.1 - 1)⟩ : S71)]) (wrap64 (x6 - 1)) x1000 bt607.2.1 bt607.2.2) else (none))))))))) else (some (x5, x1001, x1002))
def spec_l03DrawOps.f (k : Nat) (s0_0 : List Int) (s0_1 : Int) (s0_2 : Int) (l1 : List Int) : Option ((List (S71)) × Int × Int) := (spec_l01Size.f l1 14).bind fun t579 => ((spec_l01Below.f s0_0 s0_1 s0_2 (wrap64 (2 + t579))).bind fun bt580 => (spec_l03DrawOps.l0 k (([] : List (S71))) bt580.1 s0_0 bt580.2.1 bt580.2.2))
set_option maxHeartbeats 8000000 in
set_option maxRecDepth 100000 in
theorem spec_l03DrawOps.calls (k : Nat) (g : Nat) (s0_0 : List Int) (s0_1 : Int) (s0_2 : Int) (A1 : Option Addr) (c1 : Nat) (l1 : List Int) (r1 : List (S71)) (r2 : Int) (r3 : Int) (w0 w : World) (hI : IsS108 w0 w g s0_0 s0_1 s0_2) (hB : Below w0.heap.size w0 w) (hr1 : Kd.C (Kd.int .u8) w A1 l1.length l1) (hc1 : l1.length ≤ c1) (hf1 : ∀ ad, A1 = some ad → 0 < l1.length → ad.block ≠ g) (h : spec_l03DrawOps.f k s0_0 s0_1 s0_2 l1 = some (r1, r2, r3)) :
  Calls Tryd.prog 86 #[.pointer (some ⟨g, 0, none⟩), .slice A1 l1.length c1] w fun e w' => ∃ v0_ : Value, e = .returned (v0_) ∧ Kd.S k71 71 w' w.heap.size (fun _ => True) v0_ r1 ∧ IsS108 w0 w' g s0_0 r2 r3 ∧ Below w0.heap.size w0 w' ∧ KeepBut w w' g none := by
 have hu71 := Tryd.underlying71
 have HR1 := Zh hr1
 have HC1 := Zh hc1
 clear hr1 hc1
 have HI0 := Zh hI
 have HK := Zh (KeepBut.refl w g none)
 have HL := Zh hB.size
 clear hI
 have HW0 := Zh hB.size
 have HB := Zh hB
 clear hB
 have H : ((spec_l01Size.f l1 14).bind fun t579 => ((spec_l01Below.f s0_0 s0_1 s0_2 (wrap64 (2 + t579))).bind fun bt580 => (spec_l03DrawOps.l0 k (([] : List (S71))) bt580.1 s0_0 bt580.2.1 bt580.2.2))) = some (r1, r2, r3) := h
 clear h
 obtain ⟨y576, hy576⟩ : ∃ y_ : List (S71), y_ = (([] : List (S71))) := ⟨_, rfl⟩
 replace H : ((spec_l01Size.f l1 14).bind fun t579 => ((spec_l01Below.f s0_0 s0_1 s0_2 (wrap64 (2 + t579))).bind fun bt580 => (spec_l03DrawOps.l0 k y576 bt580.1 s0_0 bt580.2.1 bt580.2.2))) = some (r1, r2, r3) := by first | (rw [hy576]; with_reducible exact H) | (have H2_ := (Option.bind_some _ _).symm.trans H; rw [hy576]; with_reducible exact H2_) | (have H2_ := (Option.bind_some _ _).symm.trans H; with_reducible exact H2_) | with_reducible exact H | (rw [hy576]; exact H) | exact H
 have Ny576 := Zh hy576
 clear hy576
 replace H := Option.bind_eq_some_iff.mp H
 obtain ⟨t579, A30, H⟩ := H
 replace H : ((spec_l01Below.f s0_0 s0_1 s0_2 (wrap64 (2 + t579))).bind fun bt580 => (spec_l03DrawOps.l0 k y576 bt580.1 s0_0 bt580.2.1 bt580.2.2)) = some (r1, r2, r3) := H
 have A3 := Zh A30
 clear A30
 replace H := Option.bind_eq_some_iff.mp H
 obtain ⟨⟨t580, t581, t582⟩, A40, H⟩ := H
 replace H : (spec_l03DrawOps.l0 k y576 t580 s0_0 t581 t582) = some (r1, r2, r3) := H
 have A4 := Zh A40
 clear A40
 have H' := Zh H
 clear H
 go_enter Tryd.func86, Tryd.ntmps86
 go_wp2_with (first | ((with_reducible refine gate_dst (N := 8) rfl ?_); refine S_lit k71 _ 71 ?hg (N := 8) ?hd (xs := ([] : List (S71))) (inner := []) (ok := fun _ => True) (okp := fun _ => True) ?hr ?hp (fun _ hk => hk) trivial (Below.refl _ _) (Nat.le_refl _) (by simp) ?_; (case hd => rfl); (case hg => rfl); (case hr => first | (go_simp; done) | (go_simp; rfl)); (case hp => exact (Reps.none _ _)); intro v577 w5 ho6 hb hg_ hnew_; clear hg_ hnew_; (first | rw [← Ny576.out] at ho6 | (simp only [Int.reduceToNat] at ho6; rw [← Ny576.out] at ho6)); have HO578 := Zh (S_lower ho6 (keep_size (w := w) (g := g) (row := none) (by repeat (first | (with_reducible first | exact HK.out | apply KeepBut.set_ | apply keep_drewN | apply keep_drew | apply keep_alloc) | exact HK.out)))); replace HK := Zh (KeepBut.trans (by repeat (first | (with_reducible first | exact HK.out | apply KeepBut.set_ | apply keep_drewN | apply keep_drew | apply keep_alloc) | exact HK.out)) (KeepBut.of_below hb g none) (.inl rfl)); replace HB := Zh (Zl (by repeat (first | (with_reducible first | exact HB.out | apply Zf | apply Zd | apply Ze | refine Zg ?_ (IsS108.ge HI0.out)) | exact HB.out)) hb); replace HI0 := Zh (IsS108.below (by repeat (first | (with_reducible first | exact HI0.out | apply IsS108.alloc | apply IsS108.drewN | apply IsS108.drew | apply IsS108.set_1 | apply IsS108.set_2) | exact HI0.out)) hb); clear hb ho6) | ((with_reducible refine gate_callee (f := 100) rfl ?_); refine ZG (some 11) Tryd.func100 #[.slice A1 l1.length c1, .int .i64 14] rfl ?_; (with_reducible refine (spec_l01Size.calls _ _ l1 14 t579 _ ?side1 ?side2 A3.out).mono ?_); (case side1 => exact C_keep 0 HR1.out (by repeat (first | (with_reducible first | exact HK.out | apply KeepBut.set_ | apply keep_drewN | apply keep_drew | apply keep_alloc) | exact HK.out)) hf1); (case side2 => exact HC1.out); rintro e w' ⟨rfl, ⟨nd, rfl⟩⟩; refine ⟨_, rfl, ?_⟩) | ((with_reducible refine gate_callee (f := 99) rfl ?_); refine ZG (some 13) Tryd.func99 #[.pointer (some ⟨g, 0, none⟩), .int .i64 (wrap64 (2 + t579))] rfl ?_; (with_reducible refine (spec_l01Below.calls g s0_0 s0_1 s0_2 (wrap64 (2 + t579)) t580 t581 t582 w0 _ ?side1 ?side2 A4.out).mono ?_); (case side1 => repeat (first | (with_reducible first | exact HI0.out | apply IsS108.alloc | apply IsS108.drewN | apply IsS108.drew | apply IsS108.set_1 | apply IsS108.set_2) | exact HI0.out)); (case side2 => repeat (first | (with_reducible first | exact HB.out | apply Zf | apply Zd | apply Ze | refine Zg ?_ (IsS108.ge HI0.out)) | exact HB.out)); rintro e w7 ⟨rfl, hi, hb, hk⟩; refine ⟨_, rfl, ?_⟩; replace HO578 := Zh (S_mono (S_keep (IsS108.apartS (show IsS108 w0 _ g s0_0 s0_1 s0_2 from by repeat (first | (with_reducible first | exact HI0.out | apply IsS108.alloc | apply IsS108.drewN | apply IsS108.drew | apply IsS108.set_1 | apply IsS108.set_2) | exact HI0.out)) (ZS HO578.out) (by decide)) hk (fun _ h => h.2)) (fun _ h => h.1)); replace HK := Zh (KeepBut.trans (by repeat (first | (with_reducible first | exact HK.out | apply KeepBut.set_ | apply keep_drewN | apply keep_drew | apply keep_alloc) | exact HK.out)) hk (.inl rfl)); replace HB := Zh (hb); replace HI0 := Zh (hi); (try clear hb); (try clear hb2); (try clear hk); (try clear hi)))
 go_loopg [5, 6] k (fun kq v5 v6 w' => ∃ (x5_1 : List (S71)) (x6_1 : Int) (x1001_1 : Int) (x1002_1 : Int), v6 = .int .i64 x6_1 ∧ Aside0 (spec_l03DrawOps.l0 kq x5_1 x6_1 s0_0 x1001_1 x1002_1 = some (r1, r2, r3)) ∧ Aside0 (kq ≤ k) ∧ Aside0 (Kd.S k71 71 w' w.heap.size (fun _ => True) v5 x5_1) ∧ Aside0 (IsS108 w0 w' g s0_0 x1001_1 x1002_1) ∧ Aside0 (KeepBut w w' g none) ∧ Aside0 (Below w0.heap.size w0 w'))
 case atStart => exact ⟨(y576), (t580), (t581), (t582), (by first | rfl | (simp; done) | (simp [*]; done)), H', ⟨Nat.le_refl _⟩, ⟨ZS HO578.out⟩, ⟨by repeat (first | (with_reducible first | exact HI0.out | apply IsS108.alloc | apply IsS108.drewN | apply IsS108.drew | apply IsS108.set_1 | apply IsS108.set_2) | exact HI0.out)⟩, ⟨by repeat (first | (with_reducible first | exact HK.out | apply KeepBut.set_ | apply keep_drewN | apply keep_drew | apply keep_alloc) | exact HK.out)⟩, ⟨by repeat (first | (with_reducible first | exact HB.out | apply Zf | apply Zd | apply Ze | refine Zg ?_ (IsS108.ge HI0.out)) | exact HB.out)⟩⟩
 case round =>
  clear H'
  try clear c1
  try clear p2
  try clear p6
  obtain ⟨x5_1, x6_1, x1001_1, x1002_1, rfl, HA, HK1, HO_5, HI0, HK, HB⟩ := hrel
  cases gk with
  | zero => exact absurd HA.out (by simp [spec_l03DrawOps.l0])
  | succ k1 =>
   have H := HA.out
   clear HA
   simp only [spec_l03DrawOps.l0] at H
   by_cases c8 : x6_1 > 0
   ·
    rw [if_pos c8] at H
    have c8b0 : decide (0 < x6_1) = true := decide_eq_true c8
    clear c8
    replace H := Option.bind_eq_some_iff.mp H
    obtain ⟨⟨t583, t584, t585⟩, A90, H⟩ := H
    replace H : ((spec_l01PickInt.f s0_0 t584 t585 (([0, 0, 0, 1, 1, 2, 3, 4, wrap64 (t583 - 1)] : List Int))).bind fun bt589 => ((spec_l03DrawName.f s0_0 bt589.2.1 bt589.2.2).bind fun bt593 => ((spec_l03DrawName.f s0_0 bt593.2.1 bt593.2.2).bind fun bt596 => ((spec_l01Below.f s0_0 bt596.2.1 bt596.2.2 5).bind fun bt599 => ((spec_l01DrawBytes.f k1 s0_0 bt599.2.1 bt599.2.2 bt599.1).bind fun bt602 => ((spec_l01Below.f s0_0 bt602.2.1 bt602.2.2 8).bind fun bt607 => (if x5_1.length < 1954687338268 then (spec_l03DrawOps.l0 k1 (x5_1 ++ [(⟨bt589.1, bt593.1, bt596.1, bt602.1, wrap64 (bt607.1 - 1)⟩ : S71)]) (wrap64 (x6_1 - 1)) s0_0 bt607.2.1 bt607.2.2) else (none)))))))) = some (r1, r2, r3) := H
    have A9 := Zh A90
    clear A90
    obtain ⟨y586, hy586⟩ : ∃ y_ : List Int, y_ = (([0, 0, 0, 1, 1, 2, 3, 4, wrap64 (t583 - 1)] : List Int)) := ⟨_, rfl⟩
    replace H : ((spec_l01PickInt.f s0_0 t584 t585 y586).bind fun bt589 => ((spec_l03DrawName.f s0_0 bt589.2.1 bt589.2.2).bind fun bt593 => ((spec_l03DrawName.f s0_0 bt593.2.1 bt593.2.2).bind fun bt596 => ((spec_l01Below.f s0_0 bt596.2.1 bt596.2.2 5).bind fun bt599 => ((spec_l01DrawBytes.f k1 s0_0 bt599.2.1 bt599.2.2 bt599.1).bind fun bt602 => ((spec_l01Below.f s0_0 bt602.2.1 bt602.2.2 8).bind fun bt607 => (if x5_1.length < 1954687338268 then (spec_l03DrawOps.l0 k1 (x5_1 ++ [(⟨bt589.1, bt593.1, bt596.1, bt602.1, wrap64 (bt607.1 - 1)⟩ : S71)]) (wrap64 (x6_1 - 1)) s0_0 bt607.2.1 bt607.2.2) else (none)))))))) = some (r1, r2, r3) := by first | (rw [hy586]; with_reducible exact H) | (have H2_ := (Option.bind_some _ _).symm.trans H; rw [hy586]; with_reducible exact H2_) | (have H2_ := (Option.bind_some _ _).symm.trans H; with_reducible exact H2_) | with_reducible exact H | (rw [hy586]; exact H) | exact H
    have Ny586 := Zh hy586
    clear hy586
    replace H := Option.bind_eq_some_iff.mp H
    obtain ⟨⟨t589, t590, t591⟩, A100, H⟩ := H
    replace H : ((spec_l03DrawName.f s0_0 t590 t591).bind fun bt593 => ((spec_l03DrawName.f s0_0 bt593.2.1 bt593.2.2).bind fun bt596 => ((spec_l01Below.f s0_0 bt596.2.1 bt596.2.2 5).bind fun bt599 => ((spec_l01DrawBytes.f k1 s0_0 bt599.2.1 bt599.2.2 bt599.1).bind fun bt602 => ((spec_l01Below.f s0_0 bt602.2.1 bt602.2.2 8).bind fun bt607 => (if x5_1.length < 1954687338268 then (spec_l03DrawOps.l0 k1 (x5_1 ++ [(⟨t589, bt593.1, bt596.1, bt602.1, wrap64 (bt607.1 - 1)⟩ : S71)]) (wrap64 (x6_1 - 1)) s0_0 bt607.2.1 bt607.2.2) else (none))))))) = some (r1, r2, r3) := H
    have A10 := Zh A100
    clear A100
    replace H := Option.bind_eq_some_iff.mp H
    obtain ⟨⟨t593, t594, t595⟩, A110, H⟩ := H
    replace H : ((spec_l03DrawName.f s0_0 t594 t595).bind fun bt596 => ((spec_l01Below.f s0_0 bt596.2.1 bt596.2.2 5).bind fun bt599 => ((spec_l01DrawBytes.f k1 s0_0 bt599.2.1 bt599.2.2 bt599.1).bind fun bt602 => ((spec_l01Below.f s0_0 bt602.2.1 bt602.2.2 8).bind fun bt607 => (if x5_1.length < 1954687338268 then (spec_l03DrawOps.l0 k1 (x5_1 ++ [(⟨t589, t593, bt596.1, bt602.1, wrap64 (bt607.1 - 1)⟩ : S71)]) (wrap64 (x6_1 - 1)) s0_0 bt607.2.1 bt607.2.2) else (none)))))) = some (r1, r2, r3) := H
    have A11 := Zh A110
    clear A110
    replace H := Option.bind_eq_some_iff.mp H
    obtain ⟨⟨t596, t597, t598⟩, A120, H⟩ := H
    replace H : ((spec_l01Below.f s0_0 t597 t598 5).bind fun bt599 => ((spec_l01DrawBytes.f k1 s0_0 bt599.2.1 bt599.2.2 bt599.1).bind fun bt602 => ((spec_l01Below.f s0_0 bt602.2.1 bt602.2.2 8).bind fun bt607 => (if x5_1.length < 1954687338268 then (spec_l03DrawOps.l0 k1 (x5_1 ++ [(⟨t589, t593, t596, bt602.1, wrap64 (bt607.1 - 1)⟩ : S71)]) (wrap64 (x6_1 - 1)) s0_0 bt607.2.1 bt607.2.2) else (none))))) = some (r1, r2, r3) := H
    have A12 := Zh A120
    clear A120
    replace H := Option.bind_eq_some_iff.mp H
    obtain ⟨⟨t599, t600, t601⟩, A130, H⟩ := H
    replace H : ((spec_l01DrawBytes.f k1 s0_0 t600 t601 t599).bind fun bt602 => ((spec_l01Below.f s0_0 bt602.2.1 bt602.2.2 8).bind fun bt607 => (if x5_1.length < 1954687338268 then (spec_l03DrawOps.l0 k1 (x5_1 ++ [(⟨t589, t593, t596, bt602.1, wrap64 (bt607.1 - 1)⟩ : S71)]) (wrap64 (x6_1 - 1)) s0_0 bt607.2.1 bt607.2.2) else (none)))) = some (r1, r2, r3) := H
    have A13 := Zh A130
    clear A130
    replace H := Option.bind_eq_some_iff.mp H
    obtain ⟨⟨t602, t605, t606⟩, A140, H⟩ := H
    replace H : ((spec_l01Below.f s0_0 t605 t606 8).bind fun bt607 => (if x5_1.length < 1954687338268 then (spec_l03DrawOps.l0 k1 (x5_1 ++ [(⟨t589, t593, t596, t602, wrap64 (bt607.1 - 1)⟩ : S71)]) (wrap64 (x6_1 - 1)) s0_0 bt607.2.1 bt607.2.2) else (none))) = some (r1, r2, r3) := H
    have A14 := Zh A140
    clear A140
    replace H := Option.bind_eq_some_iff.mp H
    obtain ⟨⟨t607, t608, t609⟩, A150, H⟩ := H
    replace H : (if x5_1.length < 1954687338268 then (spec_l03DrawOps.l0 k1 (x5_1 ++ [(⟨t589, t593, t596, t602, wrap64 (t607 - 1)⟩ : S71)]) (wrap64 (x6_1 - 1)) s0_0 t608 t609) else (none)) = some (r1, r2, r3) := H
    have A15 := Zh A150
    clear A150
    by_cases c16 : x5_1.length < 1954687338268
    ·
     rw [if_pos c16] at H
     have LMc16 := Zh c16
     clear c16
     obtain ⟨y610, hy610⟩ : ∃ y_ : List (S71), y_ = (x5_1 ++ [(⟨t589, t593, t596, t602, wrap64 (t607 - 1)⟩ : S71)]) := ⟨_, rfl⟩
     replace H : (spec_l03DrawOps.l0 k1 y610 (wrap64 (x6_1 - 1)) s0_0 t608 t609) = some (r1, r2, r3) := by first | (rw [hy610]; with_reducible exact H) | (have H2_ := (Option.bind_some _ _).symm.trans H; rw [hy610]; with_reducible exact H2_) | (have H2_ := (Option.bind_some _ _).symm.trans H; with_reducible exact H2_) | with_reducible exact H | (rw [hy610]; exact H) | exact H
     have Ny610 := Zh hy610
     clear hy610
     have H' := Zh H
     clear H
     go_wp2_with (first | ((with_reducible refine gate_callee (f := 99) rfl ?_); refine ZG (some 20) Tryd.func99 #[.pointer (some ⟨g, 0, none⟩), .int .i64 7] rfl ?_; (with_reducible refine (spec_l01Below.calls g s0_0 x1001_1 x1002_1 7 t583 t584 t585 w0 _ ?side1 ?side2 A9.out).mono ?_); (case side1 => repeat (first | (with_reducible first | exact HI0.out | apply IsS108.alloc | apply IsS108.drewN | apply IsS108.drew | apply IsS108.set_1 | apply IsS108.set_2) | exact HI0.out)); (case side2 => repeat (first | (with_reducible first | exact HB.out | apply Zf | apply Zd | apply Ze | refine Zg ?_ (IsS108.ge HI0.out)) | exact HB.out)); rintro e w17 ⟨rfl, hi, hb, hk⟩; refine ⟨_, rfl, ?_⟩; replace HO_5 := Zh (S_mono (S_keep (IsS108.apartS (show IsS108 w0 _ g s0_0 x1001_1 x1002_1 from by repeat (first | (with_reducible first | exact HI0.out | apply IsS108.alloc | apply IsS108.drewN | apply IsS108.drew | apply IsS108.set_1 | apply IsS108.set_2) | exact HI0.out)) (ZS HO_5.out) (by decide)) hk (fun _ h => h.2)) (fun _ h => h.1)); replace HK := Zh (KeepBut.trans (by repeat (first | (with_reducible first | exact HK.out | apply KeepBut.set_ | apply keep_drewN | apply keep_drew | apply keep_alloc) | exact HK.out)) hk (.inl rfl)); replace HB := Zh (hb); replace HI0 := Zh (hi); (try clear hb); (try clear hb2); (try clear hk); (try clear hi)) | ((with_reducible refine gate_dst (N := 22) rfl ?_); refine R_lit (Kd.int .i64) _ 3 ?hg (N := 22) ?hd (xs := ([0, 0, 0, 1, 1, 2, 3, 4, wrap64 (t583 - 1)] : List Int)) (inner := [.int .i64 0, .int .i64 0, .int .i64 0, .int .i64 1, .int .i64 1, .int .i64 2, .int .i64 3, .int .i64 4, .int .i64 (wrap64 (t583 - 1))]) (ok := fun _ => True) (okp := fun _ => True) ?hr ?hp (fun _ hk => hk) trivial (Below.refl _ _) (Nat.le_refl _) (by simp) ?_; (case hd => rfl); (case hg => rfl); (case hr => first | (go_simp; done) | (go_simp; rfl)); (case hp => exact (Reps.one (show Kd.M (Kd.int .i64) _ _ _ 0 [.int .i64 0] from rfl) (Reps.one (show Kd.M (Kd.int .i64) _ _ _ 0 [.int .i64 0] from rfl) (Reps.one (show Kd.M (Kd.int .i64) _ _ _ 0 [.int .i64 0] from rfl) (Reps.one (show Kd.M (Kd.int .i64) _ _ _ 1 [.int .i64 1] from rfl) (Reps.one (show Kd.M (Kd.int .i64) _ _ _ 1 [.int .i64 1] from rfl) (Reps.one (show Kd.M (Kd.int .i64) _ _ _ 2 [.int .i64 2] from rfl) (Reps.one (show Kd.M (Kd.int .i64) _ _ _ 3 [.int .i64 3] from rfl) (Reps.one (show Kd.M (Kd.int .i64) _ _ _ 4 [.int .i64 4] from rfl) (Reps.one (show Kd.M (Kd.int .i64) _ _ _ (wrap64 (t583 - 1)) [.int .i64 (wrap64 (t583 - 1))] from rfl) (Reps.none _ _))))))))))); intro v587 w18 ho19 hb hg_ hnew_; clear hg_ hnew_; (first | rw [← Ny586.out] at ho19 | (simp only [Int.reduceToNat] at ho19; rw [← Ny586.out] at ho19)); replace HO_5 := Zh (S_below (ZS HO_5.out) hb); have HO588 := Zh (R_lower ho19 (keep_size (w := w) (g := g) (row := none) (by repeat (first | (with_reducible first | exact HK.out | apply KeepBut.set_ | apply keep_drewN | apply keep_drew | apply keep_alloc) | exact HK.out)))); replace HK := Zh (KeepBut.trans (by repeat (first | (with_reducible first | exact HK.out | apply KeepBut.set_ | apply keep_drewN | apply keep_drew | apply keep_alloc) | exact HK.out)) (KeepBut.of_below hb g none) (.inl rfl)); replace HB := Zh (Zl (by repeat (first | (with_reducible first | exact HB.out | apply Zf | apply Zd | apply Ze | refine Zg ?_ (IsS108.ge HI0.out)) | exact HB.out)) hb); replace HI0 := Zh (IsS108.below (by repeat (first | (with_reducible first | exact HI0.out | apply IsS108.alloc | apply IsS108.drewN | apply IsS108.drew | apply IsS108.set_1 | apply IsS108.set_2) | exact HI0.out)) hb); clear hb ho19; obtain ⟨Ao20, co20, eo20⟩ := R_slice HO588.out; subst eo20) | ((with_reducible refine gate_callee (f := 101) rfl ?_); refine ZG (some 23) Tryd.func101 #[.pointer (some ⟨g, 0, none⟩), .slice Ao20 y586.length co20] rfl ?_; (with_reducible refine (spec_l01PickInt.calls g s0_0 t584 t585 _ _ y586 t589 t590 t591 w0 _ ?side1 ?side2 ?side3 ?side4 ?side5 A10.out).mono ?_); (case side1 => repeat (first | (with_reducible first | exact HI0.out | apply IsS108.alloc | apply IsS108.drewN | apply IsS108.drew | apply IsS108.set_1 | apply IsS108.set_2) | exact HI0.out)); (case side2 => repeat (first | (with_reducible first | exact HB.out | apply Zf | apply Zd | apply Ze | refine Zg ?_ (IsS108.ge HI0.out)) | exact HB.out)); (case side3 => repeat (first | exact (R_reads' HO588.out).2.2 | (with_reducible refine C_alloc ?_ _) | (with_reducible refine C_drewN ?_ _) | (with_reducible refine C_drew ?_))); (case side4 => exact (R_reads' HO588.out).2.1); (case side5 => exact far_slice (IsS108.own_ne HI0.out HO588.out (by decide))); rintro e w21 ⟨rfl, hi, hb, hk⟩; refine ⟨_, rfl, ?_⟩; replace HO_5 := Zh (S_mono (S_keep (IsS108.apartS (show IsS108 w0 _ g s0_0 t584 t585 from by repeat (first | (with_reducible first | exact HI0.out | apply IsS108.alloc | apply IsS108.drewN | apply IsS108.drew | apply IsS108.set_1 | apply IsS108.set_2) | exact HI0.out)) (ZS HO_5.out) (by decide)) hk (fun _ h => h.2)) (fun _ h => h.1)); replace HO588 := Zh (R_mono (R_keep (IsS108.apart (show IsS108 w0 _ g s0_0 t584 t585 from by repeat (first | (with_reducible first | exact HI0.out | apply IsS108.alloc | apply IsS108.drewN | apply IsS108.drew | apply IsS108.set_1 | apply IsS108.set_2) | exact HI0.out)) (ZR HO588.out) (by decide)) hk (fun _ h => h.2)) (fun _ h => h.1)); replace HK := Zh (KeepBut.trans (by repeat (first | (with_reducible first | exact HK.out | apply KeepBut.set_ | apply keep_drewN | apply keep_drew | apply keep_alloc) | exact HK.out)) hk (.inl rfl)); replace HB := Zh (hb); replace HI0 := Zh (hi); (try clear hb); (try clear hb2); (try clear hk); (try clear hi)) | ((with_reducible refine gate_dst (N := 7) rfl ?_); refine box_event ?hg (N := 7) ?hd (cs := #[.int .i64 0, .string (⟨#[]⟩ : ByteArray), .string (⟨#[]⟩ : ByteArray), .slice none 0 0, .int .i64 0]) (t := 71) ?hr ?_; (case hd => rfl); (case hg => rfl); (case hr => first | (go_simp; done) | (go_simp; rfl)); intro gb592 hg w22 hbox hb; replace HO_5 := Zh (S_below (S_elderB (ZS HO_5.out) gb592 (Nat.le_of_eq hg.symm)) hb); replace HO588 := Zh (R_below (ZR HO588.out) hb); replace HB := Zh (Zl (by repeat (first | (with_reducible first | exact HB.out | apply Zf | apply Zd | apply Ze | refine Zg ?_ (IsS108.ge HI0.out)) | exact HB.out)) hb); have BK592 := Zh (hbox); have GW592 := Zh ((by rw [hg]; exact (keep_size (w := w) (g := g) (row := none) (by repeat (first | (with_reducible first | exact HK.out | apply KeepBut.set_ | apply keep_drewN | apply keep_drew | apply keep_alloc) | exact HK.out))) : w.heap.size ≤ gb592)); have GE592 := Zh ((Nat.le_trans HW0.out (by rw [hg]; exact (keep_size (w := w) (g := g) (row := none) (by repeat (first | (with_reducible first | exact HK.out | apply KeepBut.set_ | apply keep_drewN | apply keep_drew | apply keep_alloc) | exact HK.out))) : w.heap.size ≤ gb592) : w0.heap.size ≤ gb592)); replace HK := Zh (KeepBut.trans (by repeat (first | (with_reducible first | exact HK.out | apply KeepBut.set_ | apply keep_drewN | apply keep_drew | apply keep_alloc) | exact HK.out)) (KeepBut.of_below hb g none) (.inl rfl)); have NB0_592 := Zh ((by rw [hg]; exact Nat.ne_of_lt (IsS108.lt (show IsS108 w0 _ g s0_0 t590 t591 from by repeat (first | (with_reducible first | exact HI0.out | apply IsS108.alloc | apply IsS108.drewN | apply IsS108.drew | apply IsS108.set_1 | apply IsS108.set_2) | exact HI0.out))) : g ≠ gb592)); have NB592_0 := Zh ((by rw [hg]; exact Nat.ne_of_gt (IsS108.lt (show IsS108 w0 _ g s0_0 t590 t591 from by repeat (first | (with_reducible first | exact HI0.out | apply IsS108.alloc | apply IsS108.drewN | apply IsS108.drew | apply IsS108.set_1 | apply IsS108.set_2) | exact HI0.out))) : gb592 ≠ g)); replace HI0 := Zh (IsS108.below (by repeat (first | (with_reducible first | exact HI0.out | apply IsS108.alloc | apply IsS108.drewN | apply IsS108.drew | apply IsS108.set_1 | apply IsS108.set_2) | exact HI0.out)) hb); clear hb hbox hg; have hnb23 := NB592_0.out; have hnc23 := NB0_592.out; have hcz24_0 : w22.cell? ⟨gb592, 0, none⟩ = some (.int .i64 0) := (blk_cell BK592.out 0).trans rfl; have hcz24_1 : w22.cell? ⟨gb592, 1, none⟩ = some (.string (⟨#[]⟩ : ByteArray)) := (blk_cell BK592.out 1).trans rfl; have hcz24_2 : w22.cell? ⟨gb592, 2, none⟩ = some (.string (⟨#[]⟩ : ByteArray)) := (blk_cell BK592.out 2).trans rfl; have hcz24_3 : w22.cell? ⟨gb592, 3, none⟩ = some (.slice none 0 0) := (blk_cell BK592.out 3).trans rfl; have hcz24_4 : w22.cell? ⟨gb592, 4, none⟩ = some (.int .i64 0) := (blk_cell BK592.out 4).trans rfl; have hfz24_0 := Zn BK592.out 0; have hfz24_1 := Zn BK592.out 1; have hfz24_2 := Zn BK592.out 2; have hfz24_3 := Zn BK592.out 3; have hfz24_4 := Zn BK592.out 4) | ((with_reducible refine gate_callee (f := 102) rfl ?_); refine ZG (some 26) Tryd.func102 #[.pointer (some ⟨g, 0, none⟩)] rfl ?_; (with_reducible refine (spec_l03DrawName.calls g s0_0 t590 t591 t593 t594 t595 w0 _ ?side1 ?side2 A11.out).mono ?_); (case side1 => repeat (first | (with_reducible first | exact HI0.out | apply IsS108.alloc | apply IsS108.drewN | apply IsS108.drew | apply IsS108.set_1 | apply IsS108.set_2 | refine IsS108.far ?_ NB0_592.out _) | exact HI0.out)); (case side2 => repeat (first | (with_reducible first | exact HB.out | apply Zf | apply Zd | apply Ze | refine Zg ?_ (IsS108.ge HI0.out) | refine Zg ?_ GE592.out) | exact HB.out)); rintro e w25 ⟨rfl, hi, hb, hk⟩; refine ⟨_, rfl, ?_⟩; replace HO_5 := Zh (S_mono (S_keep (IsS108.apartS (show IsS108 w0 _ g s0_0 t590 t591 from by repeat (first | (with_reducible first | exact HI0.out | apply IsS108.alloc | apply IsS108.drewN | apply IsS108.drew | apply IsS108.set_1 | apply IsS108.set_2 | refine IsS108.far ?_ NB0_592.out _) | exact HI0.out)) (ZS (S_mono (S_far (p := ⟨gb592, 4, none⟩) (S_far (p := ⟨gb592, 3, none⟩) (S_far (p := ⟨gb592, 2, none⟩) (S_far (p := ⟨gb592, 1, none⟩) (S_far (p := ⟨gb592, 0, none⟩) (S_mono HO_5.out (fun k_ hk => (⟨hk, hk.2⟩ : _ ∧ k_ ≠ gb592))) (fun _ hk => hk.2) (.int .i64 t589)) (fun _ hk => hk.2) (.string (⟨#[]⟩ : ByteArray))) (fun _ hk => hk.2) (.string (⟨#[]⟩ : ByteArray))) (fun _ hk => hk.2) (.slice none 0 0)) (fun _ hk => hk.2) (.int .i64 0)) (fun _ h_ => h_.1))) (by decide)) hk (fun _ h => h.2)) (fun _ h => h.1)); replace HO588 := Zh (R_mono (R_keep (IsS108.apart (show IsS108 w0 _ g s0_0 t590 t591 from by repeat (first | (with_reducible first | exact HI0.out | apply IsS108.alloc | apply IsS108.drewN | apply IsS108.drew | apply IsS108.set_1 | apply IsS108.set_2 | refine IsS108.far ?_ NB0_592.out _) | exact HI0.out)) (ZR (R_mono (R_far (p := ⟨gb592, 4, none⟩) (R_far (p := ⟨gb592, 3, none⟩) (R_far (p := ⟨gb592, 2, none⟩) (R_far (p := ⟨gb592, 1, none⟩) (R_far (p := ⟨gb592, 0, none⟩) (R_types HO588.out BK592.out (by decide)) (fun _ hk => hk.2) (.int .i64 t589)) (fun _ hk => hk.2) (.string (⟨#[]⟩ : ByteArray))) (fun _ hk => hk.2) (.string (⟨#[]⟩ : ByteArray))) (fun _ hk => hk.2) (.slice none 0 0)) (fun _ hk => hk.2) (.int .i64 0)) (fun _ h_ => h_.1))) (by decide)) hk (fun _ h => h.2)) (fun _ h => h.1)); replace BK592 := Zh (KeepBut.blk hk (g' := gb592) (o := .cells #[.int .i64 t589, .string (⟨#[]⟩ : ByteArray), .string (⟨#[]⟩ : ByteArray), .slice none 0 0, .int .i64 0] 71 (0, 0)) (by (with_reducible repeat (first | refine Za ?_ _ | refine Zb ?_ | refine blk_alloc ?_ _)); refine blk_put (cs := #[.int .i64 t589, .string (⟨#[]⟩ : ByteArray), .string (⟨#[]⟩ : ByteArray), .slice none 0 0, .int .i64 0]) ?_ 4 _ rfl; (with_reducible repeat (first | refine Za ?_ _ | refine Zb ?_ | refine blk_alloc ?_ _)); refine blk_put (cs := #[.int .i64 t589, .string (⟨#[]⟩ : ByteArray), .string (⟨#[]⟩ : ByteArray), .slice none 0 0, .int .i64 0]) ?_ 3 _ rfl; (with_reducible repeat (first | refine Za ?_ _ | refine Zb ?_ | refine blk_alloc ?_ _)); refine blk_put (cs := #[.int .i64 t589, .string (⟨#[]⟩ : ByteArray), .string (⟨#[]⟩ : ByteArray), .slice none 0 0, .int .i64 0]) ?_ 2 _ rfl; (with_reducible repeat (first | refine Za ?_ _ | refine Zb ?_ | refine blk_alloc ?_ _)); refine blk_put (cs := #[.int .i64 t589, .string (⟨#[]⟩ : ByteArray), .string (⟨#[]⟩ : ByteArray), .slice none 0 0, .int .i64 0]) ?_ 1 _ rfl; (with_reducible repeat (first | refine Za ?_ _ | refine Zb ?_ | refine blk_alloc ?_ _)); refine blk_put (cs := #[.int .i64 0, .string (⟨#[]⟩ : ByteArray), .string (⟨#[]⟩ : ByteArray), .slice none 0 0, .int .i64 0]) ?_ 0 _ rfl; (with_reducible repeat (first | refine Za ?_ _ | refine Zb ?_ | refine blk_alloc ?_ _)); exact BK592.out) NB592_0.out (by simp)); replace HK := Zh (KeepBut.trans (by repeat (first | (with_reducible first | exact HK.out | apply KeepBut.set_ | apply keep_drewN | apply keep_drew | apply keep_alloc | refine keep_far ?_ GW592.out _) | exact HK.out)) hk (.inl rfl)); replace HB := Zh (hb); replace HI0 := Zh (hi); (try clear hb); (try clear hb2); (try clear hk); (try clear hi); have hcz26_0 : w25.cell? ⟨gb592, 0, none⟩ = some (.int .i64 t589) := (blk_cell BK592.out 0).trans rfl; have hcz26_1 : w25.cell? ⟨gb592, 1, none⟩ = some (.string (⟨#[]⟩ : ByteArray)) := (blk_cell BK592.out 1).trans rfl; have hcz26_2 : w25.cell? ⟨gb592, 2, none⟩ = some (.string (⟨#[]⟩ : ByteArray)) := (blk_cell BK592.out 2).trans rfl; have hcz26_3 : w25.cell? ⟨gb592, 3, none⟩ = some (.slice none 0 0) := (blk_cell BK592.out 3).trans rfl; have hcz26_4 : w25.cell? ⟨gb592, 4, none⟩ = some (.int .i64 0) := (blk_cell BK592.out 4).trans rfl; have hfz26_0 := Zn BK592.out 0; have hfz26_1 := Zn BK592.out 1; have hfz26_2 := Zn BK592.out 2; have hfz26_3 := Zn BK592.out 3; have hfz26_4 := Zn BK592.out 4) | ((with_reducible refine gate_callee (f := 102) rfl ?_); refine ZG (some 29) Tryd.func102 #[.pointer (some ⟨g, 0, none⟩)] rfl ?_; (with_reducible refine (spec_l03DrawName.calls g s0_0 t594 t595 t596 t597 t598 w0 _ ?side1 ?side2 A12.out).mono ?_); (case side1 => repeat (first | (with_reducible first | exact HI0.out | apply IsS108.alloc | apply IsS108.drewN | apply IsS108.drew | apply IsS108.set_1 | apply IsS108.set_2 | refine IsS108.far ?_ NB0_592.out _) | exact HI0.out)); (case side2 => repeat (first | (with_reducible first | exact HB.out | apply Zf | apply Zd | apply Ze | refine Zg ?_ (IsS108.ge HI0.out) | refine Zg ?_ GE592.out) | exact HB.out)); rintro e w27 ⟨rfl, hi, hb, hk⟩; refine ⟨_, rfl, ?_⟩; replace HO_5 := Zh (S_mono (S_keep (IsS108.apartS (show IsS108 w0 _ g s0_0 t594 t595 from by repeat (first | (with_reducible first | exact HI0.out | apply IsS108.alloc | apply IsS108.drewN | apply IsS108.drew | apply IsS108.set_1 | apply IsS108.set_2 | refine IsS108.far ?_ NB0_592.out _) | exact HI0.out)) (ZS (S_mono (S_far (p := ⟨gb592, 1, none⟩) (S_mono HO_5.out (fun k_ hk => (⟨hk, hk.2⟩ : _ ∧ k_ ≠ gb592))) (fun _ hk => hk.2) (.string t593)) (fun _ h_ => h_.1))) (by decide)) hk (fun _ h => h.2)) (fun _ h => h.1)); replace HO588 := Zh (R_mono (R_keep (IsS108.apart (show IsS108 w0 _ g s0_0 t594 t595 from by repeat (first | (with_reducible first | exact HI0.out | apply IsS108.alloc | apply IsS108.drewN | apply IsS108.drew | apply IsS108.set_1 | apply IsS108.set_2 | refine IsS108.far ?_ NB0_592.out _) | exact HI0.out)) (ZR (R_mono (R_far (p := ⟨gb592, 1, none⟩) (R_types HO588.out BK592.out (by decide)) (fun _ hk => hk.2) (.string t593)) (fun _ h_ => h_.1))) (by decide)) hk (fun _ h => h.2)) (fun _ h => h.1)); replace BK592 := Zh (KeepBut.blk hk (g' := gb592) (o := .cells #[.int .i64 t589, .string t593, .string (⟨#[]⟩ : ByteArray), .slice none 0 0, .int .i64 0] 71 (0, 0)) (by (with_reducible repeat (first | refine Za ?_ _ | refine Zb ?_ | refine blk_alloc ?_ _)); refine blk_put (cs := #[.int .i64 t589, .string (⟨#[]⟩ : ByteArray), .string (⟨#[]⟩ : ByteArray), .slice none 0 0, .int .i64 0]) ?_ 1 _ rfl; (with_reducible repeat (first | refine Za ?_ _ | refine Zb ?_ | refine blk_alloc ?_ _)); exact BK592.out) NB592_0.out (by simp)); replace HK := Zh (KeepBut.trans (by repeat (first | (with_reducible first | exact HK.out | apply KeepBut.set_ | apply keep_drewN | apply keep_drew | apply keep_alloc | refine keep_far ?_ GW592.out _) | exact HK.out)) hk (.inl rfl)); replace HB := Zh (hb); replace HI0 := Zh (hi); (try clear hb); (try clear hb2); (try clear hk); (try clear hi); have hcz28_0 : w27.cell? ⟨gb592, 0, none⟩ = some (.int .i64 t589) := (blk_cell BK592.out 0).trans rfl; have hcz28_1 : w27.cell? ⟨gb592, 1, none⟩ = some (.string t593) := (blk_cell BK592.out 1).trans rfl; have hcz28_2 : w27.cell? ⟨gb592, 2, none⟩ = some (.string (⟨#[]⟩ : ByteArray)) := (blk_cell BK592.out 2).trans rfl; have hcz28_3 : w27.cell? ⟨gb592, 3, none⟩ = some (.slice none 0 0) := (blk_cell BK592.out 3).trans rfl; have hcz28_4 : w27.cell? ⟨gb592, 4, none⟩ = some (.int .i64 0) := (blk_cell BK592.out 4).trans rfl; have hfz28_0 := Zn BK592.out 0; have hfz28_1 := Zn BK592.out 1; have hfz28_2 := Zn BK592.out 2; have hfz28_3 := Zn BK592.out 3; have hfz28_4 := Zn BK592.out 4) | ((with_reducible refine gate_callee (f := 99) rfl ?_); refine ZG (some 33) Tryd.func99 #[.pointer (some ⟨g, 0, none⟩), .int .i64 5] rfl ?_; (with_reducible refine (spec_l01Below.calls g s0_0 t597 t598 5 t599 t600 t601 w0 _ ?side1 ?side2 A13.out).mono ?_); (case side1 => repeat (first | (with_reducible first | exact HI0.out | apply IsS108.alloc | apply IsS108.drewN | apply IsS108.drew | apply IsS108.set_1 | apply IsS108.set_2 | refine IsS108.far ?_ NB0_592.out _) | exact HI0.out)); (case side2 => repeat (first | (with_reducible first | exact HB.out | apply Zf | apply Zd | apply Ze | refine Zg ?_ (IsS108.ge HI0.out) | refine Zg ?_ GE592.out) | exact HB.out)); rintro e w29 ⟨rfl, hi, hb, hk⟩; refine ⟨_, rfl, ?_⟩; replace HO_5 := Zh (S_mono (S_keep (IsS108.apartS (show IsS108 w0 _ g s0_0 t597 t598 from by repeat (first | (with_reducible first | exact HI0.out | apply IsS108.alloc | apply IsS108.drewN | apply IsS108.drew | apply IsS108.set_1 | apply IsS108.set_2 | refine IsS108.far ?_ NB0_592.out _) | exact HI0.out)) (ZS (S_mono (S_far (p := ⟨gb592, 2, none⟩) (S_mono HO_5.out (fun k_ hk => (⟨hk, hk.2⟩ : _ ∧ k_ ≠ gb592))) (fun _ hk => hk.2) (.string t596)) (fun _ h_ => h_.1))) (by decide)) hk (fun _ h => h.2)) (fun _ h => h.1)); replace HO588 := Zh (R_mono (R_keep (IsS108.apart (show IsS108 w0 _ g s0_0 t597 t598 from by repeat (first | (with_reducible first | exact HI0.out | apply IsS108.alloc | apply IsS108.drewN | apply IsS108.drew | apply IsS108.set_1 | apply IsS108.set_2 | refine IsS108.far ?_ NB0_592.out _) | exact HI0.out)) (ZR (R_mono (R_far (p := ⟨gb592, 2, none⟩) (R_types HO588.out BK592.out (by decide)) (fun _ hk => hk.2) (.string t596)) (fun _ h_ => h_.1))) (by decide)) hk (fun _ h => h.2)) (fun _ h => h.1)); replace BK592 := Zh (KeepBut.blk hk (g' := gb592) (o := .cells #[.int .i64 t589, .string t593, .string t596, .slice none 0 0, .int .i64 0] 71 (0, 0)) (by (with_reducible repeat (first | refine Za ?_ _ | refine Zb ?_ | refine blk_alloc ?_ _)); refine blk_put (cs := #[.int .i64 t589, .string t593, .string (⟨#[]⟩ : ByteArray), .slice none 0 0, .int .i64 0]) ?_ 2 _ rfl; (with_reducible repeat (first | refine Za ?_ _ | refine Zb ?_ | refine blk_alloc ?_ _)); exact BK592.out) NB592_0.out (by simp)); replace HK := Zh (KeepBut.trans (by repeat (first | (with_reducible first | exact HK.out | apply KeepBut.set_ | apply keep_drewN | apply keep_drew | apply keep_alloc | refine keep_far ?_ GW592.out _) | exact HK.out)) hk (.inl rfl)); replace HB := Zh (hb); replace HI0 := Zh (hi); (try clear hb); (try clear hb2); (try clear hk); (try clear hi)) | ((with_reducible refine gate_callee (f := 103) rfl ?_); refine ZG (some 34) Tryd.func103 #[.pointer (some ⟨g, 0, none⟩), .int .i64 t599] rfl ?_; (with_reducible refine (spec_l01DrawBytes.calls k1 g s0_0 t600 t601 t599 t602 t605 t606 w0 _ ?side1 ?side2 A14.out).mono ?_); (case side1 => repeat (first | (with_reducible first | exact HI0.out | apply IsS108.alloc | apply IsS108.drewN | apply IsS108.drew | apply IsS108.set_1 | apply IsS108.set_2 | refine IsS108.far ?_ NB0_592.out _) | exact HI0.out)); (case side2 => repeat (first | (with_reducible first | exact HB.out | apply Zf | apply Zd | apply Ze | refine Zg ?_ (IsS108.ge HI0.out) | refine Zg ?_ GE592.out) | exact HB.out)); rintro e w30 ⟨v603, rfl, ho0, hi, hb, hk⟩; refine ⟨_, rfl, ?_⟩; replace HO_5 := Zh (S_mono (S_told (S_oldK (IsS108.apartS (show IsS108 w0 _ g s0_0 t600 t601 from by repeat (first | (with_reducible first | exact HI0.out | apply IsS108.alloc | apply IsS108.drewN | apply IsS108.drew | apply IsS108.set_1 | apply IsS108.set_2 | refine IsS108.far ?_ NB0_592.out _) | exact HI0.out)) (ZS HO_5.out) (by decide)) hk) (R_base ho0)) (fun _ h_ => h_.1)); replace HO588 := Zh (R_mono (R_keep (IsS108.apart (show IsS108 w0 _ g s0_0 t600 t601 from by repeat (first | (with_reducible first | exact HI0.out | apply IsS108.alloc | apply IsS108.drewN | apply IsS108.drew | apply IsS108.set_1 | apply IsS108.set_2 | refine IsS108.far ?_ NB0_592.out _) | exact HI0.out)) (ZR HO588.out) (by decide)) hk (fun _ h => h.2)) (fun _ h => h.1)); replace BK592 := Zh (KeepBut.blk hk (g' := gb592) (o := .cells #[.int .i64 t589, .string t593, .string t596, .slice none 0 0, .int .i64 0] 71 (0, 0)) Zk NB592_0.out (by simp)); have HO604 := Zh (R_lower ho0 (keep_size (w := w) (g := g) (row := none) (by repeat (first | (with_reducible first | exact HK.out | apply KeepBut.set_ | apply keep_drewN | apply keep_drew | apply keep_alloc | refine keep_far ?_ GW592.out _) | exact HK.out)))); replace HK := Zh (KeepBut.trans (by repeat (first | (with_reducible first | exact HK.out | apply KeepBut.set_ | apply keep_drewN | apply keep_drew | apply keep_alloc | refine keep_far ?_ GW592.out _) | exact HK.out)) hk (.inl rfl)); replace HB := Zh (hb); replace HI0 := Zh (hi); (try clear hb); (try clear hb2); (try clear hk); (try clear hi); (try clear ho0); obtain ⟨Ao31, co31, eo31⟩ := R_slice HO604.out; subst eo31; have hcz32_0 : w30.cell? ⟨gb592, 0, none⟩ = some (.int .i64 t589) := (blk_cell BK592.out 0).trans rfl; have hcz32_1 : w30.cell? ⟨gb592, 1, none⟩ = some (.string t593) := (blk_cell BK592.out 1).trans rfl; have hcz32_2 : w30.cell? ⟨gb592, 2, none⟩ = some (.string t596) := (blk_cell BK592.out 2).trans rfl; have hcz32_3 : w30.cell? ⟨gb592, 3, none⟩ = some (.slice none 0 0) := (blk_cell BK592.out 3).trans rfl; have hcz32_4 : w30.cell? ⟨gb592, 4, none⟩ = some (.int .i64 0) := (blk_cell BK592.out 4).trans rfl; have hfz32_0 := Zn BK592.out 0; have hfz32_1 := Zn BK592.out 1; have hfz32_2 := Zn BK592.out 2; have hfz32_3 := Zn BK592.out 3; have hfz32_4 := Zn BK592.out 4) | ((with_reducible refine gate_callee (f := 99) rfl ?_); refine ZG (some 37) Tryd.func99 #[.pointer (some ⟨g, 0, none⟩), .int .i64 8] rfl ?_; (with_reducible refine (spec_l01Below.calls g s0_0 t605 t606 8 t607 t608 t609 w0 _ ?side1 ?side2 A15.out).mono ?_); (case side1 => repeat (first | (with_reducible first | exact HI0.out | apply IsS108.alloc | apply IsS108.drewN | apply IsS108.drew | apply IsS108.set_1 | apply IsS108.set_2 | refine IsS108.far ?_ NB0_592.out _) | exact HI0.out)); (case side2 => repeat (first | (with_reducible first | exact HB.out | apply Zf | apply Zd | apply Ze | refine Zg ?_ (IsS108.ge HI0.out) | refine Zg ?_ GE592.out) | exact HB.out)); rintro e w33 ⟨rfl, hi, hb, hk⟩; refine ⟨_, rfl, ?_⟩; replace HO_5 := Zh (S_mono (S_keep (IsS108.apartS (show IsS108 w0 _ g s0_0 t605 t606 from by repeat (first | (with_reducible first | exact HI0.out | apply IsS108.alloc | apply IsS108.drewN | apply IsS108.drew | apply IsS108.set_1 | apply IsS108.set_2 | refine IsS108.far ?_ NB0_592.out _) | exact HI0.out)) (ZS (S_mono (S_far (p := ⟨gb592, 3, none⟩) (S_mono HO_5.out (fun k_ hk => (⟨hk, hk.1.2⟩ : _ ∧ k_ ≠ gb592))) (fun _ hk => hk.2) (.slice Ao31 t602.length co31)) (fun _ h_ => h_.1))) (by decide)) hk (fun _ h => h.2)) (fun _ h => h.1)); replace HO588 := Zh (R_mono (R_keep (IsS108.apart (show IsS108 w0 _ g s0_0 t605 t606 from by repeat (first | (with_reducible first | exact HI0.out | apply IsS108.alloc | apply IsS108.drewN | apply IsS108.drew | apply IsS108.set_1 | apply IsS108.set_2 | refine IsS108.far ?_ NB0_592.out _) | exact HI0.out)) (ZR (R_mono (R_far (p := ⟨gb592, 3, none⟩) (R_types HO588.out BK592.out (by decide)) (fun _ hk => hk.2) (.slice Ao31 t602.length co31)) (fun _ h_ => h_.1))) (by decide)) hk (fun _ h => h.2)) (fun _ h => h.1)); replace HO604 := Zh (R_mono (R_keep (IsS108.apart (show IsS108 w0 _ g s0_0 t605 t606 from by repeat (first | (with_reducible first | exact HI0.out | apply IsS108.alloc | apply IsS108.drewN | apply IsS108.drew | apply IsS108.set_1 | apply IsS108.set_2 | refine IsS108.far ?_ NB0_592.out _) | exact HI0.out)) (ZR (R_mono (R_far (p := ⟨gb592, 3, none⟩) (R_types HO604.out BK592.out (by decide)) (fun _ hk => hk.2) (.slice Ao31 t602.length co31)) (fun _ h_ => h_.1))) (by decide)) hk (fun _ h => h.2)) (fun _ h => h.1)); replace BK592 := Zh (KeepBut.blk hk (g' := gb592) (o := .cells #[.int .i64 t589, .string t593, .string t596, .slice Ao31 t602.length co31, .int .i64 0] 71 (0, 0)) (by (with_reducible repeat (first | refine Za ?_ _ | refine Zb ?_ | refine blk_alloc ?_ _)); refine blk_put (cs := #[.int .i64 t589, .string t593, .string t596, .slice none 0 0, .int .i64 0]) ?_ 3 _ rfl; (with_reducible repeat (first | refine Za ?_ _ | refine Zb ?_ | refine blk_alloc ?_ _)); exact BK592.out) NB592_0.out (by simp)); replace HK := Zh (KeepBut.trans (by repeat (first | (with_reducible first | exact HK.out | apply KeepBut.set_ | apply keep_drewN | apply keep_drew | apply keep_alloc | refine keep_far ?_ GW592.out _) | exact HK.out)) hk (.inl rfl)); replace HB := Zh (hb); replace HI0 := Zh (hi); (try clear hb); (try clear hb2); (try clear hk); (try clear hi); have hcz34_0 : w33.cell? ⟨gb592, 0, none⟩ = some (.int .i64 t589) := (blk_cell BK592.out 0).trans rfl; have hcz34_1 : w33.cell? ⟨gb592, 1, none⟩ = some (.string t593) := (blk_cell BK592.out 1).trans rfl; have hcz34_2 : w33.cell? ⟨gb592, 2, none⟩ = some (.string t596) := (blk_cell BK592.out 2).trans rfl; have hcz34_3 : w33.cell? ⟨gb592, 3, none⟩ = some (.slice Ao31 t602.length co31) := (blk_cell BK592.out 3).trans rfl; have hcz34_4 : w33.cell? ⟨gb592, 4, none⟩ = some (.int .i64 0) := (blk_cell BK592.out 4).trans rfl; have hfz34_0 := Zn BK592.out 0; have hfz34_1 := Zn BK592.out 1; have hfz34_2 := Zn BK592.out 2; have hfz34_3 := Zn BK592.out 3; have hfz34_4 := Zn BK592.out 4) | ((with_reducible refine gate_store (t := 3) (p := 39) rfl ?_); refine store_event (t := 3) (p := 39) (v := ?vo_w35) (w1 := (w33.setCell ⟨gb592, 4, none⟩ (.int .i64 (wrap64 (t607 - 1))))) ?hg ?ho ?hn ?hr ?_; (case ho => rfl); (case hg => rfl); (case hn => rfl); (case hr => first | (go_simp; done) | (go_simp; rfl)); intro w35 hw; have n0_ : Aside0 (Kd.S k71 71 w35 w.heap.size (fun k_ => some k_ ≠ (.slice Ao31 t602.length co31 : Value).ownBlock ∧ k_ ≠ gb592) u5 x5_1) := ⟨(by rw [hw]; exact (ZS (S_mono (S_far (p := ⟨gb592, 4, none⟩) (S_mono HO_5.out (fun k_ hk => (⟨hk, hk.1.2⟩ : _ ∧ k_ ≠ gb592))) (fun _ hk => hk.2) (.int .i64 (wrap64 (t607 - 1)))) (fun _ hk => ⟨hk.1.2, hk.1.1.2⟩))))⟩; have n1_ : Aside0 (Kd.R (Kd.int .i64) 3 w35 w.heap.size (fun _ => True) (.slice Ao20 y586.length co20) y586) := ⟨(by rw [hw]; exact (ZR (R_mono (R_far (p := ⟨gb592, 4, none⟩) (R_types HO588.out BK592.out (by decide)) (fun _ hk => hk.2) (.int .i64 (wrap64 (t607 - 1)))) (fun _ hk => trivial))))⟩; have n2_ : Aside0 (Kd.R (Kd.int .u8) 5 w35 w.heap.size (fun _ => True) (.slice Ao31 t602.length co31) t602) := ⟨(by rw [hw]; exact (ZR (R_mono (R_far (p := ⟨gb592, 4, none⟩) (R_types HO604.out BK592.out (by decide)) (fun _ hk => hk.2) (.int .i64 (wrap64 (t607 - 1)))) (fun _ hk => trivial))))⟩; have n3_ : Aside0 (w35.heap[gb592]? = some (.cells #[.int .i64 t589, .string t593, .string t596, .slice Ao31 t602.length co31, .int .i64 (wrap64 (t607 - 1))] 71 (0, 0))) := ⟨(by rw [hw]; exact (by (with_reducible repeat (first | refine Za ?_ _ | refine Zb ?_ | refine blk_alloc ?_ _)); refine blk_put (cs := #[.int .i64 t589, .string t593, .string t596, .slice Ao31 t602.length co31, .int .i64 0]) ?_ 4 _ rfl; (with_reducible repeat (first | refine Za ?_ _ | refine Zb ?_ | refine blk_alloc ?_ _)); exact BK592.out))⟩; have n4_ : Aside0 (IsS108 w0 w35 g s0_0 t608 t609) := ⟨(by rw [hw]; exact (by repeat (first | (with_reducible first | exact HI0.out | apply IsS108.alloc | apply IsS108.drewN | apply IsS108.drew | apply IsS108.set_1 | apply IsS108.set_2 | refine IsS108.far ?_ NB0_592.out _) | exact HI0.out)))⟩; have n5_ : Aside0 (KeepBut w w35 g none) := ⟨(by rw [hw]; exact (by repeat (first | (with_reducible first | exact HK.out | apply KeepBut.set_ | apply keep_drewN | apply keep_drew | apply keep_alloc | refine keep_far ?_ GW592.out _) | exact HK.out)))⟩; have n6_ : Aside0 (Below w0.heap.size w0 w35) := ⟨(by rw [hw]; exact (by repeat (first | (with_reducible first | exact HB.out | apply Zf | apply Zd | apply Ze | refine Zg ?_ (IsS108.ge HI0.out) | refine Zg ?_ GE592.out) | exact HB.out)))⟩; clear hw; clear HO_5; clear HO588; clear HO604; clear BK592; clear HI0; clear HK; clear HB; have HO_5 := n0_; have HO588 := n1_; have HO604 := n2_; have BK592 := n3_; have HI0 := n4_; have HK := n5_; have HB := n6_; clear n0_ n1_ n2_ n3_ n4_ n5_ n6_; have hcz36_0 : w35.cell? ⟨gb592, 0, none⟩ = some (.int .i64 t589) := (blk_cell BK592.out 0).trans rfl; have hcz36_1 : w35.cell? ⟨gb592, 1, none⟩ = some (.string t593) := (blk_cell BK592.out 1).trans rfl; have hcz36_2 : w35.cell? ⟨gb592, 2, none⟩ = some (.string t596) := (blk_cell BK592.out 2).trans rfl; have hcz36_3 : w35.cell? ⟨gb592, 3, none⟩ = some (.slice Ao31 t602.length co31) := (blk_cell BK592.out 3).trans rfl; have hcz36_4 : w35.cell? ⟨gb592, 4, none⟩ = some (.int .i64 (wrap64 (t607 - 1))) := (blk_cell BK592.out 4).trans rfl; have hfz36_0 := Zn BK592.out 0; have hfz36_1 := Zn BK592.out 1; have hfz36_2 := Zn BK592.out 2; have hfz36_3 := Zn BK592.out 3; have hfz36_4 := Zn BK592.out 4) | ((with_reducible refine gate_builtin (b := .append) (xs := #[.tmp 40, .tmp 42]) rfl ?_); at_builtin; refine S_append k71 w.heap.size rfl (.tmp 40) (.tmp 42) 60 71 (.agg #[(.int .i64 0), (.string ⟨#[]⟩), (.string ⟨#[]⟩), (.slice none 0 0), (.int .i64 0)]) 72 rfl Tryd.underlying60 info71 rfl (by decide) (by omega) u5 x5_1 (⟨t589, t593, t596, t602, wrap64 (t607 - 1)⟩ : S71) [.int .i64 t589, .string t593, .string t596, .slice Ao31 t602.length co31, .int .i64 (wrap64 (t607 - 1))] (fun k_ => k_ ≠ gb592) (fun k_ => some k_ = (.slice Ao31 t602.length co31 : Value).ownBlock) rfl rfl ?aP (fun k_ hk_ => ((R_mono (ok' := fun k_ => ((fun k_ => k_ ≠ gb592)) k_ ∧ some k_ ≠ (u5 : Value).ownBlock) (R_types (R_apart' (HO604.out) (S_typed HO_5.out) (by decide)) BK592.out (by decide)) (fun k_ hk => ⟨hk.2, hk.1.2⟩))).1 k_ hk_.symm) ?aF ?aO (Below.refl _ _) ?aS ?aL ?_; (case aP => exact k71_mkM _ _ _ (⟨t589, t593, t596, t602, wrap64 (t607 - 1)⟩ : S71) (R_mono (R_tight rfl (R_mono (ok' := fun k_ => ((fun k_ => k_ ≠ gb592)) k_ ∧ some k_ ≠ (u5 : Value).ownBlock) (R_types (R_apart' (HO604.out) (S_typed HO_5.out) (by decide)) BK592.out (by decide)) (fun k_ hk => ⟨hk.2, hk.1.2⟩))) (fun _ h_ => h_))); (case aF => exact (fun k_ hk => Kd.freshB (g := gb592) (o := .cells #[.int .i64 t589, .string t593, .string t596, .slice Ao31 t602.length co31, .int .i64 (wrap64 (t607 - 1))] 71 (0, 0)) Zk k_ hk)); (case aO => exact (ZS (S_mono HO_5.out (fun k_ hk => ⟨hk.2, fun e_ => hk.1 e_⟩)))); (case aS => exact (keep_size (w := w) (g := g) (row := none) (by repeat (first | (with_reducible first | exact HK.out | apply KeepBut.set_ | apply keep_drewN | apply keep_drew | apply keep_alloc | refine keep_far ?_ GW592.out _) | exact HK.out)))); (case aL => have := LMc16.out; omega); intro v611 w37 ho hb hg hat; rw [← Ny610.out] at ho; have n0_ := Zh (IsS108.grown (show IsS108 w0 _ g s0_0 t608 t609 from by repeat (first | (with_reducible first | exact HI0.out | apply IsS108.alloc | apply IsS108.drewN | apply IsS108.drew | apply IsS108.set_1 | apply IsS108.set_2 | refine IsS108.far ?_ NB0_592.out _) | exact HI0.out)) hg (IsS108.own_neS HI0.out HO_5.out (by decide))); have n1_ := Zh (R_over' (ZR HO588.out) (S_typed (ZS HO_5.out)) (by decide) hg); have n2_ := Zh (blk_grown (g := gb592) (o := .cells #[.int .i64 t589, .string t593, .string t596, .slice Ao31 t602.length co31, .int .i64 (wrap64 (t607 - 1))] 71 (0, 0)) Zk hg (S_away HO_5.out (fun _ hk => hk.2))); have n3_ := Zh (below_weaken (by repeat (first | (with_reducible first | exact HB.out | apply Zf | apply Zd | apply Ze | refine Zg ?_ (IsS108.ge HI0.out) | refine Zg ?_ GE592.out) | exact HB.out)) HL.out hb); have n4_ := Zh (KeepBut.trans (by repeat (first | (with_reducible first | exact HK.out | apply KeepBut.set_ | apply keep_drewN | apply keep_drew | apply keep_alloc | refine keep_far ?_ GW592.out _) | exact HK.out)) (KeepBut.of_grown hg g) (S_base2 HO_5.out)); have n5_ := Zh (ho); clear HI0; clear HO588; clear BK592; clear HB; clear HK; clear HO_5; clear HO604; have HI0 := n0_; have HO588 := n1_; have BK592 := n2_; have HB := n3_; have HK := n4_; have HO612 := n5_; clear n0_ n1_ n2_ n3_ n4_ n5_; clear ho hb hg hat))
     go_roundg k1
     case measure => have := HK1.out; omega
     case rel => exact ⟨(y610), (wrap64 (x6_1 - 1)), (t608), (t609), (by first | rfl | (simp; done) | (simp [*]; done)), H', ⟨by have := HK1.out; omega⟩, ⟨ZS (S_mono HO612.out (fun _ hk => trivial))⟩, ⟨by repeat (first | (with_reducible first | exact HI0.out | apply IsS108.alloc | apply IsS108.drewN | apply IsS108.drew | apply IsS108.set_1 | apply IsS108.set_2 | refine IsS108.far ?_ NB0_592.out _) | exact HI0.out)⟩, ⟨by repeat (first | (with_reducible first | exact HK.out | apply KeepBut.set_ | apply keep_drewN | apply keep_drew | apply keep_alloc | refine keep_far ?_ GW592.out _) | exact HK.out)⟩, ⟨by repeat (first | (with_reducible first | exact HB.out | apply Zf | apply Zd | apply Ze | refine Zg ?_ (IsS108.ge HI0.out) | refine Zg ?_ GE592.out) | exact HB.out)⟩⟩
    rw [if_neg c16] at H
    exact absurd H (by simp)
   rw [if_neg c8] at H
   have c8b0 : decide (0 < x6_1) = false := decide_eq_false c8
   clear c8
   simp only [Option.some.injEq, Prod.mk.injEq] at H
   obtain ⟨rfl, rfl, rfl⟩ := H
   go_wp2
   go_ret
   exact ⟨_, ZE, ZS HO_5.out, by repeat (first | (with_reducible first | exact HI0.out | apply IsS108.alloc | apply IsS108.drewN | apply IsS108.drew | apply IsS108.set_1 | apply IsS108.set_2) | exact HI0.out), by repeat (first | (with_reducible first | exact HB.out | apply Zf | apply Zd | apply Ze | refine Zg ?_ (IsS108.ge HI0.out)) | exact HB.out), by repeat (first | (with_reducible first | exact HK.out | apply KeepBut.set_ | apply keep_drewN | apply keep_drew | apply keep_alloc) | exact HK.out)⟩
def spec_l03Find.l0 : Nat → ByteArray → Int → List (S74) → Option (Int)
 | 0, _, _, _ => none
 | k + 1, x1, x5, x173000 => if x5 < (x173000.length : Int) then (if 0 ≤ x5 then (if ((rd_T74 x173000 x5).f0).toList = x1.toList then (some x5) else (spec_l03Find.l0 k x1 (wrap64 (x5 + 1)) x173000)) else (none)) else (some (-1))
def spec_l03Find.f (k : Nat) (l0_0 : List (S74)) (a1 : ByteArray) : Option (Int) := spec_l03Find.l0 k a1 0 l0_0
set_option maxHeartbeats 8000000 in
set_option maxRecDepth 100000 in
theorem spec_l03Find.calls (k : Nat) (A0_0 : Option Addr) (c0_0 : Nat) (l0_0 : List (S74)) (a1 : ByteArray) (r : Int) (w : World) (hr0_0 : Kd.C k74 w A0_0 l0_0.length l0_0) (hc0_0 : l0_0.length ≤ c0_0) (h : spec_l03Find.f k l0_0 a1 = some r) :
  Calls Tryd.prog 61 #[.agg #[.slice A0_0 l0_0.length c0_0], .string a1] w fun e w' => e = .returned (.int .i64 r) ∧ Below w.heap.size w w' := by
 have hu29 := Tryd.underlying29
 have HR0_0 := Zh hr0_0
 have HC0_0 := Zh hc0_0
 clear hr0_0 hc0_0
 have HB := Zh (Below.refl w.heap.size w)
 have H : (spec_l03Find.l0 k a1 0 l0_0) = some r := h
 clear h
 have H' := Zh H
 clear H
 go_enter Tryd.func61, Tryd.ntmps61
 go_wp2_with (first | ((with_reducible refine gate_dst (N := 2) rfl ?_); refine box_event ?hg (N := 2) ?hd (cs := #[.slice A0_0 l0_0.length c0_0]) (t := 29) ?hr ?_; (case hd => rfl); (case hg => rfl); (case hr => first | (go_simp; done) | (go_simp; rfl)); intro gb172 hg w3 hbox hb; have BK172 := Zh (hbox); have GW172 := Zh ((by rw [hg]; exact (below_size Zs) : w.heap.size ≤ gb172)); have GE172 := Zh ((by rw [hg]; exact (below_size Zs) : w.heap.size ≤ gb172)); replace HB := Zh (Zl Zs hb); clear hb hbox hg))
 go_loopg [5] k (fun kq v5 w' => ∃ (x5_1 : Int), v5 = .int .i64 x5_1 ∧ Aside0 (spec_l03Find.l0 kq a1 x5_1 l0_0 = some r) ∧ Aside0 (kq ≤ k) ∧ Aside0 (w'.heap[gb172]? = some (.cells #[(.slice A0_0 l0_0.length c0_0)] 29 (0, 0))) ∧ Aside0 (Below w.heap.size w w'))
 case atStart => exact ⟨(0), (by first | rfl | (simp; done) | (simp [*]; done)), H', ⟨Nat.le_refl _⟩, ⟨Zk⟩, ⟨Zs⟩⟩
 case round =>
  clear H'
  try clear p2
  obtain ⟨x5_1, rfl, HA, HK1, BK172, HB⟩ := hrel
  cases gk with
  | zero => exact absurd HA.out (by simp [spec_l03Find.l0])
  | succ k1 =>
   have H := HA.out
   clear HA
   simp only [spec_l03Find.l0] at H
   by_cases c4 : x5_1 < (l0_0.length : Int)
   ·
    rw [if_pos c4] at H
    have c4b0 : decide (x5_1 < (l0_0.length : Int)) = true := decide_eq_true c4
    clear c4
    by_cases c5 : 0 ≤ x5_1
    ·
     rw [if_pos c5] at H
     have c5b0 : decide (0 ≤ x5_1) = true := decide_eq_true c5
     clear c5
     by_cases c6 : ((rd_T74 l0_0 x5_1).f0).toList = a1.toList
     ·
      rw [if_pos c6] at H
      have c6b0 : (((rd_T74 l0_0 x5_1).f0).toList == a1.toList) = true := beq_iff_eq.mpr c6
      have c6b1 : (((rd_T74 l0_0 x5_1).f0).toList != a1.toList) = false := bne_eq_false_iff_eq.mpr c6
      clear c6
      obtain rfl := Option.some.inj H
      have hcz7_0 : wr.cell? ⟨gb172, 0, none⟩ = some (.slice A0_0 l0_0.length c0_0) := (blk_cell BK172.out 0).trans rfl
      have hfz7_0 := Zn BK172.out 0
      have p173 : 0 ≤ (x5_1 : Int) := Zo
      have q173 : x5_1 < (l0_0.length : Int) := Zo
      obtain ⟨ad173, A173_1, c173_1, A173_2, c173_2, e173, hx173_0, hx173_1, hx173_2, hl173_1, hi173_1, hl173_2, hi173_2⟩ := at_T74 HR0_0.out x5_1 p173 q173
      cases e173
      replace hx173_0 := Zc HB.out hx173_0
      replace hx173_1 := Zc HB.out hx173_1
      replace hx173_2 := Zc HB.out hx173_2
      have HR173_1 := Zh hi173_1
      have HC173_1 := Zh hl173_1
      clear hi173_1 hl173_1
      have HR173_2 := Zh hi173_2
      have HC173_2 := Zh hl173_2
      clear hi173_2 hl173_2
      replace p173 := eq_true p173
      replace q173 := eq_true q173
      go_wp2
      go_ret
      exact ⟨ZE, Zs⟩
     rw [if_neg c6] at H
     have c6b0 : (((rd_T74 l0_0 x5_1).f0).toList == a1.toList) = false := beq_eq_false_iff_ne.mpr c6
     have c6b1 : (((rd_T74 l0_0 x5_1).f0).toList != a1.toList) = true := bne_iff_ne.mpr c6
     have H' := Zh H
     clear H
     have hcz8_0 : wr.cell? ⟨gb172, 0, none⟩ = some (.slice A0_0 l0_0.length c0_0) := (blk_cell BK172.out 0).trans rfl
     have hfz8_0 := Zn BK172.out 0
     have p173 : 0 ≤ (x5_1 : Int) := Zo
     have q173 : x5_1 < (l0_0.length : Int) := Zo
     obtain ⟨ad173, A173_1, c173_1, A173_2, c173_2, e173, hx173_0, hx173_1, hx173_2, hl173_1, hi173_1, hl173_2, hi173_2⟩ := at_T74 HR0_0.out x5_1 p173 q173
     cases e173
     replace hx173_0 := Zc HB.out hx173_0
     replace hx173_1 := Zc HB.out hx173_1
     replace hx173_2 := Zc HB.out hx173_2
     have HR173_1 := Zh hi173_1
     have HC173_1 := Zh hl173_1
     clear hi173_1 hl173_1
     have HR173_2 := Zh hi173_2
     have HC173_2 := Zh hl173_2
     clear hi173_2 hl173_2
     replace p173 := eq_true p173
     replace q173 := eq_true q173
     go_wp2
     go_roundg k1
     case measure => have := HK1.out; omega
     case rel => exact ⟨(wrap64 (x5_1 + 1)), (by first | rfl | (simp; done) | (simp [*]; done)), H', ⟨by have := HK1.out; omega⟩, ⟨Zk⟩, ⟨Zs⟩⟩
    rw [if_neg c5] at H
    exact absurd H (by simp)
   rw [if_neg c4] at H
   have c4b0 : decide (x5_1 < (l0_0.length : Int)) = false := decide_eq_false c4
   clear c4
   obtain rfl := Option.some.inj H
   have hcz9_0 : wr.cell? ⟨gb172, 0, none⟩ = some (.slice A0_0 l0_0.length c0_0) := (blk_cell BK172.out 0).trans rfl
   have hfz9_0 := Zn BK172.out 0
   go_wp2
   go_ret
   exact ⟨ZE, Zs⟩
def spec_l01In.f (a0 : Int) (a1 : Int) (a2 : Int) : Option (Bool) := if a1 ≤ a0 then (some (decide (a0 ≤ a2))) else (some false)
set_option maxHeartbeats 8000000 in
set_option maxRecDepth 100000 in
theorem spec_l01In.calls (a0 : Int) (a1 : Int) (a2 : Int) (r : Bool) (w : World) (h : spec_l01In.f a0 a1 a2 = some r) :
  Calls Tryd.prog 72 #[.int .i64 a0, .int .i64 a1, .int .i64 a2] w fun e w' => e = .returned (.bool r) ∧ Drawn0 w w' := by
 have H : (if a1 ≤ a0 then (some (decide (a0 ≤ a2))) else (some false)) = some r := h
 clear h
 by_cases c4 : a1 ≤ a0
 ·
  rw [if_pos c4] at H
  have c4b0 : decide (a1 ≤ a0) = true := decide_eq_true c4
  clear c4
  obtain rfl := Option.some.inj H
  go_enter Tryd.func72, Tryd.ntmps72
  go_wp2
  go_ret
  exact ⟨by first | rfl | (simp; done) | (simp [*]; done), by repeat (first | exact Drawn0.refl _ | apply Drawn0.step)⟩
 rw [if_neg c4] at H
 have c4b0 : decide (a1 ≤ a0) = false := decide_eq_false c4
 clear c4
 obtain rfl := Option.some.inj H
 go_enter Tryd.func72, Tryd.ntmps72
 go_wp2
 go_ret
 exact ⟨by first | rfl | (simp; done) | (simp [*]; done), by repeat (first | exact Drawn0.refl _ | apply Drawn0.step)⟩
def spec_l01Name.l0 : Nat → ByteArray → Int → Option (Bool)
 | 0, _, _ => none
 | k + 1, x0, x3 => if x3 < (x0.size : Int) then (if 0 ≤ x3 then (if (bt x0 x3) ≥ 97 then (if ((bt x0 x3) ≤ 122) then (spec_l01Name.l0 k x0 (wrap64 (x3 + 1))) else (if (bt x0 x3) ≥ 48 then (if ((bt x0 x3) ≤ 57) then (spec_l01Name.l0 k x0 (wrap64 (x3 + 1))) else (some false)) else (some false))) else (if (bt x0 x3) ≥ 48 then (if ((bt x0 x3) ≤ 57) then (spec_l01Name.l0 k x0 (wrap64 (x3 + 1))) else (some false)) else (some false))) else (none)) else ((spec_l01In.f (x0.size : Int) 1 12).bind fun t108 => (some t108))
def spec_l01Name.f (k : Nat) (a0 : ByteArray) : Option (Bool) := spec_l01Name.l0 k a0 0
set_option maxHeartbeats 8000000 in
set_option maxRecDepth 100000 in
theorem spec_l01Name.calls (k : Nat) (a0 : ByteArray) (r : Bool) (w : World) (h : spec_l01Name.f k a0 = some r) :
  Calls Tryd.prog 57 #[.string a0] w fun e w' => e = .returned (.bool r) ∧ Drawn0 w w' := by
 have H : (spec_l01Name.l0 k a0 0) = some r := h
 clear h
 have H' := Zh H
 clear H
 go_enter Tryd.func57, Tryd.ntmps57
 go_wp2
 go_loopg [3] k (fun kq v3 w' => ∃ (x3_1 : Int), v3 = .int .i64 x3_1 ∧ Aside0 (spec_l01Name.l0 kq a0 x3_1 = some r) ∧ Aside0 (kq ≤ k) ∧ Drawn0 w w')
 case atStart => exact ⟨(0), (by first | rfl | (simp; done) | (simp [*]; done)), H', ⟨Nat.le_refl _⟩, by repeat (first | exact Drawn0.refl _ | apply Drawn0.step)⟩
 case round =>
  clear H'
  obtain ⟨x3_1, rfl, HA, HK1, ⟨m1, rfl⟩⟩ := hrel
  cases gk with
  | zero => exact absurd HA.out (by simp [spec_l01Name.l0])
  | succ k1 =>
   have H := HA.out
   clear HA
   simp only [spec_l01Name.l0] at H
   by_cases c2 : x3_1 < (a0.size : Int)
   ·
    rw [if_pos c2] at H
    have c2b0 : decide (x3_1 < (a0.size : Int)) = true := decide_eq_true c2
    clear c2
    by_cases c3 : 0 ≤ x3_1
    ·
     rw [if_pos c3] at H
     have c3b0 : decide (0 ≤ x3_1) = true := decide_eq_true c3
     clear c3
     by_cases c5 : (bt a0 x3_1) ≥ 97
     ·
      rw [if_pos c5] at H
      have c5b0 : decide (97 ≤ (bt a0 x3_1)) = true := decide_eq_true c5
      clear c5
      by_cases c6 : ((bt a0 x3_1) ≤ 122)
      ·
       rw [if_pos c6] at H
       have c6b0 : decide ((bt a0 x3_1) ≤ 122) = true := decide_eq_true c6
       clear c6
       have H' := Zh H
       clear H
       have p4 : 0 ≤ (x3_1 : Int) := Zo
       have q4 : x3_1 < (a0.size : Int) := Zo
       have hx4 := bt_at a0 x3_1
       replace p4 := eq_true p4
       replace q4 := eq_true q4
       go_wp2
       go_roundg k1
       case measure => have := HK1.out; omega
       case rel => exact ⟨(wrap64 (x3_1 + 1)), (by first | rfl | (simp; done) | (simp [*]; done)), H', ⟨by have := HK1.out; omega⟩, by repeat (first | exact Drawn0.refl _ | apply Drawn0.step)⟩
      rw [if_neg c6] at H
      have c6b0 : decide ((bt a0 x3_1) ≤ 122) = false := decide_eq_false c6
      clear c6
      by_cases c7 : (bt a0 x3_1) ≥ 48
      ·
       rw [if_pos c7] at H
       have c7b0 : decide (48 ≤ (bt a0 x3_1)) = true := decide_eq_true c7
       clear c7
       by_cases c8 : ((bt a0 x3_1) ≤ 57)
       ·
        rw [if_pos c8] at H
        have c8b0 : decide ((bt a0 x3_1) ≤ 57) = true := decide_eq_true c8
        clear c8
        have H' := Zh H
        clear H
        have p4 : 0 ≤ (x3_1 : Int) := Zo
        have q4 : x3_1 < (a0.size : Int) := Zo
        have hx4 := bt_at a0 x3_1
        replace p4 := eq_true p4
        replace q4 := eq_true q4
        go_wp2
        go_roundg k1
        case measure => have := HK1.out; omega
        case rel => exact ⟨(wrap64 (x3_1 + 1)), (by first | rfl | (simp; done) | (simp [*]; done)), H', ⟨by have := HK1.out; omega⟩, by repeat (first | exact Drawn0.refl _ | apply Drawn0.step)⟩
       rw [if_neg c8] at H
       have c8b0 : decide ((bt a0 x3_1) ≤ 57) = false := decide_eq_false c8
       clear c8
       obtain rfl := Option.some.inj H
       have p4 : 0 ≤ (x3_1 : Int) := Zo
       have q4 : x3_1 < (a0.size : Int) := Zo
       have hx4 := bt_at a0 x3_1
       replace p4 := eq_true p4
       replace q4 := eq_true q4
       go_wp2
       go_ret
       exact ⟨by first | rfl | (simp; done) | (simp [*]; done), by repeat (first | exact Drawn0.refl _ | apply Drawn0.step)⟩
      rw [if_neg c7] at H
      have c7b0 : decide (48 ≤ (bt a0 x3_1)) = false := decide_eq_false c7
      clear c7
      obtain rfl := Option.some.inj H
      have p4 : 0 ≤ (x3_1 : Int) := Zo
      have q4 : x3_1 < (a0.size : Int) := Zo
      have hx4 := bt_at a0 x3_1
      replace p4 := eq_true p4
      replace q4 := eq_true q4
      go_wp2
      go_ret
      exact ⟨by first | rfl | (simp; done) | (simp [*]; done), by repeat (first | exact Drawn0.refl _ | apply Drawn0.step)⟩
     rw [if_neg c5] at H
     have c5b0 : decide (97 ≤ (bt a0 x3_1)) = false := decide_eq_false c5
     clear c5
     by_cases c9 : (bt a0 x3_1) ≥ 48
     ·
      rw [if_pos c9] at H
      have c9b0 : decide (48 ≤ (bt a0 x3_1)) = true := decide_eq_true c9
      clear c9
      by_cases c10 : ((bt a0 x3_1) ≤ 57)
      ·
       rw [if_pos c10] at H
       have c10b0 : decide ((bt a0 x3_1) ≤ 57) = true := decide_eq_true c10
       clear c10
       have H' := Zh H
       clear H
       have p4 : 0 ≤ (x3_1 : Int) := Zo
       have q4 : x3_1 < (a0.size : Int) := Zo
       have hx4 := bt_at a0 x3_1
       replace p4 := eq_true p4
       replace q4 := eq_true q4
       go_wp2
       go_roundg k1
       case measure => have := HK1.out; omega
       case rel => exact ⟨(wrap64 (x3_1 + 1)), (by first | rfl | (simp; done) | (simp [*]; done)), H', ⟨by have := HK1.out; omega⟩, by repeat (first | exact Drawn0.refl _ | apply Drawn0.step)⟩
      rw [if_neg c10] at H
      have c10b0 : decide ((bt a0 x3_1) ≤ 57) = false := decide_eq_false c10
      clear c10
      obtain rfl := Option.some.inj H
      have p4 : 0 ≤ (x3_1 : Int) := Zo
      have q4 : x3_1 < (a0.size : Int) := Zo
      have hx4 := bt_at a0 x3_1
      replace p4 := eq_true p4
      replace q4 := eq_true q4
      go_wp2
      go_ret
      exact ⟨by first | rfl | (simp; done) | (simp [*]; done), by repeat (first | exact Drawn0.refl _ | apply Drawn0.step)⟩
     rw [if_neg c9] at H
     have c9b0 : decide (48 ≤ (bt a0 x3_1)) = false := decide_eq_false c9
     clear c9
     obtain rfl := Option.some.inj H
     have p4 : 0 ≤ (x3_1 : Int) := Zo
     have q4 : x3_1 < (a0.size : Int) := Zo
     have hx4 := bt_at a0 x3_1
     replace p4 := eq_true p4
     replace q4 := eq_true q4
     go_wp2
     go_ret
     exact ⟨by first | rfl | (simp; done) | (simp [*]; done), by repeat (first | exact Drawn0.refl _ | apply Drawn0.step)⟩
    rw [if_neg c3] at H
    exact absurd H (by simp)
   rw [if_neg c2] at H
   have c2b0 : decide (x3_1 < (a0.size : Int)) = false := decide_eq_false c2
   clear c2
   replace H := Option.bind_eq_some_iff.mp H
   obtain ⟨t108, A110, H⟩ := H
   replace H : (some t108) = some r := H
   have A11 := Zh A110
   clear A110
   obtain rfl := Option.some.inj H
   go_wp2_with (first | ((with_reducible refine gate_callee (f := 72) rfl ?_); refine ZG (some 32) Tryd.func72 #[.int .i64 (a0.size : Int), .int .i64 1, .int .i64 12] rfl ?_; (with_reducible refine (spec_l01In.calls (a0.size : Int) 1 12 t108 _ A11.out).mono ?_); rintro e w' ⟨rfl, ⟨nd, rfl⟩⟩; refine ⟨_, rfl, ?_⟩))
   go_ret
   exact ⟨by first | rfl | (simp; done) | (simp [*]; done), by repeat (first | exact Drawn0.refl _ | apply Drawn0.step)⟩
end Go.Proofs.YtmgeffgcihfpcaaDoor.F

namespace Go.Proofs.YtmgeffgcihfpcaaDoor.F
open Go.RowKit Go.Proofs.YtmgeffgcihfpcaaDoorW.PrintWords Go.Proofs.YtmgeffgcihfpcaaDoorW.PrintLast Go.Proofs.YtmgeffgcihfpcaaDoorW.PrintMore
open Go.Proofs.YtmgeffgcihfpcaaDoor
set_option linter.unusedVariables false
set_option linter.unusedSimpArgs false
def spec_DiskOk.l0 : Nat → Int → List (S74) → Option (Bool)
  | 0, _, _ => none
  | k + 1, x3, x => if x3 < (x.length : Int) then (if 0 ≤ x3 then ((spec_l01Name.f k ((rd_T74 x x3).f0)).bind fun t112 => (if t112 = true then (if (((rd_T74 x x3).f1).length : Int) > 20000 then (some false) else (if (((rd_T74 x x3).f2).length : Int) > (wrap64 (20000 - (((rd_T74 x x3).f1).length : Int))) then (some false) else (if x3 > 0 then (if 0 ≤ (wrap64 (x3 - 1)) then (if (wrap64 (x3 - 1)) < (x.length : Int) then (if ((Op.bytesLess (((rd_T74 x (wrap64 (x3 - 1))).f0).toList) (((rd_T74 x x3).f0).toList)) = true) then (spec_DiskOk.l0 k (wrap64 (x3 + 1)) x) else (some false)) else (none)) else (none)) else (spec_DiskOk.l0 k (wrap64 (x3 + 1)) x)))) else (some false))) else (none)) else (some true)
def spec_DiskOk.f (k : Nat) (l0_0 : List (S74)) : Option (Bool) := if (l0_0.length : Int) > 8 then (some false) else (spec_DiskOk.l0 k 0 l0_0)
set_option maxHeartbeats 8000000 in
set_option maxRecDepth 100000 in
theorem spec_DiskOk.calls (k : Nat) (A0_0 : Option Addr) (c0_0 : Nat) (l0_0 : List (S74)) (r : Bool) (w : World) (hr0_0 : Kd.C k74 w A0_0 l0_0.length l0_0) (hc0_0 : l0_0.length ≤ c0_0) (h : spec_DiskOk.f k l0_0 = some r) :
    Calls Tryd.prog 15 #[.agg #[.slice A0_0 l0_0.length c0_0]] w fun e w' => e = .returned (.bool r) ∧ Below w.heap.size w w' := by
  have HR := Zh hr0_0
  clear hr0_0 hc0_0
  have ST := Zh (LW.St.start w)
  have hu29 := Tryd.underlying29
  have hu74 := Tryd.underlying74
  unfold spec_DiskOk.f at h
  by_cases c1 : (l0_0.length : Int) > 8
  · rw [if_pos c1] at h
    obtain rfl := Option.some.inj h
    have q1 : decide (8 < (l0_0.length : Int)) = true := decide_eq_true c1
    have q2 : decide (8 < l0_0.length) = true := decide_eq_true (by omega)
    clear h c1
    go_enter Tryd.func15, Tryd.ntmps15
    go_wp2
    go_ret
    exact ⟨rfl, (ST.out.alloc _ _ rfl).b⟩
  rw [if_neg c1] at h
  have q1 : decide (8 < (l0_0.length : Int)) = false := decide_eq_false c1
  have q2 : decide (8 < l0_0.length) = false := decide_eq_false (by omega)
  have H := Zh h
  clear h c1
  go_enter Tryd.func15, Tryd.ntmps15
  go_wp2_with fail
  replace ST := Zh (ST.out.alloc #[.slice A0_0 l0_0.length c0_0] 29 (g := w.heap.size) rfl)
  generalize hW : (w.alloc (.cells #[.slice A0_0 l0_0.length c0_0] 29)) = W at ST ⊢
  clear hW q1 q2
  go_loopg [3] k (fun kq v3 w' => ∃ (x3 : Int), v3 = .int .i64 x3 ∧ Aside0 (spec_DiskOk.l0 kq x3 l0_0 = some r) ∧ Aside0 (LW.St w w' [LW.box w.heap.size #[.slice A0_0 l0_0.length c0_0] 29]))
  case atStart => exact ⟨0, rfl, H, ST⟩
  case round =>
    clear H ST
    obtain ⟨x3, rfl, HA, ST⟩ := hrel
    cases gk with
    | zero => exact absurd HA.out (by simp [spec_DiskOk.l0])
    | succ k1 =>
      have H := HA.out
      clear HA
      simp only [spec_DiskOk.l0] at H
      have hc0 := ST.out.cell 0 rfl 0 (u := .slice A0_0 l0_0.length c0_0) rfl
      have hl0 := ST.out.lt 0 rfl
      by_cases c8 : x3 < (l0_0.length : Int)
      · rw [if_pos c8] at H
        have q8 := decide_eq_true c8
        by_cases p0 : 0 ≤ x3
        · rw [if_pos p0] at H
          obtain ⟨t, A7, H⟩ := Option.bind_eq_some_iff.mp H
          obtain ⟨ad, B1, d1, B2, d2, e, E0, E1, E2, _, _, _, _⟩ := at_T74 HR.out x3 p0 c8
          cases e
          have hx0 := (ST.out.b.cell (Zi w _ E0)).trans E0
          have hx1 := (ST.out.b.cell (Zi w _ E1)).trans E1
          have hx2 := (ST.out.b.cell (Zi w _ E2)).trans E2
          have hcall : ∀ w' : World, Calls Tryd.prog 57 #[.string (rd_T74 l0_0 x3).f0] w' fun e w'' => e = .returned (.bool t) ∧ ∃ m, w'' = w'.drewN m := fun w' => (spec_l01Name.calls k1 (rd_T74 l0_0 x3).f0 t w' A7).mono (fun _ _ h => ⟨h.1, h.2.out⟩)
          have p1 := eq_true p0
          have p2 := eq_true c8
          clear E0 E1 E2 p0 c8 A7
          go_wp2_with fail
          replace ST := Zh (ST.out.alloc #[.string (rd_T74 l0_0 x3).f0, .slice B1 (rd_T74 l0_0 x3).f1.length d1, .slice B2 (rd_T74 l0_0 x3).f2.length d2] 74 (g := wr.heap.size) rfl)
          generalize (wr.alloc (.cells #[.string (rd_T74 l0_0 x3).f0, .slice B1 (rd_T74 l0_0 x3).f1.length d1, .slice B2 (rd_T74 l0_0 x3).f2.length d2] 74)) = w4 at ST ⊢
          clear hx0 hx1 hx2 hc0 hl0
          have hc0 := ST.out.cell 1 rfl 0 (u := .slice (some ad) l0_0.length c0_0) rfl
          have hc1 := ST.out.cell 0 rfl 0 (u := .string (rd_T74 l0_0 x3).f0) rfl
          have hc2 := ST.out.cell 0 rfl 1 (u := .slice B1 (rd_T74 l0_0 x3).f1.length d1) rfl
          have hc3 := ST.out.cell 0 rfl 2 (u := .slice B2 (rd_T74 l0_0 x3).f2.length d2) rfl
          cases t with
          | false =>
            rw [if_neg (by decide)] at H
            obtain rfl := Option.some.inj H
            clear H
            go_quiet (first | (go_at_call 57; exact Calls.quiet_of (hcall _)))
            go_wp2
            go_ret
            exact ⟨rfl, (ST.out.drewN _).b⟩
          | true =>
            rw [if_pos rfl] at H
            by_cases c9 : (((rd_T74 l0_0 x3).f1).length : Int) > 20000
            · rw [if_pos c9] at H
              obtain rfl := Option.some.inj H
              have q9 : decide (20000 < ((rd_T74 l0_0 x3).f1.length : Int)) = true := decide_eq_true c9
              have q9n : decide (20000 < (rd_T74 l0_0 x3).f1.length) = true := decide_eq_true (by omega)
              clear H c9
              go_quiet (first | (go_at_call 57; exact Calls.quiet_of (hcall _)))
              go_wp2
              go_ret
              exact ⟨rfl, (ST.out.drewN _).b⟩
            rw [if_neg c9] at H
            have q9 : decide (20000 < ((rd_T74 l0_0 x3).f1.length : Int)) = false := decide_eq_false c9
            have q9n : decide (20000 < (rd_T74 l0_0 x3).f1.length) = false := decide_eq_false (by omega)
            clear c9
            by_cases c10 : (((rd_T74 l0_0 x3).f2).length : Int) > (wrap64 (20000 - (((rd_T74 l0_0 x3).f1).length : Int)))
            · rw [if_pos c10] at H
              obtain rfl := Option.some.inj H
              have q10 : decide (wrap64 (20000 - ((rd_T74 l0_0 x3).f1.length : Int)) < ((rd_T74 l0_0 x3).f2.length : Int)) = true := decide_eq_true c10
              clear H c10
              go_quiet (first | (go_at_call 57; exact Calls.quiet_of (hcall _)))
              go_wp2
              go_ret
              exact ⟨rfl, (ST.out.drewN _).b⟩
            rw [if_neg c10] at H
            have q10 : decide (wrap64 (20000 - ((rd_T74 l0_0 x3).f1.length : Int)) < ((rd_T74 l0_0 x3).f2.length : Int)) = false := decide_eq_false c10
            clear c10
            by_cases c11 : x3 > 0
            · rw [if_pos c11] at H
              have q11 : decide (0 < x3) = true := decide_eq_true c11
              clear c11
              by_cases c12 : 0 ≤ wrap64 (x3 - 1)
              · rw [if_pos c12] at H
                by_cases c13 : wrap64 (x3 - 1) < (l0_0.length : Int)
                · rw [if_pos c13] at H
                  obtain ⟨ad2, B3, d3, B4, d4, e, E0, _, _, _, _, _, _⟩ := at_T74 HR.out (wrap64 (x3 - 1)) c12 c13
                  cases e
                  have hx0 := (ST.out.b.cell (Zi w _ E0)).trans E0
                  have p3 := eq_true c12
                  have p4 := eq_true c13
                  clear E0 c12 c13
                  go_quiet (first | (go_at_call 57; exact Calls.quiet_of (hcall _)))
                  cases hl : Op.bytesLess (rd_T74 l0_0 (wrap64 (x3 - 1))).f0.toList (rd_T74 l0_0 x3).f0.toList with
                  | true =>
                    rw [if_pos hl] at H
                    have H' := Zh H
                    clear H
                    go_wp2
                    go_roundg k1
                    case measure => omega
                    case rel => exact ⟨_, rfl, H', ⟨(ST.out.drewN _).tail⟩⟩
                  | false =>
                    rw [if_neg (by rw [hl]; decide)] at H
                    obtain rfl := Option.some.inj H
                    clear H
                    go_wp2
                    go_ret
                    exact ⟨rfl, (ST.out.drewN _).b⟩
                rw [if_neg c13] at H; exact absurd H (by simp)
              rw [if_neg c12] at H; exact absurd H (by simp)
            rw [if_neg c11] at H
            have q11 : decide (0 < x3) = false := decide_eq_false c11
            have H' := Zh H
            clear H c11
            go_quiet (first | (go_at_call 57; exact Calls.quiet_of (hcall _)))
            go_wp2
            go_roundg k1
            case measure => omega
            case rel => exact ⟨_, rfl, H', ⟨(ST.out.drewN _).tail⟩⟩
        rw [if_neg p0] at H; exact absurd H (by simp)
      rw [if_neg c8] at H
      have q8 := decide_eq_false c8
      obtain rfl := Option.some.inj H
      clear H c8
      go_wp2
      go_ret
      exact ⟨rfl, ST.out.b⟩
end Go.Proofs.YtmgeffgcihfpcaaDoor.F

namespace Go.Proofs.YtmgeffgcihfpcaaDoor.F
open Go.RowKit Go.Proofs.YtmgeffgcihfpcaaDoorW.PrintWords Go.Proofs.YtmgeffgcihfpcaaDoorW.PrintWords.Kd Go.Proofs.YtmgeffgcihfpcaaDoorW.PrintMore.Kd Go.Proofs.YtmgeffgcihfpcaaDoorW.PrintLast Go.Proofs.YtmgeffgcihfpcaaDoorW.PrintMore
attribute [local go_sem] max2_int min2_int max_two min_two max_three min_three max_four min_four   -- for this text's walks alone
set_option linter.unusedVariables false
set_option linter.unusedSimpArgs false
def spec_l01Bytes.l0 : Nat → List Int → List Int → Int → Option (List Int)
 | 0, _, _, _ => none
 | k + 1, x0, x3, x4 => if x4 < (x0.length : Int) then (if 0 ≤ x4 then (if x3.length < 140737488355328 then (spec_l01Bytes.l0 k x0 (x3 ++ [rd x0 x4]) (wrap64 (x4 + 1))) else (none)) else (none)) else (some x3)
def spec_l01Bytes.f (k : Nat) (l0 : List Int) : Option (List Int) := spec_l01Bytes.l0 k l0 (([] : List Int)) 0
set_option maxHeartbeats 8000000 in
set_option maxRecDepth 100000 in
theorem spec_l01Bytes.calls (k : Nat) (A0 : Option Addr) (c0 : Nat) (l0 : List Int) (r : List Int) (w : World) (hr0 : Kd.C (Kd.int .u8) w A0 l0.length l0) (hc0 : l0.length ≤ c0) (h : spec_l01Bytes.f k l0 = some r) :
  Calls Tryd.prog 93 #[.slice A0 l0.length c0] w fun e w' => ∃ v0_ : Value, e = .returned (v0_) ∧ Kd.R (Kd.int .u8) 5 w' w.heap.size (fun _ => True) v0_ r ∧ Below w.heap.size w w' := by
 have HR0 := Zh hr0
 have HC0 := Zh hc0
 clear hr0 hc0
 have HB := Zh (Below.refl w.heap.size w)
 have H : (spec_l01Bytes.l0 k l0 (([] : List Int)) 0) = some r := h
 clear h
 obtain ⟨y174, hy174⟩ : ∃ y_ : List Int, y_ = (([] : List Int)) := ⟨_, rfl⟩
 replace H : (spec_l01Bytes.l0 k l0 y174 0) = some r := by first | (rw [hy174]; with_reducible exact H) | (have H2_ := (Option.bind_some _ _).symm.trans H; rw [hy174]; with_reducible exact H2_) | (have H2_ := (Option.bind_some _ _).symm.trans H; with_reducible exact H2_) | with_reducible exact H | (rw [hy174]; exact H) | exact H
 have Ny174 := Zh hy174
 clear hy174
 have H' := Zh H
 clear H
 go_enter Tryd.func93, Tryd.ntmps93
 go_wp2_with (first | ((with_reducible refine gate_dst (N := 5) rfl ?_); refine R_lit (Kd.int .u8) _ 5 ?hg (N := 5) ?hd (xs := ([] : List Int)) (inner := []) (ok := fun _ => True) (okp := fun _ => True) ?hr ?hp (fun _ hk => hk) trivial (Below.refl _ _) (Nat.le_refl _) (by simp) ?_; (case hd => rfl); (case hg => rfl); (case hr => first | (go_simp; done) | (go_simp; rfl)); (case hp => exact (Reps.none _ _)); intro v175 w2 ho3 hb hg_ hnew_; clear hg_ hnew_; (first | rw [← Ny174.out] at ho3 | (simp only [Int.reduceToNat] at ho3; rw [← Ny174.out] at ho3)); have HO176 := Zh (R_lower ho3 (below_size Zs)); replace HB := Zh (Zl Zs hb); clear hb ho3))
 go_loopg [3, 4] k (fun kq v3 v4 w' => ∃ (x3_1 : List Int) (x4_1 : Int), v4 = .int .i64 x4_1 ∧ Aside0 (spec_l01Bytes.l0 kq l0 x3_1 x4_1 = some r) ∧ Aside0 (kq ≤ k) ∧ Aside0 (Kd.R (Kd.int .u8) 5 w' w.heap.size (fun _ => True) v3 x3_1) ∧ Aside0 (Below w.heap.size w w'))
 case atStart => exact ⟨(y174), (0), (by first | rfl | (simp; done) | (simp [*]; done)), H', ⟨Nat.le_refl _⟩, ⟨ZR HO176.out⟩, ⟨Zs⟩⟩
 case round =>
  clear H'
  try clear p2
  obtain ⟨x3_1, x4_1, rfl, HA, HK1, HO_3, HB⟩ := hrel
  cases gk with
  | zero => exact absurd HA.out (by simp [spec_l01Bytes.l0])
  | succ k1 =>
   have H := HA.out
   clear HA
   simp only [spec_l01Bytes.l0] at H
   by_cases c4 : x4_1 < (l0.length : Int)
   ·
    rw [if_pos c4] at H
    have c4b0 : decide (x4_1 < (l0.length : Int)) = true := decide_eq_true c4
    clear c4
    by_cases c5 : 0 ≤ x4_1
    ·
     rw [if_pos c5] at H
     have c5b0 : decide (0 ≤ x4_1) = true := decide_eq_true c5
     clear c5
     by_cases c6 : x3_1.length < 140737488355328
     ·
      rw [if_pos c6] at H
      have LMc6 := Zh c6
      clear c6
      obtain ⟨y178, hy178⟩ : ∃ y_ : List Int, y_ = (x3_1 ++ [rd l0 x4_1]) := ⟨_, rfl⟩
      replace H : (spec_l01Bytes.l0 k1 l0 y178 (wrap64 (x4_1 + 1))) = some r := by first | (rw [hy178]; with_reducible exact H) | (have H2_ := (Option.bind_some _ _).symm.trans H; rw [hy178]; with_reducible exact H2_) | (have H2_ := (Option.bind_some _ _).symm.trans H; with_reducible exact H2_) | with_reducible exact H | (rw [hy178]; exact H) | exact H
      have Ny178 := Zh hy178
      clear hy178
      have H' := Zh H
      clear H
      have p177 : 0 ≤ (x4_1 : Int) := Zo
      have q177 : x4_1 < (l0.length : Int) := Zo
      obtain ⟨ad177, e177, hx177_0⟩ := Kd.at_int HR0.out x4_1 p177 q177
      cases e177
      replace hx177_0 := Zc HB.out hx177_0
      replace p177 := eq_true p177
      replace q177 := eq_true q177
      go_wp2_with (first | ((with_reducible refine gate_builtin (b := .append) (xs := #[.tmp 12, .tmp 17]) rfl ?_); at_builtin; refine R_append (Kd.int .u8) (w0 := w) w.heap.size rfl (.tmp 12) (.tmp 17) 33 5 (.int .u8 0) 1 rfl Tryd.underlying33 info5 rfl (by decide) (by omega) u3 x3_1 (rd l0 x4_1) [.int .u8 (rd l0 x4_1)] (fun _ => True) (fun _ => False) rfl rfl ?aP (fun _ hk => hk.elim) ?aF ?aO ?aB ?aS ?aL ?_; (case aP => exact rfl); (case aB => exact Zs); (case aF => exact (fun _ _ => trivial)); (case aO => exact (ZR HO_3.out)); (case aS => exact (below_size Zs)); (case aL => have := LMc6.out; omega); intro v179 w7 ho hb hg hat; rw [← Ny178.out] at ho; have n0_ := Zh (hb); have n1_ := Zh (ho); clear HB; clear HO_3; have HB := n0_; have HO180 := n1_; clear n0_ n1_; clear ho hb hg hat))
      go_roundg k1
      case measure => have := HK1.out; omega
      case rel => exact ⟨(y178), (wrap64 (x4_1 + 1)), (by first | rfl | (simp; done) | (simp [*]; done)), H', ⟨by have := HK1.out; omega⟩, ⟨ZR HO180.out⟩, ⟨Zs⟩⟩
     rw [if_neg c6] at H
     exact absurd H (by simp)
    rw [if_neg c5] at H
    exact absurd H (by simp)
   rw [if_neg c4] at H
   have c4b0 : decide (x4_1 < (l0.length : Int)) = false := decide_eq_false c4
   clear c4
   obtain rfl := Option.some.inj H
   go_wp2
   go_ret
   exact ⟨_, ZE, ZR HO_3.out, Zs⟩
def spec_l01Join.l0 : Nat → List Int → List Int → Int → Option (List Int)
 | 0, _, _, _ => none
 | k + 1, x1, x5, x6 => if x6 < (x1.length : Int) then (if 0 ≤ x6 then (if x5.length < 140737488355328 then (spec_l01Join.l0 k x1 (x5 ++ [rd x1 x6]) (wrap64 (x6 + 1))) else (none)) else (none)) else (some x5)
def spec_l01Join.f (k : Nat) (l0 : List Int) (l1 : List Int) : Option (List Int) := (spec_l01Bytes.f k l0).bind fun t181 => (spec_l01Join.l0 k l1 t181 0)
set_option maxHeartbeats 8000000 in
set_option maxRecDepth 100000 in
theorem spec_l01Join.calls (k : Nat) (A0 : Option Addr) (c0 : Nat) (l0 : List Int) (A1 : Option Addr) (c1 : Nat) (l1 : List Int) (r : List Int) (w : World) (hr0 : Kd.C (Kd.int .u8) w A0 l0.length l0) (hc0 : l0.length ≤ c0) (hr1 : Kd.C (Kd.int .u8) w A1 l1.length l1) (hc1 : l1.length ≤ c1) (h : spec_l01Join.f k l0 l1 = some r) :
  Calls Tryd.prog 62 #[.slice A0 l0.length c0, .slice A1 l1.length c1] w fun e w' => ∃ v0_ : Value, e = .returned (v0_) ∧ Kd.R (Kd.int .u8) 5 w' w.heap.size (fun _ => True) v0_ r ∧ Below w.heap.size w w' := by
 have HR0 := Zh hr0
 have HC0 := Zh hc0
 clear hr0 hc0
 have HR1 := Zh hr1
 have HC1 := Zh hc1
 clear hr1 hc1
 have HB := Zh (Below.refl w.heap.size w)
 have H : ((spec_l01Bytes.f k l0).bind fun t181 => (spec_l01Join.l0 k l1 t181 0)) = some r := h
 clear h
 replace H := Option.bind_eq_some_iff.mp H
 obtain ⟨t181, A30, H⟩ := H
 replace H : (spec_l01Join.l0 k l1 t181 0) = some r := H
 have A3 := Zh A30
 clear A30
 have H' := Zh H
 clear H
 go_enter Tryd.func62, Tryd.ntmps62
 go_wp2_with (first | ((with_reducible refine gate_callee (f := 93) rfl ?_); refine ZG (some 8) Tryd.func93 #[.slice A0 l0.length c0] rfl ?_; (with_reducible refine (spec_l01Bytes.calls k _ _ l0 t181 _ ?side1 ?side2 A3.out).mono ?_); (case side1 => repeat (first | exact HR0.out | (with_reducible refine C_alloc ?_ _) | (with_reducible refine C_drewN ?_ _) | (with_reducible refine C_drew ?_))); (case side2 => exact HC0.out); rintro e w4 ⟨v182, rfl, ho0, hb⟩; refine ⟨_, rfl, ?_⟩; have HO183 := Zh (R_lower ho0 (below_size Zs)); replace HB := Zh (Zl Zs hb); (try clear hb); (try clear hb2); (try clear hk); (try clear hi); (try clear ho0)))
 go_loopg [5, 6] k (fun kq v5 v6 w' => ∃ (x5_1 : List Int) (x6_1 : Int), v6 = .int .i64 x6_1 ∧ Aside0 (spec_l01Join.l0 kq l1 x5_1 x6_1 = some r) ∧ Aside0 (kq ≤ k) ∧ Aside0 (Kd.R (Kd.int .u8) 5 w' w.heap.size (fun _ => True) v5 x5_1) ∧ Aside0 (Below w.heap.size w w'))
 case atStart => exact ⟨(t181), (0), (by first | rfl | (simp; done) | (simp [*]; done)), H', ⟨Nat.le_refl _⟩, ⟨ZR HO183.out⟩, ⟨Zs⟩⟩
 case round =>
  clear H'
  try clear c1
  try clear p2
  obtain ⟨x5_1, x6_1, rfl, HA, HK1, HO_5, HB⟩ := hrel
  cases gk with
  | zero => exact absurd HA.out (by simp [spec_l01Join.l0])
  | succ k1 =>
   have H := HA.out
   clear HA
   simp only [spec_l01Join.l0] at H
   by_cases c5 : x6_1 < (l1.length : Int)
   ·
    rw [if_pos c5] at H
    have c5b0 : decide (x6_1 < (l1.length : Int)) = true := decide_eq_true c5
    clear c5
    by_cases c6 : 0 ≤ x6_1
    ·
     rw [if_pos c6] at H
     have c6b0 : decide (0 ≤ x6_1) = true := decide_eq_true c6
     clear c6
     by_cases c7 : x5_1.length < 140737488355328
     ·
      rw [if_pos c7] at H
      have LMc7 := Zh c7
      clear c7
      obtain ⟨y185, hy185⟩ : ∃ y_ : List Int, y_ = (x5_1 ++ [rd l1 x6_1]) := ⟨_, rfl⟩
      replace H : (spec_l01Join.l0 k1 l1 y185 (wrap64 (x6_1 + 1))) = some r := by first | (rw [hy185]; with_reducible exact H) | (have H2_ := (Option.bind_some _ _).symm.trans H; rw [hy185]; with_reducible exact H2_) | (have H2_ := (Option.bind_some _ _).symm.trans H; with_reducible exact H2_) | with_reducible exact H | (rw [hy185]; exact H) | exact H
      have Ny185 := Zh hy185
      clear hy185
      have H' := Zh H
      clear H
      have p184 : 0 ≤ (x6_1 : Int) := Zo
      have q184 : x6_1 < (l1.length : Int) := Zo
      obtain ⟨ad184, e184, hx184_0⟩ := Kd.at_int HR1.out x6_1 p184 q184
      cases e184
      replace hx184_0 := Zc HB.out hx184_0
      replace p184 := eq_true p184
      replace q184 := eq_true q184
      go_wp2_with (first | ((with_reducible refine gate_builtin (b := .append) (xs := #[.tmp 15, .tmp 20]) rfl ?_); at_builtin; refine R_append (Kd.int .u8) (w0 := w) w.heap.size rfl (.tmp 15) (.tmp 20) 33 5 (.int .u8 0) 1 rfl Tryd.underlying33 info5 rfl (by decide) (by omega) u5 x5_1 (rd l1 x6_1) [.int .u8 (rd l1 x6_1)] (fun _ => True) (fun _ => False) rfl rfl ?aP (fun _ hk => hk.elim) ?aF ?aO ?aB ?aS ?aL ?_; (case aP => exact rfl); (case aB => exact Zs); (case aF => exact (fun _ _ => trivial)); (case aO => exact (ZR HO_5.out)); (case aS => exact (below_size Zs)); (case aL => have := LMc7.out; omega); intro v186 w8 ho hb hg hat; rw [← Ny185.out] at ho; have n0_ := Zh (hb); have n1_ := Zh (ho); clear HB; clear HO_5; have HB := n0_; have HO187 := n1_; clear n0_ n1_; clear ho hb hg hat))
      go_roundg k1
      case measure => have := HK1.out; omega
      case rel => exact ⟨(y185), (wrap64 (x6_1 + 1)), (by first | rfl | (simp; done) | (simp [*]; done)), H', ⟨by have := HK1.out; omega⟩, ⟨ZR HO187.out⟩, ⟨Zs⟩⟩
     rw [if_neg c7] at H
     exact absurd H (by simp)
    rw [if_neg c6] at H
    exact absurd H (by simp)
   rw [if_neg c5] at H
   have c5b0 : decide (x6_1 < (l1.length : Int)) = false := decide_eq_false c5
   clear c5
   obtain rfl := Option.some.inj H
   go_wp2
   go_ret
   exact ⟨_, ZE, ZR HO_5.out, Zs⟩
end Go.Proofs.YtmgeffgcihfpcaaDoor.F

namespace Go.Proofs.YtmgeffgcihfpcaaDoor.F
open Go.RowKit Go.Proofs.YtmgeffgcihfpcaaDoorW.PrintWords Go.Proofs.YtmgeffgcihfpcaaDoorW.PrintLast Go.Proofs.YtmgeffgcihfpcaaDoorW.PrintMore
open Go.Proofs.YtmgeffgcihfpcaaDoor
set_option linter.unusedVariables false
set_option linter.unusedSimpArgs false
theorem St_app2 {w0 w : World} {l : List LW.It} {v v1 v2 : Value} {xs : List S74} {y1 y2 : List Int} {F G1 G2 : Nat → Prop} (h : LW.St w0 w l) (q p1 p2 : Nat) (n1 : q ≠ p1) (n2 : q ≠ p2) (n3 : p1 ≠ p2) (hq : l[q]? = some (LW.row k74 74 w0.heap.size v xs F)) (hp1 : l[p1]? = some (LW.row (Kd.int .u8) 5 w0.heap.size v1 y1 G1)) (hp2 : l[p2]? = some (LW.row (Kd.int .u8) 5 w0.heap.size v2 y2 G2)) (s : ByteArray) :
    Kd.S k74 74 w w0.heap.size (fun k => (F k ∨ G1 k ∨ G2 k ∨ w.heap.size ≤ k) ∧ ¬ (G1 k ∨ G2 k)) v xs ∧ k74.M w w0.heap.size (fun k => G1 k ∨ G2 k) (⟨s, y1, y2⟩ : S74) [.string s, v1, v2] ∧ (∀ k, G1 k ∨ G2 k → (F k ∨ G1 k ∨ G2 k ∨ w.heap.size ≤ k) ∧ some k ≠ v.ownBlock) ∧
      ∀ (v' : Value) (w1 : World), Kd.S k74 74 w1 w0.heap.size (fun k => F k ∨ G1 k ∨ G2 k ∨ w.heap.size ≤ k) v' (xs ++ [(⟨s, y1, y2⟩ : S74)]) → Below w0.heap.size w0 w1 → w.grownBy w1 v.ownBlock →
        LW.St w0 w1 (((l.set p1 LW.gone).set p2 LW.gone).set q (LW.row k74 74 w0.heap.size v' (xs ++ [(⟨s, y1, y2⟩ : S74)]) (fun k => (F k ∨ G1 k ∨ G2 k) ∨ (w.heap.size ≤ k ∧ k < w1.heap.size)))) := by
  have hS := h.own q hq
  have hR1 := Kd.S_R (h.own p1 hp1)
  have hR2 := Kd.S_R (h.own p2 hp2)
  have d1 := LW.Its.disj h.i q p1 _ _ n1 hq hp1
  have d2 := LW.Its.disj h.i q p2 _ _ n2 hq hp2
  have d3 := LW.Its.disj h.i p1 p2 _ _ n3 hp1 hp2
  have own : ∀ k, v.ownBlock = some k → F k := (Kd.S_R hS).1
  refine ⟨Kd.S_mono hS (fun k hk => ⟨.inl hk, fun hg => hg.elim (d1 k hk) (d2 k hk)⟩), k74_mkM _ _ _ (⟨s, y1, y2⟩ : S74) (Kd.R_mono hR1 (fun k hk => .inl hk)) (Kd.R_mono hR2 (fun k hk => .inr hk)) (fun k a b => d3 k (hR1.1 k a.symm) (hR2.1 k b.symm)), fun k hk => ⟨hk.elim (fun a => .inr (.inl a)) (fun a => .inr (.inr (.inl a))), fun he => hk.elim (d1 k (own k he.symm)) (d2 k (own k he.symm))⟩, fun v' w1 hS' hB hg => ?_⟩
  have lq : ∀ {x : LW.It} {m : Nat}, q ≠ m → (l.set m x)[q]? = l[q]? := fun hm => List.getElem?_set_ne hm.symm
  have m1 := h.merge q p1 n1 hq hp1 (LW.row k74 74 w0.heap.size v xs (fun k => F k ∨ G1 k)) (fun k hk => hk) (Kd.S_mono hS (fun k hk => .inl hk)) h.b ⟨Nat.le_refl _, fun k _ _ => rfl⟩
  have hql : q < l.length := (List.getElem?_eq_some_iff.1 hq).1
  have hq1 : ((l.set q (LW.row k74 74 w0.heap.size v xs (fun k => F k ∨ G1 k))).set p1 LW.gone)[q]? = some (LW.row k74 74 w0.heap.size v xs (fun k => F k ∨ G1 k)) := by
    rw [List.getElem?_set_ne n1.symm, List.getElem?_set_self hql]
  have hp2' : ((l.set q (LW.row k74 74 w0.heap.size v xs (fun k => F k ∨ G1 k))).set p1 LW.gone)[p2]? = some (LW.row (Kd.int .u8) 5 w0.heap.size v2 y2 G2) := by
    rw [List.getElem?_set_ne n3, List.getElem?_set_ne n2, hp2]
  have m2 := m1.merge q p2 n2 hq1 hp2' (LW.row k74 74 w0.heap.size v xs (fun k => F k ∨ G1 k ∨ G2 k)) (fun k hk => by rcases hk with a | a | a; exact .inl (.inl a); exact .inl (.inr a); exact .inr a) (Kd.S_mono hS (fun k hk => .inl hk)) h.b ⟨Nat.le_refl _, fun k _ _ => rfl⟩
  have hq2 : ((((l.set q (LW.row k74 74 w0.heap.size v xs (fun k => F k ∨ G1 k))).set p1 LW.gone).set q (LW.row k74 74 w0.heap.size v xs (fun k => F k ∨ G1 k ∨ G2 k))).set p2 LW.gone)[q]? = some (LW.row k74 74 w0.heap.size v xs (fun k => F k ∨ G1 k ∨ G2 k)) := by
    rw [List.getElem?_set_ne n2.symm, List.getElem?_set_self (by simpa using hql)]
  have m3 := m2.grow q hq2 (LW.row k74 74 w0.heap.size v' (xs ++ [(⟨s, y1, y2⟩ : S74)]) (fun k => (F k ∨ G1 k ∨ G2 k) ∨ (w.heap.size ≤ k ∧ k < w1.heap.size))) (fun k hk => hk) (Kd.S_mono (Kd.S_bound hS') (fun k hk => by
    rcases hk.1 with a | a | a | a
    · exact .inl (.inl a)
    · exact .inl (.inr (.inl a))
    · exact .inl (.inr (.inr a))
    exact .inr ⟨a, hk.2.2.1⟩)) hB ⟨hg.size, fun k hk hn => hg.block k hk (fun he => hn (.inl (own k he.symm)))⟩
  have e : ((((l.set q (LW.row k74 74 w0.heap.size v xs (fun k => F k ∨ G1 k))).set p1 LW.gone).set q (LW.row k74 74 w0.heap.size v xs (fun k => F k ∨ G1 k ∨ G2 k))).set p2 LW.gone).set q (LW.row k74 74 w0.heap.size v' (xs ++ [(⟨s, y1, y2⟩ : S74)]) (fun k => (F k ∨ G1 k ∨ G2 k) ∨ (w.heap.size ≤ k ∧ k < w1.heap.size))) = ((l.set p1 LW.gone).set p2 LW.gone).set q (LW.row k74 74 w0.heap.size v' (xs ++ [(⟨s, y1, y2⟩ : S74)]) (fun k => (F k ∨ G1 k ∨ G2 k) ∨ (w.heap.size ≤ k ∧ k < w1.heap.size))) := by
    apply List.ext_getElem?
    intro m
    by_cases e0 : q = m
    · subst e0
      rw [List.getElem?_set_self (by simpa using hql), List.getElem?_set_self (by simpa using hql)]
    rw [List.getElem?_set_ne e0, List.getElem?_set_ne e0]
    by_cases e2 : p2 = m
    · subst e2
      by_cases hm : p2 < l.length
      · rw [List.getElem?_set_self (by simpa using hm), List.getElem?_set_self (by simpa using hm)]
      rw [List.getElem?_eq_none (by simpa using Nat.le_of_not_lt hm), List.getElem?_eq_none (by simpa using Nat.le_of_not_lt hm)]
    rw [List.getElem?_set_ne e2, List.getElem?_set_ne e2, List.getElem?_set_ne e0]
    by_cases e1 : p1 = m
    · subst e1
      by_cases hm : p1 < l.length
      · rw [List.getElem?_set_self (by simpa using hm), List.getElem?_set_self (by simpa using hm)]
      rw [List.getElem?_eq_none (by simpa using Nat.le_of_not_lt hm), List.getElem?_eq_none (by simpa using Nat.le_of_not_lt hm)]
    rw [List.getElem?_set_ne e1, List.getElem?_set_ne e1, List.getElem?_set_ne e0]
  rw [e] at m3
  exact m3
def spec_l03Copy.l0 : Nat → Int → List (S74) → List (S74) → Option ((List (S74)))
  | 0, _, _, _ => none
  | k + 1, x4, x, y => if x4 < (x.length : Int) then (if 0 ≤ x4 then ((spec_l01Bytes.f k ((rd_T74 x x4).f1)).bind fun t270 => ((spec_l01Bytes.f k ((rd_T74 x x4).f2)).bind fun t273 => (if y.length < 2199023255552 then (spec_l03Copy.l0 k (wrap64 (x4 + 1)) x (y ++ [(⟨(rd_T74 x x4).f0, t270, t273⟩ : S74)])) else (none)))) else (none)) else (some y)
def spec_l03Copy.f (k : Nat) (l0_0 : List (S74)) : Option ((List (S74))) := spec_l03Copy.l0 k 0 l0_0 ([] : List (S74))
set_option maxHeartbeats 8000000 in
set_option maxRecDepth 100000 in
theorem spec_l03Copy.calls (k : Nat) (A0_0 : Option Addr) (c0_0 : Nat) (l0_0 : List (S74)) (r : List (S74)) (w : World) (hr0_0 : Kd.C k74 w A0_0 l0_0.length l0_0) (hc0_0 : l0_0.length ≤ c0_0) (h : spec_l03Copy.f k l0_0 = some r) :
    Calls Tryd.prog 66 #[.agg #[.slice A0_0 l0_0.length c0_0]] w fun e w' => ∃ v0_ : Value, e = .returned (.agg #[v0_]) ∧ Kd.S k74 74 w' w.heap.size (fun _ => True) v0_ r ∧ Below w.heap.size w w' := by
  have HR := Zh hr0_0
  clear hr0_0 hc0_0
  have ST := Zh (LW.St.start w)
  have hu29 := Tryd.underlying29
  have hu74 := Tryd.underlying74
  have H := Zh (show spec_l03Copy.l0 k 0 l0_0 [] = some r from h)
  clear h
  go_enter Tryd.func66, Tryd.ntmps66
  go_wp2_with fail
  replace ST := Zh (ST.out.alloc #[.slice A0_0 l0_0.length c0_0] 29 (g := w.heap.size) rfl)
  replace ST := Zh (ST.out.alloc #[.slice none 0 0] 29 (g := w.heap.size + 1) (by simp))
  replace ST := Zh (ST.out.alloc #[.slice none 0 0] 29 (g := w.heap.size + 2) (by simp))
  replace ST := Zh (ST.out.row (d := k74) (e := 74) (xs := []) (Below.refl _ _) (Kd.S_nil _ _ _ _ (fun _ => True)))
  generalize hW : (((w.alloc (.cells #[.slice A0_0 l0_0.length c0_0] 29)).alloc (.cells #[.slice none 0 0] 29)).alloc (.cells #[.slice none 0 0] 29)) = W at ST ⊢
  clear hW
  go_loopg [4] k (fun kq vv w' => ∃ (x4 : Int) (y : List S74) (F : Nat → Prop) (Ao : Option Addr) (co : Nat), vv = .int .i64 x4 ∧ Aside0 (spec_l03Copy.l0 kq x4 l0_0 y = some r) ∧ Aside0 (LW.St w w' [LW.row k74 74 w.heap.size (.slice Ao y.length co) y F, LW.box (w.heap.size + 2) #[.slice Ao y.length co] 29, LW.box (w.heap.size + 1) #[.slice none 0 0] 29, LW.box w.heap.size #[.slice A0_0 l0_0.length c0_0] 29]))
  case atStart => exact ⟨0, [], _, none, 0, rfl, H, ST⟩
  case round =>
    clear H ST
    obtain ⟨x4, y, F, Ao, co, rfl, HA, ST⟩ := hrel
    cases gk with
    | zero => exact absurd HA.out (by simp [spec_l03Copy.l0])
    | succ k1 =>
      have H := HA.out
      clear HA
      simp only [spec_l03Copy.l0, Option.bind_some] at H
      have hc0 := ST.out.cell 3 rfl 0 (u := .slice A0_0 l0_0.length c0_0) rfl
      have hl0 := ST.out.lt 3 rfl
      by_cases c8 : x4 < (l0_0.length : Int)
      · rw [if_pos c8] at H
        have q8 := decide_eq_true c8
        by_cases p0 : 0 ≤ x4
        · rw [if_pos p0] at H
          obtain ⟨b1, HT1, H⟩ := Option.bind_eq_some_iff.mp H
          obtain ⟨b2, HT2, H⟩ := Option.bind_eq_some_iff.mp H
          replace HT1 := Zh HT1
          replace HT2 := Zh HT2
          by_cases cm : y.length < 2199023255552
          · rw [if_pos cm] at H
            have HLM := Zh cm
            have H' := Zh H
            clear H cm
            obtain ⟨ad, B1, d1, B2, d2, e, E0, E1, E2, g1, g2, g3, g4⟩ := at_T74 HR.out x4 p0 c8
            cases e
            have hx0 := (ST.out.b.cell (Zi w _ E0)).trans E0
            have hx1 := (ST.out.b.cell (Zi w _ E1)).trans E1
            have hx2 := (ST.out.b.cell (Zi w _ E2)).trans E2
            have HR1 := Zh g2
            have HR2 := Zh g4
            have HC1 := Zh g1
            have HC2 := Zh g3
            have p1 := eq_true p0
            have p2 := eq_true c8
            clear E0 E1 E2 p0 c8 g1 g2 g3 g4
            go_wp2_with fail
            replace ST := Zh (ST.out.alloc #[.string (rd_T74 l0_0 x4).f0, .slice B1 (rd_T74 l0_0 x4).f1.length d1, .slice B2 (rd_T74 l0_0 x4).f2.length d2] 74 (g := wr.heap.size) rfl)
            clear hx0 hx1 hx2 hc0 hl0
            replace ST := Zh ST.out.drew
            refine start_ (n := 15) (S := fun w' => w'.cell? ⟨w.heap.size + 2, 0, none⟩ = some (.slice Ao y.length co) ∧ w'.cell? ⟨wr.heap.size, 0, none⟩ = some (.string (rd_T74 l0_0 x4).f0) ∧ w'.cell? ⟨wr.heap.size, 1, none⟩ = some (.slice B1 (rd_T74 l0_0 x4).f1.length d1) ∧ w'.cell? ⟨wr.heap.size, 2, none⟩ = some (.slice B2 (rd_T74 l0_0 x4).f2.length d2)) (ds := [12, 14]) #[false, false, false, false, false, false, false, false, false, false, false, false, false, false, false] (by kernel_rfl) rfl rfl ⟨ST.out.cell 2 rfl 0 rfl, ST.out.cell 0 rfl 0 rfl, ST.out.cell 0 rfl 1 rfl, ST.out.cell 0 rfl 2 rfl⟩ (fun hHeld => ?_)
            generalize (wr.alloc (.cells #[.string (rd_T74 l0_0 x4).f0, .slice B1 (rd_T74 l0_0 x4).f1.length d1, .slice B2 (rd_T74 l0_0 x4).f2.length d2] 74)).drew = w8 at ST hHeld ⊢
            refine SQ.p0 0 19 ?_
            refine SQ.p0 2 21 ?_
            refine SQ.p0 4 23 ?_
            refine SQ.p0 7 26 ?_
            refine SQ.t0 1 20 hHeld ?_
            refine SQ.t0 3 22 hHeld ?_
            refine SQ.t0 5 24 hHeld ?_
            refine SQ.t0 8 27 hHeld ?_
            refine one_ (i := 6) (N := some 25) #[true, true, true, true, true, true, true, true, true, false, false, false, false, false, false] rfl rfl (by kernel_rfl) (by decide) (fun K hK => ?_)
            refine goes_ Tryd.func93 (by kernel_rfl) rfl #[.slice B1 (rd_T74 l0_0 x4).f1.length d1] (by rfl) rfl rfl (by (try simp only [List.map_toArray, List.map_cons, List.map_nil]); first | done | rfl) ?_
            with_reducible refine (spec_l01Bytes.calls k1 _ _ (rd_T74 l0_0 x4).f1 b1 _ (Kd.C_below HR1.out ST.out.b) HC1.out HT1.out).mono ?_
            rintro e w9 ⟨v1, rfl, q1, q2⟩
            refine ⟨_, rfl, ?_⟩
            obtain ⟨A5, c5, rfl⟩ := Kd.R_slice q1
            replace ST := Zh (ST.out.rowR rfl q2 q1)
            clear q1 q2 hHeld
            refine hK.out _ _ ⟨ST.out.cell 3 rfl 0 rfl, ST.out.cell 1 rfl 0 rfl, ST.out.cell 1 rfl 1 rfl, ST.out.cell 1 rfl 2 rfl⟩ (fun hHeld => ?_)
            clear hK K
            refine norm_ (a' := ?_) ?_ ?_
            rotate_left
            · show Act.put _ (some 25) _ = _
              simp only [Act.put, List.setIfInBounds_toArray, List.set_cons_zero, List.set_cons_succ, i64_w, i32_w]
              rfl
            refine one_ (i := 9) (N := some 28) #[true, true, true, true, true, true, true, true, true, true, false, false, false, false, false] rfl rfl (by kernel_rfl) (by decide) (fun K hK => ?_)
            refine goes_ Tryd.func93 (by kernel_rfl) rfl #[.slice B2 (rd_T74 l0_0 x4).f2.length d2] (by rfl) rfl rfl (by (try simp only [List.map_toArray, List.map_cons, List.map_nil]); first | done | rfl) ?_
            with_reducible refine (spec_l01Bytes.calls k1 _ _ (rd_T74 l0_0 x4).f2 b2 _ (Kd.C_below HR2.out ST.out.b) HC2.out HT2.out).mono ?_
            rintro e w10 ⟨v1, rfl, q1, q2⟩
            refine ⟨_, rfl, ?_⟩
            obtain ⟨A6, c6, rfl⟩ := Kd.R_slice q1
            replace ST := Zh (ST.out.rowR rfl q2 q1)
            clear q1 q2 hHeld
            refine hK.out _ _ ⟨ST.out.cell 4 rfl 0 rfl, ST.out.cell 2 rfl 0 rfl, ST.out.cell 2 rfl 1 rfl, ST.out.cell 2 rfl 2 rfl⟩ (fun hHeld => ?_)
            clear hK K
            refine norm_ (a' := ?_) ?_ ?_
            rotate_left
            · show Act.put _ (some 28) _ = _
              simp only [Act.put, List.setIfInBounds_toArray, List.set_cons_zero, List.set_cons_succ, i64_w, i32_w]
              rfl
            refine SQ.p0 10 29 ?_
            refine one_ (i := 11) (N := some 30) #[true, true, true, true, true, true, true, true, true, true, true, true, false, false, false] rfl rfl (by kernel_rfl) (by decide) (fun K hK => ?_)
            refine value_ (w1 := ?_) (v := ?_) (by rfl) rfl ?_ ?_
            rotate_left 2
            · go_simp
              constructor
              · rfl
              rfl
            refine hK.out _ _ ⟨(World.cell?_alloc_lt _ _ _ (Zi _ _ hHeld.1)).trans hHeld.1, (World.cell?_alloc_lt _ _ _ (Zi _ _ hHeld.2.1)).trans hHeld.2.1, (World.cell?_alloc_lt _ _ _ (Zi _ _ hHeld.2.2.1)).trans hHeld.2.2.1, (World.cell?_alloc_lt _ _ _ (Zi _ _ hHeld.2.2.2)).trans hHeld.2.2.2⟩ (fun hHeld => ?_)
            clear hK K
            refine norm_ (a' := ?_) ?_ ?_
            rotate_left
            · show Act.put _ (some 30) _ = _
              simp only [Act.put, List.setIfInBounds_toArray, List.set_cons_zero, List.set_cons_succ, i64_w, i32_w]
              rfl
            obtain ⟨a1, a2, a3, a4⟩ := St_app2 ST.out 3 1 0 (by decide) (by decide) (by decide) rfl rfl rfl (rd_T74 l0_0 x4).f0
            have HB4 := Zh a4
            clear a4
            refine last_ (i := 12) (N := some 31) #[true, true, true, true, true, true, true, true, true, true, true, true, true, false, false] rfl rfl (by kernel_rfl) (by decide) (fun K hK => ?_)
            refine Kd.S_append_step k74 (w0 := w) w.heap.size (by rfl) (.tmp 20) (.tmp 30) 27 74 (.agg #[(.string ⟨#[]⟩), (.slice none 0 0), (.slice none 0 0)]) 64 rfl Tryd.underlying27 info74 rfl (by decide) (by omega) (.slice Ao y.length co) y (⟨(rd_T74 l0_0 x4).f0, b1, b2⟩ : S74) [.string (rd_T74 l0_0 x4).f0, .slice A5 b1.length c5, .slice A6 b2.length c6] _ _ (by rfl) (by rfl) a2 a3 (fun k hk => .inr (.inr (.inr hk))) a1 ST.out.b ST.out.b.size (by have := HLM.out; omega) ?_
            intro v1 w2 q1 q2 q3 _
            obtain ⟨A3, c3, hv⟩ := Kd.S_slice q1
            rw [List.length_append] at hv
            subst hv
            have ST2 := Zh (HB4.out _ w2 q1 q2 q3)
            have hs1 := ST2.out.cell 4 rfl 0 (u := .slice Ao y.length co) rfl
            have hf1 := ST2.out.frozen 4 rfl 0
            have hl1 := ST2.out.lt 4 rfl
            clear q1 q2 q3 hHeld a1 a2 a3
            refine hK.out _ _ ?_
            clear hK K
            refine norm_ (a' := ?_) ?_ ?_
            rotate_left
            · show Act.put _ (some 31) _ = _
              simp only [Act.put, List.setIfInBounds_toArray, List.set_cons_zero, List.set_cons_succ, i64_w, i32_w]
              rfl
            refine SQ.p0 13 32 ?_
            refine last_ (i := 14) (N := none) #[true, true, true, true, true, true, true, true, true, true, true, true, true, true, true] rfl rfl (by kernel_rfl) (by decide) (fun K hK => ?_)
            refine skip_ (w1 := ?_) (by rfl) rfl ?_ ?_
            rotate_left
            · go_simp
              rfl
            refine hK.out _ _ ?_
            clear hK K
            refine done_ (by kernel_rfl) ?_
            go_wp2
            replace ST := Zh (ST2.out.set 4 rfl 0 (.slice A3 (y.length + 1) c3)).tail.tail.tail
            go_roundg k1
            case measure => omega
            case rel => exact ⟨_, _, _, A3, c3, rfl, H', by rw [List.length_append]; exact ST⟩
          rw [if_neg cm] at H; exact absurd H (by simp)
        rw [if_neg p0] at H; exact absurd H (by simp)
      rw [if_neg c8] at H
      have q8 := decide_eq_false c8
      obtain rfl := Option.some.inj H
      clear H c8
      have hc4 := ST.out.cell 1 rfl 0 (u := .slice Ao y.length co) rfl
      have hc6 := ST.out.cell 2 rfl 0 (u := .slice none 0 0) rfl
      have hl6 := ST.out.lt 2 rfl
      have hf6 := ST.out.frozen 2 rfl 0
      go_wp2
      replace ST := Zh (ST.out.set 2 rfl 0 (.slice Ao y.length co))
      refine Zq (results_cell_row rfl _ _ (w.heap.size + 1) 29 #[.slice Ao y.length co] (0, 0) _ rfl (ST.out.blk 2 rfl) Tryd.underlying29 rfl (by kernel_rfl)) rfl ?_
      exact ⟨_, rfl, Kd.S_mono (ST.out.own 0 rfl) (fun _ _ => trivial), ST.out.b⟩
mutual
def spec_l03Put.l0 : Nat → Bool → Int → List (S74) → ByteArray → List Int → List Int → List (S74) → Option ((List (S74)))
  | 0, _, _, _, _, _, _, _ => none
  | k + 1, x6, x7, x, a, u, v, y => if x7 < (x.length : Int) then (if x6 = true then (spec_l03Put.j1 k x6 x7 false x a u v y) else (if 0 ≤ x7 then (spec_l03Put.j1 k x6 x7 (!(Op.bytesLess (((rd_T74 x x7).f0).toList) a.toList)) x a u v y) else (none))) else (if x6 = true then ((spec_l03Copy.f k y).bind fun t301 => (some t301)) else (if y.length < 2199023255552 then ((spec_l03Copy.f k (y ++ [(⟨a, u, v⟩ : S74)])).bind fun t307 => (some t307)) else (none)))
def spec_l03Put.j1 : Nat → Bool → Int → Bool → List (S74) → ByteArray → List Int → List Int → List (S74) → Option ((List (S74)))
  | 0, _, _, _, _, _, _, _, _ => none
  | k + 1, x6, x7, x28, x, a, u, v, y => if x28 = true then (if y.length < 2199023255552 then ((some (y ++ [(⟨a, u, v⟩ : S74)] : List (S74))).bind fun y311 => (if 0 ≤ x7 then (if x7 < (x.length : Int) then (if ((rd_T74 x x7).f0).toList = a.toList then (spec_l03Put.l0 k true (wrap64 (x7 + 1)) x a u v y311) else (if y311.length < 2199023255552 then (spec_l03Put.l0 k true (wrap64 (x7 + 1)) x a u v (y311 ++ [rd_T74 x x7])) else (none))) else (none)) else (none))) else (none)) else (if 0 ≤ x7 then (if x7 < (x.length : Int) then (if ((rd_T74 x x7).f0).toList = a.toList then (spec_l03Put.l0 k x6 (wrap64 (x7 + 1)) x a u v y) else (if y.length < 2199023255552 then (spec_l03Put.l0 k x6 (wrap64 (x7 + 1)) x a u v (y ++ [rd_T74 x x7])) else (none))) else (none)) else (none))
end
def spec_l03Put.f (k : Nat) (l0_0 : List (S74)) (a1_0 : ByteArray) (l1_1 : List Int) (l1_2 : List Int) : Option ((List (S74))) := spec_l03Put.l0 k false 0 l0_0 a1_0 l1_1 l1_2 ([] : List (S74))
set_option maxHeartbeats 8000000 in
set_option maxRecDepth 100000 in
theorem spec_l03Put.calls (k : Nat) (A0_0 : Option Addr) (c0_0 : Nat) (l0_0 : List (S74)) (a1_0 : ByteArray) (A1_1 : Option Addr) (c1_1 : Nat) (l1_1 : List Int) (A1_2 : Option Addr) (c1_2 : Nat) (l1_2 : List Int) (r : List (S74)) (w : World) (hr0_0 : Kd.C k74 w A0_0 l0_0.length l0_0) (hc0_0 : l0_0.length ≤ c0_0) (hr1_1 : Kd.C (Kd.int .u8) w A1_1 l1_1.length l1_1) (hc1_1 : l1_1.length ≤ c1_1) (hr1_2 : Kd.C (Kd.int .u8) w A1_2 l1_2.length l1_2) (hc1_2 : l1_2.length ≤ c1_2) (h : spec_l03Put.f k l0_0 a1_0 l1_1 l1_2 = some r) :
    Calls Tryd.prog 70 #[.agg #[.slice A0_0 l0_0.length c0_0], .agg #[.string a1_0, .slice A1_1 l1_1.length c1_1, .slice A1_2 l1_2.length c1_2]] w fun e w' => ∃ v0_ : Value, e = .returned (.agg #[v0_]) ∧ Kd.S k74 74 w' w.heap.size (fun _ => True) v0_ r ∧ Below w.heap.size w w' := by
  have HR := Zh hr0_0
  have HKf := Zh (k74_mk w (⟨a1_0, l1_1, l1_2⟩ : S74) hc1_1 hr1_1 hc1_2 hr1_2)
  clear hr0_0 hc0_0 hr1_1 hc1_1 hr1_2 hc1_2
  have ST := Zh (LW.St.start w)
  have hu29 := Tryd.underlying29
  have hu74 := Tryd.underlying74
  have H := Zh (show spec_l03Put.l0 k false 0 l0_0 a1_0 l1_1 l1_2 [] = some r from h)
  clear h
  go_enter Tryd.func70, Tryd.ntmps70
  go_wp2_with fail
  replace ST := Zh (ST.out.alloc #[.slice A0_0 l0_0.length c0_0] 29 (g := w.heap.size) rfl)
  replace ST := Zh (ST.out.alloc #[.string a1_0, .slice A1_1 l1_1.length c1_1, .slice A1_2 l1_2.length c1_2] 74 (g := w.heap.size + 1) (by simp))
  replace ST := Zh (ST.out.alloc #[.slice none 0 0] 29 (g := w.heap.size + 2) (by simp))
  replace ST := Zh (ST.out.alloc #[.slice none 0 0] 29 (g := w.heap.size + 3) (by simp))
  replace ST := Zh (LW.St.pick0 (d := k74) (e := 74) (B := w.heap.size) ST.out)
  generalize hW : ((((w.alloc (.cells #[.slice A0_0 l0_0.length c0_0] 29)).alloc (.cells #[.string a1_0, .slice A1_1 l1_1.length c1_1, .slice A1_2 l1_2.length c1_2] 74)).alloc (.cells #[.slice none 0 0] 29)).alloc (.cells #[.slice none 0 0] 29)) = W at ST ⊢
  clear hW
  go_loopg [6, 7] k (fun kq v6 v7 w' => ∃ (x6 : Bool) (x7 : Int) (y : List S74) (Ao : Option Addr) (co : Nat), v6 = .bool x6 ∧ v7 = .int .i64 x7 ∧ Aside0 (spec_l03Put.l0 kq x6 x7 l0_0 a1_0 l1_1 l1_2 y = some r) ∧ Aside0 (LW.St w w' [LW.pick k74 74 w.heap.size w (.slice Ao y.length co) y, LW.box (w.heap.size + 3) #[.slice Ao y.length co] 29, LW.box (w.heap.size + 2) #[.slice none 0 0] 29, LW.box (w.heap.size + 1) #[.string a1_0, .slice A1_1 l1_1.length c1_1, .slice A1_2 l1_2.length c1_2] 74, LW.box w.heap.size #[.slice A0_0 l0_0.length c0_0] 29]))
  case atStart => exact ⟨false, 0, [], none, 0, rfl, rfl, H, ST⟩
  case round =>
    clear H ST
    obtain ⟨x6, x7, y, Ao, co, rfl, rfl, HA, ST⟩ := hrel
    cases gk with
    | zero => exact absurd HA.out (by simp [spec_l03Put.l0])
    | succ k1 =>
      have H := HA.out
      clear HA
      simp only [spec_l03Put.l0] at H
      have hc0 := ST.out.cell 4 rfl 0 (u := .slice A0_0 l0_0.length c0_0) rfl
      have hc1 := ST.out.cell 3 rfl 0 (u := .string a1_0) rfl
      have hc2 := ST.out.cell 3 rfl 1 (u := .slice A1_1 l1_1.length c1_1) rfl
      have hc3 := ST.out.cell 3 rfl 2 (u := .slice A1_2 l1_2.length c1_2) rfl
      have hc4 := ST.out.cell 1 rfl 0 (u := .slice Ao y.length co) rfl
      have hl0 := ST.out.lt 4 rfl
      have hl3 := ST.out.lt 3 rfl
      have hl4 := ST.out.lt 1 rfl
      by_cases c7 : x7 < (l0_0.length : Int)
      · rw [if_pos c7] at H
        have q7 := decide_eq_true c7
        have hb : ∃ b : Bool, spec_l03Put.j1 k1 x6 x7 b l0_0 a1_0 l1_1 l1_2 y = some r ∧ (x6 = true → b = false) ∧ (x6 = false → 0 ≤ x7 ∧ b = !(Op.bytesLess (rd_T74 l0_0 x7).f0.toList a1_0.toList)) := by
          by_cases c : x6 = true
          · rw [if_pos c] at H
            exact ⟨false, H, fun _ => rfl, fun g => by rw [c] at g; cases g⟩
          rw [if_neg c] at H
          by_cases c0 : 0 ≤ x7
          · rw [if_pos c0] at H
            exact ⟨_, H, fun g => absurd g c, fun _ => ⟨c0, rfl⟩⟩
          rw [if_neg c0] at H
          exact absurd H (by simp)
        clear H
        obtain ⟨b, HJ, hbt, hbf⟩ := hb
        replace HJ := Zh HJ
        go_upto_region 6 with fail
        go_cut [28] (fun v28 wc => v28 = .bool b ∧ Aside0 (LW.St w wc [LW.pick k74 74 w.heap.size w (.slice Ao y.length co) y, LW.box (w.heap.size + 3) #[.slice Ao y.length co] 29, LW.box (w.heap.size + 2) #[.slice none 0 0] 29, LW.box (w.heap.size + 1) #[.string a1_0, .slice A1_1 l1_1.length c1_1, .slice A1_2 l1_2.length c1_2] 74, LW.box w.heap.size #[.slice A0_0 l0_0.length c0_0] 29]))
        case first =>
          cases x6 with
          | true =>
            obtain rfl := hbt rfl
            clear hbt hbf
            go_quiet (fail)
            go_wp2
            go_meet
            case rel => exact ⟨rfl, ⟨ST.out.drewN _⟩⟩
          | false =>
            obtain ⟨p0, rfl⟩ := hbf rfl
            clear hbt hbf
            obtain ⟨ad, B1, d1, B2, d2, e, E0, E1, E2, g1, g2, g3, g4⟩ := at_T74 HR.out x7 p0 c7
            have HKd := Zh (k74_mk w (rd_T74 l0_0 x7) g1 g2 g3 g4)
            cases e
            have hx0 := (ST.out.b.cell (Zi w _ E0)).trans E0
            have hx1 := (ST.out.b.cell (Zi w _ E1)).trans E1
            have hx2 := (ST.out.b.cell (Zi w _ E2)).trans E2
            have HE0 := Zh E0
            have HE1 := Zh E1
            have HE2 := Zh E2
            clear E0 E1 E2 g1 g2 g3 g4
            have p1 := eq_true p0
            have p2 := eq_true c7
            clear p0 c7
            go_quiet (fail)
            go_wp2
            go_meet
            case rel => exact ⟨rfl, ⟨ST.out.drewN _⟩⟩
        case rest =>
        obtain ⟨rfl, STc⟩ := hcut
        clear ST hbt hbf
        clear hc0 hc1 hc2 hc3 hc4 hl0 hl3 hl4
        have ST := STc
        clear STc
        have H := HJ.out
        clear HJ
        cases k1 with
        | zero => exact absurd H (by simp [spec_l03Put.j1])
        | succ k2 =>
          simp only [spec_l03Put.j1, Option.bind_some] at H
          have hj : ∃ (z6 : Bool) (z : List S74), (b = true → y.length < 2199023255552 ∧ z6 = true ∧ z = y ++ [(⟨a1_0, l1_1, l1_2⟩ : S74)]) ∧ (b = false → z6 = x6 ∧ z = y) ∧ (if 0 ≤ x7 then (if x7 < (l0_0.length : Int) then (if ((rd_T74 l0_0 x7).f0).toList = a1_0.toList then (spec_l03Put.l0 k2 z6 (wrap64 (x7 + 1)) l0_0 a1_0 l1_1 l1_2 z) else (if z.length < 2199023255552 then (spec_l03Put.l0 k2 z6 (wrap64 (x7 + 1)) l0_0 a1_0 l1_1 l1_2 (z ++ [rd_T74 l0_0 x7])) else (none))) else (none)) else (none)) = some r := by
            cases b with
            | true =>
              rw [if_pos rfl] at H
              by_cases c : y.length < 2199023255552
              · rw [if_pos c] at H
                exact ⟨true, _, fun _ => ⟨c, rfl, rfl⟩, fun g => absurd g (by decide), H⟩
              rw [if_neg c] at H
              exact absurd H (by simp)
            | false =>
              rw [if_neg (by decide)] at H
              exact ⟨x6, y, fun g => absurd g (by decide), fun _ => ⟨rfl, rfl⟩, H⟩
          clear H
          obtain ⟨z6, z, hzt, hzf, H⟩ := hj
          have H' := Zh H
          clear H
          have hc0 := ST.out.cell 4 rfl 0 (u := .slice A0_0 l0_0.length c0_0) rfl
          have hc1 := ST.out.cell 3 rfl 0 (u := .string a1_0) rfl
          have hc2 := ST.out.cell 3 rfl 1 (u := .slice A1_1 l1_1.length c1_1) rfl
          have hc3 := ST.out.cell 3 rfl 2 (u := .slice A1_2 l1_2.length c1_2) rfl
          have hc4 := ST.out.cell 1 rfl 0 (u := .slice Ao y.length co) rfl
          have hl0 := ST.out.lt 4 rfl
          have hl3 := ST.out.lt 3 rfl
          have hl4 := ST.out.lt 1 rfl
          go_upto_if 28 with fail
          go_cut [6] (fun v6 wd => ∃ (Ao : Option Addr) (co : Nat), v6 = .bool z6 ∧ Aside0 (LW.St w wd [LW.pick k74 74 w.heap.size w (.slice Ao z.length co) z, LW.box (w.heap.size + 3) #[.slice Ao z.length co] 29, LW.box (w.heap.size + 2) #[.slice none 0 0] 29, LW.box (w.heap.size + 1) #[.string a1_0, .slice A1_1 l1_1.length c1_1, .slice A1_2 l1_2.length c1_2] 74, LW.box w.heap.size #[.slice A0_0 l0_0.length c0_0] 29]))
          case first =>
            cases b with
            | true =>
              obtain ⟨hlm, rfl, rfl⟩ := hzt rfl
              have HLM := Zh hlm
              clear hzt hzf hlm
              obtain ⟨rows, hrl, hrow, back⟩ := ST.out.picked 0 rfl
              have HRL := Zh hrl
              have HRW := Zh hrow
              have BK := Zh back
              clear hrl hrow back
              go_wp2_with ((with_reducible refine gate_builtin (b := .append) (xs := #[.tmp 30, .tmp 32]) rfl ?_); at_builtin; refine Kd.R_append (Kd.raw 3) (w0 := w) w.heap.size rfl (.tmp 30) (.tmp 32) 27 74 (.agg #[(.string ⟨#[]⟩), (.slice none 0 0), (.slice none 0 0)]) 64 rfl Tryd.underlying27 info74 rfl (by decide) (by omega) (.slice Ao y.length co) rows [.string a1_0, .slice A1_1 l1_1.length c1_1, .slice A1_2 l1_2.length c1_2] [.string a1_0, .slice A1_1 l1_1.length c1_1, .slice A1_2 l1_2.length c1_2] (fun _ => True) (fun _ => False) rfl rfl ⟨rfl, rfl, k74.K_one HKf.out⟩ (fun _ h => h.elim) (fun _ _ => trivial) HRW.out ST.out.b ST.out.b.size (by have := HRL.out; have := HLM.out; omega) ?_; intro v1 w2 q1 q2 q3 q4; obtain ⟨A3, c3, hv⟩ := Kd.R_slice q1; rw [show (rows ++ [([.string a1_0, .slice A1_1 l1_1.length c1_1, .slice A1_2 l1_2.length c1_2] : List Value)]).length = y.length + 1 by simp [HRL.out]] at hv; subst hv; have ST2 := Zh (BK.out (⟨a1_0, l1_1, l1_2⟩ : S74) _ _ _ HKf.out q1 q2 q3 q4); have hs1 := ST2.out.cell 1 rfl 0 (u := .slice Ao y.length co) rfl; have hf1 := ST2.out.frozen 1 rfl 0; have hl1 := ST2.out.lt 1 rfl; clear hc0 hc1 hc2 hc3 hc4 hl0 hl3 hl4; clear q1 q2 q3 q4)
              replace ST := Zh (ST2.out.set 1 rfl 0 (.slice A3 (y.length + 1) c3))
              go_meet
              case rel => exact ⟨A3, c3, rfl, by rw [List.length_append]; exact ST⟩
            | false =>
              obtain ⟨rfl, rfl⟩ := hzf rfl
              clear hzt hzf
              go_wp2
              go_meet
              case rel => exact ⟨Ao, co, rfl, ST⟩
          case rest =>
          clear ST hzt hzf
          clear hc0 hc1 hc2 hc3 hc4 hl0 hl3 hl4
          obtain ⟨Ao, co, rfl, ST⟩ := hcut
          have H := H'.out
          clear H'
          by_cases p0 : 0 ≤ x7
          · rw [if_pos p0, if_pos c7] at H
            have hc0 := ST.out.cell 4 rfl 0 (u := .slice A0_0 l0_0.length c0_0) rfl
            have hc1 := ST.out.cell 3 rfl 0 (u := .string a1_0) rfl
            have hc2 := ST.out.cell 3 rfl 1 (u := .slice A1_1 l1_1.length c1_1) rfl
            have hc3 := ST.out.cell 3 rfl 2 (u := .slice A1_2 l1_2.length c1_2) rfl
            have hc4 := ST.out.cell 1 rfl 0 (u := .slice Ao z.length co) rfl
            have hl0 := ST.out.lt 4 rfl
            have hl3 := ST.out.lt 3 rfl
            have hl4 := ST.out.lt 1 rfl
            obtain ⟨ad, B1, d1, B2, d2, e, E0, E1, E2, g1, g2, g3, g4⟩ := at_T74 HR.out x7 p0 c7
            have HKd := Zh (k74_mk w (rd_T74 l0_0 x7) g1 g2 g3 g4)
            cases e
            have hx0 := (ST.out.b.cell (Zi w _ E0)).trans E0
            have hx1 := (ST.out.b.cell (Zi w _ E1)).trans E1
            have hx2 := (ST.out.b.cell (Zi w _ E2)).trans E2
            have HE0 := Zh E0
            have HE1 := Zh E1
            have HE2 := Zh E2
            clear E0 E1 E2 g1 g2 g3 g4
            have p1 := eq_true p0
            have p2 := eq_true c7
            clear p0 c7
            by_cases ceq : ((rd_T74 l0_0 x7).f0).toList = a1_0.toList
            · rw [if_pos ceq] at H
              have q9 : (((rd_T74 l0_0 x7).f0).toList == a1_0.toList) = true := beq_iff_eq.mpr ceq
              have H' := Zh H
              clear H ceq
              go_wp2_with fail
              go_quiet (fail)
              go_wp2
              go_roundg k2
              case measure => omega
              case rel => exact ⟨_, _, _, _, _, rfl, rfl, H', ⟨ST.out.drewN _⟩⟩
            rw [if_neg ceq] at H
            have q9 : (((rd_T74 l0_0 x7).f0).toList == a1_0.toList) = false := by rw [beq_eq_false_iff_ne]; exact ceq
            by_cases cm : z.length < 2199023255552
            · rw [if_pos cm] at H
              have HLM := Zh cm
              have H' := Zh H
              clear H ceq cm
              go_wp2_with fail
              go_quiet (fail)
              clear hc0 hc1 hc2 hc3 hc4 hl0 hl3 hl4
              replace ST := Zh (ST.out.drewN nq)
              generalize wc.drewN nq = w5 at ST ⊢
              clear hx0 hx1 hx2
              go_wp2_with fail
              replace ST := Zh ST.out.drew
              have hx0 := (ST.out.b.cell (Zi w _ HE0.out)).trans HE0.out
              have hx1 := (ST.out.b.cell (Zi w _ HE1.out)).trans HE1.out
              have hx2 := (ST.out.b.cell (Zi w _ HE2.out)).trans HE2.out
              refine start_ (n := 11) (S := fun w' => w'.cell? ⟨w.heap.size + 3, 0, none⟩ = some (.slice Ao z.length co) ∧ w'.cell? ⟨w.heap.size, 0, none⟩ = some (.slice (some ad) l0_0.length c0_0) ∧ w'.cell? (ad.add (x7.toNat * 3)) = some (.string (rd_T74 l0_0 x7).f0) ∧ w'.cell? ⟨(ad.add (x7.toNat * 3)).block, (ad.add (x7.toNat * 3)).off + 1, none⟩ = some (.slice B1 (rd_T74 l0_0 x7).f1.length d1) ∧ w'.cell? ⟨(ad.add (x7.toNat * 3)).block, (ad.add (x7.toNat * 3)).off + 2, none⟩ = some (.slice B2 (rd_T74 l0_0 x7).f2.length d2)) (ds := [8, 10]) #[false, false, false, false, false, false, false, false, false, false, false] (by kernel_rfl) rfl rfl ⟨ST.out.cell 1 rfl 0 rfl, ST.out.cell 4 rfl 0 rfl, hx0, hx1, hx2⟩ (fun hHeld => ?_)
              generalize w5.drew = w6 at ST hHeld hx0 hx1 hx2 ⊢
              refine SQ.p0 0 44 ?_
              refine SQ.p0 2 46 ?_
              refine SQ.p0 4 48 ?_
              refine SQ.t0 1 45 hHeld ?_
              refine SQ.t0 3 47 hHeld ?_
              refine SQ.p0 5 49 ?_
              refine SQ.t0 6 50 hHeld ?_
              refine one_ (i := 7) (N := some 51) #[true, true, true, true, true, true, true, true, false, false, false] rfl rfl (by kernel_rfl) (by decide) (fun K hK => ?_)
              refine value_ (w1 := ?_) (v := ?_) (by rfl) rfl ?_ ?_
              rotate_left 2
              · go_simp
                constructor
                · rfl
                rfl
              refine hK.out _ _ ⟨(World.cell?_alloc_lt _ _ _ (Zi _ _ hHeld.1)).trans hHeld.1, (World.cell?_alloc_lt _ _ _ (Zi _ _ hHeld.2.1)).trans hHeld.2.1, (World.cell?_alloc_lt _ _ _ (Zi _ _ hHeld.2.2.1)).trans hHeld.2.2.1, (World.cell?_alloc_lt _ _ _ (Zi _ _ hHeld.2.2.2.1)).trans hHeld.2.2.2.1, (World.cell?_alloc_lt _ _ _ (Zi _ _ hHeld.2.2.2.2)).trans hHeld.2.2.2.2⟩ (fun hHeld => ?_)
              clear hK K
              refine norm_ (a' := ?_) ?_ ?_
              rotate_left
              · show Act.put _ (some 51) _ = _
                simp only [Act.put, List.setIfInBounds_toArray, List.set_cons_zero, List.set_cons_succ, i64_w, i32_w]
                rfl
              obtain ⟨rows, hrl, hrow, back⟩ := ST.out.picked 0 rfl
              have HRL := Zh hrl
              have HRW := Zh hrow
              have BK := Zh back
              clear hrl hrow back
              refine last_ (i := 8) (N := some 52) #[true, true, true, true, true, true, true, true, true, false, false] rfl rfl (by kernel_rfl) (by decide) (fun K hK => ?_)
              refine Kd.R_append_step (Kd.raw 3) (w0 := w) w.heap.size (by rfl) (.tmp 45) (.tmp 51) 27 74 (.agg #[(.string ⟨#[]⟩), (.slice none 0 0), (.slice none 0 0)]) 64 rfl Tryd.underlying27 info74 rfl (by decide) (by omega) (.slice Ao z.length co) rows [.string (rd_T74 l0_0 x7).f0, .slice B1 (rd_T74 l0_0 x7).f1.length d1, .slice B2 (rd_T74 l0_0 x7).f2.length d2] [.string (rd_T74 l0_0 x7).f0, .slice B1 (rd_T74 l0_0 x7).f1.length d1, .slice B2 (rd_T74 l0_0 x7).f2.length d2] (fun _ => True) (fun _ => False) (by rfl) (by rfl) ⟨rfl, rfl, k74.K_one HKd.out⟩ (fun _ h => h.elim) (fun _ _ => trivial) HRW.out ST.out.b ST.out.b.size (by have := HRL.out; have := HLM.out; omega) ?_
              intro v1 w2 q1 q2 q3 q4
              obtain ⟨A3, c3, hv⟩ := Kd.R_slice q1
              rw [show (rows ++ [([.string (rd_T74 l0_0 x7).f0, .slice B1 (rd_T74 l0_0 x7).f1.length d1, .slice B2 (rd_T74 l0_0 x7).f2.length d2] : List Value)]).length = z.length + 1 by simp [HRL.out]] at hv
              subst hv
              have ST2 := Zh (BK.out (rd_T74 l0_0 x7) _ _ _ HKd.out q1 q2 q3 q4)
              have hs1 := ST2.out.cell 1 rfl 0 (u := .slice Ao z.length co) rfl
              have hf1 := ST2.out.frozen 1 rfl 0
              have hl1 := ST2.out.lt 1 rfl
              clear q1 q2 q3 q4 hx0 hx1 hx2 hHeld
              refine hK.out _ _ ?_
              clear hK K
              refine norm_ (a' := ?_) ?_ ?_
              rotate_left
              · show Act.put _ (some 52) _ = _
                simp only [Act.put, List.setIfInBounds_toArray, List.set_cons_zero, List.set_cons_succ, i64_w, i32_w]
                rfl
              refine SQ.p0 9 53 ?_
              refine last_ (i := 10) (N := none) #[true, true, true, true, true, true, true, true, true, true, true] rfl rfl (by kernel_rfl) (by decide) (fun K hK => ?_)
              refine skip_ (w1 := ?_) (by rfl) rfl ?_ ?_
              rotate_left
              · go_simp
                rfl
              refine hK.out _ _ ?_
              clear hK K
              refine done_ (by kernel_rfl) ?_
              go_wp2
              replace ST := Zh (ST2.out.set 1 rfl 0 (.slice A3 (z.length + 1) c3))
              go_roundg k2
              case measure => omega
              case rel => exact ⟨_, _, _, A3, c3, rfl, rfl, H', by rw [List.length_append]; exact ST⟩
            rw [if_neg cm] at H; exact absurd H (by simp)
          rw [if_neg p0] at H; exact absurd H (by simp)
      rw [if_neg c7] at H
      have q7 := decide_eq_false c7
      clear c7
      cases x6 with
      | true =>
        rw [if_pos rfl] at H
        obtain ⟨t, HT, H⟩ := Option.bind_eq_some_iff.mp H
        obtain rfl := Option.some.inj H
        replace HT := Zh HT
        clear H
        go_wp2_with fail
        clear hc0 hc1 hc2 hc3 hc4 hl0 hl3 hl4
        with_reducible refine (spec_l03Copy.calls k1 _ _ y t _ (ST.out.picks 0 rfl).2.2 (ST.out.picks 0 rfl).2.1 HT.out).mono ?_
        rintro e w9 ⟨v9, rfl, ho, hb⟩
        obtain ⟨A9, c9, rfl⟩ := Kd.S_slice ho
        replace ST := Zh (ST.out.row hb ho)
        clear hb ho
        have hc6 := ST.out.cell 3 rfl 0 (u := .slice none 0 0) rfl
        have hl6 := ST.out.lt 3 rfl
        have hf6 := ST.out.frozen 3 rfl 0
        go_wp2
        replace ST := Zh (ST.out.set 3 rfl 0 (.slice A9 t.length c9))
        refine Zq (results_cell_row rfl _ _ (w.heap.size + 2) 29 #[.slice A9 t.length c9] (0, 0) _ rfl (ST.out.blk 3 rfl) Tryd.underlying29 rfl (by kernel_rfl)) rfl ?_
        exact ⟨_, rfl, Kd.S_mono (ST.out.own 0 rfl) (fun _ _ => trivial), ST.out.b⟩
      | false =>
        rw [if_neg (by decide)] at H
        by_cases cm : y.length < 2199023255552
        · rw [if_pos cm] at H
          obtain ⟨t, HT, H⟩ := Option.bind_eq_some_iff.mp H
          obtain rfl := Option.some.inj H
          replace HT := Zh HT
          have HLM := Zh cm
          clear H cm
          obtain ⟨rows, hrl, hrow, back⟩ := ST.out.picked 0 rfl
          have HRL := Zh hrl
          have HRW := Zh hrow
          have BK := Zh back
          clear hrl hrow back
          go_wp2_with ((with_reducible refine gate_builtin (b := .append) (xs := #[.tmp 57, .tmp 59]) rfl ?_); at_builtin; refine Kd.R_append (Kd.raw 3) (w0 := w) w.heap.size rfl (.tmp 57) (.tmp 59) 27 74 (.agg #[(.string ⟨#[]⟩), (.slice none 0 0), (.slice none 0 0)]) 64 rfl Tryd.underlying27 info74 rfl (by decide) (by omega) (.slice Ao y.length co) rows [.string a1_0, .slice A1_1 l1_1.length c1_1, .slice A1_2 l1_2.length c1_2] [.string a1_0, .slice A1_1 l1_1.length c1_1, .slice A1_2 l1_2.length c1_2] (fun _ => True) (fun _ => False) rfl rfl ⟨rfl, rfl, k74.K_one HKf.out⟩ (fun _ h => h.elim) (fun _ _ => trivial) HRW.out ST.out.b ST.out.b.size (by have := HRL.out; have := HLM.out; omega) ?_; intro v1 w2 q1 q2 q3 q4; obtain ⟨A3, c3, hv⟩ := Kd.R_slice q1; rw [show (rows ++ [([.string a1_0, .slice A1_1 l1_1.length c1_1, .slice A1_2 l1_2.length c1_2] : List Value)]).length = y.length + 1 by simp [HRL.out]] at hv; subst hv; have ST2 := Zh (BK.out (⟨a1_0, l1_1, l1_2⟩ : S74) _ _ _ HKf.out q1 q2 q3 q4); have hs1 := ST2.out.cell 1 rfl 0 (u := .slice Ao y.length co) rfl; have hf1 := ST2.out.frozen 1 rfl 0; have hl1 := ST2.out.lt 1 rfl; clear hc0 hc1 hc2 hc3 hc4 hl0 hl3 hl4; clear q1 q2 q3 q4)
          replace ST := Zh (ST2.out.set 1 rfl 0 (.slice A3 (y.length + 1) c3))
          have hcall := spec_l03Copy.calls k1 _ c3 (y ++ [(⟨a1_0, l1_1, l1_2⟩ : S74)]) t _ (ST.out.picks 0 rfl).2.2 (by rw [List.length_append]; exact (ST.out.picks 0 rfl).2.1) HT.out
          rw [List.length_append] at hcall
          refine hcall.mono ?_
          clear hcall
          rintro e w9 ⟨v9, rfl, ho, hb⟩
          obtain ⟨A9, c9, rfl⟩ := Kd.S_slice ho
          replace ST := Zh (ST.out.row hb ho)
          clear hb ho
          have hc6 := ST.out.cell 3 rfl 0 (u := .slice none 0 0) rfl
          have hl6 := ST.out.lt 3 rfl
          have hf6 := ST.out.frozen 3 rfl 0
          go_wp2
          replace ST := Zh (ST.out.set 3 rfl 0 (.slice A9 t.length c9))
          refine Zq (results_cell_row rfl _ _ (w.heap.size + 2) 29 #[.slice A9 t.length c9] (0, 0) _ rfl (ST.out.blk 3 rfl) Tryd.underlying29 rfl (by kernel_rfl)) rfl ?_
          exact ⟨_, rfl, Kd.S_mono (ST.out.own 0 rfl) (fun _ _ => trivial), ST.out.b⟩
        rw [if_neg cm] at H; exact absurd H (by simp)
def spec_AppendFile.fin (k : Nat) (l0_0 : List S74) (a1 : ByteArray) (d f1 f2 : List Int) : Option (List S74 × Bool) := if (d.length : Int) > wrap64 (wrap64 (20000 - (f1.length : Int)) - (f2.length : Int)) then (spec_l03Copy.f k l0_0).bind fun o => some (o, false) else (spec_l01Join.f k f2 d).bind fun e => (spec_l03Put.f k l0_0 a1 f1 e).bind fun r => some (r, true)
def spec_AppendFile.f (k : Nat) (l0_0 : List S74) (a1 : ByteArray) (d : List Int) : Option (List S74 × Bool) := (spec_l03Find.f k l0_0 a1).bind fun i => (spec_DiskOk.f k l0_0).bind fun t => if t = true then (spec_l01Name.f k a1).bind fun n => if n = true then (if 0 ≤ i then (if i < (l0_0.length : Int) then spec_AppendFile.fin k l0_0 (rd_T74 l0_0 i).f0 d (rd_T74 l0_0 i).f1 (rd_T74 l0_0 i).f2 else none) else (if (l0_0.length : Int) = 8 then (spec_l03Copy.f k l0_0).bind fun o => some (o, false) else spec_AppendFile.fin k l0_0 a1 d [] [])) else (spec_l03Copy.f k l0_0).bind fun o => some (o, false) else (spec_l03Copy.f k l0_0).bind fun o => some (o, false)
set_option maxHeartbeats 8000000 in
set_option maxRecDepth 100000 in
theorem spec_AppendFile.calls (k : Nat) (A0_0 : Option Addr) (c0_0 : Nat) (l0_0 : List (S74)) (a1 : ByteArray) (A2 : Option Addr) (c2 : Nat) (l2 : List Int) (r1 : List (S74)) (r2 : Bool) (w : World) (hr0_0 : Kd.C k74 w A0_0 l0_0.length l0_0) (hc0_0 : l0_0.length ≤ c0_0) (hr2 : Kd.C (Kd.int .u8) w A2 l2.length l2) (hc2 : l2.length ≤ c2) (h : spec_AppendFile.f k l0_0 a1 l2 = some (r1, r2)) :
    Calls Tryd.prog 37 #[.agg #[.slice A0_0 l0_0.length c0_0], .string a1, .slice A2 l2.length c2] w fun e w' => ∃ v0_ : Value, e = .returned (.tuple #[.agg #[v0_], .bool r2]) ∧ Kd.S k74 74 w' w.heap.size (fun _ => True) v0_ r1 ∧ Below w.heap.size w w' := by
  have HR := Zh hr0_0
  have HC := Zh hc0_0
  have HR2 := Zh hr2
  have HC2 := Zh hc2
  clear hr0_0 hc0_0 hr2 hc2
  have ST := Zh (LW.St.start w)
  have hu74 := Tryd.underlying74
  have hu29 := Tryd.underlying29
  unfold spec_AppendFile.f at h
  replace h := Option.bind_eq_some_iff.mp h
  obtain ⟨i, HA1, h⟩ := h
  replace h := Option.bind_eq_some_iff.mp h
  obtain ⟨t, HA2, h⟩ := h
  replace HA1 := Zh HA1
  replace HA2 := Zh HA2
  have H := Zh h
  clear h
  go_enter Tryd.func37, Tryd.ntmps37
  go_wp2_with fail
  replace ST := Zh (ST.out.alloc #[.slice A0_0 l0_0.length c0_0] 29 (g := w.heap.size) rfl)
  replace ST := Zh (ST.out.alloc #[.slice none 0 0] 29 (g := w.heap.size + 1) (by simp))
  replace ST := Zh (ST.out.alloc #[.string a1, .slice none 0 0, .slice none 0 0] 74 (g := w.heap.size + 2) (by simp))
  with_reducible refine (spec_l03Find.calls k _ _ l0_0 a1 i _ (Kd.C_below HR.out ST.out.b) HC.out HA1.out).mono ?_
  rintro e w2 ⟨rfl, hb⟩
  replace ST := Zh (ST.out.step hb)
  clear hb
  have hc1 := ST.out.cell 2 rfl 0 (u := .slice A0_0 l0_0.length c0_0) rfl
  have hl1 := ST.out.lt 2 rfl
  go_wp2_with fail
  with_reducible refine (spec_DiskOk.calls k _ _ l0_0 t _ (Kd.C_below HR.out ST.out.b) HC.out HA2.out).mono ?_
  rintro e w3 ⟨rfl, hb⟩
  replace ST := Zh (ST.out.step hb)
  clear hb hc1 hl1
  have hc1 := ST.out.cell 2 rfl 0 (u := .slice A0_0 l0_0.length c0_0) rfl
  have hl1 := ST.out.lt 2 rfl
  have h := H.out
  clear H
  by_cases ct : t = true
  · subst ct
    rw [if_pos rfl] at h
    replace h := Option.bind_eq_some_iff.mp h
    obtain ⟨n, HA3, h⟩ := h
    replace HA3 := Zh HA3
    have H := Zh h
    clear h
    go_wp2_with fail
    with_reducible refine (spec_l01Name.calls k a1 n _ HA3.out).mono ?_
    rintro e w4 ⟨rfl, nd, rfl⟩
    replace ST := Zh (ST.out.step (Zd (Below.refl _ _) nd))
    generalize w3.drewN nd = w4 at ST ⊢
    clear hc1 hl1
    have hc1 := ST.out.cell 2 rfl 0 (u := .slice A0_0 l0_0.length c0_0) rfl
    have hl1 := ST.out.lt 2 rfl
    have h := H.out
    clear H
    by_cases cn : n = true
    · subst cn
      rw [if_pos rfl] at h
      by_cases ci : 0 ≤ i
      · rw [if_pos ci] at h
        have cib : decide (0 ≤ i) = true := decide_eq_true ci
        by_cases cl : i < (l0_0.length : Int)
        · rw [if_pos cl] at h
          obtain ⟨ad, B1, d1, B2, d2, e0, hx0, hx1, hx2, hl1', hi1, hl2', hi2⟩ := at_T74 HR.out i ci cl
          cases e0
          have HI1 := Zh hi1
          have HI2 := Zh hi2
          have HL1 := Zh hl1'
          have HL2 := Zh hl2'
          clear hi1 hi2 hl1' hl2'
          replace hx0 := (ST.out.b.cell (Zi w _ hx0)).trans hx0
          replace hx1 := (ST.out.b.cell (Zi w _ hx1)).trans hx1
          replace hx2 := (ST.out.b.cell (Zi w _ hx2)).trans hx2
          have p0 := eq_true ci
          have p1 := eq_true cl
          have hd0 := ST.out.cell 0 rfl 0 (u := .string a1) rfl
          have hd1 := ST.out.cell 0 rfl 1 (u := .slice none 0 0) rfl
          have hd2 := ST.out.cell 0 rfl 2 (u := .slice none 0 0) rfl
          have hdl := ST.out.lt 0 rfl
          have hf0 := ST.out.frozen 0 rfl 0
          have hf1 := ST.out.frozen 0 rfl 1
          have hf2 := ST.out.frozen 0 rfl 2
          have hne := ST.out.ne 0 2 (by decide) rfl rfl
          have hne' := hne.symm
          clear ci cl
          go_upto_region 9 with (fail)
          replace ST := Zh (ST.out.set 0 rfl 0 (.string (rd_T74 l0_0 i).f0))
          replace ST := Zh (ST.out.set 0 rfl 1 (.slice B1 (rd_T74 l0_0 i).f1.length d1))
          replace ST := Zh (ST.out.set 0 rfl 2 (.slice B2 (rd_T74 l0_0 i).f2.length d2))
          clear hx0 hx1 hx2 p0 p1 hd0 hd1 hd2 hdl hf0 hf1 hf2 hne hne' hc1 hl1
          generalize (((w4.setCell ⟨w.heap.size + 2, 0, none⟩ (.string (rd_T74 l0_0 i).f0)).setCell ⟨w.heap.size + 2, 1, none⟩ (.slice B1 (rd_T74 l0_0 i).f1.length d1)).setCell ⟨w.heap.size + 2, 2, none⟩ (.slice B2 (rd_T74 l0_0 i).f2.length d2)) = w5 at ST ⊢
          unfold spec_AppendFile.fin at h
          have hc1 := ST.out.cell 2 rfl 0 (u := .slice (some ad) l0_0.length c0_0) rfl
          have hl1 := ST.out.lt 2 rfl
          have hg1 := ST.out.cell 0 rfl 1 (u := .slice B1 ((rd_T74 l0_0 i).f1).length d1) rfl
          have hg2 := ST.out.cell 0 rfl 2 (u := .slice B2 ((rd_T74 l0_0 i).f2).length d2) rfl
          have hgl := ST.out.lt 0 rfl
          by_cases cg : (l2.length : Int) > wrap64 (wrap64 (20000 - (((rd_T74 l0_0 i).f1).length : Int)) - (((rd_T74 l0_0 i).f2).length : Int))
          · rw [if_pos cg] at h
            have cgb : decide (wrap64 (wrap64 (20000 - (((rd_T74 l0_0 i).f1).length : Int)) - (((rd_T74 l0_0 i).f2).length : Int)) < (l2.length : Int)) = true := decide_eq_true cg
            clear cg
            replace h := Option.bind_eq_some_iff.mp h
            obtain ⟨o, HAo, h⟩ := h
            obtain ⟨rfl, rfl⟩ := Prod.mk.inj (Option.some.inj h)
            clear h
            replace HAo := Zh HAo
            go_wp2_with fail
            with_reducible refine (spec_l03Copy.calls k _ _ l0_0 o _ (Kd.C_below HR.out ST.out.b) HC.out HAo.out).mono ?_
            rintro e w9 ⟨v9, rfl, ho, hb⟩
            obtain ⟨A9, c9, rfl⟩ := Kd.S_slice ho
            replace ST := Zh (ST.out.row hb ho)
            clear hb ho hc1 hl1
            have hc2 := ST.out.cell 2 rfl 0 (u := .slice none 0 0) rfl
            have hl2 := ST.out.lt 2 rfl
            have hf2 := ST.out.frozen 2 rfl 0
            go_wp2
            replace ST := Zh (ST.out.set 2 rfl 0 (.slice A9 o.length c9))
            refine Zq (results_ct rfl _ _ (w.heap.size + 1) 29 #[.slice A9 o.length c9] (0, 0) _ rfl (ST.out.blk 2 rfl) Tryd.underlying29 rfl (by kernel_rfl)) rfl ?_
            exact ⟨_, rfl, Kd.S_mono (ST.out.own 0 rfl) (fun _ _ => trivial), ST.out.b⟩
          rw [if_neg cg] at h
          have cgb : decide (wrap64 (wrap64 (20000 - (((rd_T74 l0_0 i).f1).length : Int)) - (((rd_T74 l0_0 i).f2).length : Int)) < (l2.length : Int)) = false := decide_eq_false cg
          clear cg
          replace h := Option.bind_eq_some_iff.mp h
          obtain ⟨e, HB1, h⟩ := h
          replace h := Option.bind_eq_some_iff.mp h
          obtain ⟨r, HB2, h⟩ := h
          obtain ⟨rfl, rfl⟩ := Prod.mk.inj (Option.some.inj h)
          clear h
          replace HB1 := Zh HB1
          replace HB2 := Zh HB2
          go_wp2_with fail
          refine (spec_l01Join.calls k _ _ ((rd_T74 l0_0 i).f2) _ _ l2 e _ (Kd.C_below HI2.out ST.out.b) HL2.out (Kd.C_below HR2.out ST.out.b) HC2.out HB1.out).mono ?_
          rintro e_ w6 ⟨v6, rfl, ho, hb⟩
          obtain ⟨A6, c6, rfl⟩ := Kd.R_slice ho
          replace ST := Zh (ST.out.rowR rfl hb ho)
          clear hb ho hc1 hl1 hg1 hg2 hgl
          have hc1 := ST.out.cell 3 rfl 0 (u := .slice (some ad) l0_0.length c0_0) rfl
          have hl1 := ST.out.lt 3 rfl
          have hg0 := ST.out.cell 1 rfl 0 (u := .string (rd_T74 l0_0 i).f0) rfl
          have hg1 := ST.out.cell 1 rfl 1 (u := .slice B1 ((rd_T74 l0_0 i).f1).length d1) rfl
          have hg2 := ST.out.cell 1 rfl 2 (u := .slice B2 ((rd_T74 l0_0 i).f2).length d2) rfl
          have hgl := ST.out.lt 1 rfl
          have hgf := ST.out.frozen 1 rfl 2
          have hne := ST.out.ne 1 3 (by decide) rfl rfl
          have hne' := hne.symm
          go_wp2_with fail
          replace ST := Zh (ST.out.set 1 rfl 2 (.slice A6 e.length c6))
          generalize hW : w6.setCell ⟨w.heap.size + 2, 2, none⟩ (.slice A6 e.length c6) = w7 at ST ⊢
          clear hW hc1 hl1 hg0 hg1 hg2 hgl hgf hne hne'
          refine (spec_l03Put.calls k _ _ l0_0 (rd_T74 l0_0 i).f0 _ _ ((rd_T74 l0_0 i).f1) _ _ e r _ (Kd.C_below HR.out ST.out.b) HC.out (Kd.C_below HI1.out ST.out.b) HL1.out (ST.out.reads 0 rfl).2.2 (ST.out.reads 0 rfl).2.1 HB2.out).mono ?_
          rintro e_ w8 ⟨v8, rfl, ho, hb⟩
          obtain ⟨A8, c8, rfl⟩ := Kd.S_slice ho
          replace ST := Zh (ST.out.row hb ho)
          clear hb ho
          have hc2 := ST.out.cell 3 rfl 0 (u := .slice none 0 0) rfl
          have hl2 := ST.out.lt 3 rfl
          have hf2 := ST.out.frozen 3 rfl 0
          go_wp2
          replace ST := Zh (ST.out.set 3 rfl 0 (.slice A8 r.length c8))
          refine Zq (results_ct rfl _ _ (w.heap.size + 1) 29 #[.slice A8 r.length c8] (0, 0) _ rfl (ST.out.blk 3 rfl) Tryd.underlying29 rfl (by kernel_rfl)) rfl ?_
          exact ⟨_, rfl, Kd.S_mono (ST.out.own 0 rfl) (fun _ _ => trivial), ST.out.b⟩
        rw [if_neg cl] at h; exact absurd h (by simp)
      rw [if_neg ci] at h
      have cib : decide (0 ≤ i) = false := decide_eq_false ci
      by_cases c8 : (l0_0.length : Int) = 8
      · rw [if_pos c8] at h
        have c8b : ((l0_0.length : Int) == 8) = true := beq_iff_eq.mpr c8
        clear c8
        replace h := Option.bind_eq_some_iff.mp h
        obtain ⟨o, HAo, h⟩ := h
        obtain ⟨rfl, rfl⟩ := Prod.mk.inj (Option.some.inj h)
        clear h
        replace HAo := Zh HAo
        go_wp2_with fail
        with_reducible refine (spec_l03Copy.calls k _ _ l0_0 o _ (Kd.C_below HR.out ST.out.b) HC.out HAo.out).mono ?_
        rintro e w9 ⟨v9, rfl, ho, hb⟩
        obtain ⟨A9, c9, rfl⟩ := Kd.S_slice ho
        replace ST := Zh (ST.out.row hb ho)
        clear hb ho hc1 hl1
        have hc2 := ST.out.cell 2 rfl 0 (u := .slice none 0 0) rfl
        have hl2 := ST.out.lt 2 rfl
        have hf2 := ST.out.frozen 2 rfl 0
        go_wp2
        replace ST := Zh (ST.out.set 2 rfl 0 (.slice A9 o.length c9))
        refine Zq (results_ct rfl _ _ (w.heap.size + 1) 29 #[.slice A9 o.length c9] (0, 0) _ rfl (ST.out.blk 2 rfl) Tryd.underlying29 rfl (by kernel_rfl)) rfl ?_
        exact ⟨_, rfl, Kd.S_mono (ST.out.own 0 rfl) (fun _ _ => trivial), ST.out.b⟩
      rw [if_neg c8] at h
      have c8b : ((l0_0.length : Int) == 8) = false := beq_eq_false_iff_ne.mpr c8
      clear c8
      have HI1 := Zh (Kd.C_nil (Kd.int .u8) w)
      have HI2 := HI1
      have HL1 := Zh (show ([] : List Int).length ≤ 0 from Nat.le_refl _)
      have HL2 := HL1
      unfold spec_AppendFile.fin at h
      have hc1 := ST.out.cell 2 rfl 0 (u := .slice A0_0 l0_0.length c0_0) rfl
      have hl1 := ST.out.lt 2 rfl
      have hg1 := ST.out.cell 0 rfl 1 (u := .slice none (([] : List Int)).length 0) rfl
      have hg2 := ST.out.cell 0 rfl 2 (u := .slice none (([] : List Int)).length 0) rfl
      have hgl := ST.out.lt 0 rfl
      by_cases cg : (l2.length : Int) > wrap64 (wrap64 (20000 - ((([] : List Int)).length : Int)) - ((([] : List Int)).length : Int))
      · rw [if_pos cg] at h
        have cgb : decide (wrap64 (wrap64 (20000 - ((([] : List Int)).length : Int)) - ((([] : List Int)).length : Int)) < (l2.length : Int)) = true := decide_eq_true cg
        have cgp : (20000 : Int) < (l2.length : Int) := by simpa [wrap64] using cg
        have cgq := eq_true cgp
        clear cg
        replace h := Option.bind_eq_some_iff.mp h
        obtain ⟨o, HAo, h⟩ := h
        obtain ⟨rfl, rfl⟩ := Prod.mk.inj (Option.some.inj h)
        clear h
        replace HAo := Zh HAo
        go_wp2_with fail
        with_reducible refine (spec_l03Copy.calls k _ _ l0_0 o _ (Kd.C_below HR.out ST.out.b) HC.out HAo.out).mono ?_
        rintro e w9 ⟨v9, rfl, ho, hb⟩
        obtain ⟨A9, c9, rfl⟩ := Kd.S_slice ho
        replace ST := Zh (ST.out.row hb ho)
        clear hb ho hc1 hl1
        have hc2 := ST.out.cell 2 rfl 0 (u := .slice none 0 0) rfl
        have hl2 := ST.out.lt 2 rfl
        have hf2 := ST.out.frozen 2 rfl 0
        go_wp2
        replace ST := Zh (ST.out.set 2 rfl 0 (.slice A9 o.length c9))
        refine Zq (results_ct rfl _ _ (w.heap.size + 1) 29 #[.slice A9 o.length c9] (0, 0) _ rfl (ST.out.blk 2 rfl) Tryd.underlying29 rfl (by kernel_rfl)) rfl ?_
        exact ⟨_, rfl, Kd.S_mono (ST.out.own 0 rfl) (fun _ _ => trivial), ST.out.b⟩
      rw [if_neg cg] at h
      have cgb : decide (wrap64 (wrap64 (20000 - ((([] : List Int)).length : Int)) - ((([] : List Int)).length : Int)) < (l2.length : Int)) = false := decide_eq_false cg
      have cgp : ¬ (20000 : Int) < (l2.length : Int) := by simpa [wrap64] using cg
      have cgr : (l2.length : Int) ≤ 20000 := by omega
      clear cg
      replace h := Option.bind_eq_some_iff.mp h
      obtain ⟨e, HB1, h⟩ := h
      replace h := Option.bind_eq_some_iff.mp h
      obtain ⟨r, HB2, h⟩ := h
      obtain ⟨rfl, rfl⟩ := Prod.mk.inj (Option.some.inj h)
      clear h
      replace HB1 := Zh HB1
      replace HB2 := Zh HB2
      go_wp2_with fail
      refine (spec_l01Join.calls k _ _ (([] : List Int)) _ _ l2 e _ (Kd.C_below HI2.out ST.out.b) HL2.out (Kd.C_below HR2.out ST.out.b) HC2.out HB1.out).mono ?_
      rintro e_ w6 ⟨v6, rfl, ho, hb⟩
      obtain ⟨A6, c6, rfl⟩ := Kd.R_slice ho
      replace ST := Zh (ST.out.rowR rfl hb ho)
      clear hb ho hc1 hl1 hg1 hg2 hgl
      have hc1 := ST.out.cell 3 rfl 0 (u := .slice A0_0 l0_0.length c0_0) rfl
      have hl1 := ST.out.lt 3 rfl
      have hg0 := ST.out.cell 1 rfl 0 (u := .string a1) rfl
      have hg1 := ST.out.cell 1 rfl 1 (u := .slice none (([] : List Int)).length 0) rfl
      have hg2 := ST.out.cell 1 rfl 2 (u := .slice none (([] : List Int)).length 0) rfl
      have hgl := ST.out.lt 1 rfl
      have hgf := ST.out.frozen 1 rfl 2
      have hne := ST.out.ne 1 3 (by decide) rfl rfl
      have hne' := hne.symm
      go_wp2_with fail
      replace ST := Zh (ST.out.set 1 rfl 2 (.slice A6 e.length c6))
      generalize hW : w6.setCell ⟨w.heap.size + 2, 2, none⟩ (.slice A6 e.length c6) = w7 at ST ⊢
      clear hW hc1 hl1 hg0 hg1 hg2 hgl hgf hne hne'
      refine (spec_l03Put.calls k _ _ l0_0 a1 _ _ (([] : List Int)) _ _ e r _ (Kd.C_below HR.out ST.out.b) HC.out (Kd.C_below HI1.out ST.out.b) HL1.out (ST.out.reads 0 rfl).2.2 (ST.out.reads 0 rfl).2.1 HB2.out).mono ?_
      rintro e_ w8 ⟨v8, rfl, ho, hb⟩
      obtain ⟨A8, c8, rfl⟩ := Kd.S_slice ho
      replace ST := Zh (ST.out.row hb ho)
      clear hb ho
      have hc2 := ST.out.cell 3 rfl 0 (u := .slice none 0 0) rfl
      have hl2 := ST.out.lt 3 rfl
      have hf2 := ST.out.frozen 3 rfl 0
      go_wp2
      replace ST := Zh (ST.out.set 3 rfl 0 (.slice A8 r.length c8))
      refine Zq (results_ct rfl _ _ (w.heap.size + 1) 29 #[.slice A8 r.length c8] (0, 0) _ rfl (ST.out.blk 3 rfl) Tryd.underlying29 rfl (by kernel_rfl)) rfl ?_
      exact ⟨_, rfl, Kd.S_mono (ST.out.own 0 rfl) (fun _ _ => trivial), ST.out.b⟩
    rw [if_neg cn] at h
    obtain rfl : n = false := by simpa using cn
    clear cn
    replace h := Option.bind_eq_some_iff.mp h
    obtain ⟨o, HAo, h⟩ := h
    obtain ⟨rfl, rfl⟩ := Prod.mk.inj (Option.some.inj h)
    clear h
    replace HAo := Zh HAo
    go_wp2_with fail
    with_reducible refine (spec_l03Copy.calls k _ _ l0_0 o _ (Kd.C_below HR.out ST.out.b) HC.out HAo.out).mono ?_
    rintro e w9 ⟨v9, rfl, ho, hb⟩
    obtain ⟨A9, c9, rfl⟩ := Kd.S_slice ho
    replace ST := Zh (ST.out.row hb ho)
    clear hb ho hc1 hl1
    have hc2 := ST.out.cell 2 rfl 0 (u := .slice none 0 0) rfl
    have hl2 := ST.out.lt 2 rfl
    have hf2 := ST.out.frozen 2 rfl 0
    go_wp2
    replace ST := Zh (ST.out.set 2 rfl 0 (.slice A9 o.length c9))
    refine Zq (results_ct rfl _ _ (w.heap.size + 1) 29 #[.slice A9 o.length c9] (0, 0) _ rfl (ST.out.blk 2 rfl) Tryd.underlying29 rfl (by kernel_rfl)) rfl ?_
    exact ⟨_, rfl, Kd.S_mono (ST.out.own 0 rfl) (fun _ _ => trivial), ST.out.b⟩
  rw [if_neg ct] at h
  obtain rfl : t = false := by simpa using ct
  clear ct
  replace h := Option.bind_eq_some_iff.mp h
  obtain ⟨o, HAo, h⟩ := h
  obtain ⟨rfl, rfl⟩ := Prod.mk.inj (Option.some.inj h)
  clear h
  replace HAo := Zh HAo
  go_wp2_with fail
  with_reducible refine (spec_l03Copy.calls k _ _ l0_0 o _ (Kd.C_below HR.out ST.out.b) HC.out HAo.out).mono ?_
  rintro e w9 ⟨v9, rfl, ho, hb⟩
  obtain ⟨A9, c9, rfl⟩ := Kd.S_slice ho
  replace ST := Zh (ST.out.row hb ho)
  clear hb ho hc1 hl1
  have hc2 := ST.out.cell 2 rfl 0 (u := .slice none 0 0) rfl
  have hl2 := ST.out.lt 2 rfl
  have hf2 := ST.out.frozen 2 rfl 0
  go_wp2
  replace ST := Zh (ST.out.set 2 rfl 0 (.slice A9 o.length c9))
  refine Zq (results_ct rfl _ _ (w.heap.size + 1) 29 #[.slice A9 o.length c9] (0, 0) _ rfl (ST.out.blk 2 rfl) Tryd.underlying29 rfl (by kernel_rfl)) rfl ?_
  exact ⟨_, rfl, Kd.S_mono (ST.out.own 0 rfl) (fun _ _ => trivial), ST.out.b⟩
end Go.Proofs.YtmgeffgcihfpcaaDoor.F

namespace Go.Proofs.YtmgeffgcihfpcaaDoor.F
open Go.Proofs.YtmgeffgcihfpcaaDoor
open Go.RowKit Go.Proofs.YtmgeffgcihfpcaaDoorW.PrintWords Go.Proofs.YtmgeffgcihfpcaaDoorW.PrintWords.Kd Go.Proofs.YtmgeffgcihfpcaaDoorW.PrintMore.Kd Go.Proofs.YtmgeffgcihfpcaaDoorW.PrintLast Go.Proofs.YtmgeffgcihfpcaaDoorW.PrintMore
attribute [local go_sem] max2_int min2_int max_two min_two max_three min_three max_four min_four   -- for this text's walks alone
set_option linter.unusedVariables false
set_option linter.unusedSimpArgs false
def spec_Content.f (k : Nat) (l0_0 : List (S74)) (a1 : ByteArray) : Option (List Int × Bool) := (spec_l03Find.f k l0_0 a1).bind fun t189 => ((spec_DiskOk.f k l0_0).bind fun t190 => (if t190 = true then (if t189 < 0 then (some (([] : List Int), false)) else (if 0 ≤ t189 then (if t189 < (l0_0.length : Int) then ((spec_l01Join.f k ((rd_T74 l0_0 t189).f1) ((rd_T74 l0_0 t189).f2)).bind fun t193 => (some (t193, true))) else (none)) else (none))) else (some (([] : List Int), false))))
def spec_Content.T4 : Bool × List (List Nat × List Nat) := (true, [([], []), ([0], [0]), ([], []), ([1, 2], [1, 2]), ([3], [3]), ([4], [4]), ([], []), ([6], [6]), ([], []), ([7, 8], [7, 8]), ([9], [9]), ([10], [10]), ([5, 11], [5, 11]), ([12, 12, 0, 1, 2, 3, 4, 5, 6, 7, 8, 9, 10, 11, 12], [12]), ([13, 0, 1, 2, 3, 4, 5, 6, 7, 8, 9, 10, 11, 12, 13], [])])
def spec_Content.B4 : List Nat := [0, 1, 0, 7, 15, 31, 0, 64, 0, 448, 960, 1984, 4095, 8191, 16383]
theorem spec_Content.tab4 : rtab .any (opsOf Tryd.f19 4) = spec_Content.T4 := by kernel_rfl
theorem spec_Content.bits4 : waitsOk spec_Content.T4.2 spec_Content.B4 = true := by kernel_rfl
set_option maxHeartbeats 8000000 in
set_option maxRecDepth 100000 in
theorem spec_Content.calls (k : Nat) (A0_0 : Option Addr) (c0_0 : Nat) (l0_0 : List (S74)) (a1 : ByteArray) (r1 : List Int) (r2 : Bool) (w : World) (hr0_0 : Kd.C k74 w A0_0 l0_0.length l0_0) (hc0_0 : l0_0.length ≤ c0_0) (h : spec_Content.f k l0_0 a1 = some (r1, r2)) :
  Calls Tryd.prog 19 #[.agg #[.slice A0_0 l0_0.length c0_0], .string a1] w fun e w' => ∃ v0_ : Value, e = .returned (.tuple #[v0_, .bool r2]) ∧ Kd.R (Kd.int .u8) 5 w' w.heap.size (fun _ => True) v0_ r1 ∧ Below w.heap.size w w' := by
 have hu29 := Tryd.underlying29
 have HR0_0 := Zh hr0_0
 have HC0_0 := Zh hc0_0
 clear hr0_0 hc0_0
 have HB := Zh (Below.refl w.heap.size w)
 have H : ((spec_l03Find.f k l0_0 a1).bind fun t189 => ((spec_DiskOk.f k l0_0).bind fun t190 => (if t190 = true then (if t189 < 0 then (some (([] : List Int), false)) else (if 0 ≤ t189 then (if t189 < (l0_0.length : Int) then ((spec_l01Join.f k ((rd_T74 l0_0 t189).f1) ((rd_T74 l0_0 t189).f2)).bind fun t193 => (some (t193, true))) else (none)) else (none))) else (some (([] : List Int), false))))) = some (r1, r2) := h
 clear h
 replace H := Option.bind_eq_some_iff.mp H
 obtain ⟨t189, A30, H⟩ := H
 replace H : ((spec_DiskOk.f k l0_0).bind fun t190 => (if t190 = true then (if t189 < 0 then (some (([] : List Int), false)) else (if 0 ≤ t189 then (if t189 < (l0_0.length : Int) then ((spec_l01Join.f k ((rd_T74 l0_0 t189).f1) ((rd_T74 l0_0 t189).f2)).bind fun t193 => (some (t193, true))) else (none)) else (none))) else (some (([] : List Int), false)))) = some (r1, r2) := H
 have A3 := Zh A30
 clear A30
 replace H := Option.bind_eq_some_iff.mp H
 obtain ⟨t190, A40, H⟩ := H
 replace H : (if t190 = true then (if t189 < 0 then (some (([] : List Int), false)) else (if 0 ≤ t189 then (if t189 < (l0_0.length : Int) then ((spec_l01Join.f k ((rd_T74 l0_0 t189).f1) ((rd_T74 l0_0 t189).f2)).bind fun t193 => (some (t193, true))) else (none)) else (none))) else (some (([] : List Int), false))) = some (r1, r2) := H
 have A4 := Zh A40
 clear A40
 by_cases c5 : t190 = true
 ·
  subst c5
  have H1 : (if t189 < 0 then (some (([] : List Int), false)) else (if 0 ≤ t189 then (if t189 < (l0_0.length : Int) then ((spec_l01Join.f k ((rd_T74 l0_0 t189).f1) ((rd_T74 l0_0 t189).f2)).bind fun t193 => (some (t193, true))) else (none)) else (none))) = some (r1, r2) := by rw [if_pos rfl] at H; exact H
  clear H
  have H := H1
  clear H1
  by_cases c6 : t189 < 0
  ·
   rw [if_pos c6] at H
   have c6b0 : decide (t189 < 0) = true := decide_eq_true c6
   clear c6
   simp only [Option.some.injEq, Prod.mk.injEq] at H
   obtain ⟨rfl, rfl⟩ := H
   go_enter Tryd.func19, Tryd.ntmps19
   go_wp2_with (first | ((with_reducible refine gate_dst (N := 2) rfl ?_); refine box_event ?hg (N := 2) ?hd (cs := #[.slice A0_0 l0_0.length c0_0]) (t := 29) ?hr ?_; (case hd => rfl); (case hg => rfl); (case hr => first | (go_simp; done) | (go_simp; rfl)); intro gb188 hg w7 hbox hb; have BK188 := Zh (hbox); have GW188 := Zh ((by rw [hg]; exact (below_size Zs) : w.heap.size ≤ gb188)); have GE188 := Zh ((by rw [hg]; exact (below_size Zs) : w.heap.size ≤ gb188)); replace HB := Zh (Zl Zs hb); clear hb hbox hg; have hcz8_0 : w7.cell? ⟨gb188, 0, none⟩ = some (.slice A0_0 l0_0.length c0_0) := (blk_cell BK188.out 0).trans rfl; have hfz8_0 := Zn BK188.out 0) | ((with_reducible refine gate_callee (f := 61) rfl ?_); refine ZG (some 9) Tryd.func61 #[.agg #[.slice A0_0 l0_0.length c0_0], .string a1] rfl ?_; (with_reducible refine (spec_l03Find.calls k _ _ l0_0 a1 t189 _ ?side1 ?side2 A3.out).mono ?_); (case side1 => repeat (first | exact (C_below HR0_0.out HB.out) | (with_reducible refine C_alloc ?_ _) | (with_reducible refine C_drewN ?_ _) | (with_reducible refine C_drew ?_))); (case side2 => exact HC0_0.out); rintro e w9 ⟨rfl, hb⟩; refine ⟨_, rfl, ?_⟩; replace BK188 := Zh (Zm (g := gb188) (o := .cells #[.slice A0_0 l0_0.length c0_0] 29 (0, 0)) Zk hb); replace HB := Zh (Zl Zs hb); (try clear hb); (try clear hb2); (try clear hk); (try clear hi); have hcz10_0 : w9.cell? ⟨gb188, 0, none⟩ = some (.slice A0_0 l0_0.length c0_0) := (blk_cell BK188.out 0).trans rfl; have hfz10_0 := Zn BK188.out 0) | ((with_reducible refine gate_callee (f := 15) rfl ?_); refine ZG (some 11) Tryd.func15 #[.agg #[.slice A0_0 l0_0.length c0_0]] rfl ?_; (with_reducible refine (spec_DiskOk.calls k _ _ l0_0 true _ ?side1 ?side2 A4.out).mono ?_); (case side1 => repeat (first | exact (C_below HR0_0.out HB.out) | (with_reducible refine C_alloc ?_ _) | (with_reducible refine C_drewN ?_ _) | (with_reducible refine C_drew ?_))); (case side2 => exact HC0_0.out); rintro e w11 ⟨rfl, hb⟩; refine ⟨_, rfl, ?_⟩; replace BK188 := Zh (Zm (g := gb188) (o := .cells #[.slice A0_0 l0_0.length c0_0] 29 (0, 0)) Zk hb); replace HB := Zh (Zl Zs hb); (try clear hb); (try clear hb2); (try clear hk); (try clear hi)))
   go_ret2
   exact ⟨_, ZE, by first | exact R_nil _ _ _ _ _ | exact N_nil _ _ _ _ _ | exact V_nil _ _ _ _ _ | exact Q_nil _ _ _ _ _ | exact S_nil _ _ _ _ _, Zs⟩
  rw [if_neg c6] at H
  have c6b0 : decide (t189 < 0) = false := decide_eq_false c6
  clear c6
  by_cases c12 : 0 ≤ t189
  ·
   rw [if_pos c12] at H
   have c12b0 : decide (0 ≤ t189) = true := decide_eq_true c12
   clear c12
   by_cases c13 : t189 < (l0_0.length : Int)
   ·
    rw [if_pos c13] at H
    have c13b0 : decide (t189 < (l0_0.length : Int)) = true := decide_eq_true c13
    clear c13
    replace H := Option.bind_eq_some_iff.mp H
    obtain ⟨t193, A140, H⟩ := H
    replace H : (some (t193, true)) = some (r1, r2) := H
    have A14 := Zh A140
    clear A140
    simp only [Option.some.injEq, Prod.mk.injEq] at H
    obtain ⟨rfl, rfl⟩ := H
    go_enter Tryd.func19, Tryd.ntmps19
    try go_wp2_with (first | ((with_reducible refine gate_dst (N := 2) rfl ?_); refine box_event ?hg (N := 2) ?hd (cs := #[.slice A0_0 l0_0.length c0_0]) (t := 29) ?hr ?_; (case hd => rfl); (case hg => rfl); (case hr => first | (go_simp; done) | (go_simp; rfl)); intro gb188 hg w15 hbox hb; have BK188 := Zh (hbox); have GW188 := Zh ((by rw [hg]; exact (below_size Zs) : w.heap.size ≤ gb188)); have GE188 := Zh ((by rw [hg]; exact (below_size Zs) : w.heap.size ≤ gb188)); replace HB := Zh (Zl Zs hb); clear hb hbox hg; have hcz16_0 : w15.cell? ⟨gb188, 0, none⟩ = some (.slice A0_0 l0_0.length c0_0) := (blk_cell BK188.out 0).trans rfl; have hfz16_0 := Zn BK188.out 0) | ((with_reducible refine gate_callee (f := 61) rfl ?_); refine ZG (some 9) Tryd.func61 #[.agg #[.slice A0_0 l0_0.length c0_0], .string a1] rfl ?_; (with_reducible refine (spec_l03Find.calls k _ _ l0_0 a1 t189 _ ?side1 ?side2 A3.out).mono ?_); (case side1 => repeat (first | exact (C_below HR0_0.out HB.out) | (with_reducible refine C_alloc ?_ _) | (with_reducible refine C_drewN ?_ _) | (with_reducible refine C_drew ?_))); (case side2 => exact HC0_0.out); rintro e w17 ⟨rfl, hb⟩; refine ⟨_, rfl, ?_⟩; replace BK188 := Zh (Zm (g := gb188) (o := .cells #[.slice A0_0 l0_0.length c0_0] 29 (0, 0)) Zk hb); replace HB := Zh (Zl Zs hb); (try clear hb); (try clear hb2); (try clear hk); (try clear hi); have hcz18_0 : w17.cell? ⟨gb188, 0, none⟩ = some (.slice A0_0 l0_0.length c0_0) := (blk_cell BK188.out 0).trans rfl; have hfz18_0 := Zn BK188.out 0) | ((with_reducible refine gate_callee (f := 15) rfl ?_); refine ZG (some 11) Tryd.func15 #[.agg #[.slice A0_0 l0_0.length c0_0]] rfl ?_; (with_reducible refine (spec_DiskOk.calls k _ _ l0_0 true _ ?side1 ?side2 A4.out).mono ?_); (case side1 => repeat (first | exact (C_below HR0_0.out HB.out) | (with_reducible refine C_alloc ?_ _) | (with_reducible refine C_drewN ?_ _) | (with_reducible refine C_drew ?_))); (case side2 => exact HC0_0.out); rintro e w19 ⟨rfl, hb⟩; refine ⟨_, rfl, ?_⟩; replace BK188 := Zh (Zm (g := gb188) (o := .cells #[.slice A0_0 l0_0.length c0_0] 29 (0, 0)) Zk hb); replace HB := Zh (Zl Zs hb); (try clear hb); (try clear hb2); (try clear hk); (try clear hi)))
    replace BK188 := Zh (Zb BK188.out)
    replace HB := Zh (Ze HB.out)
    have p191 : 0 ≤ (t189 : Int) := Zo
    have q191 : t189 < (l0_0.length : Int) := Zo
    obtain ⟨ad191, A191_1, c191_1, A191_2, c191_2, e191, hx191_0, hx191_1, hx191_2, hl191_1, hi191_1, hl191_2, hi191_2⟩ := at_T74 HR0_0.out t189 p191 q191
    have hw191_2 := hx191_2
    have hw191_1 := hx191_1
    have hw191_0 := hx191_0
    cases e191
    replace hx191_0 := Zc HB.out hx191_0
    replace hx191_1 := Zc HB.out hx191_1
    replace hx191_2 := Zc HB.out hx191_2
    have HR191_1 := Zh hi191_1
    have HC191_1 := Zh hl191_1
    clear hi191_1 hl191_1
    have HR191_2 := Zh hi191_2
    have HC191_2 := Zh hl191_2
    clear hi191_2 hl191_2
    replace p191 := eq_true p191
    replace q191 := eq_true q191
    have p192 : 0 ≤ (t189 : Int) := Zo
    have q192 : t189 < (l0_0.length : Int) := Zo
    obtain ⟨ad192, A192_1, c192_1, A192_2, c192_2, e192, hx192_0, hx192_1, hx192_2, hl192_1, hi192_1, hl192_2, hi192_2⟩ := at_T74 HR0_0.out t189 p192 q192
    have hw192_2 := hx192_2
    have hw192_1 := hx192_1
    have hw192_0 := hx192_0
    obtain rfl : ad191 = ad192 := (by injection e192)
    replace hx192_0 := Zc HB.out hx192_0
    replace hx192_1 := Zc HB.out hx192_1
    replace hx192_2 := Zc HB.out hx192_2
    have HR192_1 := Zh hi192_1
    have HC192_1 := Zh hl192_1
    clear hi192_1 hl192_1
    have HR192_2 := Zh hi192_2
    have HC192_2 := Zh hl192_2
    clear hi192_2 hl192_2
    replace p192 := eq_true p192
    replace q192 := eq_true q192
    have ea_ := Option.some.inj (hx191_1.symm.trans hx192_1)
    injection ea_ with ea_ en_ ec_
    subst ea_
    subst ec_
    clear en_
    have ea_ := Option.some.inj (hx191_2.symm.trans hx192_2)
    injection ea_ with ea_ en_ ec_
    subst ea_
    subst ec_
    clear en_
    refine start_ (n := 15) (S := fun w' => w'.cell? ⟨gb188, 0, none⟩ = some (.slice (some ad191) l0_0.length c0_0) ∧ w'.cell? (ad191.add ((t189).toNat * 3)) = some (.string ((rd_T74 l0_0 t189).f0)) ∧ w'.cell? ⟨(ad191.add ((t189).toNat * 3)).block, (ad191.add ((t189).toNat * 3)).off + 1, none⟩ = some (.slice A191_1 ((rd_T74 l0_0 t189).f1).length c191_1) ∧ w'.cell? ⟨(ad191.add ((t189).toNat * 3)).block, (ad191.add ((t189).toNat * 3)).off + 2, none⟩ = some (.slice A191_2 ((rd_T74 l0_0 t189).f2).length c191_2) ∧ w'.cell? (ad191.add ((t189).toNat * 3)) = some (.string ((rd_T74 l0_0 t189).f0)) ∧ w'.cell? ⟨(ad191.add ((t189).toNat * 3)).block, (ad191.add ((t189).toNat * 3)).off + 1, none⟩ = some (.slice A191_1 ((rd_T74 l0_0 t189).f1).length c191_1) ∧ w'.cell? ⟨(ad191.add ((t189).toNat * 3)).block, (ad191.add ((t189).toNat * 3)).off + 2, none⟩ = some (.slice A191_2 ((rd_T74 l0_0 t189).f2).length c191_2)) (ds := []) #[false, false, false, false, false, false, false, false, false, false, false, false, false, false, false] (by kernel_rfl) rfl rfl ⟨(blk_cell BK188.out 0).trans rfl, ((HB.out.cell (Zi w _ hw191_0)).trans hw191_0), ((HB.out.cell (Zi w _ hw191_1)).trans hw191_1), ((HB.out.cell (Zi w _ hw191_2)).trans hw191_2), ((HB.out.cell (Zi w _ hw192_0)).trans hw192_0), ((HB.out.cell (Zi w _ hw192_1)).trans hw192_1), ((HB.out.cell (Zi w _ hw192_2)).trans hw192_2)⟩ (fun hHeld => ?_); refine with_tabW spec_Content.tab4 spec_Content.bits4 (fun HT_ HW_ => ?_)
    generalize w19.drew = w20 at BK188 HB HR191_1 HR191_2 HR192_1 HR192_2 hx191_0 hx191_1 hx191_2 hx192_0 hx192_1 hx192_2 hHeld ⊢
    refine SQ.pu 0 17 HT_ ?_
    refine SQ.pu 2 19 HT_ ?_
    refine SQ.pu 6 23 HT_ ?_
    refine SQ.pu 8 25 HT_ ?_
    refine SQ.tk 1 18 HT_ HW_ hHeld ?_
    refine SQ.pu 3 20 HT_ ?_
    refine SQ.pu 4 21 HT_ ?_
    refine SQ.tk 5 22 HT_ HW_ hHeld ?_
    refine SQ.tk 7 24 HT_ HW_ hHeld ?_
    refine SQ.pu 9 26 HT_ ?_
    refine SQ.pu 10 27 HT_ ?_
    refine SQ.tk 11 28 HT_ HW_ hHeld ?_
    refine one_ (i := 12) (N := some 29) #[true, true, true, true, true, true, true, true, true, true, true, true, true, false, false] rfl rfl (one_of HT_.out (by kernel_rfl)) (by decide) (fun K hK => ?_)
    refine goes_ Tryd.func62 (by kernel_rfl) rfl #[.slice A191_1 ((rd_T74 l0_0 t189).f1).length c191_1, .slice A191_2 ((rd_T74 l0_0 t189).f2).length c191_2] (by rfl) rfl rfl (by (try simp only [List.map_toArray, List.map_cons, List.map_nil]); first | done | rfl | (simp only [List.length_drop, List.length_take]; rfl)) ?_
    with_reducible refine (spec_l01Join.calls k _ _ ((rd_T74 l0_0 t189).f1) _ _ ((rd_T74 l0_0 t189).f2) t193 _ ?side1 ?side2 ?side3 ?side4 A14.out).mono ?_
    (case side1 => repeat (first | exact (C_below HR191_1.out HB.out) | (with_reducible refine C_alloc ?_ _) | (with_reducible refine C_drewN ?_ _) | (with_reducible refine C_drew ?_)))
    (case side2 => exact HC191_1.out)
    (case side3 => repeat (first | exact (C_below HR192_2.out HB.out) | (with_reducible refine C_alloc ?_ _) | (with_reducible refine C_drewN ?_ _) | (with_reducible refine C_drew ?_)))
    (case side4 => exact HC192_2.out)
    rintro e w21 ⟨v194, rfl, ho0, hb⟩
    refine ⟨_, rfl, ?_⟩
    have HO195 := Zh (R_lower ho0 (below_size Zs))
    replace BK188 := Zh (Zm (g := gb188) (o := .cells #[.slice (some ad191) l0_0.length c0_0] 29 (0, 0)) Zk hb)
    replace HB := Zh (Zl Zs hb)
    (try clear hb)
    (try clear hb2)
    (try clear hk)
    (try clear hi)
    (try clear ho0)
    refine hK.out _ _ ⟨(blk_cell BK188.out 0).trans rfl, ((HB.out.cell (Zi w _ hw191_0)).trans hw191_0), ((HB.out.cell (Zi w _ hw191_1)).trans hw191_1), ((HB.out.cell (Zi w _ hw191_2)).trans hw191_2), ((HB.out.cell (Zi w _ hw192_0)).trans hw192_0), ((HB.out.cell (Zi w _ hw192_1)).trans hw192_1), ((HB.out.cell (Zi w _ hw192_2)).trans hw192_2)⟩ (fun hHeld => ?_)
    clear hK K
    refine norm_ (a' := ?_) ?_ ?_
    rotate_left
    ·
     show Act.put _ (some 29) _ = _
     simp only [Act.put, List.setIfInBounds_toArray, List.set_cons_zero, List.set_cons_succ, i64_w, i32_w]
     rfl
    refine SQ.pu 13 4 HT_ ?_
    refine SQ.pu 14 5 HT_ ?_
    refine done_ (done_of HT_.out (by kernel_rfl)) ?_
    try go_wp2
    go_ret2
    exact ⟨_, ZE, ZR HO195.out, Zs⟩
   rw [if_neg c13] at H
   exact absurd H (by simp)
  rw [if_neg c12] at H
  exact absurd H (by simp)
 replace c5 := Bool.eq_false_iff.mpr c5
 subst c5
 have H1 : (some (([] : List Int), false)) = some (r1, r2) := by rw [if_neg (show ¬ (false = true) by decide)] at H; exact H
 clear H
 have H := H1
 clear H1
 simp only [Option.some.injEq, Prod.mk.injEq] at H
 obtain ⟨rfl, rfl⟩ := H
 go_enter Tryd.func19, Tryd.ntmps19
 go_wp2_with (first | ((with_reducible refine gate_dst (N := 2) rfl ?_); refine box_event ?hg (N := 2) ?hd (cs := #[.slice A0_0 l0_0.length c0_0]) (t := 29) ?hr ?_; (case hd => rfl); (case hg => rfl); (case hr => first | (go_simp; done) | (go_simp; rfl)); intro gb188 hg w22 hbox hb; have BK188 := Zh (hbox); have GW188 := Zh ((by rw [hg]; exact (below_size Zs) : w.heap.size ≤ gb188)); have GE188 := Zh ((by rw [hg]; exact (below_size Zs) : w.heap.size ≤ gb188)); replace HB := Zh (Zl Zs hb); clear hb hbox hg; have hcz23_0 : w22.cell? ⟨gb188, 0, none⟩ = some (.slice A0_0 l0_0.length c0_0) := (blk_cell BK188.out 0).trans rfl; have hfz23_0 := Zn BK188.out 0) | ((with_reducible refine gate_callee (f := 61) rfl ?_); refine ZG (some 9) Tryd.func61 #[.agg #[.slice A0_0 l0_0.length c0_0], .string a1] rfl ?_; (with_reducible refine (spec_l03Find.calls k _ _ l0_0 a1 t189 _ ?side1 ?side2 A3.out).mono ?_); (case side1 => repeat (first | exact (C_below HR0_0.out HB.out) | (with_reducible refine C_alloc ?_ _) | (with_reducible refine C_drewN ?_ _) | (with_reducible refine C_drew ?_))); (case side2 => exact HC0_0.out); rintro e w24 ⟨rfl, hb⟩; refine ⟨_, rfl, ?_⟩; replace BK188 := Zh (Zm (g := gb188) (o := .cells #[.slice A0_0 l0_0.length c0_0] 29 (0, 0)) Zk hb); replace HB := Zh (Zl Zs hb); (try clear hb); (try clear hb2); (try clear hk); (try clear hi); have hcz25_0 : w24.cell? ⟨gb188, 0, none⟩ = some (.slice A0_0 l0_0.length c0_0) := (blk_cell BK188.out 0).trans rfl; have hfz25_0 := Zn BK188.out 0) | ((with_reducible refine gate_callee (f := 15) rfl ?_); refine ZG (some 11) Tryd.func15 #[.agg #[.slice A0_0 l0_0.length c0_0]] rfl ?_; (with_reducible refine (spec_DiskOk.calls k _ _ l0_0 false _ ?side1 ?side2 A4.out).mono ?_); (case side1 => repeat (first | exact (C_below HR0_0.out HB.out) | (with_reducible refine C_alloc ?_ _) | (with_reducible refine C_drewN ?_ _) | (with_reducible refine C_drew ?_))); (case side2 => exact HC0_0.out); rintro e w26 ⟨rfl, hb⟩; refine ⟨_, rfl, ?_⟩; replace BK188 := Zh (Zm (g := gb188) (o := .cells #[.slice A0_0 l0_0.length c0_0] 29 (0, 0)) Zk hb); replace HB := Zh (Zl Zs hb); (try clear hb); (try clear hb2); (try clear hk); (try clear hi)))
 go_ret2
 exact ⟨_, ZE, by first | exact R_nil _ _ _ _ _ | exact N_nil _ _ _ _ _ | exact V_nil _ _ _ _ _ | exact Q_nil _ _ _ _ _ | exact S_nil _ _ _ _ _, Zs⟩
end Go.Proofs.YtmgeffgcihfpcaaDoor.F

namespace Go.Proofs.YtmgeffgcihfpcaaDoor.F
open Go.RowKit Go.Proofs.YtmgeffgcihfpcaaDoorW.PrintWords Go.Proofs.YtmgeffgcihfpcaaDoorW.PrintWords.Kd Go.Proofs.YtmgeffgcihfpcaaDoorW.PrintMore.Kd Go.Proofs.YtmgeffgcihfpcaaDoorW.PrintLast Go.Proofs.YtmgeffgcihfpcaaDoorW.PrintMore
attribute [local go_sem] max2_int min2_int max_two min_two max_three min_three max_four min_four   -- for this text's walks alone
set_option linter.unusedVariables false
set_option linter.unusedSimpArgs false
def spec_SyncFile.f (k : Nat) (l0_0 : List (S74)) (a1 : ByteArray) : Option ((List (S74)) × Bool) := (spec_Content.f k l0_0 a1).bind fun bt264 => (if bt264.2 = true then ((spec_l03Put.f k l0_0 a1 bt264.1 ([] : List Int)).bind fun t268 => (some (t268, true))) else ((spec_l03Copy.f k l0_0).bind fun t271 => (some (t271, false))))
set_option maxHeartbeats 8000000 in
set_option maxRecDepth 100000 in
theorem spec_SyncFile.calls (k : Nat) (A0_0 : Option Addr) (c0_0 : Nat) (l0_0 : List (S74)) (a1 : ByteArray) (r1 : List (S74)) (r2 : Bool) (w : World) (hr0_0 : Kd.C k74 w A0_0 l0_0.length l0_0) (hc0_0 : l0_0.length ≤ c0_0) (h : spec_SyncFile.f k l0_0 a1 = some (r1, r2)) :
  Calls Tryd.prog 28 #[.agg #[.slice A0_0 l0_0.length c0_0], .string a1] w fun e w' => ∃ v0_ : Value, e = .returned (.tuple #[.agg #[v0_], .bool r2]) ∧ Kd.S k74 74 w' w.heap.size (fun _ => True) v0_ r1 ∧ Below w.heap.size w w' := by
 have hu29 := Tryd.underlying29
 have hu74 := Tryd.underlying74
 have HR0_0 := Zh hr0_0
 have HC0_0 := Zh hc0_0
 clear hr0_0 hc0_0
 have HB := Zh (Below.refl w.heap.size w)
 have H : ((spec_Content.f k l0_0 a1).bind fun bt264 => (if bt264.2 = true then ((spec_l03Put.f k l0_0 a1 bt264.1 ([] : List Int)).bind fun t268 => (some (t268, true))) else ((spec_l03Copy.f k l0_0).bind fun t271 => (some (t271, false))))) = some (r1, r2) := h
 clear h
 replace H := Option.bind_eq_some_iff.mp H
 obtain ⟨⟨t264, t267⟩, A30, H⟩ := H
 replace H : (if t267 = true then ((spec_l03Put.f k l0_0 a1 t264 ([] : List Int)).bind fun t268 => (some (t268, true))) else ((spec_l03Copy.f k l0_0).bind fun t271 => (some (t271, false)))) = some (r1, r2) := H
 have A3 := Zh A30
 clear A30
 by_cases c4 : t267 = true
 ·
  subst c4
  have H1 : ((spec_l03Put.f k l0_0 a1 t264 ([] : List Int)).bind fun t268 => (some (t268, true))) = some (r1, r2) := by rw [if_pos rfl] at H; exact H
  clear H
  have H := H1
  clear H1
  replace H := Option.bind_eq_some_iff.mp H
  obtain ⟨t268, A50, H⟩ := H
  replace H : (some (t268, true)) = some (r1, r2) := H
  have A5 := Zh A50
  clear A50
  simp only [Option.some.injEq, Prod.mk.injEq] at H
  obtain ⟨rfl, rfl⟩ := H
  go_enter Tryd.func28, Tryd.ntmps28
  go_wp2_with (first | ((with_reducible refine gate_dst (N := 2) rfl ?_); refine box_event ?hg (N := 2) ?hd (cs := #[.slice A0_0 l0_0.length c0_0]) (t := 29) ?hr ?_; (case hd => rfl); (case hg => rfl); (case hr => first | (go_simp; done) | (go_simp; rfl)); intro gb262 hg w6 hbox hb; have BK262 := Zh (hbox); have GW262 := Zh ((by rw [hg]; exact (below_size Zs) : w.heap.size ≤ gb262)); have GE262 := Zh ((by rw [hg]; exact (below_size Zs) : w.heap.size ≤ gb262)); replace HB := Zh (Zl Zs hb); clear hb hbox hg) | ((with_reducible refine gate_dst (N := 4) rfl ?_); refine box_event ?hg (N := 4) ?hd (cs := #[.slice none 0 0]) (t := 29) ?hr ?_; (case hd => rfl); (case hg => rfl); (case hr => first | (go_simp; done) | (go_simp; rfl)); intro gb263 hg w7 hbox hb; have BK263 := Zh (hbox); have GW263 := Zh ((by rw [hg]; exact (below_size Zs) : w.heap.size ≤ gb263)); have GE263 := Zh ((by rw [hg]; exact (below_size Zs) : w.heap.size ≤ gb263)); replace HB := Zh (Zl Zs hb); have NB262_263 := Zh ((by rw [hg]; exact Nat.ne_of_lt (blk_lt (g := gb262) (o := .cells #[.slice A0_0 l0_0.length c0_0] 29 (0, 0)) Zk) : gb262 ≠ gb263)); have NB263_262 := Zh ((by rw [hg]; exact Nat.ne_of_gt (blk_lt (g := gb262) (o := .cells #[.slice A0_0 l0_0.length c0_0] 29 (0, 0)) Zk) : gb263 ≠ gb262)); replace BK262 := Zh (Zm (g := gb262) (o := .cells #[.slice A0_0 l0_0.length c0_0] 29 (0, 0)) Zk hb); clear hb hbox hg; have hnb8 := NB262_263.out; have hnc8 := NB263_262.out; have hcz9_0 : w7.cell? ⟨gb262, 0, none⟩ = some (.slice A0_0 l0_0.length c0_0) := (blk_cell BK262.out 0).trans rfl; have hfz9_0 := Zn BK262.out 0) | ((with_reducible refine gate_callee (f := 19) rfl ?_); refine ZG (some 11) Tryd.func19 #[.agg #[.slice A0_0 l0_0.length c0_0], .string a1] rfl ?_; (with_reducible refine (spec_Content.calls k _ _ l0_0 a1 t264 true _ ?side1 ?side2 A3.out).mono ?_); (case side1 => repeat (first | exact (C_below HR0_0.out HB.out) | (with_reducible refine C_alloc ?_ _) | (with_reducible refine C_drewN ?_ _) | (with_reducible refine C_drew ?_))); (case side2 => exact HC0_0.out); rintro e w10 ⟨v265, rfl, ho0, hb⟩; refine ⟨_, rfl, ?_⟩; have HO266 := Zh (R_lower ho0 (below_size Zs)); replace BK262 := Zh (Zm (g := gb262) (o := .cells #[.slice A0_0 l0_0.length c0_0] 29 (0, 0)) Zk hb); replace BK263 := Zh (Zm (g := gb263) (o := .cells #[.slice none 0 0] 29 (0, 0)) Zk hb); replace HB := Zh (Zl Zs hb); (try clear hb); (try clear hb2); (try clear hk); (try clear hi); (try clear ho0); have hcz11_0 : w10.cell? ⟨gb262, 0, none⟩ = some (.slice A0_0 l0_0.length c0_0) := (blk_cell BK262.out 0).trans rfl; have hfz11_0 := Zn BK262.out 0; obtain ⟨Ao12, co12, eo12⟩ := R_slice HO266.out; subst eo12) | ((with_reducible refine gate_callee (f := 70) rfl ?_); refine ZG (some 22) Tryd.func70 #[.agg #[.slice A0_0 l0_0.length c0_0], .agg #[.string a1, .slice Ao12 t264.length co12, .slice none 0 0]] rfl ?_; (refine (spec_l03Put.calls k _ _ l0_0 a1 _ _ t264 _ _ ([] : List Int) t268 _ ?side1 ?side2 ?side3 ?side4 ?side5 ?side6 A5.out).mono ?_); (case side1 => repeat (first | exact (C_below HR0_0.out HB.out) | (with_reducible refine C_alloc ?_ _) | (with_reducible refine C_drewN ?_ _) | (with_reducible refine C_drew ?_))); (case side2 => exact HC0_0.out); (case side3 => repeat (first | exact (R_reads' HO266.out).2.2 | (with_reducible refine C_alloc ?_ _) | (with_reducible refine C_drewN ?_ _) | (with_reducible refine C_drew ?_))); (case side4 => exact (R_reads' HO266.out).2.1); (case side5 => exact C_nil _ _); (case side6 => exact Nat.le_refl _); rintro e w13 ⟨v269, rfl, ho0, hb⟩; refine ⟨_, rfl, ?_⟩; have HO270 := Zh (S_lower (S_new' ho0 (R_lt (ZR HO266.out))) (below_size Zs)); replace HO266 := Zh (R_below (ZR HO266.out) hb); replace BK262 := Zh (Zm (g := gb262) (o := .cells #[.slice A0_0 l0_0.length c0_0] 29 (0, 0)) Zk hb); replace BK263 := Zh (Zm (g := gb263) (o := .cells #[.slice none 0 0] 29 (0, 0)) Zk hb); replace HB := Zh (Zl Zs hb); (try clear hb); (try clear hb2); (try clear hk); (try clear hi); (try clear ho0); obtain ⟨Ao14, co14, eo14⟩ := S_slice HO270.out; subst eo14; have hcz15_0 : w13.cell? ⟨gb263, 0, none⟩ = some (.slice none 0 0) := (blk_cell BK263.out 0).trans rfl; have hfz15_0 := Zn BK263.out 0))
  refine Zq (results_ct rfl _ _ gb263 29 #[.slice Ao14 t268.length co14] (0, 0) _ rfl (by (with_reducible repeat (first | refine Za ?_ _ | refine Zb ?_ | refine blk_alloc ?_ _)); refine blk_put (cs := #[.slice none 0 0]) ?_ 0 _ rfl; (with_reducible repeat (first | refine Za ?_ _ | refine Zb ?_ | refine blk_alloc ?_ _)); exact BK263.out) Tryd.underlying29 rfl (by kernel_rfl)) rfl ?_
  exact ⟨_, ZE, ZS (S_mono (S_far (p := ⟨gb263, 0, none⟩) (S_types HO270.out BK263.out (by decide)) (fun _ hk => hk.2) (.slice Ao14 t268.length co14)) (fun _ hk => trivial)), Zs⟩
 replace c4 := Bool.eq_false_iff.mpr c4
 subst c4
 have H1 : ((spec_l03Copy.f k l0_0).bind fun t271 => (some (t271, false))) = some (r1, r2) := by rw [if_neg (show ¬ (false = true) by decide)] at H; exact H
 clear H
 have H := H1
 clear H1
 replace H := Option.bind_eq_some_iff.mp H
 obtain ⟨t271, A160, H⟩ := H
 replace H : (some (t271, false)) = some (r1, r2) := H
 have A16 := Zh A160
 clear A160
 simp only [Option.some.injEq, Prod.mk.injEq] at H
 obtain ⟨rfl, rfl⟩ := H
 go_enter Tryd.func28, Tryd.ntmps28
 go_wp2_with (first | ((with_reducible refine gate_dst (N := 2) rfl ?_); refine box_event ?hg (N := 2) ?hd (cs := #[.slice A0_0 l0_0.length c0_0]) (t := 29) ?hr ?_; (case hd => rfl); (case hg => rfl); (case hr => first | (go_simp; done) | (go_simp; rfl)); intro gb262 hg w17 hbox hb; have BK262 := Zh (hbox); have GW262 := Zh ((by rw [hg]; exact (below_size Zs) : w.heap.size ≤ gb262)); have GE262 := Zh ((by rw [hg]; exact (below_size Zs) : w.heap.size ≤ gb262)); replace HB := Zh (Zl Zs hb); clear hb hbox hg) | ((with_reducible refine gate_dst (N := 4) rfl ?_); refine box_event ?hg (N := 4) ?hd (cs := #[.slice none 0 0]) (t := 29) ?hr ?_; (case hd => rfl); (case hg => rfl); (case hr => first | (go_simp; done) | (go_simp; rfl)); intro gb263 hg w18 hbox hb; have BK263 := Zh (hbox); have GW263 := Zh ((by rw [hg]; exact (below_size Zs) : w.heap.size ≤ gb263)); have GE263 := Zh ((by rw [hg]; exact (below_size Zs) : w.heap.size ≤ gb263)); replace HB := Zh (Zl Zs hb); have NB262_263 := Zh ((by rw [hg]; exact Nat.ne_of_lt (blk_lt (g := gb262) (o := .cells #[.slice A0_0 l0_0.length c0_0] 29 (0, 0)) Zk) : gb262 ≠ gb263)); have NB263_262 := Zh ((by rw [hg]; exact Nat.ne_of_gt (blk_lt (g := gb262) (o := .cells #[.slice A0_0 l0_0.length c0_0] 29 (0, 0)) Zk) : gb263 ≠ gb262)); replace BK262 := Zh (Zm (g := gb262) (o := .cells #[.slice A0_0 l0_0.length c0_0] 29 (0, 0)) Zk hb); clear hb hbox hg; have hnb19 := NB262_263.out; have hnc19 := NB263_262.out; have hcz20_0 : w18.cell? ⟨gb262, 0, none⟩ = some (.slice A0_0 l0_0.length c0_0) := (blk_cell BK262.out 0).trans rfl; have hfz20_0 := Zn BK262.out 0) | ((with_reducible refine gate_callee (f := 19) rfl ?_); refine ZG (some 11) Tryd.func19 #[.agg #[.slice A0_0 l0_0.length c0_0], .string a1] rfl ?_; (with_reducible refine (spec_Content.calls k _ _ l0_0 a1 t264 false _ ?side1 ?side2 A3.out).mono ?_); (case side1 => repeat (first | exact (C_below HR0_0.out HB.out) | (with_reducible refine C_alloc ?_ _) | (with_reducible refine C_drewN ?_ _) | (with_reducible refine C_drew ?_))); (case side2 => exact HC0_0.out); rintro e w21 ⟨v265, rfl, ho0, hb⟩; refine ⟨_, rfl, ?_⟩; have HO266 := Zh (R_lower ho0 (below_size Zs)); replace BK262 := Zh (Zm (g := gb262) (o := .cells #[.slice A0_0 l0_0.length c0_0] 29 (0, 0)) Zk hb); replace BK263 := Zh (Zm (g := gb263) (o := .cells #[.slice none 0 0] 29 (0, 0)) Zk hb); replace HB := Zh (Zl Zs hb); (try clear hb); (try clear hb2); (try clear hk); (try clear hi); (try clear ho0); have hcz22_0 : w21.cell? ⟨gb262, 0, none⟩ = some (.slice A0_0 l0_0.length c0_0) := (blk_cell BK262.out 0).trans rfl; have hfz22_0 := Zn BK262.out 0) | ((with_reducible refine gate_callee (f := 66) rfl ?_); refine ZG (some 17) Tryd.func66 #[.agg #[.slice A0_0 l0_0.length c0_0]] rfl ?_; (with_reducible refine (spec_l03Copy.calls k _ _ l0_0 t271 _ ?side1 ?side2 A16.out).mono ?_); (case side1 => repeat (first | exact (C_below HR0_0.out HB.out) | (with_reducible refine C_alloc ?_ _) | (with_reducible refine C_drewN ?_ _) | (with_reducible refine C_drew ?_))); (case side2 => exact HC0_0.out); rintro e w23 ⟨v272, rfl, ho0, hb⟩; refine ⟨_, rfl, ?_⟩; have HO273 := Zh (S_lower (S_new' ho0 (R_lt (ZR HO266.out))) (below_size Zs)); replace HO266 := Zh (R_below (ZR HO266.out) hb); replace BK262 := Zh (Zm (g := gb262) (o := .cells #[.slice A0_0 l0_0.length c0_0] 29 (0, 0)) Zk hb); replace BK263 := Zh (Zm (g := gb263) (o := .cells #[.slice none 0 0] 29 (0, 0)) Zk hb); replace HB := Zh (Zl Zs hb); (try clear hb); (try clear hb2); (try clear hk); (try clear hi); (try clear ho0); obtain ⟨Ao24, co24, eo24⟩ := S_slice HO273.out; subst eo24; have hcz25_0 : w23.cell? ⟨gb263, 0, none⟩ = some (.slice none 0 0) := (blk_cell BK263.out 0).trans rfl; have hfz25_0 := Zn BK263.out 0))
 refine Zq (results_ct rfl _ _ gb263 29 #[.slice Ao24 t271.length co24] (0, 0) _ rfl (by (with_reducible repeat (first | refine Za ?_ _ | refine Zb ?_ | refine blk_alloc ?_ _)); refine blk_put (cs := #[.slice none 0 0]) ?_ 0 _ rfl; (with_reducible repeat (first | refine Za ?_ _ | refine Zb ?_ | refine blk_alloc ?_ _)); exact BK263.out) Tryd.underlying29 rfl (by kernel_rfl)) rfl ?_
 exact ⟨_, ZE, ZS (S_mono (S_far (p := ⟨gb263, 0, none⟩) (S_types HO273.out BK263.out (by decide)) (fun _ hk => hk.2) (.slice Ao24 t271.length co24)) (fun _ hk => trivial)), Zs⟩
end Go.Proofs.YtmgeffgcihfpcaaDoor.F

namespace Go.Proofs.YtmgeffgcihfpcaaDoor.F
open Go.Proofs.YtmgeffgcihfpcaaDoor
open Go.RowKit Go.Proofs.YtmgeffgcihfpcaaDoorW.PrintWords Go.Proofs.YtmgeffgcihfpcaaDoorW.PrintWords.Kd Go.Proofs.YtmgeffgcihfpcaaDoorW.PrintMore.Kd Go.Proofs.YtmgeffgcihfpcaaDoorW.PrintLast Go.Proofs.YtmgeffgcihfpcaaDoorW.PrintMore
attribute [local go_sem] max2_int min2_int max_two min_two max_three min_three max_four min_four   -- for this text's walks alone
set_option linter.unusedVariables false
set_option linter.unusedSimpArgs false
def spec_CutFile.j0 : Nat → ByteArray → Int → List Int → Bool → List (S74) → Option ((List (S74)) × Bool)
 | 0, _, _, _, _, _ => none
 | k + 1, x1, x2, x8, x24, x281000 => if x24 = true then ((spec_l03Copy.f k x281000).bind fun t287 => (some (t287, false))) else (if 0 ≤ x2 then (if x2 ≤ (x8.length : Int) then ((spec_l03Put.f k x281000 x1 (x8.take (x2 : Int).toNat) ([] : List Int)).bind fun t294 => (some (t294, true))) else (none)) else (none))
def spec_CutFile.f (k : Nat) (l0_0 : List (S74)) (a1 : ByteArray) (a2 : Int) : Option ((List (S74)) × Bool) := (spec_Content.f k l0_0 a1).bind fun bt282 => (if bt282.2 = true then ((spec_l01In.f a2 0 (bt282.1.length : Int)).bind fun t286 => (spec_CutFile.j0 k a1 a2 bt282.1 (!t286) l0_0)) else (spec_CutFile.j0 k a1 a2 bt282.1 true l0_0))
def spec_CutFile.T4 : Bool × List (List Nat × List Nat) := (true, [([], []), ([], []), ([], []), ([], []), ([2, 3], [2, 3]), ([1, 4], [1, 4]), ([0, 5], [0, 5]), ([6, 6, 0, 1, 2, 3, 4, 5, 6], [6]), ([7, 0, 1, 2, 3, 4, 5, 6, 7], [])])
def spec_CutFile.B4 : List Nat := [0, 0, 0, 0, 12, 30, 63, 127, 255]
theorem spec_CutFile.tab4 : rtab .any (opsOf Tryd.f30 4) = spec_CutFile.T4 := by kernel_rfl
theorem spec_CutFile.bits4 : waitsOk spec_CutFile.T4.2 spec_CutFile.B4 = true := by kernel_rfl
set_option maxHeartbeats 8000000 in
set_option maxRecDepth 100000 in
theorem spec_CutFile.calls (k : Nat) (A0_0 : Option Addr) (c0_0 : Nat) (l0_0 : List (S74)) (a1 : ByteArray) (a2 : Int) (r1 : List (S74)) (r2 : Bool) (w : World) (hr0_0 : Kd.C k74 w A0_0 l0_0.length l0_0) (hc0_0 : l0_0.length ≤ c0_0) (h : spec_CutFile.f k l0_0 a1 a2 = some (r1, r2)) :
  Calls Tryd.prog 30 #[.agg #[.slice A0_0 l0_0.length c0_0], .string a1, .int .i64 a2] w fun e w' => ∃ v0_ : Value, e = .returned (.tuple #[.agg #[v0_], .bool r2]) ∧ Kd.S k74 74 w' w.heap.size (fun _ => True) v0_ r1 ∧ Below w.heap.size w w' := by
 have hu29 := Tryd.underlying29
 have hu74 := Tryd.underlying74
 have HR0_0 := Zh hr0_0
 have HC0_0 := Zh hc0_0
 clear hr0_0 hc0_0
 have HB := Zh (Below.refl w.heap.size w)
 have H : ((spec_Content.f k l0_0 a1).bind fun bt282 => (if bt282.2 = true then ((spec_l01In.f a2 0 (bt282.1.length : Int)).bind fun t286 => (spec_CutFile.j0 k a1 a2 bt282.1 (!t286) l0_0)) else (spec_CutFile.j0 k a1 a2 bt282.1 true l0_0))) = some (r1, r2) := h
 clear h
 replace H := Option.bind_eq_some_iff.mp H
 obtain ⟨⟨t282, t285⟩, A40, H⟩ := H
 replace H : (if t285 = true then ((spec_l01In.f a2 0 (t282.length : Int)).bind fun t286 => (spec_CutFile.j0 k a1 a2 t282 (!t286) l0_0)) else (spec_CutFile.j0 k a1 a2 t282 true l0_0)) = some (r1, r2) := H
 have A4 := Zh A40
 clear A40
 have HC5 := Zh H
 clear H
 go_enter Tryd.func30, Tryd.ntmps30
 go_upto_region 2 with (first | ((with_reducible refine gate_dst (N := 3) rfl ?_); (try (refine gate_guard (by rfl) ?_; dsimp only)); refine box_event ?hg (N := 3) ?hd (cs := #[.slice A0_0 l0_0.length c0_0]) (t := 29) ?hr ?_; (case hd => rfl); (case hg => rfl); (case hr => first | (go_simp; done) | (go_simp; rfl)); intro gb280 hg w6 hbox hb; have BK280 := Zh (hbox); have GW280 := Zh ((by rw [hg]; exact (below_size Zs) : w.heap.size ≤ gb280)); have GE280 := Zh ((by rw [hg]; exact (below_size Zs) : w.heap.size ≤ gb280)); replace HB := Zh (Zl Zs hb); clear hb hbox hg) | ((with_reducible refine gate_dst (N := 6) rfl ?_); (try (refine gate_guard (by rfl) ?_; dsimp only)); refine box_event ?hg (N := 6) ?hd (cs := #[.slice none 0 0]) (t := 29) ?hr ?_; (case hd => rfl); (case hg => rfl); (case hr => first | (go_simp; done) | (go_simp; rfl)); intro gb281 hg w7 hbox hb; have BK281 := Zh (hbox); have GW281 := Zh ((by rw [hg]; exact (below_size Zs) : w.heap.size ≤ gb281)); have GE281 := Zh ((by rw [hg]; exact (below_size Zs) : w.heap.size ≤ gb281)); replace HB := Zh (Zl Zs hb); have NB280_281 := Zh ((by rw [hg]; exact Nat.ne_of_lt (blk_lt (g := gb280) (o := .cells #[.slice A0_0 l0_0.length c0_0] 29 (0, 0)) Zk) : gb280 ≠ gb281)); have NB281_280 := Zh ((by rw [hg]; exact Nat.ne_of_gt (blk_lt (g := gb280) (o := .cells #[.slice A0_0 l0_0.length c0_0] 29 (0, 0)) Zk) : gb281 ≠ gb280)); replace BK280 := Zh (Zm (g := gb280) (o := .cells #[.slice A0_0 l0_0.length c0_0] 29 (0, 0)) Zk hb); clear hb hbox hg; have hnb8 := NB280_281.out; have hnc8 := NB281_280.out; have hcz9_0 : w7.cell? ⟨gb280, 0, none⟩ = some (.slice A0_0 l0_0.length c0_0) := (blk_cell BK280.out 0).trans rfl; have hfz9_0 := Zn BK280.out 0) | ((with_reducible refine gate_callee (f := 19) rfl ?_); refine ZG (some 13) Tryd.func19 #[.agg #[.slice A0_0 l0_0.length c0_0], .string a1] rfl ?_; (with_reducible refine (spec_Content.calls k _ _ l0_0 a1 t282 t285 _ ?side1 ?side2 A4.out).mono ?_); (case side1 => repeat (first | exact (C_below HR0_0.out HB.out) | (with_reducible refine C_alloc ?_ _) | (with_reducible refine C_drewN ?_ _) | (with_reducible refine C_drew ?_))); (case side2 => exact HC0_0.out); rintro e w10 ⟨v283, rfl, ho0, hb⟩; refine ⟨_, rfl, ?_⟩; have HO284 := Zh (R_lower ho0 (below_size Zs)); replace BK280 := Zh (Zm (g := gb280) (o := .cells #[.slice A0_0 l0_0.length c0_0] 29 (0, 0)) Zk hb); replace BK281 := Zh (Zm (g := gb281) (o := .cells #[.slice none 0 0] 29 (0, 0)) Zk hb); replace HB := Zh (Zl Zs hb); (try clear hb); (try clear hb2); (try clear hk); (try clear hi); (try clear ho0)))
 (try simp only [Act.put, List.setIfInBounds_toArray, List.set_cons_zero, List.set_cons_succ])
 go_cut [24] (fun v24 wc => ∃ (kq : Nat) (x24_4 : Bool), v24 = .bool x24_4 ∧ Aside0 (spec_CutFile.j0 kq a1 a2 t282 x24_4 l0_0 = some (r1, r2)) ∧ Aside0 (kq ≤ k) ∧ Aside0 (Kd.R (Kd.int .u8) 5 wc w.heap.size (fun _ => True) v283 t282) ∧ Aside0 (wc.heap[gb280]? = some (.cells #[(.slice A0_0 l0_0.length c0_0)] 29 (0, 0))) ∧ Aside0 (wc.heap[gb281]? = some (.cells #[(.slice none 0 0)] 29 (0, 0))) ∧ Aside0 (Below w.heap.size w wc))
 case first =>
  have H := HC5.out
  clear HC5
  by_cases c11 : t285 = true
  ·
   subst c11
   have H1 : ((spec_l01In.f a2 0 (t282.length : Int)).bind fun t286 => (spec_CutFile.j0 k a1 a2 t282 (!t286) l0_0)) = some (r1, r2) := by rw [if_pos rfl] at H; exact H
   clear H
   have H := H1
   clear H1
   replace H := Option.bind_eq_some_iff.mp H
   obtain ⟨t286, A120, H⟩ := H
   replace H : (spec_CutFile.j0 k a1 a2 t282 (!t286) l0_0) = some (r1, r2) := H
   have A12 := Zh A120
   clear A120
   have H' := Zh H
   clear H
   obtain ⟨Ao13, co13, eo13⟩ := R_slice HO284.out
   subst eo13
   go_wp2_with (first | (go_at_call 72; (with_reducible refine (spec_l01In.calls a2 0 (t282.length : Int) t286 _ A12.out).mono ?_); rintro e w' ⟨rfl, ⟨nd, rfl⟩⟩))
   go_meet
   case rel => exact ⟨_, (!t286), (by first | rfl | (simp; done) | (simp [*]; done)), H', ⟨by first | omega | exact Nat.le_refl _⟩, ⟨ZR HO284.out⟩, ⟨Zk⟩, ⟨Zk⟩, ⟨Zs⟩⟩
  replace c11 := Bool.eq_false_iff.mpr c11
  subst c11
  have H1 : (spec_CutFile.j0 k a1 a2 t282 true l0_0) = some (r1, r2) := by rw [if_neg (show ¬ (false = true) by decide)] at H; exact H
  clear H
  have H := H1
  clear H1
  have H' := Zh H
  clear H
  go_wp2
  go_meet
  case rel => exact ⟨_, (true), (by first | rfl | (simp; done) | (simp [*]; done)), H', ⟨by first | omega | exact Nat.le_refl _⟩, ⟨ZR HO284.out⟩, ⟨Zk⟩, ⟨Zk⟩, ⟨Zs⟩⟩
 case rest =>
  clear HC5
  try clear c1
  try clear p2
  try clear c3
  try clear c8
  try clear c11
  try clear hcz9_0
  try clear hfz9_0
  obtain ⟨kq, x24_4, rfl, HA, HJ4, HO_8, BK280, BK281, HB⟩ := hcut
  cases kq with
  | zero => exact absurd HA.out (by simp [spec_CutFile.j0])
  | succ kj4 =>
   have H := HA.out
   clear HA
   simp only [spec_CutFile.j0] at H
   by_cases c14 : x24_4 = true
   ·
    subst c14
    have H1 : ((spec_l03Copy.f kj4 l0_0).bind fun t287 => (some (t287, false))) = some (r1, r2) := by rw [if_pos rfl] at H; exact H
    clear H
    have H := H1
    clear H1
    replace H := Option.bind_eq_some_iff.mp H
    obtain ⟨t287, A150, H⟩ := H
    replace H : (some (t287, false)) = some (r1, r2) := H
    have A15 := Zh A150
    clear A150
    simp only [Option.some.injEq, Prod.mk.injEq] at H
    obtain ⟨rfl, rfl⟩ := H
    have hnb16 := NB280_281.out
    have hnc16 := NB281_280.out
    have hcz17_0 : wc.cell? ⟨gb280, 0, none⟩ = some (.slice A0_0 l0_0.length c0_0) := (blk_cell BK280.out 0).trans rfl
    have hfz17_0 := Zn BK280.out 0
    go_wp2_with (first | ((with_reducible refine gate_callee (f := 66) rfl ?_); refine ZG (some 26) Tryd.func66 #[.agg #[.slice A0_0 l0_0.length c0_0]] rfl ?_; (with_reducible refine (spec_l03Copy.calls kj4 _ _ l0_0 t287 _ ?side1 ?side2 A15.out).mono ?_); (case side1 => repeat (first | exact (C_below HR0_0.out HB.out) | (with_reducible refine C_alloc ?_ _) | (with_reducible refine C_drewN ?_ _) | (with_reducible refine C_drew ?_))); (case side2 => exact HC0_0.out); rintro e w18 ⟨v288, rfl, ho0, hb⟩; refine ⟨_, rfl, ?_⟩; have HO289 := Zh (S_lower (S_new' ho0 (R_lt (ZR HO_8.out))) (below_size Zs)); replace HO_8 := Zh (R_below (ZR HO_8.out) hb); replace BK280 := Zh (Zm (g := gb280) (o := .cells #[.slice A0_0 l0_0.length c0_0] 29 (0, 0)) Zk hb); replace BK281 := Zh (Zm (g := gb281) (o := .cells #[.slice none 0 0] 29 (0, 0)) Zk hb); replace HB := Zh (Zl Zs hb); (try clear hb); (try clear hb2); (try clear hk); (try clear hi); (try clear ho0); obtain ⟨Ao19, co19, eo19⟩ := S_slice HO289.out; subst eo19; have hcz20_0 : w18.cell? ⟨gb281, 0, none⟩ = some (.slice none 0 0) := (blk_cell BK281.out 0).trans rfl; have hfz20_0 := Zn BK281.out 0))
    refine Zq (results_ct rfl _ _ gb281 29 #[.slice Ao19 t287.length co19] (0, 0) _ rfl (by (with_reducible repeat (first | refine Za ?_ _ | refine Zb ?_ | refine blk_alloc ?_ _)); refine blk_put (cs := #[.slice none 0 0]) ?_ 0 _ rfl; (with_reducible repeat (first | refine Za ?_ _ | refine Zb ?_ | refine blk_alloc ?_ _)); exact BK281.out) Tryd.underlying29 rfl (by kernel_rfl)) rfl ?_
    exact ⟨_, ZE, ZS (S_mono (S_far (p := ⟨gb281, 0, none⟩) (S_types HO289.out BK281.out (by decide)) (fun _ hk => hk.2) (.slice Ao19 t287.length co19)) (fun _ hk => trivial)), Zs⟩
   replace c14 := Bool.eq_false_iff.mpr c14
   subst c14
   have H1 : (if 0 ≤ a2 then (if a2 ≤ (t282.length : Int) then ((spec_l03Put.f kj4 l0_0 a1 (t282.take (a2 : Int).toNat) ([] : List Int)).bind fun t294 => (some (t294, true))) else (none)) else (none)) = some (r1, r2) := by rw [if_neg (show ¬ (false = true) by decide)] at H; exact H
   clear H
   have H := H1
   clear H1
   by_cases c21 : 0 ≤ a2
   ·
    rw [if_pos c21] at H
    have c21b0 := eq_true c21
    have c21b1 : decide (0 ≤ a2) = true := decide_eq_true c21
    clear c21
    by_cases c22 : a2 ≤ (t282.length : Int)
    ·
     rw [if_pos c22] at H
     have c22b0 := eq_true c22
     have c22b1 : decide (a2 ≤ (t282.length : Int)) = true := decide_eq_true c22
     clear c22
     obtain ⟨y290, hy290⟩ : ∃ y_ : List Int, y_ = (t282.take (a2 : Int).toNat) := ⟨_, rfl⟩
     replace H : ((spec_l03Put.f kj4 l0_0 a1 y290 ([] : List Int)).bind fun t294 => (some (t294, true))) = some (r1, r2) := by first | (rw [hy290]; with_reducible exact H) | (have H2_ := (Option.bind_some _ _).symm.trans H; rw [hy290]; with_reducible exact H2_) | (have H2_ := (Option.bind_some _ _).symm.trans H; with_reducible exact H2_) | with_reducible exact H | (rw [hy290]; exact H) | exact H
     have Ny290 := Zh hy290
     clear hy290
     replace H := Option.bind_eq_some_iff.mp H
     obtain ⟨t294, A230, H⟩ := H
     replace H : (some (t294, true)) = some (r1, r2) := H
     have A23 := Zh A230
     clear A230
     simp only [Option.some.injEq, Prod.mk.injEq] at H
     obtain ⟨rfl, rfl⟩ := H
     try go_wp2
     replace HO_8 := Zh (R_drew HO_8.out)
     replace BK280 := Zh (Zb BK280.out)
     replace BK281 := Zh (Zb BK281.out)
     replace HB := Zh (Ze HB.out)
     obtain ⟨Ao26, co26, eo26⟩ := R_slice HO_8.out
     (first | subst eo26 | (injection eo26 with f1_ f2_ f3_; have f4_ := f1_.symm; have f5_ := f3_.symm; clear f1_ f2_ f3_; subst f4_; subst f5_))
     have q25 : (a2 : Int) ≤ ((t282.length : Int) : Int) := Zo
     obtain ⟨i025, hi025, _, hsz25, _⟩ := info_parts info5
     have hroom25 : t282.length ≤ co26 := (R_reads' HO_8.out).2.1
     have hC25 : Kd.C (Kd.int .u8) _ Ao26 t282.length t282 := (R_reads' HO_8.out).2.2
     have hcut25 := cut_to (P := Tryd.prog) 33 5 .i64 Tryd.underlying33 hi025 Ao26 t282.length co26 a2 (Zo) q25 hroom25
     have hr25 := C_take (m := (a2 : Int).toNat) hC25 (by omega)
     have hy25 : y290.length = (a2 : Int).toNat := (by rw [Ny290.out, List.length_take]; omega)
     rw [← Ny290.out] at hr25
     rw [← hy25] at hcut25
     have HR293 := Zh hr25
     have HC293 := Zh (show y290.length ≤ co26 from by omega)
     clear hr25 hC25 hroom25 hi025 hsz25
     have KY25 := Zh hy25
     clear hy25
     have KL25 := Zh (show (a2 : Int).toNat ≤ t282.length from by omega)
     replace q25 := eq_true q25
     refine start_ (n := 9) (S := fun w' => w'.cell? ⟨gb280, 0, none⟩ = some (.slice A0_0 l0_0.length c0_0)) (ds := []) #[false, false, false, false, false, false, false, false, false] (by kernel_rfl) rfl rfl ((blk_cell BK280.out 0).trans rfl) (fun hHeld => ?_); refine with_tabW spec_CutFile.tab4 spec_CutFile.bits4 (fun HT_ HW_ => ?_)
     generalize wc.drew = w24 at HO_8 BK280 BK281 HB HR293 hHeld ⊢
     refine SQ.pu 1 28 HT_ ?_
     refine SQ.pu 2 29 HT_ ?_
     refine SQ.pu 3 30 HT_ ?_
     refine SQ.pu 4 31 HT_ ?_
     refine SQ.pu 5 32 HT_ ?_
     refine take_ (i := 0) (N := some 27) (v := ?_) (a' := ?_) #[true, true, true, true, true, true, false, false, false] rfl rfl (take_ofW HT_.out HW_.out (by kernel_rfl)) (fun _ _ _ h => h) (Or.inl ⟨by rfl, ?_⟩) hHeld ?_ ?_
     rotate_left
     ·
      intro w' s0
      go_simp
      with_reducible rfl
     rotate_left
     ·
      simp only [Act.put, List.setIfInBounds_toArray, List.set_cons_zero, List.set_cons_succ, i64_w, i32_w]
      rfl
     refine one_ (i := 6) (N := some 33) #[true, true, true, true, true, true, true, false, false] rfl rfl (one_of HT_.out (by kernel_rfl)) (by decide) (fun K hK => ?_)
     refine goes_ Tryd.func70 (by kernel_rfl) rfl #[.agg #[.slice A0_0 l0_0.length c0_0], .agg #[.string a1, .slice Ao26 y290.length co26, .slice none 0 0]] (by rfl) rfl rfl (by (try simp only [List.map_toArray, List.map_cons, List.map_nil]); first | done | rfl | (simp only [List.length_drop, List.length_take]; rfl)) ?_
     refine (spec_l03Put.calls kj4 _ _ l0_0 a1 _ _ y290 _ _ ([] : List Int) t294 _ ?side1 ?side2 ?side3 ?side4 ?side5 ?side6 A23.out).mono ?_
     (case side1 => repeat (first | exact (C_below HR0_0.out HB.out) | (with_reducible refine C_alloc ?_ _) | (with_reducible refine C_drewN ?_ _) | (with_reducible refine C_drew ?_)))
     (case side2 => exact HC0_0.out)
     (case side3 => repeat (first | exact (by repeat (first | (with_reducible exact HR293.out) | (with_reducible refine C_alloc ?_ _) | (with_reducible refine C_drewN ?_ _) | (with_reducible refine C_drew ?_) | exact HR293.out)) | (with_reducible refine C_alloc ?_ _) | (with_reducible refine C_drewN ?_ _) | (with_reducible refine C_drew ?_)))
     (case side4 => exact HC293.out)
     (case side5 => exact C_nil _ _)
     (case side6 => exact Nat.le_refl _)
     rintro e w27 ⟨v295, rfl, ho0, hb⟩
     refine ⟨_, rfl, ?_⟩
     have HO296 := Zh (S_lower (S_new' ho0 (R_lt (ZR HO_8.out))) (below_size Zs))
     replace HO_8 := Zh (R_below (ZR HO_8.out) hb)
     replace BK280 := Zh (Zm (g := gb280) (o := .cells #[.slice A0_0 l0_0.length c0_0] 29 (0, 0)) Zk hb)
     replace BK281 := Zh (Zm (g := gb281) (o := .cells #[.slice none 0 0] 29 (0, 0)) Zk hb)
     replace HR293 := Zh (C_below (by repeat (first | (with_reducible exact HR293.out) | (with_reducible refine C_alloc ?_ _) | (with_reducible refine C_drewN ?_ _) | (with_reducible refine C_drew ?_) | exact HR293.out)) hb)
     replace HB := Zh (Zl Zs hb)
     (try clear hb)
     (try clear hb2)
     (try clear hk)
     (try clear hi)
     (try clear ho0)
     obtain ⟨Ao28, co28, eo28⟩ := S_slice HO296.out
     (first | subst eo28 | (injection eo28 with f1_ f2_ f3_; have f4_ := f1_.symm; have f5_ := f3_.symm; clear f1_ f2_ f3_; subst f4_; subst f5_))
     refine hK.out _ _ ((blk_cell BK280.out 0).trans rfl) (fun hHeld => ?_)
     clear hK K
     refine norm_ (a' := ?_) ?_ ?_
     rotate_left
     ·
      show Act.put _ (some 33) _ = _
      simp only [Act.put, List.setIfInBounds_toArray, List.set_cons_zero, List.set_cons_succ, i64_w, i32_w]
      rfl
     refine one_ (i := 7) (N := none) #[true, true, true, true, true, true, true, true, false] rfl rfl (one_of HT_.out (by kernel_rfl)) (by decide) (fun K hK => ?_)
     have hs29 : w27.cell? ⟨gb281, 0, none⟩ = some (.slice none 0 0) := (blk_cell BK281.out 0).trans rfl
     have hfs29 := Zn BK281.out 0
     have hns29_0 := NB280_281.out
     have hms29_0 := NB281_280.out
     refine skip_ (w1 := ?_) (by rfl) rfl ?_ ?_
     rotate_left
     ·
      go_simp
      rfl
     refine hK.out _ _ (((cell_far (p := ⟨gb281, _, none⟩) NB280_281.out _).trans (hHeld))) (fun hHeld => ?_)
     clear hK K
     refine SQ.pu 8 7 HT_ ?_
     refine done_ (done_of HT_.out (by kernel_rfl)) ?_
     try go_wp2
     refine Zq (results_ct rfl _ _ gb281 29 #[.slice Ao28 t294.length co28] (0, 0) _ rfl (by (with_reducible repeat (first | refine Za ?_ _ | refine Zb ?_ | refine blk_alloc ?_ _)); refine blk_put (cs := #[.slice none 0 0]) ?_ 0 _ rfl; (with_reducible repeat (first | refine Za ?_ _ | refine Zb ?_ | refine blk_alloc ?_ _)); exact BK281.out) Tryd.underlying29 rfl (by kernel_rfl)) rfl ?_
     exact ⟨_, ZE, ZS (S_mono (S_far (p := ⟨gb281, 0, none⟩) (S_types HO296.out BK281.out (by decide)) (fun _ hk => hk.2) (.slice Ao28 t294.length co28)) (fun _ hk => trivial)), Zs⟩
    rw [if_neg c22] at H
    exact absurd H (by simp)
   rw [if_neg c21] at H
   exact absurd H (by simp)
end Go.Proofs.YtmgeffgcihfpcaaDoor.F
