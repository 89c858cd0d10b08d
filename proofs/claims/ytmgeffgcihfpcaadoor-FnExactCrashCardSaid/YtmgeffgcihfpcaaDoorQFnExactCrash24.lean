/- Merged texts below the law FnExactCrash: Go functions as Lean functions, their contracts, and plain lemmas. -/
import Derived.Test.YtmgeffgcihfpcaaDoorQFnExactCrash23
namespace Go.Proofs.YtmgeffgcihfpcaaDoor.F
open Go.RowKit Go.Proofs.YtmgeffgcihfpcaaDoorW.PrintWords Go.Proofs.YtmgeffgcihfpcaaDoorW.PrintWords.Kd Go.Proofs.YtmgeffgcihfpcaaDoorW.PrintMore.Kd Go.Proofs.YtmgeffgcihfpcaaDoorW.PrintLast Go.Proofs.YtmgeffgcihfpcaaDoorW.PrintMore
attribute [local go_sem] max2_int min2_int max_two min_two max_three min_three max_four min_four   -- for this text's walks alone
set_option linter.unusedVariables false
set_option linter.unusedSimpArgs false
def laws_eqByteS.l0 : Nat → List Int → List Int → Int → Option (Bool)
 | 0, _, _, _ => none
 | k + 1, x0, x1, x5 => if x5 < (x0.length : Int) then (if 0 ≤ x5 then (if x5 < (x1.length : Int) then (if (rd x0 x5) = (rd x1 x5) then (laws_eqByteS.l0 k x0 x1 (wrap64 (x5 + 1))) else (some false)) else (none)) else (none)) else (some true)
def laws_eqByteS.f (k : Nat) (l0 : List Int) (l1 : List Int) : Option (Bool) := if (l0.length : Int) = (l1.length : Int) then (laws_eqByteS.l0 k l0 l1 0) else (some false)
set_option maxHeartbeats 8000000 in
set_option maxRecDepth 100000 in
theorem laws_eqByteS.calls (k : Nat) (A0 : Option Addr) (c0 : Nat) (l0 : List Int) (A1 : Option Addr) (c1 : Nat) (l1 : List Int) (r : Bool) (w : World) (hr0 : Kd.C (Kd.int .u8) w A0 l0.length l0) (hc0 : l0.length ≤ c0) (hr1 : Kd.C (Kd.int .u8) w A1 l1.length l1) (hc1 : l1.length ≤ c1) (h : laws_eqByteS.f k l0 l1 = some r) :
  Calls Tryd.prog 21 #[.slice A0 l0.length c0, .slice A1 l1.length c1] w fun e w' => e = .returned (.bool r) ∧ Drawn0 w w' := by
 have HR0 := Zh hr0
 have HC0 := Zh hc0
 clear hr0 hc0
 have HR1 := Zh hr1
 have HC1 := Zh hc1
 clear hr1 hc1
 have H : (if (l0.length : Int) = (l1.length : Int) then (laws_eqByteS.l0 k l0 l1 0) else (some false)) = some r := h
 clear h
 by_cases c3 : (l0.length : Int) = (l1.length : Int)
 ·
  rw [if_pos c3] at H
  have c3b0 : ((l0.length : Int) == (l1.length : Int)) = true := beq_iff_eq.mpr c3
  have c3b1 : ((l0.length : Int) != (l1.length : Int)) = false := bne_eq_false_iff_eq.mpr c3
  have c3b2 : (l0.length == l1.length) = true := by first | simpa using c3 | (simp at c3 ⊢; omega)
  clear c3
  have H' := Zh H
  clear H
  go_enter Tryd.func21, Tryd.ntmps21
  go_wp2
  repeat (go_quiet (fail); try go_wp2)
  go_loopg [5] k (fun kq v5 w' => ∃ (x5_1 : Int), v5 = .int .i64 x5_1 ∧ Aside0 (laws_eqByteS.l0 kq l0 l1 x5_1 = some r) ∧ Aside0 (kq ≤ k) ∧ Drawn0 w w')
  case atStart => exact ⟨(0), (by first | rfl | (simp; done) | (simp [*]; done)), H', ⟨Nat.le_refl _⟩, by repeat (first | exact Drawn0.refl _ | apply Drawn0.step)⟩
  case round =>
   clear H'
   try clear c1
   try clear c2
   try clear p2
   try clear c3
   try clear c3b0
   try clear c3b1
   try clear c3b2
   obtain ⟨x5_1, rfl, HA, HK1, ⟨m1, rfl⟩⟩ := hrel
   cases gk with
   | zero => exact absurd HA.out (by simp [laws_eqByteS.l0])
   | succ k1 =>
    have H := HA.out
    clear HA
    simp only [laws_eqByteS.l0] at H
    by_cases c4 : x5_1 < (l0.length : Int)
    ·
     rw [if_pos c4] at H
     have c4b0 : decide (x5_1 < (l0.length : Int)) = true := decide_eq_true c4
     clear c4
     by_cases c5 : 0 ≤ x5_1
     ·
      rw [if_pos c5] at H
      have c5b0 : decide (0 ≤ x5_1) = true := decide_eq_true c5
      clear c5
      by_cases c6 : x5_1 < (l1.length : Int)
      ·
       rw [if_pos c6] at H
       have c6b0 : decide (x5_1 < (l1.length : Int)) = true := decide_eq_true c6
       clear c6
       by_cases c7 : (rd l0 x5_1) = (rd l1 x5_1)
       ·
        rw [if_pos c7] at H
        have c7b0 : ((rd l0 x5_1) == (rd l1 x5_1)) = true := beq_iff_eq.mpr c7
        have c7b1 : ((rd l0 x5_1) != (rd l1 x5_1)) = false := bne_eq_false_iff_eq.mpr c7
        clear c7
        have H' := Zh H
        clear H
        have p155 : 0 ≤ (x5_1 : Int) := Zo
        have q155 : x5_1 < (l0.length : Int) := Zo
        obtain ⟨ad155, e155, hx155_0⟩ := Kd.at_int HR0.out x5_1 p155 q155
        cases e155
        replace p155 := eq_true p155
        replace q155 := eq_true q155
        have p156 : 0 ≤ (x5_1 : Int) := Zo
        have q156 : x5_1 < (l1.length : Int) := Zo
        obtain ⟨ad156, e156, hx156_0⟩ := Kd.at_int HR1.out x5_1 p156 q156
        cases e156
        replace p156 := eq_true p156
        replace q156 := eq_true q156
        go_wp2
        repeat (go_quiet (fail); try go_wp2)
        go_roundg k1
        case measure => have := HK1.out; omega
        case rel => exact ⟨(wrap64 (x5_1 + 1)), (by first | rfl | (simp; done) | (simp [*]; done)), H', ⟨by have := HK1.out; omega⟩, by repeat (first | exact Drawn0.refl _ | apply Drawn0.step)⟩
       rw [if_neg c7] at H
       have c7b0 : ((rd l0 x5_1) == (rd l1 x5_1)) = false := beq_eq_false_iff_ne.mpr c7
       have c7b1 : ((rd l0 x5_1) != (rd l1 x5_1)) = true := bne_iff_ne.mpr c7
       obtain rfl := Option.some.inj H
       have p155 : 0 ≤ (x5_1 : Int) := Zo
       have q155 : x5_1 < (l0.length : Int) := Zo
       obtain ⟨ad155, e155, hx155_0⟩ := Kd.at_int HR0.out x5_1 p155 q155
       cases e155
       replace p155 := eq_true p155
       replace q155 := eq_true q155
       have p156 : 0 ≤ (x5_1 : Int) := Zo
       have q156 : x5_1 < (l1.length : Int) := Zo
       obtain ⟨ad156, e156, hx156_0⟩ := Kd.at_int HR1.out x5_1 p156 q156
       cases e156
       replace p156 := eq_true p156
       replace q156 := eq_true q156
       go_wp2
       repeat (go_quiet (fail); try go_wp2)
       go_ret
       exact ⟨by first | rfl | (simp; done) | (simp [*]; done), by repeat (first | exact Drawn0.refl _ | apply Drawn0.step)⟩
      rw [if_neg c6] at H
      exact absurd H (by simp)
     rw [if_neg c5] at H
     exact absurd H (by simp)
    rw [if_neg c4] at H
    have c4b0 : decide (x5_1 < (l0.length : Int)) = false := decide_eq_false c4
    clear c4
    obtain rfl := Option.some.inj H
    go_wp2
    repeat (go_quiet (fail); try go_wp2)
    go_ret
    exact ⟨by first | rfl | (simp; done) | (simp [*]; done), by repeat (first | exact Drawn0.refl _ | apply Drawn0.step)⟩
 rw [if_neg c3] at H
 have c3b0 : ((l0.length : Int) == (l1.length : Int)) = false := beq_eq_false_iff_ne.mpr c3
 have c3b1 : ((l0.length : Int) != (l1.length : Int)) = true := bne_iff_ne.mpr c3
 have c3b2 : (l0.length == l1.length) = false := by first | simpa using c3 | (simp at c3 ⊢; omega)
 obtain rfl := Option.some.inj H
 go_enter Tryd.func21, Tryd.ntmps21
 go_wp2
 repeat (go_quiet (fail); try go_wp2)
 go_ret
 exact ⟨by first | rfl | (simp; done) | (simp [*]; done), by repeat (first | exact Drawn0.refl _ | apply Drawn0.step)⟩
def laws_eqFile.f (k : Nat) (a0_0 : ByteArray) (l0_1 : List Int) (l0_2 : List Int) (a1_0 : ByteArray) (l1_1 : List Int) (l1_2 : List Int) : Option (Bool) := if a0_0.toList = a1_0.toList then ((laws_eqByteS.f k l0_1 l1_1).bind fun t159 => (if t159 = true then ((laws_eqByteS.f k l0_2 l1_2).bind fun t160 => (if t160 = true then (some true) else (some false))) else (some false))) else (some false)
set_option maxHeartbeats 8000000 in
set_option maxRecDepth 100000 in
theorem laws_eqFile.calls (k : Nat) (a0_0 : ByteArray) (A0_1 : Option Addr) (c0_1 : Nat) (l0_1 : List Int) (A0_2 : Option Addr) (c0_2 : Nat) (l0_2 : List Int) (a1_0 : ByteArray) (A1_1 : Option Addr) (c1_1 : Nat) (l1_1 : List Int) (A1_2 : Option Addr) (c1_2 : Nat) (l1_2 : List Int) (r : Bool) (w : World) (hr0_1 : Kd.C (Kd.int .u8) w A0_1 l0_1.length l0_1) (hc0_1 : l0_1.length ≤ c0_1) (hr0_2 : Kd.C (Kd.int .u8) w A0_2 l0_2.length l0_2) (hc0_2 : l0_2.length ≤ c0_2) (hr1_1 : Kd.C (Kd.int .u8) w A1_1 l1_1.length l1_1) (hc1_1 : l1_1.length ≤ c1_1) (hr1_2 : Kd.C (Kd.int .u8) w A1_2 l1_2.length l1_2) (hc1_2 : l1_2.length ≤ c1_2) (h : laws_eqFile.f k a0_0 l0_1 l0_2 a1_0 l1_1 l1_2 = some r) :
  Calls Tryd.prog 92 #[.agg #[.string a0_0, .slice A0_1 l0_1.length c0_1, .slice A0_2 l0_2.length c0_2], .agg #[.string a1_0, .slice A1_1 l1_1.length c1_1, .slice A1_2 l1_2.length c1_2]] w fun e w' => e = .returned (.bool r) ∧ Below w.heap.size w w' := by
 have hu74 := Tryd.underlying74
 have HR0_1 := Zh hr0_1
 have HC0_1 := Zh hc0_1
 clear hr0_1 hc0_1
 have HR0_2 := Zh hr0_2
 have HC0_2 := Zh hc0_2
 clear hr0_2 hc0_2
 have HR1_1 := Zh hr1_1
 have HC1_1 := Zh hc1_1
 clear hr1_1 hc1_1
 have HR1_2 := Zh hr1_2
 have HC1_2 := Zh hc1_2
 clear hr1_2 hc1_2
 have HB := Zh (Below.refl w.heap.size w)
 have H : (if a0_0.toList = a1_0.toList then ((laws_eqByteS.f k l0_1 l1_1).bind fun t159 => (if t159 = true then ((laws_eqByteS.f k l0_2 l1_2).bind fun t160 => (if t160 = true then (some true) else (some false))) else (some false))) else (some false)) = some r := h
 clear h
 by_cases c3 : a0_0.toList = a1_0.toList
 ·
  rw [if_pos c3] at H
  have c3b0 : (a0_0.toList == a1_0.toList) = true := beq_iff_eq.mpr c3
  have c3b1 : (a0_0.toList != a1_0.toList) = false := bne_eq_false_iff_eq.mpr c3
  clear c3
  replace H := Option.bind_eq_some_iff.mp H
  obtain ⟨t159, A40, H⟩ := H
  replace H : (if t159 = true then ((laws_eqByteS.f k l0_2 l1_2).bind fun t160 => (if t160 = true then (some true) else (some false))) else (some false)) = some r := H
  have A4 := Zh A40
  clear A40
  by_cases c5 : t159 = true
  ·
   subst c5
   have H1 : ((laws_eqByteS.f k l0_2 l1_2).bind fun t160 => (if t160 = true then (some true) else (some false))) = some r := by rw [if_pos rfl] at H; exact H
   clear H
   have H := H1
   clear H1
   replace H := Option.bind_eq_some_iff.mp H
   obtain ⟨t160, A60, H⟩ := H
   replace H : (if t160 = true then (some true) else (some false)) = some r := H
   have A6 := Zh A60
   clear A60
   by_cases c7 : t160 = true
   ·
    subst c7
    have H1 : (some true) = some r := by rw [if_pos rfl] at H; exact H
    clear H
    have H := H1
    clear H1
    obtain rfl := Option.some.inj H
    go_enter Tryd.func92, Tryd.ntmps92
    go_wp2_with (first | ((with_reducible refine gate_dst (N := 2) rfl ?_); refine box_event ?hg (N := 2) ?hd (cs := #[.string a0_0, .slice A0_1 l0_1.length c0_1, .slice A0_2 l0_2.length c0_2]) (t := 74) ?hr ?_; (case hd => rfl); (case hg => rfl); (case hr => first | (go_simp; done) | (go_simp; rfl)); intro gb157 hg w8 hbox hb; have n0_ := Zh (Zl Zs hb); have n1_ := Zh (hbox); have n2_ := Zh ((by rw [hg]; exact (below_size Zs) : w.heap.size ≤ gb157)); have n3_ := Zh ((by rw [hg]; exact (below_size Zs) : w.heap.size ≤ gb157)); clear HB; have HB := n0_; have BK157 := n1_; have GW157 := n2_; have GE157 := n3_; clear n0_ n1_ n2_ n3_; clear hb hbox hg) | ((with_reducible refine gate_dst (N := 3) rfl ?_); refine box_event ?hg (N := 3) ?hd (cs := #[.string a1_0, .slice A1_1 l1_1.length c1_1, .slice A1_2 l1_2.length c1_2]) (t := 74) ?hr ?_; (case hd => rfl); (case hg => rfl); (case hr => first | (go_simp; done) | (go_simp; rfl)); intro gb158 hg w9 hbox hb; have n0_ := Zh (Zm (g := gb157) (o := .cells #[.string a0_0, .slice A0_1 l0_1.length c0_1, .slice A0_2 l0_2.length c0_2] 74 (0, 0)) Zk hb); have n1_ := Zh (Zl Zs hb); have n2_ := Zh (hbox); have n3_ := Zh ((by rw [hg]; exact (below_size Zs) : w.heap.size ≤ gb158)); have n4_ := Zh ((by rw [hg]; exact (below_size Zs) : w.heap.size ≤ gb158)); have n5_ := Zh ((by rw [hg]; exact Nat.ne_of_lt (blk_lt (g := gb157) (o := .cells #[.string a0_0, .slice A0_1 l0_1.length c0_1, .slice A0_2 l0_2.length c0_2] 74 (0, 0)) Zk) : gb157 ≠ gb158)); have n6_ := Zh ((by rw [hg]; exact Nat.ne_of_gt (blk_lt (g := gb157) (o := .cells #[.string a0_0, .slice A0_1 l0_1.length c0_1, .slice A0_2 l0_2.length c0_2] 74 (0, 0)) Zk) : gb158 ≠ gb157)); clear BK157; clear HB; have BK157 := n0_; have HB := n1_; have BK158 := n2_; have GW158 := n3_; have GE158 := n4_; have NB157_158 := n5_; have NB158_157 := n6_; clear n0_ n1_ n2_ n3_ n4_ n5_ n6_; clear hb hbox hg; have hnb10 := NB157_158.out; have hnc10 := NB158_157.out; have hcz11_0 : w9.cell? ⟨gb157, 0, none⟩ = some (.string a0_0) := (blk_cell BK157.out 0).trans rfl; have hcz11_1 : w9.cell? ⟨gb157, 1, none⟩ = some (.slice A0_1 l0_1.length c0_1) := (blk_cell BK157.out 1).trans rfl; have hcz11_2 : w9.cell? ⟨gb157, 2, none⟩ = some (.slice A0_2 l0_2.length c0_2) := (blk_cell BK157.out 2).trans rfl; have hfz11_0 := Zn BK157.out 0; have hfz11_1 := Zn BK157.out 1; have hfz11_2 := Zn BK157.out 2; have hcz12_0 : w9.cell? ⟨gb158, 0, none⟩ = some (.string a1_0) := (blk_cell BK158.out 0).trans rfl; have hcz12_1 : w9.cell? ⟨gb158, 1, none⟩ = some (.slice A1_1 l1_1.length c1_1) := (blk_cell BK158.out 1).trans rfl; have hcz12_2 : w9.cell? ⟨gb158, 2, none⟩ = some (.slice A1_2 l1_2.length c1_2) := (blk_cell BK158.out 2).trans rfl; have hfz12_0 := Zn BK158.out 0; have hfz12_1 := Zn BK158.out 1; have hfz12_2 := Zn BK158.out 2) | ((with_reducible refine gate_callee (f := 21) rfl ?_); refine goesL_ (some 14) rfl rfl Tryd.func21 (by kernel_rfl) rfl #[.slice A0_1 l0_1.length c0_1, .slice A1_1 l1_1.length c1_1] rfl (by (try simp only [List.map_toArray, List.map_cons, List.map_nil]); first | done | rfl | (simp only [List.length_drop, List.length_take]; rfl)) ?_; (with_reducible refine (laws_eqByteS.calls k _ _ l0_1 _ _ l1_1 true _ ?side1 ?side2 ?side3 ?side4 A4.out).mono ?_); (case side1 => repeat (first | exact (C_below HR0_1.out HB.out) | (with_reducible refine C_alloc ?_ _) | (with_reducible refine C_drewN ?_ _) | (with_reducible refine C_drew ?_))); (case side2 => exact HC0_1.out); (case side3 => repeat (first | exact (C_below HR1_1.out HB.out) | (with_reducible refine C_alloc ?_ _) | (with_reducible refine C_drewN ?_ _) | (with_reducible refine C_drew ?_))); (case side4 => exact HC1_1.out); rintro e w' ⟨rfl, ⟨nd, rfl⟩⟩; refine ⟨_, rfl, ?_⟩) | ((with_reducible refine gate_callee (f := 21) rfl ?_); refine goesL_ (some 20) rfl rfl Tryd.func21 (by kernel_rfl) rfl #[.slice A0_2 l0_2.length c0_2, .slice A1_2 l1_2.length c1_2] rfl (by (try simp only [List.map_toArray, List.map_cons, List.map_nil]); first | done | rfl | (simp only [List.length_drop, List.length_take]; rfl)) ?_; (with_reducible refine (laws_eqByteS.calls k _ _ l0_2 _ _ l1_2 true _ ?side1 ?side2 ?side3 ?side4 A6.out).mono ?_); (case side1 => repeat (first | exact (C_below HR0_2.out Zs) | (with_reducible refine C_alloc ?_ _) | (with_reducible refine C_drewN ?_ _) | (with_reducible refine C_drew ?_))); (case side2 => exact HC0_2.out); (case side3 => repeat (first | exact (C_below HR1_2.out Zs) | (with_reducible refine C_alloc ?_ _) | (with_reducible refine C_drewN ?_ _) | (with_reducible refine C_drew ?_))); (case side4 => exact HC1_2.out); rintro e w' ⟨rfl, ⟨nd, rfl⟩⟩; refine ⟨_, rfl, ?_⟩))
    go_ret
    exact ⟨by first | rfl | (simp [errW_none, errW_some] <;> rfl) | (simp [*, errW_none, errW_some] <;> rfl), by repeat (first | (with_reducible first | exact HB.out | apply Zf | apply Zd | apply Ze | refine Zg ?_ GE157.out | refine Zg ?_ GE158.out) | exact HB.out)⟩
   replace c7 := Bool.eq_false_iff.mpr c7
   subst c7
   have H1 : (some false) = some r := by rw [if_neg (show ¬ (false = true) by decide)] at H; exact H
   clear H
   have H := H1
   clear H1
   obtain rfl := Option.some.inj H
   go_enter Tryd.func92, Tryd.ntmps92
   go_wp2_with (first | ((with_reducible refine gate_dst (N := 2) rfl ?_); refine box_event ?hg (N := 2) ?hd (cs := #[.string a0_0, .slice A0_1 l0_1.length c0_1, .slice A0_2 l0_2.length c0_2]) (t := 74) ?hr ?_; (case hd => rfl); (case hg => rfl); (case hr => first | (go_simp; done) | (go_simp; rfl)); intro gb157 hg w13 hbox hb; have n0_ := Zh (Zl Zs hb); have n1_ := Zh (hbox); have n2_ := Zh ((by rw [hg]; exact (below_size Zs) : w.heap.size ≤ gb157)); have n3_ := Zh ((by rw [hg]; exact (below_size Zs) : w.heap.size ≤ gb157)); clear HB; have HB := n0_; have BK157 := n1_; have GW157 := n2_; have GE157 := n3_; clear n0_ n1_ n2_ n3_; clear hb hbox hg) | ((with_reducible refine gate_dst (N := 3) rfl ?_); refine box_event ?hg (N := 3) ?hd (cs := #[.string a1_0, .slice A1_1 l1_1.length c1_1, .slice A1_2 l1_2.length c1_2]) (t := 74) ?hr ?_; (case hd => rfl); (case hg => rfl); (case hr => first | (go_simp; done) | (go_simp; rfl)); intro gb158 hg w14 hbox hb; have n0_ := Zh (Zm (g := gb157) (o := .cells #[.string a0_0, .slice A0_1 l0_1.length c0_1, .slice A0_2 l0_2.length c0_2] 74 (0, 0)) Zk hb); have n1_ := Zh (Zl Zs hb); have n2_ := Zh (hbox); have n3_ := Zh ((by rw [hg]; exact (below_size Zs) : w.heap.size ≤ gb158)); have n4_ := Zh ((by rw [hg]; exact (below_size Zs) : w.heap.size ≤ gb158)); have n5_ := Zh ((by rw [hg]; exact Nat.ne_of_lt (blk_lt (g := gb157) (o := .cells #[.string a0_0, .slice A0_1 l0_1.length c0_1, .slice A0_2 l0_2.length c0_2] 74 (0, 0)) Zk) : gb157 ≠ gb158)); have n6_ := Zh ((by rw [hg]; exact Nat.ne_of_gt (blk_lt (g := gb157) (o := .cells #[.string a0_0, .slice A0_1 l0_1.length c0_1, .slice A0_2 l0_2.length c0_2] 74 (0, 0)) Zk) : gb158 ≠ gb157)); clear BK157; clear HB; have BK157 := n0_; have HB := n1_; have BK158 := n2_; have GW158 := n3_; have GE158 := n4_; have NB157_158 := n5_; have NB158_157 := n6_; clear n0_ n1_ n2_ n3_ n4_ n5_ n6_; clear hb hbox hg; have hnb15 := NB157_158.out; have hnc15 := NB158_157.out; have hcz16_0 : w14.cell? ⟨gb157, 0, none⟩ = some (.string a0_0) := (blk_cell BK157.out 0).trans rfl; have hcz16_1 : w14.cell? ⟨gb157, 1, none⟩ = some (.slice A0_1 l0_1.length c0_1) := (blk_cell BK157.out 1).trans rfl; have hcz16_2 : w14.cell? ⟨gb157, 2, none⟩ = some (.slice A0_2 l0_2.length c0_2) := (blk_cell BK157.out 2).trans rfl; have hfz16_0 := Zn BK157.out 0; have hfz16_1 := Zn BK157.out 1; have hfz16_2 := Zn BK157.out 2; have hcz17_0 : w14.cell? ⟨gb158, 0, none⟩ = some (.string a1_0) := (blk_cell BK158.out 0).trans rfl; have hcz17_1 : w14.cell? ⟨gb158, 1, none⟩ = some (.slice A1_1 l1_1.length c1_1) := (blk_cell BK158.out 1).trans rfl; have hcz17_2 : w14.cell? ⟨gb158, 2, none⟩ = some (.slice A1_2 l1_2.length c1_2) := (blk_cell BK158.out 2).trans rfl; have hfz17_0 := Zn BK158.out 0; have hfz17_1 := Zn BK158.out 1; have hfz17_2 := Zn BK158.out 2) | ((with_reducible refine gate_callee (f := 21) rfl ?_); refine goesL_ (some 14) rfl rfl Tryd.func21 (by kernel_rfl) rfl #[.slice A0_1 l0_1.length c0_1, .slice A1_1 l1_1.length c1_1] rfl (by (try simp only [List.map_toArray, List.map_cons, List.map_nil]); first | done | rfl | (simp only [List.length_drop, List.length_take]; rfl)) ?_; (with_reducible refine (laws_eqByteS.calls k _ _ l0_1 _ _ l1_1 true _ ?side1 ?side2 ?side3 ?side4 A4.out).mono ?_); (case side1 => repeat (first | exact (C_below HR0_1.out HB.out) | (with_reducible refine C_alloc ?_ _) | (with_reducible refine C_drewN ?_ _) | (with_reducible refine C_drew ?_))); (case side2 => exact HC0_1.out); (case side3 => repeat (first | exact (C_below HR1_1.out HB.out) | (with_reducible refine C_alloc ?_ _) | (with_reducible refine C_drewN ?_ _) | (with_reducible refine C_drew ?_))); (case side4 => exact HC1_1.out); rintro e w' ⟨rfl, ⟨nd, rfl⟩⟩; refine ⟨_, rfl, ?_⟩) | ((with_reducible refine gate_callee (f := 21) rfl ?_); refine goesL_ (some 20) rfl rfl Tryd.func21 (by kernel_rfl) rfl #[.slice A0_2 l0_2.length c0_2, .slice A1_2 l1_2.length c1_2] rfl (by (try simp only [List.map_toArray, List.map_cons, List.map_nil]); first | done | rfl | (simp only [List.length_drop, List.length_take]; rfl)) ?_; (with_reducible refine (laws_eqByteS.calls k _ _ l0_2 _ _ l1_2 false _ ?side1 ?side2 ?side3 ?side4 A6.out).mono ?_); (case side1 => repeat (first | exact (C_below HR0_2.out Zs) | (with_reducible refine C_alloc ?_ _) | (with_reducible refine C_drewN ?_ _) | (with_reducible refine C_drew ?_))); (case side2 => exact HC0_2.out); (case side3 => repeat (first | exact (C_below HR1_2.out Zs) | (with_reducible refine C_alloc ?_ _) | (with_reducible refine C_drewN ?_ _) | (with_reducible refine C_drew ?_))); (case side4 => exact HC1_2.out); rintro e w' ⟨rfl, ⟨nd, rfl⟩⟩; refine ⟨_, rfl, ?_⟩))
   go_ret
   exact ⟨by first | rfl | (simp [errW_none, errW_some] <;> rfl) | (simp [*, errW_none, errW_some] <;> rfl), by repeat (first | (with_reducible first | exact HB.out | apply Zf | apply Zd | apply Ze | refine Zg ?_ GE157.out | refine Zg ?_ GE158.out) | exact HB.out)⟩
  replace c5 := Bool.eq_false_iff.mpr c5
  subst c5
  have H1 : (some false) = some r := by rw [if_neg (show ¬ (false = true) by decide)] at H; exact H
  clear H
  have H := H1
  clear H1
  obtain rfl := Option.some.inj H
  go_enter Tryd.func92, Tryd.ntmps92
  go_wp2_with (first | ((with_reducible refine gate_dst (N := 2) rfl ?_); refine box_event ?hg (N := 2) ?hd (cs := #[.string a0_0, .slice A0_1 l0_1.length c0_1, .slice A0_2 l0_2.length c0_2]) (t := 74) ?hr ?_; (case hd => rfl); (case hg => rfl); (case hr => first | (go_simp; done) | (go_simp; rfl)); intro gb157 hg w18 hbox hb; have n0_ := Zh (Zl Zs hb); have n1_ := Zh (hbox); have n2_ := Zh ((by rw [hg]; exact (below_size Zs) : w.heap.size ≤ gb157)); have n3_ := Zh ((by rw [hg]; exact (below_size Zs) : w.heap.size ≤ gb157)); clear HB; have HB := n0_; have BK157 := n1_; have GW157 := n2_; have GE157 := n3_; clear n0_ n1_ n2_ n3_; clear hb hbox hg) | ((with_reducible refine gate_dst (N := 3) rfl ?_); refine box_event ?hg (N := 3) ?hd (cs := #[.string a1_0, .slice A1_1 l1_1.length c1_1, .slice A1_2 l1_2.length c1_2]) (t := 74) ?hr ?_; (case hd => rfl); (case hg => rfl); (case hr => first | (go_simp; done) | (go_simp; rfl)); intro gb158 hg w19 hbox hb; have n0_ := Zh (Zm (g := gb157) (o := .cells #[.string a0_0, .slice A0_1 l0_1.length c0_1, .slice A0_2 l0_2.length c0_2] 74 (0, 0)) Zk hb); have n1_ := Zh (Zl Zs hb); have n2_ := Zh (hbox); have n3_ := Zh ((by rw [hg]; exact (below_size Zs) : w.heap.size ≤ gb158)); have n4_ := Zh ((by rw [hg]; exact (below_size Zs) : w.heap.size ≤ gb158)); have n5_ := Zh ((by rw [hg]; exact Nat.ne_of_lt (blk_lt (g := gb157) (o := .cells #[.string a0_0, .slice A0_1 l0_1.length c0_1, .slice A0_2 l0_2.length c0_2] 74 (0, 0)) Zk) : gb157 ≠ gb158)); have n6_ := Zh ((by rw [hg]; exact Nat.ne_of_gt (blk_lt (g := gb157) (o := .cells #[.string a0_0, .slice A0_1 l0_1.length c0_1, .slice A0_2 l0_2.length c0_2] 74 (0, 0)) Zk) : gb158 ≠ gb157)); clear BK157; clear HB; have BK157 := n0_; have HB := n1_; have BK158 := n2_; have GW158 := n3_; have GE158 := n4_; have NB157_158 := n5_; have NB158_157 := n6_; clear n0_ n1_ n2_ n3_ n4_ n5_ n6_; clear hb hbox hg; have hnb20 := NB157_158.out; have hnc20 := NB158_157.out; have hcz21_0 : w19.cell? ⟨gb157, 0, none⟩ = some (.string a0_0) := (blk_cell BK157.out 0).trans rfl; have hcz21_1 : w19.cell? ⟨gb157, 1, none⟩ = some (.slice A0_1 l0_1.length c0_1) := (blk_cell BK157.out 1).trans rfl; have hcz21_2 : w19.cell? ⟨gb157, 2, none⟩ = some (.slice A0_2 l0_2.length c0_2) := (blk_cell BK157.out 2).trans rfl; have hfz21_0 := Zn BK157.out 0; have hfz21_1 := Zn BK157.out 1; have hfz21_2 := Zn BK157.out 2; have hcz22_0 : w19.cell? ⟨gb158, 0, none⟩ = some (.string a1_0) := (blk_cell BK158.out 0).trans rfl; have hcz22_1 : w19.cell? ⟨gb158, 1, none⟩ = some (.slice A1_1 l1_1.length c1_1) := (blk_cell BK158.out 1).trans rfl; have hcz22_2 : w19.cell? ⟨gb158, 2, none⟩ = some (.slice A1_2 l1_2.length c1_2) := (blk_cell BK158.out 2).trans rfl; have hfz22_0 := Zn BK158.out 0; have hfz22_1 := Zn BK158.out 1; have hfz22_2 := Zn BK158.out 2) | ((with_reducible refine gate_callee (f := 21) rfl ?_); refine goesL_ (some 14) rfl rfl Tryd.func21 (by kernel_rfl) rfl #[.slice A0_1 l0_1.length c0_1, .slice A1_1 l1_1.length c1_1] rfl (by (try simp only [List.map_toArray, List.map_cons, List.map_nil]); first | done | rfl | (simp only [List.length_drop, List.length_take]; rfl)) ?_; (with_reducible refine (laws_eqByteS.calls k _ _ l0_1 _ _ l1_1 false _ ?side1 ?side2 ?side3 ?side4 A4.out).mono ?_); (case side1 => repeat (first | exact (C_below HR0_1.out HB.out) | (with_reducible refine C_alloc ?_ _) | (with_reducible refine C_drewN ?_ _) | (with_reducible refine C_drew ?_))); (case side2 => exact HC0_1.out); (case side3 => repeat (first | exact (C_below HR1_1.out HB.out) | (with_reducible refine C_alloc ?_ _) | (with_reducible refine C_drewN ?_ _) | (with_reducible refine C_drew ?_))); (case side4 => exact HC1_1.out); rintro e w' ⟨rfl, ⟨nd, rfl⟩⟩; refine ⟨_, rfl, ?_⟩))
  go_ret
  exact ⟨by first | rfl | (simp [errW_none, errW_some] <;> rfl) | (simp [*, errW_none, errW_some] <;> rfl), by repeat (first | (with_reducible first | exact HB.out | apply Zf | apply Zd | apply Ze | refine Zg ?_ GE157.out | refine Zg ?_ GE158.out) | exact HB.out)⟩
 rw [if_neg c3] at H
 have c3b0 : (a0_0.toList == a1_0.toList) = false := beq_eq_false_iff_ne.mpr c3
 have c3b1 : (a0_0.toList != a1_0.toList) = true := bne_iff_ne.mpr c3
 obtain rfl := Option.some.inj H
 go_enter Tryd.func92, Tryd.ntmps92
 go_wp2_with (first | ((with_reducible refine gate_dst (N := 2) rfl ?_); refine box_event ?hg (N := 2) ?hd (cs := #[.string a0_0, .slice A0_1 l0_1.length c0_1, .slice A0_2 l0_2.length c0_2]) (t := 74) ?hr ?_; (case hd => rfl); (case hg => rfl); (case hr => first | (go_simp; done) | (go_simp; rfl)); intro gb157 hg w23 hbox hb; have n0_ := Zh (Zl Zs hb); have n1_ := Zh (hbox); have n2_ := Zh ((by rw [hg]; exact (below_size Zs) : w.heap.size ≤ gb157)); have n3_ := Zh ((by rw [hg]; exact (below_size Zs) : w.heap.size ≤ gb157)); clear HB; have HB := n0_; have BK157 := n1_; have GW157 := n2_; have GE157 := n3_; clear n0_ n1_ n2_ n3_; clear hb hbox hg) | ((with_reducible refine gate_dst (N := 3) rfl ?_); refine box_event ?hg (N := 3) ?hd (cs := #[.string a1_0, .slice A1_1 l1_1.length c1_1, .slice A1_2 l1_2.length c1_2]) (t := 74) ?hr ?_; (case hd => rfl); (case hg => rfl); (case hr => first | (go_simp; done) | (go_simp; rfl)); intro gb158 hg w24 hbox hb; have n0_ := Zh (Zm (g := gb157) (o := .cells #[.string a0_0, .slice A0_1 l0_1.length c0_1, .slice A0_2 l0_2.length c0_2] 74 (0, 0)) Zk hb); have n1_ := Zh (Zl Zs hb); have n2_ := Zh (hbox); have n3_ := Zh ((by rw [hg]; exact (below_size Zs) : w.heap.size ≤ gb158)); have n4_ := Zh ((by rw [hg]; exact (below_size Zs) : w.heap.size ≤ gb158)); have n5_ := Zh ((by rw [hg]; exact Nat.ne_of_lt (blk_lt (g := gb157) (o := .cells #[.string a0_0, .slice A0_1 l0_1.length c0_1, .slice A0_2 l0_2.length c0_2] 74 (0, 0)) Zk) : gb157 ≠ gb158)); have n6_ := Zh ((by rw [hg]; exact Nat.ne_of_gt (blk_lt (g := gb157) (o := .cells #[.string a0_0, .slice A0_1 l0_1.length c0_1, .slice A0_2 l0_2.length c0_2] 74 (0, 0)) Zk) : gb158 ≠ gb157)); clear BK157; clear HB; have BK157 := n0_; have HB := n1_; have BK158 := n2_; have GW158 := n3_; have GE158 := n4_; have NB157_158 := n5_; have NB158_157 := n6_; clear n0_ n1_ n2_ n3_ n4_ n5_ n6_; clear hb hbox hg; have hnb25 := NB157_158.out; have hnc25 := NB158_157.out; have hcz26_0 : w24.cell? ⟨gb157, 0, none⟩ = some (.string a0_0) := (blk_cell BK157.out 0).trans rfl; have hcz26_1 : w24.cell? ⟨gb157, 1, none⟩ = some (.slice A0_1 l0_1.length c0_1) := (blk_cell BK157.out 1).trans rfl; have hcz26_2 : w24.cell? ⟨gb157, 2, none⟩ = some (.slice A0_2 l0_2.length c0_2) := (blk_cell BK157.out 2).trans rfl; have hfz26_0 := Zn BK157.out 0; have hfz26_1 := Zn BK157.out 1; have hfz26_2 := Zn BK157.out 2; have hcz27_0 : w24.cell? ⟨gb158, 0, none⟩ = some (.string a1_0) := (blk_cell BK158.out 0).trans rfl; have hcz27_1 : w24.cell? ⟨gb158, 1, none⟩ = some (.slice A1_1 l1_1.length c1_1) := (blk_cell BK158.out 1).trans rfl; have hcz27_2 : w24.cell? ⟨gb158, 2, none⟩ = some (.slice A1_2 l1_2.length c1_2) := (blk_cell BK158.out 2).trans rfl; have hfz27_0 := Zn BK158.out 0; have hfz27_1 := Zn BK158.out 1; have hfz27_2 := Zn BK158.out 2))
 go_ret
 exact ⟨by first | rfl | (simp [errW_none, errW_some] <;> rfl) | (simp [*, errW_none, errW_some] <;> rfl), by repeat (first | (with_reducible first | exact HB.out | apply Zf | apply Zd | apply Ze | refine Zg ?_ GE157.out | refine Zg ?_ GE158.out) | exact HB.out)⟩
end Go.Proofs.YtmgeffgcihfpcaaDoor.F

namespace Go.Proofs.YtmgeffgcihfpcaaDoor.F
open Go.Proofs.YtmgeffgcihfpcaaDoor
open Go.RowKit Go.Proofs.YtmgeffgcihfpcaaDoorW.PrintWords Go.Proofs.YtmgeffgcihfpcaaDoorW.PrintWords.Kd Go.Proofs.YtmgeffgcihfpcaaDoorW.PrintMore.Kd Go.Proofs.YtmgeffgcihfpcaaDoorW.PrintLast Go.Proofs.YtmgeffgcihfpcaaDoorW.PrintMore
attribute [local go_sem] max2_int min2_int max_two min_two max_three min_three max_four min_four   -- for this text's walks alone
set_option linter.unusedVariables false
set_option linter.unusedSimpArgs false
def laws_eqFileS.l0 : Nat → List (S74) → List (S74) → Int → Option (Bool)
 | 0, _, _, _ => none
 | k + 1, x0, x1, x5 => if x5 < (x0.length : Int) then (if 0 ≤ x5 then (if x5 < (x1.length : Int) then ((laws_eqFile.f k ((rd_T74 x0 x5).f0) ((rd_T74 x0 x5).f1) ((rd_T74 x0 x5).f2) ((rd_T74 x1 x5).f0) ((rd_T74 x1 x5).f1) ((rd_T74 x1 x5).f2)).bind fun t163 => (if t163 = true then (laws_eqFileS.l0 k x0 x1 (wrap64 (x5 + 1))) else (some false))) else (none)) else (none)) else (some true)
def laws_eqFileS.f (k : Nat) (l0 : List (S74)) (l1 : List (S74)) : Option (Bool) := if (l0.length : Int) = (l1.length : Int) then (laws_eqFileS.l0 k l0 l1 0) else (some false)
def laws_eqFileS.T6 : Bool × List (List Nat × List Nat) := (true, [([], []), ([], []), ([0, 1], [0, 1]), ([2], [2]), ([], []), ([], []), ([4, 5], [4, 5]), ([6], [6]), ([3, 7], [3, 7]), ([8], [8])])
def laws_eqFileS.B6 : List Nat := [0, 0, 3, 7, 0, 0, 48, 112, 255, 511]
theorem laws_eqFileS.tab6 : rtab .any (opsOf Tryd.f60 6) = laws_eqFileS.T6 := by kernel_rfl
theorem laws_eqFileS.bits6 : waitsOk laws_eqFileS.T6.2 laws_eqFileS.B6 = true := by kernel_rfl
set_option maxHeartbeats 8000000 in
set_option maxRecDepth 100000 in
theorem laws_eqFileS.calls (k : Nat) (A0 : Option Addr) (c0 : Nat) (l0 : List (S74)) (A1 : Option Addr) (c1 : Nat) (l1 : List (S74)) (r : Bool) (w : World) (hr0 : Kd.C k74 w A0 l0.length l0) (hc0 : l0.length ≤ c0) (hr1 : Kd.C k74 w A1 l1.length l1) (hc1 : l1.length ≤ c1) (h : laws_eqFileS.f k l0 l1 = some r) :
  Calls Tryd.prog 60 #[.slice A0 l0.length c0, .slice A1 l1.length c1] w fun e w' => e = .returned (.bool r) ∧ Below w.heap.size w w' := by
 have hu74 := Tryd.underlying74
 have HR0 := Zh hr0
 have HC0 := Zh hc0
 clear hr0 hc0
 have HR1 := Zh hr1
 have HC1 := Zh hc1
 clear hr1 hc1
 have HB := Zh (Below.refl w.heap.size w)
 have H : (if (l0.length : Int) = (l1.length : Int) then (laws_eqFileS.l0 k l0 l1 0) else (some false)) = some r := h
 clear h
 by_cases c3 : (l0.length : Int) = (l1.length : Int)
 ·
  rw [if_pos c3] at H
  have c3b0 : ((l0.length : Int) == (l1.length : Int)) = true := beq_iff_eq.mpr c3
  have c3b1 : ((l0.length : Int) != (l1.length : Int)) = false := bne_eq_false_iff_eq.mpr c3
  have c3b2 : (l0.length == l1.length) = true := by first | simpa using c3 | (simp at c3 ⊢; omega)
  clear c3
  have H' := Zh H
  clear H
  go_enter Tryd.func60, Tryd.ntmps60
  go_wp2
  go_loopg [5] k (fun kq v5 w' => ∃ (x5_1 : Int), v5 = .int .i64 x5_1 ∧ Aside0 (laws_eqFileS.l0 kq l0 l1 x5_1 = some r) ∧ Aside0 (kq ≤ k) ∧ Aside0 (Below w.heap.size w w'))
  case atStart => exact ⟨(0), (by first | rfl | (simp; done) | (simp [*]; done)), H', ⟨Nat.le_refl _⟩, ⟨by repeat (first | (with_reducible first | exact HB.out | apply Zf | apply Zd | apply Ze) | exact HB.out)⟩⟩
  case round =>
   clear H'
   try clear c1
   try clear p2
   try clear c3
   try clear c3b0
   try clear c3b1
   try clear c3b2
   obtain ⟨x5_1, rfl, HA, HK1, HB⟩ := hrel
   cases gk with
   | zero => exact absurd HA.out (by simp [laws_eqFileS.l0])
   | succ k1 =>
    have H := HA.out
    clear HA
    simp only [laws_eqFileS.l0] at H
    by_cases c4 : x5_1 < (l0.length : Int)
    ·
     rw [if_pos c4] at H
     have c4b0 : decide (x5_1 < (l0.length : Int)) = true := decide_eq_true c4
     clear c4
     by_cases c5 : 0 ≤ x5_1
     ·
      rw [if_pos c5] at H
      have c5b0 : decide (0 ≤ x5_1) = true := decide_eq_true c5
      clear c5
      by_cases c6 : x5_1 < (l1.length : Int)
      ·
       rw [if_pos c6] at H
       have c6b0 : decide (x5_1 < (l1.length : Int)) = true := decide_eq_true c6
       clear c6
       replace H := Option.bind_eq_some_iff.mp H
       obtain ⟨t163, A70, H⟩ := H
       replace H : (if t163 = true then (laws_eqFileS.l0 k1 l0 l1 (wrap64 (x5_1 + 1))) else (some false)) = some r := H
       have A7 := Zh A70
       clear A70
       by_cases c8 : t163 = true
       ·
        subst c8
        have H1 : (laws_eqFileS.l0 k1 l0 l1 (wrap64 (x5_1 + 1))) = some r := by rw [if_pos rfl] at H; exact H
        clear H
        have H := H1
        clear H1
        have H' := Zh H
        clear H
        try go_wp2
        have n0_ := Zh (Ze HB.out)
        clear HB
        have HB := n0_
        clear n0_
        have p161 : 0 ≤ (x5_1 : Int) := Zo
        have q161 : x5_1 < (l0.length : Int) := Zo
        obtain ⟨ad161, A161_1, c161_1, A161_2, c161_2, e161, hx161_0, hx161_1, hx161_2, hl161_1, hi161_1, hl161_2, hi161_2⟩ := at_T74 HR0.out x5_1 p161 q161
        have hw161_2 := hx161_2
        have hw161_1 := hx161_1
        have hw161_0 := hx161_0
        cases e161
        replace hx161_0 := Zc HB.out hx161_0
        replace hx161_1 := Zc HB.out hx161_1
        replace hx161_2 := Zc HB.out hx161_2
        have HR161_1 := Zh hi161_1
        have HC161_1 := Zh hl161_1
        clear hi161_1 hl161_1
        have HR161_2 := Zh hi161_2
        have HC161_2 := Zh hl161_2
        clear hi161_2 hl161_2
        replace p161 := eq_true p161
        replace q161 := eq_true q161
        have p162 : 0 ≤ (x5_1 : Int) := Zo
        have q162 : x5_1 < (l1.length : Int) := Zo
        obtain ⟨ad162, A162_1, c162_1, A162_2, c162_2, e162, hx162_0, hx162_1, hx162_2, hl162_1, hi162_1, hl162_2, hi162_2⟩ := at_T74 HR1.out x5_1 p162 q162
        have hw162_2 := hx162_2
        have hw162_1 := hx162_1
        have hw162_0 := hx162_0
        cases e162
        replace hx162_0 := Zc HB.out hx162_0
        replace hx162_1 := Zc HB.out hx162_1
        replace hx162_2 := Zc HB.out hx162_2
        have HR162_1 := Zh hi162_1
        have HC162_1 := Zh hl162_1
        clear hi162_1 hl162_1
        have HR162_2 := Zh hi162_2
        have HC162_2 := Zh hl162_2
        clear hi162_2 hl162_2
        replace p162 := eq_true p162
        replace q162 := eq_true q162
        refine start_ (n := 10) (S := fun w' => w'.cell? (ad161.add ((x5_1).toNat * 3)) = some (.string ((rd_T74 l0 x5_1).f0)) ∧ w'.cell? ⟨(ad161.add ((x5_1).toNat * 3)).block, (ad161.add ((x5_1).toNat * 3)).off + 1, none⟩ = some (.slice A161_1 ((rd_T74 l0 x5_1).f1).length c161_1) ∧ w'.cell? ⟨(ad161.add ((x5_1).toNat * 3)).block, (ad161.add ((x5_1).toNat * 3)).off + 2, none⟩ = some (.slice A161_2 ((rd_T74 l0 x5_1).f2).length c161_2) ∧ w'.cell? (ad162.add ((x5_1).toNat * 3)) = some (.string ((rd_T74 l1 x5_1).f0)) ∧ w'.cell? ⟨(ad162.add ((x5_1).toNat * 3)).block, (ad162.add ((x5_1).toNat * 3)).off + 1, none⟩ = some (.slice A162_1 ((rd_T74 l1 x5_1).f1).length c162_1) ∧ w'.cell? ⟨(ad162.add ((x5_1).toNat * 3)).block, (ad162.add ((x5_1).toNat * 3)).off + 2, none⟩ = some (.slice A162_2 ((rd_T74 l1 x5_1).f2).length c162_2)) (ds := []) #[false, false, false, false, false, false, false, false, false, false] (by kernel_rfl) rfl rfl ⟨((HB.out.cell (Zi w _ hw161_0)).trans hw161_0), ((HB.out.cell (Zi w _ hw161_1)).trans hw161_1), ((HB.out.cell (Zi w _ hw161_2)).trans hw161_2), ((HB.out.cell (Zi w _ hw162_0)).trans hw162_0), ((HB.out.cell (Zi w _ hw162_1)).trans hw162_1), ((HB.out.cell (Zi w _ hw162_2)).trans hw162_2)⟩ (fun hHeld => ?_); refine with_tabW laws_eqFileS.tab6 laws_eqFileS.bits6 (fun HT_ HW_ => ?_)
        generalize wr.drew = w9 at HB HR161_1 HR161_2 HR162_1 HR162_2 hx161_0 hx161_1 hx161_2 hx162_0 hx162_1 hx162_2 hHeld ⊢
        refine SQ.pu 0 17 HT_ ?_
        refine SQ.pu 1 18 HT_ ?_
        refine SQ.pu 2 19 HT_ ?_
        refine SQ.pu 4 21 HT_ ?_
        refine SQ.pu 5 22 HT_ ?_
        refine SQ.pu 6 23 HT_ ?_
        refine SQ.tk 3 20 HT_ HW_ hHeld ?_
        refine SQ.tk 7 24 HT_ HW_ hHeld ?_
        refine one_ (i := 8) (N := some 25) #[true, true, true, true, true, true, true, true, true, false] rfl rfl (one_of HT_.out (by kernel_rfl)) (by decide) (fun K hK => ?_)
        refine goes_ Tryd.func92 (by kernel_rfl) rfl #[.agg #[.string ((rd_T74 l0 x5_1).f0), .slice A161_1 ((rd_T74 l0 x5_1).f1).length c161_1, .slice A161_2 ((rd_T74 l0 x5_1).f2).length c161_2], .agg #[.string ((rd_T74 l1 x5_1).f0), .slice A162_1 ((rd_T74 l1 x5_1).f1).length c162_1, .slice A162_2 ((rd_T74 l1 x5_1).f2).length c162_2]] (by rfl) rfl rfl (by (try simp only [List.map_toArray, List.map_cons, List.map_nil]); first | done | rfl | (simp only [List.length_drop, List.length_take]; rfl)) ?_
        with_reducible refine (laws_eqFile.calls k1 ((rd_T74 l0 x5_1).f0) _ _ ((rd_T74 l0 x5_1).f1) _ _ ((rd_T74 l0 x5_1).f2) ((rd_T74 l1 x5_1).f0) _ _ ((rd_T74 l1 x5_1).f1) _ _ ((rd_T74 l1 x5_1).f2) true _ ?side1 ?side2 ?side3 ?side4 ?side5 ?side6 ?side7 ?side8 A7.out).mono ?_
        (case side1 => repeat (first | exact (C_below HR161_1.out HB.out) | (with_reducible refine C_alloc ?_ _) | (with_reducible refine C_drewN ?_ _) | (with_reducible refine C_drew ?_)))
        (case side2 => exact HC161_1.out)
        (case side3 => repeat (first | exact (C_below HR161_2.out HB.out) | (with_reducible refine C_alloc ?_ _) | (with_reducible refine C_drewN ?_ _) | (with_reducible refine C_drew ?_)))
        (case side4 => exact HC161_2.out)
        (case side5 => repeat (first | exact (C_below HR162_1.out HB.out) | (with_reducible refine C_alloc ?_ _) | (with_reducible refine C_drewN ?_ _) | (with_reducible refine C_drew ?_)))
        (case side6 => exact HC162_1.out)
        (case side7 => repeat (first | exact (C_below HR162_2.out HB.out) | (with_reducible refine C_alloc ?_ _) | (with_reducible refine C_drewN ?_ _) | (with_reducible refine C_drew ?_)))
        (case side8 => exact HC162_2.out)
        rintro e w10 ⟨rfl, hb⟩
        refine ⟨_, rfl, ?_⟩
        have n0_ := Zh (Zl Zs hb)
        clear HB
        have HB := n0_
        clear n0_
        (try clear hb)
        (try clear hb2)
        (try clear hk)
        (try clear hi)
        refine hK.out _ _ ⟨((HB.out.cell (Zi w _ hw161_0)).trans hw161_0), ((HB.out.cell (Zi w _ hw161_1)).trans hw161_1), ((HB.out.cell (Zi w _ hw161_2)).trans hw161_2), ((HB.out.cell (Zi w _ hw162_0)).trans hw162_0), ((HB.out.cell (Zi w _ hw162_1)).trans hw162_1), ((HB.out.cell (Zi w _ hw162_2)).trans hw162_2)⟩ (fun hHeld => ?_)
        clear hK K
        refine norm_ (a' := ?_) ?_ ?_
        rotate_left
        ·
         show Act.put _ (some 25) _ = _
         simp only [Act.put, List.setIfInBounds_toArray, List.set_cons_zero, List.set_cons_succ, i64_w, i32_w]
         rfl
        refine SQ.pu 9 26 HT_ ?_
        refine done_ (done_of HT_.out (by kernel_rfl)) ?_
        try go_wp2
        go_roundg k1
        case measure => have := HK1.out; omega
        case rel => exact ⟨(wrap64 (x5_1 + 1)), (by first | rfl | (simp; done) | (simp [*]; done)), H', ⟨by have := HK1.out; omega⟩, ⟨by repeat (first | (with_reducible first | exact HB.out | apply Zf | apply Zd | apply Ze) | exact HB.out)⟩⟩
       replace c8 := Bool.eq_false_iff.mpr c8
       subst c8
       have H1 : (some false) = some r := by rw [if_neg (show ¬ (false = true) by decide)] at H; exact H
       clear H
       have H := H1
       clear H1
       obtain rfl := Option.some.inj H
       try go_wp2
       have n0_ := Zh (Ze HB.out)
       clear HB
       have HB := n0_
       clear n0_
       have p161 : 0 ≤ (x5_1 : Int) := Zo
       have q161 : x5_1 < (l0.length : Int) := Zo
       obtain ⟨ad161, A161_1, c161_1, A161_2, c161_2, e161, hx161_0, hx161_1, hx161_2, hl161_1, hi161_1, hl161_2, hi161_2⟩ := at_T74 HR0.out x5_1 p161 q161
       have hw161_2 := hx161_2
       have hw161_1 := hx161_1
       have hw161_0 := hx161_0
       cases e161
       replace hx161_0 := Zc HB.out hx161_0
       replace hx161_1 := Zc HB.out hx161_1
       replace hx161_2 := Zc HB.out hx161_2
       have HR161_1 := Zh hi161_1
       have HC161_1 := Zh hl161_1
       clear hi161_1 hl161_1
       have HR161_2 := Zh hi161_2
       have HC161_2 := Zh hl161_2
       clear hi161_2 hl161_2
       replace p161 := eq_true p161
       replace q161 := eq_true q161
       have p162 : 0 ≤ (x5_1 : Int) := Zo
       have q162 : x5_1 < (l1.length : Int) := Zo
       obtain ⟨ad162, A162_1, c162_1, A162_2, c162_2, e162, hx162_0, hx162_1, hx162_2, hl162_1, hi162_1, hl162_2, hi162_2⟩ := at_T74 HR1.out x5_1 p162 q162
       have hw162_2 := hx162_2
       have hw162_1 := hx162_1
       have hw162_0 := hx162_0
       cases e162
       replace hx162_0 := Zc HB.out hx162_0
       replace hx162_1 := Zc HB.out hx162_1
       replace hx162_2 := Zc HB.out hx162_2
       have HR162_1 := Zh hi162_1
       have HC162_1 := Zh hl162_1
       clear hi162_1 hl162_1
       have HR162_2 := Zh hi162_2
       have HC162_2 := Zh hl162_2
       clear hi162_2 hl162_2
       replace p162 := eq_true p162
       replace q162 := eq_true q162
       refine start_ (n := 10) (S := fun w' => w'.cell? (ad161.add ((x5_1).toNat * 3)) = some (.string ((rd_T74 l0 x5_1).f0)) ∧ w'.cell? ⟨(ad161.add ((x5_1).toNat * 3)).block, (ad161.add ((x5_1).toNat * 3)).off + 1, none⟩ = some (.slice A161_1 ((rd_T74 l0 x5_1).f1).length c161_1) ∧ w'.cell? ⟨(ad161.add ((x5_1).toNat * 3)).block, (ad161.add ((x5_1).toNat * 3)).off + 2, none⟩ = some (.slice A161_2 ((rd_T74 l0 x5_1).f2).length c161_2) ∧ w'.cell? (ad162.add ((x5_1).toNat * 3)) = some (.string ((rd_T74 l1 x5_1).f0)) ∧ w'.cell? ⟨(ad162.add ((x5_1).toNat * 3)).block, (ad162.add ((x5_1).toNat * 3)).off + 1, none⟩ = some (.slice A162_1 ((rd_T74 l1 x5_1).f1).length c162_1) ∧ w'.cell? ⟨(ad162.add ((x5_1).toNat * 3)).block, (ad162.add ((x5_1).toNat * 3)).off + 2, none⟩ = some (.slice A162_2 ((rd_T74 l1 x5_1).f2).length c162_2)) (ds := []) #[false, false, false, false, false, false, false, false, false, false] (by kernel_rfl) rfl rfl ⟨((HB.out.cell (Zi w _ hw161_0)).trans hw161_0), ((HB.out.cell (Zi w _ hw161_1)).trans hw161_1), ((HB.out.cell (Zi w _ hw161_2)).trans hw161_2), ((HB.out.cell (Zi w _ hw162_0)).trans hw162_0), ((HB.out.cell (Zi w _ hw162_1)).trans hw162_1), ((HB.out.cell (Zi w _ hw162_2)).trans hw162_2)⟩ (fun hHeld => ?_); refine with_tabW laws_eqFileS.tab6 laws_eqFileS.bits6 (fun HT_ HW_ => ?_)
       generalize wr.drew = w11 at HB HR161_1 HR161_2 HR162_1 HR162_2 hx161_0 hx161_1 hx161_2 hx162_0 hx162_1 hx162_2 hHeld ⊢
       refine SQ.pu 0 17 HT_ ?_
       refine SQ.pu 1 18 HT_ ?_
       refine SQ.pu 2 19 HT_ ?_
       refine SQ.pu 4 21 HT_ ?_
       refine SQ.pu 5 22 HT_ ?_
       refine SQ.pu 6 23 HT_ ?_
       refine SQ.tk 3 20 HT_ HW_ hHeld ?_
       refine SQ.tk 7 24 HT_ HW_ hHeld ?_
       refine one_ (i := 8) (N := some 25) #[true, true, true, true, true, true, true, true, true, false] rfl rfl (one_of HT_.out (by kernel_rfl)) (by decide) (fun K hK => ?_)
       refine goes_ Tryd.func92 (by kernel_rfl) rfl #[.agg #[.string ((rd_T74 l0 x5_1).f0), .slice A161_1 ((rd_T74 l0 x5_1).f1).length c161_1, .slice A161_2 ((rd_T74 l0 x5_1).f2).length c161_2], .agg #[.string ((rd_T74 l1 x5_1).f0), .slice A162_1 ((rd_T74 l1 x5_1).f1).length c162_1, .slice A162_2 ((rd_T74 l1 x5_1).f2).length c162_2]] (by rfl) rfl rfl (by (try simp only [List.map_toArray, List.map_cons, List.map_nil]); first | done | rfl | (simp only [List.length_drop, List.length_take]; rfl)) ?_
       with_reducible refine (laws_eqFile.calls k1 ((rd_T74 l0 x5_1).f0) _ _ ((rd_T74 l0 x5_1).f1) _ _ ((rd_T74 l0 x5_1).f2) ((rd_T74 l1 x5_1).f0) _ _ ((rd_T74 l1 x5_1).f1) _ _ ((rd_T74 l1 x5_1).f2) false _ ?side1 ?side2 ?side3 ?side4 ?side5 ?side6 ?side7 ?side8 A7.out).mono ?_
       (case side1 => repeat (first | exact (C_below HR161_1.out HB.out) | (with_reducible refine C_alloc ?_ _) | (with_reducible refine C_drewN ?_ _) | (with_reducible refine C_drew ?_)))
       (case side2 => exact HC161_1.out)
       (case side3 => repeat (first | exact (C_below HR161_2.out HB.out) | (with_reducible refine C_alloc ?_ _) | (with_reducible refine C_drewN ?_ _) | (with_reducible refine C_drew ?_)))
       (case side4 => exact HC161_2.out)
       (case side5 => repeat (first | exact (C_below HR162_1.out HB.out) | (with_reducible refine C_alloc ?_ _) | (with_reducible refine C_drewN ?_ _) | (with_reducible refine C_drew ?_)))
       (case side6 => exact HC162_1.out)
       (case side7 => repeat (first | exact (C_below HR162_2.out HB.out) | (with_reducible refine C_alloc ?_ _) | (with_reducible refine C_drewN ?_ _) | (with_reducible refine C_drew ?_)))
       (case side8 => exact HC162_2.out)
       rintro e w12 ⟨rfl, hb⟩
       refine ⟨_, rfl, ?_⟩
       have n0_ := Zh (Zl Zs hb)
       clear HB
       have HB := n0_
       clear n0_
       (try clear hb)
       (try clear hb2)
       (try clear hk)
       (try clear hi)
       refine hK.out _ _ ⟨((HB.out.cell (Zi w _ hw161_0)).trans hw161_0), ((HB.out.cell (Zi w _ hw161_1)).trans hw161_1), ((HB.out.cell (Zi w _ hw161_2)).trans hw161_2), ((HB.out.cell (Zi w _ hw162_0)).trans hw162_0), ((HB.out.cell (Zi w _ hw162_1)).trans hw162_1), ((HB.out.cell (Zi w _ hw162_2)).trans hw162_2)⟩ (fun hHeld => ?_)
       clear hK K
       refine norm_ (a' := ?_) ?_ ?_
       rotate_left
       ·
        show Act.put _ (some 25) _ = _
        simp only [Act.put, List.setIfInBounds_toArray, List.set_cons_zero, List.set_cons_succ, i64_w, i32_w]
        rfl
       refine SQ.pu 9 26 HT_ ?_
       refine done_ (done_of HT_.out (by kernel_rfl)) ?_
       try go_wp2
       go_ret
       exact ⟨by first | rfl | (simp [errW_none, errW_some] <;> rfl) | (simp [*, errW_none, errW_some] <;> rfl), by repeat (first | (with_reducible first | exact HB.out | apply Zf | apply Zd | apply Ze) | exact HB.out)⟩
      rw [if_neg c6] at H
      exact absurd H (by simp)
     rw [if_neg c5] at H
     exact absurd H (by simp)
    rw [if_neg c4] at H
    have c4b0 : decide (x5_1 < (l0.length : Int)) = false := decide_eq_false c4
    clear c4
    obtain rfl := Option.some.inj H
    go_wp2
    go_ret
    exact ⟨by first | rfl | (simp [errW_none, errW_some] <;> rfl) | (simp [*, errW_none, errW_some] <;> rfl), by repeat (first | (with_reducible first | exact HB.out | apply Zf | apply Zd | apply Ze) | exact HB.out)⟩
 rw [if_neg c3] at H
 have c3b0 : ((l0.length : Int) == (l1.length : Int)) = false := beq_eq_false_iff_ne.mpr c3
 have c3b1 : ((l0.length : Int) != (l1.length : Int)) = true := bne_iff_ne.mpr c3
 have c3b2 : (l0.length == l1.length) = false := by first | simpa using c3 | (simp at c3 ⊢; omega)
 obtain rfl := Option.some.inj H
 go_enter Tryd.func60, Tryd.ntmps60
 go_wp2
 go_ret
 exact ⟨by first | rfl | (simp [errW_none, errW_some] <;> rfl) | (simp [*, errW_none, errW_some] <;> rfl), by repeat (first | (with_reducible first | exact HB.out | apply Zf | apply Zd | apply Ze) | exact HB.out)⟩
end Go.Proofs.YtmgeffgcihfpcaaDoor.F

namespace Go.Proofs.YtmgeffgcihfpcaaDoor.F
open Go.RowKit Go.Proofs.YtmgeffgcihfpcaaDoorW.PrintWords Go.Proofs.YtmgeffgcihfpcaaDoorW.PrintWords.Kd Go.Proofs.YtmgeffgcihfpcaaDoorW.PrintMore.Kd Go.Proofs.YtmgeffgcihfpcaaDoorW.PrintLast Go.Proofs.YtmgeffgcihfpcaaDoorW.PrintMore
attribute [local go_sem] max2_int min2_int max_two min_two max_three min_three max_four min_four   -- for this text's walks alone
set_option linter.unusedVariables false
set_option linter.unusedSimpArgs false
def laws_eqDisk.f (k : Nat) (l0_0 : List (S74)) (l1_0 : List (S74)) : Option (Bool) := (laws_eqFileS.f k l0_0 l1_0).bind fun t166 => (if t166 = true then (some true) else (some false))
set_option maxHeartbeats 8000000 in
set_option maxRecDepth 100000 in
theorem laws_eqDisk.calls (k : Nat) (A0_0 : Option Addr) (c0_0 : Nat) (l0_0 : List (S74)) (A1_0 : Option Addr) (c1_0 : Nat) (l1_0 : List (S74)) (r : Bool) (w : World) (hr0_0 : Kd.C k74 w A0_0 l0_0.length l0_0) (hc0_0 : l0_0.length ≤ c0_0) (hr1_0 : Kd.C k74 w A1_0 l1_0.length l1_0) (hc1_0 : l1_0.length ≤ c1_0) (h : laws_eqDisk.f k l0_0 l1_0 = some r) :
  Calls Tryd.prog 18 #[.agg #[.slice A0_0 l0_0.length c0_0], .agg #[.slice A1_0 l1_0.length c1_0]] w fun e w' => e = .returned (.bool r) ∧ Below w.heap.size w w' := by
 have hu29 := Tryd.underlying29
 have HR0_0 := Zh hr0_0
 have HC0_0 := Zh hc0_0
 clear hr0_0 hc0_0
 have HR1_0 := Zh hr1_0
 have HC1_0 := Zh hc1_0
 clear hr1_0 hc1_0
 have HB := Zh (Below.refl w.heap.size w)
 have H : ((laws_eqFileS.f k l0_0 l1_0).bind fun t166 => (if t166 = true then (some true) else (some false))) = some r := h
 clear h
 replace H := Option.bind_eq_some_iff.mp H
 obtain ⟨t166, A30, H⟩ := H
 replace H : (if t166 = true then (some true) else (some false)) = some r := H
 have A3 := Zh A30
 clear A30
 by_cases c4 : t166 = true
 ·
  subst c4
  have H1 : (some true) = some r := by rw [if_pos rfl] at H; exact H
  clear H
  have H := H1
  clear H1
  obtain rfl := Option.some.inj H
  go_enter Tryd.func18, Tryd.ntmps18
  go_wp2_with (first | ((with_reducible refine gate_dst (N := 2) rfl ?_); refine box_event ?hg (N := 2) ?hd (cs := #[.slice A0_0 l0_0.length c0_0]) (t := 29) ?hr ?_; (case hd => rfl); (case hg => rfl); (case hr => first | (go_simp; done) | (go_simp; rfl)); intro gb164 hg w5 hbox hb; have n0_ := Zh (Zl Zs hb); have n1_ := Zh (hbox); have n2_ := Zh ((by rw [hg]; exact (below_size Zs) : w.heap.size ≤ gb164)); have n3_ := Zh ((by rw [hg]; exact (below_size Zs) : w.heap.size ≤ gb164)); clear HB; have HB := n0_; have BK164 := n1_; have GW164 := n2_; have GE164 := n3_; clear n0_ n1_ n2_ n3_; clear hb hbox hg) | ((with_reducible refine gate_dst (N := 3) rfl ?_); refine box_event ?hg (N := 3) ?hd (cs := #[.slice A1_0 l1_0.length c1_0]) (t := 29) ?hr ?_; (case hd => rfl); (case hg => rfl); (case hr => first | (go_simp; done) | (go_simp; rfl)); intro gb165 hg w6 hbox hb; have n0_ := Zh (Zm (g := gb164) (o := .cells #[.slice A0_0 l0_0.length c0_0] 29 (0, 0)) Zk hb); have n1_ := Zh (Zl Zs hb); have n2_ := Zh (hbox); have n3_ := Zh ((by rw [hg]; exact (below_size Zs) : w.heap.size ≤ gb165)); have n4_ := Zh ((by rw [hg]; exact (below_size Zs) : w.heap.size ≤ gb165)); have n5_ := Zh ((by rw [hg]; exact Nat.ne_of_lt (blk_lt (g := gb164) (o := .cells #[.slice A0_0 l0_0.length c0_0] 29 (0, 0)) Zk) : gb164 ≠ gb165)); have n6_ := Zh ((by rw [hg]; exact Nat.ne_of_gt (blk_lt (g := gb164) (o := .cells #[.slice A0_0 l0_0.length c0_0] 29 (0, 0)) Zk) : gb165 ≠ gb164)); clear BK164; clear HB; have BK164 := n0_; have HB := n1_; have BK165 := n2_; have GW165 := n3_; have GE165 := n4_; have NB164_165 := n5_; have NB165_164 := n6_; clear n0_ n1_ n2_ n3_ n4_ n5_ n6_; clear hb hbox hg; have hnb7 := NB164_165.out; have hnc7 := NB165_164.out; have hcz8_0 : w6.cell? ⟨gb164, 0, none⟩ = some (.slice A0_0 l0_0.length c0_0) := (blk_cell BK164.out 0).trans rfl; have hfz8_0 := Zn BK164.out 0; have hcz9_0 : w6.cell? ⟨gb165, 0, none⟩ = some (.slice A1_0 l1_0.length c1_0) := (blk_cell BK165.out 0).trans rfl; have hfz9_0 := Zn BK165.out 0) | ((with_reducible refine gate_callee (f := 60) rfl ?_); refine goesL_ (some 9) rfl rfl Tryd.func60 (by kernel_rfl) rfl #[.slice A0_0 l0_0.length c0_0, .slice A1_0 l1_0.length c1_0] rfl (by (try simp only [List.map_toArray, List.map_cons, List.map_nil]); first | done | rfl | (simp only [List.length_drop, List.length_take]; rfl)) ?_; (with_reducible refine (laws_eqFileS.calls k _ _ l0_0 _ _ l1_0 true _ ?side1 ?side2 ?side3 ?side4 A3.out).mono ?_); (case side1 => repeat (first | exact (C_below HR0_0.out HB.out) | (with_reducible refine C_alloc ?_ _) | (with_reducible refine C_drewN ?_ _) | (with_reducible refine C_drew ?_))); (case side2 => exact HC0_0.out); (case side3 => repeat (first | exact (C_below HR1_0.out HB.out) | (with_reducible refine C_alloc ?_ _) | (with_reducible refine C_drewN ?_ _) | (with_reducible refine C_drew ?_))); (case side4 => exact HC1_0.out); rintro e w10 ⟨rfl, hb⟩; refine ⟨_, rfl, ?_⟩; have n0_ := Zh (Zm (g := gb164) (o := .cells #[.slice A0_0 l0_0.length c0_0] 29 (0, 0)) Zk hb); have n1_ := Zh (Zm (g := gb165) (o := .cells #[.slice A1_0 l1_0.length c1_0] 29 (0, 0)) Zk hb); have n2_ := Zh (Zl Zs hb); clear BK164; clear BK165; clear HB; have BK164 := n0_; have BK165 := n1_; have HB := n2_; clear n0_ n1_ n2_; (try clear hb); (try clear hb2); (try clear hk); (try clear hi)))
  go_ret
  exact ⟨by first | rfl | (simp [errW_none, errW_some] <;> rfl) | (simp [*, errW_none, errW_some] <;> rfl), by repeat (first | (with_reducible first | exact HB.out | apply Zf | apply Zd | apply Ze | refine Zg ?_ GE164.out | refine Zg ?_ GE165.out) | exact HB.out)⟩
 replace c4 := Bool.eq_false_iff.mpr c4
 subst c4
 have H1 : (some false) = some r := by rw [if_neg (show ¬ (false = true) by decide)] at H; exact H
 clear H
 have H := H1
 clear H1
 obtain rfl := Option.some.inj H
 go_enter Tryd.func18, Tryd.ntmps18
 go_wp2_with (first | ((with_reducible refine gate_dst (N := 2) rfl ?_); refine box_event ?hg (N := 2) ?hd (cs := #[.slice A0_0 l0_0.length c0_0]) (t := 29) ?hr ?_; (case hd => rfl); (case hg => rfl); (case hr => first | (go_simp; done) | (go_simp; rfl)); intro gb164 hg w11 hbox hb; have n0_ := Zh (Zl Zs hb); have n1_ := Zh (hbox); have n2_ := Zh ((by rw [hg]; exact (below_size Zs) : w.heap.size ≤ gb164)); have n3_ := Zh ((by rw [hg]; exact (below_size Zs) : w.heap.size ≤ gb164)); clear HB; have HB := n0_; have BK164 := n1_; have GW164 := n2_; have GE164 := n3_; clear n0_ n1_ n2_ n3_; clear hb hbox hg) | ((with_reducible refine gate_dst (N := 3) rfl ?_); refine box_event ?hg (N := 3) ?hd (cs := #[.slice A1_0 l1_0.length c1_0]) (t := 29) ?hr ?_; (case hd => rfl); (case hg => rfl); (case hr => first | (go_simp; done) | (go_simp; rfl)); intro gb165 hg w12 hbox hb; have n0_ := Zh (Zm (g := gb164) (o := .cells #[.slice A0_0 l0_0.length c0_0] 29 (0, 0)) Zk hb); have n1_ := Zh (Zl Zs hb); have n2_ := Zh (hbox); have n3_ := Zh ((by rw [hg]; exact (below_size Zs) : w.heap.size ≤ gb165)); have n4_ := Zh ((by rw [hg]; exact (below_size Zs) : w.heap.size ≤ gb165)); have n5_ := Zh ((by rw [hg]; exact Nat.ne_of_lt (blk_lt (g := gb164) (o := .cells #[.slice A0_0 l0_0.length c0_0] 29 (0, 0)) Zk) : gb164 ≠ gb165)); have n6_ := Zh ((by rw [hg]; exact Nat.ne_of_gt (blk_lt (g := gb164) (o := .cells #[.slice A0_0 l0_0.length c0_0] 29 (0, 0)) Zk) : gb165 ≠ gb164)); clear BK164; clear HB; have BK164 := n0_; have HB := n1_; have BK165 := n2_; have GW165 := n3_; have GE165 := n4_; have NB164_165 := n5_; have NB165_164 := n6_; clear n0_ n1_ n2_ n3_ n4_ n5_ n6_; clear hb hbox hg; have hnb13 := NB164_165.out; have hnc13 := NB165_164.out; have hcz14_0 : w12.cell? ⟨gb164, 0, none⟩ = some (.slice A0_0 l0_0.length c0_0) := (blk_cell BK164.out 0).trans rfl; have hfz14_0 := Zn BK164.out 0; have hcz15_0 : w12.cell? ⟨gb165, 0, none⟩ = some (.slice A1_0 l1_0.length c1_0) := (blk_cell BK165.out 0).trans rfl; have hfz15_0 := Zn BK165.out 0) | ((with_reducible refine gate_callee (f := 60) rfl ?_); refine goesL_ (some 9) rfl rfl Tryd.func60 (by kernel_rfl) rfl #[.slice A0_0 l0_0.length c0_0, .slice A1_0 l1_0.length c1_0] rfl (by (try simp only [List.map_toArray, List.map_cons, List.map_nil]); first | done | rfl | (simp only [List.length_drop, List.length_take]; rfl)) ?_; (with_reducible refine (laws_eqFileS.calls k _ _ l0_0 _ _ l1_0 false _ ?side1 ?side2 ?side3 ?side4 A3.out).mono ?_); (case side1 => repeat (first | exact (C_below HR0_0.out HB.out) | (with_reducible refine C_alloc ?_ _) | (with_reducible refine C_drewN ?_ _) | (with_reducible refine C_drew ?_))); (case side2 => exact HC0_0.out); (case side3 => repeat (first | exact (C_below HR1_0.out HB.out) | (with_reducible refine C_alloc ?_ _) | (with_reducible refine C_drewN ?_ _) | (with_reducible refine C_drew ?_))); (case side4 => exact HC1_0.out); rintro e w16 ⟨rfl, hb⟩; refine ⟨_, rfl, ?_⟩; have n0_ := Zh (Zm (g := gb164) (o := .cells #[.slice A0_0 l0_0.length c0_0] 29 (0, 0)) Zk hb); have n1_ := Zh (Zm (g := gb165) (o := .cells #[.slice A1_0 l1_0.length c1_0] 29 (0, 0)) Zk hb); have n2_ := Zh (Zl Zs hb); clear BK164; clear BK165; clear HB; have BK164 := n0_; have BK165 := n1_; have HB := n2_; clear n0_ n1_ n2_; (try clear hb); (try clear hb2); (try clear hk); (try clear hi)))
 go_ret
 exact ⟨by first | rfl | (simp [errW_none, errW_some] <;> rfl) | (simp [*, errW_none, errW_some] <;> rfl), by repeat (first | (with_reducible first | exact HB.out | apply Zf | apply Zd | apply Ze | refine Zg ?_ GE164.out | refine Zg ?_ GE165.out) | exact HB.out)⟩
def laws_heldByteS.l0 : Nat → List Int → Int → Int → Option (Int)
 | 0, _, _, _ => none
 | k + 1, x0, x1, x5 => if x5 < (x0.length : Int) then (if 0 ≤ x5 then (if (rd x0 x5) = ((x1) % 256) then (laws_heldByteS.l0 k x0 (wrap64 (x1 + 1)) (wrap64 (x5 + 1))) else (some (-1))) else (none)) else (some x1)
def laws_heldByteS.f (k : Nat) (l0 : List Int) (a1 : Int) : Option (Int) := laws_heldByteS.l0 k l0 a1 0
set_option maxHeartbeats 8000000 in
set_option maxRecDepth 100000 in
theorem laws_heldByteS.calls (k : Nat) (A0 : Option Addr) (c0 : Nat) (l0 : List Int) (a1 : Int) (r : Int) (w : World) (hr0 : Kd.C (Kd.int .u8) w A0 l0.length l0) (hc0 : l0.length ≤ c0) (h : laws_heldByteS.f k l0 a1 = some r) :
  Calls Tryd.prog 24 #[.slice A0 l0.length c0, .int .i64 a1] w fun e w' => e = .returned (.int .i64 r) ∧ Drawn0 w w' := by
 have HR0 := Zh hr0
 have HC0 := Zh hc0
 clear hr0 hc0
 have H : (laws_heldByteS.l0 k l0 a1 0) = some r := h
 clear h
 have H' := Zh H
 clear H
 go_enter Tryd.func24, Tryd.ntmps24
 go_wp2
 go_loopg [1, 5] k (fun kq v1 v5 w' => ∃ (x1_1 : Int) (x5_1 : Int), v1 = .int .i64 x1_1 ∧ v5 = .int .i64 x5_1 ∧ Aside0 (laws_heldByteS.l0 kq l0 x1_1 x5_1 = some r) ∧ Aside0 (kq ≤ k) ∧ Drawn0 w w')
 case atStart => exact ⟨(a1), (0), (by first | rfl | (simp; done) | (simp [*]; done)), (by first | rfl | (simp; done) | (simp [*]; done)), H', ⟨Nat.le_refl _⟩, by repeat (first | exact Drawn0.refl _ | apply Drawn0.step)⟩
 case round =>
  clear H'
  try clear c2
  try clear p2
  obtain ⟨x1_1, x5_1, rfl, rfl, HA, HK1, ⟨m1, rfl⟩⟩ := hrel
  cases gk with
  | zero => exact absurd HA.out (by simp [laws_heldByteS.l0])
  | succ k1 =>
   have H := HA.out
   clear HA
   simp only [laws_heldByteS.l0] at H
   by_cases c3 : x5_1 < (l0.length : Int)
   ·
    rw [if_pos c3] at H
    have c3b0 : decide (x5_1 < (l0.length : Int)) = true := decide_eq_true c3
    clear c3
    by_cases c4 : 0 ≤ x5_1
    ·
     rw [if_pos c4] at H
     have c4b0 : decide (0 ≤ x5_1) = true := decide_eq_true c4
     clear c4
     by_cases c5 : (rd l0 x5_1) = ((x1_1) % 256)
     ·
      rw [if_pos c5] at H
      have c5b0 : ((rd l0 x5_1) == ((x1_1) % 256)) = true := beq_iff_eq.mpr c5
      have c5b1 : ((rd l0 x5_1) != ((x1_1) % 256)) = false := bne_eq_false_iff_eq.mpr c5
      clear c5
      have H' := Zh H
      clear H
      have p227 : 0 ≤ (x5_1 : Int) := Zo
      have q227 : x5_1 < (l0.length : Int) := Zo
      obtain ⟨ad227, e227, hx227_0⟩ := Kd.at_int HR0.out x5_1 p227 q227
      cases e227
      replace p227 := eq_true p227
      replace q227 := eq_true q227
      go_wp2
      go_roundg k1
      case measure => have := HK1.out; omega
      case rel => exact ⟨(wrap64 (x1_1 + 1)), (wrap64 (x5_1 + 1)), (by first | rfl | (simp; done) | (simp [*]; done)), (by first | rfl | (simp; done) | (simp [*]; done)), H', ⟨by have := HK1.out; omega⟩, by repeat (first | exact Drawn0.refl _ | apply Drawn0.step)⟩
     rw [if_neg c5] at H
     have c5b0 : ((rd l0 x5_1) == ((x1_1) % 256)) = false := beq_eq_false_iff_ne.mpr c5
     have c5b1 : ((rd l0 x5_1) != ((x1_1) % 256)) = true := bne_iff_ne.mpr c5
     obtain rfl := Option.some.inj H
     have p227 : 0 ≤ (x5_1 : Int) := Zo
     have q227 : x5_1 < (l0.length : Int) := Zo
     obtain ⟨ad227, e227, hx227_0⟩ := Kd.at_int HR0.out x5_1 p227 q227
     cases e227
     replace p227 := eq_true p227
     replace q227 := eq_true q227
     go_wp2
     go_ret
     exact ⟨by first | rfl | (simp; done) | (simp [*]; done), by repeat (first | exact Drawn0.refl _ | apply Drawn0.step)⟩
    rw [if_neg c4] at H
    exact absurd H (by simp)
   rw [if_neg c3] at H
   have c3b0 : decide (x5_1 < (l0.length : Int)) = false := decide_eq_false c3
   clear c3
   obtain rfl := Option.some.inj H
   go_wp2
   go_ret
   exact ⟨by first | rfl | (simp; done) | (simp [*]; done), by repeat (first | exact Drawn0.refl _ | apply Drawn0.step)⟩
def laws_markText.l0 : Nat → Int → ByteArray → Option (ByteArray)
 | 0, _, _ => none
 | k + 1, x0, x3 => if x0 > 0 then ((some (([(wrap64 (48 + (Int.tmod x0 10))) % 256] : List Int) : List Int)).bind fun y224 => (if (strOfNums y224).size + x3.size ≤ 9223372036854775807 then (laws_markText.l0 k (wrap64 (Int.tdiv x0 10)) ((strOfNums y224) ++ x3)) else (none))) else (if 1 + x3.size ≤ 9223372036854775807 then (some ((⟨#[109]⟩ : ByteArray) ++ x3)) else (none))
def laws_markText.f (k : Nat) (a0 : Int) : Option (ByteArray) := if a0 ≤ 0 then (some (⟨#[109, 48]⟩ : ByteArray)) else (laws_markText.l0 k a0 (⟨#[]⟩ : ByteArray))
set_option maxHeartbeats 8000000 in
set_option maxRecDepth 100000 in
theorem laws_markText.calls (k : Nat) (a0 : Int) (r : ByteArray) (w : World) (h : laws_markText.f k a0 = some r) :
  Calls Tryd.prog 83 #[.int .i64 a0] w fun e w' => e = .returned (.string r) ∧ Below w.heap.size w w' := by
 have HB := Zh (Below.refl w.heap.size w)
 have H : (if a0 ≤ 0 then (some (⟨#[109, 48]⟩ : ByteArray)) else (laws_markText.l0 k a0 (⟨#[]⟩ : ByteArray))) = some r := h
 clear h
 by_cases c2 : a0 ≤ 0
 ·
  rw [if_pos c2] at H
  have c2b0 : decide (a0 ≤ 0) = true := decide_eq_true c2
  clear c2
  obtain rfl := Option.some.inj H
  go_enter Tryd.func83, Tryd.ntmps83
  go_wp2
  go_ret
  exact ⟨by first | rfl | (simp [errW_none, errW_some] <;> rfl) | (simp [*, errW_none, errW_some] <;> rfl), by repeat (first | (with_reducible first | exact HB.out | apply Zf | apply Zd | apply Ze) | exact HB.out)⟩
 rw [if_neg c2] at H
 have c2b0 : decide (a0 ≤ 0) = false := decide_eq_false c2
 clear c2
 have H' := Zh H
 clear H
 go_enter Tryd.func83, Tryd.ntmps83
 go_wp2
 go_loopg [0, 3] k (fun kq v0 v3 w' => ∃ (x0_1 : Int) (x3_1 : ByteArray), v0 = .int .i64 x0_1 ∧ v3 = .string x3_1 ∧ Aside0 (laws_markText.l0 kq x0_1 x3_1 = some r) ∧ Aside0 (kq ≤ k) ∧ Aside0 (Below w.heap.size w w'))
 case atStart => exact ⟨(a0), ((⟨#[]⟩ : ByteArray)), (by first | rfl | (simp; done) | (simp [*]; done)), (by first | rfl | (simp; done) | (simp [*]; done)), H', ⟨Nat.le_refl _⟩, ⟨by repeat (first | (with_reducible first | exact HB.out | apply Zf | apply Zd | apply Ze) | exact HB.out)⟩⟩
 case round =>
  clear H'
  try clear c2
  try clear c2b0
  try clear p2
  obtain ⟨x0_1, x3_1, rfl, rfl, HA, HK1, HB⟩ := hrel
  cases gk with
  | zero => exact absurd HA.out (by simp [laws_markText.l0])
  | succ k1 =>
   have H := HA.out
   clear HA
   simp only [laws_markText.l0] at H
   by_cases c3 : x0_1 > 0
   ·
    rw [if_pos c3] at H
    have c3b0 : decide (0 < x0_1) = true := decide_eq_true c3
    clear c3
    obtain ⟨y224, hy224⟩ : ∃ y_ : List Int, y_ = (([(wrap64 (48 + (Int.tmod x0_1 10))) % 256] : List Int)) := ⟨_, rfl⟩
    replace H : (if (strOfNums y224).size + x3_1.size ≤ 9223372036854775807 then (laws_markText.l0 k1 (wrap64 (Int.tdiv x0_1 10)) ((strOfNums y224) ++ x3_1)) else (none)) = some r := by first | (rw [hy224]; with_reducible exact H) | (have H2_ := (Option.bind_some _ _).symm.trans H; rw [hy224]; with_reducible exact H2_) | (have H2_ := (Option.bind_some _ _).symm.trans H; with_reducible exact H2_) | with_reducible exact H | (rw [hy224]; exact H) | exact H
    have Ny224 := Zh hy224
    clear hy224
    by_cases c4 : (strOfNums y224).size + x3_1.size ≤ 9223372036854775807
    ·
     rw [if_pos c4] at H
     have c4b0 := eq_true c4
     have c4b1 : decide ((strOfNums y224).size + x3_1.size ≤ 9223372036854775807) = true := decide_eq_true c4
     try have c4b2 : (9223372036854775807 < (strOfNums y224).size + x3_1.size) = False := eq_false (Nat.not_lt.2 c4)
     have H' := Zh H
     clear H
     go_wp2_with (first | ((with_reducible refine gate_dst (N := 12) rfl ?_); refine R_lit (Kd.int .u8) _ 5 ?hg (N := 12) ?hd (xs := ([(wrap64 (48 + (Int.tmod x0_1 10))) % 256] : List Int)) (inner := [.int .u8 ((wrap64 (48 + (Int.tmod x0_1 10))) % 256)]) (ok := fun _ => True) (okp := fun _ => True) ?hr ?hp (fun _ hk => hk) trivial (Below.refl _ _) (Nat.le_refl _) (by simp) ?_; (case hd => rfl); (case hg => rfl); (case hr => first | (go_simp; done) | (go_simp; rfl)); (case hp => exact (Reps.one (show Kd.M (Kd.int .u8) _ _ _ ((wrap64 (48 + (Int.tmod x0_1 10))) % 256) [.int .u8 ((wrap64 (48 + (Int.tmod x0_1 10))) % 256)] from rfl) (Reps.none _ _))); intro v225 w5 ho6 hb hg_ hnew_; clear hg_ hnew_; (first | rw [← Ny224.out] at ho6 | (simp only [Int.reduceToNat] at ho6; rw [← Ny224.out] at ho6)); have n0_ := Zh (R_lower ho6 (below_size Zs)); have n1_ := Zh (Zl Zs hb); clear HB; have HO226 := n0_; have HB := n1_; clear n0_ n1_; clear hb ho6; have hcv7 := own_string (P := Tryd.prog) Tryd.underlying33 Tryd.underlying5 Tryd.underlying9 (Kd.own_of_R HO226.out); have hcv8 := fun (nq_ : Nat) => own_string (P := Tryd.prog) Tryd.underlying33 Tryd.underlying5 Tryd.underlying9 (Kd.own_of_R (R_drewN HO226.out nq_))))
     go_roundg k1
     case measure => have := HK1.out; omega
     case rel => exact ⟨(wrap64 (Int.tdiv x0_1 10)), ((strOfNums y224) ++ x3_1), (by first | rfl | (simp; done) | (simp [*]; done)), (by first | rfl | (simp; done) | (simp [*]; done)), H', ⟨by have := HK1.out; omega⟩, ⟨by repeat (first | (with_reducible first | exact HB.out | apply Zf | apply Zd | apply Ze) | exact HB.out)⟩⟩
    rw [if_neg c4] at H
    exact absurd H (by simp)
   rw [if_neg c3] at H
   have c3b0 : decide (0 < x0_1) = false := decide_eq_false c3
   clear c3
   by_cases c9 : 1 + x3_1.size ≤ 9223372036854775807
   ·
    rw [if_pos c9] at H
    have c9b0 := eq_true c9
    have c9b1 : decide (1 + x3_1.size ≤ 9223372036854775807) = true := decide_eq_true c9
    try have c9b2 : (9223372036854775807 < 1 + x3_1.size) = False := eq_false (Nat.not_lt.2 c9)
    obtain rfl := Option.some.inj H
    go_wp2
    go_ret
    exact ⟨by first | rfl | (simp [errW_none, errW_some] <;> rfl) | (simp [*, errW_none, errW_some] <;> rfl), by repeat (first | (with_reducible first | exact HB.out | apply Zf | apply Zd | apply Ze) | exact HB.out)⟩
   rw [if_neg c9] at H
   exact absurd H (by simp)
end Go.Proofs.YtmgeffgcihfpcaaDoor.F

namespace Go.Proofs.YtmgeffgcihfpcaaDoor.F
open Go.Proofs.YtmgeffgcihfpcaaDoor
open Go.RowKit Go.Proofs.YtmgeffgcihfpcaaDoorW.PrintWords Go.Proofs.YtmgeffgcihfpcaaDoorW.PrintWords.Kd Go.Proofs.YtmgeffgcihfpcaaDoorW.PrintMore.Kd Go.Proofs.YtmgeffgcihfpcaaDoorW.PrintLast Go.Proofs.YtmgeffgcihfpcaaDoorW.PrintMore
attribute [local go_sem] max2_int min2_int max_two min_two max_three min_three max_four min_four   -- for this text's walks alone
set_option linter.unusedVariables false
set_option linter.unusedSimpArgs false
def laws_heldFileS.l0 : Nat → List (S74) → Int → Int → Option (Int)
 | 0, _, _, _ => none
 | k + 1, x0, x1, x5 => if x5 < (x0.length : Int) then (if 0 ≤ x5 then ((laws_markText.f k x1).bind fun t327 => (if ((rd_T74 x0 x5).f0).toList = t327.toList then ((laws_heldByteS.f k ((rd_T74 x0 x5).f1) (wrap64 (x1 + 1))).bind fun t329 => (if t329 < 0 then (some (-1)) else ((laws_heldByteS.f k ((rd_T74 x0 x5).f2) t329).bind fun t331 => (if t331 < 0 then (some (-1)) else (laws_heldFileS.l0 k x0 t331 (wrap64 (x5 + 1))))))) else (some (-1)))) else (none)) else (some x1)
def laws_heldFileS.f (k : Nat) (l0 : List (S74)) (a1 : Int) : Option (Int) := laws_heldFileS.l0 k l0 a1 0
def laws_heldFileS.T4 : Bool × List (List Nat × List Nat) := (true, [([], []), ([], []), ([0, 1], [0, 1]), ([2], [2]), ([3], [3]), ([], []), ([5], [5]), ([4, 6], [4, 6])])
def laws_heldFileS.B4 : List Nat := [0, 0, 3, 7, 15, 0, 32, 127]
theorem laws_heldFileS.tab4 : rtab .any (opsOf Tryd.f69 4) = laws_heldFileS.T4 := by kernel_rfl
theorem laws_heldFileS.bits4 : waitsOk laws_heldFileS.T4.2 laws_heldFileS.B4 = true := by kernel_rfl
set_option maxHeartbeats 8000000 in
set_option maxRecDepth 100000 in
theorem laws_heldFileS.calls (k : Nat) (A0 : Option Addr) (c0 : Nat) (l0 : List (S74)) (a1 : Int) (r : Int) (w : World) (hr0 : Kd.C k74 w A0 l0.length l0) (hc0 : l0.length ≤ c0) (h : laws_heldFileS.f k l0 a1 = some r) :
  Calls Tryd.prog 69 #[.slice A0 l0.length c0, .int .i64 a1] w fun e w' => e = .returned (.int .i64 r) ∧ Below w.heap.size w w' := by
 have HR0 := Zh hr0
 have HC0 := Zh hc0
 clear hr0 hc0
 have HB := Zh (Below.refl w.heap.size w)
 have H : (laws_heldFileS.l0 k l0 a1 0) = some r := h
 clear h
 have H' := Zh H
 clear H
 go_enter Tryd.func69, Tryd.ntmps69
 go_wp2
 go_loopg [1, 5] k (fun kq v1 v5 w' => ∃ (x1_1 : Int) (x5_1 : Int), v1 = .int .i64 x1_1 ∧ v5 = .int .i64 x5_1 ∧ Aside0 (laws_heldFileS.l0 kq l0 x1_1 x5_1 = some r) ∧ Aside0 (kq ≤ k) ∧ Aside0 (Below w.heap.size w w'))
 case atStart => exact ⟨(a1), (0), (by first | rfl | (simp; done) | (simp [*]; done)), (by first | rfl | (simp; done) | (simp [*]; done)), H', ⟨Nat.le_refl _⟩, ⟨by repeat (first | (with_reducible first | exact HB.out | apply Zf | apply Zd | apply Ze) | exact HB.out)⟩⟩
 case round =>
  clear H'
  try clear p2
  obtain ⟨x1_1, x5_1, rfl, rfl, HA, HK1, HB⟩ := hrel
  cases gk with
  | zero => exact absurd HA.out (by simp [laws_heldFileS.l0])
  | succ k1 =>
   have H := HA.out
   clear HA
   simp only [laws_heldFileS.l0] at H
   by_cases c3 : x5_1 < (l0.length : Int)
   ·
    rw [if_pos c3] at H
    have c3b0 : decide (x5_1 < (l0.length : Int)) = true := decide_eq_true c3
    clear c3
    by_cases c4 : 0 ≤ x5_1
    ·
     rw [if_pos c4] at H
     have c4b0 : decide (0 ≤ x5_1) = true := decide_eq_true c4
     clear c4
     replace H := Option.bind_eq_some_iff.mp H
     obtain ⟨t327, A50, H⟩ := H
     replace H : (if ((rd_T74 l0 x5_1).f0).toList = t327.toList then ((laws_heldByteS.f k1 ((rd_T74 l0 x5_1).f1) (wrap64 (x1_1 + 1))).bind fun t329 => (if t329 < 0 then (some (-1)) else ((laws_heldByteS.f k1 ((rd_T74 l0 x5_1).f2) t329).bind fun t331 => (if t331 < 0 then (some (-1)) else (laws_heldFileS.l0 k1 l0 t331 (wrap64 (x5_1 + 1))))))) else (some (-1))) = some r := H
     have A5 := Zh A50
     clear A50
     by_cases c6 : ((rd_T74 l0 x5_1).f0).toList = t327.toList
     ·
      rw [if_pos c6] at H
      have c6b0 : (((rd_T74 l0 x5_1).f0).toList == t327.toList) = true := beq_iff_eq.mpr c6
      have c6b1 : (((rd_T74 l0 x5_1).f0).toList != t327.toList) = false := bne_eq_false_iff_eq.mpr c6
      clear c6
      replace H := Option.bind_eq_some_iff.mp H
      obtain ⟨t329, A70, H⟩ := H
      replace H : (if t329 < 0 then (some (-1)) else ((laws_heldByteS.f k1 ((rd_T74 l0 x5_1).f2) t329).bind fun t331 => (if t331 < 0 then (some (-1)) else (laws_heldFileS.l0 k1 l0 t331 (wrap64 (x5_1 + 1)))))) = some r := H
      have A7 := Zh A70
      clear A70
      by_cases c8 : t329 < 0
      ·
       rw [if_pos c8] at H
       have c8b0 : decide (t329 < 0) = true := decide_eq_true c8
       clear c8
       obtain rfl := Option.some.inj H
       try go_wp2
       have n0_ := Zh (Ze HB.out)
       clear HB
       have HB := n0_
       clear n0_
       have p326 : 0 ≤ (x5_1 : Int) := Zo
       have q326 : x5_1 < (l0.length : Int) := Zo
       obtain ⟨ad326, A326_1, c326_1, A326_2, c326_2, e326, hx326_0, hx326_1, hx326_2, hl326_1, hi326_1, hl326_2, hi326_2⟩ := at_T74 HR0.out x5_1 p326 q326
       have hw326_2 := hx326_2
       have hw326_1 := hx326_1
       have hw326_0 := hx326_0
       cases e326
       replace hx326_0 := Zc HB.out hx326_0
       replace hx326_1 := Zc HB.out hx326_1
       replace hx326_2 := Zc HB.out hx326_2
       have HR326_1 := Zh hi326_1
       have HC326_1 := Zh hl326_1
       clear hi326_1 hl326_1
       have HR326_2 := Zh hi326_2
       have HC326_2 := Zh hl326_2
       clear hi326_2 hl326_2
       replace p326 := eq_true p326
       replace q326 := eq_true q326
       refine start_ (n := 8) (S := fun w' => w'.cell? (ad326.add ((x5_1).toNat * 3)) = some (.string ((rd_T74 l0 x5_1).f0)) ∧ w'.cell? ⟨(ad326.add ((x5_1).toNat * 3)).block, (ad326.add ((x5_1).toNat * 3)).off + 1, none⟩ = some (.slice A326_1 ((rd_T74 l0 x5_1).f1).length c326_1) ∧ w'.cell? ⟨(ad326.add ((x5_1).toNat * 3)).block, (ad326.add ((x5_1).toNat * 3)).off + 2, none⟩ = some (.slice A326_2 ((rd_T74 l0 x5_1).f2).length c326_2)) (ds := []) #[false, false, false, false, false, false, false, false] (by kernel_rfl) rfl rfl ⟨((HB.out.cell (Zi w _ hw326_0)).trans hw326_0), ((HB.out.cell (Zi w _ hw326_1)).trans hw326_1), ((HB.out.cell (Zi w _ hw326_2)).trans hw326_2)⟩ (fun hHeld => ?_); refine with_tabW laws_heldFileS.tab4 laws_heldFileS.bits4 (fun HT_ HW_ => ?_)
       generalize wr.drew = w9 at HB HR326_1 HR326_2 hx326_0 hx326_1 hx326_2 hHeld ⊢
       refine SQ.pu 0 12 HT_ ?_
       refine SQ.pu 1 13 HT_ ?_
       refine SQ.pu 2 14 HT_ ?_
       refine SQ.pu 3 15 HT_ ?_
       refine SQ.pu 5 17 HT_ ?_
       refine SQ.tk 4 16 HT_ HW_ hHeld ?_
       refine one_ (i := 6) (N := some 18) #[true, true, true, true, true, true, true, false] rfl rfl (one_of HT_.out (by kernel_rfl)) (by decide) (fun K hK => ?_)
       refine goes_ Tryd.func83 (by kernel_rfl) rfl #[.int .i64 x1_1] (by rfl) rfl rfl (by (try simp only [List.map_toArray, List.map_cons, List.map_nil]); first | done | rfl | (simp only [List.length_drop, List.length_take]; rfl)) ?_
       with_reducible refine (laws_markText.calls k1 x1_1 t327 _ A5.out).mono ?_
       rintro e w10 ⟨rfl, hb⟩
       refine ⟨_, rfl, ?_⟩
       have n0_ := Zh (Zl Zs hb)
       clear HB
       have HB := n0_
       clear n0_
       (try clear hb)
       (try clear hb2)
       (try clear hk)
       (try clear hi)
       refine hK.out _ _ ⟨((HB.out.cell (Zi w _ hw326_0)).trans hw326_0), ((HB.out.cell (Zi w _ hw326_1)).trans hw326_1), ((HB.out.cell (Zi w _ hw326_2)).trans hw326_2)⟩ (fun hHeld => ?_)
       clear hK K
       refine norm_ (a' := ?_) ?_ ?_
       rotate_left
       ·
        show Act.put _ (some 18) _ = _
        simp only [Act.put, List.setIfInBounds_toArray, List.set_cons_zero, List.set_cons_succ, i64_w, i32_w]
        rfl
       refine SQ.pu 7 19 HT_ ?_
       refine done_ (done_of HT_.out (by kernel_rfl)) ?_
       have p328 : 0 ≤ (x5_1 : Int) := Zo
       have q328 : x5_1 < (l0.length : Int) := Zo
       obtain ⟨ad328, A328_1, c328_1, A328_2, c328_2, e328, hx328_0, hx328_1, hx328_2, hl328_1, hi328_1, hl328_2, hi328_2⟩ := at_T74 HR0.out x5_1 p328 q328
       obtain rfl : ad326 = ad328 := (by injection e328)
       (try clear hx326_0); (try clear hx326_1); (try clear hx326_2); (try clear hx326_3); (try clear hHeld)
       replace hx328_0 := Zc HB.out hx328_0
       replace hx328_1 := Zc HB.out hx328_1
       replace hx328_2 := Zc HB.out hx328_2
       have HR328_1 := Zh hi328_1
       have HC328_1 := Zh hl328_1
       clear hi328_1 hl328_1
       have HR328_2 := Zh hi328_2
       have HC328_2 := Zh hl328_2
       clear hi328_2 hl328_2
       replace p328 := eq_true p328
       replace q328 := eq_true q328
       try go_wp2_with (first | ((with_reducible refine gate_callee (f := 24) rfl ?_); refine goesL_ (some 28) rfl rfl Tryd.func24 (by kernel_rfl) rfl #[.slice A328_1 ((rd_T74 l0 x5_1).f1).length c328_1, .int .i64 (wrap64 (x1_1 + 1))] rfl (by (try simp only [List.map_toArray, List.map_cons, List.map_nil]); first | done | rfl | (simp only [List.length_drop, List.length_take]; rfl)) ?_; (with_reducible refine (laws_heldByteS.calls k1 _ _ ((rd_T74 l0 x5_1).f1) (wrap64 (x1_1 + 1)) t329 _ ?side1 ?side2 A7.out).mono ?_); (case side1 => repeat (first | exact (C_below HR328_1.out HB.out) | (with_reducible refine C_alloc ?_ _) | (with_reducible refine C_drewN ?_ _) | (with_reducible refine C_drew ?_))); (case side2 => exact HC328_1.out); rintro e w' ⟨rfl, ⟨nd, rfl⟩⟩; refine ⟨_, rfl, ?_⟩))
       go_ret
       exact ⟨by first | rfl | (simp [errW_none, errW_some] <;> rfl) | (simp [*, errW_none, errW_some] <;> rfl), by repeat (first | (with_reducible first | exact HB.out | apply Zf | apply Zd | apply Ze) | exact HB.out)⟩
      rw [if_neg c8] at H
      have c8b0 : decide (t329 < 0) = false := decide_eq_false c8
      clear c8
      replace H := Option.bind_eq_some_iff.mp H
      obtain ⟨t331, A110, H⟩ := H
      replace H : (if t331 < 0 then (some (-1)) else (laws_heldFileS.l0 k1 l0 t331 (wrap64 (x5_1 + 1)))) = some r := H
      have A11 := Zh A110
      clear A110
      by_cases c12 : t331 < 0
      ·
       rw [if_pos c12] at H
       have c12b0 : decide (t331 < 0) = true := decide_eq_true c12
       clear c12
       obtain rfl := Option.some.inj H
       try go_wp2
       have n0_ := Zh (Ze HB.out)
       clear HB
       have HB := n0_
       clear n0_
       have p326 : 0 ≤ (x5_1 : Int) := Zo
       have q326 : x5_1 < (l0.length : Int) := Zo
       obtain ⟨ad326, A326_1, c326_1, A326_2, c326_2, e326, hx326_0, hx326_1, hx326_2, hl326_1, hi326_1, hl326_2, hi326_2⟩ := at_T74 HR0.out x5_1 p326 q326
       have hw326_2 := hx326_2
       have hw326_1 := hx326_1
       have hw326_0 := hx326_0
       cases e326
       replace hx326_0 := Zc HB.out hx326_0
       replace hx326_1 := Zc HB.out hx326_1
       replace hx326_2 := Zc HB.out hx326_2
       have HR326_1 := Zh hi326_1
       have HC326_1 := Zh hl326_1
       clear hi326_1 hl326_1
       have HR326_2 := Zh hi326_2
       have HC326_2 := Zh hl326_2
       clear hi326_2 hl326_2
       replace p326 := eq_true p326
       replace q326 := eq_true q326
       refine start_ (n := 8) (S := fun w' => w'.cell? (ad326.add ((x5_1).toNat * 3)) = some (.string ((rd_T74 l0 x5_1).f0)) ∧ w'.cell? ⟨(ad326.add ((x5_1).toNat * 3)).block, (ad326.add ((x5_1).toNat * 3)).off + 1, none⟩ = some (.slice A326_1 ((rd_T74 l0 x5_1).f1).length c326_1) ∧ w'.cell? ⟨(ad326.add ((x5_1).toNat * 3)).block, (ad326.add ((x5_1).toNat * 3)).off + 2, none⟩ = some (.slice A326_2 ((rd_T74 l0 x5_1).f2).length c326_2)) (ds := []) #[false, false, false, false, false, false, false, false] (by kernel_rfl) rfl rfl ⟨((HB.out.cell (Zi w _ hw326_0)).trans hw326_0), ((HB.out.cell (Zi w _ hw326_1)).trans hw326_1), ((HB.out.cell (Zi w _ hw326_2)).trans hw326_2)⟩ (fun hHeld => ?_); refine with_tabW laws_heldFileS.tab4 laws_heldFileS.bits4 (fun HT_ HW_ => ?_)
       generalize wr.drew = w13 at HB HR326_1 HR326_2 hx326_0 hx326_1 hx326_2 hHeld ⊢
       refine SQ.pu 0 12 HT_ ?_
       refine SQ.pu 1 13 HT_ ?_
       refine SQ.pu 2 14 HT_ ?_
       refine SQ.pu 3 15 HT_ ?_
       refine SQ.pu 5 17 HT_ ?_
       refine SQ.tk 4 16 HT_ HW_ hHeld ?_
       refine one_ (i := 6) (N := some 18) #[true, true, true, true, true, true, true, false] rfl rfl (one_of HT_.out (by kernel_rfl)) (by decide) (fun K hK => ?_)
       refine goes_ Tryd.func83 (by kernel_rfl) rfl #[.int .i64 x1_1] (by rfl) rfl rfl (by (try simp only [List.map_toArray, List.map_cons, List.map_nil]); first | done | rfl | (simp only [List.length_drop, List.length_take]; rfl)) ?_
       with_reducible refine (laws_markText.calls k1 x1_1 t327 _ A5.out).mono ?_
       rintro e w14 ⟨rfl, hb⟩
       refine ⟨_, rfl, ?_⟩
       have n0_ := Zh (Zl Zs hb)
       clear HB
       have HB := n0_
       clear n0_
       (try clear hb)
       (try clear hb2)
       (try clear hk)
       (try clear hi)
       refine hK.out _ _ ⟨((HB.out.cell (Zi w _ hw326_0)).trans hw326_0), ((HB.out.cell (Zi w _ hw326_1)).trans hw326_1), ((HB.out.cell (Zi w _ hw326_2)).trans hw326_2)⟩ (fun hHeld => ?_)
       clear hK K
       refine norm_ (a' := ?_) ?_ ?_
       rotate_left
       ·
        show Act.put _ (some 18) _ = _
        simp only [Act.put, List.setIfInBounds_toArray, List.set_cons_zero, List.set_cons_succ, i64_w, i32_w]
        rfl
       refine SQ.pu 7 19 HT_ ?_
       refine done_ (done_of HT_.out (by kernel_rfl)) ?_
       have p328 : 0 ≤ (x5_1 : Int) := Zo
       have q328 : x5_1 < (l0.length : Int) := Zo
       obtain ⟨ad328, A328_1, c328_1, A328_2, c328_2, e328, hx328_0, hx328_1, hx328_2, hl328_1, hi328_1, hl328_2, hi328_2⟩ := at_T74 HR0.out x5_1 p328 q328
       obtain rfl : ad326 = ad328 := (by injection e328)
       (try clear hx326_0); (try clear hx326_1); (try clear hx326_2); (try clear hx326_3); (try clear hHeld)
       replace hx328_0 := Zc HB.out hx328_0
       replace hx328_1 := Zc HB.out hx328_1
       replace hx328_2 := Zc HB.out hx328_2
       have HR328_1 := Zh hi328_1
       have HC328_1 := Zh hl328_1
       clear hi328_1 hl328_1
       have HR328_2 := Zh hi328_2
       have HC328_2 := Zh hl328_2
       clear hi328_2 hl328_2
       replace p328 := eq_true p328
       replace q328 := eq_true q328
       try go_wp2_with (first | ((with_reducible refine gate_callee (f := 24) rfl ?_); refine goesL_ (some 28) rfl rfl Tryd.func24 (by kernel_rfl) rfl #[.slice A328_1 ((rd_T74 l0 x5_1).f1).length c328_1, .int .i64 (wrap64 (x1_1 + 1))] rfl (by (try simp only [List.map_toArray, List.map_cons, List.map_nil]); first | done | rfl | (simp only [List.length_drop, List.length_take]; rfl)) ?_; (with_reducible refine (laws_heldByteS.calls k1 _ _ ((rd_T74 l0 x5_1).f1) (wrap64 (x1_1 + 1)) t329 _ ?side1 ?side2 A7.out).mono ?_); (case side1 => repeat (first | exact (C_below HR328_1.out HB.out) | (with_reducible refine C_alloc ?_ _) | (with_reducible refine C_drewN ?_ _) | (with_reducible refine C_drew ?_))); (case side2 => exact HC328_1.out); rintro e w' ⟨rfl, ⟨nd, rfl⟩⟩; refine ⟨_, rfl, ?_⟩; have p330 : 0 ≤ (x5_1 : Int) := Zo; have q330 : x5_1 < (l0.length : Int) := Zo; obtain ⟨ad330, A330_1, c330_1, A330_2, c330_2, e330, hx330_0, hx330_1, hx330_2, hl330_1, hi330_1, hl330_2, hi330_2⟩ := at_T74 HR0.out x5_1 p330 q330; obtain rfl : ad326 = ad330 := (by injection e330); replace hx330_0 := Zc HB.out hx330_0; replace hx330_1 := Zc HB.out hx330_1; replace hx330_2 := Zc HB.out hx330_2; have HR330_1 := Zh hi330_1; have HC330_1 := Zh hl330_1; clear hi330_1 hl330_1; have HR330_2 := Zh hi330_2; have HC330_2 := Zh hl330_2; clear hi330_2 hl330_2; replace p330 := eq_true p330; replace q330 := eq_true q330; have ea_ := Option.some.inj (hx328_1.symm.trans hx330_1); injection ea_ with ea_ en_ ec_; subst ea_; subst ec_; clear en_; have ea_ := Option.some.inj (hx328_2.symm.trans hx330_2); injection ea_ with ea_ en_ ec_; subst ea_; subst ec_; clear en_) | ((with_reducible refine gate_callee (f := 24) rfl ?_); refine goesL_ (some 37) rfl rfl Tryd.func24 (by kernel_rfl) rfl #[.slice A328_2 ((rd_T74 l0 x5_1).f2).length c328_2, .int .i64 t329] rfl (by (try simp only [List.map_toArray, List.map_cons, List.map_nil]); first | done | rfl | (simp only [List.length_drop, List.length_take]; rfl)) ?_; (with_reducible refine (laws_heldByteS.calls k1 _ _ ((rd_T74 l0 x5_1).f2) t329 t331 _ ?side1 ?side2 A11.out).mono ?_); (case side1 => repeat (first | exact (C_below HR330_2.out Zs) | (with_reducible refine C_alloc ?_ _) | (with_reducible refine C_drewN ?_ _) | (with_reducible refine C_drew ?_))); (case side2 => exact HC330_2.out); rintro e w' ⟨rfl, ⟨nd, rfl⟩⟩; refine ⟨_, rfl, ?_⟩))
       go_ret
       exact ⟨by first | rfl | (simp [errW_none, errW_some] <;> rfl) | (simp [*, errW_none, errW_some] <;> rfl), by repeat (first | (with_reducible first | exact HB.out | apply Zf | apply Zd | apply Ze) | exact HB.out)⟩
      rw [if_neg c12] at H
      have c12b0 : decide (t331 < 0) = false := decide_eq_false c12
      clear c12
      have H' := Zh H
      clear H
      try go_wp2
      have n0_ := Zh (Ze HB.out)
      clear HB
      have HB := n0_
      clear n0_
      have p326 : 0 ≤ (x5_1 : Int) := Zo
      have q326 : x5_1 < (l0.length : Int) := Zo
      obtain ⟨ad326, A326_1, c326_1, A326_2, c326_2, e326, hx326_0, hx326_1, hx326_2, hl326_1, hi326_1, hl326_2, hi326_2⟩ := at_T74 HR0.out x5_1 p326 q326
      have hw326_2 := hx326_2
      have hw326_1 := hx326_1
      have hw326_0 := hx326_0
      cases e326
      replace hx326_0 := Zc HB.out hx326_0
      replace hx326_1 := Zc HB.out hx326_1
      replace hx326_2 := Zc HB.out hx326_2
      have HR326_1 := Zh hi326_1
      have HC326_1 := Zh hl326_1
      clear hi326_1 hl326_1
      have HR326_2 := Zh hi326_2
      have HC326_2 := Zh hl326_2
      clear hi326_2 hl326_2
      replace p326 := eq_true p326
      replace q326 := eq_true q326
      refine start_ (n := 8) (S := fun w' => w'.cell? (ad326.add ((x5_1).toNat * 3)) = some (.string ((rd_T74 l0 x5_1).f0)) ∧ w'.cell? ⟨(ad326.add ((x5_1).toNat * 3)).block, (ad326.add ((x5_1).toNat * 3)).off + 1, none⟩ = some (.slice A326_1 ((rd_T74 l0 x5_1).f1).length c326_1) ∧ w'.cell? ⟨(ad326.add ((x5_1).toNat * 3)).block, (ad326.add ((x5_1).toNat * 3)).off + 2, none⟩ = some (.slice A326_2 ((rd_T74 l0 x5_1).f2).length c326_2)) (ds := []) #[false, false, false, false, false, false, false, false] (by kernel_rfl) rfl rfl ⟨((HB.out.cell (Zi w _ hw326_0)).trans hw326_0), ((HB.out.cell (Zi w _ hw326_1)).trans hw326_1), ((HB.out.cell (Zi w _ hw326_2)).trans hw326_2)⟩ (fun hHeld => ?_); refine with_tabW laws_heldFileS.tab4 laws_heldFileS.bits4 (fun HT_ HW_ => ?_)
      generalize wr.drew = w15 at HB HR326_1 HR326_2 hx326_0 hx326_1 hx326_2 hHeld ⊢
      refine SQ.pu 0 12 HT_ ?_
      refine SQ.pu 1 13 HT_ ?_
      refine SQ.pu 2 14 HT_ ?_
      refine SQ.pu 3 15 HT_ ?_
      refine SQ.pu 5 17 HT_ ?_
      refine SQ.tk 4 16 HT_ HW_ hHeld ?_
      refine one_ (i := 6) (N := some 18) #[true, true, true, true, true, true, true, false] rfl rfl (one_of HT_.out (by kernel_rfl)) (by decide) (fun K hK => ?_)
      refine goes_ Tryd.func83 (by kernel_rfl) rfl #[.int .i64 x1_1] (by rfl) rfl rfl (by (try simp only [List.map_toArray, List.map_cons, List.map_nil]); first | done | rfl | (simp only [List.length_drop, List.length_take]; rfl)) ?_
      with_reducible refine (laws_markText.calls k1 x1_1 t327 _ A5.out).mono ?_
      rintro e w16 ⟨rfl, hb⟩
      refine ⟨_, rfl, ?_⟩
      have n0_ := Zh (Zl Zs hb)
      clear HB
      have HB := n0_
      clear n0_
      (try clear hb)
      (try clear hb2)
      (try clear hk)
      (try clear hi)
      refine hK.out _ _ ⟨((HB.out.cell (Zi w _ hw326_0)).trans hw326_0), ((HB.out.cell (Zi w _ hw326_1)).trans hw326_1), ((HB.out.cell (Zi w _ hw326_2)).trans hw326_2)⟩ (fun hHeld => ?_)
      clear hK K
      refine norm_ (a' := ?_) ?_ ?_
      rotate_left
      ·
       show Act.put _ (some 18) _ = _
       simp only [Act.put, List.setIfInBounds_toArray, List.set_cons_zero, List.set_cons_succ, i64_w, i32_w]
       rfl
      refine SQ.pu 7 19 HT_ ?_
      refine done_ (done_of HT_.out (by kernel_rfl)) ?_
      have p328 : 0 ≤ (x5_1 : Int) := Zo
      have q328 : x5_1 < (l0.length : Int) := Zo
      obtain ⟨ad328, A328_1, c328_1, A328_2, c328_2, e328, hx328_0, hx328_1, hx328_2, hl328_1, hi328_1, hl328_2, hi328_2⟩ := at_T74 HR0.out x5_1 p328 q328
      obtain rfl : ad326 = ad328 := (by injection e328)
      (try clear hx326_0); (try clear hx326_1); (try clear hx326_2); (try clear hx326_3); (try clear hHeld)
      replace hx328_0 := Zc HB.out hx328_0
      replace hx328_1 := Zc HB.out hx328_1
      replace hx328_2 := Zc HB.out hx328_2
      have HR328_1 := Zh hi328_1
      have HC328_1 := Zh hl328_1
      clear hi328_1 hl328_1
      have HR328_2 := Zh hi328_2
      have HC328_2 := Zh hl328_2
      clear hi328_2 hl328_2
      replace p328 := eq_true p328
      replace q328 := eq_true q328
      try go_wp2_with (first | ((with_reducible refine gate_callee (f := 24) rfl ?_); refine goesL_ (some 28) rfl rfl Tryd.func24 (by kernel_rfl) rfl #[.slice A328_1 ((rd_T74 l0 x5_1).f1).length c328_1, .int .i64 (wrap64 (x1_1 + 1))] rfl (by (try simp only [List.map_toArray, List.map_cons, List.map_nil]); first | done | rfl | (simp only [List.length_drop, List.length_take]; rfl)) ?_; (with_reducible refine (laws_heldByteS.calls k1 _ _ ((rd_T74 l0 x5_1).f1) (wrap64 (x1_1 + 1)) t329 _ ?side1 ?side2 A7.out).mono ?_); (case side1 => repeat (first | exact (C_below HR328_1.out HB.out) | (with_reducible refine C_alloc ?_ _) | (with_reducible refine C_drewN ?_ _) | (with_reducible refine C_drew ?_))); (case side2 => exact HC328_1.out); rintro e w' ⟨rfl, ⟨nd, rfl⟩⟩; refine ⟨_, rfl, ?_⟩; have p330 : 0 ≤ (x5_1 : Int) := Zo; have q330 : x5_1 < (l0.length : Int) := Zo; obtain ⟨ad330, A330_1, c330_1, A330_2, c330_2, e330, hx330_0, hx330_1, hx330_2, hl330_1, hi330_1, hl330_2, hi330_2⟩ := at_T74 HR0.out x5_1 p330 q330; obtain rfl : ad326 = ad330 := (by injection e330); replace hx330_0 := Zc HB.out hx330_0; replace hx330_1 := Zc HB.out hx330_1; replace hx330_2 := Zc HB.out hx330_2; have HR330_1 := Zh hi330_1; have HC330_1 := Zh hl330_1; clear hi330_1 hl330_1; have HR330_2 := Zh hi330_2; have HC330_2 := Zh hl330_2; clear hi330_2 hl330_2; replace p330 := eq_true p330; replace q330 := eq_true q330; have ea_ := Option.some.inj (hx328_1.symm.trans hx330_1); injection ea_ with ea_ en_ ec_; subst ea_; subst ec_; clear en_; have ea_ := Option.some.inj (hx328_2.symm.trans hx330_2); injection ea_ with ea_ en_ ec_; subst ea_; subst ec_; clear en_) | ((with_reducible refine gate_callee (f := 24) rfl ?_); refine goesL_ (some 37) rfl rfl Tryd.func24 (by kernel_rfl) rfl #[.slice A328_2 ((rd_T74 l0 x5_1).f2).length c328_2, .int .i64 t329] rfl (by (try simp only [List.map_toArray, List.map_cons, List.map_nil]); first | done | rfl | (simp only [List.length_drop, List.length_take]; rfl)) ?_; (with_reducible refine (laws_heldByteS.calls k1 _ _ ((rd_T74 l0 x5_1).f2) t329 t331 _ ?side1 ?side2 A11.out).mono ?_); (case side1 => repeat (first | exact (C_below HR330_2.out Zs) | (with_reducible refine C_alloc ?_ _) | (with_reducible refine C_drewN ?_ _) | (with_reducible refine C_drew ?_))); (case side2 => exact HC330_2.out); rintro e w' ⟨rfl, ⟨nd, rfl⟩⟩; refine ⟨_, rfl, ?_⟩))
      go_roundg k1
      case measure => have := HK1.out; omega
      case rel => exact ⟨(t331), (wrap64 (x5_1 + 1)), (by first | rfl | (simp; done) | (simp [*]; done)), (by first | rfl | (simp; done) | (simp [*]; done)), H', ⟨by have := HK1.out; omega⟩, ⟨by repeat (first | (with_reducible first | exact HB.out | apply Zf | apply Zd | apply Ze) | exact HB.out)⟩⟩
     rw [if_neg c6] at H
     have c6b0 : (((rd_T74 l0 x5_1).f0).toList == t327.toList) = false := beq_eq_false_iff_ne.mpr c6
     have c6b1 : (((rd_T74 l0 x5_1).f0).toList != t327.toList) = true := bne_iff_ne.mpr c6
     obtain rfl := Option.some.inj H
     try go_wp2
     have n0_ := Zh (Ze HB.out)
     clear HB
     have HB := n0_
     clear n0_
     have p326 : 0 ≤ (x5_1 : Int) := Zo
     have q326 : x5_1 < (l0.length : Int) := Zo
     obtain ⟨ad326, A326_1, c326_1, A326_2, c326_2, e326, hx326_0, hx326_1, hx326_2, hl326_1, hi326_1, hl326_2, hi326_2⟩ := at_T74 HR0.out x5_1 p326 q326
     have hw326_2 := hx326_2
     have hw326_1 := hx326_1
     have hw326_0 := hx326_0
     cases e326
     replace hx326_0 := Zc HB.out hx326_0
     replace hx326_1 := Zc HB.out hx326_1
     replace hx326_2 := Zc HB.out hx326_2
     have HR326_1 := Zh hi326_1
     have HC326_1 := Zh hl326_1
     clear hi326_1 hl326_1
     have HR326_2 := Zh hi326_2
     have HC326_2 := Zh hl326_2
     clear hi326_2 hl326_2
     replace p326 := eq_true p326
     replace q326 := eq_true q326
     refine start_ (n := 8) (S := fun w' => w'.cell? (ad326.add ((x5_1).toNat * 3)) = some (.string ((rd_T74 l0 x5_1).f0)) ∧ w'.cell? ⟨(ad326.add ((x5_1).toNat * 3)).block, (ad326.add ((x5_1).toNat * 3)).off + 1, none⟩ = some (.slice A326_1 ((rd_T74 l0 x5_1).f1).length c326_1) ∧ w'.cell? ⟨(ad326.add ((x5_1).toNat * 3)).block, (ad326.add ((x5_1).toNat * 3)).off + 2, none⟩ = some (.slice A326_2 ((rd_T74 l0 x5_1).f2).length c326_2)) (ds := []) #[false, false, false, false, false, false, false, false] (by kernel_rfl) rfl rfl ⟨((HB.out.cell (Zi w _ hw326_0)).trans hw326_0), ((HB.out.cell (Zi w _ hw326_1)).trans hw326_1), ((HB.out.cell (Zi w _ hw326_2)).trans hw326_2)⟩ (fun hHeld => ?_); refine with_tabW laws_heldFileS.tab4 laws_heldFileS.bits4 (fun HT_ HW_ => ?_)
     generalize wr.drew = w17 at HB HR326_1 HR326_2 hx326_0 hx326_1 hx326_2 hHeld ⊢
     refine SQ.pu 0 12 HT_ ?_
     refine SQ.pu 1 13 HT_ ?_
     refine SQ.pu 2 14 HT_ ?_
     refine SQ.pu 3 15 HT_ ?_
     refine SQ.pu 5 17 HT_ ?_
     refine SQ.tk 4 16 HT_ HW_ hHeld ?_
     refine one_ (i := 6) (N := some 18) #[true, true, true, true, true, true, true, false] rfl rfl (one_of HT_.out (by kernel_rfl)) (by decide) (fun K hK => ?_)
     refine goes_ Tryd.func83 (by kernel_rfl) rfl #[.int .i64 x1_1] (by rfl) rfl rfl (by (try simp only [List.map_toArray, List.map_cons, List.map_nil]); first | done | rfl | (simp only [List.length_drop, List.length_take]; rfl)) ?_
     with_reducible refine (laws_markText.calls k1 x1_1 t327 _ A5.out).mono ?_
     rintro e w18 ⟨rfl, hb⟩
     refine ⟨_, rfl, ?_⟩
     have n0_ := Zh (Zl Zs hb)
     clear HB
     have HB := n0_
     clear n0_
     (try clear hb)
     (try clear hb2)
     (try clear hk)
     (try clear hi)
     refine hK.out _ _ ⟨((HB.out.cell (Zi w _ hw326_0)).trans hw326_0), ((HB.out.cell (Zi w _ hw326_1)).trans hw326_1), ((HB.out.cell (Zi w _ hw326_2)).trans hw326_2)⟩ (fun hHeld => ?_)
     clear hK K
     refine norm_ (a' := ?_) ?_ ?_
     rotate_left
     ·
      show Act.put _ (some 18) _ = _
      simp only [Act.put, List.setIfInBounds_toArray, List.set_cons_zero, List.set_cons_succ, i64_w, i32_w]
      rfl
     refine SQ.pu 7 19 HT_ ?_
     refine done_ (done_of HT_.out (by kernel_rfl)) ?_
     try go_wp2
     go_ret
     exact ⟨by first | rfl | (simp [errW_none, errW_some] <;> rfl) | (simp [*, errW_none, errW_some] <;> rfl), by repeat (first | (with_reducible first | exact HB.out | apply Zf | apply Zd | apply Ze) | exact HB.out)⟩
    rw [if_neg c4] at H
    exact absurd H (by simp)
   rw [if_neg c3] at H
   have c3b0 : decide (x5_1 < (l0.length : Int)) = false := decide_eq_false c3
   clear c3
   obtain rfl := Option.some.inj H
   go_wp2
   go_ret
   exact ⟨by first | rfl | (simp [errW_none, errW_some] <;> rfl) | (simp [*, errW_none, errW_some] <;> rfl), by repeat (first | (with_reducible first | exact HB.out | apply Zf | apply Zd | apply Ze) | exact HB.out)⟩
end Go.Proofs.YtmgeffgcihfpcaaDoor.F

namespace Go.Proofs.YtmgeffgcihfpcaaDoor.F
open Go.RowKit Go.Proofs.YtmgeffgcihfpcaaDoorW.PrintWords Go.Proofs.YtmgeffgcihfpcaaDoorW.PrintWords.Kd Go.Proofs.YtmgeffgcihfpcaaDoorW.PrintMore.Kd Go.Proofs.YtmgeffgcihfpcaaDoorW.PrintLast Go.Proofs.YtmgeffgcihfpcaaDoorW.PrintMore
attribute [local go_sem] max2_int min2_int max_two min_two max_three min_three max_four min_four   -- for this text's walks alone
set_option linter.unusedVariables false
set_option linter.unusedSimpArgs false
def laws_heldDisk.f (k : Nat) (l0_0 : List (S74)) (a1 : Int) : Option (Int) := (laws_heldFileS.f k l0_0 a1).bind fun t333 => (if t333 < 0 then (some (-1)) else (some t333))
set_option maxHeartbeats 8000000 in
set_option maxRecDepth 100000 in
theorem laws_heldDisk.calls (k : Nat) (A0_0 : Option Addr) (c0_0 : Nat) (l0_0 : List (S74)) (a1 : Int) (r : Int) (w : World) (hr0_0 : Kd.C k74 w A0_0 l0_0.length l0_0) (hc0_0 : l0_0.length ≤ c0_0) (h : laws_heldDisk.f k l0_0 a1 = some r) :
  Calls Tryd.prog 27 #[.agg #[.slice A0_0 l0_0.length c0_0], .int .i64 a1] w fun e w' => e = .returned (.int .i64 r) ∧ Below w.heap.size w w' := by
 have hu29 := Tryd.underlying29
 have HR0_0 := Zh hr0_0
 have HC0_0 := Zh hc0_0
 clear hr0_0 hc0_0
 have HB := Zh (Below.refl w.heap.size w)
 have H : ((laws_heldFileS.f k l0_0 a1).bind fun t333 => (if t333 < 0 then (some (-1)) else (some t333))) = some r := h
 clear h
 replace H := Option.bind_eq_some_iff.mp H
 obtain ⟨t333, A30, H⟩ := H
 replace H : (if t333 < 0 then (some (-1)) else (some t333)) = some r := H
 have A3 := Zh A30
 clear A30
 by_cases c4 : t333 < 0
 ·
  rw [if_pos c4] at H
  have c4b0 : decide (t333 < 0) = true := decide_eq_true c4
  clear c4
  obtain rfl := Option.some.inj H
  go_enter Tryd.func27, Tryd.ntmps27
  go_wp2_with (first | ((with_reducible refine gate_dst (N := 2) rfl ?_); refine box_event ?hg (N := 2) ?hd (cs := #[.slice A0_0 l0_0.length c0_0]) (t := 29) ?hr ?_; (case hd => rfl); (case hg => rfl); (case hr => first | (go_simp; done) | (go_simp; rfl)); intro gb332 hg w5 hbox hb; have n0_ := Zh (Zl Zs hb); have n1_ := Zh (hbox); have n2_ := Zh ((by rw [hg]; exact (below_size Zs) : w.heap.size ≤ gb332)); have n3_ := Zh ((by rw [hg]; exact (below_size Zs) : w.heap.size ≤ gb332)); clear HB; have HB := n0_; have BK332 := n1_; have GW332 := n2_; have GE332 := n3_; clear n0_ n1_ n2_ n3_; clear hb hbox hg; have hcz6_0 : w5.cell? ⟨gb332, 0, none⟩ = some (.slice A0_0 l0_0.length c0_0) := (blk_cell BK332.out 0).trans rfl; have hfz6_0 := Zn BK332.out 0) | ((with_reducible refine gate_callee (f := 69) rfl ?_); refine goesL_ (some 8) rfl rfl Tryd.func69 (by kernel_rfl) rfl #[.slice A0_0 l0_0.length c0_0, .int .i64 a1] rfl (by (try simp only [List.map_toArray, List.map_cons, List.map_nil]); first | done | rfl | (simp only [List.length_drop, List.length_take]; rfl)) ?_; (with_reducible refine (laws_heldFileS.calls k _ _ l0_0 a1 t333 _ ?side1 ?side2 A3.out).mono ?_); (case side1 => repeat (first | exact (C_below HR0_0.out HB.out) | (with_reducible refine C_alloc ?_ _) | (with_reducible refine C_drewN ?_ _) | (with_reducible refine C_drew ?_))); (case side2 => exact HC0_0.out); rintro e w7 ⟨rfl, hb⟩; refine ⟨_, rfl, ?_⟩; have n0_ := Zh (Zm (g := gb332) (o := .cells #[.slice A0_0 l0_0.length c0_0] 29 (0, 0)) Zk hb); have n1_ := Zh (Zl Zs hb); clear BK332; clear HB; have BK332 := n0_; have HB := n1_; clear n0_ n1_; (try clear hb); (try clear hb2); (try clear hk); (try clear hi)))
  go_ret
  exact ⟨by first | rfl | (simp [errW_none, errW_some] <;> rfl) | (simp [*, errW_none, errW_some] <;> rfl), by repeat (first | (with_reducible first | exact HB.out | apply Zf | apply Zd | apply Ze | refine Zg ?_ GE332.out) | exact HB.out)⟩
 rw [if_neg c4] at H
 have c4b0 : decide (t333 < 0) = false := decide_eq_false c4
 clear c4
 obtain rfl := Option.some.inj H
 go_enter Tryd.func27, Tryd.ntmps27
 go_wp2_with (first | ((with_reducible refine gate_dst (N := 2) rfl ?_); refine box_event ?hg (N := 2) ?hd (cs := #[.slice A0_0 l0_0.length c0_0]) (t := 29) ?hr ?_; (case hd => rfl); (case hg => rfl); (case hr => first | (go_simp; done) | (go_simp; rfl)); intro gb332 hg w8 hbox hb; have n0_ := Zh (Zl Zs hb); have n1_ := Zh (hbox); have n2_ := Zh ((by rw [hg]; exact (below_size Zs) : w.heap.size ≤ gb332)); have n3_ := Zh ((by rw [hg]; exact (below_size Zs) : w.heap.size ≤ gb332)); clear HB; have HB := n0_; have BK332 := n1_; have GW332 := n2_; have GE332 := n3_; clear n0_ n1_ n2_ n3_; clear hb hbox hg; have hcz9_0 : w8.cell? ⟨gb332, 0, none⟩ = some (.slice A0_0 l0_0.length c0_0) := (blk_cell BK332.out 0).trans rfl; have hfz9_0 := Zn BK332.out 0) | ((with_reducible refine gate_callee (f := 69) rfl ?_); refine goesL_ (some 8) rfl rfl Tryd.func69 (by kernel_rfl) rfl #[.slice A0_0 l0_0.length c0_0, .int .i64 a1] rfl (by (try simp only [List.map_toArray, List.map_cons, List.map_nil]); first | done | rfl | (simp only [List.length_drop, List.length_take]; rfl)) ?_; (with_reducible refine (laws_heldFileS.calls k _ _ l0_0 a1 t333 _ ?side1 ?side2 A3.out).mono ?_); (case side1 => repeat (first | exact (C_below HR0_0.out HB.out) | (with_reducible refine C_alloc ?_ _) | (with_reducible refine C_drewN ?_ _) | (with_reducible refine C_drew ?_))); (case side2 => exact HC0_0.out); rintro e w10 ⟨rfl, hb⟩; refine ⟨_, rfl, ?_⟩; have n0_ := Zh (Zm (g := gb332) (o := .cells #[.slice A0_0 l0_0.length c0_0] 29 (0, 0)) Zk hb); have n1_ := Zh (Zl Zs hb); clear BK332; clear HB; have BK332 := n0_; have HB := n1_; clear n0_ n1_; (try clear hb); (try clear hb2); (try clear hk); (try clear hi)))
 go_ret
 exact ⟨by first | rfl | (simp [errW_none, errW_some] <;> rfl) | (simp [*, errW_none, errW_some] <;> rfl), by repeat (first | (with_reducible first | exact HB.out | apply Zf | apply Zd | apply Ze | refine Zg ?_ GE332.out) | exact HB.out)⟩
def spec_l01In.f (a0 : Int) (a1 : Int) (a2 : Int) : Option (Bool) := if a1 ≤ a0 then (some (decide (a0 ≤ a2))) else (some false)
set_option maxHeartbeats 8000000 in
set_option maxRecDepth 100000 in
theorem spec_l01In.calls (a0 : Int) (a1 : Int) (a2 : Int) (r : Bool) (w : World) (h : spec_l01In.f a0 a1 a2 = some r) :
  Calls Tryd.prog 72 #[.int .i64 a0, .int .i64 a1, .int .i64 a2] w fun e w' => e = .returned (.bool r) ∧ Drawn0 w w' := by
 have H : (if a1 ≤ a0 then (some (decide (a0 ≤ a2))) else (some false)) = some r := h
 clear h
 by_cases c4 : a1 ≤ a0
 ·
  rw [if_pos c4] at H
  have c4b0 : decide (a1 ≤ a0) = true := decide_eq_true c4
  clear c4
  obtain rfl := Option.some.inj H
  go_enter Tryd.func72, Tryd.ntmps72
  go_wp2
  go_ret
  exact ⟨by first | rfl | (simp; done) | (simp [*]; done), by repeat (first | exact Drawn0.refl _ | apply Drawn0.step)⟩
 rw [if_neg c4] at H
 have c4b0 : decide (a1 ≤ a0) = false := decide_eq_false c4
 clear c4
 obtain rfl := Option.some.inj H
 go_enter Tryd.func72, Tryd.ntmps72
 go_wp2
 go_ret
 exact ⟨by first | rfl | (simp; done) | (simp [*]; done), by repeat (first | exact Drawn0.refl _ | apply Drawn0.step)⟩
def spec_l01Name.l0 : Nat → ByteArray → Int → Option (Bool)
 | 0, _, _ => none
 | k + 1, x0, x3 => if x3 < (x0.size : Int) then (if 0 ≤ x3 then (if (bt x0 x3) ≥ 97 then (if ((bt x0 x3) ≤ 122) then (spec_l01Name.l0 k x0 (wrap64 (x3 + 1))) else (if (bt x0 x3) ≥ 48 then (if ((bt x0 x3) ≤ 57) then (spec_l01Name.l0 k x0 (wrap64 (x3 + 1))) else (some false)) else (some false))) else (if (bt x0 x3) ≥ 48 then (if ((bt x0 x3) ≤ 57) then (spec_l01Name.l0 k x0 (wrap64 (x3 + 1))) else (some false)) else (some false))) else (none)) else ((spec_l01In.f (x0.size : Int) 1 12).bind fun t108 => (some t108))
def spec_l01Name.f (k : Nat) (a0 : ByteArray) : Option (Bool) := spec_l01Name.l0 k a0 0
set_option maxHeartbeats 8000000 in
set_option maxRecDepth 100000 in
theorem spec_l01Name.calls (k : Nat) (a0 : ByteArray) (r : Bool) (w : World) (h : spec_l01Name.f k a0 = some r) :
  Calls Tryd.prog 57 #[.string a0] w fun e w' => e = .returned (.bool r) ∧ Drawn0 w w' := by
 have H : (spec_l01Name.l0 k a0 0) = some r := h
 clear h
 have H' := Zh H
 clear H
 go_enter Tryd.func57, Tryd.ntmps57
 go_wp2
 go_loopg [3] k (fun kq v3 w' => ∃ (x3_1 : Int), v3 = .int .i64 x3_1 ∧ Aside0 (spec_l01Name.l0 kq a0 x3_1 = some r) ∧ Aside0 (kq ≤ k) ∧ Drawn0 w w')
 case atStart => exact ⟨(0), (by first | rfl | (simp; done) | (simp [*]; done)), H', ⟨Nat.le_refl _⟩, by repeat (first | exact Drawn0.refl _ | apply Drawn0.step)⟩
 case round =>
  clear H'
  obtain ⟨x3_1, rfl, HA, HK1, ⟨m1, rfl⟩⟩ := hrel
  cases gk with
  | zero => exact absurd HA.out (by simp [spec_l01Name.l0])
  | succ k1 =>
   have H := HA.out
   clear HA
   simp only [spec_l01Name.l0] at H
   by_cases c2 : x3_1 < (a0.size : Int)
   ·
    rw [if_pos c2] at H
    have c2b0 : decide (x3_1 < (a0.size : Int)) = true := decide_eq_true c2
    clear c2
    by_cases c3 : 0 ≤ x3_1
    ·
     rw [if_pos c3] at H
     have c3b0 : decide (0 ≤ x3_1) = true := decide_eq_true c3
     clear c3
     by_cases c5 : (bt a0 x3_1) ≥ 97
     ·
      rw [if_pos c5] at H
      have c5b0 : decide (97 ≤ (bt a0 x3_1)) = true := decide_eq_true c5
      clear c5
      by_cases c6 : ((bt a0 x3_1) ≤ 122)
      ·
       rw [if_pos c6] at H
       have c6b0 : decide ((bt a0 x3_1) ≤ 122) = true := decide_eq_true c6
       clear c6
       have H' := Zh H
       clear H
       have p4 : 0 ≤ (x3_1 : Int) := Zo
       have q4 : x3_1 < (a0.size : Int) := Zo
       have hx4 := bt_at a0 x3_1
       replace p4 := eq_true p4
       replace q4 := eq_true q4
       go_wp2
       go_roundg k1
       case measure => have := HK1.out; omega
       case rel => exact ⟨(wrap64 (x3_1 + 1)), (by first | rfl | (simp; done) | (simp [*]; done)), H', ⟨by have := HK1.out; omega⟩, by repeat (first | exact Drawn0.refl _ | apply Drawn0.step)⟩
      rw [if_neg c6] at H
      have c6b0 : decide ((bt a0 x3_1) ≤ 122) = false := decide_eq_false c6
      clear c6
      by_cases c7 : (bt a0 x3_1) ≥ 48
      ·
       rw [if_pos c7] at H
       have c7b0 : decide (48 ≤ (bt a0 x3_1)) = true := decide_eq_true c7
       clear c7
       by_cases c8 : ((bt a0 x3_1) ≤ 57)
       ·
        rw [if_pos c8] at H
        have c8b0 : decide ((bt a0 x3_1) ≤ 57) = true := decide_eq_true c8
        clear c8
        have H' := Zh H
        clear H
        have p4 : 0 ≤ (x3_1 : Int) := Zo
        have q4 : x3_1 < (a0.size : Int) := Zo
        have hx4 := bt_at a0 x3_1
        replace p4 := eq_true p4
        replace q4 := eq_true q4
        go_wp2
        go_roundg k1
        case measure => have := HK1.out; omega
        case rel => exact ⟨(wrap64 (x3_1 + 1)), (by first | rfl | (simp; done) | (simp [*]; done)), H', ⟨by have := HK1.out; omega⟩, by repeat (first | exact Drawn0.refl _ | apply Drawn0.step)⟩
       rw [if_neg c8] at H
       have c8b0 : decide ((bt a0 x3_1) ≤ 57) = false := decide_eq_false c8
       clear c8
       obtain rfl := Option.some.inj H
       have p4 : 0 ≤ (x3_1 : Int) := Zo
       have q4 : x3_1 < (a0.size : Int) := Zo
       have hx4 := bt_at a0 x3_1
       replace p4 := eq_true p4
       replace q4 := eq_true q4
       go_wp2
       go_ret
       exact ⟨by first | rfl | (simp; done) | (simp [*]; done), by repeat (first | exact Drawn0.refl _ | apply Drawn0.step)⟩
      rw [if_neg c7] at H
      have c7b0 : decide (48 ≤ (bt a0 x3_1)) = false := decide_eq_false c7
      clear c7
      obtain rfl := Option.some.inj H
      have p4 : 0 ≤ (x3_1 : Int) := Zo
      have q4 : x3_1 < (a0.size : Int) := Zo
      have hx4 := bt_at a0 x3_1
      replace p4 := eq_true p4
      replace q4 := eq_true q4
      go_wp2
      go_ret
      exact ⟨by first | rfl | (simp; done) | (simp [*]; done), by repeat (first | exact Drawn0.refl _ | apply Drawn0.step)⟩
     rw [if_neg c5] at H
     have c5b0 : decide (97 ≤ (bt a0 x3_1)) = false := decide_eq_false c5
     clear c5
     by_cases c9 : (bt a0 x3_1) ≥ 48
     ·
      rw [if_pos c9] at H
      have c9b0 : decide (48 ≤ (bt a0 x3_1)) = true := decide_eq_true c9
      clear c9
      by_cases c10 : ((bt a0 x3_1) ≤ 57)
      ·
       rw [if_pos c10] at H
       have c10b0 : decide ((bt a0 x3_1) ≤ 57) = true := decide_eq_true c10
       clear c10
       have H' := Zh H
       clear H
       have p4 : 0 ≤ (x3_1 : Int) := Zo
       have q4 : x3_1 < (a0.size : Int) := Zo
       have hx4 := bt_at a0 x3_1
       replace p4 := eq_true p4
       replace q4 := eq_true q4
       go_wp2
       go_roundg k1
       case measure => have := HK1.out; omega
       case rel => exact ⟨(wrap64 (x3_1 + 1)), (by first | rfl | (simp; done) | (simp [*]; done)), H', ⟨by have := HK1.out; omega⟩, by repeat (first | exact Drawn0.refl _ | apply Drawn0.step)⟩
      rw [if_neg c10] at H
      have c10b0 : decide ((bt a0 x3_1) ≤ 57) = false := decide_eq_false c10
      clear c10
      obtain rfl := Option.some.inj H
      have p4 : 0 ≤ (x3_1 : Int) := Zo
      have q4 : x3_1 < (a0.size : Int) := Zo
      have hx4 := bt_at a0 x3_1
      replace p4 := eq_true p4
      replace q4 := eq_true q4
      go_wp2
      go_ret
      exact ⟨by first | rfl | (simp; done) | (simp [*]; done), by repeat (first | exact Drawn0.refl _ | apply Drawn0.step)⟩
     rw [if_neg c9] at H
     have c9b0 : decide (48 ≤ (bt a0 x3_1)) = false := decide_eq_false c9
     clear c9
     obtain rfl := Option.some.inj H
     have p4 : 0 ≤ (x3_1 : Int) := Zo
     have q4 : x3_1 < (a0.size : Int) := Zo
     have hx4 := bt_at a0 x3_1
     replace p4 := eq_true p4
     replace q4 := eq_true q4
     go_wp2
     go_ret
     exact ⟨by first | rfl | (simp; done) | (simp [*]; done), by repeat (first | exact Drawn0.refl _ | apply Drawn0.step)⟩
    rw [if_neg c3] at H
    exact absurd H (by simp)
   rw [if_neg c2] at H
   have c2b0 : decide (x3_1 < (a0.size : Int)) = false := decide_eq_false c2
   clear c2
   replace H := Option.bind_eq_some_iff.mp H
   obtain ⟨t108, A110, H⟩ := H
   replace H : (some t108) = some r := H
   have A11 := Zh A110
   clear A110
   obtain rfl := Option.some.inj H
   go_wp2_with (first | ((with_reducible refine gate_callee (f := 72) rfl ?_); refine goesL_ (some 32) rfl rfl Tryd.func72 (by kernel_rfl) rfl #[.int .i64 (a0.size : Int), .int .i64 1, .int .i64 12] rfl (by (try simp only [List.map_toArray, List.map_cons, List.map_nil]); first | done | rfl | (simp only [List.length_drop, List.length_take]; rfl)) ?_; (with_reducible refine (spec_l01In.calls (a0.size : Int) 1 12 t108 _ A11.out).mono ?_); rintro e w' ⟨rfl, ⟨nd, rfl⟩⟩; refine ⟨_, rfl, ?_⟩))
   go_ret
   exact ⟨by first | rfl | (simp; done) | (simp [*]; done), by repeat (first | exact Drawn0.refl _ | apply Drawn0.step)⟩
end Go.Proofs.YtmgeffgcihfpcaaDoor.F

namespace Go.Proofs.YtmgeffgcihfpcaaDoor.F
open Go.Proofs.YtmgeffgcihfpcaaDoor
open Go.RowKit Go.Proofs.YtmgeffgcihfpcaaDoorW.PrintWords Go.Proofs.YtmgeffgcihfpcaaDoorW.PrintWords.Kd Go.Proofs.YtmgeffgcihfpcaaDoorW.PrintMore.Kd Go.Proofs.YtmgeffgcihfpcaaDoorW.PrintLast Go.Proofs.YtmgeffgcihfpcaaDoorW.PrintMore
attribute [local go_sem] max2_int min2_int max_two min_two max_three min_three max_four min_four   -- for this text's walks alone
set_option linter.unusedVariables false
set_option linter.unusedSimpArgs false
def spec_DiskOk.l0 : Nat → Int → List (S74) → Option (Bool)
 | 0, _, _ => none
 | k + 1, x3, x110000 => if x3 < (x110000.length : Int) then (if 0 ≤ x3 then ((spec_l01Name.f k ((rd_T74 x110000 x3).f0)).bind fun t112 => (if t112 = true then (if (((rd_T74 x110000 x3).f1).length : Int) > 20000 then (some false) else (if (((rd_T74 x110000 x3).f2).length : Int) > (wrap64 (20000 - (((rd_T74 x110000 x3).f1).length : Int))) then (some false) else (if x3 > 0 then (if 0 ≤ (wrap64 (x3 - 1)) then (if (wrap64 (x3 - 1)) < (x110000.length : Int) then (if ((Op.bytesLess (((rd_T74 x110000 (wrap64 (x3 - 1))).f0).toList) (((rd_T74 x110000 x3).f0).toList)) = true) then (spec_DiskOk.l0 k (wrap64 (x3 + 1)) x110000) else (some false)) else (none)) else (none)) else (spec_DiskOk.l0 k (wrap64 (x3 + 1)) x110000)))) else (some false))) else (none)) else (some true)
def spec_DiskOk.f (k : Nat) (l0_0 : List (S74)) : Option (Bool) := if (l0_0.length : Int) > 8 then (some false) else (spec_DiskOk.l0 k 0 l0_0)
def spec_DiskOk.T7 : Bool × List (List Nat × List Nat) := (true, [([], []), ([0], [0]), ([1], [1]), ([2], [2]), ([3, 2], [3]), ([4], [4]), ([5, 4], [4, 5]), ([6, 4], [4, 6]), ([7, 4], [4, 7]), ([4, 8], [4, 8]), ([9, 4], [9]), ([10], [10]), ([11, 10], [10, 11]), ([12, 10], [10, 12]), ([10], [10]), ([14, 10], [10, 14]), ([15, 10], [10, 15]), ([16, 10], [10, 16]), ([13, 17, 10], [10, 13, 17]), ([10, 18], [10, 18]), ([19, 10], [19]), ([20], [20]), ([21, 20], [20, 21]), ([22, 20, 20], [20, 22]), ([23], [23]), ([24, 23], [23, 24]), ([23], [23]), ([26, 23], [23, 26]), ([25, 27, 23], [23, 25, 27]), ([28, 23], [23, 28]), ([29, 23], [23, 29]), ([23], [23]), ([31, 23], [23, 31]), ([30, 32, 23], [23, 30, 32]), ([23, 33, 20], [20, 23, 33]), ([20, 34], [20, 34])])
def spec_DiskOk.B7 : List Nat := [0, 1, 3, 7, 15, 31, 63, 127, 255, 511, 1023, 2047, 4095, 8191, 2047, 18431, 51199, 116735, 262143, 524287, 1048575, 2097151, 4194303, 8388607, 16777215, 33554431, 16777215, 83886079, 268435455, 536870911, 1073741823, 16777215, 2164260863, 8589934591, 17179869183, 34359738367]
theorem spec_DiskOk.tab7 : rtab .any (opsOf Tryd.f15 7) = spec_DiskOk.T7 := by kernel_rfl
theorem spec_DiskOk.bits7 : waitsOk spec_DiskOk.T7.2 spec_DiskOk.B7 = true := by kernel_rfl
set_option maxHeartbeats 8000000 in
set_option maxRecDepth 100000 in
theorem spec_DiskOk.calls (k : Nat) (A0_0 : Option Addr) (c0_0 : Nat) (l0_0 : List (S74)) (r : Bool) (w : World) (hr0_0 : Kd.C k74 w A0_0 l0_0.length l0_0) (hc0_0 : l0_0.length ≤ c0_0) (h : spec_DiskOk.f k l0_0 = some r) :
  Calls Tryd.prog 15 #[.agg #[.slice A0_0 l0_0.length c0_0]] w fun e w' => e = .returned (.bool r) ∧ Below w.heap.size w w' := by
 have hu29 := Tryd.underlying29
 have hu74 := Tryd.underlying74
 have HR0_0 := Zh hr0_0
 have HC0_0 := Zh hc0_0
 clear hr0_0 hc0_0
 have HB := Zh (Below.refl w.heap.size w)
 have H : (if (l0_0.length : Int) > 8 then (some false) else (spec_DiskOk.l0 k 0 l0_0)) = some r := h
 clear h
 by_cases c2 : (l0_0.length : Int) > 8
 ·
  rw [if_pos c2] at H
  have c2b0 : decide (8 < (l0_0.length : Int)) = true := decide_eq_true c2
  have c2b1 : decide (8 < l0_0.length) = true := decide_eq_true (by omega)
  clear c2
  obtain rfl := Option.some.inj H
  go_enter Tryd.func15, Tryd.ntmps15
  go_wp2_with (first | ((with_reducible refine gate_dst (N := 1) rfl ?_); (try (refine gate_guard (by rfl) ?_; dsimp only)); refine box_event ?hg (N := 1) ?hd (cs := #[.slice A0_0 l0_0.length c0_0]) (t := 29) ?hr ?_; (case hd => rfl); (case hg => rfl); (case hr => first | (go_simp; done) | (go_simp; rfl)); intro gb109 hg w3 hbox hb; have n0_ := Zh (Zl Zs hb); have n1_ := Zh (hbox); have n2_ := Zh ((by rw [hg]; exact (below_size Zs) : w.heap.size ≤ gb109)); have n3_ := Zh ((by rw [hg]; exact (below_size Zs) : w.heap.size ≤ gb109)); clear HB; have HB := n0_; have BK109 := n1_; have GW109 := n2_; have GE109 := n3_; clear n0_ n1_ n2_ n3_; clear hb hbox hg; have hcz4_0 : w3.cell? ⟨gb109, 0, none⟩ = some (.slice A0_0 l0_0.length c0_0) := (blk_cell BK109.out 0).trans rfl; have hfz4_0 := Zn BK109.out 0))
  go_ret
  exact ⟨by first | rfl | (simp [errW_none, errW_some] <;> rfl) | (simp [*, errW_none, errW_some] <;> rfl), by repeat (first | (with_reducible first | exact HB.out | apply Zf | apply Zd | apply Ze | refine Zg ?_ GE109.out) | exact HB.out)⟩
 rw [if_neg c2] at H
 have c2b0 : decide (8 < (l0_0.length : Int)) = false := decide_eq_false c2
 have c2b1 : decide (8 < l0_0.length) = false := decide_eq_false (by omega)
 clear c2
 have H' := Zh H
 clear H
 go_enter Tryd.func15, Tryd.ntmps15
 go_wp2_with (first | ((with_reducible refine gate_dst (N := 1) rfl ?_); (try (refine gate_guard (by rfl) ?_; dsimp only)); refine box_event ?hg (N := 1) ?hd (cs := #[.slice A0_0 l0_0.length c0_0]) (t := 29) ?hr ?_; (case hd => rfl); (case hg => rfl); (case hr => first | (go_simp; done) | (go_simp; rfl)); intro gb109 hg w5 hbox hb; have n0_ := Zh (Zl Zs hb); have n1_ := Zh (hbox); have n2_ := Zh ((by rw [hg]; exact (below_size Zs) : w.heap.size ≤ gb109)); have n3_ := Zh ((by rw [hg]; exact (below_size Zs) : w.heap.size ≤ gb109)); clear HB; have HB := n0_; have BK109 := n1_; have GW109 := n2_; have GE109 := n3_; clear n0_ n1_ n2_ n3_; clear hb hbox hg; have hcz6_0 : w5.cell? ⟨gb109, 0, none⟩ = some (.slice A0_0 l0_0.length c0_0) := (blk_cell BK109.out 0).trans rfl; have hfz6_0 := Zn BK109.out 0))
 go_loopg [3] k (fun kq v3 w' => ∃ (x3_1 : Int), v3 = .int .i64 x3_1 ∧ Aside0 (spec_DiskOk.l0 kq x3_1 l0_0 = some r) ∧ Aside0 (kq ≤ k) ∧ Aside0 (w'.heap[gb109]? = some (.cells #[(.slice A0_0 l0_0.length c0_0)] 29 (0, 0))) ∧ Aside0 (Below w.heap.size w w'))
 case atStart => exact ⟨(0), (by first | rfl | (simp; done) | (simp [*]; done)), H', ⟨Nat.le_refl _⟩, ⟨by (with_reducible repeat (first | refine Za ?_ _ | refine Zb ?_ | refine blk_alloc ?_ _)); exact BK109.out⟩, ⟨by repeat (first | (with_reducible first | exact HB.out | apply Zf | apply Zd | apply Ze | refine Zg ?_ GE109.out) | exact HB.out)⟩⟩
 case round =>
  clear H'
  try clear c1
  try clear c2
  try clear c2b0
  try clear c2b1
  try clear p2
  try clear hcz4_0
  try clear hcz6_0
  try clear hfz4_0
  try clear hfz6_0
  obtain ⟨x3_1, rfl, HA, HK1, BK109, HB⟩ := hrel
  cases gk with
  | zero => exact absurd HA.out (by simp [spec_DiskOk.l0])
  | succ k1 =>
   have H := HA.out
   clear HA
   simp only [spec_DiskOk.l0] at H
   by_cases c7 : x3_1 < (l0_0.length : Int)
   ·
    rw [if_pos c7] at H
    have c7b0 : decide (x3_1 < (l0_0.length : Int)) = true := decide_eq_true c7
    clear c7
    by_cases c8 : 0 ≤ x3_1
    ·
     rw [if_pos c8] at H
     have c8b0 : decide (0 ≤ x3_1) = true := decide_eq_true c8
     clear c8
     replace H := Option.bind_eq_some_iff.mp H
     obtain ⟨t112, A90, H⟩ := H
     replace H : (if t112 = true then (if (((rd_T74 l0_0 x3_1).f1).length : Int) > 20000 then (some false) else (if (((rd_T74 l0_0 x3_1).f2).length : Int) > (wrap64 (20000 - (((rd_T74 l0_0 x3_1).f1).length : Int))) then (some false) else (if x3_1 > 0 then (if 0 ≤ (wrap64 (x3_1 - 1)) then (if (wrap64 (x3_1 - 1)) < (l0_0.length : Int) then (if ((Op.bytesLess (((rd_T74 l0_0 (wrap64 (x3_1 - 1))).f0).toList) (((rd_T74 l0_0 x3_1).f0).toList)) = true) then (spec_DiskOk.l0 k1 (wrap64 (x3_1 + 1)) l0_0) else (some false)) else (none)) else (none)) else (spec_DiskOk.l0 k1 (wrap64 (x3_1 + 1)) l0_0)))) else (some false)) = some r := H
     have A9 := Zh A90
     clear A90
     by_cases c10 : t112 = true
     ·
      subst c10
      have H1 : (if (((rd_T74 l0_0 x3_1).f1).length : Int) > 20000 then (some false) else (if (((rd_T74 l0_0 x3_1).f2).length : Int) > (wrap64 (20000 - (((rd_T74 l0_0 x3_1).f1).length : Int))) then (some false) else (if x3_1 > 0 then (if 0 ≤ (wrap64 (x3_1 - 1)) then (if (wrap64 (x3_1 - 1)) < (l0_0.length : Int) then (if ((Op.bytesLess (((rd_T74 l0_0 (wrap64 (x3_1 - 1))).f0).toList) (((rd_T74 l0_0 x3_1).f0).toList)) = true) then (spec_DiskOk.l0 k1 (wrap64 (x3_1 + 1)) l0_0) else (some false)) else (none)) else (none)) else (spec_DiskOk.l0 k1 (wrap64 (x3_1 + 1)) l0_0)))) = some r := by rw [if_pos rfl] at H; exact H
      clear H
      have H := H1
      clear H1
      by_cases c11 : (((rd_T74 l0_0 x3_1).f1).length : Int) > 20000
      ·
       rw [if_pos c11] at H
       have c11b0 : decide (20000 < (((rd_T74 l0_0 x3_1).f1).length : Int)) = true := decide_eq_true c11
       have c11b1 : decide (20000 < ((rd_T74 l0_0 x3_1).f1).length) = true := decide_eq_true (by omega)
       clear c11
       obtain rfl := Option.some.inj H
       have hcz12_0 : wr.cell? ⟨gb109, 0, none⟩ = some (.slice A0_0 l0_0.length c0_0) := (blk_cell BK109.out 0).trans rfl
       have hfz12_0 := Zn BK109.out 0
       have p110 : 0 ≤ (x3_1 : Int) := Zo
       have q110 : x3_1 < (l0_0.length : Int) := Zo
       obtain ⟨ad110, A110_1, c110_1, A110_2, c110_2, e110, hx110_0, hx110_1, hx110_2, hl110_1, hi110_1, hl110_2, hi110_2⟩ := at_T74 HR0_0.out x3_1 p110 q110
       cases e110
       replace hx110_0 := Zc HB.out hx110_0
       replace hx110_1 := Zc HB.out hx110_1
       replace hx110_2 := Zc HB.out hx110_2
       have HR110_1 := Zh hi110_1
       have HC110_1 := Zh hl110_1
       clear hi110_1 hl110_1
       have HR110_2 := Zh hi110_2
       have HC110_2 := Zh hl110_2
       clear hi110_2 hl110_2
       replace p110 := eq_true p110
       replace q110 := eq_true q110
       try go_wp2_with (first | ((with_reducible refine gate_dst (N := 4) rfl ?_); (try (refine gate_guard (by rfl) ?_; dsimp only)); refine box_event ?hg (N := 4) ?hd (cs := #[.string (⟨#[]⟩ : ByteArray), .slice none 0 0, .slice none 0 0]) (t := 74) ?hr ?_; (case hd => rfl); (case hg => rfl); (case hr => first | (go_simp; done) | (go_simp; rfl)); intro gb111 hg w13 hbox hb; have n0_ := Zh (Zm (g := gb109) (o := .cells #[.slice (some ad110) l0_0.length c0_0] 29 (0, 0)) Zk hb); have n1_ := Zh (Zl Zs hb); have n2_ := Zh (hbox); have n3_ := Zh ((by rw [hg]; exact (below_size Zs) : w.heap.size ≤ gb111)); have n4_ := Zh ((by rw [hg]; exact (below_size Zs) : w.heap.size ≤ gb111)); have n5_ := Zh ((by rw [hg]; exact Nat.ne_of_lt (blk_lt (g := gb109) (o := .cells #[.slice (some ad110) l0_0.length c0_0] 29 (0, 0)) Zk) : gb109 ≠ gb111)); have n6_ := Zh ((by rw [hg]; exact Nat.ne_of_gt (blk_lt (g := gb109) (o := .cells #[.slice (some ad110) l0_0.length c0_0] 29 (0, 0)) Zk) : gb111 ≠ gb109)); clear BK109; clear HB; have BK109 := n0_; have HB := n1_; have BK111 := n2_; have GW111 := n3_; have GE111 := n4_; have NB109_111 := n5_; have NB111_109 := n6_; clear n0_ n1_ n2_ n3_ n4_ n5_ n6_; clear hb hbox hg; have hnb14 := NB111_109.out; have hnc14 := NB109_111.out; have hcz15_0 : w13.cell? ⟨gb111, 0, none⟩ = some (.string (⟨#[]⟩ : ByteArray)) := (blk_cell BK111.out 0).trans rfl; have hcz15_1 : w13.cell? ⟨gb111, 1, none⟩ = some (.slice none 0 0) := (blk_cell BK111.out 1).trans rfl; have hcz15_2 : w13.cell? ⟨gb111, 2, none⟩ = some (.slice none 0 0) := (blk_cell BK111.out 2).trans rfl; have hfz15_0 := Zn BK111.out 0; have hfz15_1 := Zn BK111.out 1; have hfz15_2 := Zn BK111.out 2))
       have n0_ : Aside0 ((((w13.setCell ⟨gb111, 0, none⟩ (.string ((rd_T74 l0_0 x3_1).f0))).setCell ⟨gb111, 1, none⟩ (.slice A110_1 ((rd_T74 l0_0 x3_1).f1).length c110_1)).setCell ⟨gb111, 2, none⟩ (.slice A110_2 ((rd_T74 l0_0 x3_1).f2).length c110_2)).heap[gb109]? = some (.cells #[.slice (some ad110) l0_0.length c0_0] 29 (0, 0))) := ⟨by (with_reducible repeat (first | refine Za ?_ _ | refine Zb ?_ | refine blk_alloc ?_ _)); refine blk_far ?_ NB109_111.out _; (with_reducible repeat (first | refine Za ?_ _ | refine Zb ?_ | refine blk_alloc ?_ _)); refine blk_far ?_ NB109_111.out _; (with_reducible repeat (first | refine Za ?_ _ | refine Zb ?_ | refine blk_alloc ?_ _)); refine blk_far ?_ NB109_111.out _; (with_reducible repeat (first | refine Za ?_ _ | refine Zb ?_ | refine blk_alloc ?_ _)); exact BK109.out⟩
       have n1_ : Aside0 ((((w13.setCell ⟨gb111, 0, none⟩ (.string ((rd_T74 l0_0 x3_1).f0))).setCell ⟨gb111, 1, none⟩ (.slice A110_1 ((rd_T74 l0_0 x3_1).f1).length c110_1)).setCell ⟨gb111, 2, none⟩ (.slice A110_2 ((rd_T74 l0_0 x3_1).f2).length c110_2)).heap[gb111]? = some (.cells #[.string ((rd_T74 l0_0 x3_1).f0), .slice A110_1 ((rd_T74 l0_0 x3_1).f1).length c110_1, .slice A110_2 ((rd_T74 l0_0 x3_1).f2).length c110_2] 74 (0, 0))) := ⟨by (with_reducible repeat (first | refine Za ?_ _ | refine Zb ?_ | refine blk_alloc ?_ _)); refine blk_put (cs := #[.string ((rd_T74 l0_0 x3_1).f0), .slice A110_1 ((rd_T74 l0_0 x3_1).f1).length c110_1, .slice none 0 0]) ?_ 2 _ rfl; (with_reducible repeat (first | refine Za ?_ _ | refine Zb ?_ | refine blk_alloc ?_ _)); refine blk_put (cs := #[.string ((rd_T74 l0_0 x3_1).f0), .slice none 0 0, .slice none 0 0]) ?_ 1 _ rfl; (with_reducible repeat (first | refine Za ?_ _ | refine Zb ?_ | refine blk_alloc ?_ _)); refine blk_put (cs := #[.string (⟨#[]⟩ : ByteArray), .slice none 0 0, .slice none 0 0]) ?_ 0 _ rfl; (with_reducible repeat (first | refine Za ?_ _ | refine Zb ?_ | refine blk_alloc ?_ _)); exact BK111.out⟩
       have n2_ : Aside0 (Below w.heap.size w (((w13.setCell ⟨gb111, 0, none⟩ (.string ((rd_T74 l0_0 x3_1).f0))).setCell ⟨gb111, 1, none⟩ (.slice A110_1 ((rd_T74 l0_0 x3_1).f1).length c110_1)).setCell ⟨gb111, 2, none⟩ (.slice A110_2 ((rd_T74 l0_0 x3_1).f2).length c110_2))) := ⟨by repeat (first | (with_reducible first | exact HB.out | apply Zf | apply Zd | apply Ze | refine Zg ?_ GE109.out | refine Zg ?_ GE111.out) | exact HB.out)⟩
       (try clear BK109)
       (try clear BK111)
       (try clear HB)
       generalize (((w13.setCell ⟨gb111, 0, none⟩ (.string ((rd_T74 l0_0 x3_1).f0))).setCell ⟨gb111, 1, none⟩ (.slice A110_1 ((rd_T74 l0_0 x3_1).f1).length c110_1)).setCell ⟨gb111, 2, none⟩ (.slice A110_2 ((rd_T74 l0_0 x3_1).f2).length c110_2)) = w16 at n0_ n1_ n2_ ⊢
       have BK109 := n0_
       have BK111 := n1_
       have HB := n2_
       clear n0_ n1_ n2_
       have n0_ := Zh (Zb BK109.out)
       have n1_ := Zh (Zb BK111.out)
       have n2_ := Zh (Ze HB.out)
       clear BK109
       clear BK111
       clear HB
       have BK109 := n0_
       have BK111 := n1_
       have HB := n2_
       clear n0_ n1_ n2_
       refine start_ (n := 36) (S := fun w' => w'.cell? ⟨gb111, 0, none⟩ = some (.string ((rd_T74 l0_0 x3_1).f0)) ∧ w'.cell? ⟨gb111, 1, none⟩ = some (.slice A110_1 ((rd_T74 l0_0 x3_1).f1).length c110_1) ∧ w'.cell? ⟨gb111, 2, none⟩ = some (.slice A110_2 ((rd_T74 l0_0 x3_1).f2).length c110_2)) (ds := []) #[false, false, false, false, false, false, false, false, false, false, false, false, false, false, false, false, false, false, false, false, false, false, false, false, false, false, false, false, false, false, false, false, false, false, false, false] (by kernel_rfl) rfl rfl ⟨(blk_cell BK111.out 0).trans rfl, (blk_cell BK111.out 1).trans rfl, (blk_cell BK111.out 2).trans rfl⟩ (fun hHeld => ?_); refine with_tabW spec_DiskOk.tab7 spec_DiskOk.bits7 (fun HT_ HW_ => ?_)
       generalize w16.drew = w17 at BK109 BK111 HB hHeld ⊢
       refine SQ.pu 0 21 HT_ ?_
       refine SQ.tk 1 22 HT_ HW_ hHeld ?_
       refine one_ (i := 2) (N := some 23) #[true, true, true, false, false, false, false, false, false, false, false, false, false, false, false, false, false, false, false, false, false, false, false, false, false, false, false, false, false, false, false, false, false, false, false, false] rfl rfl (one_of HT_.out (by kernel_rfl)) (by decide) (fun K hK => ?_)
       refine goes_ Tryd.func57 (by kernel_rfl) rfl #[.string ((rd_T74 l0_0 x3_1).f0)] (by rfl) rfl rfl (by (try simp only [List.map_toArray, List.map_cons, List.map_nil]); first | done | rfl | (simp only [List.length_drop, List.length_take]; rfl)) ?_
       with_reducible refine (spec_l01Name.calls k1 ((rd_T74 l0_0 x3_1).f0) true _ A9.out).mono ?_
       rintro e w' ⟨rfl, ⟨nd, rfl⟩⟩
       refine ⟨_, rfl, ?_⟩
       refine hK.out _ _ ⟨(blk_cell BK111.out 0).trans rfl, (blk_cell BK111.out 1).trans rfl, (blk_cell BK111.out 2).trans rfl⟩ (fun hHeld => ?_)
       clear hK K
       refine norm_ (a' := ?_) ?_ ?_
       rotate_left
       ·
        show Act.put _ (some 23) _ = _
        simp only [Act.put, List.setIfInBounds_toArray, List.set_cons_zero, List.set_cons_succ, i64_w, i32_w]
        rfl
       refine SQ.pu 3 24 HT_ ?_
       refine SQ.pu 4 25 HT_ ?_
       refine SQ.pu 5 26 HT_ ?_
       refine SQ.tk 6 27 HT_ HW_ hHeld ?_
       refine SQ.pu 7 28 HT_ ?_
       refine SQ.pu 8 29 HT_ ?_
       refine SQ.pu 9 30 HT_ ?_
       refine SQ.pu 10 31 HT_ ?_
       refine SQ.of 11 32 HT_ ?_
       refine SQ.of 12 33 HT_ ?_
       refine SQ.of 13 34 HT_ ?_
       refine SQ.of 14 35 HT_ ?_
       refine SQ.of 15 36 HT_ ?_
       refine SQ.of 16 37 HT_ ?_
       refine SQ.of 17 38 HT_ ?_
       refine SQ.of 18 39 HT_ ?_
       refine SQ.pu 19 40 HT_ ?_
       refine SQ.pu 20 41 HT_ ?_
       refine SQ.of 21 42 HT_ ?_
       refine SQ.of 22 43 HT_ ?_
       refine SQ.of 23 44 HT_ ?_
       refine SQ.of 24 45 HT_ ?_
       refine SQ.of 25 46 HT_ ?_
       refine SQ.of 26 47 HT_ ?_
       refine SQ.of 27 48 HT_ ?_
       refine SQ.of 28 49 HT_ ?_
       refine SQ.of 29 50 HT_ ?_
       refine SQ.of 30 51 HT_ ?_
       refine SQ.of 31 52 HT_ ?_
       refine SQ.of 32 53 HT_ ?_
       refine SQ.of 33 54 HT_ ?_
       refine SQ.of 34 55 HT_ ?_
       refine SQ.pu 35 56 HT_ ?_
       refine done_ (done_of HT_.out (by kernel_rfl)) ?_
       try go_wp2
       go_ret
       exact ⟨by first | rfl | (simp [errW_none, errW_some] <;> rfl) | (simp [*, errW_none, errW_some] <;> rfl), by repeat (first | (with_reducible first | exact HB.out | apply Zf | apply Zd | apply Ze | refine Zg ?_ GE109.out | refine Zg ?_ GE111.out) | exact HB.out)⟩
      rw [if_neg c11] at H
      have c11b0 : decide (20000 < (((rd_T74 l0_0 x3_1).f1).length : Int)) = false := decide_eq_false c11
      have c11b1 : decide (20000 < ((rd_T74 l0_0 x3_1).f1).length) = false := decide_eq_false (by omega)
      clear c11
      by_cases c18 : (((rd_T74 l0_0 x3_1).f2).length : Int) > (wrap64 (20000 - (((rd_T74 l0_0 x3_1).f1).length : Int)))
      ·
       rw [if_pos c18] at H
       have c18b0 : decide ((wrap64 (20000 - (((rd_T74 l0_0 x3_1).f1).length : Int))) < (((rd_T74 l0_0 x3_1).f2).length : Int)) = true := decide_eq_true c18
       clear c18
       obtain rfl := Option.some.inj H
       have hcz19_0 : wr.cell? ⟨gb109, 0, none⟩ = some (.slice A0_0 l0_0.length c0_0) := (blk_cell BK109.out 0).trans rfl
       have hfz19_0 := Zn BK109.out 0
       have p110 : 0 ≤ (x3_1 : Int) := Zo
       have q110 : x3_1 < (l0_0.length : Int) := Zo
       obtain ⟨ad110, A110_1, c110_1, A110_2, c110_2, e110, hx110_0, hx110_1, hx110_2, hl110_1, hi110_1, hl110_2, hi110_2⟩ := at_T74 HR0_0.out x3_1 p110 q110
       cases e110
       replace hx110_0 := Zc HB.out hx110_0
       replace hx110_1 := Zc HB.out hx110_1
       replace hx110_2 := Zc HB.out hx110_2
       have HR110_1 := Zh hi110_1
       have HC110_1 := Zh hl110_1
       clear hi110_1 hl110_1
       have HR110_2 := Zh hi110_2
       have HC110_2 := Zh hl110_2
       clear hi110_2 hl110_2
       replace p110 := eq_true p110
       replace q110 := eq_true q110
       try go_wp2_with (first | ((with_reducible refine gate_dst (N := 4) rfl ?_); (try (refine gate_guard (by rfl) ?_; dsimp only)); refine box_event ?hg (N := 4) ?hd (cs := #[.string (⟨#[]⟩ : ByteArray), .slice none 0 0, .slice none 0 0]) (t := 74) ?hr ?_; (case hd => rfl); (case hg => rfl); (case hr => first | (go_simp; done) | (go_simp; rfl)); intro gb111 hg w20 hbox hb; have n0_ := Zh (Zm (g := gb109) (o := .cells #[.slice (some ad110) l0_0.length c0_0] 29 (0, 0)) Zk hb); have n1_ := Zh (Zl Zs hb); have n2_ := Zh (hbox); have n3_ := Zh ((by rw [hg]; exact (below_size Zs) : w.heap.size ≤ gb111)); have n4_ := Zh ((by rw [hg]; exact (below_size Zs) : w.heap.size ≤ gb111)); have n5_ := Zh ((by rw [hg]; exact Nat.ne_of_lt (blk_lt (g := gb109) (o := .cells #[.slice (some ad110) l0_0.length c0_0] 29 (0, 0)) Zk) : gb109 ≠ gb111)); have n6_ := Zh ((by rw [hg]; exact Nat.ne_of_gt (blk_lt (g := gb109) (o := .cells #[.slice (some ad110) l0_0.length c0_0] 29 (0, 0)) Zk) : gb111 ≠ gb109)); clear BK109; clear HB; have BK109 := n0_; have HB := n1_; have BK111 := n2_; have GW111 := n3_; have GE111 := n4_; have NB109_111 := n5_; have NB111_109 := n6_; clear n0_ n1_ n2_ n3_ n4_ n5_ n6_; clear hb hbox hg; have hnb21 := NB111_109.out; have hnc21 := NB109_111.out; have hcz22_0 : w20.cell? ⟨gb111, 0, none⟩ = some (.string (⟨#[]⟩ : ByteArray)) := (blk_cell BK111.out 0).trans rfl; have hcz22_1 : w20.cell? ⟨gb111, 1, none⟩ = some (.slice none 0 0) := (blk_cell BK111.out 1).trans rfl; have hcz22_2 : w20.cell? ⟨gb111, 2, none⟩ = some (.slice none 0 0) := (blk_cell BK111.out 2).trans rfl; have hfz22_0 := Zn BK111.out 0; have hfz22_1 := Zn BK111.out 1; have hfz22_2 := Zn BK111.out 2))
       have n0_ : Aside0 ((((w20.setCell ⟨gb111, 0, none⟩ (.string ((rd_T74 l0_0 x3_1).f0))).setCell ⟨gb111, 1, none⟩ (.slice A110_1 ((rd_T74 l0_0 x3_1).f1).length c110_1)).setCell ⟨gb111, 2, none⟩ (.slice A110_2 ((rd_T74 l0_0 x3_1).f2).length c110_2)).heap[gb109]? = some (.cells #[.slice (some ad110) l0_0.length c0_0] 29 (0, 0))) := ⟨by (with_reducible repeat (first | refine Za ?_ _ | refine Zb ?_ | refine blk_alloc ?_ _)); refine blk_far ?_ NB109_111.out _; (with_reducible repeat (first | refine Za ?_ _ | refine Zb ?_ | refine blk_alloc ?_ _)); refine blk_far ?_ NB109_111.out _; (with_reducible repeat (first | refine Za ?_ _ | refine Zb ?_ | refine blk_alloc ?_ _)); refine blk_far ?_ NB109_111.out _; (with_reducible repeat (first | refine Za ?_ _ | refine Zb ?_ | refine blk_alloc ?_ _)); exact BK109.out⟩
       have n1_ : Aside0 ((((w20.setCell ⟨gb111, 0, none⟩ (.string ((rd_T74 l0_0 x3_1).f0))).setCell ⟨gb111, 1, none⟩ (.slice A110_1 ((rd_T74 l0_0 x3_1).f1).length c110_1)).setCell ⟨gb111, 2, none⟩ (.slice A110_2 ((rd_T74 l0_0 x3_1).f2).length c110_2)).heap[gb111]? = some (.cells #[.string ((rd_T74 l0_0 x3_1).f0), .slice A110_1 ((rd_T74 l0_0 x3_1).f1).length c110_1, .slice A110_2 ((rd_T74 l0_0 x3_1).f2).length c110_2] 74 (0, 0))) := ⟨by (with_reducible repeat (first | refine Za ?_ _ | refine Zb ?_ | refine blk_alloc ?_ _)); refine blk_put (cs := #[.string ((rd_T74 l0_0 x3_1).f0), .slice A110_1 ((rd_T74 l0_0 x3_1).f1).length c110_1, .slice none 0 0]) ?_ 2 _ rfl; (with_reducible repeat (first | refine Za ?_ _ | refine Zb ?_ | refine blk_alloc ?_ _)); refine blk_put (cs := #[.string ((rd_T74 l0_0 x3_1).f0), .slice none 0 0, .slice none 0 0]) ?_ 1 _ rfl; (with_reducible repeat (first | refine Za ?_ _ | refine Zb ?_ | refine blk_alloc ?_ _)); refine blk_put (cs := #[.string (⟨#[]⟩ : ByteArray), .slice none 0 0, .slice none 0 0]) ?_ 0 _ rfl; (with_reducible repeat (first | refine Za ?_ _ | refine Zb ?_ | refine blk_alloc ?_ _)); exact BK111.out⟩
       have n2_ : Aside0 (Below w.heap.size w (((w20.setCell ⟨gb111, 0, none⟩ (.string ((rd_T74 l0_0 x3_1).f0))).setCell ⟨gb111, 1, none⟩ (.slice A110_1 ((rd_T74 l0_0 x3_1).f1).length c110_1)).setCell ⟨gb111, 2, none⟩ (.slice A110_2 ((rd_T74 l0_0 x3_1).f2).length c110_2))) := ⟨by repeat (first | (with_reducible first | exact HB.out | apply Zf | apply Zd | apply Ze | refine Zg ?_ GE109.out | refine Zg ?_ GE111.out) | exact HB.out)⟩
       (try clear BK109)
       (try clear BK111)
       (try clear HB)
       generalize (((w20.setCell ⟨gb111, 0, none⟩ (.string ((rd_T74 l0_0 x3_1).f0))).setCell ⟨gb111, 1, none⟩ (.slice A110_1 ((rd_T74 l0_0 x3_1).f1).length c110_1)).setCell ⟨gb111, 2, none⟩ (.slice A110_2 ((rd_T74 l0_0 x3_1).f2).length c110_2)) = w23 at n0_ n1_ n2_ ⊢
       have BK109 := n0_
       have BK111 := n1_
       have HB := n2_
       clear n0_ n1_ n2_
       have n0_ := Zh (Zb BK109.out)
       have n1_ := Zh (Zb BK111.out)
       have n2_ := Zh (Ze HB.out)
       clear BK109
       clear BK111
       clear HB
       have BK109 := n0_
       have BK111 := n1_
       have HB := n2_
       clear n0_ n1_ n2_
       refine start_ (n := 36) (S := fun w' => w'.cell? ⟨gb111, 0, none⟩ = some (.string ((rd_T74 l0_0 x3_1).f0)) ∧ w'.cell? ⟨gb111, 1, none⟩ = some (.slice A110_1 ((rd_T74 l0_0 x3_1).f1).length c110_1) ∧ w'.cell? ⟨gb111, 2, none⟩ = some (.slice A110_2 ((rd_T74 l0_0 x3_1).f2).length c110_2)) (ds := []) #[false, false, false, false, false, false, false, false, false, false, false, false, false, false, false, false, false, false, false, false, false, false, false, false, false, false, false, false, false, false, false, false, false, false, false, false] (by kernel_rfl) rfl rfl ⟨(blk_cell BK111.out 0).trans rfl, (blk_cell BK111.out 1).trans rfl, (blk_cell BK111.out 2).trans rfl⟩ (fun hHeld => ?_); refine with_tabW spec_DiskOk.tab7 spec_DiskOk.bits7 (fun HT_ HW_ => ?_)
       generalize w23.drew = w24 at BK109 BK111 HB hHeld ⊢
       refine SQ.pu 0 21 HT_ ?_
       refine SQ.tk 1 22 HT_ HW_ hHeld ?_
       refine one_ (i := 2) (N := some 23) #[true, true, true, false, false, false, false, false, false, false, false, false, false, false, false, false, false, false, false, false, false, false, false, false, false, false, false, false, false, false, false, false, false, false, false, false] rfl rfl (one_of HT_.out (by kernel_rfl)) (by decide) (fun K hK => ?_)
       refine goes_ Tryd.func57 (by kernel_rfl) rfl #[.string ((rd_T74 l0_0 x3_1).f0)] (by rfl) rfl rfl (by (try simp only [List.map_toArray, List.map_cons, List.map_nil]); first | done | rfl | (simp only [List.length_drop, List.length_take]; rfl)) ?_
       with_reducible refine (spec_l01Name.calls k1 ((rd_T74 l0_0 x3_1).f0) true _ A9.out).mono ?_
       rintro e w' ⟨rfl, ⟨nd, rfl⟩⟩
       refine ⟨_, rfl, ?_⟩
       refine hK.out _ _ ⟨(blk_cell BK111.out 0).trans rfl, (blk_cell BK111.out 1).trans rfl, (blk_cell BK111.out 2).trans rfl⟩ (fun hHeld => ?_)
       clear hK K
       refine norm_ (a' := ?_) ?_ ?_
       rotate_left
       ·
        show Act.put _ (some 23) _ = _
        simp only [Act.put, List.setIfInBounds_toArray, List.set_cons_zero, List.set_cons_succ, i64_w, i32_w]
        rfl
       refine SQ.pu 3 24 HT_ ?_
       refine SQ.pu 4 25 HT_ ?_
       refine SQ.pu 5 26 HT_ ?_
       refine SQ.tk 6 27 HT_ HW_ hHeld ?_
       refine SQ.pu 7 28 HT_ ?_
       refine SQ.pu 8 29 HT_ ?_
       refine SQ.pu 9 30 HT_ ?_
       refine SQ.pu 10 31 HT_ ?_
       refine SQ.pu 11 32 HT_ ?_
       refine SQ.pu 14 35 HT_ ?_
       refine SQ.tk 12 33 HT_ HW_ hHeld ?_
       refine SQ.pu 13 34 HT_ ?_
       refine SQ.tk 15 36 HT_ HW_ hHeld ?_
       refine SQ.pu 16 37 HT_ ?_
       refine SQ.pu 17 38 HT_ ?_
       refine SQ.pu 18 39 HT_ ?_
       refine SQ.pu 19 40 HT_ ?_
       refine SQ.pu 20 41 HT_ ?_
       refine SQ.of 21 42 HT_ ?_
       refine SQ.of 22 43 HT_ ?_
       refine SQ.of 23 44 HT_ ?_
       refine SQ.of 24 45 HT_ ?_
       refine SQ.of 25 46 HT_ ?_
       refine SQ.of 26 47 HT_ ?_
       refine SQ.of 27 48 HT_ ?_
       refine SQ.of 28 49 HT_ ?_
       refine SQ.of 29 50 HT_ ?_
       refine SQ.of 30 51 HT_ ?_
       refine SQ.of 31 52 HT_ ?_
       refine SQ.of 32 53 HT_ ?_
       refine SQ.of 33 54 HT_ ?_
       refine SQ.of 34 55 HT_ ?_
       refine SQ.pu 35 56 HT_ ?_
       refine done_ (done_of HT_.out (by kernel_rfl)) ?_
       try go_wp2
       go_ret
       exact ⟨by first | rfl | (simp [errW_none, errW_some] <;> rfl) | (simp [*, errW_none, errW_some] <;> rfl), by repeat (first | (with_reducible first | exact HB.out | apply Zf | apply Zd | apply Ze | refine Zg ?_ GE109.out | refine Zg ?_ GE111.out) | exact HB.out)⟩
      rw [if_neg c18] at H
      have c18b0 : decide ((wrap64 (20000 - (((rd_T74 l0_0 x3_1).f1).length : Int))) < (((rd_T74 l0_0 x3_1).f2).length : Int)) = false := decide_eq_false c18
      clear c18
      by_cases c25 : x3_1 > 0
      ·
       rw [if_pos c25] at H
       have c25b0 : decide (0 < x3_1) = true := decide_eq_true c25
       clear c25
       obtain ⟨ji26, hji26⟩ : ∃ j_ : Int, (wrap64 (x3_1 - 1)) = j_ := ⟨_, rfl⟩
       replace H : (if 0 ≤ (ji26) then (if (ji26) < (l0_0.length : Int) then (if ((Op.bytesLess (((rd_T74 l0_0 (ji26)).f0).toList) (((rd_T74 l0_0 x3_1).f0).toList)) = true) then (spec_DiskOk.l0 k1 (wrap64 (x3_1 + 1)) l0_0) else (some false)) else (none)) else (none)) = some r := by first | (rw [hji26] at H; exact H) | (simp only [hji26] at H ⊢; exact H)
       (try rw [hji26] at A9)
       have hji26w : (IntKind.i64.wrap (x3_1 - 1)) = ji26 := (i64_w _).trans hji26
       by_cases c27 : 0 ≤ (ji26)
       ·
        rw [if_pos c27] at H
        have c27b0 : decide (0 ≤ (ji26)) = true := decide_eq_true c27
        clear c27
        by_cases c28 : (ji26) < (l0_0.length : Int)
        ·
         rw [if_pos c28] at H
         have c28b0 : decide ((ji26) < (l0_0.length : Int)) = true := decide_eq_true c28
         clear c28
         by_cases c29 : ((Op.bytesLess (((rd_T74 l0_0 (ji26)).f0).toList) (((rd_T74 l0_0 x3_1).f0).toList)) = true)
         ·
          rw [if_pos c29] at H
          have c29b0 : (Op.bytesLess (((rd_T74 l0_0 (ji26)).f0).toList) (((rd_T74 l0_0 x3_1).f0).toList)) = true := c29
          clear c29
          have H' := Zh H
          clear H
          have hcz30_0 : wr.cell? ⟨gb109, 0, none⟩ = some (.slice A0_0 l0_0.length c0_0) := (blk_cell BK109.out 0).trans rfl
          have hfz30_0 := Zn BK109.out 0
          have p110 : 0 ≤ (x3_1 : Int) := Zo
          have q110 : x3_1 < (l0_0.length : Int) := Zo
          obtain ⟨ad110, A110_1, c110_1, A110_2, c110_2, e110, hx110_0, hx110_1, hx110_2, hl110_1, hi110_1, hl110_2, hi110_2⟩ := at_T74 HR0_0.out x3_1 p110 q110
          cases e110
          replace hx110_0 := Zc HB.out hx110_0
          replace hx110_1 := Zc HB.out hx110_1
          replace hx110_2 := Zc HB.out hx110_2
          have HR110_1 := Zh hi110_1
          have HC110_1 := Zh hl110_1
          clear hi110_1 hl110_1
          have HR110_2 := Zh hi110_2
          have HC110_2 := Zh hl110_2
          clear hi110_2 hl110_2
          replace p110 := eq_true p110
          replace q110 := eq_true q110
          try go_wp2_with (first | ((with_reducible refine gate_dst (N := 4) rfl ?_); (try (refine gate_guard (by rfl) ?_; dsimp only)); refine box_event ?hg (N := 4) ?hd (cs := #[.string (⟨#[]⟩ : ByteArray), .slice none 0 0, .slice none 0 0]) (t := 74) ?hr ?_; (case hd => rfl); (case hg => rfl); (case hr => first | (go_simp; done) | (go_simp; rfl)); intro gb111 hg w31 hbox hb; have n0_ := Zh (Zm (g := gb109) (o := .cells #[.slice (some ad110) l0_0.length c0_0] 29 (0, 0)) Zk hb); have n1_ := Zh (Zl Zs hb); have n2_ := Zh (hbox); have n3_ := Zh ((by rw [hg]; exact (below_size Zs) : w.heap.size ≤ gb111)); have n4_ := Zh ((by rw [hg]; exact (below_size Zs) : w.heap.size ≤ gb111)); have n5_ := Zh ((by rw [hg]; exact Nat.ne_of_lt (blk_lt (g := gb109) (o := .cells #[.slice (some ad110) l0_0.length c0_0] 29 (0, 0)) Zk) : gb109 ≠ gb111)); have n6_ := Zh ((by rw [hg]; exact Nat.ne_of_gt (blk_lt (g := gb109) (o := .cells #[.slice (some ad110) l0_0.length c0_0] 29 (0, 0)) Zk) : gb111 ≠ gb109)); clear BK109; clear HB; have BK109 := n0_; have HB := n1_; have BK111 := n2_; have GW111 := n3_; have GE111 := n4_; have NB109_111 := n5_; have NB111_109 := n6_; clear n0_ n1_ n2_ n3_ n4_ n5_ n6_; clear hb hbox hg; have hnb32 := NB111_109.out; have hnc32 := NB109_111.out; have hcz33_0 : w31.cell? ⟨gb111, 0, none⟩ = some (.string (⟨#[]⟩ : ByteArray)) := (blk_cell BK111.out 0).trans rfl; have hcz33_1 : w31.cell? ⟨gb111, 1, none⟩ = some (.slice none 0 0) := (blk_cell BK111.out 1).trans rfl; have hcz33_2 : w31.cell? ⟨gb111, 2, none⟩ = some (.slice none 0 0) := (blk_cell BK111.out 2).trans rfl; have hfz33_0 := Zn BK111.out 0; have hfz33_1 := Zn BK111.out 1; have hfz33_2 := Zn BK111.out 2))
          have n0_ : Aside0 ((((w31.setCell ⟨gb111, 0, none⟩ (.string ((rd_T74 l0_0 x3_1).f0))).setCell ⟨gb111, 1, none⟩ (.slice A110_1 ((rd_T74 l0_0 x3_1).f1).length c110_1)).setCell ⟨gb111, 2, none⟩ (.slice A110_2 ((rd_T74 l0_0 x3_1).f2).length c110_2)).heap[gb109]? = some (.cells #[.slice (some ad110) l0_0.length c0_0] 29 (0, 0))) := ⟨by (with_reducible repeat (first | refine Za ?_ _ | refine Zb ?_ | refine blk_alloc ?_ _)); refine blk_far ?_ NB109_111.out _; (with_reducible repeat (first | refine Za ?_ _ | refine Zb ?_ | refine blk_alloc ?_ _)); refine blk_far ?_ NB109_111.out _; (with_reducible repeat (first | refine Za ?_ _ | refine Zb ?_ | refine blk_alloc ?_ _)); refine blk_far ?_ NB109_111.out _; (with_reducible repeat (first | refine Za ?_ _ | refine Zb ?_ | refine blk_alloc ?_ _)); exact BK109.out⟩
          have n1_ : Aside0 ((((w31.setCell ⟨gb111, 0, none⟩ (.string ((rd_T74 l0_0 x3_1).f0))).setCell ⟨gb111, 1, none⟩ (.slice A110_1 ((rd_T74 l0_0 x3_1).f1).length c110_1)).setCell ⟨gb111, 2, none⟩ (.slice A110_2 ((rd_T74 l0_0 x3_1).f2).length c110_2)).heap[gb111]? = some (.cells #[.string ((rd_T74 l0_0 x3_1).f0), .slice A110_1 ((rd_T74 l0_0 x3_1).f1).length c110_1, .slice A110_2 ((rd_T74 l0_0 x3_1).f2).length c110_2] 74 (0, 0))) := ⟨by (with_reducible repeat (first | refine Za ?_ _ | refine Zb ?_ | refine blk_alloc ?_ _)); refine blk_put (cs := #[.string ((rd_T74 l0_0 x3_1).f0), .slice A110_1 ((rd_T74 l0_0 x3_1).f1).length c110_1, .slice none 0 0]) ?_ 2 _ rfl; (with_reducible repeat (first | refine Za ?_ _ | refine Zb ?_ | refine blk_alloc ?_ _)); refine blk_put (cs := #[.string ((rd_T74 l0_0 x3_1).f0), .slice none 0 0, .slice none 0 0]) ?_ 1 _ rfl; (with_reducible repeat (first | refine Za ?_ _ | refine Zb ?_ | refine blk_alloc ?_ _)); refine blk_put (cs := #[.string (⟨#[]⟩ : ByteArray), .slice none 0 0, .slice none 0 0]) ?_ 0 _ rfl; (with_reducible repeat (first | refine Za ?_ _ | refine Zb ?_ | refine blk_alloc ?_ _)); exact BK111.out⟩
          have n2_ : Aside0 (Below w.heap.size w (((w31.setCell ⟨gb111, 0, none⟩ (.string ((rd_T74 l0_0 x3_1).f0))).setCell ⟨gb111, 1, none⟩ (.slice A110_1 ((rd_T74 l0_0 x3_1).f1).length c110_1)).setCell ⟨gb111, 2, none⟩ (.slice A110_2 ((rd_T74 l0_0 x3_1).f2).length c110_2))) := ⟨by repeat (first | (with_reducible first | exact HB.out | apply Zf | apply Zd | apply Ze | refine Zg ?_ GE109.out | refine Zg ?_ GE111.out) | exact HB.out)⟩
          (try clear BK109)
          (try clear BK111)
          (try clear HB)
          generalize (((w31.setCell ⟨gb111, 0, none⟩ (.string ((rd_T74 l0_0 x3_1).f0))).setCell ⟨gb111, 1, none⟩ (.slice A110_1 ((rd_T74 l0_0 x3_1).f1).length c110_1)).setCell ⟨gb111, 2, none⟩ (.slice A110_2 ((rd_T74 l0_0 x3_1).f2).length c110_2)) = w34 at n0_ n1_ n2_ ⊢
          have BK109 := n0_
          have BK111 := n1_
          have HB := n2_
          clear n0_ n1_ n2_
          have n0_ := Zh (Zb BK109.out)
          have n1_ := Zh (Zb BK111.out)
          have n2_ := Zh (Ze HB.out)
          clear BK109
          clear BK111
          clear HB
          have BK109 := n0_
          have BK111 := n1_
          have HB := n2_
          clear n0_ n1_ n2_
          have p113 : 0 ≤ ((ji26) : Int) := Zo
          have q113 : (ji26) < (l0_0.length : Int) := Zo
          obtain ⟨ad113, A113_1, c113_1, A113_2, c113_2, e113, hx113_0, hx113_1, hx113_2, hl113_1, hi113_1, hl113_2, hi113_2⟩ := at_T74 HR0_0.out (ji26) p113 q113
          have hw113_2 := hx113_2
          have hw113_1 := hx113_1
          have hw113_0 := hx113_0
          obtain rfl : ad110 = ad113 := (by injection e113)
          replace hx113_0 := Zc HB.out hx113_0
          replace hx113_1 := Zc HB.out hx113_1
          replace hx113_2 := Zc HB.out hx113_2
          have HR113_1 := Zh hi113_1
          have HC113_1 := Zh hl113_1
          clear hi113_1 hl113_1
          have HR113_2 := Zh hi113_2
          have HC113_2 := Zh hl113_2
          clear hi113_2 hl113_2
          replace p113 := eq_true p113
          replace q113 := eq_true q113
          refine start_ (n := 36) (S := fun w' => w'.cell? ⟨gb111, 0, none⟩ = some (.string ((rd_T74 l0_0 x3_1).f0)) ∧ w'.cell? ⟨gb111, 1, none⟩ = some (.slice A110_1 ((rd_T74 l0_0 x3_1).f1).length c110_1) ∧ w'.cell? ⟨gb111, 2, none⟩ = some (.slice A110_2 ((rd_T74 l0_0 x3_1).f2).length c110_2) ∧ w'.cell? ⟨gb109, 0, none⟩ = some (.slice (some ad110) l0_0.length c0_0) ∧ w'.cell? (ad110.add (((ji26)).toNat * 3)) = some (.string ((rd_T74 l0_0 (ji26)).f0)) ∧ w'.cell? ⟨(ad110.add (((ji26)).toNat * 3)).block, (ad110.add (((ji26)).toNat * 3)).off + 1, none⟩ = some (.slice A113_1 ((rd_T74 l0_0 (ji26)).f1).length c113_1) ∧ w'.cell? ⟨(ad110.add (((ji26)).toNat * 3)).block, (ad110.add (((ji26)).toNat * 3)).off + 2, none⟩ = some (.slice A113_2 ((rd_T74 l0_0 (ji26)).f2).length c113_2)) (ds := []) #[false, false, false, false, false, false, false, false, false, false, false, false, false, false, false, false, false, false, false, false, false, false, false, false, false, false, false, false, false, false, false, false, false, false, false, false] (by kernel_rfl) rfl rfl ⟨(blk_cell BK111.out 0).trans rfl, (blk_cell BK111.out 1).trans rfl, (blk_cell BK111.out 2).trans rfl, (blk_cell BK109.out 0).trans rfl, ((HB.out.cell (Zi w _ hw113_0)).trans hw113_0), ((HB.out.cell (Zi w _ hw113_1)).trans hw113_1), ((HB.out.cell (Zi w _ hw113_2)).trans hw113_2)⟩ (fun hHeld => ?_); refine with_tabW spec_DiskOk.tab7 spec_DiskOk.bits7 (fun HT_ HW_ => ?_)
          generalize w34.drew = w35 at BK109 BK111 HB HR113_1 HR113_2 hx113_0 hx113_1 hx113_2 hHeld ⊢
          refine SQ.pu 0 21 HT_ ?_
          refine SQ.tk 1 22 HT_ HW_ hHeld ?_
          refine one_ (i := 2) (N := some 23) #[true, true, true, false, false, false, false, false, false, false, false, false, false, false, false, false, false, false, false, false, false, false, false, false, false, false, false, false, false, false, false, false, false, false, false, false] rfl rfl (one_of HT_.out (by kernel_rfl)) (by decide) (fun K hK => ?_)
          refine goes_ Tryd.func57 (by kernel_rfl) rfl #[.string ((rd_T74 l0_0 x3_1).f0)] (by rfl) rfl rfl (by (try simp only [List.map_toArray, List.map_cons, List.map_nil]); first | done | rfl | (simp only [List.length_drop, List.length_take]; rfl)) ?_
          with_reducible refine (spec_l01Name.calls k1 ((rd_T74 l0_0 x3_1).f0) true _ A9.out).mono ?_
          rintro e w' ⟨rfl, ⟨nd, rfl⟩⟩
          refine ⟨_, rfl, ?_⟩
          refine hK.out _ _ ⟨(blk_cell BK111.out 0).trans rfl, (blk_cell BK111.out 1).trans rfl, (blk_cell BK111.out 2).trans rfl, (blk_cell BK109.out 0).trans rfl, ((HB.out.cell (Zi w _ hw113_0)).trans hw113_0), ((HB.out.cell (Zi w _ hw113_1)).trans hw113_1), ((HB.out.cell (Zi w _ hw113_2)).trans hw113_2)⟩ (fun hHeld => ?_)
          clear hK K
          refine norm_ (a' := ?_) ?_ ?_
          rotate_left
          ·
           show Act.put _ (some 23) _ = _
           simp only [Act.put, List.setIfInBounds_toArray, List.set_cons_zero, List.set_cons_succ, i64_w, i32_w]
           rfl
          refine SQ.pu 3 24 HT_ ?_
          refine SQ.pu 4 25 HT_ ?_
          refine SQ.pu 5 26 HT_ ?_
          refine SQ.tk 6 27 HT_ HW_ hHeld ?_
          refine SQ.pu 7 28 HT_ ?_
          refine SQ.pu 8 29 HT_ ?_
          refine SQ.pu 9 30 HT_ ?_
          refine SQ.pu 10 31 HT_ ?_
          refine SQ.pu 11 32 HT_ ?_
          refine SQ.pu 14 35 HT_ ?_
          refine SQ.tk 12 33 HT_ HW_ hHeld ?_
          refine SQ.pu 13 34 HT_ ?_
          refine SQ.tk 15 36 HT_ HW_ hHeld ?_
          refine SQ.pu 16 37 HT_ ?_
          refine SQ.pu 17 38 HT_ ?_
          refine SQ.pu 18 39 HT_ ?_
          refine SQ.pu 19 40 HT_ ?_
          refine SQ.pu 20 41 HT_ ?_
          refine SQ.pu 21 42 HT_ ?_
          refine SQ.pu 22 43 HT_ ?_
          refine SQ.pu 23 44 HT_ ?_
          refine SQ.pu 24 45 HT_ ?_
          refine SQ.pu 26 47 HT_ ?_
          refine SQ.pu 27 48 HT_ ?_
          refine SQ.pu 31 52 HT_ ?_
          refine SQ.tk 25 46 HT_ HW_ hHeld ?_
          refine SQ.pu 28 49 HT_ ?_
          refine SQ.pu 29 50 HT_ ?_
          refine SQ.tk 30 51 HT_ HW_ hHeld ?_
          refine SQ.tk 32 53 HT_ HW_ hHeld ?_
          refine SQ.pu 33 54 HT_ ?_
          refine SQ.pu 34 55 HT_ ?_
          refine SQ.pu 35 56 HT_ ?_
          refine done_ (done_of HT_.out (by kernel_rfl)) ?_
          try go_wp2
          go_roundg k1
          case measure => have := HK1.out; omega
          case rel => exact ⟨(wrap64 (x3_1 + 1)), (by first | rfl | (simp; done) | (simp [*]; done)), H', ⟨by have := HK1.out; omega⟩, ⟨by (with_reducible repeat (first | refine Za ?_ _ | refine Zb ?_ | refine blk_alloc ?_ _)); exact BK109.out⟩, ⟨by repeat (first | (with_reducible first | exact HB.out | apply Zf | apply Zd | apply Ze | refine Zg ?_ GE109.out | refine Zg ?_ GE111.out) | exact HB.out)⟩⟩
         rw [if_neg c29] at H
         have c29b0 : (Op.bytesLess (((rd_T74 l0_0 (ji26)).f0).toList) (((rd_T74 l0_0 x3_1).f0).toList)) = false := by simpa using c29
         clear c29
         obtain rfl := Option.some.inj H
         have hcz36_0 : wr.cell? ⟨gb109, 0, none⟩ = some (.slice A0_0 l0_0.length c0_0) := (blk_cell BK109.out 0).trans rfl
         have hfz36_0 := Zn BK109.out 0
         have p110 : 0 ≤ (x3_1 : Int) := Zo
         have q110 : x3_1 < (l0_0.length : Int) := Zo
         obtain ⟨ad110, A110_1, c110_1, A110_2, c110_2, e110, hx110_0, hx110_1, hx110_2, hl110_1, hi110_1, hl110_2, hi110_2⟩ := at_T74 HR0_0.out x3_1 p110 q110
         cases e110
         replace hx110_0 := Zc HB.out hx110_0
         replace hx110_1 := Zc HB.out hx110_1
         replace hx110_2 := Zc HB.out hx110_2
         have HR110_1 := Zh hi110_1
         have HC110_1 := Zh hl110_1
         clear hi110_1 hl110_1
         have HR110_2 := Zh hi110_2
         have HC110_2 := Zh hl110_2
         clear hi110_2 hl110_2
         replace p110 := eq_true p110
         replace q110 := eq_true q110
         try go_wp2_with (first | ((with_reducible refine gate_dst (N := 4) rfl ?_); (try (refine gate_guard (by rfl) ?_; dsimp only)); refine box_event ?hg (N := 4) ?hd (cs := #[.string (⟨#[]⟩ : ByteArray), .slice none 0 0, .slice none 0 0]) (t := 74) ?hr ?_; (case hd => rfl); (case hg => rfl); (case hr => first | (go_simp; done) | (go_simp; rfl)); intro gb111 hg w37 hbox hb; have n0_ := Zh (Zm (g := gb109) (o := .cells #[.slice (some ad110) l0_0.length c0_0] 29 (0, 0)) Zk hb); have n1_ := Zh (Zl Zs hb); have n2_ := Zh (hbox); have n3_ := Zh ((by rw [hg]; exact (below_size Zs) : w.heap.size ≤ gb111)); have n4_ := Zh ((by rw [hg]; exact (below_size Zs) : w.heap.size ≤ gb111)); have n5_ := Zh ((by rw [hg]; exact Nat.ne_of_lt (blk_lt (g := gb109) (o := .cells #[.slice (some ad110) l0_0.length c0_0] 29 (0, 0)) Zk) : gb109 ≠ gb111)); have n6_ := Zh ((by rw [hg]; exact Nat.ne_of_gt (blk_lt (g := gb109) (o := .cells #[.slice (some ad110) l0_0.length c0_0] 29 (0, 0)) Zk) : gb111 ≠ gb109)); clear BK109; clear HB; have BK109 := n0_; have HB := n1_; have BK111 := n2_; have GW111 := n3_; have GE111 := n4_; have NB109_111 := n5_; have NB111_109 := n6_; clear n0_ n1_ n2_ n3_ n4_ n5_ n6_; clear hb hbox hg; have hnb38 := NB111_109.out; have hnc38 := NB109_111.out; have hcz39_0 : w37.cell? ⟨gb111, 0, none⟩ = some (.string (⟨#[]⟩ : ByteArray)) := (blk_cell BK111.out 0).trans rfl; have hcz39_1 : w37.cell? ⟨gb111, 1, none⟩ = some (.slice none 0 0) := (blk_cell BK111.out 1).trans rfl; have hcz39_2 : w37.cell? ⟨gb111, 2, none⟩ = some (.slice none 0 0) := (blk_cell BK111.out 2).trans rfl; have hfz39_0 := Zn BK111.out 0; have hfz39_1 := Zn BK111.out 1; have hfz39_2 := Zn BK111.out 2))
         have n0_ : Aside0 ((((w37.setCell ⟨gb111, 0, none⟩ (.string ((rd_T74 l0_0 x3_1).f0))).setCell ⟨gb111, 1, none⟩ (.slice A110_1 ((rd_T74 l0_0 x3_1).f1).length c110_1)).setCell ⟨gb111, 2, none⟩ (.slice A110_2 ((rd_T74 l0_0 x3_1).f2).length c110_2)).heap[gb109]? = some (.cells #[.slice (some ad110) l0_0.length c0_0] 29 (0, 0))) := ⟨by (with_reducible repeat (first | refine Za ?_ _ | refine Zb ?_ | refine blk_alloc ?_ _)); refine blk_far ?_ NB109_111.out _; (with_reducible repeat (first | refine Za ?_ _ | refine Zb ?_ | refine blk_alloc ?_ _)); refine blk_far ?_ NB109_111.out _; (with_reducible repeat (first | refine Za ?_ _ | refine Zb ?_ | refine blk_alloc ?_ _)); refine blk_far ?_ NB109_111.out _; (with_reducible repeat (first | refine Za ?_ _ | refine Zb ?_ | refine blk_alloc ?_ _)); exact BK109.out⟩
         have n1_ : Aside0 ((((w37.setCell ⟨gb111, 0, none⟩ (.string ((rd_T74 l0_0 x3_1).f0))).setCell ⟨gb111, 1, none⟩ (.slice A110_1 ((rd_T74 l0_0 x3_1).f1).length c110_1)).setCell ⟨gb111, 2, none⟩ (.slice A110_2 ((rd_T74 l0_0 x3_1).f2).length c110_2)).heap[gb111]? = some (.cells #[.string ((rd_T74 l0_0 x3_1).f0), .slice A110_1 ((rd_T74 l0_0 x3_1).f1).length c110_1, .slice A110_2 ((rd_T74 l0_0 x3_1).f2).length c110_2] 74 (0, 0))) := ⟨by (with_reducible repeat (first | refine Za ?_ _ | refine Zb ?_ | refine blk_alloc ?_ _)); refine blk_put (cs := #[.string ((rd_T74 l0_0 x3_1).f0), .slice A110_1 ((rd_T74 l0_0 x3_1).f1).length c110_1, .slice none 0 0]) ?_ 2 _ rfl; (with_reducible repeat (first | refine Za ?_ _ | refine Zb ?_ | refine blk_alloc ?_ _)); refine blk_put (cs := #[.string ((rd_T74 l0_0 x3_1).f0), .slice none 0 0, .slice none 0 0]) ?_ 1 _ rfl; (with_reducible repeat (first | refine Za ?_ _ | refine Zb ?_ | refine blk_alloc ?_ _)); refine blk_put (cs := #[.string (⟨#[]⟩ : ByteArray), .slice none 0 0, .slice none 0 0]) ?_ 0 _ rfl; (with_reducible repeat (first | refine Za ?_ _ | refine Zb ?_ | refine blk_alloc ?_ _)); exact BK111.out⟩
         have n2_ : Aside0 (Below w.heap.size w (((w37.setCell ⟨gb111, 0, none⟩ (.string ((rd_T74 l0_0 x3_1).f0))).setCell ⟨gb111, 1, none⟩ (.slice A110_1 ((rd_T74 l0_0 x3_1).f1).length c110_1)).setCell ⟨gb111, 2, none⟩ (.slice A110_2 ((rd_T74 l0_0 x3_1).f2).length c110_2))) := ⟨by repeat (first | (with_reducible first | exact HB.out | apply Zf | apply Zd | apply Ze | refine Zg ?_ GE109.out | refine Zg ?_ GE111.out) | exact HB.out)⟩
         (try clear BK109)
         (try clear BK111)
         (try clear HB)
         generalize (((w37.setCell ⟨gb111, 0, none⟩ (.string ((rd_T74 l0_0 x3_1).f0))).setCell ⟨gb111, 1, none⟩ (.slice A110_1 ((rd_T74 l0_0 x3_1).f1).length c110_1)).setCell ⟨gb111, 2, none⟩ (.slice A110_2 ((rd_T74 l0_0 x3_1).f2).length c110_2)) = w40 at n0_ n1_ n2_ ⊢
         have BK109 := n0_
         have BK111 := n1_
         have HB := n2_
         clear n0_ n1_ n2_
         have n0_ := Zh (Zb BK109.out)
         have n1_ := Zh (Zb BK111.out)
         have n2_ := Zh (Ze HB.out)
         clear BK109
         clear BK111
         clear HB
         have BK109 := n0_
         have BK111 := n1_
         have HB := n2_
         clear n0_ n1_ n2_
         have p113 : 0 ≤ ((ji26) : Int) := Zo
         have q113 : (ji26) < (l0_0.length : Int) := Zo
         obtain ⟨ad113, A113_1, c113_1, A113_2, c113_2, e113, hx113_0, hx113_1, hx113_2, hl113_1, hi113_1, hl113_2, hi113_2⟩ := at_T74 HR0_0.out (ji26) p113 q113
         have hw113_2 := hx113_2
         have hw113_1 := hx113_1
         have hw113_0 := hx113_0
         obtain rfl : ad110 = ad113 := (by injection e113)
         replace hx113_0 := Zc HB.out hx113_0
         replace hx113_1 := Zc HB.out hx113_1
         replace hx113_2 := Zc HB.out hx113_2
         have HR113_1 := Zh hi113_1
         have HC113_1 := Zh hl113_1
         clear hi113_1 hl113_1
         have HR113_2 := Zh hi113_2
         have HC113_2 := Zh hl113_2
         clear hi113_2 hl113_2
         replace p113 := eq_true p113
         replace q113 := eq_true q113
         refine start_ (n := 36) (S := fun w' => w'.cell? ⟨gb111, 0, none⟩ = some (.string ((rd_T74 l0_0 x3_1).f0)) ∧ w'.cell? ⟨gb111, 1, none⟩ = some (.slice A110_1 ((rd_T74 l0_0 x3_1).f1).length c110_1) ∧ w'.cell? ⟨gb111, 2, none⟩ = some (.slice A110_2 ((rd_T74 l0_0 x3_1).f2).length c110_2) ∧ w'.cell? ⟨gb109, 0, none⟩ = some (.slice (some ad110) l0_0.length c0_0) ∧ w'.cell? (ad110.add (((ji26)).toNat * 3)) = some (.string ((rd_T74 l0_0 (ji26)).f0)) ∧ w'.cell? ⟨(ad110.add (((ji26)).toNat * 3)).block, (ad110.add (((ji26)).toNat * 3)).off + 1, none⟩ = some (.slice A113_1 ((rd_T74 l0_0 (ji26)).f1).length c113_1) ∧ w'.cell? ⟨(ad110.add (((ji26)).toNat * 3)).block, (ad110.add (((ji26)).toNat * 3)).off + 2, none⟩ = some (.slice A113_2 ((rd_T74 l0_0 (ji26)).f2).length c113_2)) (ds := []) #[false, false, false, false, false, false, false, false, false, false, false, false, false, false, false, false, false, false, false, false, false, false, false, false, false, false, false, false, false, false, false, false, false, false, false, false] (by kernel_rfl) rfl rfl ⟨(blk_cell BK111.out 0).trans rfl, (blk_cell BK111.out 1).trans rfl, (blk_cell BK111.out 2).trans rfl, (blk_cell BK109.out 0).trans rfl, ((HB.out.cell (Zi w _ hw113_0)).trans hw113_0), ((HB.out.cell (Zi w _ hw113_1)).trans hw113_1), ((HB.out.cell (Zi w _ hw113_2)).trans hw113_2)⟩ (fun hHeld => ?_); refine with_tabW spec_DiskOk.tab7 spec_DiskOk.bits7 (fun HT_ HW_ => ?_)
         generalize w40.drew = w41 at BK109 BK111 HB HR113_1 HR113_2 hx113_0 hx113_1 hx113_2 hHeld ⊢
         refine SQ.pu 0 21 HT_ ?_
         refine SQ.tk 1 22 HT_ HW_ hHeld ?_
         refine one_ (i := 2) (N := some 23) #[true, true, true, false, false, false, false, false, false, false, false, false, false, false, false, false, false, false, false, false, false, false, false, false, false, false, false, false, false, false, false, false, false, false, false, false] rfl rfl (one_of HT_.out (by kernel_rfl)) (by decide) (fun K hK => ?_)
         refine goes_ Tryd.func57 (by kernel_rfl) rfl #[.string ((rd_T74 l0_0 x3_1).f0)] (by rfl) rfl rfl (by (try simp only [List.map_toArray, List.map_cons, List.map_nil]); first | done | rfl | (simp only [List.length_drop, List.length_take]; rfl)) ?_
         with_reducible refine (spec_l01Name.calls k1 ((rd_T74 l0_0 x3_1).f0) true _ A9.out).mono ?_
         rintro e w' ⟨rfl, ⟨nd, rfl⟩⟩
         refine ⟨_, rfl, ?_⟩
         refine hK.out _ _ ⟨(blk_cell BK111.out 0).trans rfl, (blk_cell BK111.out 1).trans rfl, (blk_cell BK111.out 2).trans rfl, (blk_cell BK109.out 0).trans rfl, ((HB.out.cell (Zi w _ hw113_0)).trans hw113_0), ((HB.out.cell (Zi w _ hw113_1)).trans hw113_1), ((HB.out.cell (Zi w _ hw113_2)).trans hw113_2)⟩ (fun hHeld => ?_)
         clear hK K
         refine norm_ (a' := ?_) ?_ ?_
         rotate_left
         ·
          show Act.put _ (some 23) _ = _
          simp only [Act.put, List.setIfInBounds_toArray, List.set_cons_zero, List.set_cons_succ, i64_w, i32_w]
          rfl
         refine SQ.pu 3 24 HT_ ?_
         refine SQ.pu 4 25 HT_ ?_
         refine SQ.pu 5 26 HT_ ?_
         refine SQ.tk 6 27 HT_ HW_ hHeld ?_
         refine SQ.pu 7 28 HT_ ?_
         refine SQ.pu 8 29 HT_ ?_
         refine SQ.pu 9 30 HT_ ?_
         refine SQ.pu 10 31 HT_ ?_
         refine SQ.pu 11 32 HT_ ?_
         refine SQ.pu 14 35 HT_ ?_
         refine SQ.tk 12 33 HT_ HW_ hHeld ?_
         refine SQ.pu 13 34 HT_ ?_
         refine SQ.tk 15 36 HT_ HW_ hHeld ?_
         refine SQ.pu 16 37 HT_ ?_
         refine SQ.pu 17 38 HT_ ?_
         refine SQ.pu 18 39 HT_ ?_
         refine SQ.pu 19 40 HT_ ?_
         refine SQ.pu 20 41 HT_ ?_
         refine SQ.pu 21 42 HT_ ?_
         refine SQ.pu 22 43 HT_ ?_
         refine SQ.pu 23 44 HT_ ?_
         refine SQ.pu 24 45 HT_ ?_
         refine SQ.pu 26 47 HT_ ?_
         refine SQ.pu 27 48 HT_ ?_
         refine SQ.pu 31 52 HT_ ?_
         refine SQ.tk 25 46 HT_ HW_ hHeld ?_
         refine SQ.pu 28 49 HT_ ?_
         refine SQ.pu 29 50 HT_ ?_
         refine SQ.tk 30 51 HT_ HW_ hHeld ?_
         refine SQ.tk 32 53 HT_ HW_ hHeld ?_
         refine SQ.pu 33 54 HT_ ?_
         refine SQ.pu 34 55 HT_ ?_
         refine SQ.pu 35 56 HT_ ?_
         refine done_ (done_of HT_.out (by kernel_rfl)) ?_
         try go_wp2
         go_ret
         exact ⟨by first | rfl | (simp [errW_none, errW_some] <;> rfl) | (simp only [← hji26]; first | rfl | (simp [errW_none, errW_some] <;> rfl)) | (simp [*, errW_none, errW_some] <;> rfl), by repeat (first | (with_reducible first | exact HB.out | apply Zf | apply Zd | apply Ze | refine Zg ?_ GE109.out | refine Zg ?_ GE111.out) | exact HB.out)⟩
        rw [if_neg c28] at H
        exact absurd H (by simp)
       rw [if_neg c27] at H
       exact absurd H (by simp)
      rw [if_neg c25] at H
      have c25b0 : decide (0 < x3_1) = false := decide_eq_false c25
      clear c25
      have H' := Zh H
      clear H
      have hcz42_0 : wr.cell? ⟨gb109, 0, none⟩ = some (.slice A0_0 l0_0.length c0_0) := (blk_cell BK109.out 0).trans rfl
      have hfz42_0 := Zn BK109.out 0
      have p110 : 0 ≤ (x3_1 : Int) := Zo
      have q110 : x3_1 < (l0_0.length : Int) := Zo
      obtain ⟨ad110, A110_1, c110_1, A110_2, c110_2, e110, hx110_0, hx110_1, hx110_2, hl110_1, hi110_1, hl110_2, hi110_2⟩ := at_T74 HR0_0.out x3_1 p110 q110
      cases e110
      replace hx110_0 := Zc HB.out hx110_0
      replace hx110_1 := Zc HB.out hx110_1
      replace hx110_2 := Zc HB.out hx110_2
      have HR110_1 := Zh hi110_1
      have HC110_1 := Zh hl110_1
      clear hi110_1 hl110_1
      have HR110_2 := Zh hi110_2
      have HC110_2 := Zh hl110_2
      clear hi110_2 hl110_2
      replace p110 := eq_true p110
      replace q110 := eq_true q110
      try go_wp2_with (first | ((with_reducible refine gate_dst (N := 4) rfl ?_); (try (refine gate_guard (by rfl) ?_; dsimp only)); refine box_event ?hg (N := 4) ?hd (cs := #[.string (⟨#[]⟩ : ByteArray), .slice none 0 0, .slice none 0 0]) (t := 74) ?hr ?_; (case hd => rfl); (case hg => rfl); (case hr => first | (go_simp; done) | (go_simp; rfl)); intro gb111 hg w43 hbox hb; have n0_ := Zh (Zm (g := gb109) (o := .cells #[.slice (some ad110) l0_0.length c0_0] 29 (0, 0)) Zk hb); have n1_ := Zh (Zl Zs hb); have n2_ := Zh (hbox); have n3_ := Zh ((by rw [hg]; exact (below_size Zs) : w.heap.size ≤ gb111)); have n4_ := Zh ((by rw [hg]; exact (below_size Zs) : w.heap.size ≤ gb111)); have n5_ := Zh ((by rw [hg]; exact Nat.ne_of_lt (blk_lt (g := gb109) (o := .cells #[.slice (some ad110) l0_0.length c0_0] 29 (0, 0)) Zk) : gb109 ≠ gb111)); have n6_ := Zh ((by rw [hg]; exact Nat.ne_of_gt (blk_lt (g := gb109) (o := .cells #[.slice (some ad110) l0_0.length c0_0] 29 (0, 0)) Zk) : gb111 ≠ gb109)); clear BK109; clear HB; have BK109 := n0_; have HB := n1_; have BK111 := n2_; have GW111 := n3_; have GE111 := n4_; have NB109_111 := n5_; have NB111_109 := n6_; clear n0_ n1_ n2_ n3_ n4_ n5_ n6_; clear hb hbox hg; have hnb44 := NB111_109.out; have hnc44 := NB109_111.out; have hcz45_0 : w43.cell? ⟨gb111, 0, none⟩ = some (.string (⟨#[]⟩ : ByteArray)) := (blk_cell BK111.out 0).trans rfl; have hcz45_1 : w43.cell? ⟨gb111, 1, none⟩ = some (.slice none 0 0) := (blk_cell BK111.out 1).trans rfl; have hcz45_2 : w43.cell? ⟨gb111, 2, none⟩ = some (.slice none 0 0) := (blk_cell BK111.out 2).trans rfl; have hfz45_0 := Zn BK111.out 0; have hfz45_1 := Zn BK111.out 1; have hfz45_2 := Zn BK111.out 2))
      have n0_ : Aside0 ((((w43.setCell ⟨gb111, 0, none⟩ (.string ((rd_T74 l0_0 x3_1).f0))).setCell ⟨gb111, 1, none⟩ (.slice A110_1 ((rd_T74 l0_0 x3_1).f1).length c110_1)).setCell ⟨gb111, 2, none⟩ (.slice A110_2 ((rd_T74 l0_0 x3_1).f2).length c110_2)).heap[gb109]? = some (.cells #[.slice (some ad110) l0_0.length c0_0] 29 (0, 0))) := ⟨by (with_reducible repeat (first | refine Za ?_ _ | refine Zb ?_ | refine blk_alloc ?_ _)); refine blk_far ?_ NB109_111.out _; (with_reducible repeat (first | refine Za ?_ _ | refine Zb ?_ | refine blk_alloc ?_ _)); refine blk_far ?_ NB109_111.out _; (with_reducible repeat (first | refine Za ?_ _ | refine Zb ?_ | refine blk_alloc ?_ _)); refine blk_far ?_ NB109_111.out _; (with_reducible repeat (first | refine Za ?_ _ | refine Zb ?_ | refine blk_alloc ?_ _)); exact BK109.out⟩
      have n1_ : Aside0 ((((w43.setCell ⟨gb111, 0, none⟩ (.string ((rd_T74 l0_0 x3_1).f0))).setCell ⟨gb111, 1, none⟩ (.slice A110_1 ((rd_T74 l0_0 x3_1).f1).length c110_1)).setCell ⟨gb111, 2, none⟩ (.slice A110_2 ((rd_T74 l0_0 x3_1).f2).length c110_2)).heap[gb111]? = some (.cells #[.string ((rd_T74 l0_0 x3_1).f0), .slice A110_1 ((rd_T74 l0_0 x3_1).f1).length c110_1, .slice A110_2 ((rd_T74 l0_0 x3_1).f2).length c110_2] 74 (0, 0))) := ⟨by (with_reducible repeat (first | refine Za ?_ _ | refine Zb ?_ | refine blk_alloc ?_ _)); refine blk_put (cs := #[.string ((rd_T74 l0_0 x3_1).f0), .slice A110_1 ((rd_T74 l0_0 x3_1).f1).length c110_1, .slice none 0 0]) ?_ 2 _ rfl; (with_reducible repeat (first | refine Za ?_ _ | refine Zb ?_ | refine blk_alloc ?_ _)); refine blk_put (cs := #[.string ((rd_T74 l0_0 x3_1).f0), .slice none 0 0, .slice none 0 0]) ?_ 1 _ rfl; (with_reducible repeat (first | refine Za ?_ _ | refine Zb ?_ | refine blk_alloc ?_ _)); refine blk_put (cs := #[.string (⟨#[]⟩ : ByteArray), .slice none 0 0, .slice none 0 0]) ?_ 0 _ rfl; (with_reducible repeat (first | refine Za ?_ _ | refine Zb ?_ | refine blk_alloc ?_ _)); exact BK111.out⟩
      have n2_ : Aside0 (Below w.heap.size w (((w43.setCell ⟨gb111, 0, none⟩ (.string ((rd_T74 l0_0 x3_1).f0))).setCell ⟨gb111, 1, none⟩ (.slice A110_1 ((rd_T74 l0_0 x3_1).f1).length c110_1)).setCell ⟨gb111, 2, none⟩ (.slice A110_2 ((rd_T74 l0_0 x3_1).f2).length c110_2))) := ⟨by repeat (first | (with_reducible first | exact HB.out | apply Zf | apply Zd | apply Ze | refine Zg ?_ GE109.out | refine Zg ?_ GE111.out) | exact HB.out)⟩
      (try clear BK109)
      (try clear BK111)
      (try clear HB)
      generalize (((w43.setCell ⟨gb111, 0, none⟩ (.string ((rd_T74 l0_0 x3_1).f0))).setCell ⟨gb111, 1, none⟩ (.slice A110_1 ((rd_T74 l0_0 x3_1).f1).length c110_1)).setCell ⟨gb111, 2, none⟩ (.slice A110_2 ((rd_T74 l0_0 x3_1).f2).length c110_2)) = w46 at n0_ n1_ n2_ ⊢
      have BK109 := n0_
      have BK111 := n1_
      have HB := n2_
      clear n0_ n1_ n2_
      have n0_ := Zh (Zb BK109.out)
      have n1_ := Zh (Zb BK111.out)
      have n2_ := Zh (Ze HB.out)
      clear BK109
      clear BK111
      clear HB
      have BK109 := n0_
      have BK111 := n1_
      have HB := n2_
      clear n0_ n1_ n2_
      refine start_ (n := 36) (S := fun w' => w'.cell? ⟨gb111, 0, none⟩ = some (.string ((rd_T74 l0_0 x3_1).f0)) ∧ w'.cell? ⟨gb111, 1, none⟩ = some (.slice A110_1 ((rd_T74 l0_0 x3_1).f1).length c110_1) ∧ w'.cell? ⟨gb111, 2, none⟩ = some (.slice A110_2 ((rd_T74 l0_0 x3_1).f2).length c110_2)) (ds := []) #[false, false, false, false, false, false, false, false, false, false, false, false, false, false, false, false, false, false, false, false, false, false, false, false, false, false, false, false, false, false, false, false, false, false, false, false] (by kernel_rfl) rfl rfl ⟨(blk_cell BK111.out 0).trans rfl, (blk_cell BK111.out 1).trans rfl, (blk_cell BK111.out 2).trans rfl⟩ (fun hHeld => ?_); refine with_tabW spec_DiskOk.tab7 spec_DiskOk.bits7 (fun HT_ HW_ => ?_)
      generalize w46.drew = w47 at BK109 BK111 HB hHeld ⊢
      refine SQ.pu 0 21 HT_ ?_
      refine SQ.tk 1 22 HT_ HW_ hHeld ?_
      refine one_ (i := 2) (N := some 23) #[true, true, true, false, false, false, false, false, false, false, false, false, false, false, false, false, false, false, false, false, false, false, false, false, false, false, false, false, false, false, false, false, false, false, false, false] rfl rfl (one_of HT_.out (by kernel_rfl)) (by decide) (fun K hK => ?_)
      refine goes_ Tryd.func57 (by kernel_rfl) rfl #[.string ((rd_T74 l0_0 x3_1).f0)] (by rfl) rfl rfl (by (try simp only [List.map_toArray, List.map_cons, List.map_nil]); first | done | rfl | (simp only [List.length_drop, List.length_take]; rfl)) ?_
      with_reducible refine (spec_l01Name.calls k1 ((rd_T74 l0_0 x3_1).f0) true _ A9.out).mono ?_
      rintro e w' ⟨rfl, ⟨nd, rfl⟩⟩
      refine ⟨_, rfl, ?_⟩
      refine hK.out _ _ ⟨(blk_cell BK111.out 0).trans rfl, (blk_cell BK111.out 1).trans rfl, (blk_cell BK111.out 2).trans rfl⟩ (fun hHeld => ?_)
      clear hK K
      refine norm_ (a' := ?_) ?_ ?_
      rotate_left
      ·
       show Act.put _ (some 23) _ = _
       simp only [Act.put, List.setIfInBounds_toArray, List.set_cons_zero, List.set_cons_succ, i64_w, i32_w]
       rfl
      refine SQ.pu 3 24 HT_ ?_
      refine SQ.pu 4 25 HT_ ?_
      refine SQ.pu 5 26 HT_ ?_
      refine SQ.tk 6 27 HT_ HW_ hHeld ?_
      refine SQ.pu 7 28 HT_ ?_
      refine SQ.pu 8 29 HT_ ?_
      refine SQ.pu 9 30 HT_ ?_
      refine SQ.pu 10 31 HT_ ?_
      refine SQ.pu 11 32 HT_ ?_
      refine SQ.pu 14 35 HT_ ?_
      refine SQ.tk 12 33 HT_ HW_ hHeld ?_
      refine SQ.pu 13 34 HT_ ?_
      refine SQ.tk 15 36 HT_ HW_ hHeld ?_
      refine SQ.pu 16 37 HT_ ?_
      refine SQ.pu 17 38 HT_ ?_
      refine SQ.pu 18 39 HT_ ?_
      refine SQ.pu 19 40 HT_ ?_
      refine SQ.pu 20 41 HT_ ?_
      refine SQ.pu 21 42 HT_ ?_
      refine SQ.pu 22 43 HT_ ?_
      refine SQ.pu 23 44 HT_ ?_
      refine SQ.of 24 45 HT_ ?_
      refine SQ.of 25 46 HT_ ?_
      refine SQ.of 26 47 HT_ ?_
      refine SQ.of 27 48 HT_ ?_
      refine SQ.of 28 49 HT_ ?_
      refine SQ.of 29 50 HT_ ?_
      refine SQ.of 30 51 HT_ ?_
      refine SQ.of 31 52 HT_ ?_
      refine SQ.of 32 53 HT_ ?_
      refine SQ.of 33 54 HT_ ?_
      refine SQ.pu 34 55 HT_ ?_
      refine SQ.pu 35 56 HT_ ?_
      refine done_ (done_of HT_.out (by kernel_rfl)) ?_
      try go_wp2
      go_roundg k1
      case measure => have := HK1.out; omega
      case rel => exact ⟨(wrap64 (x3_1 + 1)), (by first | rfl | (simp; done) | (simp [*]; done)), H', ⟨by have := HK1.out; omega⟩, ⟨by (with_reducible repeat (first | refine Za ?_ _ | refine Zb ?_ | refine blk_alloc ?_ _)); exact BK109.out⟩, ⟨by repeat (first | (with_reducible first | exact HB.out | apply Zf | apply Zd | apply Ze | refine Zg ?_ GE109.out | refine Zg ?_ GE111.out) | exact HB.out)⟩⟩
     replace c10 := Bool.eq_false_iff.mpr c10
     subst c10
     have H1 : (some false) = some r := by rw [if_neg (show ¬ (false = true) by decide)] at H; exact H
     clear H
     have H := H1
     clear H1
     obtain rfl := Option.some.inj H
     have hcz48_0 : wr.cell? ⟨gb109, 0, none⟩ = some (.slice A0_0 l0_0.length c0_0) := (blk_cell BK109.out 0).trans rfl
     have hfz48_0 := Zn BK109.out 0
     have p110 : 0 ≤ (x3_1 : Int) := Zo
     have q110 : x3_1 < (l0_0.length : Int) := Zo
     obtain ⟨ad110, A110_1, c110_1, A110_2, c110_2, e110, hx110_0, hx110_1, hx110_2, hl110_1, hi110_1, hl110_2, hi110_2⟩ := at_T74 HR0_0.out x3_1 p110 q110
     cases e110
     replace hx110_0 := Zc HB.out hx110_0
     replace hx110_1 := Zc HB.out hx110_1
     replace hx110_2 := Zc HB.out hx110_2
     have HR110_1 := Zh hi110_1
     have HC110_1 := Zh hl110_1
     clear hi110_1 hl110_1
     have HR110_2 := Zh hi110_2
     have HC110_2 := Zh hl110_2
     clear hi110_2 hl110_2
     replace p110 := eq_true p110
     replace q110 := eq_true q110
     try go_wp2_with (first | ((with_reducible refine gate_dst (N := 4) rfl ?_); (try (refine gate_guard (by rfl) ?_; dsimp only)); refine box_event ?hg (N := 4) ?hd (cs := #[.string (⟨#[]⟩ : ByteArray), .slice none 0 0, .slice none 0 0]) (t := 74) ?hr ?_; (case hd => rfl); (case hg => rfl); (case hr => first | (go_simp; done) | (go_simp; rfl)); intro gb111 hg w49 hbox hb; have n0_ := Zh (Zm (g := gb109) (o := .cells #[.slice (some ad110) l0_0.length c0_0] 29 (0, 0)) Zk hb); have n1_ := Zh (Zl Zs hb); have n2_ := Zh (hbox); have n3_ := Zh ((by rw [hg]; exact (below_size Zs) : w.heap.size ≤ gb111)); have n4_ := Zh ((by rw [hg]; exact (below_size Zs) : w.heap.size ≤ gb111)); have n5_ := Zh ((by rw [hg]; exact Nat.ne_of_lt (blk_lt (g := gb109) (o := .cells #[.slice (some ad110) l0_0.length c0_0] 29 (0, 0)) Zk) : gb109 ≠ gb111)); have n6_ := Zh ((by rw [hg]; exact Nat.ne_of_gt (blk_lt (g := gb109) (o := .cells #[.slice (some ad110) l0_0.length c0_0] 29 (0, 0)) Zk) : gb111 ≠ gb109)); clear BK109; clear HB; have BK109 := n0_; have HB := n1_; have BK111 := n2_; have GW111 := n3_; have GE111 := n4_; have NB109_111 := n5_; have NB111_109 := n6_; clear n0_ n1_ n2_ n3_ n4_ n5_ n6_; clear hb hbox hg; have hnb50 := NB111_109.out; have hnc50 := NB109_111.out; have hcz51_0 : w49.cell? ⟨gb111, 0, none⟩ = some (.string (⟨#[]⟩ : ByteArray)) := (blk_cell BK111.out 0).trans rfl; have hcz51_1 : w49.cell? ⟨gb111, 1, none⟩ = some (.slice none 0 0) := (blk_cell BK111.out 1).trans rfl; have hcz51_2 : w49.cell? ⟨gb111, 2, none⟩ = some (.slice none 0 0) := (blk_cell BK111.out 2).trans rfl; have hfz51_0 := Zn BK111.out 0; have hfz51_1 := Zn BK111.out 1; have hfz51_2 := Zn BK111.out 2))
     have n0_ : Aside0 ((((w49.setCell ⟨gb111, 0, none⟩ (.string ((rd_T74 l0_0 x3_1).f0))).setCell ⟨gb111, 1, none⟩ (.slice A110_1 ((rd_T74 l0_0 x3_1).f1).length c110_1)).setCell ⟨gb111, 2, none⟩ (.slice A110_2 ((rd_T74 l0_0 x3_1).f2).length c110_2)).heap[gb109]? = some (.cells #[.slice (some ad110) l0_0.length c0_0] 29 (0, 0))) := ⟨by (with_reducible repeat (first | refine Za ?_ _ | refine Zb ?_ | refine blk_alloc ?_ _)); refine blk_far ?_ NB109_111.out _; (with_reducible repeat (first | refine Za ?_ _ | refine Zb ?_ | refine blk_alloc ?_ _)); refine blk_far ?_ NB109_111.out _; (with_reducible repeat (first | refine Za ?_ _ | refine Zb ?_ | refine blk_alloc ?_ _)); refine blk_far ?_ NB109_111.out _; (with_reducible repeat (first | refine Za ?_ _ | refine Zb ?_ | refine blk_alloc ?_ _)); exact BK109.out⟩
     have n1_ : Aside0 ((((w49.setCell ⟨gb111, 0, none⟩ (.string ((rd_T74 l0_0 x3_1).f0))).setCell ⟨gb111, 1, none⟩ (.slice A110_1 ((rd_T74 l0_0 x3_1).f1).length c110_1)).setCell ⟨gb111, 2, none⟩ (.slice A110_2 ((rd_T74 l0_0 x3_1).f2).length c110_2)).heap[gb111]? = some (.cells #[.string ((rd_T74 l0_0 x3_1).f0), .slice A110_1 ((rd_T74 l0_0 x3_1).f1).length c110_1, .slice A110_2 ((rd_T74 l0_0 x3_1).f2).length c110_2] 74 (0, 0))) := ⟨by (with_reducible repeat (first | refine Za ?_ _ | refine Zb ?_ | refine blk_alloc ?_ _)); refine blk_put (cs := #[.string ((rd_T74 l0_0 x3_1).f0), .slice A110_1 ((rd_T74 l0_0 x3_1).f1).length c110_1, .slice none 0 0]) ?_ 2 _ rfl; (with_reducible repeat (first | refine Za ?_ _ | refine Zb ?_ | refine blk_alloc ?_ _)); refine blk_put (cs := #[.string ((rd_T74 l0_0 x3_1).f0), .slice none 0 0, .slice none 0 0]) ?_ 1 _ rfl; (with_reducible repeat (first | refine Za ?_ _ | refine Zb ?_ | refine blk_alloc ?_ _)); refine blk_put (cs := #[.string (⟨#[]⟩ : ByteArray), .slice none 0 0, .slice none 0 0]) ?_ 0 _ rfl; (with_reducible repeat (first | refine Za ?_ _ | refine Zb ?_ | refine blk_alloc ?_ _)); exact BK111.out⟩
     have n2_ : Aside0 (Below w.heap.size w (((w49.setCell ⟨gb111, 0, none⟩ (.string ((rd_T74 l0_0 x3_1).f0))).setCell ⟨gb111, 1, none⟩ (.slice A110_1 ((rd_T74 l0_0 x3_1).f1).length c110_1)).setCell ⟨gb111, 2, none⟩ (.slice A110_2 ((rd_T74 l0_0 x3_1).f2).length c110_2))) := ⟨by repeat (first | (with_reducible first | exact HB.out | apply Zf | apply Zd | apply Ze | refine Zg ?_ GE109.out | refine Zg ?_ GE111.out) | exact HB.out)⟩
     (try clear BK109)
     (try clear BK111)
     (try clear HB)
     generalize (((w49.setCell ⟨gb111, 0, none⟩ (.string ((rd_T74 l0_0 x3_1).f0))).setCell ⟨gb111, 1, none⟩ (.slice A110_1 ((rd_T74 l0_0 x3_1).f1).length c110_1)).setCell ⟨gb111, 2, none⟩ (.slice A110_2 ((rd_T74 l0_0 x3_1).f2).length c110_2)) = w52 at n0_ n1_ n2_ ⊢
     have BK109 := n0_
     have BK111 := n1_
     have HB := n2_
     clear n0_ n1_ n2_
     have n0_ := Zh (Zb BK109.out)
     have n1_ := Zh (Zb BK111.out)
     have n2_ := Zh (Ze HB.out)
     clear BK109
     clear BK111
     clear HB
     have BK109 := n0_
     have BK111 := n1_
     have HB := n2_
     clear n0_ n1_ n2_
     refine start_ (n := 36) (S := fun w' => w'.cell? ⟨gb111, 0, none⟩ = some (.string ((rd_T74 l0_0 x3_1).f0)) ∧ w'.cell? ⟨gb111, 1, none⟩ = some (.slice A110_1 ((rd_T74 l0_0 x3_1).f1).length c110_1) ∧ w'.cell? ⟨gb111, 2, none⟩ = some (.slice A110_2 ((rd_T74 l0_0 x3_1).f2).length c110_2)) (ds := []) #[false, false, false, false, false, false, false, false, false, false, false, false, false, false, false, false, false, false, false, false, false, false, false, false, false, false, false, false, false, false, false, false, false, false, false, false] (by kernel_rfl) rfl rfl ⟨(blk_cell BK111.out 0).trans rfl, (blk_cell BK111.out 1).trans rfl, (blk_cell BK111.out 2).trans rfl⟩ (fun hHeld => ?_); refine with_tabW spec_DiskOk.tab7 spec_DiskOk.bits7 (fun HT_ HW_ => ?_)
     generalize w52.drew = w53 at BK109 BK111 HB hHeld ⊢
     refine SQ.pu 0 21 HT_ ?_
     refine SQ.tk 1 22 HT_ HW_ hHeld ?_
     refine one_ (i := 2) (N := some 23) #[true, true, true, false, false, false, false, false, false, false, false, false, false, false, false, false, false, false, false, false, false, false, false, false, false, false, false, false, false, false, false, false, false, false, false, false] rfl rfl (one_of HT_.out (by kernel_rfl)) (by decide) (fun K hK => ?_)
     refine goes_ Tryd.func57 (by kernel_rfl) rfl #[.string ((rd_T74 l0_0 x3_1).f0)] (by rfl) rfl rfl (by (try simp only [List.map_toArray, List.map_cons, List.map_nil]); first | done | rfl | (simp only [List.length_drop, List.length_take]; rfl)) ?_
     with_reducible refine (spec_l01Name.calls k1 ((rd_T74 l0_0 x3_1).f0) false _ A9.out).mono ?_
     rintro e w' ⟨rfl, ⟨nd, rfl⟩⟩
     refine ⟨_, rfl, ?_⟩
     refine hK.out _ _ ⟨(blk_cell BK111.out 0).trans rfl, (blk_cell BK111.out 1).trans rfl, (blk_cell BK111.out 2).trans rfl⟩ (fun hHeld => ?_)
     clear hK K
     refine norm_ (a' := ?_) ?_ ?_
     rotate_left
     ·
      show Act.put _ (some 23) _ = _
      simp only [Act.put, List.setIfInBounds_toArray, List.set_cons_zero, List.set_cons_succ, i64_w, i32_w]
      rfl
     refine SQ.pu 3 24 HT_ ?_
     refine SQ.pu 4 25 HT_ ?_
     refine SQ.of 5 26 HT_ ?_
     refine SQ.of 6 27 HT_ ?_
     refine SQ.of 7 28 HT_ ?_
     refine SQ.of 8 29 HT_ ?_
     refine SQ.pu 9 30 HT_ ?_
     refine SQ.pu 10 31 HT_ ?_
     refine SQ.of 11 32 HT_ ?_
     refine SQ.of 12 33 HT_ ?_
     refine SQ.of 13 34 HT_ ?_
     refine SQ.of 14 35 HT_ ?_
     refine SQ.of 15 36 HT_ ?_
     refine SQ.of 16 37 HT_ ?_
     refine SQ.of 17 38 HT_ ?_
     refine SQ.of 18 39 HT_ ?_
     refine SQ.pu 19 40 HT_ ?_
     refine SQ.pu 20 41 HT_ ?_
     refine SQ.of 21 42 HT_ ?_
     refine SQ.of 22 43 HT_ ?_
     refine SQ.of 23 44 HT_ ?_
     refine SQ.of 24 45 HT_ ?_
     refine SQ.of 25 46 HT_ ?_
     refine SQ.of 26 47 HT_ ?_
     refine SQ.of 27 48 HT_ ?_
     refine SQ.of 28 49 HT_ ?_
     refine SQ.of 29 50 HT_ ?_
     refine SQ.of 30 51 HT_ ?_
     refine SQ.of 31 52 HT_ ?_
     refine SQ.of 32 53 HT_ ?_
     refine SQ.of 33 54 HT_ ?_
     refine SQ.of 34 55 HT_ ?_
     refine SQ.pu 35 56 HT_ ?_
     refine done_ (done_of HT_.out (by kernel_rfl)) ?_
     try go_wp2
     go_ret
     exact ⟨by first | rfl | (simp [errW_none, errW_some] <;> rfl) | (simp [*, errW_none, errW_some] <;> rfl), by repeat (first | (with_reducible first | exact HB.out | apply Zf | apply Zd | apply Ze | refine Zg ?_ GE109.out | refine Zg ?_ GE111.out) | exact HB.out)⟩
    rw [if_neg c8] at H
    exact absurd H (by simp)
   rw [if_neg c7] at H
   have c7b0 : decide (x3_1 < (l0_0.length : Int)) = false := decide_eq_false c7
   clear c7
   obtain rfl := Option.some.inj H
   have hcz54_0 : wr.cell? ⟨gb109, 0, none⟩ = some (.slice A0_0 l0_0.length c0_0) := (blk_cell BK109.out 0).trans rfl
   have hfz54_0 := Zn BK109.out 0
   go_wp2
   go_ret
   exact ⟨by first | rfl | (simp [errW_none, errW_some] <;> rfl) | (simp [*, errW_none, errW_some] <;> rfl), by repeat (first | (with_reducible first | exact HB.out | apply Zf | apply Zd | apply Ze | refine Zg ?_ GE109.out) | exact HB.out)⟩
end Go.Proofs.YtmgeffgcihfpcaaDoor.F

namespace Go.Proofs.YtmgeffgcihfpcaaDoor.F
open Go.RowKit Go.Proofs.YtmgeffgcihfpcaaDoorW.PrintWords Go.Proofs.YtmgeffgcihfpcaaDoorW.PrintWords.Kd Go.Proofs.YtmgeffgcihfpcaaDoorW.PrintMore.Kd Go.Proofs.YtmgeffgcihfpcaaDoorW.PrintLast Go.Proofs.YtmgeffgcihfpcaaDoorW.PrintMore
attribute [local go_sem] max2_int min2_int max_two min_two max_three min_three max_four min_four   -- for this text's walks alone
set_option linter.unusedVariables false
set_option linter.unusedSimpArgs false
def spec_l01Bytes.l0 : Nat → List Int → List Int → Int → Option (List Int)
 | 0, _, _, _ => none
 | k + 1, x0, x3, x4 => if x4 < (x0.length : Int) then (if 0 ≤ x4 then (if x3.length < 140737488355328 then (spec_l01Bytes.l0 k x0 (x3 ++ [rd x0 x4]) (wrap64 (x4 + 1))) else (none)) else (none)) else (some x3)
def spec_l01Bytes.f (k : Nat) (l0 : List Int) : Option (List Int) := spec_l01Bytes.l0 k l0 (([] : List Int)) 0
set_option maxHeartbeats 8000000 in
set_option maxRecDepth 100000 in
theorem spec_l01Bytes.calls (k : Nat) (A0 : Option Addr) (c0 : Nat) (l0 : List Int) (r : List Int) (w : World) (hr0 : Kd.C (Kd.int .u8) w A0 l0.length l0) (hc0 : l0.length ≤ c0) (h : spec_l01Bytes.f k l0 = some r) :
  Calls Tryd.prog 93 #[.slice A0 l0.length c0] w fun e w' => ∃ v0_ : Value, e = .returned (v0_) ∧ Kd.R (Kd.int .u8) 5 w' w.heap.size (fun _ => True) v0_ r ∧ Below w.heap.size w w' := by
 have HR0 := Zh hr0
 have HC0 := Zh hc0
 clear hr0 hc0
 have HB := Zh (Below.refl w.heap.size w)
 have H : (spec_l01Bytes.l0 k l0 (([] : List Int)) 0) = some r := h
 clear h
 obtain ⟨y184, hy184⟩ : ∃ y_ : List Int, y_ = (([] : List Int)) := ⟨_, rfl⟩
 replace H : (spec_l01Bytes.l0 k l0 y184 0) = some r := by first | (rw [hy184]; with_reducible exact H) | (have H2_ := (Option.bind_some _ _).symm.trans H; rw [hy184]; with_reducible exact H2_) | (have H2_ := (Option.bind_some _ _).symm.trans H; with_reducible exact H2_) | with_reducible exact H | (rw [hy184]; exact H) | exact H
 have Ny184 := Zh hy184
 clear hy184
 have H' := Zh H
 clear H
 go_enter Tryd.func93, Tryd.ntmps93
 go_wp2_with (first | ((with_reducible refine gate_dst (N := 5) rfl ?_); refine R_lit (Kd.int .u8) _ 5 ?hg (N := 5) ?hd (xs := ([] : List Int)) (inner := []) (ok := fun _ => True) (okp := fun _ => True) ?hr ?hp (fun _ hk => hk) trivial (Below.refl _ _) (Nat.le_refl _) (by simp) ?_; (case hd => rfl); (case hg => rfl); (case hr => first | (go_simp; done) | (go_simp; rfl)); (case hp => exact (Reps.none _ _)); intro v185 w2 ho3 hb hg_ hnew_; clear hg_ hnew_; (first | rw [← Ny184.out] at ho3 | (simp only [Int.reduceToNat] at ho3; rw [← Ny184.out] at ho3)); have n0_ := Zh (R_lower ho3 (below_size Zs)); have n1_ := Zh (Zl Zs hb); clear HB; have HO186 := n0_; have HB := n1_; clear n0_ n1_; clear hb ho3))
 go_loopg [3, 4] k (fun kq v3 v4 w' => ∃ (x3_1 : List Int) (x4_1 : Int), v4 = .int .i64 x4_1 ∧ Aside0 (spec_l01Bytes.l0 kq l0 x3_1 x4_1 = some r) ∧ Aside0 (kq ≤ k) ∧ Aside0 (Kd.R (Kd.int .u8) 5 w' w.heap.size (fun _ => True) v3 x3_1) ∧ Aside0 (Below w.heap.size w w'))
 case atStart => exact ⟨(y184), (0), (by first | rfl | (simp; done) | (simp [*]; done)), H', ⟨Nat.le_refl _⟩, ⟨by (with_reducible repeat (first | apply R_alloc | apply R_drewN | apply R_drew)); exact HO186.out⟩, ⟨by repeat (first | (with_reducible first | exact HB.out | apply Zf | apply Zd | apply Ze) | exact HB.out)⟩⟩
 case round =>
  clear H'
  try clear p2
  obtain ⟨x3_1, x4_1, rfl, HA, HK1, HO_3, HB⟩ := hrel
  cases gk with
  | zero => exact absurd HA.out (by simp [spec_l01Bytes.l0])
  | succ k1 =>
   have H := HA.out
   clear HA
   simp only [spec_l01Bytes.l0] at H
   by_cases c4 : x4_1 < (l0.length : Int)
   ·
    rw [if_pos c4] at H
    have c4b0 : decide (x4_1 < (l0.length : Int)) = true := decide_eq_true c4
    clear c4
    by_cases c5 : 0 ≤ x4_1
    ·
     rw [if_pos c5] at H
     have c5b0 : decide (0 ≤ x4_1) = true := decide_eq_true c5
     clear c5
     by_cases c6 : x3_1.length < 140737488355328
     ·
      rw [if_pos c6] at H
      have LMc6 := Zh c6
      clear c6
      obtain ⟨y188, hy188⟩ : ∃ y_ : List Int, y_ = (x3_1 ++ [rd l0 x4_1]) := ⟨_, rfl⟩
      replace H : (spec_l01Bytes.l0 k1 l0 y188 (wrap64 (x4_1 + 1))) = some r := by first | (rw [hy188]; with_reducible exact H) | (have H2_ := (Option.bind_some _ _).symm.trans H; rw [hy188]; with_reducible exact H2_) | (have H2_ := (Option.bind_some _ _).symm.trans H; with_reducible exact H2_) | with_reducible exact H | (rw [hy188]; exact H) | exact H
      have Ny188 := Zh hy188
      clear hy188
      have H' := Zh H
      clear H
      have p187 : 0 ≤ (x4_1 : Int) := Zo
      have q187 : x4_1 < (l0.length : Int) := Zo
      obtain ⟨ad187, e187, hx187_0⟩ := Kd.at_int HR0.out x4_1 p187 q187
      cases e187
      replace hx187_0 := Zc HB.out hx187_0
      replace p187 := eq_true p187
      replace q187 := eq_true q187
      go_wp2_with (first | ((with_reducible refine gate_builtin (b := .append) (xs := #[.tmp 12, .tmp 17]) rfl ?_); at_builtin; refine R_append (Kd.int .u8) (w0 := w) w.heap.size rfl (.tmp 12) (.tmp 17) 33 5 (.int .u8 0) 1 rfl Tryd.underlying33 info5 rfl (by decide) (by omega) u3 x3_1 (rd l0 x4_1) [.int .u8 (rd l0 x4_1)] (fun _ => True) (fun _ => False) rfl rfl ?aP (fun _ hk => hk.elim) ?aF ?aO ?aB ?aS ?aL ?_; (case aP => exact rfl); (case aB => exact Zs); (case aF => exact (fun _ _ => trivial)); (case aO => exact (by (with_reducible repeat (first | apply R_alloc | apply R_drewN | apply R_drew)); exact HO_3.out)); (case aS => exact (below_size Zs)); (case aL => have := LMc6.out; omega); intro v189 w7 ho hb hg hat; rw [← Ny188.out] at ho; have n0_ := Zh (hb); have n1_ := Zh (ho); clear HB; clear HO_3; have HB := n0_; have HO190 := n1_; clear n0_ n1_; clear ho hb hg hat))
      go_roundg k1
      case measure => have := HK1.out; omega
      case rel => exact ⟨(y188), (wrap64 (x4_1 + 1)), (by first | rfl | (simp; done) | (simp [*]; done)), H', ⟨by have := HK1.out; omega⟩, ⟨by (with_reducible repeat (first | apply R_alloc | apply R_drewN | apply R_drew)); exact HO190.out⟩, ⟨by repeat (first | (with_reducible first | exact HB.out | apply Zf | apply Zd | apply Ze) | exact HB.out)⟩⟩
     rw [if_neg c6] at H
     exact absurd H (by simp)
    rw [if_neg c5] at H
    exact absurd H (by simp)
   rw [if_neg c4] at H
   have c4b0 : decide (x4_1 < (l0.length : Int)) = false := decide_eq_false c4
   clear c4
   obtain rfl := Option.some.inj H
   go_wp2
   go_ret
   exact ⟨_, by first | rfl | (simp [errW_none, errW_some] <;> rfl) | (simp [*, errW_none, errW_some] <;> rfl), by (with_reducible repeat (first | apply R_alloc | apply R_drewN | apply R_drew)); exact HO_3.out, by repeat (first | (with_reducible first | exact HB.out | apply Zf | apply Zd | apply Ze) | exact HB.out)⟩
def spec_l01Join.l0 : Nat → List Int → List Int → Int → Option (List Int)
 | 0, _, _, _ => none
 | k + 1, x1, x5, x6 => if x6 < (x1.length : Int) then (if 0 ≤ x6 then (if x5.length < 140737488355328 then (spec_l01Join.l0 k x1 (x5 ++ [rd x1 x6]) (wrap64 (x6 + 1))) else (none)) else (none)) else (some x5)
def spec_l01Join.f (k : Nat) (l0 : List Int) (l1 : List Int) : Option (List Int) := (spec_l01Bytes.f k l0).bind fun t191 => (spec_l01Join.l0 k l1 t191 0)
set_option maxHeartbeats 8000000 in
set_option maxRecDepth 100000 in
theorem spec_l01Join.calls (k : Nat) (A0 : Option Addr) (c0 : Nat) (l0 : List Int) (A1 : Option Addr) (c1 : Nat) (l1 : List Int) (r : List Int) (w : World) (hr0 : Kd.C (Kd.int .u8) w A0 l0.length l0) (hc0 : l0.length ≤ c0) (hr1 : Kd.C (Kd.int .u8) w A1 l1.length l1) (hc1 : l1.length ≤ c1) (h : spec_l01Join.f k l0 l1 = some r) :
  Calls Tryd.prog 62 #[.slice A0 l0.length c0, .slice A1 l1.length c1] w fun e w' => ∃ v0_ : Value, e = .returned (v0_) ∧ Kd.R (Kd.int .u8) 5 w' w.heap.size (fun _ => True) v0_ r ∧ Below w.heap.size w w' := by
 have HR0 := Zh hr0
 have HC0 := Zh hc0
 clear hr0 hc0
 have HR1 := Zh hr1
 have HC1 := Zh hc1
 clear hr1 hc1
 have HB := Zh (Below.refl w.heap.size w)
 have H : ((spec_l01Bytes.f k l0).bind fun t191 => (spec_l01Join.l0 k l1 t191 0)) = some r := h
 clear h
 replace H := Option.bind_eq_some_iff.mp H
 obtain ⟨t191, A30, H⟩ := H
 replace H : (spec_l01Join.l0 k l1 t191 0) = some r := H
 have A3 := Zh A30
 clear A30
 have H' := Zh H
 clear H
 go_enter Tryd.func62, Tryd.ntmps62
 go_wp2_with (first | ((with_reducible refine gate_callee (f := 93) rfl ?_); refine goesL_ (some 8) rfl rfl Tryd.func93 (by kernel_rfl) rfl #[.slice A0 l0.length c0] rfl (by (try simp only [List.map_toArray, List.map_cons, List.map_nil]); first | done | rfl | (simp only [List.length_drop, List.length_take]; rfl)) ?_; (with_reducible refine (spec_l01Bytes.calls k _ _ l0 t191 _ ?side1 ?side2 A3.out).mono ?_); (case side1 => repeat (first | exact HR0.out | (with_reducible refine C_alloc ?_ _) | (with_reducible refine C_drewN ?_ _) | (with_reducible refine C_drew ?_))); (case side2 => exact HC0.out); rintro e w4 ⟨v192, rfl, ho0, hb⟩; refine ⟨_, rfl, ?_⟩; have n0_ := Zh (R_lower ho0 (below_size Zs)); have n1_ := Zh (Zl Zs hb); clear HB; have HO193 := n0_; have HB := n1_; clear n0_ n1_; (try clear hb); (try clear hb2); (try clear hk); (try clear hi); (try clear ho0)))
 go_loopg [5, 6] k (fun kq v5 v6 w' => ∃ (x5_1 : List Int) (x6_1 : Int), v6 = .int .i64 x6_1 ∧ Aside0 (spec_l01Join.l0 kq l1 x5_1 x6_1 = some r) ∧ Aside0 (kq ≤ k) ∧ Aside0 (Kd.R (Kd.int .u8) 5 w' w.heap.size (fun _ => True) v5 x5_1) ∧ Aside0 (Below w.heap.size w w'))
 case atStart => exact ⟨(t191), (0), (by first | rfl | (simp; done) | (simp [*]; done)), H', ⟨Nat.le_refl _⟩, ⟨by (with_reducible repeat (first | apply R_alloc | apply R_drewN | apply R_drew)); exact HO193.out⟩, ⟨by repeat (first | (with_reducible first | exact HB.out | apply Zf | apply Zd | apply Ze) | exact HB.out)⟩⟩
 case round =>
  clear H'
  try clear c1
  try clear p2
  obtain ⟨x5_1, x6_1, rfl, HA, HK1, HO_5, HB⟩ := hrel
  cases gk with
  | zero => exact absurd HA.out (by simp [spec_l01Join.l0])
  | succ k1 =>
   have H := HA.out
   clear HA
   simp only [spec_l01Join.l0] at H
   by_cases c5 : x6_1 < (l1.length : Int)
   ·
    rw [if_pos c5] at H
    have c5b0 : decide (x6_1 < (l1.length : Int)) = true := decide_eq_true c5
    clear c5
    by_cases c6 : 0 ≤ x6_1
    ·
     rw [if_pos c6] at H
     have c6b0 : decide (0 ≤ x6_1) = true := decide_eq_true c6
     clear c6
     by_cases c7 : x5_1.length < 140737488355328
     ·
      rw [if_pos c7] at H
      have LMc7 := Zh c7
      clear c7
      obtain ⟨y195, hy195⟩ : ∃ y_ : List Int, y_ = (x5_1 ++ [rd l1 x6_1]) := ⟨_, rfl⟩
      replace H : (spec_l01Join.l0 k1 l1 y195 (wrap64 (x6_1 + 1))) = some r := by first | (rw [hy195]; with_reducible exact H) | (have H2_ := (Option.bind_some _ _).symm.trans H; rw [hy195]; with_reducible exact H2_) | (have H2_ := (Option.bind_some _ _).symm.trans H; with_reducible exact H2_) | with_reducible exact H | (rw [hy195]; exact H) | exact H
      have Ny195 := Zh hy195
      clear hy195
      have H' := Zh H
      clear H
      have p194 : 0 ≤ (x6_1 : Int) := Zo
      have q194 : x6_1 < (l1.length : Int) := Zo
      obtain ⟨ad194, e194, hx194_0⟩ := Kd.at_int HR1.out x6_1 p194 q194
      cases e194
      replace hx194_0 := Zc HB.out hx194_0
      replace p194 := eq_true p194
      replace q194 := eq_true q194
      go_wp2_with (first | ((with_reducible refine gate_builtin (b := .append) (xs := #[.tmp 15, .tmp 20]) rfl ?_); at_builtin; refine R_append (Kd.int .u8) (w0 := w) w.heap.size rfl (.tmp 15) (.tmp 20) 33 5 (.int .u8 0) 1 rfl Tryd.underlying33 info5 rfl (by decide) (by omega) u5 x5_1 (rd l1 x6_1) [.int .u8 (rd l1 x6_1)] (fun _ => True) (fun _ => False) rfl rfl ?aP (fun _ hk => hk.elim) ?aF ?aO ?aB ?aS ?aL ?_; (case aP => exact rfl); (case aB => exact Zs); (case aF => exact (fun _ _ => trivial)); (case aO => exact (by (with_reducible repeat (first | apply R_alloc | apply R_drewN | apply R_drew)); exact HO_5.out)); (case aS => exact (below_size Zs)); (case aL => have := LMc7.out; omega); intro v196 w8 ho hb hg hat; rw [← Ny195.out] at ho; have n0_ := Zh (hb); have n1_ := Zh (ho); clear HB; clear HO_5; have HB := n0_; have HO197 := n1_; clear n0_ n1_; clear ho hb hg hat))
      go_roundg k1
      case measure => have := HK1.out; omega
      case rel => exact ⟨(y195), (wrap64 (x6_1 + 1)), (by first | rfl | (simp; done) | (simp [*]; done)), H', ⟨by have := HK1.out; omega⟩, ⟨by (with_reducible repeat (first | apply R_alloc | apply R_drewN | apply R_drew)); exact HO197.out⟩, ⟨by repeat (first | (with_reducible first | exact HB.out | apply Zf | apply Zd | apply Ze) | exact HB.out)⟩⟩
     rw [if_neg c7] at H
     exact absurd H (by simp)
    rw [if_neg c6] at H
    exact absurd H (by simp)
   rw [if_neg c5] at H
   have c5b0 : decide (x6_1 < (l1.length : Int)) = false := decide_eq_false c5
   clear c5
   obtain rfl := Option.some.inj H
   go_wp2
   go_ret
   exact ⟨_, by first | rfl | (simp [errW_none, errW_some] <;> rfl) | (simp [*, errW_none, errW_some] <;> rfl), by (with_reducible repeat (first | apply R_alloc | apply R_drewN | apply R_drew)); exact HO_5.out, by repeat (first | (with_reducible first | exact HB.out | apply Zf | apply Zd | apply Ze) | exact HB.out)⟩
mutual
def spec_Torn.l0 : Nat → List Int → Int → Int → List Int → Int → Option (List Int)
 | 0, _, _, _, _, _ => none
 | k + 1, x0, x1, x2, x7, x8 => if x8 < (x0.length : Int) then (spec_Torn.j1 k x0 x1 x2 x7 x8 (decide (x8 < x1))) else (spec_Torn.j1 k x0 x1 x2 x7 x8 false)
def spec_Torn.j1 : Nat → List Int → Int → Int → List Int → Int → Bool → Option (List Int)
 | 0, _, _, _, _, _, _ => none
 | k + 1, x0, x1, x2, x7, x8, x22 => if x22 = true then (if 0 ≤ x8 then (if x8 < (x0.length : Int) then (if x8 = x2 then (if x7.length < 140737488355328 then (spec_Torn.l0 k x0 x1 x2 (x7 ++ [(255 - (rd x0 x8)) % 256]) (wrap64 (x8 + 1))) else (none)) else (if x7.length < 140737488355328 then (spec_Torn.l0 k x0 x1 x2 (x7 ++ [rd x0 x8]) (wrap64 (x8 + 1))) else (none))) else (none)) else (none)) else (some x7)
end
def spec_Torn.f (k : Nat) (l0 : List Int) (a1 : Int) (a2 : Int) : Option (List Int) := if (l0.length : Int) > 20000 then (some ([] : List Int)) else (spec_Torn.l0 k l0 a1 a2 (([] : List Int)) 0)
set_option maxHeartbeats 8000000 in
set_option maxRecDepth 100000 in
theorem spec_Torn.calls (k : Nat) (A0 : Option Addr) (c0 : Nat) (l0 : List Int) (a1 : Int) (a2 : Int) (r : List Int) (w : World) (hr0 : Kd.C (Kd.int .u8) w A0 l0.length l0) (hc0 : l0.length ≤ c0) (h : spec_Torn.f k l0 a1 a2 = some r) :
  Calls Tryd.prog 74 #[.slice A0 l0.length c0, .int .i64 a1, .int .i64 a2] w fun e w' => ∃ v0_ : Value, e = .returned (v0_) ∧ Kd.R (Kd.int .u8) 5 w' w.heap.size (fun _ => True) v0_ r ∧ Below w.heap.size w w' := by
 have HR0 := Zh hr0
 have HC0 := Zh hc0
 clear hr0 hc0
 have HB := Zh (Below.refl w.heap.size w)
 have H : (if (l0.length : Int) > 20000 then (some ([] : List Int)) else (spec_Torn.l0 k l0 a1 a2 (([] : List Int)) 0)) = some r := h
 clear h
 by_cases c4 : (l0.length : Int) > 20000
 ·
  rw [if_pos c4] at H
  have c4b0 : decide (20000 < (l0.length : Int)) = true := decide_eq_true c4
  have c4b1 : decide (20000 < l0.length) = true := decide_eq_true (by omega)
  clear c4
  obtain rfl := Option.some.inj H
  go_enter Tryd.func74, Tryd.ntmps74
  go_wp2
  go_ret
  exact ⟨_, by first | rfl | (simp [errW_none, errW_some] <;> rfl) | (simp [*, errW_none, errW_some] <;> rfl), by first | exact R_nil _ _ _ _ _ | exact N_nil _ _ _ _ _ | exact V_nil _ _ _ _ _ | exact Q_nil _ _ _ _ _ | exact S_nil _ _ _ _ _, by repeat (first | (with_reducible first | exact HB.out | apply Zf | apply Zd | apply Ze) | exact HB.out)⟩
 rw [if_neg c4] at H
 have c4b0 : decide (20000 < (l0.length : Int)) = false := decide_eq_false c4
 have c4b1 : decide (20000 < l0.length) = false := decide_eq_false (by omega)
 clear c4
 obtain ⟨y517, hy517⟩ : ∃ y_ : List Int, y_ = (([] : List Int)) := ⟨_, rfl⟩
 replace H : (spec_Torn.l0 k l0 a1 a2 y517 0) = some r := by first | (rw [hy517]; with_reducible exact H) | (have H2_ := (Option.bind_some _ _).symm.trans H; rw [hy517]; with_reducible exact H2_) | (have H2_ := (Option.bind_some _ _).symm.trans H; with_reducible exact H2_) | with_reducible exact H | (rw [hy517]; exact H) | exact H
 have Ny517 := Zh hy517
 clear hy517
 have H' := Zh H
 clear H
 go_enter Tryd.func74, Tryd.ntmps74
 go_wp2_with (first | ((with_reducible refine gate_dst (N := 13) rfl ?_); refine R_lit (Kd.int .u8) _ 5 ?hg (N := 13) ?hd (xs := ([] : List Int)) (inner := []) (ok := fun _ => True) (okp := fun _ => True) ?hr ?hp (fun _ hk => hk) trivial (Below.refl _ _) (Nat.le_refl _) (by simp) ?_; (case hd => rfl); (case hg => rfl); (case hr => first | (go_simp; done) | (go_simp; rfl)); (case hp => exact (Reps.none _ _)); intro v518 w5 ho6 hb hg_ hnew_; clear hg_ hnew_; (first | rw [← Ny517.out] at ho6 | (simp only [Int.reduceToNat] at ho6; rw [← Ny517.out] at ho6)); have n0_ := Zh (R_lower ho6 (below_size Zs)); have n1_ := Zh (Zl Zs hb); clear HB; have HO519 := n0_; have HB := n1_; clear n0_ n1_; clear hb ho6))
 go_loopg [7, 8] k (fun kq v7 v8 w' => ∃ (x7_1 : List Int) (x8_1 : Int), v8 = .int .i64 x8_1 ∧ Aside0 (spec_Torn.l0 kq l0 a1 a2 x7_1 x8_1 = some r) ∧ Aside0 (kq ≤ k) ∧ Aside0 (Kd.R (Kd.int .u8) 5 w' w.heap.size (fun _ => True) v7 x7_1) ∧ Aside0 (Below w.heap.size w w'))
 case atStart => exact ⟨(y517), (0), (by first | rfl | (simp; done) | (simp [*]; done)), H', ⟨Nat.le_refl _⟩, ⟨by (with_reducible repeat (first | apply R_alloc | apply R_drewN | apply R_drew)); exact HO519.out⟩, ⟨by repeat (first | (with_reducible first | exact HB.out | apply Zf | apply Zd | apply Ze) | exact HB.out)⟩⟩
 case round =>
  clear H'
  try clear p2
  try clear c4
  try clear c4b0
  try clear c4b1
  obtain ⟨x7_1, x8_1, rfl, HA, HK1, HO_7, HB⟩ := hrel
  cases gk with
  | zero => exact absurd HA.out (by simp [spec_Torn.l0])
  | succ k1 =>
   have H := HA.out
   clear HA
   simp only [spec_Torn.l0] at H
   have HC7 := Zh H
   clear H
   go_upto_region 5 with (fail)
   go_cut [22] (fun v22 wc => ∃ (kq : Nat) (x22_6 : Bool), v22 = .bool x22_6 ∧ Aside0 (spec_Torn.j1 kq l0 a1 a2 x7_1 x8_1 x22_6 = some r) ∧ Aside0 (kq ≤ k1) ∧ Aside0 (Kd.R (Kd.int .u8) 5 wc w.heap.size (fun _ => True) u7 x7_1) ∧ Aside0 (Below w.heap.size w wc))
   case first =>
    have H := HC7.out
    clear HC7
    by_cases c8 : x8_1 < (l0.length : Int)
    ·
     rw [if_pos c8] at H
     have c8b0 : decide (x8_1 < (l0.length : Int)) = true := decide_eq_true c8
     clear c8
     (first | rw [c8b0] | (simp only [i64_w, i32_w]; rw [c8b0]) | skip)
     have H' := Zh H
     clear H
     go_wp2
     go_meet
     case rel => exact ⟨_, (decide (x8_1 < a1)), (by first | rfl | (simp; done) | (simp [*]; done)), H', ⟨by have := HK1.out; first | omega | exact Nat.le_refl _⟩, ⟨by (with_reducible repeat (first | apply R_alloc | apply R_drewN | apply R_drew)); exact HO_7.out⟩, ⟨by repeat (first | (with_reducible first | exact HB.out | apply Zf | apply Zd | apply Ze) | exact HB.out)⟩⟩
    rw [if_neg c8] at H
    have c8b0 : decide (x8_1 < (l0.length : Int)) = false := decide_eq_false c8
    clear c8
    (first | rw [c8b0] | (simp only [i64_w, i32_w]; rw [c8b0]) | skip)
    have H' := Zh H
    clear H
    go_wp2
    go_meet
    case rel => exact ⟨_, (false), (by first | rfl | (simp; done) | (simp [*]; done)), H', ⟨by have := HK1.out; first | omega | exact Nat.le_refl _⟩, ⟨by (with_reducible repeat (first | apply R_alloc | apply R_drewN | apply R_drew)); exact HO_7.out⟩, ⟨by repeat (first | (with_reducible first | exact HB.out | apply Zf | apply Zd | apply Ze) | exact HB.out)⟩⟩
   case rest =>
    clear HC7
    try clear p2
    try clear c4
    try clear c4b0
    try clear c4b1
    try clear c7
    try clear c8
    try clear c8b0
    try clear p2
    obtain ⟨kq, x22_6, rfl, HA, HJ6, HO_7, HB⟩ := hcut
    cases kq with
    | zero => exact absurd HA.out (by simp [spec_Torn.j1])
    | succ kj6 =>
     have H := HA.out
     clear HA
     simp only [spec_Torn.j1] at H
     by_cases c9 : x22_6 = true
     ·
      subst c9
      have H1 : (if 0 ≤ x8_1 then (if x8_1 < (l0.length : Int) then (if x8_1 = a2 then (if x7_1.length < 140737488355328 then (spec_Torn.l0 kj6 l0 a1 a2 (x7_1 ++ [(255 - (rd l0 x8_1)) % 256]) (wrap64 (x8_1 + 1))) else (none)) else (if x7_1.length < 140737488355328 then (spec_Torn.l0 kj6 l0 a1 a2 (x7_1 ++ [rd l0 x8_1]) (wrap64 (x8_1 + 1))) else (none))) else (none)) else (none)) = some r := by rw [if_pos rfl] at H; exact H
      clear H
      have H := H1
      clear H1
      by_cases c10 : 0 ≤ x8_1
      ·
       rw [if_pos c10] at H
       have c10b0 : decide (0 ≤ x8_1) = true := decide_eq_true c10
       clear c10
       by_cases c11 : x8_1 < (l0.length : Int)
       ·
        rw [if_pos c11] at H
        have c11b0 : decide (x8_1 < (l0.length : Int)) = true := decide_eq_true c11
        clear c11
        by_cases c12 : x8_1 = a2
        ·
         rw [if_pos c12] at H
         have c12b0 : (x8_1 == a2) = true := beq_iff_eq.mpr c12
         have c12b1 : (x8_1 != a2) = false := bne_eq_false_iff_eq.mpr c12
         clear c12
         by_cases c13 : x7_1.length < 140737488355328
         ·
          rw [if_pos c13] at H
          have LMc13 := Zh c13
          clear c13
          obtain ⟨y521, hy521⟩ : ∃ y_ : List Int, y_ = (x7_1 ++ [(255 - (rd l0 x8_1)) % 256]) := ⟨_, rfl⟩
          replace H : (spec_Torn.l0 kj6 l0 a1 a2 y521 (wrap64 (x8_1 + 1))) = some r := by first | (rw [hy521]; with_reducible exact H) | (have H2_ := (Option.bind_some _ _).symm.trans H; rw [hy521]; with_reducible exact H2_) | (have H2_ := (Option.bind_some _ _).symm.trans H; with_reducible exact H2_) | with_reducible exact H | (rw [hy521]; exact H) | exact H
          have Ny521 := Zh hy521
          clear hy521
          have H' := Zh H
          clear H
          have p520 : 0 ≤ (x8_1 : Int) := Zo
          have q520 : x8_1 < (l0.length : Int) := Zo
          obtain ⟨ad520, e520, hx520_0⟩ := Kd.at_int HR0.out x8_1 p520 q520
          cases e520
          replace hx520_0 := Zc HB.out hx520_0
          replace p520 := eq_true p520
          replace q520 := eq_true q520
          go_wp2_with (first | ((with_reducible refine gate_builtin (b := .append) (xs := #[.tmp 34, .tmp 36]) rfl ?_); at_builtin; refine R_append (Kd.int .u8) (w0 := w) w.heap.size rfl (.tmp 34) (.tmp 36) 33 5 (.int .u8 0) 1 rfl Tryd.underlying33 info5 rfl (by decide) (by omega) u7 x7_1 ((255 - (rd l0 x8_1)) % 256) [.int .u8 ((255 - (rd l0 x8_1)) % 256)] (fun _ => True) (fun _ => False) rfl rfl ?aP (fun _ hk => hk.elim) ?aF ?aO ?aB ?aS ?aL ?_; (case aP => exact rfl); (case aB => exact Zs); (case aF => exact (fun _ _ => trivial)); (case aO => exact (by (with_reducible repeat (first | apply R_alloc | apply R_drewN | apply R_drew)); exact HO_7.out)); (case aS => exact (below_size Zs)); (case aL => have := LMc13.out; omega); intro v522 w14 ho hb hg hat; rw [← Ny521.out] at ho; have n0_ := Zh (hb); have n1_ := Zh (ho); clear HB; clear HO_7; have HB := n0_; have HO523 := n1_; clear n0_ n1_; clear ho hb hg hat))
          go_roundg kj6
          case measure => have := HK1.out; have := HJ6.out; omega
          case rel => exact ⟨(y521), (wrap64 (x8_1 + 1)), (by first | rfl | (simp; done) | (simp [*]; done)), H', ⟨by have := HK1.out; have := HJ6.out; omega⟩, ⟨by (with_reducible repeat (first | apply R_alloc | apply R_drewN | apply R_drew)); exact HO523.out⟩, ⟨by repeat (first | (with_reducible first | exact HB.out | apply Zf | apply Zd | apply Ze) | exact HB.out)⟩⟩
         rw [if_neg c13] at H
         exact absurd H (by simp)
        rw [if_neg c12] at H
        have c12b0 : (x8_1 == a2) = false := beq_eq_false_iff_ne.mpr c12
        have c12b1 : (x8_1 != a2) = true := bne_iff_ne.mpr c12
        by_cases c15 : x7_1.length < 140737488355328
        ·
         rw [if_pos c15] at H
         have LMc15 := Zh c15
         clear c15
         obtain ⟨y524, hy524⟩ : ∃ y_ : List Int, y_ = (x7_1 ++ [rd l0 x8_1]) := ⟨_, rfl⟩
         replace H : (spec_Torn.l0 kj6 l0 a1 a2 y524 (wrap64 (x8_1 + 1))) = some r := by first | (rw [hy524]; with_reducible exact H) | (have H2_ := (Option.bind_some _ _).symm.trans H; rw [hy524]; with_reducible exact H2_) | (have H2_ := (Option.bind_some _ _).symm.trans H; with_reducible exact H2_) | with_reducible exact H | (rw [hy524]; exact H) | exact H
         have Ny524 := Zh hy524
         clear hy524
         have H' := Zh H
         clear H
         have p520 : 0 ≤ (x8_1 : Int) := Zo
         have q520 : x8_1 < (l0.length : Int) := Zo
         obtain ⟨ad520, e520, hx520_0⟩ := Kd.at_int HR0.out x8_1 p520 q520
         cases e520
         replace hx520_0 := Zc HB.out hx520_0
         replace p520 := eq_true p520
         replace q520 := eq_true q520
         go_wp2_with (first | ((with_reducible refine gate_builtin (b := .append) (xs := #[.tmp 34, .tmp 36]) rfl ?_); at_builtin; refine R_append (Kd.int .u8) (w0 := w) w.heap.size rfl (.tmp 34) (.tmp 36) 33 5 (.int .u8 0) 1 rfl Tryd.underlying33 info5 rfl (by decide) (by omega) u7 x7_1 (rd l0 x8_1) [.int .u8 (rd l0 x8_1)] (fun _ => True) (fun _ => False) rfl rfl ?aP (fun _ hk => hk.elim) ?aF ?aO ?aB ?aS ?aL ?_; (case aP => exact rfl); (case aB => exact Zs); (case aF => exact (fun _ _ => trivial)); (case aO => exact (by (with_reducible repeat (first | apply R_alloc | apply R_drewN | apply R_drew)); exact HO_7.out)); (case aS => exact (below_size Zs)); (case aL => have := LMc15.out; omega); intro v525 w16 ho hb hg hat; rw [← Ny524.out] at ho; have n0_ := Zh (hb); have n1_ := Zh (ho); clear HB; clear HO_7; have HB := n0_; have HO526 := n1_; clear n0_ n1_; clear ho hb hg hat))
         go_roundg kj6
         case measure => have := HK1.out; have := HJ6.out; omega
         case rel => exact ⟨(y524), (wrap64 (x8_1 + 1)), (by first | rfl | (simp; done) | (simp [*]; done)), H', ⟨by have := HK1.out; have := HJ6.out; omega⟩, ⟨by (with_reducible repeat (first | apply R_alloc | apply R_drewN | apply R_drew)); exact HO526.out⟩, ⟨by repeat (first | (with_reducible first | exact HB.out | apply Zf | apply Zd | apply Ze) | exact HB.out)⟩⟩
        rw [if_neg c15] at H
        exact absurd H (by simp)
       rw [if_neg c11] at H
       exact absurd H (by simp)
      rw [if_neg c10] at H
      exact absurd H (by simp)
     replace c9 := Bool.eq_false_iff.mpr c9
     subst c9
     have H1 : (some x7_1) = some r := by rw [if_neg (show ¬ (false = true) by decide)] at H; exact H
     clear H
     have H := H1
     clear H1
     obtain rfl := Option.some.inj H
     go_wp2
     go_ret
     exact ⟨_, by first | rfl | (simp [errW_none, errW_some] <;> rfl) | (simp [*, errW_none, errW_some] <;> rfl), by (with_reducible repeat (first | apply R_alloc | apply R_drewN | apply R_drew)); exact HO_7.out, by repeat (first | (with_reducible first | exact HB.out | apply Zf | apply Zd | apply Ze) | exact HB.out)⟩
def spec_l03At.f (l0 : List Int) (a1 : Int) (a2 : Int) : Option (Int) := if a1 < (l0.length : Int) then (if 0 ≤ a1 then (some (rd l0 a1)) else (none)) else (some a2)
set_option maxHeartbeats 8000000 in
set_option maxRecDepth 100000 in
theorem spec_l03At.calls (A0 : Option Addr) (c0 : Nat) (l0 : List Int) (a1 : Int) (a2 : Int) (r : Int) (w : World) (hr0 : Kd.C (Kd.int .i64) w A0 l0.length l0) (hc0 : l0.length ≤ c0) (h : spec_l03At.f l0 a1 a2 = some r) :
  Calls Tryd.prog 75 #[.slice A0 l0.length c0, .int .i64 a1, .int .i64 a2] w fun e w' => e = .returned (.int .i64 r) ∧ Drawn0 w w' := by
 have HR0 := Zh hr0
 have HC0 := Zh hc0
 clear hr0 hc0
 have H : (if a1 < (l0.length : Int) then (if 0 ≤ a1 then (some (rd l0 a1)) else (none)) else (some a2)) = some r := h
 clear h
 by_cases c4 : a1 < (l0.length : Int)
 ·
  rw [if_pos c4] at H
  have c4b0 : decide (a1 < (l0.length : Int)) = true := decide_eq_true c4
  clear c4
  by_cases c5 : 0 ≤ a1
  ·
   rw [if_pos c5] at H
   have c5b0 : decide (0 ≤ a1) = true := decide_eq_true c5
   clear c5
   obtain rfl := Option.some.inj H
   have p527 : 0 ≤ (a1 : Int) := Zo
   have q527 : a1 < (l0.length : Int) := Zo
   obtain ⟨ad527, e527, hx527_0⟩ := Kd.at_int HR0.out a1 p527 q527
   cases e527
   replace p527 := eq_true p527
   replace q527 := eq_true q527
   go_enter Tryd.func75, Tryd.ntmps75
   go_wp2
   go_ret
   exact ⟨by first | rfl | (simp; done) | (simp [*]; done), by repeat (first | exact Drawn0.refl _ | apply Drawn0.step)⟩
  rw [if_neg c5] at H
  exact absurd H (by simp)
 rw [if_neg c4] at H
 have c4b0 : decide (a1 < (l0.length : Int)) = false := decide_eq_false c4
 clear c4
 obtain rfl := Option.some.inj H
 go_enter Tryd.func75, Tryd.ntmps75
 go_wp2
 go_ret
 exact ⟨by first | rfl | (simp; done) | (simp [*]; done), by repeat (first | exact Drawn0.refl _ | apply Drawn0.step)⟩
end Go.Proofs.YtmgeffgcihfpcaaDoor.F

namespace Go.Proofs.YtmgeffgcihfpcaaDoor.F
open Go.Proofs.YtmgeffgcihfpcaaDoor
open Go.RowKit Go.Proofs.YtmgeffgcihfpcaaDoorW.PrintWords Go.Proofs.YtmgeffgcihfpcaaDoorW.PrintWords.Kd Go.Proofs.YtmgeffgcihfpcaaDoorW.PrintMore.Kd Go.Proofs.YtmgeffgcihfpcaaDoorW.PrintLast Go.Proofs.YtmgeffgcihfpcaaDoorW.PrintMore
attribute [local go_sem] max2_int min2_int max_two min_two max_three min_three max_four min_four   -- for this text's walks alone
set_option linter.unusedVariables false
set_option linter.unusedSimpArgs false
def spec_Crash.l0 : Nat → List Int → List Int → Int → List (S74) → List (S74) → Option ((List (S74)))
 | 0, _, _, _, _, _ => none
 | k + 1, x1, x2, x8, x529000, x531000 => if x8 < (x529000.length : Int) then (if 0 ≤ x8 then ((spec_l03At.f x1 x8 0).bind fun t534 => ((spec_l03At.f x2 x8 (-1)).bind fun t535 => ((spec_Torn.f k ((rd_T74 x529000 x8).f2) t534 t535).bind fun t536 => ((spec_l01Join.f k ((rd_T74 x529000 x8).f1) t536).bind fun t539 => (if x531000.length < 2199023255552 then (spec_Crash.l0 k x1 x2 (wrap64 (x8 + 1)) x529000 (x531000 ++ [(⟨(rd_T74 x529000 x8).f0, t539, ([] : List Int)⟩ : S74)])) else (none)))))) else (none)) else (some x531000)
def spec_Crash.f (k : Nat) (l0_0 : List (S74)) (l1 : List Int) (l2 : List Int) : Option ((List (S74))) := (spec_DiskOk.f k l0_0).bind fun t531 => (if t531 = true then (spec_Crash.l0 k l1 l2 0 l0_0 ([] : List (S74))) else (some ([] : List (S74))))
def spec_Crash.T8 : Bool × List (List Nat × List Nat) := (true, [([], []), ([0], [0]), ([], []), ([2], [2]), ([], []), ([4], [4]), ([], []), ([6], [6]), ([], []), ([], []), ([8, 9], [8, 9]), ([], []), ([], []), ([11, 12, 10], [11, 12]), ([7, 10, 13, 13], [7, 10, 13]), ([5, 14, 14], [5, 14]), ([3, 15], [3, 15]), ([16], [16]), ([1, 17, 15], [1, 17]), ([0, 1, 2, 3, 4, 5, 6, 7, 8, 9, 10, 11, 12, 13, 14, 15, 16, 17, 18], []), ([19, 18, 18, 0, 1, 2, 3, 4, 5, 6, 7, 8, 9, 10, 11, 12, 13, 14, 15, 16, 17, 18], [18, 19])])
def spec_Crash.B8 : List Nat := [0, 1, 0, 4, 0, 16, 0, 64, 0, 0, 768, 0, 0, 7936, 16320, 32752, 65532, 131068, 262143, 524287, 1048575]
theorem spec_Crash.tab8 : rtab .any (opsOf Tryd.f32 8) = spec_Crash.T8 := by kernel_rfl
theorem spec_Crash.bits8 : waitsOk spec_Crash.T8.2 spec_Crash.B8 = true := by kernel_rfl
set_option maxHeartbeats 8000000 in
set_option maxRecDepth 100000 in
theorem spec_Crash.calls (k : Nat) (A0_0 : Option Addr) (c0_0 : Nat) (l0_0 : List (S74)) (A1 : Option Addr) (c1 : Nat) (l1 : List Int) (A2 : Option Addr) (c2 : Nat) (l2 : List Int) (r : List (S74)) (w : World) (hr0_0 : Kd.C k74 w A0_0 l0_0.length l0_0) (hc0_0 : l0_0.length ≤ c0_0) (hr1 : Kd.C (Kd.int .i64) w A1 l1.length l1) (hc1 : l1.length ≤ c1) (hr2 : Kd.C (Kd.int .i64) w A2 l2.length l2) (hc2 : l2.length ≤ c2) (h : spec_Crash.f k l0_0 l1 l2 = some r) :
  Calls Tryd.prog 32 #[.agg #[.slice A0_0 l0_0.length c0_0], .slice A1 l1.length c1, .slice A2 l2.length c2] w fun e w' => ∃ v0_ : Value, e = .returned (.agg #[v0_]) ∧ Kd.S k74 74 w' w.heap.size (fun _ => True) v0_ r ∧ Below w.heap.size w w' := by
 have hu29 := Tryd.underlying29
 have hu74 := Tryd.underlying74
 have HR0_0 := Zh hr0_0
 have HC0_0 := Zh hc0_0
 clear hr0_0 hc0_0
 have HR1 := Zh hr1
 have HC1 := Zh hc1
 clear hr1 hc1
 have HR2 := Zh hr2
 have HC2 := Zh hc2
 clear hr2 hc2
 have HB := Zh (Below.refl w.heap.size w)
 have H : ((spec_DiskOk.f k l0_0).bind fun t531 => (if t531 = true then (spec_Crash.l0 k l1 l2 0 l0_0 ([] : List (S74))) else (some ([] : List (S74))))) = some r := h
 clear h
 replace H := Option.bind_eq_some_iff.mp H
 obtain ⟨t531, A40, H⟩ := H
 replace H : (if t531 = true then (spec_Crash.l0 k l1 l2 0 l0_0 ([] : List (S74))) else (some ([] : List (S74)))) = some r := H
 have A4 := Zh A40
 clear A40
 by_cases c5 : t531 = true
 ·
  subst c5
  have H1 : (spec_Crash.l0 k l1 l2 0 l0_0 ([] : List (S74))) = some r := by rw [if_pos rfl] at H; exact H
  clear H
  have H := H1
  clear H1
  have H' := Zh H
  clear H
  go_enter Tryd.func32, Tryd.ntmps32
  go_wp2_with (first | ((with_reducible refine gate_dst (N := 3) rfl ?_); refine box_event ?hg (N := 3) ?hd (cs := #[.slice A0_0 l0_0.length c0_0]) (t := 29) ?hr ?_; (case hd => rfl); (case hg => rfl); (case hr => first | (go_simp; done) | (go_simp; rfl)); intro gb528 hg w6 hbox hb; have n0_ := Zh (Zl Zs hb); have n1_ := Zh (hbox); have n2_ := Zh ((by rw [hg]; exact (below_size Zs) : w.heap.size ≤ gb528)); have n3_ := Zh ((by rw [hg]; exact (below_size Zs) : w.heap.size ≤ gb528)); clear HB; have HB := n0_; have BK528 := n1_; have GW528 := n2_; have GE528 := n3_; clear n0_ n1_ n2_ n3_; clear hb hbox hg) | ((with_reducible refine gate_dst (N := 6) rfl ?_); refine box_event ?hg (N := 6) ?hd (cs := #[.slice none 0 0]) (t := 29) ?hr ?_; (case hd => rfl); (case hg => rfl); (case hr => first | (go_simp; done) | (go_simp; rfl)); intro gb529 hg w7 hbox hb; have n0_ := Zh (Zm (g := gb528) (o := .cells #[.slice A0_0 l0_0.length c0_0] 29 (0, 0)) Zk hb); have n1_ := Zh (Zl Zs hb); have n2_ := Zh (hbox); have n3_ := Zh ((by rw [hg]; exact (below_size Zs) : w.heap.size ≤ gb529)); have n4_ := Zh ((by rw [hg]; exact (below_size Zs) : w.heap.size ≤ gb529)); have n5_ := Zh ((by rw [hg]; exact Nat.ne_of_lt (blk_lt (g := gb528) (o := .cells #[.slice A0_0 l0_0.length c0_0] 29 (0, 0)) Zk) : gb528 ≠ gb529)); have n6_ := Zh ((by rw [hg]; exact Nat.ne_of_gt (blk_lt (g := gb528) (o := .cells #[.slice A0_0 l0_0.length c0_0] 29 (0, 0)) Zk) : gb529 ≠ gb528)); clear BK528; clear HB; have BK528 := n0_; have HB := n1_; have BK529 := n2_; have GW529 := n3_; have GE529 := n4_; have NB528_529 := n5_; have NB529_528 := n6_; clear n0_ n1_ n2_ n3_ n4_ n5_ n6_; clear hb hbox hg) | ((with_reducible refine gate_dst (N := 7) rfl ?_); refine box_event ?hg (N := 7) ?hd (cs := #[.slice none 0 0]) (t := 29) ?hr ?_; (case hd => rfl); (case hg => rfl); (case hr => first | (go_simp; done) | (go_simp; rfl)); intro gb530 hg w8 hbox hb; have n0_ := Zh (Zm (g := gb528) (o := .cells #[.slice A0_0 l0_0.length c0_0] 29 (0, 0)) Zk hb); have n1_ := Zh (Zm (g := gb529) (o := .cells #[.slice none 0 0] 29 (0, 0)) Zk hb); have n2_ := Zh (Zl Zs hb); have n3_ := Zh (hbox); have n4_ := Zh ((by rw [hg]; exact (below_size Zs) : w.heap.size ≤ gb530)); have n5_ := Zh ((by rw [hg]; exact (below_size Zs) : w.heap.size ≤ gb530)); have n6_ := Zh ((by rw [hg]; exact Nat.ne_of_lt (blk_lt (g := gb528) (o := .cells #[.slice A0_0 l0_0.length c0_0] 29 (0, 0)) Zk) : gb528 ≠ gb530)); have n7_ := Zh ((by rw [hg]; exact Nat.ne_of_gt (blk_lt (g := gb528) (o := .cells #[.slice A0_0 l0_0.length c0_0] 29 (0, 0)) Zk) : gb530 ≠ gb528)); have n8_ := Zh ((by rw [hg]; exact Nat.ne_of_lt (blk_lt (g := gb529) (o := .cells #[.slice none 0 0] 29 (0, 0)) Zk) : gb529 ≠ gb530)); have n9_ := Zh ((by rw [hg]; exact Nat.ne_of_gt (blk_lt (g := gb529) (o := .cells #[.slice none 0 0] 29 (0, 0)) Zk) : gb530 ≠ gb529)); clear BK528; clear BK529; clear HB; have BK528 := n0_; have BK529 := n1_; have HB := n2_; have BK530 := n3_; have GW530 := n4_; have GE530 := n5_; have NB528_530 := n6_; have NB530_528 := n7_; have NB529_530 := n8_; have NB530_529 := n9_; clear n0_ n1_ n2_ n3_ n4_ n5_ n6_ n7_ n8_ n9_; clear hb hbox hg; have hnb9 := NB530_528.out; have hnc9 := NB528_530.out; have hnb10 := NB530_529.out; have hnc10 := NB529_530.out; have hcz11_0 : w8.cell? ⟨gb530, 0, none⟩ = some (.slice none 0 0) := (blk_cell BK530.out 0).trans rfl; have hfz11_0 := Zn BK530.out 0; have hnb12 := NB528_529.out; have hnc12 := NB529_528.out; have hcz13_0 : w8.cell? ⟨gb528, 0, none⟩ = some (.slice A0_0 l0_0.length c0_0) := (blk_cell BK528.out 0).trans rfl; have hfz13_0 := Zn BK528.out 0) | ((with_reducible refine gate_callee (f := 15) rfl ?_); refine goesL_ (some 12) rfl rfl Tryd.func15 (by kernel_rfl) rfl #[.agg #[.slice A0_0 l0_0.length c0_0]] rfl (by (try simp only [List.map_toArray, List.map_cons, List.map_nil]); first | done | rfl | (simp only [List.length_drop, List.length_take]; rfl)) ?_; (with_reducible refine (spec_DiskOk.calls k _ _ l0_0 true _ ?side1 ?side2 A4.out).mono ?_); (case side1 => exact C_below HR0_0.out Zs); (case side2 => exact HC0_0.out); rintro e w14 ⟨rfl, hb⟩; refine ⟨_, rfl, ?_⟩; have n0_ := Zh (Zm (g := gb528) (o := .cells #[.slice A0_0 l0_0.length c0_0] 29 (0, 0)) (by (with_reducible repeat (first | refine Za ?_ _ | refine Zb ?_ | refine blk_alloc ?_ _)); refine blk_far ?_ NB528_530.out _; (with_reducible repeat (first | refine Za ?_ _ | refine Zb ?_ | refine blk_alloc ?_ _)); exact BK528.out) hb); have n1_ := Zh (Zm (g := gb529) (o := .cells #[.slice none 0 0] 29 (0, 0)) (by (with_reducible repeat (first | refine Za ?_ _ | refine Zb ?_ | refine blk_alloc ?_ _)); refine blk_far ?_ NB529_530.out _; (with_reducible repeat (first | refine Za ?_ _ | refine Zb ?_ | refine blk_alloc ?_ _)); exact BK529.out) hb); have n2_ := Zh (Zm (g := gb530) (o := .cells #[.slice none 0 0] 29 (0, 0)) (by (with_reducible repeat (first | refine Za ?_ _ | refine Zb ?_ | refine blk_alloc ?_ _)); refine blk_put (cs := #[.slice none 0 0]) ?_ 0 _ rfl; (with_reducible repeat (first | refine Za ?_ _ | refine Zb ?_ | refine blk_alloc ?_ _)); exact BK530.out) hb); have n3_ := Zh (Zl Zs hb); clear BK528; clear BK529; clear BK530; clear HB; have BK528 := n0_; have BK529 := n1_; have BK530 := n2_; have HB := n3_; clear n0_ n1_ n2_ n3_; (try clear hb); (try clear hb2); (try clear hk); (try clear hi)))
  go_loopg [8] k (fun kq v8 w' => ∃ (x8_1 : Int) (x531000_1 : List (S74)) (u531000 : Value), v8 = .int .i64 x8_1 ∧ Aside0 (spec_Crash.l0 kq l1 l2 x8_1 l0_0 x531000_1 = some r) ∧ Aside0 (kq ≤ k) ∧ Aside0 (Kd.S k74 74 w' w.heap.size (fun _ => True) u531000 x531000_1) ∧ Aside0 (w'.heap[gb528]? = some (.cells #[(.slice A0_0 l0_0.length c0_0)] 29 (0, 0))) ∧ Aside0 (w'.heap[gb529]? = some (.cells #[(.slice none 0 0)] 29 (0, 0))) ∧ Aside0 (w'.heap[gb530]? = some (.cells #[u531000] 29 (0, 0))) ∧ Aside0 (Below w.heap.size w w'))
  case atStart => exact ⟨(0), (([] : List (S74))), (.slice none 0 0), (by first | rfl | (simp; done) | (simp [*]; done)), H', ⟨Nat.le_refl _⟩, ⟨by first | exact S_nil _ _ _ _ _ | exact N_nil _ _ _ _ _ | exact V_nil _ _ _ _ _ | exact Q_nil _ _ _ _ _ | exact R_nil _ _ _ _ _⟩, ⟨by (with_reducible repeat (first | refine Za ?_ _ | refine Zb ?_ | refine blk_alloc ?_ _)); exact BK528.out⟩, ⟨by (with_reducible repeat (first | refine Za ?_ _ | refine Zb ?_ | refine blk_alloc ?_ _)); exact BK529.out⟩, ⟨by (with_reducible repeat (first | refine Za ?_ _ | refine Zb ?_ | refine blk_alloc ?_ _)); exact BK530.out⟩, ⟨by repeat (first | (with_reducible first | exact HB.out | apply Zf | apply Zd | apply Ze | refine Zg ?_ GE528.out | refine Zg ?_ GE529.out | refine Zg ?_ GE530.out) | exact HB.out)⟩⟩
  case round =>
   clear H'
   try clear c1
   try clear c2
   try clear p2
   try clear c3
   try clear c5
   try clear c9
   try clear c10
   try clear c12
   try clear hcz11_0
   try clear hcz13_0
   try clear hfz11_0
   try clear hfz13_0
   obtain ⟨x8_1, x531000_1, u531000, rfl, HA, HK1, HO_531000, BK528, BK529, BK530, HB⟩ := hrel
   cases gk with
   | zero => exact absurd HA.out (by simp [spec_Crash.l0])
   | succ k1 =>
    have H := HA.out
    clear HA
    simp only [spec_Crash.l0] at H
    by_cases c15 : x8_1 < (l0_0.length : Int)
    ·
     rw [if_pos c15] at H
     have c15b0 : decide (x8_1 < (l0_0.length : Int)) = true := decide_eq_true c15
     clear c15
     by_cases c16 : 0 ≤ x8_1
     ·
      rw [if_pos c16] at H
      have c16b0 : decide (0 ≤ x8_1) = true := decide_eq_true c16
      clear c16
      replace H := Option.bind_eq_some_iff.mp H
      obtain ⟨t534, A170, H⟩ := H
      replace H : ((spec_l03At.f l2 x8_1 (-1)).bind fun t535 => ((spec_Torn.f k1 ((rd_T74 l0_0 x8_1).f2) t534 t535).bind fun t536 => ((spec_l01Join.f k1 ((rd_T74 l0_0 x8_1).f1) t536).bind fun t539 => (if x531000_1.length < 2199023255552 then (spec_Crash.l0 k1 l1 l2 (wrap64 (x8_1 + 1)) l0_0 (x531000_1 ++ [(⟨(rd_T74 l0_0 x8_1).f0, t539, ([] : List Int)⟩ : S74)])) else (none))))) = some r := H
      have A17 := Zh A170
      clear A170
      replace H := Option.bind_eq_some_iff.mp H
      obtain ⟨t535, A180, H⟩ := H
      replace H : ((spec_Torn.f k1 ((rd_T74 l0_0 x8_1).f2) t534 t535).bind fun t536 => ((spec_l01Join.f k1 ((rd_T74 l0_0 x8_1).f1) t536).bind fun t539 => (if x531000_1.length < 2199023255552 then (spec_Crash.l0 k1 l1 l2 (wrap64 (x8_1 + 1)) l0_0 (x531000_1 ++ [(⟨(rd_T74 l0_0 x8_1).f0, t539, ([] : List Int)⟩ : S74)])) else (none)))) = some r := H
      have A18 := Zh A180
      clear A180
      replace H := Option.bind_eq_some_iff.mp H
      obtain ⟨t536, A190, H⟩ := H
      replace H : ((spec_l01Join.f k1 ((rd_T74 l0_0 x8_1).f1) t536).bind fun t539 => (if x531000_1.length < 2199023255552 then (spec_Crash.l0 k1 l1 l2 (wrap64 (x8_1 + 1)) l0_0 (x531000_1 ++ [(⟨(rd_T74 l0_0 x8_1).f0, t539, ([] : List Int)⟩ : S74)])) else (none))) = some r := H
      have A19 := Zh A190
      clear A190
      replace H := Option.bind_eq_some_iff.mp H
      obtain ⟨t539, A200, H⟩ := H
      replace H : (if x531000_1.length < 2199023255552 then (spec_Crash.l0 k1 l1 l2 (wrap64 (x8_1 + 1)) l0_0 (x531000_1 ++ [(⟨(rd_T74 l0_0 x8_1).f0, t539, ([] : List Int)⟩ : S74)])) else (none)) = some r := H
      have A20 := Zh A200
      clear A200
      by_cases c21 : x531000_1.length < 2199023255552
      ·
       rw [if_pos c21] at H
       have LMc21 := Zh c21
       clear c21
       obtain ⟨y542, hy542⟩ : ∃ y_ : List (S74), y_ = (x531000_1 ++ [(⟨(rd_T74 l0_0 x8_1).f0, t539, ([] : List Int)⟩ : S74)]) := ⟨_, rfl⟩
       replace H : (spec_Crash.l0 k1 l1 l2 (wrap64 (x8_1 + 1)) l0_0 y542) = some r := by first | (rw [hy542]; with_reducible exact H) | (have H2_ := (Option.bind_some _ _).symm.trans H; rw [hy542]; with_reducible exact H2_) | (have H2_ := (Option.bind_some _ _).symm.trans H; with_reducible exact H2_) | with_reducible exact H | (rw [hy542]; exact H) | exact H
       have Ny542 := Zh hy542
       clear hy542
       have H' := Zh H
       clear H
       have hnb22 := NB528_529.out
       have hnc22 := NB529_528.out
       have hnb23 := NB528_530.out
       have hnc23 := NB530_528.out
       have hcz24_0 : wr.cell? ⟨gb528, 0, none⟩ = some (.slice A0_0 l0_0.length c0_0) := (blk_cell BK528.out 0).trans rfl
       have hfz24_0 := Zn BK528.out 0
       have p532 : 0 ≤ (x8_1 : Int) := Zo
       have q532 : x8_1 < (l0_0.length : Int) := Zo
       obtain ⟨ad532, A532_1, c532_1, A532_2, c532_2, e532, hx532_0, hx532_1, hx532_2, hl532_1, hi532_1, hl532_2, hi532_2⟩ := at_T74 HR0_0.out x8_1 p532 q532
       cases e532
       replace hx532_0 := Zc HB.out hx532_0
       replace hx532_1 := Zc HB.out hx532_1
       replace hx532_2 := Zc HB.out hx532_2
       have HR532_1 := Zh hi532_1
       have HC532_1 := Zh hl532_1
       clear hi532_1 hl532_1
       have HR532_2 := Zh hi532_2
       have HC532_2 := Zh hl532_2
       clear hi532_2 hl532_2
       replace p532 := eq_true p532
       replace q532 := eq_true q532
       try go_wp2_with (first | ((with_reducible refine gate_dst (N := 9) rfl ?_); refine box_event ?hg (N := 9) ?hd (cs := #[.string (⟨#[]⟩ : ByteArray), .slice none 0 0, .slice none 0 0]) (t := 74) ?hr ?_; (case hd => rfl); (case hg => rfl); (case hr => first | (go_simp; done) | (go_simp; rfl)); intro gb533 hg w25 hbox hb; have n0_ := Zh (S_below (S_elderB (by (with_reducible repeat (first | apply S_alloc | apply S_drewN | apply S_drew)); exact HO_531000.out) gb533 (Nat.le_of_eq hg.symm)) hb); have n1_ := Zh (Zm (g := gb528) (o := .cells #[.slice (some ad532) l0_0.length c0_0] 29 (0, 0)) Zk hb); have n2_ := Zh (Zm (g := gb529) (o := .cells #[.slice none 0 0] 29 (0, 0)) Zk hb); have n3_ := Zh (Zm (g := gb530) (o := .cells #[u531000] 29 (0, 0)) Zk hb); have n4_ := Zh (Zl Zs hb); have n5_ := Zh (hbox); have n6_ := Zh ((by rw [hg]; exact (below_size Zs) : w.heap.size ≤ gb533)); have n7_ := Zh ((by rw [hg]; exact (below_size Zs) : w.heap.size ≤ gb533)); have n8_ := Zh ((by rw [hg]; exact Nat.ne_of_lt (blk_lt (g := gb528) (o := .cells #[.slice (some ad532) l0_0.length c0_0] 29 (0, 0)) Zk) : gb528 ≠ gb533)); have n9_ := Zh ((by rw [hg]; exact Nat.ne_of_gt (blk_lt (g := gb528) (o := .cells #[.slice (some ad532) l0_0.length c0_0] 29 (0, 0)) Zk) : gb533 ≠ gb528)); have n10_ := Zh ((by rw [hg]; exact Nat.ne_of_lt (blk_lt (g := gb529) (o := .cells #[.slice none 0 0] 29 (0, 0)) Zk) : gb529 ≠ gb533)); have n11_ := Zh ((by rw [hg]; exact Nat.ne_of_gt (blk_lt (g := gb529) (o := .cells #[.slice none 0 0] 29 (0, 0)) Zk) : gb533 ≠ gb529)); have n12_ := Zh ((by rw [hg]; exact Nat.ne_of_lt (blk_lt (g := gb530) (o := .cells #[u531000] 29 (0, 0)) Zk) : gb530 ≠ gb533)); have n13_ := Zh ((by rw [hg]; exact Nat.ne_of_gt (blk_lt (g := gb530) (o := .cells #[u531000] 29 (0, 0)) Zk) : gb533 ≠ gb530)); clear HO_531000; clear BK528; clear BK529; clear BK530; clear HB; have HO_531000 := n0_; have BK528 := n1_; have BK529 := n2_; have BK530 := n3_; have HB := n4_; have BK533 := n5_; have GW533 := n6_; have GE533 := n7_; have NB528_533 := n8_; have NB533_528 := n9_; have NB529_533 := n10_; have NB533_529 := n11_; have NB530_533 := n12_; have NB533_530 := n13_; clear n0_ n1_ n2_ n3_ n4_ n5_ n6_ n7_ n8_ n9_ n10_ n11_ n12_ n13_; clear hb hbox hg; have hnb26 := NB533_528.out; have hnc26 := NB528_533.out; have hnb27 := NB533_529.out; have hnc27 := NB529_533.out; have hnb28 := NB533_530.out; have hnc28 := NB530_533.out; have hcz29_0 : w25.cell? ⟨gb533, 0, none⟩ = some (.string (⟨#[]⟩ : ByteArray)) := (blk_cell BK533.out 0).trans rfl; have hcz29_1 : w25.cell? ⟨gb533, 1, none⟩ = some (.slice none 0 0) := (blk_cell BK533.out 1).trans rfl; have hcz29_2 : w25.cell? ⟨gb533, 2, none⟩ = some (.slice none 0 0) := (blk_cell BK533.out 2).trans rfl; have hfz29_0 := Zn BK533.out 0; have hfz29_1 := Zn BK533.out 1; have hfz29_2 := Zn BK533.out 2))
       have n0_ : Aside0 (Kd.S k74 74 (((w25.setCell ⟨gb533, 0, none⟩ (.string ((rd_T74 l0_0 x8_1).f0))).setCell ⟨gb533, 1, none⟩ (.slice A532_1 ((rd_T74 l0_0 x8_1).f1).length c532_1)).setCell ⟨gb533, 2, none⟩ (.slice A532_2 ((rd_T74 l0_0 x8_1).f2).length c532_2)) w.heap.size (fun k_ => k_ ≠ gb533) u531000 x531000_1) := ⟨by (with_reducible repeat (first | apply S_alloc | apply S_drewN | apply S_drew)); exact S_mono (S_far (p := ⟨gb533, 2, none⟩) (S_far (p := ⟨gb533, 1, none⟩) (S_far (p := ⟨gb533, 0, none⟩) (S_mono HO_531000.out (fun k_ hk => (⟨hk, hk.2⟩ : _ ∧ k_ ≠ gb533))) (fun _ hk => hk.2) (.string ((rd_T74 l0_0 x8_1).f0))) (fun _ hk => hk.2) (.slice A532_1 ((rd_T74 l0_0 x8_1).f1).length c532_1)) (fun _ hk => hk.2) (.slice A532_2 ((rd_T74 l0_0 x8_1).f2).length c532_2)) (fun _ hk => hk.1.2)⟩
       have n1_ : Aside0 ((((w25.setCell ⟨gb533, 0, none⟩ (.string ((rd_T74 l0_0 x8_1).f0))).setCell ⟨gb533, 1, none⟩ (.slice A532_1 ((rd_T74 l0_0 x8_1).f1).length c532_1)).setCell ⟨gb533, 2, none⟩ (.slice A532_2 ((rd_T74 l0_0 x8_1).f2).length c532_2)).heap[gb528]? = some (.cells #[.slice (some ad532) l0_0.length c0_0] 29 (0, 0))) := ⟨by (with_reducible repeat (first | refine Za ?_ _ | refine Zb ?_ | refine blk_alloc ?_ _)); refine blk_far ?_ NB528_533.out _; (with_reducible repeat (first | refine Za ?_ _ | refine Zb ?_ | refine blk_alloc ?_ _)); refine blk_far ?_ NB528_533.out _; (with_reducible repeat (first | refine Za ?_ _ | refine Zb ?_ | refine blk_alloc ?_ _)); refine blk_far ?_ NB528_533.out _; (with_reducible repeat (first | refine Za ?_ _ | refine Zb ?_ | refine blk_alloc ?_ _)); exact BK528.out⟩
       have n2_ : Aside0 ((((w25.setCell ⟨gb533, 0, none⟩ (.string ((rd_T74 l0_0 x8_1).f0))).setCell ⟨gb533, 1, none⟩ (.slice A532_1 ((rd_T74 l0_0 x8_1).f1).length c532_1)).setCell ⟨gb533, 2, none⟩ (.slice A532_2 ((rd_T74 l0_0 x8_1).f2).length c532_2)).heap[gb529]? = some (.cells #[.slice none 0 0] 29 (0, 0))) := ⟨by (with_reducible repeat (first | refine Za ?_ _ | refine Zb ?_ | refine blk_alloc ?_ _)); refine blk_far ?_ NB529_533.out _; (with_reducible repeat (first | refine Za ?_ _ | refine Zb ?_ | refine blk_alloc ?_ _)); refine blk_far ?_ NB529_533.out _; (with_reducible repeat (first | refine Za ?_ _ | refine Zb ?_ | refine blk_alloc ?_ _)); refine blk_far ?_ NB529_533.out _; (with_reducible repeat (first | refine Za ?_ _ | refine Zb ?_ | refine blk_alloc ?_ _)); exact BK529.out⟩
       have n3_ : Aside0 ((((w25.setCell ⟨gb533, 0, none⟩ (.string ((rd_T74 l0_0 x8_1).f0))).setCell ⟨gb533, 1, none⟩ (.slice A532_1 ((rd_T74 l0_0 x8_1).f1).length c532_1)).setCell ⟨gb533, 2, none⟩ (.slice A532_2 ((rd_T74 l0_0 x8_1).f2).length c532_2)).heap[gb530]? = some (.cells #[u531000] 29 (0, 0))) := ⟨by (with_reducible repeat (first | refine Za ?_ _ | refine Zb ?_ | refine blk_alloc ?_ _)); refine blk_far ?_ NB530_533.out _; (with_reducible repeat (first | refine Za ?_ _ | refine Zb ?_ | refine blk_alloc ?_ _)); refine blk_far ?_ NB530_533.out _; (with_reducible repeat (first | refine Za ?_ _ | refine Zb ?_ | refine blk_alloc ?_ _)); refine blk_far ?_ NB530_533.out _; (with_reducible repeat (first | refine Za ?_ _ | refine Zb ?_ | refine blk_alloc ?_ _)); exact BK530.out⟩
       have n4_ : Aside0 ((((w25.setCell ⟨gb533, 0, none⟩ (.string ((rd_T74 l0_0 x8_1).f0))).setCell ⟨gb533, 1, none⟩ (.slice A532_1 ((rd_T74 l0_0 x8_1).f1).length c532_1)).setCell ⟨gb533, 2, none⟩ (.slice A532_2 ((rd_T74 l0_0 x8_1).f2).length c532_2)).heap[gb533]? = some (.cells #[.string ((rd_T74 l0_0 x8_1).f0), .slice A532_1 ((rd_T74 l0_0 x8_1).f1).length c532_1, .slice A532_2 ((rd_T74 l0_0 x8_1).f2).length c532_2] 74 (0, 0))) := ⟨by (with_reducible repeat (first | refine Za ?_ _ | refine Zb ?_ | refine blk_alloc ?_ _)); refine blk_put (cs := #[.string ((rd_T74 l0_0 x8_1).f0), .slice A532_1 ((rd_T74 l0_0 x8_1).f1).length c532_1, .slice none 0 0]) ?_ 2 _ rfl; (with_reducible repeat (first | refine Za ?_ _ | refine Zb ?_ | refine blk_alloc ?_ _)); refine blk_put (cs := #[.string ((rd_T74 l0_0 x8_1).f0), .slice none 0 0, .slice none 0 0]) ?_ 1 _ rfl; (with_reducible repeat (first | refine Za ?_ _ | refine Zb ?_ | refine blk_alloc ?_ _)); refine blk_put (cs := #[.string (⟨#[]⟩ : ByteArray), .slice none 0 0, .slice none 0 0]) ?_ 0 _ rfl; (with_reducible repeat (first | refine Za ?_ _ | refine Zb ?_ | refine blk_alloc ?_ _)); exact BK533.out⟩
       have n5_ : Aside0 (Below w.heap.size w (((w25.setCell ⟨gb533, 0, none⟩ (.string ((rd_T74 l0_0 x8_1).f0))).setCell ⟨gb533, 1, none⟩ (.slice A532_1 ((rd_T74 l0_0 x8_1).f1).length c532_1)).setCell ⟨gb533, 2, none⟩ (.slice A532_2 ((rd_T74 l0_0 x8_1).f2).length c532_2))) := ⟨by repeat (first | (with_reducible first | exact HB.out | apply Zf | apply Zd | apply Ze | refine Zg ?_ GE528.out | refine Zg ?_ GE529.out | refine Zg ?_ GE530.out | refine Zg ?_ GE533.out) | exact HB.out)⟩
       (try clear HO_531000)
       (try clear BK528)
       (try clear BK529)
       (try clear BK530)
       (try clear BK533)
       (try clear HB)
       generalize (((w25.setCell ⟨gb533, 0, none⟩ (.string ((rd_T74 l0_0 x8_1).f0))).setCell ⟨gb533, 1, none⟩ (.slice A532_1 ((rd_T74 l0_0 x8_1).f1).length c532_1)).setCell ⟨gb533, 2, none⟩ (.slice A532_2 ((rd_T74 l0_0 x8_1).f2).length c532_2)) = w30 at n0_ n1_ n2_ n3_ n4_ n5_ ⊢
       have HO_531000 := n0_
       have BK528 := n1_
       have BK529 := n2_
       have BK530 := n3_
       have BK533 := n4_
       have HB := n5_
       clear n0_ n1_ n2_ n3_ n4_ n5_
       have n0_ := Zh (S_drew HO_531000.out)
       have n1_ := Zh (Zb BK528.out)
       have n2_ := Zh (Zb BK529.out)
       have n3_ := Zh (Zb BK530.out)
       have n4_ := Zh (Zb BK533.out)
       have n5_ := Zh (Ze HB.out)
       clear HO_531000
       clear BK528
       clear BK529
       clear BK530
       clear BK533
       clear HB
       have HO_531000 := n0_
       have BK528 := n1_
       have BK529 := n2_
       have BK530 := n3_
       have BK533 := n4_
       have HB := n5_
       clear n0_ n1_ n2_ n3_ n4_ n5_
       refine start_ (n := 21) (S := fun w' => w'.cell? ⟨gb530, 0, none⟩ = some (u531000) ∧ w'.cell? ⟨gb533, 0, none⟩ = some (.string ((rd_T74 l0_0 x8_1).f0)) ∧ w'.cell? ⟨gb533, 1, none⟩ = some (.slice A532_1 ((rd_T74 l0_0 x8_1).f1).length c532_1) ∧ w'.cell? ⟨gb533, 2, none⟩ = some (.slice A532_2 ((rd_T74 l0_0 x8_1).f2).length c532_2)) (ds := [20]) #[false, false, false, false, false, false, false, false, false, false, false, false, false, false, false, false, false, false, false, false, false] (by kernel_rfl) rfl rfl ⟨(blk_cell BK530.out 0).trans rfl, (blk_cell BK533.out 0).trans rfl, (blk_cell BK533.out 1).trans rfl, (blk_cell BK533.out 2).trans rfl⟩ (fun hHeld => ?_); refine with_tabW spec_Crash.tab8 spec_Crash.bits8 (fun HT_ HW_ => ?_)
       generalize w30.drew = w31 at HO_531000 BK528 BK529 BK530 BK533 HB hHeld ⊢
       refine SQ.pu 0 27 HT_ ?_
       refine SQ.pu 2 29 HT_ ?_
       refine SQ.pu 4 31 HT_ ?_
       refine SQ.pu 6 33 HT_ ?_
       refine SQ.pu 8 35 HT_ ?_
       refine SQ.pu 9 36 HT_ ?_
       refine SQ.pu 11 38 HT_ ?_
       refine SQ.pu 12 39 HT_ ?_
       refine SQ.tk 1 28 HT_ HW_ hHeld ?_
       refine SQ.tk 3 30 HT_ HW_ hHeld ?_
       refine SQ.tk 5 32 HT_ HW_ hHeld ?_
       refine SQ.tk 7 34 HT_ HW_ hHeld ?_
       refine one_ (i := 10) (N := some 37) #[true, true, true, true, true, true, true, true, true, true, true, true, true, false, false, false, false, false, false, false, false] rfl rfl (one_of HT_.out (by kernel_rfl)) (by decide) (fun K hK => ?_)
       refine goes_ Tryd.func75 (by kernel_rfl) rfl #[.slice A1 l1.length c1, .int .i64 x8_1, .int .i64 0] (by rfl) rfl rfl (by (try simp only [List.map_toArray, List.map_cons, List.map_nil]); first | done | rfl | (simp only [List.length_drop, List.length_take]; rfl)) ?_
       with_reducible refine (spec_l03At.calls _ _ l1 x8_1 0 t534 _ ?side1 ?side2 A17.out).mono ?_
       (case side1 => repeat (first | exact (C_below HR1.out HB.out) | (with_reducible refine C_alloc ?_ _) | (with_reducible refine C_drewN ?_ _) | (with_reducible refine C_drew ?_)))
       (case side2 => exact HC1.out)
       rintro e w' ⟨rfl, ⟨nd, rfl⟩⟩
       refine ⟨_, rfl, ?_⟩
       refine hK.out _ _ ⟨(blk_cell BK530.out 0).trans rfl, (blk_cell BK533.out 0).trans rfl, (blk_cell BK533.out 1).trans rfl, (blk_cell BK533.out 2).trans rfl⟩ (fun hHeld => ?_)
       clear hK K
       refine norm_ (a' := ?_) ?_ ?_
       rotate_left
       ·
        show Act.put _ (some 37) _ = _
        simp only [Act.put, List.setIfInBounds_toArray, List.set_cons_zero, List.set_cons_succ, i64_w, i32_w]
        rfl
       refine one_ (i := 13) (N := some 40) #[true, true, true, true, true, true, true, true, true, true, true, true, true, true, false, false, false, false, false, false, false] rfl rfl (one_of HT_.out (by kernel_rfl)) (by decide) (fun K hK => ?_)
       refine goes_ Tryd.func75 (by kernel_rfl) rfl #[.slice A2 l2.length c2, .int .i64 x8_1, .int .i64 (-1)] (by rfl) rfl rfl (by (try simp only [List.map_toArray, List.map_cons, List.map_nil]); first | done | rfl | (simp only [List.length_drop, List.length_take]; rfl)) ?_
       with_reducible refine (spec_l03At.calls _ _ l2 x8_1 (-1) t535 _ ?side1 ?side2 A18.out).mono ?_
       (case side1 => repeat (first | exact (C_below HR2.out Zs) | (with_reducible refine C_alloc ?_ _) | (with_reducible refine C_drewN ?_ _) | (with_reducible refine C_drew ?_)))
       (case side2 => exact HC2.out)
       rintro e w' ⟨rfl, ⟨nd, rfl⟩⟩
       refine ⟨_, rfl, ?_⟩
       refine hK.out _ _ ⟨(blk_cell BK530.out 0).trans rfl, (blk_cell BK533.out 0).trans rfl, (blk_cell BK533.out 1).trans rfl, (blk_cell BK533.out 2).trans rfl⟩ (fun hHeld => ?_)
       clear hK K
       refine norm_ (a' := ?_) ?_ ?_
       rotate_left
       ·
        show Act.put _ (some 40) _ = _
        simp only [Act.put, List.setIfInBounds_toArray, List.set_cons_zero, List.set_cons_succ, i64_w, i32_w]
        rfl
       refine one_ (i := 14) (N := some 41) #[true, true, true, true, true, true, true, true, true, true, true, true, true, true, true, false, false, false, false, false, false] rfl rfl (one_of HT_.out (by kernel_rfl)) (by decide) (fun K hK => ?_)
       refine goes_ Tryd.func74 (by kernel_rfl) rfl #[.slice A532_2 ((rd_T74 l0_0 x8_1).f2).length c532_2, .int .i64 t534, .int .i64 t535] (by rfl) rfl rfl (by (try simp only [List.map_toArray, List.map_cons, List.map_nil]); first | done | rfl | (simp only [List.length_drop, List.length_take]; rfl)) ?_
       with_reducible refine (spec_Torn.calls k1 _ _ ((rd_T74 l0_0 x8_1).f2) t534 t535 t536 _ ?side1 ?side2 A19.out).mono ?_
       (case side1 => repeat (first | exact (C_below HR532_2.out Zs) | (with_reducible refine C_alloc ?_ _) | (with_reducible refine C_drewN ?_ _) | (with_reducible refine C_drew ?_)))
       (case side2 => exact HC532_2.out)
       rintro e w32 ⟨v537, rfl, ho0, hb⟩
       refine ⟨_, rfl, ?_⟩
       have n0_ := Zh (S_elder' (by (with_reducible repeat (first | apply S_alloc | apply S_drewN | apply S_drew)); exact HO_531000.out) (R_base ho0) hb)
       have n1_ := Zh (R_lower ho0 (below_size Zs))
       have n2_ := Zh (Zm (g := gb528) (o := .cells #[.slice (some ad532) l0_0.length c0_0] 29 (0, 0)) Zk hb)
       have n3_ := Zh (Zm (g := gb529) (o := .cells #[.slice none 0 0] 29 (0, 0)) Zk hb)
       have n4_ := Zh (Zm (g := gb530) (o := .cells #[u531000] 29 (0, 0)) Zk hb)
       have n5_ := Zh (Zm (g := gb533) (o := .cells #[.string ((rd_T74 l0_0 x8_1).f0), .slice A532_1 ((rd_T74 l0_0 x8_1).f1).length c532_1, .slice A532_2 ((rd_T74 l0_0 x8_1).f2).length c532_2] 74 (0, 0)) Zk hb)
       have n6_ := Zh (Zl Zs hb)
       clear HO_531000
       clear BK528
       clear BK529
       clear BK530
       clear BK533
       clear HB
       have HO_531000 := n0_
       have HO538 := n1_
       have BK528 := n2_
       have BK529 := n3_
       have BK530 := n4_
       have BK533 := n5_
       have HB := n6_
       clear n0_ n1_ n2_ n3_ n4_ n5_ n6_
       (try clear hb)
       (try clear hb2)
       (try clear hk)
       (try clear hi)
       (try clear ho0)
       obtain ⟨Ao33, co33, eo33⟩ := R_slice HO538.out
       (first | subst eo33 | (injection eo33 with f1_ f2_ f3_; have f4_ := f1_.symm; have f5_ := f3_.symm; clear f1_ f2_ f3_; subst f4_; subst f5_))
       refine hK.out _ _ ⟨(blk_cell BK530.out 0).trans rfl, (blk_cell BK533.out 0).trans rfl, (blk_cell BK533.out 1).trans rfl, (blk_cell BK533.out 2).trans rfl⟩ (fun hHeld => ?_)
       clear hK K
       refine norm_ (a' := ?_) ?_ ?_
       rotate_left
       ·
        show Act.put _ (some 41) _ = _
        simp only [Act.put, List.setIfInBounds_toArray, List.set_cons_zero, List.set_cons_succ, i64_w, i32_w]
        rfl
       refine one_ (i := 15) (N := some 42) #[true, true, true, true, true, true, true, true, true, true, true, true, true, true, true, true, false, false, false, false, false] rfl rfl (one_of HT_.out (by kernel_rfl)) (by decide) (fun K hK => ?_)
       refine goes_ Tryd.func62 (by kernel_rfl) rfl #[.slice A532_1 ((rd_T74 l0_0 x8_1).f1).length c532_1, .slice Ao33 t536.length co33] (by rfl) rfl rfl (by (try simp only [List.map_toArray, List.map_cons, List.map_nil]); first | done | rfl | (simp only [List.length_drop, List.length_take]; rfl)) ?_
       with_reducible refine (spec_l01Join.calls k1 _ _ ((rd_T74 l0_0 x8_1).f1) _ _ t536 t539 _ ?side1 ?side2 ?side3 ?side4 A20.out).mono ?_
       (case side1 => repeat (first | exact (C_below HR532_1.out HB.out) | (with_reducible refine C_alloc ?_ _) | (with_reducible refine C_drewN ?_ _) | (with_reducible refine C_drew ?_)))
       (case side2 => exact HC532_1.out)
       (case side3 => repeat (first | exact (R_reads' HO538.out).2.2 | (with_reducible refine C_alloc ?_ _) | (with_reducible refine C_drewN ?_ _) | (with_reducible refine C_drew ?_)))
       (case side4 => exact (R_reads' HO538.out).2.1)
       rintro e w34 ⟨v540, rfl, ho0, hb⟩
       refine ⟨_, rfl, ?_⟩
       have n0_ := Zh (S_elder' (by (with_reducible repeat (first | apply S_alloc | apply S_drewN | apply S_drew)); exact HO_531000.out) (R_base ho0) hb)
       have n1_ := Zh (R_elder' (by (with_reducible repeat (first | apply R_alloc | apply R_drewN | apply R_drew)); exact HO538.out) (R_base ho0) hb)
       have n2_ := Zh (R_lower (R_new' ho0 (R_lt (by (with_reducible repeat (first | apply R_alloc | apply R_drewN | apply R_drew)); exact HO538.out))) (below_size Zs))
       have n3_ := Zh (Zm (g := gb528) (o := .cells #[.slice (some ad532) l0_0.length c0_0] 29 (0, 0)) Zk hb)
       have n4_ := Zh (Zm (g := gb529) (o := .cells #[.slice none 0 0] 29 (0, 0)) Zk hb)
       have n5_ := Zh (Zm (g := gb530) (o := .cells #[u531000] 29 (0, 0)) Zk hb)
       have n6_ := Zh (Zm (g := gb533) (o := .cells #[.string ((rd_T74 l0_0 x8_1).f0), .slice A532_1 ((rd_T74 l0_0 x8_1).f1).length c532_1, .slice A532_2 ((rd_T74 l0_0 x8_1).f2).length c532_2] 74 (0, 0)) Zk hb)
       have n7_ := Zh (Zl Zs hb)
       clear HO_531000
       clear HO538
       clear BK528
       clear BK529
       clear BK530
       clear BK533
       clear HB
       have HO_531000 := n0_
       have HO538 := n1_
       have HO541 := n2_
       have BK528 := n3_
       have BK529 := n4_
       have BK530 := n5_
       have BK533 := n6_
       have HB := n7_
       clear n0_ n1_ n2_ n3_ n4_ n5_ n6_ n7_
       (try clear hb)
       (try clear hb2)
       (try clear hk)
       (try clear hi)
       (try clear ho0)
       obtain ⟨Ao35, co35, eo35⟩ := R_slice HO541.out
       (first | subst eo35 | (injection eo35 with f1_ f2_ f3_; have f4_ := f1_.symm; have f5_ := f3_.symm; clear f1_ f2_ f3_; subst f4_; subst f5_))
       refine hK.out _ _ ⟨(blk_cell BK530.out 0).trans rfl, (blk_cell BK533.out 0).trans rfl, (blk_cell BK533.out 1).trans rfl, (blk_cell BK533.out 2).trans rfl⟩ (fun hHeld => ?_)
       clear hK K
       refine norm_ (a' := ?_) ?_ ?_
       rotate_left
       ·
        show Act.put _ (some 42) _ = _
        simp only [Act.put, List.setIfInBounds_toArray, List.set_cons_zero, List.set_cons_succ, i64_w, i32_w]
        rfl
       refine SQ.pu 16 43 HT_ ?_
       refine one_ (i := 17) (N := some 44) #[true, true, true, true, true, true, true, true, true, true, true, true, true, true, true, true, true, true, false, false, false] rfl rfl (one_of HT_.out (by kernel_rfl)) (by decide) (fun K hK => ?_)
       refine value_ (w1 := ?_) (v := ?_) (by rfl) rfl ?_ ?_
       rotate_left 2
       ·
        go_simp
        constructor
        ·
         rfl
        rfl
       refine hK.out _ _ ⟨(blk_cell (blk_alloc BK530.out _) 0).trans rfl, (blk_cell (blk_alloc BK533.out _) 0).trans rfl, (blk_cell (blk_alloc BK533.out _) 1).trans rfl, (blk_cell (blk_alloc BK533.out _) 2).trans rfl⟩ (fun hHeld => ?_)
       clear hK K
       refine norm_ (a' := ?_) ?_ ?_
       rotate_left
       ·
        show Act.put _ (some 44) _ = _
        simp only [Act.put, List.setIfInBounds_toArray, List.set_cons_zero, List.set_cons_succ, i64_w, i32_w]
        rfl
       refine one_ (i := 18) (N := some 45) #[true, true, true, true, true, true, true, true, true, true, true, true, true, true, true, true, true, true, true, false, false] rfl rfl (one_of HT_.out (by kernel_rfl)) (by decide) (fun K hK => ?_)
       refine S_append_step k74 (w0 := w) w.heap.size (by rfl) (.tmp 28) (.tmp 44) 27 74 (.agg #[(.string ⟨#[]⟩), (.slice none 0 0), (.slice none 0 0)]) 64 rfl Tryd.underlying27 info74 rfl (by decide) (by omega) u531000 x531000_1 (⟨(rd_T74 l0_0 x8_1).f0, t539, ([] : List Int)⟩ : S74) [.string ((rd_T74 l0_0 x8_1).f0), .slice Ao35 t539.length co35, .slice none 0 0] (fun k_ => some k_ ≠ (.slice Ao33 t536.length co33 : Value).ownBlock ∧ k_ ≠ gb533) (fun k_ => some k_ = (.slice Ao35 t539.length co35 : Value).ownBlock) rfl rfl ?aP (fun k_ hk_ => ((R_mono (ok' := fun k_ => ((fun k_ => some k_ ≠ (.slice Ao33 t536.length co33 : Value).ownBlock ∧ k_ ≠ gb533)) k_ ∧ some k_ ≠ (u531000 : Value).ownBlock) (R_types (R_apart' (HO541.out) (S_typed HO_531000.out) (by decide)) BK533.out (by decide)) (fun k_ hk => ⟨⟨hk.1.1.2, hk.2⟩, hk.1.2⟩))).1 k_ hk_.symm) ?aF ?aO ?aB ?aS ?aL ?_
       (case aP => exact k74_mkM _ _ _ (⟨(rd_T74 l0_0 x8_1).f0, t539, ([] : List Int)⟩ : S74) (R_mono (R_tight rfl (R_mono (ok' := fun k_ => ((fun k_ => some k_ ≠ (.slice Ao33 t536.length co33 : Value).ownBlock ∧ k_ ≠ gb533)) k_ ∧ some k_ ≠ (u531000 : Value).ownBlock) (R_types (R_apart' (HO541.out) (S_typed HO_531000.out) (by decide)) BK533.out (by decide)) (fun k_ hk => ⟨⟨hk.1.1.2, hk.2⟩, hk.1.2⟩))) (fun _ h_ => h_)) (R_nil _ _ _ _ _) AP.nil_ne)
       (case aB => exact Zs)
       (case aF => exact (fun k_ hk => ⟨Kd.fresh' (R_lt (by (with_reducible repeat (first | apply R_alloc | apply R_drewN | apply R_drew)); exact HO538.out)) k_ hk, Kd.freshB (g := gb533) (o := .cells #[.string ((rd_T74 l0_0 x8_1).f0), .slice A532_1 ((rd_T74 l0_0 x8_1).f1).length c532_1, .slice A532_2 ((rd_T74 l0_0 x8_1).f2).length c532_2] 74 (0, 0)) Zk k_ hk⟩))
       (case aO => exact (by (with_reducible repeat (first | apply S_alloc | apply S_drewN | apply S_drew)); exact S_mono HO_531000.out (fun k_ hk => ⟨⟨hk.1.2, hk.1.1⟩, fun e_ => hk.2 e_⟩)))
       (case aS => exact (below_size Zs))
       (case aL => have := LMc21.out; omega)
       intro v543 w36 ho hb hg hat
       rw [← Ny542.out] at ho
       have n0_ := Zh (blk_grown (g := gb528) (o := .cells #[.slice (some ad532) l0_0.length c0_0] 29 (0, 0)) Zk hg (S_ne HO_531000.out BK528.out (by decide)))
       have n1_ := Zh (blk_grown (g := gb529) (o := .cells #[.slice none 0 0] 29 (0, 0)) Zk hg (S_ne HO_531000.out BK529.out (by decide)))
       have n2_ := Zh (blk_grown (g := gb530) (o := .cells #[u531000] 29 (0, 0)) Zk hg (S_ne HO_531000.out BK530.out (by decide)))
       have n3_ := Zh (blk_grown (g := gb533) (o := .cells #[.string ((rd_T74 l0_0 x8_1).f0), .slice A532_1 ((rd_T74 l0_0 x8_1).f1).length c532_1, .slice A532_2 ((rd_T74 l0_0 x8_1).f2).length c532_2] 74 (0, 0)) Zk hg (S_away HO_531000.out (fun _ hk => hk.1.1)))
       have n4_ := Zh (R_over' (by (with_reducible repeat (first | apply R_alloc | apply R_drewN | apply R_drew)); exact HO538.out) (S_typed (by (with_reducible repeat (first | apply S_alloc | apply S_drewN | apply S_drew)); exact HO_531000.out)) (by decide) hg)
       have n5_ := Zh (hb)
       have n6_ := Zh (ho)
       clear BK528
       clear BK529
       clear BK530
       clear BK533
       clear HO538
       clear HB
       clear HO_531000
       clear HO541
       have BK528 := n0_
       have BK529 := n1_
       have BK530 := n2_
       have BK533 := n3_
       have HO538 := n4_
       have HB := n5_
       have HO544 := n6_
       clear n0_ n1_ n2_ n3_ n4_ n5_ n6_
       clear ho hb hg hat
       obtain ⟨Ao37, co37, eo37⟩ := S_slice HO544.out
       (first | subst eo37 | (injection eo37 with f1_ f2_ f3_; have f4_ := f1_.symm; have f5_ := f3_.symm; clear f1_ f2_ f3_; subst f4_; subst f5_))
       refine hK.out _ _ ⟨(blk_cell BK530.out 0).trans rfl, (blk_cell BK533.out 0).trans rfl, (blk_cell BK533.out 1).trans rfl, (blk_cell BK533.out 2).trans rfl⟩ (fun hHeld => ?_)
       clear hK K
       refine norm_ (a' := ?_) ?_ ?_
       rotate_left
       ·
        show Act.put _ (some 45) _ = _
        simp only [Act.put, List.setIfInBounds_toArray, List.set_cons_zero, List.set_cons_succ, i64_w, i32_w]
        rfl
       refine SQ.pu 19 46 HT_ ?_
       refine last_ (i := 20) (N := none) #[true, true, true, true, true, true, true, true, true, true, true, true, true, true, true, true, true, true, true, true, true] rfl rfl (one_of HT_.out (by kernel_rfl)) (by decide) (fun K hK => ?_)
       have hs38 : w36.cell? ⟨gb530, 0, none⟩ = some (u531000) := (blk_cell BK530.out 0).trans rfl
       have hfs38 := Zn BK530.out 0
       have hns38_0 := NB528_530.out
       have hns38_1 := NB529_530.out
       have hns38_3 := NB533_530.out
       have hms38_0 := NB530_528.out
       have hms38_1 := NB530_529.out
       have hms38_3 := NB530_533.out
       refine skip_ (w1 := ?_) (by rfl) rfl ?_ ?_
       rotate_left
       ·
        go_simp
        rfl
       refine hK.out _ _ ?_
       clear hK K
       refine done_ (done_of HT_.out (by kernel_rfl)) ?_
       try go_wp2
       go_roundg k1
       case measure => have := HK1.out; omega
       case rel => exact ⟨(wrap64 (x8_1 + 1)), (y542), (.slice Ao37 y542.length co37), (by first | rfl | (simp; done) | (simp [*]; done)), H', ⟨by have := HK1.out; omega⟩, ⟨by (with_reducible repeat (first | apply S_alloc | apply S_drewN | apply S_drew)); exact S_mono (S_far (p := ⟨gb530, 0, none⟩) (S_types HO544.out BK530.out (by decide)) (fun _ hk => hk.2) (.slice Ao37 y542.length co37)) (fun _ hk => trivial)⟩, ⟨by (with_reducible repeat (first | refine Za ?_ _ | refine Zb ?_ | refine blk_alloc ?_ _)); refine blk_far ?_ NB528_530.out _; (with_reducible repeat (first | refine Za ?_ _ | refine Zb ?_ | refine blk_alloc ?_ _)); exact BK528.out⟩, ⟨by (with_reducible repeat (first | refine Za ?_ _ | refine Zb ?_ | refine blk_alloc ?_ _)); refine blk_far ?_ NB529_530.out _; (with_reducible repeat (first | refine Za ?_ _ | refine Zb ?_ | refine blk_alloc ?_ _)); exact BK529.out⟩, ⟨by (with_reducible repeat (first | refine Za ?_ _ | refine Zb ?_ | refine blk_alloc ?_ _)); refine blk_put (cs := #[u531000]) ?_ 0 _ rfl; (with_reducible repeat (first | refine Za ?_ _ | refine Zb ?_ | refine blk_alloc ?_ _)); exact BK530.out⟩, ⟨by repeat (first | (with_reducible first | exact HB.out | apply Zf | apply Zd | apply Ze | refine Zg ?_ GE528.out | refine Zg ?_ GE529.out | refine Zg ?_ GE530.out | refine Zg ?_ GE533.out) | exact HB.out)⟩⟩
      rw [if_neg c21] at H
      exact absurd H (by simp)
     rw [if_neg c16] at H
     exact absurd H (by simp)
    rw [if_neg c15] at H
    have c15b0 : decide (x8_1 < (l0_0.length : Int)) = false := decide_eq_false c15
    clear c15
    obtain rfl := Option.some.inj H
    have hnb39 := NB528_529.out
    have hnc39 := NB529_528.out
    have hnb40 := NB528_530.out
    have hnc40 := NB530_528.out
    have hcz41_0 : wr.cell? ⟨gb528, 0, none⟩ = some (.slice A0_0 l0_0.length c0_0) := (blk_cell BK528.out 0).trans rfl
    have hfz41_0 := Zn BK528.out 0
    have hnb42 := NB530_529.out
    have hnc42 := NB529_530.out
    have hcz43_0 : wr.cell? ⟨gb530, 0, none⟩ = some (u531000) := (blk_cell BK530.out 0).trans rfl
    have hfz43_0 := Zn BK530.out 0
    obtain ⟨Ao44, co44, eo44⟩ := S_slice HO_531000.out
    subst eo44
    have hcz45_0 : wr.cell? ⟨gb529, 0, none⟩ = some (.slice none 0 0) := (blk_cell BK529.out 0).trans rfl
    have hfz45_0 := Zn BK529.out 0
    go_wp2
    refine bodyPost_ret (results_cell_row rfl _ _ gb529 29 #[.slice Ao44 x531000_1.length co44] (0, 0) _ rfl (by (with_reducible repeat (first | refine Za ?_ _ | refine Zb ?_ | refine blk_alloc ?_ _)); refine blk_put (cs := #[.slice none 0 0]) ?_ 0 _ rfl; (with_reducible repeat (first | refine Za ?_ _ | refine Zb ?_ | refine blk_alloc ?_ _)); exact BK529.out) Tryd.underlying29 rfl (by kernel_rfl)) rfl ?_
    exact ⟨_, by first | rfl | (simp [errW_none, errW_some] <;> rfl) | (simp [*, errW_none, errW_some] <;> rfl), by (with_reducible repeat (first | apply S_alloc | apply S_drewN | apply S_drew)); exact S_mono (S_far (p := ⟨gb529, 0, none⟩) (S_types HO_531000.out BK529.out (by decide)) (fun _ hk => hk.2) (.slice Ao44 x531000_1.length co44)) (fun _ hk => trivial), by repeat (first | (with_reducible first | exact HB.out | apply Zf | apply Zd | apply Ze | refine Zg ?_ GE528.out | refine Zg ?_ GE529.out | refine Zg ?_ GE530.out) | exact HB.out)⟩
 replace c5 := Bool.eq_false_iff.mpr c5
 subst c5
 have H1 : (some ([] : List (S74))) = some r := by rw [if_neg (show ¬ (false = true) by decide)] at H; exact H
 clear H
 have H := H1
 clear H1
 obtain rfl := Option.some.inj H
 go_enter Tryd.func32, Tryd.ntmps32
 go_wp2_with (first | ((with_reducible refine gate_dst (N := 3) rfl ?_); refine box_event ?hg (N := 3) ?hd (cs := #[.slice A0_0 l0_0.length c0_0]) (t := 29) ?hr ?_; (case hd => rfl); (case hg => rfl); (case hr => first | (go_simp; done) | (go_simp; rfl)); intro gb528 hg w46 hbox hb; have n0_ := Zh (Zl Zs hb); have n1_ := Zh (hbox); have n2_ := Zh ((by rw [hg]; exact (below_size Zs) : w.heap.size ≤ gb528)); have n3_ := Zh ((by rw [hg]; exact (below_size Zs) : w.heap.size ≤ gb528)); clear HB; have HB := n0_; have BK528 := n1_; have GW528 := n2_; have GE528 := n3_; clear n0_ n1_ n2_ n3_; clear hb hbox hg) | ((with_reducible refine gate_dst (N := 6) rfl ?_); refine box_event ?hg (N := 6) ?hd (cs := #[.slice none 0 0]) (t := 29) ?hr ?_; (case hd => rfl); (case hg => rfl); (case hr => first | (go_simp; done) | (go_simp; rfl)); intro gb529 hg w47 hbox hb; have n0_ := Zh (Zm (g := gb528) (o := .cells #[.slice A0_0 l0_0.length c0_0] 29 (0, 0)) Zk hb); have n1_ := Zh (Zl Zs hb); have n2_ := Zh (hbox); have n3_ := Zh ((by rw [hg]; exact (below_size Zs) : w.heap.size ≤ gb529)); have n4_ := Zh ((by rw [hg]; exact (below_size Zs) : w.heap.size ≤ gb529)); have n5_ := Zh ((by rw [hg]; exact Nat.ne_of_lt (blk_lt (g := gb528) (o := .cells #[.slice A0_0 l0_0.length c0_0] 29 (0, 0)) Zk) : gb528 ≠ gb529)); have n6_ := Zh ((by rw [hg]; exact Nat.ne_of_gt (blk_lt (g := gb528) (o := .cells #[.slice A0_0 l0_0.length c0_0] 29 (0, 0)) Zk) : gb529 ≠ gb528)); clear BK528; clear HB; have BK528 := n0_; have HB := n1_; have BK529 := n2_; have GW529 := n3_; have GE529 := n4_; have NB528_529 := n5_; have NB529_528 := n6_; clear n0_ n1_ n2_ n3_ n4_ n5_ n6_; clear hb hbox hg) | ((with_reducible refine gate_dst (N := 7) rfl ?_); refine box_event ?hg (N := 7) ?hd (cs := #[.slice none 0 0]) (t := 29) ?hr ?_; (case hd => rfl); (case hg => rfl); (case hr => first | (go_simp; done) | (go_simp; rfl)); intro gb530 hg w48 hbox hb; have n0_ := Zh (Zm (g := gb528) (o := .cells #[.slice A0_0 l0_0.length c0_0] 29 (0, 0)) Zk hb); have n1_ := Zh (Zm (g := gb529) (o := .cells #[.slice none 0 0] 29 (0, 0)) Zk hb); have n2_ := Zh (Zl Zs hb); have n3_ := Zh (hbox); have n4_ := Zh ((by rw [hg]; exact (below_size Zs) : w.heap.size ≤ gb530)); have n5_ := Zh ((by rw [hg]; exact (below_size Zs) : w.heap.size ≤ gb530)); have n6_ := Zh ((by rw [hg]; exact Nat.ne_of_lt (blk_lt (g := gb528) (o := .cells #[.slice A0_0 l0_0.length c0_0] 29 (0, 0)) Zk) : gb528 ≠ gb530)); have n7_ := Zh ((by rw [hg]; exact Nat.ne_of_gt (blk_lt (g := gb528) (o := .cells #[.slice A0_0 l0_0.length c0_0] 29 (0, 0)) Zk) : gb530 ≠ gb528)); have n8_ := Zh ((by rw [hg]; exact Nat.ne_of_lt (blk_lt (g := gb529) (o := .cells #[.slice none 0 0] 29 (0, 0)) Zk) : gb529 ≠ gb530)); have n9_ := Zh ((by rw [hg]; exact Nat.ne_of_gt (blk_lt (g := gb529) (o := .cells #[.slice none 0 0] 29 (0, 0)) Zk) : gb530 ≠ gb529)); clear BK528; clear BK529; clear HB; have BK528 := n0_; have BK529 := n1_; have HB := n2_; have BK530 := n3_; have GW530 := n4_; have GE530 := n5_; have NB528_530 := n6_; have NB530_528 := n7_; have NB529_530 := n8_; have NB530_529 := n9_; clear n0_ n1_ n2_ n3_ n4_ n5_ n6_ n7_ n8_ n9_; clear hb hbox hg; have hnb49 := NB530_528.out; have hnc49 := NB528_530.out; have hnb50 := NB530_529.out; have hnc50 := NB529_530.out; have hcz51_0 : w48.cell? ⟨gb530, 0, none⟩ = some (.slice none 0 0) := (blk_cell BK530.out 0).trans rfl; have hfz51_0 := Zn BK530.out 0; have hnb52 := NB528_529.out; have hnc52 := NB529_528.out; have hcz53_0 : w48.cell? ⟨gb528, 0, none⟩ = some (.slice A0_0 l0_0.length c0_0) := (blk_cell BK528.out 0).trans rfl; have hfz53_0 := Zn BK528.out 0) | ((with_reducible refine gate_callee (f := 15) rfl ?_); refine goesL_ (some 12) rfl rfl Tryd.func15 (by kernel_rfl) rfl #[.agg #[.slice A0_0 l0_0.length c0_0]] rfl (by (try simp only [List.map_toArray, List.map_cons, List.map_nil]); first | done | rfl | (simp only [List.length_drop, List.length_take]; rfl)) ?_; (with_reducible refine (spec_DiskOk.calls k _ _ l0_0 false _ ?side1 ?side2 A4.out).mono ?_); (case side1 => exact C_below HR0_0.out Zs); (case side2 => exact HC0_0.out); rintro e w54 ⟨rfl, hb⟩; refine ⟨_, rfl, ?_⟩; have n0_ := Zh (Zm (g := gb528) (o := .cells #[.slice A0_0 l0_0.length c0_0] 29 (0, 0)) (by (with_reducible repeat (first | refine Za ?_ _ | refine Zb ?_ | refine blk_alloc ?_ _)); refine blk_far ?_ NB528_530.out _; (with_reducible repeat (first | refine Za ?_ _ | refine Zb ?_ | refine blk_alloc ?_ _)); exact BK528.out) hb); have n1_ := Zh (Zm (g := gb529) (o := .cells #[.slice none 0 0] 29 (0, 0)) (by (with_reducible repeat (first | refine Za ?_ _ | refine Zb ?_ | refine blk_alloc ?_ _)); refine blk_far ?_ NB529_530.out _; (with_reducible repeat (first | refine Za ?_ _ | refine Zb ?_ | refine blk_alloc ?_ _)); exact BK529.out) hb); have n2_ := Zh (Zm (g := gb530) (o := .cells #[.slice none 0 0] 29 (0, 0)) (by (with_reducible repeat (first | refine Za ?_ _ | refine Zb ?_ | refine blk_alloc ?_ _)); refine blk_put (cs := #[.slice none 0 0]) ?_ 0 _ rfl; (with_reducible repeat (first | refine Za ?_ _ | refine Zb ?_ | refine blk_alloc ?_ _)); exact BK530.out) hb); have n3_ := Zh (Zl Zs hb); clear BK528; clear BK529; clear BK530; clear HB; have BK528 := n0_; have BK529 := n1_; have BK530 := n2_; have HB := n3_; clear n0_ n1_ n2_ n3_; (try clear hb); (try clear hb2); (try clear hk); (try clear hi); have hcz55_0 : w54.cell? ⟨gb530, 0, none⟩ = some (.slice none 0 0) := (blk_cell BK530.out 0).trans rfl; have hfz55_0 := Zn BK530.out 0; have hcz56_0 : w54.cell? ⟨gb529, 0, none⟩ = some (.slice none 0 0) := (blk_cell BK529.out 0).trans rfl; have hfz56_0 := Zn BK529.out 0))
 refine bodyPost_ret (results_cell_row rfl _ _ gb529 29 #[.slice none 0 0] (0, 0) _ rfl (by (with_reducible repeat (first | refine Za ?_ _ | refine Zb ?_ | refine blk_alloc ?_ _)); refine blk_put (cs := #[.slice none 0 0]) ?_ 0 _ rfl; (with_reducible repeat (first | refine Za ?_ _ | refine Zb ?_ | refine blk_alloc ?_ _)); exact BK529.out) Tryd.underlying29 rfl (by kernel_rfl)) rfl ?_
 exact ⟨_, by first | rfl | (simp [errW_none, errW_some] <;> rfl) | (simp [*, errW_none, errW_some] <;> rfl), by first | exact S_nil _ _ _ _ _ | exact N_nil _ _ _ _ _ | exact V_nil _ _ _ _ _ | exact Q_nil _ _ _ _ _ | exact R_nil _ _ _ _ _, by repeat (first | (with_reducible first | exact HB.out | apply Zf | apply Zd | apply Ze | refine Zg ?_ GE528.out | refine Zg ?_ GE529.out | refine Zg ?_ GE530.out) | exact HB.out)⟩
end Go.Proofs.YtmgeffgcihfpcaaDoor.F

namespace Go.Proofs.YtmgeffgcihfpcaaDoor.F
open Go.RowKit Go.Proofs.YtmgeffgcihfpcaaDoorW.PrintWords Go.Proofs.YtmgeffgcihfpcaaDoorW.PrintWords.Kd Go.Proofs.YtmgeffgcihfpcaaDoorW.PrintMore.Kd Go.Proofs.YtmgeffgcihfpcaaDoorW.PrintLast Go.Proofs.YtmgeffgcihfpcaaDoorW.PrintMore
attribute [local go_sem] max2_int min2_int max_two min_two max_three min_three max_four min_four   -- for this text's walks alone
set_option linter.unusedVariables false
set_option linter.unusedSimpArgs false
def laws_toIntS.l0 : Nat → List Int → List Int → Int → Option (List Int)
 | 0, _, _, _ => none
 | k + 1, x0, x3, x4 => if x4 < (x0.length : Int) then (if 0 ≤ x4 then (if x4 < (x3.length : Int) then (laws_toIntS.l0 k x0 (x3.set (x4 : Int).toNat (rd x0 x4)) (wrap64 (x4 + 1))) else (none)) else (none)) else (some x3)
def laws_toIntS.f (k : Nat) (l0 : List Int) : Option (List Int) := if 0 ≤ (l0.length : Int) then (if ((l0.length : Int) : Int).toNat ≤ 35184372088832 then (laws_toIntS.l0 k l0 (List.replicate ((l0.length : Int) : Int).toNat 0) 0) else (none)) else (none)
set_option maxHeartbeats 8000000 in
set_option maxRecDepth 100000 in
theorem laws_toIntS.calls (k : Nat) (A0 : Option Addr) (c0 : Nat) (l0 : List Int) (r : List Int) (w : World) (hr0 : Kd.C (Kd.int .i64) w A0 l0.length l0) (hc0 : l0.length ≤ c0) (h : laws_toIntS.f k l0 = some r) :
  Calls Tryd.prog 33 #[.slice A0 l0.length c0] w fun e w' => ∃ v0_ : Value, e = .returned (v0_) ∧ Kd.R (Kd.int .i64) 3 w' w.heap.size (fun _ => True) v0_ r ∧ Below w.heap.size w w' := by
 have HR0 := Zh hr0
 have HC0 := Zh hc0
 clear hr0 hc0
 have HB := Zh (Below.refl w.heap.size w)
 have H : (if 0 ≤ (l0.length : Int) then (if ((l0.length : Int) : Int).toNat ≤ 35184372088832 then (laws_toIntS.l0 k l0 (List.replicate ((l0.length : Int) : Int).toNat 0) 0) else (none)) else (none)) = some r := h
 clear h
 by_cases c2 : 0 ≤ (l0.length : Int)
 ·
  rw [if_pos c2] at H
  have c2b0 := eq_true c2
  have c2b1 : decide (0 ≤ (l0.length : Int)) = true := decide_eq_true c2
  clear c2
  by_cases c3 : ((l0.length : Int) : Int).toNat ≤ 35184372088832
  ·
   rw [if_pos c3] at H
   have c3b0 := eq_true c3
   have c3b1 : decide (((l0.length : Int) : Int).toNat ≤ 35184372088832) = true := decide_eq_true c3
   clear c3
   obtain ⟨y545, hy545⟩ : ∃ y_ : List Int, y_ = (List.replicate ((l0.length : Int) : Int).toNat 0) := ⟨_, rfl⟩
   replace H : (laws_toIntS.l0 k l0 y545 0) = some r := by first | (rw [hy545]; with_reducible exact H) | (have H2_ := (Option.bind_some _ _).symm.trans H; rw [hy545]; with_reducible exact H2_) | (have H2_ := (Option.bind_some _ _).symm.trans H; with_reducible exact H2_) | with_reducible exact H | (rw [hy545]; exact H) | exact H
   have Ny545 := Zh hy545
   clear hy545
   have H' := Zh H
   clear H
   go_enter Tryd.func33, Tryd.ntmps33
   go_wp2_with (first | ((with_reducible refine gate_dst (N := 7) rfl ?_); refine R_make (Kd.int .i64) _ 3 rfl (N := 7) rfl 44 _ _ rfl (l0.length : Int) rfl rfl Tryd.underlying44 (.int .i64 0) 8 info3 rfl (by decide) (by omega) 0 (ok := fun _ => True) (okp := fun _ => True) rfl (fun _ hk => hk) trivial (Zo) (Nat.le_trans (Nat.mul_le_mul_right _ (Zo : (l0.length : Int).toNat ≤ 35184372088832)) (by omega)) (Below.refl _ _) (Nat.le_refl _) ?_; intro v546 w4 ho5 hb hg_ hnew_; clear hg_ hnew_; (first | rw [← Ny545.out] at ho5 | (simp only [Int.reduceToNat] at ho5; rw [← Ny545.out] at ho5)); have n0_ := Zh (R_lower ho5 (below_size Zs)); have n1_ := Zh (Zl Zs hb); clear HB; have HO547 := n0_; have HB := n1_; clear n0_ n1_; clear hb ho5))
   go_loopg [4] k (fun kq v4 w' => ∃ (x3_1 : List Int) (x4_1 : Int), v4 = .int .i64 x4_1 ∧ Aside0 (laws_toIntS.l0 kq l0 x3_1 x4_1 = some r) ∧ Aside0 (kq ≤ k) ∧ Aside0 (Kd.R (Kd.int .i64) 3 w' w.heap.size (fun _ => True) v546 x3_1) ∧ Aside0 (Below w.heap.size w w'))
   case atStart => exact ⟨(y545), (0), (by first | rfl | (simp; done) | (simp [*]; done)), H', ⟨Nat.le_refl _⟩, ⟨by (with_reducible repeat (first | apply R_alloc | apply R_drewN | apply R_drew)); exact HO547.out⟩, ⟨by repeat (first | (with_reducible first | exact HB.out | apply Zf | apply Zd | apply Ze) | exact HB.out)⟩⟩
   case round =>
    clear H'
    try clear c2
    try clear c2b0
    try clear c2b1
    try clear p2
    try clear c3
    try clear c3b0
    try clear c3b1
    obtain ⟨x3_1, x4_1, rfl, HA, HK1, HO_3, HB⟩ := hrel
    cases gk with
    | zero => exact absurd HA.out (by simp [laws_toIntS.l0])
    | succ k1 =>
     have H := HA.out
     clear HA
     simp only [laws_toIntS.l0] at H
     by_cases c6 : x4_1 < (l0.length : Int)
     ·
      rw [if_pos c6] at H
      have c6b0 : decide (x4_1 < (l0.length : Int)) = true := decide_eq_true c6
      clear c6
      by_cases c7 : 0 ≤ x4_1
      ·
       rw [if_pos c7] at H
       have c7b0 : decide (0 ≤ x4_1) = true := decide_eq_true c7
       clear c7
       by_cases c8 : x4_1 < (x3_1.length : Int)
       ·
        rw [if_pos c8] at H
        have c8b0 : decide (x4_1 < (x3_1.length : Int)) = true := decide_eq_true c8
        clear c8
        obtain ⟨y549, hy549⟩ : ∃ y_ : List Int, y_ = (x3_1.set (x4_1 : Int).toNat (rd l0 x4_1)) := ⟨_, rfl⟩
        replace H : (laws_toIntS.l0 k1 l0 y549 (wrap64 (x4_1 + 1))) = some r := by first | (rw [hy549]; with_reducible exact H) | (have H2_ := (Option.bind_some _ _).symm.trans H; rw [hy549]; with_reducible exact H2_) | (have H2_ := (Option.bind_some _ _).symm.trans H; with_reducible exact H2_) | with_reducible exact H | (rw [hy549]; exact H) | exact H
        have Ny549 := Zh hy549
        clear hy549
        have H' := Zh H
        clear H
        have p548 : 0 ≤ (x4_1 : Int) := Zo
        have q548 : x4_1 < (l0.length : Int) := Zo
        obtain ⟨ad548, e548, hx548_0⟩ := Kd.at_int HR0.out x4_1 p548 q548
        cases e548
        replace hx548_0 := Zc HB.out hx548_0
        replace p548 := eq_true p548
        replace q548 := eq_true q548
        have p9 : 0 ≤ (x4_1 : Int) := Zo
        have q9 : (x4_1 : Int) < ((x3_1.length : Int) : Int) := Zo
        obtain ⟨go9, co9, eo9, gb9, gl9, cl9, HG9⟩ := R_form HO_3.out (by omega)
        (first | cases eo9 | (injection eo9 with ea_ en_ ec_; (first | subst ea_ | (injection ea_ with ea_; subst ea_)); subst ec_; clear en_))
        have GB9 := Zh gb9
        have GG9 := Zh HG9
        clear gb9 gl9 HG9
        obtain ⟨hx9_0, hf9_0⟩ := R_celln 0 HO_3.out (x4_1 : Int) p9 q9
        replace p9 := eq_true p9
        replace q9 := eq_true q9
        have HP10 := R_putg HO_3.out (x4_1 : Int) (rd l0 x4_1)
        go_wp2_with (first | ((with_reducible refine gate_store (t := 3) (p := 20) rfl ?_); refine store_event (t := 3) (p := 20) (v := ?vo_w11) (w1 := (wr.setCell ⟨go9, (x4_1 : Int).toNat, none⟩ (.int .i64 (rd l0 x4_1)))) ?hg ?ho ?hn ?hr ?_; (case ho => rfl); (case hg => rfl); (case hn => rfl); (case hr => first | (go_simp; done) | (go_simp; rfl)); intro w11 hw; have hg : wr.grownBy w11 (some go9) := (by rw [hw]; exact HP10.2); have hp_ : Kd.R (Kd.int .i64) 3 w11 w.heap.size (fun _ => True) (.slice (some ⟨go9, 0, none⟩) x3_1.length co9) y549 := (by rw [hw, Ny549.out]; exact HP10.1); clear HP10; have n0_ := Zh (hp_); have n1_ := Zh ((by rw [hw]; exact Zg (HB.out) GB9.out : Below w.heap.size w w11)); clear HO_3; clear HB; have HO_3 := n0_; have HB := n1_; clear n0_ n1_; clear hg hw hp_))
        go_roundg k1
        case measure => have := HK1.out; omega
        case rel => exact ⟨(y549), (wrap64 (x4_1 + 1)), (by first | rfl | (simp; done) | (simp [*]; done)), H', ⟨by have := HK1.out; omega⟩, ⟨by (with_reducible repeat (first | apply R_alloc | apply R_drewN | apply R_drew)); exact HO_3.out⟩, ⟨by repeat (first | (with_reducible first | exact HB.out | apply Zf | apply Zd | apply Ze) | exact HB.out)⟩⟩
       rw [if_neg c8] at H
       exact absurd H (by simp)
      rw [if_neg c7] at H
      exact absurd H (by simp)
     rw [if_neg c6] at H
     have c6b0 : decide (x4_1 < (l0.length : Int)) = false := decide_eq_false c6
     clear c6
     obtain rfl := Option.some.inj H
     go_wp2
     go_ret
     exact ⟨_, by first | rfl | (simp [errW_none, errW_some] <;> rfl) | (simp [*, errW_none, errW_some] <;> rfl), by (with_reducible repeat (first | apply R_alloc | apply R_drewN | apply R_drew)); exact HO_3.out, by repeat (first | (with_reducible first | exact HB.out | apply Zf | apply Zd | apply Ze) | exact HB.out)⟩
  rw [if_neg c3] at H
  exact absurd H (by simp)
 rw [if_neg c2] at H
 exact absurd H (by simp)
def laws_eqIntS.l0 : Nat → List Int → List Int → Int → Option (Bool)
 | 0, _, _, _ => none
 | k + 1, x0, x1, x5 => if x5 < (x0.length : Int) then (if 0 ≤ x5 then (if x5 < (x1.length : Int) then (if (rd x0 x5) = (rd x1 x5) then (laws_eqIntS.l0 k x0 x1 (wrap64 (x5 + 1))) else (some false)) else (none)) else (none)) else (some true)
def laws_eqIntS.f (k : Nat) (l0 : List Int) (l1 : List Int) : Option (Bool) := if (l0.length : Int) = (l1.length : Int) then (laws_eqIntS.l0 k l0 l1 0) else (some false)
set_option maxHeartbeats 8000000 in
set_option maxRecDepth 100000 in
theorem laws_eqIntS.calls (k : Nat) (A0 : Option Addr) (c0 : Nat) (l0 : List Int) (A1 : Option Addr) (c1 : Nat) (l1 : List Int) (r : Bool) (w : World) (hr0 : Kd.C (Kd.int .i64) w A0 l0.length l0) (hc0 : l0.length ≤ c0) (hr1 : Kd.C (Kd.int .i64) w A1 l1.length l1) (hc1 : l1.length ≤ c1) (h : laws_eqIntS.f k l0 l1 = some r) :
  Calls Tryd.prog 35 #[.slice A0 l0.length c0, .slice A1 l1.length c1] w fun e w' => e = .returned (.bool r) ∧ Drawn0 w w' := by
 have HR0 := Zh hr0
 have HC0 := Zh hc0
 clear hr0 hc0
 have HR1 := Zh hr1
 have HC1 := Zh hc1
 clear hr1 hc1
 have H : (if (l0.length : Int) = (l1.length : Int) then (laws_eqIntS.l0 k l0 l1 0) else (some false)) = some r := h
 clear h
 by_cases c3 : (l0.length : Int) = (l1.length : Int)
 ·
  rw [if_pos c3] at H
  have c3b0 : ((l0.length : Int) == (l1.length : Int)) = true := beq_iff_eq.mpr c3
  have c3b1 : ((l0.length : Int) != (l1.length : Int)) = false := bne_eq_false_iff_eq.mpr c3
  have c3b2 : (l0.length == l1.length) = true := by first | simpa using c3 | (simp at c3 ⊢; omega)
  clear c3
  have H' := Zh H
  clear H
  go_enter Tryd.func35, Tryd.ntmps35
  go_wp2
  repeat (go_quiet (fail); try go_wp2)
  go_loopg [5] k (fun kq v5 w' => ∃ (x5_1 : Int), v5 = .int .i64 x5_1 ∧ Aside0 (laws_eqIntS.l0 kq l0 l1 x5_1 = some r) ∧ Aside0 (kq ≤ k) ∧ Drawn0 w w')
  case atStart => exact ⟨(0), (by first | rfl | (simp; done) | (simp [*]; done)), H', ⟨Nat.le_refl _⟩, by repeat (first | exact Drawn0.refl _ | apply Drawn0.step)⟩
  case round =>
   clear H'
   try clear c1
   try clear p2
   try clear c3
   try clear c3b0
   try clear c3b1
   try clear c3b2
   obtain ⟨x5_1, rfl, HA, HK1, ⟨m1, rfl⟩⟩ := hrel
   cases gk with
   | zero => exact absurd HA.out (by simp [laws_eqIntS.l0])
   | succ k1 =>
    have H := HA.out
    clear HA
    simp only [laws_eqIntS.l0] at H
    by_cases c4 : x5_1 < (l0.length : Int)
    ·
     rw [if_pos c4] at H
     have c4b0 : decide (x5_1 < (l0.length : Int)) = true := decide_eq_true c4
     clear c4
     by_cases c5 : 0 ≤ x5_1
     ·
      rw [if_pos c5] at H
      have c5b0 : decide (0 ≤ x5_1) = true := decide_eq_true c5
      clear c5
      by_cases c6 : x5_1 < (l1.length : Int)
      ·
       rw [if_pos c6] at H
       have c6b0 : decide (x5_1 < (l1.length : Int)) = true := decide_eq_true c6
       clear c6
       by_cases c7 : (rd l0 x5_1) = (rd l1 x5_1)
       ·
        rw [if_pos c7] at H
        have c7b0 : ((rd l0 x5_1) == (rd l1 x5_1)) = true := beq_iff_eq.mpr c7
        have c7b1 : ((rd l0 x5_1) != (rd l1 x5_1)) = false := bne_eq_false_iff_eq.mpr c7
        clear c7
        have H' := Zh H
        clear H
        have p569 : 0 ≤ (x5_1 : Int) := Zo
        have q569 : x5_1 < (l0.length : Int) := Zo
        obtain ⟨ad569, e569, hx569_0⟩ := Kd.at_int HR0.out x5_1 p569 q569
        cases e569
        replace p569 := eq_true p569
        replace q569 := eq_true q569
        have p570 : 0 ≤ (x5_1 : Int) := Zo
        have q570 : x5_1 < (l1.length : Int) := Zo
        obtain ⟨ad570, e570, hx570_0⟩ := Kd.at_int HR1.out x5_1 p570 q570
        cases e570
        replace p570 := eq_true p570
        replace q570 := eq_true q570
        go_wp2
        repeat (go_quiet (fail); try go_wp2)
        go_roundg k1
        case measure => have := HK1.out; omega
        case rel => exact ⟨(wrap64 (x5_1 + 1)), (by first | rfl | (simp; done) | (simp [*]; done)), H', ⟨by have := HK1.out; omega⟩, by repeat (first | exact Drawn0.refl _ | apply Drawn0.step)⟩
       rw [if_neg c7] at H
       have c7b0 : ((rd l0 x5_1) == (rd l1 x5_1)) = false := beq_eq_false_iff_ne.mpr c7
       have c7b1 : ((rd l0 x5_1) != (rd l1 x5_1)) = true := bne_iff_ne.mpr c7
       obtain rfl := Option.some.inj H
       have p569 : 0 ≤ (x5_1 : Int) := Zo
       have q569 : x5_1 < (l0.length : Int) := Zo
       obtain ⟨ad569, e569, hx569_0⟩ := Kd.at_int HR0.out x5_1 p569 q569
       cases e569
       replace p569 := eq_true p569
       replace q569 := eq_true q569
       have p570 : 0 ≤ (x5_1 : Int) := Zo
       have q570 : x5_1 < (l1.length : Int) := Zo
       obtain ⟨ad570, e570, hx570_0⟩ := Kd.at_int HR1.out x5_1 p570 q570
       cases e570
       replace p570 := eq_true p570
       replace q570 := eq_true q570
       go_wp2
       repeat (go_quiet (fail); try go_wp2)
       go_ret
       exact ⟨by first | rfl | (simp; done) | (simp [*]; done), by repeat (first | exact Drawn0.refl _ | apply Drawn0.step)⟩
      rw [if_neg c6] at H
      exact absurd H (by simp)
     rw [if_neg c5] at H
     exact absurd H (by simp)
    rw [if_neg c4] at H
    have c4b0 : decide (x5_1 < (l0.length : Int)) = false := decide_eq_false c4
    clear c4
    obtain rfl := Option.some.inj H
    go_wp2
    repeat (go_quiet (fail); try go_wp2)
    go_ret
    exact ⟨by first | rfl | (simp; done) | (simp [*]; done), by repeat (first | exact Drawn0.refl _ | apply Drawn0.step)⟩
 rw [if_neg c3] at H
 have c3b0 : ((l0.length : Int) == (l1.length : Int)) = false := beq_eq_false_iff_ne.mpr c3
 have c3b1 : ((l0.length : Int) != (l1.length : Int)) = true := bne_iff_ne.mpr c3
 have c3b2 : (l0.length == l1.length) = false := by first | simpa using c3 | (simp at c3 ⊢; omega)
 obtain rfl := Option.some.inj H
 go_enter Tryd.func35, Tryd.ntmps35
 go_wp2
 repeat (go_quiet (fail); try go_wp2)
 go_ret
 exact ⟨by first | rfl | (simp; done) | (simp [*]; done), by repeat (first | exact Drawn0.refl _ | apply Drawn0.step)⟩
end Go.Proofs.YtmgeffgcihfpcaaDoor.F
