/- Merged texts below the law FnCompact: Go functions as Lean functions, their contracts, and plain lemmas. -/
import Derived.Test.YtcgojdhbphocgaaDoorQFnCompact23
import Derived.Shelf.Abstract
import Derived.BigQuiet
import Derived.Test.YtcgojdhbphocgaaDoorQFnCompact14
import Derived.Deep.DeepCutAuto
namespace Go.Proofs.YtcgojdhbphocgaaDoor.F
open Go.RowKit Go.Proofs.YtcgojdhbphocgaaDoorW.PrintWords Go.Proofs.YtcgojdhbphocgaaDoorW.PrintLast Go.Proofs.YtcgojdhbphocgaaDoorW.PrintMore
set_option linter.unusedVariables false
set_option linter.unusedSimpArgs false
def PredF (g : Nat) (lb : Array Value) (p : ByteArray → Bool) (w : World) : Prop := ∀ w1 : World, Below w.heap.size w w1 → ∀ (s : ByteArray) (v1 v2 : Value), Calls Tryd.prog g (#[.agg #[.string s, v1, v2]] ++ lb) w1 fun e w' => e = .returned (.bool (p s)) ∧ Below w1.heap.size w1 w'
def idxF (p : ByteArray → Bool) : List S55 → Int → Int
  | [], _ => -1
  | x :: t, i => if p x.f0 = true then i else idxF p t (i + 1)
set_option maxHeartbeats 4000000 in
theorem indexFile.calls (g : Nat) (lb : Array Value) (p : ByteArray → Bool) (eg : ∀ args w, (callFunc g args).run Tryd.prog w = .ok (.enter g args) w) (A : Option Addr) (c : Nat) (l : List S55) (w : World) (hr : Kd.C k55 w A l.length l) (hl : l.length ≤ 9223372036854775807) (hp : PredF g lb p w) :
    Calls Tryd.prog 102 #[.slice A l.length c, .func (.func g) #[] lb] w fun e w' => e = .returned (.int .i64 (idxF p l 0)) ∧ Below w.heap.size w w' := by
  have HR0 := Zh hr
  clear hr
  have HP := Zh hp
  clear hp
  have hu55 := Tryd.underlying55
  go_enter Tryd.func102, Tryd.ntmps102
  go_wp2
  go_loopg [5, 8] l.length (fun gg _ v8 w' => ∃ kk : Nat, kk ≤ l.length ∧ l.length - kk ≤ gg ∧ v8 = .int .i64 kk ∧ Aside0 (Below w.heap.size w w') ∧ Aside0 (idxF p (l.drop kk) kk = idxF p l 0))
  case atStart => exact ⟨0, Nat.zero_le _, by omega, rfl, ⟨Below.refl _ _⟩, ⟨rfl⟩⟩
  case round =>
    obtain ⟨kk, hkk, hg, rfl, HB, HA⟩ := hrel
    by_cases hlt : kk < l.length
    · have hltz : (kk : Int) < (l.length : Int) := by omega
      obtain ⟨ad, A1, c1, A2, c2, e, hx0, hx1, hx2, _, _, _, _⟩ := at_T55 HR0.out (kk : Int) (by omega) (by omega)
      cases e
      replace hx0 := (HB.out.cell (Zi w _ hx0)).trans hx0
      replace hx1 := (HB.out.cell (Zi w _ hx1)).trans hx1
      replace hx2 := (HB.out.cell (Zi w _ hx2)).trans hx2
      rw [Int.toNat_natCast] at hx0 hx1 hx2
      have hrd : rd_T55 l (kk : Int) = l[kk] := by simp [rd_T55, List.getD_eq_getElem?_getD, List.getElem?_eq_getElem hlt]
      have hA := HA.out
      rw [List.drop_eq_getElem_cons hlt] at hA
      rw [hrd] at hx0 hx1 hx2
      clear HA hrd
      generalize l[kk] = y at hx0 hx1 hx2 hA
      have hcall := HP.out wr HB.out y.f0 (.slice A1 y.f1.length c1) (.slice A2 y.f2.length c2)
      cases hq : p y.f0 with
      | true =>
        simp only [idxF, hq, if_true] at hA
        rw [hq] at hcall
        have HA := Zh hA
        clear hA
        go_wp2_with (go_at_fn g; refine hcall.mono ?_; rintro e w' ⟨rfl, hb⟩; replace HB := Zh (Zl HB.out hb); clear hb)
        go_ret
        exact ⟨by rw [← HA.out]; rfl, HB.out⟩
      | false =>
        simp only [idxF, hq, Bool.false_eq_true, if_false] at hA
        rw [hq] at hcall
        have HA := Zh hA
        clear hA
        go_wp2_with (go_at_fn g; refine hcall.mono ?_; rintro e w' ⟨rfl, hb⟩; replace HB := Zh (Zl HB.out hb); clear hb)
        go_roundg (l.length - (kk + 1))
        case measure => omega
        case rel => exact ⟨kk + 1, by omega, by omega, by go_num, HB, ⟨by have := HA.out; simpa using this⟩⟩
    have hltz : ¬ (kk : Int) < (l.length : Int) := by omega
    have : kk = l.length := by omega
    subst this
    go_wp2
    go_ret
    refine ⟨?_, HB.out⟩
    rw [← HA.out, List.drop_length]
    rfl
set_option maxHeartbeats 4000000 in
theorem fileOf1.pred (B : Nat) (name : ByteArray) (w : World) (hb : w.cell? ⟨B, 0, none⟩ = some (.string name)) : PredF 103 #[.pointer (some ⟨B, 0, none⟩)] (fun s => s.toList == name.toList) w := by
  intro w1 hB s v1 v2
  have hlt := Nat.lt_of_lt_of_le (Zi w _ hb) hB.size
  have hx := (hB.cell (Zi w _ hb)).trans hb
  clear hb hB
  have hu55 := Tryd.underlying55
  have hlt2 : B < w1.heap.size := hlt
  clear hlt
  go_enter Tryd.func103, Tryd.ntmps103
  go_wp2
  go_ret
  exact ⟨rfl, Zf (Below.refl _ _) _⟩
def impl_fileOf.f (l0_0 : List S55) (a1 : ByteArray) : Option Int := if l0_0.length ≤ 9223372036854775807 then some (idxF (fun s => s.toList == a1.toList) l0_0 0) else none
set_option maxHeartbeats 4000000 in
theorem impl_fileOf.calls (A0_0 : Option Addr) (c0_0 : Nat) (l0_0 : List S55) (a1 : ByteArray) (r : Int) (w : World) (hr0_0 : Kd.C k55 w A0_0 l0_0.length l0_0) (hc0_0 : l0_0.length ≤ c0_0) (h : impl_fileOf.f l0_0 a1 = some r) :
    Calls Tryd.prog 74 #[.agg #[.slice A0_0 l0_0.length c0_0], .string a1] w fun e w' => e = .returned (.int .i64 r) ∧ Below w.heap.size w w' := by
  unfold impl_fileOf.f at h
  split at h
  · rename_i hl
    have h := Option.some.inj h
    subst h
    have HR := Zh hr0_0
    have HL := Zh hl
    clear hr0_0 hl
    have e6 : ∀ args w, (callFunc 102 args).run Tryd.prog w = .ok (.enter 102 args) w := enters_of Tryd.func102 (by kernel_rfl) rfl
    have e7 : ∀ args w, (callFunc 103 args).run Tryd.prog w = .ok (.enter 103 args) w := enters_of Tryd.func103 (by kernel_rfl) rfl
    have hmf : ∀ (fn : Fn) (first cap : Array Value) (w : World), (Instr.makeFunc fn first cap).run Tryd.prog w = .ok (.func fn first cap) w := fun _ _ _ _ => rfl
    have hcall := indexFile.calls 103 #[.pointer (some ⟨w.heap.size + 1, 0, none⟩)] (fun s => s.toList == a1.toList) e7 A0_0 c0_0 l0_0 ((w.alloc (.cells #[.slice A0_0 l0_0.length c0_0] 28)).alloc (.cells #[.string a1] 9)) (Kd.C_alloc (Kd.C_alloc HR.out _) _) HL.out (fileOf1.pred _ _ _ (by simp))
    go_enter Tryd.func74, Tryd.ntmps74
    go_wp2_with (go_at_fn 102; refine hcall.mono ?_; rintro e w' ⟨rfl, hb⟩)
    go_ret
    exact ⟨rfl, Zl (Zf (Zf (Below.refl _ _) _) _) hb⟩
  cases h
end Go.Proofs.YtcgojdhbphocgaaDoor.F

namespace Go.Proofs.YtcgojdhbphocgaaDoor.F
open Go.RowKit Go.Proofs.YtcgojdhbphocgaaDoorW.PrintWords Go.Proofs.YtcgojdhbphocgaaDoorW.PrintWords.Kd Go.Proofs.YtcgojdhbphocgaaDoorW.PrintMore.Kd Go.Proofs.YtcgojdhbphocgaaDoorW.PrintLast Go.Proofs.YtcgojdhbphocgaaDoorW.PrintMore
attribute [local go_sem] max2_int min2_int max_two min_two max_three min_three max_four min_four   -- for this text's walks alone
set_option linter.unusedVariables false
set_option linter.unusedSimpArgs false
mutual
def impl_walRead.j0 : Nat → Int → Bool → List (S55) → Option ((List (List Int)) × Int × Int)
 | 0, _, _, _ => none
 | k + 1, x5, x18, x406000 => if x18 = true then (some (([] : List (List Int)), 0, 3)) else (if 0 ≤ x5 then (if x5 < (x406000.length : Int) then ((impl_File_content.f ((rd_T55 x406000 x5).f0) ((rd_T55 x406000 x5).f1) ((rd_T55 x406000 x5).f2)).bind fun t409 => ((impl_scanFrames.f k t409).bind fun bt412 => (if bt412.2 = (t409.length : Int) then (some (bt412.1, bt412.2, 0)) else (impl_walRead.l0 k t409 bt412.1 bt412.2 (wrap64 (bt412.2 + 1)))))) else (none)) else (none))
def impl_walRead.l0 : Nat → List Int → List (List Int) → Int → Int → Option ((List (List Int)) × Int × Int)
 | 0, _, _, _, _ => none
 | k + 1, x6, x7, x8, x9 => if x9 < (x6.length : Int) then (if 0 ≤ x9 then (if x9 ≤ (x6.length : Int) then ((impl_beginsFrame.f k (x6.drop (x9 : Int).toNat)).bind fun t420 => (if t420 = true then (some (x7, x8, 2)) else (impl_walRead.l0 k x6 x7 x8 (wrap64 (x9 + 1))))) else (none)) else (none)) else (some (x7, x8, 1))
end
def impl_walRead.f (k : Nat) (l0_0 : List (S55)) : Option ((List (List Int)) × Int × Int) := (impl_fileOf.f l0_0 (⟨#[108, 111, 103]⟩ : ByteArray)).bind fun t406 => ((impl_isDisk.f k l0_0).bind fun t407 => (if t407 = true then (impl_walRead.j0 k t406 (decide (t406 < 0)) l0_0) else (impl_walRead.j0 k t406 true l0_0)))
set_option maxHeartbeats 8000000 in
set_option maxRecDepth 100000 in
theorem impl_walRead.calls (k : Nat) (A0_0 : Option Addr) (c0_0 : Nat) (l0_0 : List (S55)) (r1 : List (List Int)) (r2 : Int) (r3 : Int) (w : World) (hr0_0 : Kd.C k55 w A0_0 l0_0.length l0_0) (hc0_0 : l0_0.length ≤ c0_0) (h : impl_walRead.f k l0_0 = some (r1, r2, r3)) :
  Calls Tryd.prog 49 #[.agg #[.slice A0_0 l0_0.length c0_0]] w fun e w' => ∃ v0_ : Value, e = .returned (.tuple #[v0_, .int .i64 r2, .int .i64 r3]) ∧ Kd.S (Kd.slice 5 (Kd.int .u8)) 41 w' w.heap.size (fun _ => True) v0_ r1 ∧ Below w.heap.size w w' := by
 have hu28 := Tryd.underlying28
 have hu55 := Tryd.underlying55
 have HR0_0 := Zh hr0_0
 have HC0_0 := Zh hc0_0
 clear hr0_0 hc0_0
 have HB := Zh (Below.refl w.heap.size w)
 have H : ((impl_fileOf.f l0_0 (⟨#[108, 111, 103]⟩ : ByteArray)).bind fun t406 => ((impl_isDisk.f k l0_0).bind fun t407 => (if t407 = true then (impl_walRead.j0 k t406 (decide (t406 < 0)) l0_0) else (impl_walRead.j0 k t406 true l0_0)))) = some (r1, r2, r3) := h
 clear h
 replace H := Option.bind_eq_some_iff.mp H
 obtain ⟨t406, A20, H⟩ := H
 replace H : ((impl_isDisk.f k l0_0).bind fun t407 => (if t407 = true then (impl_walRead.j0 k t406 (decide (t406 < 0)) l0_0) else (impl_walRead.j0 k t406 true l0_0))) = some (r1, r2, r3) := H
 have A2 := Zh A20
 clear A20
 have HC3 := Zh H
 clear H
 go_enter Tryd.func49, Tryd.ntmps49
 go_upto_region 2 with (first | ((with_reducible refine gate_dst (N := 1) rfl ?_); refine box_event ?hg (N := 1) ?hd (cs := #[.slice A0_0 l0_0.length c0_0]) (t := 28) ?hr ?_; (case hd => rfl); (case hg => rfl); (case hr => first | (go_simp; done) | (go_simp; rfl)); intro gb405 hg w4 hbox hb; have BK405 := Zh (hbox); have GW405 := Zh ((by rw [hg]; exact (below_size Zs) : w.heap.size ≤ gb405)); have GE405 := Zh ((by rw [hg]; exact (below_size Zs) : w.heap.size ≤ gb405)); replace HB := Zh (Zl Zs hb); clear hb hbox hg; have hcz5_0 : w4.cell? ⟨gb405, 0, none⟩ = some (.slice A0_0 l0_0.length c0_0) := (blk_cell BK405.out 0).trans rfl; have hfz5_0 := Zn BK405.out 0) | ((with_reducible refine gate_callee (f := 74) rfl ?_); refine ZG (some 11) Tryd.func74 #[.agg #[.slice A0_0 l0_0.length c0_0], .string (⟨#[108, 111, 103]⟩ : ByteArray)] rfl ?_; (with_reducible refine (impl_fileOf.calls _ _ l0_0 (⟨#[108, 111, 103]⟩ : ByteArray) t406 _ ?side1 ?side2 A2.out).mono ?_); (case side1 => repeat (first | exact (C_below HR0_0.out HB.out) | (with_reducible refine C_alloc ?_ _) | (with_reducible refine C_drewN ?_ _) | (with_reducible refine C_drew ?_))); (case side2 => exact HC0_0.out); rintro e w6 ⟨rfl, hb⟩; refine ⟨_, rfl, ?_⟩; replace BK405 := Zh (Zm (g := gb405) (o := .cells #[.slice A0_0 l0_0.length c0_0] 28 (0, 0)) Zk hb); replace HB := Zh (Zl Zs hb); (try clear hb); (try clear hb2); (try clear hk); (try clear hi)))
 (try simp only [Act.put, List.setIfInBounds_toArray, List.set_cons_zero, List.set_cons_succ])
 go_cut [18] (fun v18 wc => ∃ (kq : Nat) (x18_2 : Bool), v18 = .bool x18_2 ∧ Aside0 (impl_walRead.j0 kq t406 x18_2 l0_0 = some (r1, r2, r3)) ∧ Aside0 (kq ≤ k) ∧ Aside0 (wc.heap[gb405]? = some (.cells #[(.slice A0_0 l0_0.length c0_0)] 28 (0, 0))) ∧ Aside0 (Below w.heap.size w wc))
 case first =>
  have H := HC3.out
  clear HC3
  replace H := Option.bind_eq_some_iff.mp H
  obtain ⟨t407, A70, H⟩ := H
  replace H : (if t407 = true then (impl_walRead.j0 k t406 (decide (t406 < 0)) l0_0) else (impl_walRead.j0 k t406 true l0_0)) = some (r1, r2, r3) := H
  have A7 := Zh A70
  clear A70
  by_cases c8 : t407 = true
  ·
   subst c8
   have H1 : (impl_walRead.j0 k t406 (decide (t406 < 0)) l0_0) = some (r1, r2, r3) := by rw [if_pos rfl] at H; exact H
   clear H
   have H := H1
   clear H1
   have H' := Zh H
   clear H
   have hcz9_0 : w6.cell? ⟨gb405, 0, none⟩ = some (.slice A0_0 l0_0.length c0_0) := (blk_cell BK405.out 0).trans rfl
   have hfz9_0 := Zn BK405.out 0
   go_wp2_with (first | ((with_reducible refine gate_callee (f := 72) rfl ?_); refine ZG (some 13) Tryd.func72 #[.agg #[.slice A0_0 l0_0.length c0_0]] rfl ?_; (with_reducible refine (impl_isDisk.calls k _ _ l0_0 true _ ?side1 ?side2 A7.out).mono ?_); (case side1 => repeat (first | exact (C_below HR0_0.out HB.out) | (with_reducible refine C_alloc ?_ _) | (with_reducible refine C_drewN ?_ _) | (with_reducible refine C_drew ?_))); (case side2 => exact HC0_0.out); rintro e w10 ⟨rfl, hb⟩; refine ⟨_, rfl, ?_⟩; replace BK405 := Zh (Zm (g := gb405) (o := .cells #[.slice A0_0 l0_0.length c0_0] 28 (0, 0)) Zk hb); replace HB := Zh (Zl Zs hb); (try clear hb); (try clear hb2); (try clear hk); (try clear hi)))
   go_meet
   case rel => exact ⟨_, (decide (t406 < 0)), (by first | rfl | (simp; done) | (simp [*]; done)), H', ⟨by first | omega | exact Nat.le_refl _⟩, ⟨Zk⟩, ⟨Zs⟩⟩
  replace c8 := Bool.eq_false_iff.mpr c8
  subst c8
  have H1 : (impl_walRead.j0 k t406 true l0_0) = some (r1, r2, r3) := by rw [if_neg (show ¬ (false = true) by decide)] at H; exact H
  clear H
  have H := H1
  clear H1
  have H' := Zh H
  clear H
  have hcz11_0 : w6.cell? ⟨gb405, 0, none⟩ = some (.slice A0_0 l0_0.length c0_0) := (blk_cell BK405.out 0).trans rfl
  have hfz11_0 := Zn BK405.out 0
  go_wp2_with (first | ((with_reducible refine gate_callee (f := 72) rfl ?_); refine ZG (some 13) Tryd.func72 #[.agg #[.slice A0_0 l0_0.length c0_0]] rfl ?_; (with_reducible refine (impl_isDisk.calls k _ _ l0_0 false _ ?side1 ?side2 A7.out).mono ?_); (case side1 => repeat (first | exact (C_below HR0_0.out HB.out) | (with_reducible refine C_alloc ?_ _) | (with_reducible refine C_drewN ?_ _) | (with_reducible refine C_drew ?_))); (case side2 => exact HC0_0.out); rintro e w12 ⟨rfl, hb⟩; refine ⟨_, rfl, ?_⟩; replace BK405 := Zh (Zm (g := gb405) (o := .cells #[.slice A0_0 l0_0.length c0_0] 28 (0, 0)) Zk hb); replace HB := Zh (Zl Zs hb); (try clear hb); (try clear hb2); (try clear hk); (try clear hi)))
  go_meet
  case rel => exact ⟨_, (true), (by first | rfl | (simp; done) | (simp [*]; done)), H', ⟨by first | omega | exact Nat.le_refl _⟩, ⟨Zk⟩, ⟨Zs⟩⟩
 case rest =>
  clear HC3
  try clear p2
  try clear c4
  try clear c7
  try clear c8
  try clear hcz11_0
  try clear hcz5_0
  try clear hcz9_0
  try clear hfz11_0
  try clear hfz5_0
  try clear hfz9_0
  obtain ⟨kq, x18_2, rfl, HA, HJ2, BK405, HB⟩ := hcut
  cases kq with
  | zero => exact absurd HA.out (by simp [impl_walRead.j0])
  | succ kj2 =>
   have H := HA.out
   clear HA
   simp only [impl_walRead.j0] at H
   by_cases c13 : x18_2 = true
   ·
    subst c13
    have H1 : (some (([] : List (List Int)), 0, 3)) = some (r1, r2, r3) := by rw [if_pos rfl] at H; exact H
    clear H
    have H := H1
    clear H1
    simp only [Option.some.injEq, Prod.mk.injEq] at H
    obtain ⟨rfl, rfl, rfl⟩ := H
    go_wp2
    go_ret3
    exact ⟨_, ZE, by first | exact S_nil _ _ _ _ _ | exact N_nil _ _ _ _ _ | exact V_nil _ _ _ _ _ | exact Q_nil _ _ _ _ _ | exact R_nil _ _ _ _ _, Zs⟩
   replace c13 := Bool.eq_false_iff.mpr c13
   subst c13
   have H1 : (if 0 ≤ t406 then (if t406 < (l0_0.length : Int) then ((impl_File_content.f ((rd_T55 l0_0 t406).f0) ((rd_T55 l0_0 t406).f1) ((rd_T55 l0_0 t406).f2)).bind fun t409 => ((impl_scanFrames.f kj2 t409).bind fun bt412 => (if bt412.2 = (t409.length : Int) then (some (bt412.1, bt412.2, 0)) else (impl_walRead.l0 kj2 t409 bt412.1 bt412.2 (wrap64 (bt412.2 + 1)))))) else (none)) else (none)) = some (r1, r2, r3) := by rw [if_neg (show ¬ (false = true) by decide)] at H; exact H
   clear H
   have H := H1
   clear H1
   by_cases c14 : 0 ≤ t406
   ·
    rw [if_pos c14] at H
    have c14b0 : decide (0 ≤ t406) = true := decide_eq_true c14
    clear c14
    by_cases c15 : t406 < (l0_0.length : Int)
    ·
     rw [if_pos c15] at H
     have c15b0 : decide (t406 < (l0_0.length : Int)) = true := decide_eq_true c15
     clear c15
     replace H := Option.bind_eq_some_iff.mp H
     obtain ⟨t409, A160, H⟩ := H
     replace H : ((impl_scanFrames.f kj2 t409).bind fun bt412 => (if bt412.2 = (t409.length : Int) then (some (bt412.1, bt412.2, 0)) else (impl_walRead.l0 kj2 t409 bt412.1 bt412.2 (wrap64 (bt412.2 + 1))))) = some (r1, r2, r3) := H
     have A16 := Zh A160
     clear A160
     replace H := Option.bind_eq_some_iff.mp H
     obtain ⟨⟨t412, t413⟩, A170, H⟩ := H
     replace H : (if t413 = (t409.length : Int) then (some (t412, t413, 0)) else (impl_walRead.l0 kj2 t409 t412 t413 (wrap64 (t413 + 1)))) = some (r1, r2, r3) := H
     have A17 := Zh A170
     clear A170
     by_cases c18 : t413 = (t409.length : Int)
     ·
      rw [if_pos c18] at H
      have c18b0 : (t413 == (t409.length : Int)) = true := beq_iff_eq.mpr c18
      have c18b1 : (t413 != (t409.length : Int)) = false := bne_eq_false_iff_eq.mpr c18
      clear c18
      simp only [Option.some.injEq, Prod.mk.injEq] at H
      obtain ⟨rfl, rfl, rfl⟩ := H
      have hcz19_0 : wc.cell? ⟨gb405, 0, none⟩ = some (.slice A0_0 l0_0.length c0_0) := (blk_cell BK405.out 0).trans rfl
      have hfz19_0 := Zn BK405.out 0
      have p408 : 0 ≤ (t406 : Int) := Zo
      have q408 : t406 < (l0_0.length : Int) := Zo
      obtain ⟨ad408, A408_1, c408_1, A408_2, c408_2, e408, hx408_0, hx408_1, hx408_2, hl408_1, hi408_1, hl408_2, hi408_2⟩ := at_T55 HR0_0.out t406 p408 q408
      cases e408
      replace hx408_0 := Zc HB.out hx408_0
      replace hx408_1 := Zc HB.out hx408_1
      replace hx408_2 := Zc HB.out hx408_2
      have HR408_1 := Zh hi408_1
      have HC408_1 := Zh hl408_1
      clear hi408_1 hl408_1
      have HR408_2 := Zh hi408_2
      have HC408_2 := Zh hl408_2
      clear hi408_2 hl408_2
      replace p408 := eq_true p408
      replace q408 := eq_true q408
      go_wp2_with (first | ((with_reducible refine gate_callee (f := 75) rfl ?_); refine ZG (some 24) Tryd.func75 #[.agg #[.string ((rd_T55 l0_0 t406).f0), .slice A408_1 ((rd_T55 l0_0 t406).f1).length c408_1, .slice A408_2 ((rd_T55 l0_0 t406).f2).length c408_2]] rfl ?_; (with_reducible refine (impl_File_content.calls ((rd_T55 l0_0 t406).f0) _ _ ((rd_T55 l0_0 t406).f1) _ _ ((rd_T55 l0_0 t406).f2) t409 _ ?side1 ?side2 ?side3 ?side4 A16.out).mono ?_); (case side1 => repeat (first | exact (C_below HR408_1.out HB.out) | (with_reducible refine C_alloc ?_ _) | (with_reducible refine C_drewN ?_ _) | (with_reducible refine C_drew ?_))); (case side2 => exact HC408_1.out); (case side3 => repeat (first | exact (C_below HR408_2.out HB.out) | (with_reducible refine C_alloc ?_ _) | (with_reducible refine C_drewN ?_ _) | (with_reducible refine C_drew ?_))); (case side4 => exact HC408_2.out); rintro e w20 ⟨v410, rfl, ho0, hb⟩; refine ⟨_, rfl, ?_⟩; have HO411 := Zh (R_lower ho0 (below_size Zs)); replace BK405 := Zh (Zm (g := gb405) (o := .cells #[.slice (some ad408) l0_0.length c0_0] 28 (0, 0)) Zk hb); replace HB := Zh (Zl Zs hb); (try clear hb); (try clear hb2); (try clear hk); (try clear hi); (try clear ho0); obtain ⟨Ao21, co21, eo21⟩ := R_slice HO411.out; subst eo21) | ((with_reducible refine gate_callee (f := 81) rfl ?_); refine ZG (some 27) Tryd.func81 #[.slice Ao21 t409.length co21] rfl ?_; (with_reducible refine (impl_scanFrames.calls kj2 _ _ t409 t412 t413 _ ?side1 ?side2 A17.out).mono ?_); (case side1 => repeat (first | exact (R_reads' HO411.out).2.2 | (with_reducible refine C_alloc ?_ _) | (with_reducible refine C_drewN ?_ _) | (with_reducible refine C_drew ?_))); (case side2 => exact (R_reads' HO411.out).2.1); rintro e w22 ⟨v414, rfl, ho0, hb⟩; refine ⟨_, rfl, ?_⟩; have HO415 := Zh (S_lower (S_new' ho0 (R_lt (ZR HO411.out))) (below_size Zs)); replace HO411 := Zh (R_below (ZR HO411.out) hb); replace BK405 := Zh (Zm (g := gb405) (o := .cells #[.slice (some ad408) l0_0.length c0_0] 28 (0, 0)) Zk hb); replace HB := Zh (Zl Zs hb); (try clear hb); (try clear hb2); (try clear hk); (try clear hi); (try clear ho0)))
      go_ret3
      exact ⟨_, ZE, ZS (S_mono HO415.out (fun _ hk => trivial)), Zs⟩
     rw [if_neg c18] at H
     have c18b0 : (t413 == (t409.length : Int)) = false := beq_eq_false_iff_ne.mpr c18
     have c18b1 : (t413 != (t409.length : Int)) = true := bne_iff_ne.mpr c18
     have H' := Zh H
     clear H
     have hcz23_0 : wc.cell? ⟨gb405, 0, none⟩ = some (.slice A0_0 l0_0.length c0_0) := (blk_cell BK405.out 0).trans rfl
     have hfz23_0 := Zn BK405.out 0
     have p408 : 0 ≤ (t406 : Int) := Zo
     have q408 : t406 < (l0_0.length : Int) := Zo
     obtain ⟨ad408, A408_1, c408_1, A408_2, c408_2, e408, hx408_0, hx408_1, hx408_2, hl408_1, hi408_1, hl408_2, hi408_2⟩ := at_T55 HR0_0.out t406 p408 q408
     cases e408
     replace hx408_0 := Zc HB.out hx408_0
     replace hx408_1 := Zc HB.out hx408_1
     replace hx408_2 := Zc HB.out hx408_2
     have HR408_1 := Zh hi408_1
     have HC408_1 := Zh hl408_1
     clear hi408_1 hl408_1
     have HR408_2 := Zh hi408_2
     have HC408_2 := Zh hl408_2
     clear hi408_2 hl408_2
     replace p408 := eq_true p408
     replace q408 := eq_true q408
     go_wp2_with (first | ((with_reducible refine gate_callee (f := 75) rfl ?_); refine ZG (some 24) Tryd.func75 #[.agg #[.string ((rd_T55 l0_0 t406).f0), .slice A408_1 ((rd_T55 l0_0 t406).f1).length c408_1, .slice A408_2 ((rd_T55 l0_0 t406).f2).length c408_2]] rfl ?_; (with_reducible refine (impl_File_content.calls ((rd_T55 l0_0 t406).f0) _ _ ((rd_T55 l0_0 t406).f1) _ _ ((rd_T55 l0_0 t406).f2) t409 _ ?side1 ?side2 ?side3 ?side4 A16.out).mono ?_); (case side1 => repeat (first | exact (C_below HR408_1.out HB.out) | (with_reducible refine C_alloc ?_ _) | (with_reducible refine C_drewN ?_ _) | (with_reducible refine C_drew ?_))); (case side2 => exact HC408_1.out); (case side3 => repeat (first | exact (C_below HR408_2.out HB.out) | (with_reducible refine C_alloc ?_ _) | (with_reducible refine C_drewN ?_ _) | (with_reducible refine C_drew ?_))); (case side4 => exact HC408_2.out); rintro e w24 ⟨v410, rfl, ho0, hb⟩; refine ⟨_, rfl, ?_⟩; have HO411 := Zh (R_lower ho0 (below_size Zs)); replace BK405 := Zh (Zm (g := gb405) (o := .cells #[.slice (some ad408) l0_0.length c0_0] 28 (0, 0)) Zk hb); replace HB := Zh (Zl Zs hb); (try clear hb); (try clear hb2); (try clear hk); (try clear hi); (try clear ho0); obtain ⟨Ao25, co25, eo25⟩ := R_slice HO411.out; subst eo25) | ((with_reducible refine gate_callee (f := 81) rfl ?_); refine ZG (some 27) Tryd.func81 #[.slice Ao25 t409.length co25] rfl ?_; (with_reducible refine (impl_scanFrames.calls kj2 _ _ t409 t412 t413 _ ?side1 ?side2 A17.out).mono ?_); (case side1 => repeat (first | exact (R_reads' HO411.out).2.2 | (with_reducible refine C_alloc ?_ _) | (with_reducible refine C_drewN ?_ _) | (with_reducible refine C_drew ?_))); (case side2 => exact (R_reads' HO411.out).2.1); rintro e w26 ⟨v414, rfl, ho0, hb⟩; refine ⟨_, rfl, ?_⟩; have HO415 := Zh (S_lower (S_new' ho0 (R_lt (ZR HO411.out))) (below_size Zs)); replace HO411 := Zh (R_below (ZR HO411.out) hb); replace BK405 := Zh (Zm (g := gb405) (o := .cells #[.slice (some ad408) l0_0.length c0_0] 28 (0, 0)) Zk hb); replace HB := Zh (Zl Zs hb); (try clear hb); (try clear hb2); (try clear hk); (try clear hi); (try clear ho0)))
     go_loopg [9] kj2 (fun kq v9 w' => ∃ (x9_2 : Int), v9 = .int .i64 x9_2 ∧ Aside0 (impl_walRead.l0 kq t409 t412 t413 x9_2 = some (r1, r2, r3)) ∧ Aside0 (kq ≤ kj2) ∧ Aside0 (Kd.R (Kd.int .u8) 5 w' w.heap.size (fun _ => True) (.slice Ao25 t409.length co25) t409) ∧ Aside0 (Kd.S (Kd.slice 5 (Kd.int .u8)) 41 w' w.heap.size (fun k_ => some k_ ≠ ((.slice Ao25 t409.length co25) : Value).ownBlock) v414 t412) ∧ Aside0 (w'.heap[gb405]? = some (.cells #[(.slice (some ad408) l0_0.length c0_0)] 28 (0, 0))) ∧ Aside0 (Below w.heap.size w w'))
     case atStart => exact ⟨(wrap64 (t413 + 1)), (by first | rfl | (simp; done) | (simp [*]; done)), H', ⟨Nat.le_refl _⟩, ⟨ZR HO411.out⟩, ⟨ZS (S_mono HO415.out (fun _ hk => hk.2))⟩, ⟨Zk⟩, ⟨Zs⟩⟩
     case round =>
      clear H'
      try clear c1
      try clear p2
      try clear c4
      try clear p4
      try clear q4
      try clear hx4
      try clear p6
      try clear c7
      try clear c8
      try clear c13
      try clear c14
      try clear c14b0
      try clear c15
      try clear c15b0
      try clear c18
      try clear c18b0
      try clear c18b1
      try clear hcz11_0
      try clear hcz19_0
      try clear hcz23_0
      try clear hcz5_0
      try clear hcz9_0
      try clear hfz11_0
      try clear hfz19_0
      try clear hfz23_0
      try clear hfz5_0
      try clear hfz9_0
      try clear hx408_0
      try clear hx408_1
      try clear hx408_2
      try clear p2
      try clear p408
      try clear q408
      obtain ⟨x9_2, rfl, HA, HK2, HO_6, HO_7, BK405, HB⟩ := hrel
      cases gk with
      | zero => exact absurd HA.out (by simp [impl_walRead.l0])
      | succ k2 =>
       have H := HA.out
       clear HA
       simp only [impl_walRead.l0] at H
       by_cases c27 : x9_2 < (t409.length : Int)
       ·
        rw [if_pos c27] at H
        have c27b0 : decide (x9_2 < (t409.length : Int)) = true := decide_eq_true c27
        clear c27
        by_cases c28 : 0 ≤ x9_2
        ·
         rw [if_pos c28] at H
         have c28b0 := eq_true c28
         have c28b1 : decide (0 ≤ x9_2) = true := decide_eq_true c28
         clear c28
         by_cases c29 : x9_2 ≤ (t409.length : Int)
         ·
          rw [if_pos c29] at H
          have c29b0 := eq_true c29
          have c29b1 : decide (x9_2 ≤ (t409.length : Int)) = true := decide_eq_true c29
          clear c29
          obtain ⟨y416, hy416⟩ : ∃ y_ : List Int, y_ = (t409.drop (x9_2 : Int).toNat) := ⟨_, rfl⟩
          replace H : ((impl_beginsFrame.f k2 y416).bind fun t420 => (if t420 = true then (some (t412, t413, 2)) else (impl_walRead.l0 k2 t409 t412 t413 (wrap64 (x9_2 + 1))))) = some (r1, r2, r3) := by first | (rw [hy416]; with_reducible exact H) | (have H2_ := (Option.bind_some _ _).symm.trans H; rw [hy416]; with_reducible exact H2_) | (have H2_ := (Option.bind_some _ _).symm.trans H; with_reducible exact H2_) | with_reducible exact H | (rw [hy416]; exact H) | exact H
          have Ny416 := Zh hy416
          clear hy416
          replace H := Option.bind_eq_some_iff.mp H
          obtain ⟨t420, A300, H⟩ := H
          replace H : (if t420 = true then (some (t412, t413, 2)) else (impl_walRead.l0 k2 t409 t412 t413 (wrap64 (x9_2 + 1)))) = some (r1, r2, r3) := H
          have A30 := Zh A300
          clear A300
          by_cases c31 : t420 = true
          ·
           subst c31
           have H1 : (some (t412, t413, 2)) = some (r1, r2, r3) := by rw [if_pos rfl] at H; exact H
           clear H
           have H := H1
           clear H1
           simp only [Option.some.injEq, Prod.mk.injEq] at H
           obtain ⟨rfl, rfl, rfl⟩ := H
           have q32 : (x9_2 : Int) ≤ ((t409.length : Int) : Int) := Zo
           obtain ⟨i032, hi032, _, hsz32, _⟩ := info_parts info5
           have hroom32 : t409.length ≤ co25 := (R_reads' HO_6.out).2.1
           have hC32 : Kd.C (Kd.int .u8) _ Ao25 t409.length t409 := (R_reads' HO_6.out).2.2
           have q032 : (0 : Int) ≤ (x9_2 : Int) := Zo
           have hcut32 := cut_from (P := Tryd.prog) 41 5 .i64 Tryd.underlying41 hi032 1 hsz32 Ao25 t409.length co25 x9_2 q032 q32
           have hr32 := C_drop (m := (x9_2 : Int).toNat) (c := co25) hC32 (by omega) hroom32
           obtain ⟨A32, hA32⟩ : ∃ A1, A1 = (if co25 = (x9_2 : Int).toNat then Ao25 else (Ao25 : Option Addr).map (·.add ((x9_2 : Int).toNat * 1))) := ⟨_, rfl⟩
           obtain ⟨c32, hc32⟩ : ∃ c1, c1 = co25 - (x9_2 : Int).toNat := ⟨_, rfl⟩
           have hy32 : y416.length = t409.length - (x9_2 : Int).toNat := (by rw [Ny416.out, List.length_drop] <;> omega)
           rw [show (t409).drop (x9_2 : Int).toNat = y416 from Ny416.out.symm] at hr32
           replace hr32 : Kd.C (Kd.int .u8) _ A32 y416.length y416 := (by rw [hA32]; exact hr32)
           rw [← hy32, ← hA32, ← hc32] at hcut32
           have HR419 := Zh hr32
           have HC419 := Zh (show y416.length ≤ c32 from by rw [hy32, hc32]; exact Nat.sub_le_sub_right hroom32 _)
           clear hr32 hC32 hroom32 hi032 hsz32 hc32
           have KY32 := Zh hy32
           have KA32 := Zh hA32
           clear hy32 hA32
           have KL32 := Zh (show (x9_2 : Int).toNat ≤ t409.length from by omega)
           replace q32 := eq_true q32
           go_wp2_with (first | ((with_reducible refine gate_callee (f := 82) rfl ?_); refine ZG (some 47) Tryd.func82 #[.slice A32 y416.length c32] rfl ?_; (with_reducible refine (impl_beginsFrame.calls k2 _ _ y416 true _ ?side1 ?side2 A30.out).mono ?_); (case side1 => repeat (first | exact (by repeat (first | (with_reducible exact HR419.out) | (with_reducible refine C_alloc ?_ _) | (with_reducible refine C_drewN ?_ _) | (with_reducible refine C_drew ?_) | exact HR419.out)) | (with_reducible refine C_alloc ?_ _) | (with_reducible refine C_drewN ?_ _) | (with_reducible refine C_drew ?_))); (case side2 => exact HC419.out); rintro e w33 ⟨rfl, hb⟩; refine ⟨_, rfl, ?_⟩; replace HO_6 := Zh (R_below (ZR HO_6.out) hb); replace HO_7 := Zh (S_below (ZS HO_7.out) hb); replace BK405 := Zh (Zm (g := gb405) (o := .cells #[.slice (some ad408) l0_0.length c0_0] 28 (0, 0)) Zk hb); replace HR419 := Zh (C_below (by repeat (first | (with_reducible exact HR419.out) | (with_reducible refine C_alloc ?_ _) | (with_reducible refine C_drewN ?_ _) | (with_reducible refine C_drew ?_) | exact HR419.out)) hb); replace HB := Zh (Zl Zs hb); (try clear hb); (try clear hb2); (try clear hk); (try clear hi)))
           go_ret3
           exact ⟨_, ZE, ZS (S_mono HO_7.out (fun _ hk => trivial)), Zs⟩
          replace c31 := Bool.eq_false_iff.mpr c31
          subst c31
          have H1 : (impl_walRead.l0 k2 t409 t412 t413 (wrap64 (x9_2 + 1))) = some (r1, r2, r3) := by rw [if_neg (show ¬ (false = true) by decide)] at H; exact H
          clear H
          have H := H1
          clear H1
          have H' := Zh H
          clear H
          have q34 : (x9_2 : Int) ≤ ((t409.length : Int) : Int) := Zo
          obtain ⟨i034, hi034, _, hsz34, _⟩ := info_parts info5
          have hroom34 : t409.length ≤ co25 := (R_reads' HO_6.out).2.1
          have hC34 : Kd.C (Kd.int .u8) _ Ao25 t409.length t409 := (R_reads' HO_6.out).2.2
          have q034 : (0 : Int) ≤ (x9_2 : Int) := Zo
          have hcut34 := cut_from (P := Tryd.prog) 41 5 .i64 Tryd.underlying41 hi034 1 hsz34 Ao25 t409.length co25 x9_2 q034 q34
          have hr34 := C_drop (m := (x9_2 : Int).toNat) (c := co25) hC34 (by omega) hroom34
          obtain ⟨A34, hA34⟩ : ∃ A1, A1 = (if co25 = (x9_2 : Int).toNat then Ao25 else (Ao25 : Option Addr).map (·.add ((x9_2 : Int).toNat * 1))) := ⟨_, rfl⟩
          obtain ⟨c34, hc34⟩ : ∃ c1, c1 = co25 - (x9_2 : Int).toNat := ⟨_, rfl⟩
          have hy34 : y416.length = t409.length - (x9_2 : Int).toNat := (by rw [Ny416.out, List.length_drop] <;> omega)
          rw [show (t409).drop (x9_2 : Int).toNat = y416 from Ny416.out.symm] at hr34
          replace hr34 : Kd.C (Kd.int .u8) _ A34 y416.length y416 := (by rw [hA34]; exact hr34)
          rw [← hy34, ← hA34, ← hc34] at hcut34
          have HR419 := Zh hr34
          have HC419 := Zh (show y416.length ≤ c34 from by rw [hy34, hc34]; exact Nat.sub_le_sub_right hroom34 _)
          clear hr34 hC34 hroom34 hi034 hsz34 hc34
          have KY34 := Zh hy34
          have KA34 := Zh hA34
          clear hy34 hA34
          have KL34 := Zh (show (x9_2 : Int).toNat ≤ t409.length from by omega)
          replace q34 := eq_true q34
          go_wp2_with (first | ((with_reducible refine gate_callee (f := 82) rfl ?_); refine ZG (some 47) Tryd.func82 #[.slice A34 y416.length c34] rfl ?_; (with_reducible refine (impl_beginsFrame.calls k2 _ _ y416 false _ ?side1 ?side2 A30.out).mono ?_); (case side1 => repeat (first | exact (by repeat (first | (with_reducible exact HR419.out) | (with_reducible refine C_alloc ?_ _) | (with_reducible refine C_drewN ?_ _) | (with_reducible refine C_drew ?_) | exact HR419.out)) | (with_reducible refine C_alloc ?_ _) | (with_reducible refine C_drewN ?_ _) | (with_reducible refine C_drew ?_))); (case side2 => exact HC419.out); rintro e w35 ⟨rfl, hb⟩; refine ⟨_, rfl, ?_⟩; replace HO_6 := Zh (R_below (ZR HO_6.out) hb); replace HO_7 := Zh (S_below (ZS HO_7.out) hb); replace BK405 := Zh (Zm (g := gb405) (o := .cells #[.slice (some ad408) l0_0.length c0_0] 28 (0, 0)) Zk hb); replace HR419 := Zh (C_below (by repeat (first | (with_reducible exact HR419.out) | (with_reducible refine C_alloc ?_ _) | (with_reducible refine C_drewN ?_ _) | (with_reducible refine C_drew ?_) | exact HR419.out)) hb); replace HB := Zh (Zl Zs hb); (try clear hb); (try clear hb2); (try clear hk); (try clear hi)))
          go_roundg k2
          case measure => have := HJ2.out; have := HK2.out; omega
          case rel => exact ⟨(wrap64 (x9_2 + 1)), (by first | rfl | (simp; done) | (simp [*]; done)), H', ⟨by have := HJ2.out; have := HK2.out; omega⟩, ⟨ZR HO_6.out⟩, ⟨ZS HO_7.out⟩, ⟨Zk⟩, ⟨Zs⟩⟩
         rw [if_neg c29] at H
         exact absurd H (by simp)
        rw [if_neg c28] at H
        exact absurd H (by simp)
       rw [if_neg c27] at H
       have c27b0 : decide (x9_2 < (t409.length : Int)) = false := decide_eq_false c27
       clear c27
       simp only [Option.some.injEq, Prod.mk.injEq] at H
       obtain ⟨rfl, rfl, rfl⟩ := H
       go_wp2
       go_ret3
       exact ⟨_, ZE, ZS (S_mono HO_7.out (fun _ hk => trivial)), Zs⟩
    rw [if_neg c15] at H
    exact absurd H (by simp)
   rw [if_neg c14] at H
   exact absurd H (by simp)
def impl_WalCount.f (k : Nat) (l0_0 : List (S55)) : Option (Int) := (impl_walRead.f k l0_0).bind fun bt422 => (if bt422.2.2 = 0 then (some (bt422.1.length : Int)) else (some (-1)))
set_option maxHeartbeats 8000000 in
set_option maxRecDepth 100000 in
theorem impl_WalCount.calls (k : Nat) (A0_0 : Option Addr) (c0_0 : Nat) (l0_0 : List (S55)) (r : Int) (w : World) (hr0_0 : Kd.C k55 w A0_0 l0_0.length l0_0) (hc0_0 : l0_0.length ≤ c0_0) (h : impl_WalCount.f k l0_0 = some r) :
  Calls Tryd.prog 19 #[.agg #[.slice A0_0 l0_0.length c0_0]] w fun e w' => e = .returned (.int .i64 r) ∧ Below w.heap.size w w' := by
 have hu28 := Tryd.underlying28
 have HR0_0 := Zh hr0_0
 have HC0_0 := Zh hc0_0
 clear hr0_0 hc0_0
 have HB := Zh (Below.refl w.heap.size w)
 have H : ((impl_walRead.f k l0_0).bind fun bt422 => (if bt422.2.2 = 0 then (some (bt422.1.length : Int)) else (some (-1)))) = some r := h
 clear h
 replace H := Option.bind_eq_some_iff.mp H
 obtain ⟨⟨t422, t425, t426⟩, A20, H⟩ := H
 replace H : (if t426 = 0 then (some (t422.length : Int)) else (some (-1))) = some r := H
 have A2 := Zh A20
 clear A20
 by_cases c3 : t426 = 0
 ·
  rw [if_pos c3] at H
  have c3b0 : (t426 == 0) = true := beq_iff_eq.mpr c3
  have c3b1 : (t426 != 0) = false := bne_eq_false_iff_eq.mpr c3
  clear c3
  obtain rfl := Option.some.inj H
  go_enter Tryd.func19, Tryd.ntmps19
  go_wp2_with (first | ((with_reducible refine gate_dst (N := 1) rfl ?_); refine box_event ?hg (N := 1) ?hd (cs := #[.slice A0_0 l0_0.length c0_0]) (t := 28) ?hr ?_; (case hd => rfl); (case hg => rfl); (case hr => first | (go_simp; done) | (go_simp; rfl)); intro gb421 hg w4 hbox hb; have BK421 := Zh (hbox); have GW421 := Zh ((by rw [hg]; exact (below_size Zs) : w.heap.size ≤ gb421)); have GE421 := Zh ((by rw [hg]; exact (below_size Zs) : w.heap.size ≤ gb421)); replace HB := Zh (Zl Zs hb); clear hb hbox hg; have hcz5_0 : w4.cell? ⟨gb421, 0, none⟩ = some (.slice A0_0 l0_0.length c0_0) := (blk_cell BK421.out 0).trans rfl; have hfz5_0 := Zn BK421.out 0) | ((with_reducible refine gate_callee (f := 49) rfl ?_); refine ZG (some 8) Tryd.func49 #[.agg #[.slice A0_0 l0_0.length c0_0]] rfl ?_; (with_reducible refine (impl_walRead.calls k _ _ l0_0 t422 t425 t426 _ ?side1 ?side2 A2.out).mono ?_); (case side1 => repeat (first | exact (C_below HR0_0.out HB.out) | (with_reducible refine C_alloc ?_ _) | (with_reducible refine C_drewN ?_ _) | (with_reducible refine C_drew ?_))); (case side2 => exact HC0_0.out); rintro e w6 ⟨v423, rfl, ho0, hb⟩; refine ⟨_, rfl, ?_⟩; have HO424 := Zh (S_lower ho0 (below_size Zs)); replace BK421 := Zh (Zm (g := gb421) (o := .cells #[.slice A0_0 l0_0.length c0_0] 28 (0, 0)) Zk hb); replace HB := Zh (Zl Zs hb); (try clear hb); (try clear hb2); (try clear hk); (try clear hi); (try clear ho0); obtain ⟨Ao7, co7, eo7⟩ := S_slice HO424.out; subst eo7))
  go_ret
  exact ⟨ZE, Zs⟩
 rw [if_neg c3] at H
 have c3b0 : (t426 == 0) = false := beq_eq_false_iff_ne.mpr c3
 have c3b1 : (t426 != 0) = true := bne_iff_ne.mpr c3
 obtain rfl := Option.some.inj H
 go_enter Tryd.func19, Tryd.ntmps19
 go_wp2_with (first | ((with_reducible refine gate_dst (N := 1) rfl ?_); refine box_event ?hg (N := 1) ?hd (cs := #[.slice A0_0 l0_0.length c0_0]) (t := 28) ?hr ?_; (case hd => rfl); (case hg => rfl); (case hr => first | (go_simp; done) | (go_simp; rfl)); intro gb421 hg w8 hbox hb; have BK421 := Zh (hbox); have GW421 := Zh ((by rw [hg]; exact (below_size Zs) : w.heap.size ≤ gb421)); have GE421 := Zh ((by rw [hg]; exact (below_size Zs) : w.heap.size ≤ gb421)); replace HB := Zh (Zl Zs hb); clear hb hbox hg; have hcz9_0 : w8.cell? ⟨gb421, 0, none⟩ = some (.slice A0_0 l0_0.length c0_0) := (blk_cell BK421.out 0).trans rfl; have hfz9_0 := Zn BK421.out 0) | ((with_reducible refine gate_callee (f := 49) rfl ?_); refine ZG (some 8) Tryd.func49 #[.agg #[.slice A0_0 l0_0.length c0_0]] rfl ?_; (with_reducible refine (impl_walRead.calls k _ _ l0_0 t422 t425 t426 _ ?side1 ?side2 A2.out).mono ?_); (case side1 => repeat (first | exact (C_below HR0_0.out HB.out) | (with_reducible refine C_alloc ?_ _) | (with_reducible refine C_drewN ?_ _) | (with_reducible refine C_drew ?_))); (case side2 => exact HC0_0.out); rintro e w10 ⟨v423, rfl, ho0, hb⟩; refine ⟨_, rfl, ?_⟩; have HO424 := Zh (S_lower ho0 (below_size Zs)); replace BK421 := Zh (Zm (g := gb421) (o := .cells #[.slice A0_0 l0_0.length c0_0] 28 (0, 0)) Zk hb); replace HB := Zh (Zl Zs hb); (try clear hb); (try clear hb2); (try clear hk); (try clear hi); (try clear ho0)))
 go_ret
 exact ⟨ZE, Zs⟩
def impl_WalRead.f (k : Nat) (l0_0 : List (S55)) : Option ((List (List Int)) × Int) := (impl_walRead.f k l0_0).bind fun bt443 => (some (bt443.1, bt443.2.2))
set_option maxHeartbeats 8000000 in
set_option maxRecDepth 100000 in
theorem impl_WalRead.calls (k : Nat) (A0_0 : Option Addr) (c0_0 : Nat) (l0_0 : List (S55)) (r1 : List (List Int)) (r2 : Int) (w : World) (hr0_0 : Kd.C k55 w A0_0 l0_0.length l0_0) (hc0_0 : l0_0.length ≤ c0_0) (h : impl_WalRead.f k l0_0 = some (r1, r2)) :
  Calls Tryd.prog 21 #[.agg #[.slice A0_0 l0_0.length c0_0]] w fun e w' => ∃ v0_ : Value, e = .returned (.tuple #[v0_, .int .i64 r2]) ∧ Kd.S (Kd.slice 5 (Kd.int .u8)) 41 w' w.heap.size (fun _ => True) v0_ r1 ∧ Below w.heap.size w w' := by
 have hu28 := Tryd.underlying28
 have HR0_0 := Zh hr0_0
 have HC0_0 := Zh hc0_0
 clear hr0_0 hc0_0
 have HB := Zh (Below.refl w.heap.size w)
 have H : ((impl_walRead.f k l0_0).bind fun bt443 => (some (bt443.1, bt443.2.2))) = some (r1, r2) := h
 clear h
 replace H := Option.bind_eq_some_iff.mp H
 obtain ⟨⟨t443, t446, t447⟩, A20, H⟩ := H
 replace H : (some (t443, t447)) = some (r1, r2) := H
 have A2 := Zh A20
 clear A20
 simp only [Option.some.injEq, Prod.mk.injEq] at H
 obtain ⟨rfl, rfl⟩ := H
 go_enter Tryd.func21, Tryd.ntmps21
 go_wp2_with (first | ((with_reducible refine gate_dst (N := 1) rfl ?_); refine box_event ?hg (N := 1) ?hd (cs := #[.slice A0_0 l0_0.length c0_0]) (t := 28) ?hr ?_; (case hd => rfl); (case hg => rfl); (case hr => first | (go_simp; done) | (go_simp; rfl)); intro gb442 hg w3 hbox hb; have BK442 := Zh (hbox); have GW442 := Zh ((by rw [hg]; exact (below_size Zs) : w.heap.size ≤ gb442)); have GE442 := Zh ((by rw [hg]; exact (below_size Zs) : w.heap.size ≤ gb442)); replace HB := Zh (Zl Zs hb); clear hb hbox hg; have hcz4_0 : w3.cell? ⟨gb442, 0, none⟩ = some (.slice A0_0 l0_0.length c0_0) := (blk_cell BK442.out 0).trans rfl; have hfz4_0 := Zn BK442.out 0) | ((with_reducible refine gate_callee (f := 49) rfl ?_); refine ZG (some 9) Tryd.func49 #[.agg #[.slice A0_0 l0_0.length c0_0]] rfl ?_; (with_reducible refine (impl_walRead.calls k _ _ l0_0 t443 t446 t447 _ ?side1 ?side2 A2.out).mono ?_); (case side1 => repeat (first | exact (C_below HR0_0.out HB.out) | (with_reducible refine C_alloc ?_ _) | (with_reducible refine C_drewN ?_ _) | (with_reducible refine C_drew ?_))); (case side2 => exact HC0_0.out); rintro e w5 ⟨v444, rfl, ho0, hb⟩; refine ⟨_, rfl, ?_⟩; have HO445 := Zh (S_lower ho0 (below_size Zs)); replace BK442 := Zh (Zm (g := gb442) (o := .cells #[.slice A0_0 l0_0.length c0_0] 28 (0, 0)) Zk hb); replace HB := Zh (Zl Zs hb); (try clear hb); (try clear hb2); (try clear hk); (try clear hi); (try clear ho0)))
 go_ret2
 exact ⟨_, ZE, ZS HO445.out, Zs⟩
def laws_big.f (l0 : List Int) : Option (Bool) := some (decide ((l0.length : Int) > 1048576))
set_option maxHeartbeats 8000000 in
set_option maxRecDepth 100000 in
theorem laws_big.calls (A0 : Option Addr) (c0 : Nat) (l0 : List Int) (r : Bool) (w : World) (hr0 : Kd.C (Kd.int .u8) w A0 l0.length l0) (hc0 : l0.length ≤ c0) (h : laws_big.f l0 = some r) :
  Calls Tryd.prog 34 #[.slice A0 l0.length c0] w fun e w' => e = .returned (.bool r) ∧ Drawn0 w w' := by
 have HR0 := Zh hr0
 have HC0 := Zh hc0
 clear hr0 hc0
 have H : (some (decide ((l0.length : Int) > 1048576))) = some r := h
 clear h
 obtain rfl := Option.some.inj H
 go_enter Tryd.func34, Tryd.ntmps34
 go_wp2
 go_ret
 exact ⟨by first | rfl | (simp; done) | (simp [*]; done), by repeat (first | exact Drawn0.refl _ | apply Drawn0.step)⟩
def IsS99 (w0 W : World) (g : Nat) (f0 : List Int) (f1 : Int) (f2 : Int) : Prop := ∃ A0 c0, W.heap[g]? = some (.cells #[.slice A0 f0.length c0, .int .i64 f1, .int .i64 f2] 99 (0, 0)) ∧ w0.heap.size ≤ g ∧ Kd.C (Kd.int .u8) w0 A0 f0.length f0
theorem IsS99.grown {w0 W : World} {g : Nat} {f0 : List Int} {f1 : Int} {f2 : Int} {W1 : World} {row : Option Nat} (h : IsS99 w0 W g f0 f1 f2) (hw : W.grownBy W1 row) (hne : some g ≠ row) : IsS99 w0 W1 g f0 f1 f2 := by
 obtain ⟨A0, c0, hb, hg, hr0⟩ := h
 exact ⟨A0, c0, blk_grown hb hw hne, hg, hr0⟩
theorem IsS99.kept {w0 W : World} {g : Nat} {f0 : List Int} {f1 : Int} {f2 : Int} {W1 : World} {S : Nat → Prop} (h : IsS99 w0 W g f0 f1 f2) (hk : Kept W W1 S) (hne : ¬ S g) : IsS99 w0 W1 g f0 f1 f2 := by
 obtain ⟨A0, c0, hb, hg, hr0⟩ := h
 exact ⟨A0, c0, blk_kept hb hk hne, hg, hr0⟩
theorem IsS99.below {w0 W : World} {g : Nat} {f0 : List Int} {f1 : Int} {f2 : Int} {W1 : World} (h : IsS99 w0 W g f0 f1 f2) (hw : Below W.heap.size W W1) : IsS99 w0 W1 g f0 f1 f2 := h.grown (grown_of_below hw none) (by simp)
theorem IsS99.alloc {w0 W : World} {g : Nat} {f0 : List Int} {f1 : Int} {f2 : Int} (h : IsS99 w0 W g f0 f1 f2) (o : Obj) : IsS99 w0 (W.alloc o) g f0 f1 f2 := h.below (Zf (Below.refl _ _) o)
theorem IsS99.drewN {w0 W : World} {g : Nat} {f0 : List Int} {f1 : Int} {f2 : Int} (h : IsS99 w0 W g f0 f1 f2) (m : Nat) : IsS99 w0 (W.drewN m) g f0 f1 f2 := h
theorem IsS99.drew {w0 W : World} {g : Nat} {f0 : List Int} {f1 : Int} {f2 : Int} (h : IsS99 w0 W g f0 f1 f2) : IsS99 w0 W.drew g f0 f1 f2 := h
theorem IsS99.at_ {w0 W : World} {g : Nat} {f0 : List Int} {f1 : Int} {f2 : Int} {w' : World} {m : Nat} (hq : W.drewN m = w') (h : IsS99 w0 W g f0 f1 f2) : IsS99 w0 w' g f0 f1 f2 := by subst hq; exact IsS99.drewN h m
theorem IsS99.apart {w0 W : World} {g : Nat} {f0 : List Int} {f1 : Int} {f2 : Int} {α : Type} {d : Kd α} {e : Nat} {base : Nat} {ok : Nat → Prop} {v : Value} {xs : List α} (h : IsS99 w0 W g f0 f1 f2) (ho : d.R e W base ok v xs) (ht : ∀ q, q ∈ e :: d.E → q ≠ 99) : d.R e W base (fun k => ok k ∧ k ≠ g) v xs := by
 obtain ⟨A0, c0, hb, hg, hr0⟩ := h
 exact R_types ho hb ht
theorem IsS99.own_ne {w0 W : World} {g : Nat} {f0 : List Int} {f1 : Int} {f2 : Int} {α : Type} {d : Kd α} {e : Nat} {base : Nat} {ok : Nat → Prop} {v : Value} {xs : List α} (h : IsS99 w0 W g f0 f1 f2) (ho : d.R e W base ok v xs) (ht : e ≠ 99) : some g ≠ v.ownBlock := by
 obtain ⟨A0, c0, hb, hg, hr0⟩ := h
 exact R_ne ho hb ht
theorem IsS99.apartS {w0 W : World} {g : Nat} {f0 : List Int} {f1 : Int} {f2 : Int} {α : Type} {d : Kd α} {e : Nat} {base : Nat} {ok : Nat → Prop} {v : Value} {xs : List α} (h : IsS99 w0 W g f0 f1 f2) (ho : d.S e W base ok v xs) (ht : ∀ q, q ∈ e :: d.E → q ≠ 99) : d.S e W base (fun k => ok k ∧ k ≠ g) v xs := by
 obtain ⟨A0, c0, hb, hg, hr0⟩ := h
 exact S_types ho hb ht
theorem IsS99.own_neS {w0 W : World} {g : Nat} {f0 : List Int} {f1 : Int} {f2 : Int} {α : Type} {d : Kd α} {e : Nat} {base : Nat} {ok : Nat → Prop} {v : Value} {xs : List α} (h : IsS99 w0 W g f0 f1 f2) (ho : d.S e W base ok v xs) (ht : e ≠ 99) : some g ≠ v.ownBlock := by
 obtain ⟨A0, c0, hb, hg, hr0⟩ := h
 exact S_ne ho hb ht
theorem IsS99.lt {w0 W : World} {g : Nat} {f0 : List Int} {f1 : Int} {f2 : Int} (h : IsS99 w0 W g f0 f1 f2) : g < W.heap.size := by
 obtain ⟨A0, c0, hb, hg, hr0⟩ := h
 exact blk_lt hb
theorem IsS99.ge {w0 W : World} {g : Nat} {f0 : List Int} {f1 : Int} {f2 : Int} (h : IsS99 w0 W g f0 f1 f2) : w0.heap.size ≤ g := by
 obtain ⟨A0, c0, hb, hg, hr0⟩ := h
 exact hg
theorem IsS99.ne_blk {w0 W : World} {g : Nat} {f0 : List Int} {f1 : Int} {f2 : Int} {a : Nat} {cs : Array Value} {t : TypeId} {fr : Nat × Nat} (h : IsS99 w0 W g f0 f1 f2) (hb2 : W.heap[a]? = some (.cells cs t fr)) (ht : t ≠ 99) : g ≠ a := by
 obtain ⟨A0, c0, hb, hg, hr0⟩ := h
 rintro rfl
 rw [hb] at hb2
 injection hb2 with hb2
 injection hb2 with _ ht2
 exact ht ht2.symm
theorem IsS99.far {w0 W : World} {g : Nat} {f0 : List Int} {f1 : Int} {f2 : Int} {p : Addr} (h : IsS99 w0 W g f0 f1 f2) (hne : g ≠ p.block) (u : Value) : IsS99 w0 (W.setCell p u) g f0 f1 f2 := by
 obtain ⟨A0, c0, hb, hg, hr0⟩ := h
 exact ⟨A0, c0, blk_far hb hne u, hg, hr0⟩
theorem cellS99_0 {W : World} {g : Nat} {A0 : Option Addr} {c0 : Nat} {f0 : List Int} {f1 : Int} {f2 : Int} (h : W.heap[g]? = some (.cells #[.slice A0 f0.length c0, .int .i64 f1, .int .i64 f2] 99 (0, 0))) : W.cell? ⟨g, 0, none⟩ = some (.slice A0 f0.length c0) := (blk_cell h 0).trans rfl
theorem cellS99_1 {W : World} {g : Nat} {A0 : Option Addr} {c0 : Nat} {f0 : List Int} {f1 : Int} {f2 : Int} (h : W.heap[g]? = some (.cells #[.slice A0 f0.length c0, .int .i64 f1, .int .i64 f2] 99 (0, 0))) : W.cell? ⟨g, 1, none⟩ = some (.int .i64 f1) := (blk_cell h 1).trans rfl
theorem IsS99.set_1 {w0 W : World} {g : Nat} {f0 : List Int} {f1 : Int} {f2 : Int} (h : IsS99 w0 W g f0 f1 f2) (x : Int) : IsS99 w0 (W.setCell ⟨g, 1, none⟩ (.int .i64 x)) g f0 x f2 := by
 obtain ⟨A0, c0, hb, hg, hr0⟩ := h
 exact ⟨A0, c0, by simpa using blk_set hb 1 (.int .i64 x), hg, hr0⟩
theorem cellS99_2 {W : World} {g : Nat} {A0 : Option Addr} {c0 : Nat} {f0 : List Int} {f1 : Int} {f2 : Int} (h : W.heap[g]? = some (.cells #[.slice A0 f0.length c0, .int .i64 f1, .int .i64 f2] 99 (0, 0))) : W.cell? ⟨g, 2, none⟩ = some (.int .i64 f2) := (blk_cell h 2).trans rfl
theorem IsS99.set_2 {w0 W : World} {g : Nat} {f0 : List Int} {f1 : Int} {f2 : Int} (h : IsS99 w0 W g f0 f1 f2) (x : Int) : IsS99 w0 (W.setCell ⟨g, 2, none⟩ (.int .i64 x)) g f0 f1 x := by
 obtain ⟨A0, c0, hb, hg, hr0⟩ := h
 exact ⟨A0, c0, by simpa using blk_set hb 2 (.int .i64 x), hg, hr0⟩
def spec_l01New.l0 : Nat → List Int → Int → Int → Option (List Int × Int × Int)
 | 0, _, _, _ => none
 | k + 1, x0, x3, x4 => if x4 < (x0.length : Int) then (if x4 < 4000 then (if 0 ≤ x4 then (spec_l01New.l0 k x0 (Go.bits .and .i64 (wrap64 ((wrap64 ((wrap64 (x3 * 149)) + (wrap64 (rd x0 x4)))) + 11)) 1073741823) (wrap64 (x4 + 1))) else (none)) else (some (x0, 0, x3))) else (some (x0, 0, x3))
def spec_l01New.f (k : Nat) (l0 : List Int) : Option (List Int × Int × Int) := spec_l01New.l0 k l0 (wrap64 (138138 + (l0.length : Int))) 0
set_option maxHeartbeats 8000000 in
set_option maxRecDepth 100000 in
theorem spec_l01New.calls (k : Nat) (A0 : Option Addr) (c0 : Nat) (l0 : List Int) (r1 : List Int) (r2 : Int) (r3 : Int) (w0 w : World) (hB : Below w0.heap.size w0 w) (hr0 : Kd.C (Kd.int .u8) w0 A0 l0.length l0) (hc0 : l0.length ≤ c0) (h : spec_l01New.f k l0 = some (r1, r2, r3)) :
  Calls Tryd.prog 68 #[.slice A0 l0.length c0] w fun e w' => ∃ g_ : Nat, e = .returned (.pointer (some ⟨g_, 0, none⟩)) ∧ IsS99 w0 w' g_ r1 r2 r3 ∧ Below w0.heap.size w0 w' ∧ Below w.heap.size w w' := by
 have hu99 := Tryd.underlying99
 have HR0 := Zh hr0
 have HC0 := Zh hc0
 clear hr0 hc0
 have HBW := Zh (Below.refl w.heap.size w)
 have HW0 := Zh hB.size
 have HB := Zh hB
 clear hB
 have H : (spec_l01New.l0 k l0 (wrap64 (138138 + (l0.length : Int))) 0) = some (r1, r2, r3) := h
 clear h
 have H' := Zh H
 clear H
 go_enter Tryd.func68, Tryd.ntmps68
 go_wp2
 go_loopg [3, 4] k (fun kq v3 v4 w' => ∃ (x3_1 : Int) (x4_1 : Int), v3 = .int .i64 x3_1 ∧ v4 = .int .i64 x4_1 ∧ Aside0 (spec_l01New.l0 kq l0 x3_1 x4_1 = some (r1, r2, r3)) ∧ Aside0 (kq ≤ k) ∧ Aside0 (Below w.heap.size w w') ∧ Aside0 (Below w0.heap.size w0 w'))
 case atStart => exact ⟨(wrap64 (138138 + (l0.length : Int))), (0), (by first | rfl | (simp; done) | (simp [*]; done)), (by first | rfl | (simp; done) | (simp [*]; done)), H', ⟨Nat.le_refl _⟩, ⟨by repeat (first | (with_reducible first | exact HBW.out | apply Zf | apply Zd | apply Ze) | exact HBW.out)⟩, ⟨Zs⟩⟩
 case round =>
  clear H'
  obtain ⟨x3_1, x4_1, rfl, rfl, HA, HK1, HBW, HB⟩ := hrel
  cases gk with
  | zero => exact absurd HA.out (by simp [spec_l01New.l0])
  | succ k1 =>
   have H := HA.out
   clear HA
   simp only [spec_l01New.l0] at H
   by_cases c2 : x4_1 < (l0.length : Int)
   ·
    rw [if_pos c2] at H
    have c2b0 : decide (x4_1 < (l0.length : Int)) = true := decide_eq_true c2
    clear c2
    by_cases c3 : x4_1 < 4000
    ·
     rw [if_pos c3] at H
     have c3b0 : decide (x4_1 < 4000) = true := decide_eq_true c3
     clear c3
     by_cases c4 : 0 ≤ x4_1
     ·
      rw [if_pos c4] at H
      have c4b0 : decide (0 ≤ x4_1) = true := decide_eq_true c4
      clear c4
      have H' := Zh H
      clear H
      have p614 : 0 ≤ (x4_1 : Int) := Zo
      have q614 : x4_1 < (l0.length : Int) := Zo
      obtain ⟨ad614, e614, hx614_0⟩ := Kd.at_int HR0.out x4_1 p614 q614
      cases e614
      replace hx614_0 := pw_cell_below HB.out hx614_0
      replace p614 := eq_true p614
      replace q614 := eq_true q614
      go_wp2
      go_roundg k1
      case measure => have := HK1.out; omega
      case rel => exact ⟨(Go.bits .and .i64 (wrap64 ((wrap64 ((wrap64 (x3_1 * 149)) + (wrap64 (rd l0 x4_1)))) + 11)) 1073741823), (wrap64 (x4_1 + 1)), (by first | rfl | (simp; done) | (simp [*]; done)), (by first | rfl | (simp; done) | (simp [*]; done)), H', ⟨by have := HK1.out; omega⟩, ⟨by repeat (first | (with_reducible first | exact HBW.out | apply Zf | apply Zd | apply Ze) | exact HBW.out)⟩, ⟨Zs⟩⟩
     rw [if_neg c4] at H
     exact absurd H (by simp)
    rw [if_neg c3] at H
    have c3b0 : decide (x4_1 < 4000) = false := decide_eq_false c3
    clear c3
    simp only [Option.some.injEq, Prod.mk.injEq] at H
    obtain ⟨rfl, rfl, rfl⟩ := H
    go_wp2_with (first | ((with_reducible refine gate_dst (N := 31) rfl ?_); refine box_event ?hg (N := 31) ?hd (cs := #[.slice A0 l0.length c0, .int .i64 0, .int .i64 x3_1]) (t := 99) ?hr ?_; (case hd => rfl); (case hg => rfl); (case hr => first | (go_simp; done) | (go_simp; rfl)); intro gb615 hg w5 hbox hb; replace HB := Zh (Zl Zs hb); have BK615 := Zh (hbox); have GW615 := Zh ((by rw [hg]; exact (below_size (by repeat (first | (with_reducible first | exact HBW.out | apply Zf | apply Zd | apply Ze) | exact HBW.out))) : w.heap.size ≤ gb615)); have GE615 := Zh ((Nat.le_trans HW0.out (by rw [hg]; exact (below_size (by repeat (first | (with_reducible first | exact HBW.out | apply Zf | apply Zd | apply Ze) | exact HBW.out))) : w.heap.size ≤ gb615) : w0.heap.size ≤ gb615)); replace HBW := Zh (Zl HBW.out hb); clear hb hbox hg))
    go_ret
    exact ⟨_, rfl, (show IsS99 w0 _ gb615 l0 0 x3_1 from ⟨_, _, Zk, GE615.out, HR0.out⟩), Zs, by repeat (first | (with_reducible first | exact HBW.out | apply Zf | apply Zd | apply Ze | refine Zg ?_ GW615.out) | exact HBW.out)⟩
   rw [if_neg c2] at H
   have c2b0 : decide (x4_1 < (l0.length : Int)) = false := decide_eq_false c2
   clear c2
   simp only [Option.some.injEq, Prod.mk.injEq] at H
   obtain ⟨rfl, rfl, rfl⟩ := H
   go_wp2_with (first | ((with_reducible refine gate_dst (N := 31) rfl ?_); refine box_event ?hg (N := 31) ?hd (cs := #[.slice A0 l0.length c0, .int .i64 0, .int .i64 x3_1]) (t := 99) ?hr ?_; (case hd => rfl); (case hg => rfl); (case hr => first | (go_simp; done) | (go_simp; rfl)); intro gb616 hg w6 hbox hb; replace HB := Zh (Zl Zs hb); have BK616 := Zh (hbox); have GW616 := Zh ((by rw [hg]; exact (below_size (by repeat (first | (with_reducible first | exact HBW.out | apply Zf | apply Zd | apply Ze) | exact HBW.out))) : w.heap.size ≤ gb616)); have GE616 := Zh ((Nat.le_trans HW0.out (by rw [hg]; exact (below_size (by repeat (first | (with_reducible first | exact HBW.out | apply Zf | apply Zd | apply Ze) | exact HBW.out))) : w.heap.size ≤ gb616) : w0.heap.size ≤ gb616)); replace HBW := Zh (Zl HBW.out hb); clear hb hbox hg))
   go_ret
   exact ⟨_, rfl, (show IsS99 w0 _ gb616 l0 0 x3_1 from ⟨_, _, Zk, GE616.out, HR0.out⟩), Zs, by repeat (first | (with_reducible first | exact HBW.out | apply Zf | apply Zd | apply Ze | refine Zg ?_ GW616.out) | exact HBW.out)⟩
end Go.Proofs.YtcgojdhbphocgaaDoor.F

namespace Go.Proofs.YtcgojdhbphocgaaDoor.F
open Go.RowKit Go.Proofs.YtcgojdhbphocgaaDoorW.PrintWords Go.Proofs.YtcgojdhbphocgaaDoorW.PrintLast Go.Proofs.YtcgojdhbphocgaaDoorW.PrintMore
open Go.Proofs.YtcgojdhbphocgaaDoor
set_option linter.unusedVariables false
set_option linter.unusedSimpArgs false
theorem St_app2 {w0 w : World} {l : List LW.It} {v v1 v2 : Value} {xs : List S55} {y1 y2 : List Int} {F G1 G2 : Nat → Prop} (h : LW.St w0 w l) (q p1 p2 : Nat) (n1 : q ≠ p1) (n2 : q ≠ p2) (n3 : p1 ≠ p2) (hq : l[q]? = some (LW.row k55 55 w0.heap.size v xs F)) (hp1 : l[p1]? = some (LW.row (Kd.int .u8) 5 w0.heap.size v1 y1 G1)) (hp2 : l[p2]? = some (LW.row (Kd.int .u8) 5 w0.heap.size v2 y2 G2)) (s : ByteArray) :
    Kd.S k55 55 w w0.heap.size (fun k => (F k ∨ G1 k ∨ G2 k ∨ w.heap.size ≤ k) ∧ ¬ (G1 k ∨ G2 k)) v xs ∧ k55.M w w0.heap.size (fun k => G1 k ∨ G2 k) (⟨s, y1, y2⟩ : S55) [.string s, v1, v2] ∧ (∀ k, G1 k ∨ G2 k → (F k ∨ G1 k ∨ G2 k ∨ w.heap.size ≤ k) ∧ some k ≠ v.ownBlock) ∧
      ∀ (v' : Value) (w1 : World), Kd.S k55 55 w1 w0.heap.size (fun k => F k ∨ G1 k ∨ G2 k ∨ w.heap.size ≤ k) v' (xs ++ [(⟨s, y1, y2⟩ : S55)]) → Below w0.heap.size w0 w1 → w.grownBy w1 v.ownBlock →
        LW.St w0 w1 (((l.set p1 LW.gone).set p2 LW.gone).set q (LW.row k55 55 w0.heap.size v' (xs ++ [(⟨s, y1, y2⟩ : S55)]) (fun k => (F k ∨ G1 k ∨ G2 k) ∨ (w.heap.size ≤ k ∧ k < w1.heap.size)))) := by
  have hS := h.own q hq
  have hR1 := Kd.S_R (h.own p1 hp1)
  have hR2 := Kd.S_R (h.own p2 hp2)
  have d1 := LW.Its.disj h.i q p1 _ _ n1 hq hp1
  have d2 := LW.Its.disj h.i q p2 _ _ n2 hq hp2
  have d3 := LW.Its.disj h.i p1 p2 _ _ n3 hp1 hp2
  have own : ∀ k, v.ownBlock = some k → F k := (Kd.S_R hS).1
  refine ⟨Kd.S_mono hS (fun k hk => ⟨.inl hk, fun hg => hg.elim (d1 k hk) (d2 k hk)⟩), k55_mkM _ _ _ (⟨s, y1, y2⟩ : S55) (Kd.R_mono hR1 (fun k hk => .inl hk)) (Kd.R_mono hR2 (fun k hk => .inr hk)) (fun k a b => d3 k (hR1.1 k a.symm) (hR2.1 k b.symm)), fun k hk => ⟨hk.elim (fun a => .inr (.inl a)) (fun a => .inr (.inr (.inl a))), fun he => hk.elim (d1 k (own k he.symm)) (d2 k (own k he.symm))⟩, fun v' w1 hS' hB hg => ?_⟩
  have lq : ∀ {x : LW.It} {m : Nat}, q ≠ m → (l.set m x)[q]? = l[q]? := fun hm => List.getElem?_set_ne hm.symm
  have m1 := h.merge q p1 n1 hq hp1 (LW.row k55 55 w0.heap.size v xs (fun k => F k ∨ G1 k)) (fun k hk => hk) (Kd.S_mono hS (fun k hk => .inl hk)) h.b ⟨Nat.le_refl _, fun k _ _ => rfl⟩
  have hql : q < l.length := (List.getElem?_eq_some_iff.1 hq).1
  have hq1 : ((l.set q (LW.row k55 55 w0.heap.size v xs (fun k => F k ∨ G1 k))).set p1 LW.gone)[q]? = some (LW.row k55 55 w0.heap.size v xs (fun k => F k ∨ G1 k)) := by
    rw [List.getElem?_set_ne n1.symm, List.getElem?_set_self hql]
  have hp2' : ((l.set q (LW.row k55 55 w0.heap.size v xs (fun k => F k ∨ G1 k))).set p1 LW.gone)[p2]? = some (LW.row (Kd.int .u8) 5 w0.heap.size v2 y2 G2) := by
    rw [List.getElem?_set_ne n3, List.getElem?_set_ne n2, hp2]
  have m2 := m1.merge q p2 n2 hq1 hp2' (LW.row k55 55 w0.heap.size v xs (fun k => F k ∨ G1 k ∨ G2 k)) (fun k hk => by rcases hk with a | a | a; exact .inl (.inl a); exact .inl (.inr a); exact .inr a) (Kd.S_mono hS (fun k hk => .inl hk)) h.b ⟨Nat.le_refl _, fun k _ _ => rfl⟩
  have hq2 : ((((l.set q (LW.row k55 55 w0.heap.size v xs (fun k => F k ∨ G1 k))).set p1 LW.gone).set q (LW.row k55 55 w0.heap.size v xs (fun k => F k ∨ G1 k ∨ G2 k))).set p2 LW.gone)[q]? = some (LW.row k55 55 w0.heap.size v xs (fun k => F k ∨ G1 k ∨ G2 k)) := by
    rw [List.getElem?_set_ne n2.symm, List.getElem?_set_self (by simpa using hql)]
  have m3 := m2.grow q hq2 (LW.row k55 55 w0.heap.size v' (xs ++ [(⟨s, y1, y2⟩ : S55)]) (fun k => (F k ∨ G1 k ∨ G2 k) ∨ (w.heap.size ≤ k ∧ k < w1.heap.size))) (fun k hk => hk) (Kd.S_mono (Kd.S_bound hS') (fun k hk => by
    rcases hk.1 with a | a | a | a
    · exact .inl (.inl a)
    · exact .inl (.inr (.inl a))
    · exact .inl (.inr (.inr a))
    exact .inr ⟨a, hk.2.2.1⟩)) hB ⟨hg.size, fun k hk hn => hg.block k hk (fun he => hn (.inl (own k he.symm)))⟩
  have e : ((((l.set q (LW.row k55 55 w0.heap.size v xs (fun k => F k ∨ G1 k))).set p1 LW.gone).set q (LW.row k55 55 w0.heap.size v xs (fun k => F k ∨ G1 k ∨ G2 k))).set p2 LW.gone).set q (LW.row k55 55 w0.heap.size v' (xs ++ [(⟨s, y1, y2⟩ : S55)]) (fun k => (F k ∨ G1 k ∨ G2 k) ∨ (w.heap.size ≤ k ∧ k < w1.heap.size))) = ((l.set p1 LW.gone).set p2 LW.gone).set q (LW.row k55 55 w0.heap.size v' (xs ++ [(⟨s, y1, y2⟩ : S55)]) (fun k => (F k ∨ G1 k ∨ G2 k) ∨ (w.heap.size ≤ k ∧ k < w1.heap.size))) := by
    apply List.ext_getElem?
    intro m
    by_cases e0 : q = m
    · subst e0
      rw [List.getElem?_set_self (by simpa using hql), List.getElem?_set_self (by simpa using hql)]
    rw [List.getElem?_set_ne e0, List.getElem?_set_ne e0]
    by_cases e2 : p2 = m
    · subst e2
      by_cases hm : p2 < l.length
      · rw [List.getElem?_set_self (by simpa using hm), List.getElem?_set_self (by simpa using hm)]
      rw [List.getElem?_eq_none (by simpa using Nat.le_of_not_lt hm), List.getElem?_eq_none (by simpa using Nat.le_of_not_lt hm)]
    rw [List.getElem?_set_ne e2, List.getElem?_set_ne e2, List.getElem?_set_ne e0]
    by_cases e1 : p1 = m
    · subst e1
      by_cases hm : p1 < l.length
      · rw [List.getElem?_set_self (by simpa using hm), List.getElem?_set_self (by simpa using hm)]
      rw [List.getElem?_eq_none (by simpa using Nat.le_of_not_lt hm), List.getElem?_eq_none (by simpa using Nat.le_of_not_lt hm)]
    rw [List.getElem?_set_ne e1, List.getElem?_set_ne e1, List.getElem?_set_ne e0]
  rw [e] at m3
  exact m3
theorem R_empty (w : World) : Kd.R (Kd.int .u8) 5 (w.alloc (.cells #[] 5)) w.heap.size (fun _ => True) (.slice (some ⟨w.heap.size, 0, none⟩) 0 0) [] := ⟨fun _ _ => trivial, OwnRow.lit (inner := []) w w.heap.size (Reps.none _ _) (Nat.le_refl _) (by simp)⟩
end Go.Proofs.YtcgojdhbphocgaaDoor.F

namespace Go.Proofs.YtcgojdhbphocgaaDoor.F
open Go.RowKit Go.Proofs.YtcgojdhbphocgaaDoorW.PrintWords Go.Proofs.YtcgojdhbphocgaaDoorW.PrintWords.Kd Go.Proofs.YtcgojdhbphocgaaDoorW.PrintMore.Kd Go.Proofs.YtcgojdhbphocgaaDoorW.PrintLast Go.Proofs.YtcgojdhbphocgaaDoorW.PrintMore
attribute [local go_sem] max2_int min2_int max_two min_two max_three min_three max_four min_four   -- for this text's walks alone
set_option linter.unusedVariables false
set_option linter.unusedSimpArgs false
def spec_l01Bytes.l0 : Nat → List Int → List Int → Int → Option (List Int)
 | 0, _, _, _ => none
 | k + 1, x0, x3, x4 => if x4 < (x0.length : Int) then (if 0 ≤ x4 then (if x3.length < 140737488355328 then (spec_l01Bytes.l0 k x0 (x3 ++ [rd x0 x4]) (wrap64 (x4 + 1))) else (none)) else (none)) else (some x3)
def spec_l01Bytes.f (k : Nat) (l0 : List Int) : Option (List Int) := spec_l01Bytes.l0 k l0 (([] : List Int)) 0
set_option maxHeartbeats 8000000 in
set_option maxRecDepth 100000 in
theorem spec_l01Bytes.calls (k : Nat) (A0 : Option Addr) (c0 : Nat) (l0 : List Int) (r : List Int) (w : World) (hr0 : Kd.C (Kd.int .u8) w A0 l0.length l0) (hc0 : l0.length ≤ c0) (h : spec_l01Bytes.f k l0 = some r) :
  Calls Tryd.prog 87 #[.slice A0 l0.length c0] w fun e w' => ∃ v0_ : Value, e = .returned (v0_) ∧ Kd.R (Kd.int .u8) 5 w' w.heap.size (fun _ => True) v0_ r ∧ Below w.heap.size w w' := by
 have HR0 := Zh hr0
 have HC0 := Zh hc0
 clear hr0 hc0
 have HB := Zh (Below.refl w.heap.size w)
 have H : (spec_l01Bytes.l0 k l0 (([] : List Int)) 0) = some r := h
 clear h
 obtain ⟨y111, hy111⟩ : ∃ y_ : List Int, y_ = (([] : List Int)) := ⟨_, rfl⟩
 replace H : (spec_l01Bytes.l0 k l0 y111 0) = some r := by first | (rw [hy111]; with_reducible exact H) | (have H2_ := (Option.bind_some _ _).symm.trans H; rw [hy111]; with_reducible exact H2_) | (have H2_ := (Option.bind_some _ _).symm.trans H; with_reducible exact H2_) | with_reducible exact H | (rw [hy111]; exact H) | exact H
 have Ny111 := Zh hy111
 clear hy111
 have H' := Zh H
 clear H
 go_enter Tryd.func87, Tryd.ntmps87
 go_wp2_with (first | ((with_reducible refine gate_dst (N := 5) rfl ?_); refine R_lit (Kd.int .u8) _ 5 ?hg (N := 5) ?hd (xs := ([] : List Int)) (inner := []) (ok := fun _ => True) (okp := fun _ => True) ?hr ?hp (fun _ hk => hk) trivial (Below.refl _ _) (Nat.le_refl _) (by simp) ?_; (case hd => rfl); (case hg => rfl); (case hr => first | (go_simp; done) | (go_simp; rfl)); (case hp => exact (Reps.none _ _)); intro v112 w2 ho3 hb hg_ hnew_; clear hg_ hnew_; (first | rw [← Ny111.out] at ho3 | (simp only [Int.reduceToNat] at ho3; rw [← Ny111.out] at ho3)); have HO113 := Zh (R_lower ho3 (below_size Zs)); replace HB := Zh (Zl Zs hb); clear hb ho3))
 go_loopg [3, 4] k (fun kq v3 v4 w' => ∃ (x3_1 : List Int) (x4_1 : Int), v4 = .int .i64 x4_1 ∧ Aside0 (spec_l01Bytes.l0 kq l0 x3_1 x4_1 = some r) ∧ Aside0 (kq ≤ k) ∧ Aside0 (Kd.R (Kd.int .u8) 5 w' w.heap.size (fun _ => True) v3 x3_1) ∧ Aside0 (Below w.heap.size w w'))
 case atStart => exact ⟨(y111), (0), (by first | rfl | (simp; done) | (simp [*]; done)), H', ⟨Nat.le_refl _⟩, ⟨ZR HO113.out⟩, ⟨Zs⟩⟩
 case round =>
  clear H'
  try clear p2
  obtain ⟨x3_1, x4_1, rfl, HA, HK1, HO_3, HB⟩ := hrel
  cases gk with
  | zero => exact absurd HA.out (by simp [spec_l01Bytes.l0])
  | succ k1 =>
   have H := HA.out
   clear HA
   simp only [spec_l01Bytes.l0] at H
   by_cases c4 : x4_1 < (l0.length : Int)
   ·
    rw [if_pos c4] at H
    have c4b0 : decide (x4_1 < (l0.length : Int)) = true := decide_eq_true c4
    clear c4
    by_cases c5 : 0 ≤ x4_1
    ·
     rw [if_pos c5] at H
     have c5b0 : decide (0 ≤ x4_1) = true := decide_eq_true c5
     clear c5
     by_cases c6 : x3_1.length < 140737488355328
     ·
      rw [if_pos c6] at H
      have LMc6 := Zh c6
      clear c6
      obtain ⟨y115, hy115⟩ : ∃ y_ : List Int, y_ = (x3_1 ++ [rd l0 x4_1]) := ⟨_, rfl⟩
      replace H : (spec_l01Bytes.l0 k1 l0 y115 (wrap64 (x4_1 + 1))) = some r := by first | (rw [hy115]; with_reducible exact H) | (have H2_ := (Option.bind_some _ _).symm.trans H; rw [hy115]; with_reducible exact H2_) | (have H2_ := (Option.bind_some _ _).symm.trans H; with_reducible exact H2_) | with_reducible exact H | (rw [hy115]; exact H) | exact H
      have Ny115 := Zh hy115
      clear hy115
      have H' := Zh H
      clear H
      have p114 : 0 ≤ (x4_1 : Int) := Zo
      have q114 : x4_1 < (l0.length : Int) := Zo
      obtain ⟨ad114, e114, hx114_0⟩ := Kd.at_int HR0.out x4_1 p114 q114
      cases e114
      replace hx114_0 := Zc HB.out hx114_0
      replace p114 := eq_true p114
      replace q114 := eq_true q114
      go_wp2_with (first | ((with_reducible refine gate_builtin (b := .append) (xs := #[.tmp 12, .tmp 17]) rfl ?_); at_builtin; refine R_append (Kd.int .u8) (w0 := w) w.heap.size rfl (.tmp 12) (.tmp 17) 41 5 (.int .u8 0) 1 rfl Tryd.underlying41 info5 rfl (by decide) (by omega) u3 x3_1 (rd l0 x4_1) [.int .u8 (rd l0 x4_1)] (fun _ => True) (fun _ => False) rfl rfl ?aP (fun _ hk => hk.elim) ?aF ?aO ?aB ?aS ?aL ?_; (case aP => exact rfl); (case aB => exact Zs); (case aF => exact (fun _ _ => trivial)); (case aO => exact (ZR HO_3.out)); (case aS => exact (below_size Zs)); (case aL => have := LMc6.out; omega); intro v116 w7 ho hb hg hat; rw [← Ny115.out] at ho; have n0_ := Zh (hb); have n1_ := Zh (ho); clear HB; clear HO_3; have HB := n0_; have HO117 := n1_; clear n0_ n1_; clear ho hb hg hat))
      go_roundg k1
      case measure => have := HK1.out; omega
      case rel => exact ⟨(y115), (wrap64 (x4_1 + 1)), (by first | rfl | (simp; done) | (simp [*]; done)), H', ⟨by have := HK1.out; omega⟩, ⟨ZR HO117.out⟩, ⟨Zs⟩⟩
     rw [if_neg c6] at H
     exact absurd H (by simp)
    rw [if_neg c5] at H
    exact absurd H (by simp)
   rw [if_neg c4] at H
   have c4b0 : decide (x4_1 < (l0.length : Int)) = false := decide_eq_false c4
   clear c4
   obtain rfl := Option.some.inj H
   go_wp2
   go_ret
   exact ⟨_, ZE, ZR HO_3.out, Zs⟩
end Go.Proofs.YtcgojdhbphocgaaDoor.F

namespace Go.Proofs.YtcgojdhbphocgaaDoor.F
open Go.RowKit Go.Proofs.YtcgojdhbphocgaaDoorW.PrintWords Go.Proofs.YtcgojdhbphocgaaDoorW.PrintLast Go.Proofs.YtcgojdhbphocgaaDoorW.PrintMore
open Go.Proofs.YtcgojdhbphocgaaDoor
set_option linter.unusedVariables false
set_option linter.unusedSimpArgs false
def spec_l03Copy.l0 : Nat → Int → List (S55) → List (S55) → Option ((List (S55)))
  | 0, _, _, _ => none
  | k + 1, x4, x, y => if x4 < (x.length : Int) then (if 0 ≤ x4 then ((spec_l01Bytes.f k ((rd_T55 x x4).f1)).bind fun t270 => ((spec_l01Bytes.f k ((rd_T55 x x4).f2)).bind fun t273 => (if y.length < 2199023255552 then (spec_l03Copy.l0 k (wrap64 (x4 + 1)) x (y ++ [(⟨(rd_T55 x x4).f0, t270, t273⟩ : S55)])) else (none)))) else (none)) else (some y)
def spec_l03Copy.f (k : Nat) (l0_0 : List (S55)) : Option ((List (S55))) := spec_l03Copy.l0 k 0 l0_0 ([] : List (S55))
set_option maxHeartbeats 8000000 in
set_option maxRecDepth 100000 in
theorem spec_l03Copy.calls (k : Nat) (A0_0 : Option Addr) (c0_0 : Nat) (l0_0 : List (S55)) (r : List (S55)) (w : World) (hr0_0 : Kd.C k55 w A0_0 l0_0.length l0_0) (hc0_0 : l0_0.length ≤ c0_0) (h : spec_l03Copy.f k l0_0 = some r) :
    Calls Tryd.prog 54 #[.agg #[.slice A0_0 l0_0.length c0_0]] w fun e w' => ∃ v0_ : Value, e = .returned (.agg #[v0_]) ∧ Kd.S k55 55 w' w.heap.size (fun _ => True) v0_ r ∧ Below w.heap.size w w' := by
  have HR := Zh hr0_0
  clear hr0_0 hc0_0
  have ST := Zh (LW.St.start w)
  have hu28 := Tryd.underlying28
  have hu55 := Tryd.underlying55
  have H := Zh (show spec_l03Copy.l0 k 0 l0_0 [] = some r from h)
  clear h
  go_enter Tryd.func54, Tryd.ntmps54
  go_wp2_with fail
  replace ST := Zh (ST.out.alloc #[.slice A0_0 l0_0.length c0_0] 28 (g := w.heap.size) rfl)
  replace ST := Zh (ST.out.alloc #[.slice none 0 0] 28 (g := w.heap.size + 1) (by simp))
  replace ST := Zh (ST.out.alloc #[.slice none 0 0] 28 (g := w.heap.size + 2) (by simp))
  replace ST := Zh (ST.out.row (d := k55) (e := 55) (xs := []) (Below.refl _ _) (Kd.S_nil _ _ _ _ (fun _ => True)))
  generalize hW : (((w.alloc (.cells #[.slice A0_0 l0_0.length c0_0] 28)).alloc (.cells #[.slice none 0 0] 28)).alloc (.cells #[.slice none 0 0] 28)) = W at ST ⊢
  clear hW
  go_loopg [4] k (fun kq vv w' => ∃ (x4 : Int) (y : List S55) (F : Nat → Prop) (Ao : Option Addr) (co : Nat), vv = .int .i64 x4 ∧ Aside0 (spec_l03Copy.l0 kq x4 l0_0 y = some r) ∧ Aside0 (LW.St w w' [LW.row k55 55 w.heap.size (.slice Ao y.length co) y F, LW.box (w.heap.size + 2) #[.slice Ao y.length co] 28, LW.box (w.heap.size + 1) #[.slice none 0 0] 28, LW.box w.heap.size #[.slice A0_0 l0_0.length c0_0] 28]))
  case atStart => exact ⟨0, [], _, none, 0, rfl, H, ST⟩
  case round =>
    clear H ST
    obtain ⟨x4, y, F, Ao, co, rfl, HA, ST⟩ := hrel
    cases gk with
    | zero => exact absurd HA.out (by simp [spec_l03Copy.l0])
    | succ k1 =>
      have H := HA.out
      clear HA
      simp only [spec_l03Copy.l0, Option.bind_some] at H
      have hc0 := ST.out.cell 3 rfl 0 (u := .slice A0_0 l0_0.length c0_0) rfl
      have hl0 := ST.out.lt 3 rfl
      by_cases c8 : x4 < (l0_0.length : Int)
      · rw [if_pos c8] at H
        have q8 := decide_eq_true c8
        by_cases p0 : 0 ≤ x4
        · rw [if_pos p0] at H
          obtain ⟨b1, HT1, H⟩ := Option.bind_eq_some_iff.mp H
          obtain ⟨b2, HT2, H⟩ := Option.bind_eq_some_iff.mp H
          replace HT1 := Zh HT1
          replace HT2 := Zh HT2
          by_cases cm : y.length < 2199023255552
          · rw [if_pos cm] at H
            have HLM := Zh cm
            have H' := Zh H
            clear H cm
            obtain ⟨ad, B1, d1, B2, d2, e, E0, E1, E2, g1, g2, g3, g4⟩ := at_T55 HR.out x4 p0 c8
            cases e
            have hx0 := (ST.out.b.cell (Zi w _ E0)).trans E0
            have hx1 := (ST.out.b.cell (Zi w _ E1)).trans E1
            have hx2 := (ST.out.b.cell (Zi w _ E2)).trans E2
            have HR1 := Zh g2
            have HR2 := Zh g4
            have HC1 := Zh g1
            have HC2 := Zh g3
            have p1 := eq_true p0
            have p2 := eq_true c8
            clear E0 E1 E2 p0 c8 g1 g2 g3 g4
            go_wp2_with fail
            replace ST := Zh (ST.out.alloc #[.string (rd_T55 l0_0 x4).f0, .slice B1 (rd_T55 l0_0 x4).f1.length d1, .slice B2 (rd_T55 l0_0 x4).f2.length d2] 55 (g := wr.heap.size) rfl)
            clear hx0 hx1 hx2 hc0 hl0
            replace ST := Zh ST.out.drew
            refine start_ (n := 15) (S := fun w' => w'.cell? ⟨w.heap.size + 2, 0, none⟩ = some (.slice Ao y.length co) ∧ w'.cell? ⟨wr.heap.size, 0, none⟩ = some (.string (rd_T55 l0_0 x4).f0) ∧ w'.cell? ⟨wr.heap.size, 1, none⟩ = some (.slice B1 (rd_T55 l0_0 x4).f1.length d1) ∧ w'.cell? ⟨wr.heap.size, 2, none⟩ = some (.slice B2 (rd_T55 l0_0 x4).f2.length d2)) (ds := [12, 14]) #[false, false, false, false, false, false, false, false, false, false, false, false, false, false, false] (by kernel_rfl) rfl rfl ⟨ST.out.cell 2 rfl 0 rfl, ST.out.cell 0 rfl 0 rfl, ST.out.cell 0 rfl 1 rfl, ST.out.cell 0 rfl 2 rfl⟩ (fun hHeld => ?_)
            generalize (wr.alloc (.cells #[.string (rd_T55 l0_0 x4).f0, .slice B1 (rd_T55 l0_0 x4).f1.length d1, .slice B2 (rd_T55 l0_0 x4).f2.length d2] 55)).drew = w8 at ST hHeld ⊢
            refine SQ.p0 0 19 ?_
            refine SQ.p0 2 21 ?_
            refine SQ.p0 4 23 ?_
            refine SQ.p0 7 26 ?_
            refine SQ.t0 1 20 hHeld ?_
            refine SQ.t0 3 22 hHeld ?_
            refine SQ.t0 5 24 hHeld ?_
            refine SQ.t0 8 27 hHeld ?_
            refine one_ (i := 6) (N := some 25) #[true, true, true, true, true, true, true, true, true, false, false, false, false, false, false] rfl rfl (by kernel_rfl) (by decide) (fun K hK => ?_)
            refine goes_ Tryd.func87 (by kernel_rfl) rfl #[.slice B1 (rd_T55 l0_0 x4).f1.length d1] (by rfl) rfl rfl (by (try simp only [List.map_toArray, List.map_cons, List.map_nil]); first | done | rfl) ?_
            with_reducible refine (spec_l01Bytes.calls k1 _ _ (rd_T55 l0_0 x4).f1 b1 _ (Kd.C_below HR1.out ST.out.b) HC1.out HT1.out).mono ?_
            rintro e w9 ⟨v1, rfl, q1, q2⟩
            refine ⟨_, rfl, ?_⟩
            obtain ⟨A5, c5, rfl⟩ := Kd.R_slice q1
            replace ST := Zh (ST.out.rowR rfl q2 q1)
            clear q1 q2 hHeld
            refine hK.out _ _ ⟨ST.out.cell 3 rfl 0 rfl, ST.out.cell 1 rfl 0 rfl, ST.out.cell 1 rfl 1 rfl, ST.out.cell 1 rfl 2 rfl⟩ (fun hHeld => ?_)
            clear hK K
            refine norm_ (a' := ?_) ?_ ?_
            rotate_left
            · show Act.put _ (some 25) _ = _
              simp only [Act.put, List.setIfInBounds_toArray, List.set_cons_zero, List.set_cons_succ, i64_w, i32_w]
              rfl
            refine one_ (i := 9) (N := some 28) #[true, true, true, true, true, true, true, true, true, true, false, false, false, false, false] rfl rfl (by kernel_rfl) (by decide) (fun K hK => ?_)
            refine goes_ Tryd.func87 (by kernel_rfl) rfl #[.slice B2 (rd_T55 l0_0 x4).f2.length d2] (by rfl) rfl rfl (by (try simp only [List.map_toArray, List.map_cons, List.map_nil]); first | done | rfl) ?_
            with_reducible refine (spec_l01Bytes.calls k1 _ _ (rd_T55 l0_0 x4).f2 b2 _ (Kd.C_below HR2.out ST.out.b) HC2.out HT2.out).mono ?_
            rintro e w10 ⟨v1, rfl, q1, q2⟩
            refine ⟨_, rfl, ?_⟩
            obtain ⟨A6, c6, rfl⟩ := Kd.R_slice q1
            replace ST := Zh (ST.out.rowR rfl q2 q1)
            clear q1 q2 hHeld
            refine hK.out _ _ ⟨ST.out.cell 4 rfl 0 rfl, ST.out.cell 2 rfl 0 rfl, ST.out.cell 2 rfl 1 rfl, ST.out.cell 2 rfl 2 rfl⟩ (fun hHeld => ?_)
            clear hK K
            refine norm_ (a' := ?_) ?_ ?_
            rotate_left
            · show Act.put _ (some 28) _ = _
              simp only [Act.put, List.setIfInBounds_toArray, List.set_cons_zero, List.set_cons_succ, i64_w, i32_w]
              rfl
            refine SQ.p0 10 29 ?_
            refine one_ (i := 11) (N := some 30) #[true, true, true, true, true, true, true, true, true, true, true, true, false, false, false] rfl rfl (by kernel_rfl) (by decide) (fun K hK => ?_)
            refine value_ (w1 := ?_) (v := ?_) (by rfl) rfl ?_ ?_
            rotate_left 2
            · go_simp
              constructor
              · rfl
              rfl
            refine hK.out _ _ ⟨(World.cell?_alloc_lt _ _ _ (Zi _ _ hHeld.1)).trans hHeld.1, (World.cell?_alloc_lt _ _ _ (Zi _ _ hHeld.2.1)).trans hHeld.2.1, (World.cell?_alloc_lt _ _ _ (Zi _ _ hHeld.2.2.1)).trans hHeld.2.2.1, (World.cell?_alloc_lt _ _ _ (Zi _ _ hHeld.2.2.2)).trans hHeld.2.2.2⟩ (fun hHeld => ?_)
            clear hK K
            refine norm_ (a' := ?_) ?_ ?_
            rotate_left
            · show Act.put _ (some 30) _ = _
              simp only [Act.put, List.setIfInBounds_toArray, List.set_cons_zero, List.set_cons_succ, i64_w, i32_w]
              rfl
            obtain ⟨a1, a2, a3, a4⟩ := St_app2 ST.out 3 1 0 (by decide) (by decide) (by decide) rfl rfl rfl (rd_T55 l0_0 x4).f0
            have HB4 := Zh a4
            clear a4
            refine last_ (i := 12) (N := some 31) #[true, true, true, true, true, true, true, true, true, true, true, true, true, false, false] rfl rfl (by kernel_rfl) (by decide) (fun K hK => ?_)
            refine Kd.S_append_step k55 (w0 := w) w.heap.size (by rfl) (.tmp 20) (.tmp 30) 26 55 (.agg #[(.string ⟨#[]⟩), (.slice none 0 0), (.slice none 0 0)]) 64 rfl Tryd.underlying26 info55 rfl (by decide) (by omega) (.slice Ao y.length co) y (⟨(rd_T55 l0_0 x4).f0, b1, b2⟩ : S55) [.string (rd_T55 l0_0 x4).f0, .slice A5 b1.length c5, .slice A6 b2.length c6] _ _ (by rfl) (by rfl) a2 a3 (fun k hk => .inr (.inr (.inr hk))) a1 ST.out.b ST.out.b.size (by have := HLM.out; omega) ?_
            intro v1 w2 q1 q2 q3 _
            obtain ⟨A3, c3, hv⟩ := Kd.S_slice q1
            rw [List.length_append] at hv
            subst hv
            have ST2 := Zh (HB4.out _ w2 q1 q2 q3)
            have hs1 := ST2.out.cell 4 rfl 0 (u := .slice Ao y.length co) rfl
            have hf1 := ST2.out.frozen 4 rfl 0
            have hl1 := ST2.out.lt 4 rfl
            clear q1 q2 q3 hHeld a1 a2 a3
            refine hK.out _ _ ?_
            clear hK K
            refine norm_ (a' := ?_) ?_ ?_
            rotate_left
            · show Act.put _ (some 31) _ = _
              simp only [Act.put, List.setIfInBounds_toArray, List.set_cons_zero, List.set_cons_succ, i64_w, i32_w]
              rfl
            refine SQ.p0 13 32 ?_
            refine last_ (i := 14) (N := none) #[true, true, true, true, true, true, true, true, true, true, true, true, true, true, true] rfl rfl (by kernel_rfl) (by decide) (fun K hK => ?_)
            refine skip_ (w1 := ?_) (by rfl) rfl ?_ ?_
            rotate_left
            · go_simp
              rfl
            refine hK.out _ _ ?_
            clear hK K
            refine done_ (by kernel_rfl) ?_
            go_wp2
            replace ST := Zh (ST2.out.set 4 rfl 0 (.slice A3 (y.length + 1) c3)).tail.tail.tail
            go_roundg k1
            case measure => omega
            case rel => exact ⟨_, _, _, A3, c3, rfl, H', by rw [List.length_append]; exact ST⟩
          rw [if_neg cm] at H; exact absurd H (by simp)
        rw [if_neg p0] at H; exact absurd H (by simp)
      rw [if_neg c8] at H
      have q8 := decide_eq_false c8
      obtain rfl := Option.some.inj H
      clear H c8
      have hc4 := ST.out.cell 1 rfl 0 (u := .slice Ao y.length co) rfl
      have hc6 := ST.out.cell 2 rfl 0 (u := .slice none 0 0) rfl
      have hl6 := ST.out.lt 2 rfl
      have hf6 := ST.out.frozen 2 rfl 0
      go_wp2
      replace ST := Zh (ST.out.set 2 rfl 0 (.slice Ao y.length co))
      refine Zq (results_cell_row rfl _ _ (w.heap.size + 1) 28 #[.slice Ao y.length co] (0, 0) _ rfl (ST.out.blk 2 rfl) Tryd.underlying28 rfl (by kernel_rfl)) rfl ?_
      exact ⟨_, rfl, Kd.S_mono (ST.out.own 0 rfl) (fun _ _ => trivial), ST.out.b⟩
end Go.Proofs.YtcgojdhbphocgaaDoor.F

namespace Go.Proofs.YtcgojdhbphocgaaDoor.F
open Go.RowKit Go.Proofs.YtcgojdhbphocgaaDoorW.PrintWords Go.Proofs.YtcgojdhbphocgaaDoorW.PrintWords.Kd Go.Proofs.YtcgojdhbphocgaaDoorW.PrintMore.Kd Go.Proofs.YtcgojdhbphocgaaDoorW.PrintLast Go.Proofs.YtcgojdhbphocgaaDoorW.PrintMore
attribute [local go_sem] max2_int min2_int max_two min_two max_three min_three max_four min_four   -- for this text's walks alone
set_option linter.unusedVariables false
set_option linter.unusedSimpArgs false
def spec_l01In.f (a0 : Int) (a1 : Int) (a2 : Int) : Option (Bool) := if a1 ≤ a0 then (some (decide (a0 ≤ a2))) else (some false)
set_option maxHeartbeats 8000000 in
set_option maxRecDepth 100000 in
theorem spec_l01In.calls (a0 : Int) (a1 : Int) (a2 : Int) (r : Bool) (w : World) (h : spec_l01In.f a0 a1 a2 = some r) :
  Calls Tryd.prog 62 #[.int .i64 a0, .int .i64 a1, .int .i64 a2] w fun e w' => e = .returned (.bool r) ∧ Drawn0 w w' := by
 have H : (if a1 ≤ a0 then (some (decide (a0 ≤ a2))) else (some false)) = some r := h
 clear h
 by_cases c4 : a1 ≤ a0
 ·
  rw [if_pos c4] at H
  have c4b0 : decide (a1 ≤ a0) = true := decide_eq_true c4
  clear c4
  obtain rfl := Option.some.inj H
  go_enter Tryd.func62, Tryd.ntmps62
  go_wp2
  go_ret
  exact ⟨by first | rfl | (simp; done) | (simp [*]; done), by repeat (first | exact Drawn0.refl _ | apply Drawn0.step)⟩
 rw [if_neg c4] at H
 have c4b0 : decide (a1 ≤ a0) = false := decide_eq_false c4
 clear c4
 obtain rfl := Option.some.inj H
 go_enter Tryd.func62, Tryd.ntmps62
 go_wp2
 go_ret
 exact ⟨by first | rfl | (simp; done) | (simp [*]; done), by repeat (first | exact Drawn0.refl _ | apply Drawn0.step)⟩
def spec_l01Name.l0 : Nat → ByteArray → Int → Option (Bool)
 | 0, _, _ => none
 | k + 1, x0, x3 => if x3 < (x0.size : Int) then (if 0 ≤ x3 then (if (bt x0 x3) ≥ 97 then (if ((bt x0 x3) ≤ 122) then (spec_l01Name.l0 k x0 (wrap64 (x3 + 1))) else (if (bt x0 x3) ≥ 48 then (if ((bt x0 x3) ≤ 57) then (spec_l01Name.l0 k x0 (wrap64 (x3 + 1))) else (some false)) else (some false))) else (if (bt x0 x3) ≥ 48 then (if ((bt x0 x3) ≤ 57) then (spec_l01Name.l0 k x0 (wrap64 (x3 + 1))) else (some false)) else (some false))) else (none)) else ((spec_l01In.f (x0.size : Int) 1 12).bind fun t110 => (some t110))
def spec_l01Name.f (k : Nat) (a0 : ByteArray) : Option (Bool) := spec_l01Name.l0 k a0 0
set_option maxHeartbeats 8000000 in
set_option maxRecDepth 100000 in
theorem spec_l01Name.calls (k : Nat) (a0 : ByteArray) (r : Bool) (w : World) (h : spec_l01Name.f k a0 = some r) :
  Calls Tryd.prog 90 #[.string a0] w fun e w' => e = .returned (.bool r) ∧ Drawn0 w w' := by
 have H : (spec_l01Name.l0 k a0 0) = some r := h
 clear h
 have H' := Zh H
 clear H
 go_enter Tryd.func90, Tryd.ntmps90
 go_wp2
 go_loopg [3] k (fun kq v3 w' => ∃ (x3_1 : Int), v3 = .int .i64 x3_1 ∧ Aside0 (spec_l01Name.l0 kq a0 x3_1 = some r) ∧ Aside0 (kq ≤ k) ∧ Drawn0 w w')
 case atStart => exact ⟨(0), (by first | rfl | (simp; done) | (simp [*]; done)), H', ⟨Nat.le_refl _⟩, by repeat (first | exact Drawn0.refl _ | apply Drawn0.step)⟩
 case round =>
  clear H'
  obtain ⟨x3_1, rfl, HA, HK1, ⟨m1, rfl⟩⟩ := hrel
  cases gk with
  | zero => exact absurd HA.out (by simp [spec_l01Name.l0])
  | succ k1 =>
   have H := HA.out
   clear HA
   simp only [spec_l01Name.l0] at H
   by_cases c2 : x3_1 < (a0.size : Int)
   ·
    rw [if_pos c2] at H
    have c2b0 : decide (x3_1 < (a0.size : Int)) = true := decide_eq_true c2
    clear c2
    by_cases c3 : 0 ≤ x3_1
    ·
     rw [if_pos c3] at H
     have c3b0 : decide (0 ≤ x3_1) = true := decide_eq_true c3
     clear c3
     by_cases c5 : (bt a0 x3_1) ≥ 97
     ·
      rw [if_pos c5] at H
      have c5b0 : decide (97 ≤ (bt a0 x3_1)) = true := decide_eq_true c5
      clear c5
      by_cases c6 : ((bt a0 x3_1) ≤ 122)
      ·
       rw [if_pos c6] at H
       have c6b0 : decide ((bt a0 x3_1) ≤ 122) = true := decide_eq_true c6
       clear c6
       have H' := Zh H
       clear H
       have p4 : 0 ≤ (x3_1 : Int) := Zo
       have q4 : x3_1 < (a0.size : Int) := Zo
       have hx4 := bt_at a0 x3_1
       replace p4 := eq_true p4
       replace q4 := eq_true q4
       go_wp2
       go_roundg k1
       case measure => have := HK1.out; omega
       case rel => exact ⟨(wrap64 (x3_1 + 1)), (by first | rfl | (simp; done) | (simp [*]; done)), H', ⟨by have := HK1.out; omega⟩, by repeat (first | exact Drawn0.refl _ | apply Drawn0.step)⟩
      rw [if_neg c6] at H
      have c6b0 : decide ((bt a0 x3_1) ≤ 122) = false := decide_eq_false c6
      clear c6
      by_cases c7 : (bt a0 x3_1) ≥ 48
      ·
       rw [if_pos c7] at H
       have c7b0 : decide (48 ≤ (bt a0 x3_1)) = true := decide_eq_true c7
       clear c7
       by_cases c8 : ((bt a0 x3_1) ≤ 57)
       ·
        rw [if_pos c8] at H
        have c8b0 : decide ((bt a0 x3_1) ≤ 57) = true := decide_eq_true c8
        clear c8
        have H' := Zh H
        clear H
        have p4 : 0 ≤ (x3_1 : Int) := Zo
        have q4 : x3_1 < (a0.size : Int) := Zo
        have hx4 := bt_at a0 x3_1
        replace p4 := eq_true p4
        replace q4 := eq_true q4
        go_wp2
        go_roundg k1
        case measure => have := HK1.out; omega
        case rel => exact ⟨(wrap64 (x3_1 + 1)), (by first | rfl | (simp; done) | (simp [*]; done)), H', ⟨by have := HK1.out; omega⟩, by repeat (first | exact Drawn0.refl _ | apply Drawn0.step)⟩
       rw [if_neg c8] at H
       have c8b0 : decide ((bt a0 x3_1) ≤ 57) = false := decide_eq_false c8
       clear c8
       obtain rfl := Option.some.inj H
       have p4 : 0 ≤ (x3_1 : Int) := Zo
       have q4 : x3_1 < (a0.size : Int) := Zo
       have hx4 := bt_at a0 x3_1
       replace p4 := eq_true p4
       replace q4 := eq_true q4
       go_wp2
       go_ret
       exact ⟨by first | rfl | (simp; done) | (simp [*]; done), by repeat (first | exact Drawn0.refl _ | apply Drawn0.step)⟩
      rw [if_neg c7] at H
      have c7b0 : decide (48 ≤ (bt a0 x3_1)) = false := decide_eq_false c7
      clear c7
      obtain rfl := Option.some.inj H
      have p4 : 0 ≤ (x3_1 : Int) := Zo
      have q4 : x3_1 < (a0.size : Int) := Zo
      have hx4 := bt_at a0 x3_1
      replace p4 := eq_true p4
      replace q4 := eq_true q4
      go_wp2
      go_ret
      exact ⟨by first | rfl | (simp; done) | (simp [*]; done), by repeat (first | exact Drawn0.refl _ | apply Drawn0.step)⟩
     rw [if_neg c5] at H
     have c5b0 : decide (97 ≤ (bt a0 x3_1)) = false := decide_eq_false c5
     clear c5
     by_cases c9 : (bt a0 x3_1) ≥ 48
     ·
      rw [if_pos c9] at H
      have c9b0 : decide (48 ≤ (bt a0 x3_1)) = true := decide_eq_true c9
      clear c9
      by_cases c10 : ((bt a0 x3_1) ≤ 57)
      ·
       rw [if_pos c10] at H
       have c10b0 : decide ((bt a0 x3_1) ≤ 57) = true := decide_eq_true c10
       clear c10
       have H' := Zh H
       clear H
       have p4 : 0 ≤ (x3_1 : Int) := Zo
       have q4 : x3_1 < (a0.size : Int) := Zo
       have hx4 := bt_at a0 x3_1
       replace p4 := eq_true p4
       replace q4 := eq_true q4
       go_wp2
       go_roundg k1
       case measure => have := HK1.out; omega
       case rel => exact ⟨(wrap64 (x3_1 + 1)), (by first | rfl | (simp; done) | (simp [*]; done)), H', ⟨by have := HK1.out; omega⟩, by repeat (first | exact Drawn0.refl _ | apply Drawn0.step)⟩
      rw [if_neg c10] at H
      have c10b0 : decide ((bt a0 x3_1) ≤ 57) = false := decide_eq_false c10
      clear c10
      obtain rfl := Option.some.inj H
      have p4 : 0 ≤ (x3_1 : Int) := Zo
      have q4 : x3_1 < (a0.size : Int) := Zo
      have hx4 := bt_at a0 x3_1
      replace p4 := eq_true p4
      replace q4 := eq_true q4
      go_wp2
      go_ret
      exact ⟨by first | rfl | (simp; done) | (simp [*]; done), by repeat (first | exact Drawn0.refl _ | apply Drawn0.step)⟩
     rw [if_neg c9] at H
     have c9b0 : decide (48 ≤ (bt a0 x3_1)) = false := decide_eq_false c9
     clear c9
     obtain rfl := Option.some.inj H
     have p4 : 0 ≤ (x3_1 : Int) := Zo
     have q4 : x3_1 < (a0.size : Int) := Zo
     have hx4 := bt_at a0 x3_1
     replace p4 := eq_true p4
     replace q4 := eq_true q4
     go_wp2
     go_ret
     exact ⟨by first | rfl | (simp; done) | (simp [*]; done), by repeat (first | exact Drawn0.refl _ | apply Drawn0.step)⟩
    rw [if_neg c3] at H
    exact absurd H (by simp)
   rw [if_neg c2] at H
   have c2b0 : decide (x3_1 < (a0.size : Int)) = false := decide_eq_false c2
   clear c2
   replace H := Option.bind_eq_some_iff.mp H
   obtain ⟨t110, A110, H⟩ := H
   replace H : (some t110) = some r := H
   have A11 := Zh A110
   clear A110
   obtain rfl := Option.some.inj H
   go_wp2_with (first | ((with_reducible refine gate_callee (f := 62) rfl ?_); refine ZG (some 32) Tryd.func62 #[.int .i64 (a0.size : Int), .int .i64 1, .int .i64 12] rfl ?_; (with_reducible refine (spec_l01In.calls (a0.size : Int) 1 12 t110 _ A11.out).mono ?_); rintro e w' ⟨rfl, ⟨nd, rfl⟩⟩; refine ⟨_, rfl, ?_⟩))
   go_ret
   exact ⟨by first | rfl | (simp; done) | (simp [*]; done), by repeat (first | exact Drawn0.refl _ | apply Drawn0.step)⟩
end Go.Proofs.YtcgojdhbphocgaaDoor.F

namespace Go.Proofs.YtcgojdhbphocgaaDoor.F
open Go.RowKit Go.Proofs.YtcgojdhbphocgaaDoorW.PrintWords Go.Proofs.YtcgojdhbphocgaaDoorW.PrintLast Go.Proofs.YtcgojdhbphocgaaDoorW.PrintMore
open Go.Proofs.YtcgojdhbphocgaaDoor
set_option linter.unusedVariables false
set_option linter.unusedSimpArgs false
def spec_DiskOk.l0 : Nat → Int → List (S55) → Option (Bool)
  | 0, _, _ => none
  | k + 1, x3, x => if x3 < (x.length : Int) then (if 0 ≤ x3 then ((spec_l01Name.f k ((rd_T55 x x3).f0)).bind fun t112 => (if t112 = true then (if (((rd_T55 x x3).f1).length : Int) > 20000 then (some false) else (if (((rd_T55 x x3).f2).length : Int) > (wrap64 (20000 - (((rd_T55 x x3).f1).length : Int))) then (some false) else (if x3 > 0 then (if 0 ≤ (wrap64 (x3 - 1)) then (if (wrap64 (x3 - 1)) < (x.length : Int) then (if ((Op.bytesLess (((rd_T55 x (wrap64 (x3 - 1))).f0).toList) (((rd_T55 x x3).f0).toList)) = true) then (spec_DiskOk.l0 k (wrap64 (x3 + 1)) x) else (some false)) else (none)) else (none)) else (spec_DiskOk.l0 k (wrap64 (x3 + 1)) x)))) else (some false))) else (none)) else (some true)
def spec_DiskOk.f (k : Nat) (l0_0 : List (S55)) : Option (Bool) := if (l0_0.length : Int) > 8 then (some false) else (spec_DiskOk.l0 k 0 l0_0)
set_option maxHeartbeats 8000000 in
set_option maxRecDepth 100000 in
theorem spec_DiskOk.calls (k : Nat) (A0_0 : Option Addr) (c0_0 : Nat) (l0_0 : List (S55)) (r : Bool) (w : World) (hr0_0 : Kd.C k55 w A0_0 l0_0.length l0_0) (hc0_0 : l0_0.length ≤ c0_0) (h : spec_DiskOk.f k l0_0 = some r) :
    Calls Tryd.prog 84 #[.agg #[.slice A0_0 l0_0.length c0_0]] w fun e w' => e = .returned (.bool r) ∧ Below w.heap.size w w' := by
  have HR := Zh hr0_0
  clear hr0_0 hc0_0
  have ST := Zh (LW.St.start w)
  have hu28 := Tryd.underlying28
  have hu55 := Tryd.underlying55
  unfold spec_DiskOk.f at h
  by_cases c1 : (l0_0.length : Int) > 8
  · rw [if_pos c1] at h
    obtain rfl := Option.some.inj h
    have q1 : decide (8 < (l0_0.length : Int)) = true := decide_eq_true c1
    have q2 : decide (8 < l0_0.length) = true := decide_eq_true (by omega)
    clear h c1
    go_enter Tryd.func84, Tryd.ntmps84
    go_wp2
    go_ret
    exact ⟨rfl, (ST.out.alloc _ _ rfl).b⟩
  rw [if_neg c1] at h
  have q1 : decide (8 < (l0_0.length : Int)) = false := decide_eq_false c1
  have q2 : decide (8 < l0_0.length) = false := decide_eq_false (by omega)
  have H := Zh h
  clear h c1
  go_enter Tryd.func84, Tryd.ntmps84
  go_wp2_with fail
  replace ST := Zh (ST.out.alloc #[.slice A0_0 l0_0.length c0_0] 28 (g := w.heap.size) rfl)
  generalize hW : (w.alloc (.cells #[.slice A0_0 l0_0.length c0_0] 28)) = W at ST ⊢
  clear hW q1 q2
  go_loopg [3] k (fun kq v3 w' => ∃ (x3 : Int), v3 = .int .i64 x3 ∧ Aside0 (spec_DiskOk.l0 kq x3 l0_0 = some r) ∧ Aside0 (LW.St w w' [LW.box w.heap.size #[.slice A0_0 l0_0.length c0_0] 28]))
  case atStart => exact ⟨0, rfl, H, ST⟩
  case round =>
    clear H ST
    obtain ⟨x3, rfl, HA, ST⟩ := hrel
    cases gk with
    | zero => exact absurd HA.out (by simp [spec_DiskOk.l0])
    | succ k1 =>
      have H := HA.out
      clear HA
      simp only [spec_DiskOk.l0] at H
      have hc0 := ST.out.cell 0 rfl 0 (u := .slice A0_0 l0_0.length c0_0) rfl
      have hl0 := ST.out.lt 0 rfl
      by_cases c8 : x3 < (l0_0.length : Int)
      · rw [if_pos c8] at H
        have q8 := decide_eq_true c8
        by_cases p0 : 0 ≤ x3
        · rw [if_pos p0] at H
          obtain ⟨t, A7, H⟩ := Option.bind_eq_some_iff.mp H
          obtain ⟨ad, B1, d1, B2, d2, e, E0, E1, E2, _, _, _, _⟩ := at_T55 HR.out x3 p0 c8
          cases e
          have hx0 := (ST.out.b.cell (Zi w _ E0)).trans E0
          have hx1 := (ST.out.b.cell (Zi w _ E1)).trans E1
          have hx2 := (ST.out.b.cell (Zi w _ E2)).trans E2
          have hcall : ∀ w' : World, Calls Tryd.prog 90 #[.string (rd_T55 l0_0 x3).f0] w' fun e w'' => e = .returned (.bool t) ∧ ∃ m, w'' = w'.drewN m := fun w' => (spec_l01Name.calls k1 (rd_T55 l0_0 x3).f0 t w' A7).mono (fun _ _ h => ⟨h.1, h.2.out⟩)
          have p1 := eq_true p0
          have p2 := eq_true c8
          clear E0 E1 E2 p0 c8 A7
          go_wp2_with fail
          replace ST := Zh (ST.out.alloc #[.string (rd_T55 l0_0 x3).f0, .slice B1 (rd_T55 l0_0 x3).f1.length d1, .slice B2 (rd_T55 l0_0 x3).f2.length d2] 55 (g := wr.heap.size) rfl)
          generalize (wr.alloc (.cells #[.string (rd_T55 l0_0 x3).f0, .slice B1 (rd_T55 l0_0 x3).f1.length d1, .slice B2 (rd_T55 l0_0 x3).f2.length d2] 55)) = w4 at ST ⊢
          clear hx0 hx1 hx2 hc0 hl0
          have hc0 := ST.out.cell 1 rfl 0 (u := .slice (some ad) l0_0.length c0_0) rfl
          have hc1 := ST.out.cell 0 rfl 0 (u := .string (rd_T55 l0_0 x3).f0) rfl
          have hc2 := ST.out.cell 0 rfl 1 (u := .slice B1 (rd_T55 l0_0 x3).f1.length d1) rfl
          have hc3 := ST.out.cell 0 rfl 2 (u := .slice B2 (rd_T55 l0_0 x3).f2.length d2) rfl
          cases t with
          | false =>
            rw [if_neg (by decide)] at H
            obtain rfl := Option.some.inj H
            clear H
            go_quiet (first | (go_at_call 90; exact Calls.quiet_of (hcall _)))
            go_wp2
            go_ret
            exact ⟨rfl, (ST.out.drewN _).b⟩
          | true =>
            rw [if_pos rfl] at H
            by_cases c9 : (((rd_T55 l0_0 x3).f1).length : Int) > 20000
            · rw [if_pos c9] at H
              obtain rfl := Option.some.inj H
              have q9 : decide (20000 < ((rd_T55 l0_0 x3).f1.length : Int)) = true := decide_eq_true c9
              have q9n : decide (20000 < (rd_T55 l0_0 x3).f1.length) = true := decide_eq_true (by omega)
              clear H c9
              go_quiet (first | (go_at_call 90; exact Calls.quiet_of (hcall _)))
              go_wp2
              go_ret
              exact ⟨rfl, (ST.out.drewN _).b⟩
            rw [if_neg c9] at H
            have q9 : decide (20000 < ((rd_T55 l0_0 x3).f1.length : Int)) = false := decide_eq_false c9
            have q9n : decide (20000 < (rd_T55 l0_0 x3).f1.length) = false := decide_eq_false (by omega)
            clear c9
            by_cases c10 : (((rd_T55 l0_0 x3).f2).length : Int) > (wrap64 (20000 - (((rd_T55 l0_0 x3).f1).length : Int)))
            · rw [if_pos c10] at H
              obtain rfl := Option.some.inj H
              have q10 : decide (wrap64 (20000 - ((rd_T55 l0_0 x3).f1.length : Int)) < ((rd_T55 l0_0 x3).f2.length : Int)) = true := decide_eq_true c10
              clear H c10
              go_quiet (first | (go_at_call 90; exact Calls.quiet_of (hcall _)))
              go_wp2
              go_ret
              exact ⟨rfl, (ST.out.drewN _).b⟩
            rw [if_neg c10] at H
            have q10 : decide (wrap64 (20000 - ((rd_T55 l0_0 x3).f1.length : Int)) < ((rd_T55 l0_0 x3).f2.length : Int)) = false := decide_eq_false c10
            clear c10
            by_cases c11 : x3 > 0
            · rw [if_pos c11] at H
              have q11 : decide (0 < x3) = true := decide_eq_true c11
              clear c11
              by_cases c12 : 0 ≤ wrap64 (x3 - 1)
              · rw [if_pos c12] at H
                by_cases c13 : wrap64 (x3 - 1) < (l0_0.length : Int)
                · rw [if_pos c13] at H
                  obtain ⟨ad2, B3, d3, B4, d4, e, E0, _, _, _, _, _, _⟩ := at_T55 HR.out (wrap64 (x3 - 1)) c12 c13
                  cases e
                  have hx0 := (ST.out.b.cell (Zi w _ E0)).trans E0
                  have p3 := eq_true c12
                  have p4 := eq_true c13
                  clear E0 c12 c13
                  go_quiet (first | (go_at_call 90; exact Calls.quiet_of (hcall _)))
                  cases hl : Op.bytesLess (rd_T55 l0_0 (wrap64 (x3 - 1))).f0.toList (rd_T55 l0_0 x3).f0.toList with
                  | true =>
                    rw [if_pos hl] at H
                    have H' := Zh H
                    clear H
                    go_wp2
                    go_roundg k1
                    case measure => omega
                    case rel => exact ⟨_, rfl, H', ⟨(ST.out.drewN _).tail⟩⟩
                  | false =>
                    rw [if_neg (by rw [hl]; decide)] at H
                    obtain rfl := Option.some.inj H
                    clear H
                    go_wp2
                    go_ret
                    exact ⟨rfl, (ST.out.drewN _).b⟩
                rw [if_neg c13] at H; exact absurd H (by simp)
              rw [if_neg c12] at H; exact absurd H (by simp)
            rw [if_neg c11] at H
            have q11 : decide (0 < x3) = false := decide_eq_false c11
            have H' := Zh H
            clear H c11
            go_quiet (first | (go_at_call 90; exact Calls.quiet_of (hcall _)))
            go_wp2
            go_roundg k1
            case measure => omega
            case rel => exact ⟨_, rfl, H', ⟨(ST.out.drewN _).tail⟩⟩
        rw [if_neg p0] at H; exact absurd H (by simp)
      rw [if_neg c8] at H
      have q8 := decide_eq_false c8
      obtain rfl := Option.some.inj H
      clear H c8
      go_wp2
      go_ret
      exact ⟨rfl, ST.out.b⟩
end Go.Proofs.YtcgojdhbphocgaaDoor.F

namespace Go.Proofs.YtcgojdhbphocgaaDoor.F
open Go.RowKit Go.Proofs.YtcgojdhbphocgaaDoorW.PrintWords Go.Proofs.YtcgojdhbphocgaaDoorW.PrintWords.Kd Go.Proofs.YtcgojdhbphocgaaDoorW.PrintMore.Kd Go.Proofs.YtcgojdhbphocgaaDoorW.PrintLast Go.Proofs.YtcgojdhbphocgaaDoorW.PrintMore
attribute [local go_sem] max2_int min2_int max_two min_two max_three min_three max_four min_four   -- for this text's walks alone
set_option linter.unusedVariables false
set_option linter.unusedSimpArgs false
def spec_l03Find.l0 : Nat → ByteArray → Int → List (S55) → Option (Int)
 | 0, _, _, _ => none
 | k + 1, x1, x5, x109000 => if x5 < (x109000.length : Int) then (if 0 ≤ x5 then (if ((rd_T55 x109000 x5).f0).toList = x1.toList then (some x5) else (spec_l03Find.l0 k x1 (wrap64 (x5 + 1)) x109000)) else (none)) else (some (-1))
def spec_l03Find.f (k : Nat) (l0_0 : List (S55)) (a1 : ByteArray) : Option (Int) := spec_l03Find.l0 k a1 0 l0_0
set_option maxHeartbeats 8000000 in
set_option maxRecDepth 100000 in
theorem spec_l03Find.calls (k : Nat) (A0_0 : Option Addr) (c0_0 : Nat) (l0_0 : List (S55)) (a1 : ByteArray) (r : Int) (w : World) (hr0_0 : Kd.C k55 w A0_0 l0_0.length l0_0) (hc0_0 : l0_0.length ≤ c0_0) (h : spec_l03Find.f k l0_0 a1 = some r) :
  Calls Tryd.prog 83 #[.agg #[.slice A0_0 l0_0.length c0_0], .string a1] w fun e w' => e = .returned (.int .i64 r) ∧ Below w.heap.size w w' := by
 have hu28 := Tryd.underlying28
 have HR0_0 := Zh hr0_0
 have HC0_0 := Zh hc0_0
 clear hr0_0 hc0_0
 have HB := Zh (Below.refl w.heap.size w)
 have H : (spec_l03Find.l0 k a1 0 l0_0) = some r := h
 clear h
 have H' := Zh H
 clear H
 go_enter Tryd.func83, Tryd.ntmps83
 go_wp2_with (first | ((with_reducible refine gate_dst (N := 2) rfl ?_); refine box_event ?hg (N := 2) ?hd (cs := #[.slice A0_0 l0_0.length c0_0]) (t := 28) ?hr ?_; (case hd => rfl); (case hg => rfl); (case hr => first | (go_simp; done) | (go_simp; rfl)); intro gb108 hg w3 hbox hb; have BK108 := Zh (hbox); have GW108 := Zh ((by rw [hg]; exact (below_size Zs) : w.heap.size ≤ gb108)); have GE108 := Zh ((by rw [hg]; exact (below_size Zs) : w.heap.size ≤ gb108)); replace HB := Zh (Zl Zs hb); clear hb hbox hg))
 go_loopg [5] k (fun kq v5 w' => ∃ (x5_1 : Int), v5 = .int .i64 x5_1 ∧ Aside0 (spec_l03Find.l0 kq a1 x5_1 l0_0 = some r) ∧ Aside0 (kq ≤ k) ∧ Aside0 (w'.heap[gb108]? = some (.cells #[(.slice A0_0 l0_0.length c0_0)] 28 (0, 0))) ∧ Aside0 (Below w.heap.size w w'))
 case atStart => exact ⟨(0), (by first | rfl | (simp; done) | (simp [*]; done)), H', ⟨Nat.le_refl _⟩, ⟨Zk⟩, ⟨Zs⟩⟩
 case round =>
  clear H'
  try clear p2
  obtain ⟨x5_1, rfl, HA, HK1, BK108, HB⟩ := hrel
  cases gk with
  | zero => exact absurd HA.out (by simp [spec_l03Find.l0])
  | succ k1 =>
   have H := HA.out
   clear HA
   simp only [spec_l03Find.l0] at H
   by_cases c4 : x5_1 < (l0_0.length : Int)
   ·
    rw [if_pos c4] at H
    have c4b0 : decide (x5_1 < (l0_0.length : Int)) = true := decide_eq_true c4
    clear c4
    by_cases c5 : 0 ≤ x5_1
    ·
     rw [if_pos c5] at H
     have c5b0 : decide (0 ≤ x5_1) = true := decide_eq_true c5
     clear c5
     by_cases c6 : ((rd_T55 l0_0 x5_1).f0).toList = a1.toList
     ·
      rw [if_pos c6] at H
      have c6b0 : (((rd_T55 l0_0 x5_1).f0).toList == a1.toList) = true := beq_iff_eq.mpr c6
      have c6b1 : (((rd_T55 l0_0 x5_1).f0).toList != a1.toList) = false := bne_eq_false_iff_eq.mpr c6
      clear c6
      obtain rfl := Option.some.inj H
      have hcz7_0 : wr.cell? ⟨gb108, 0, none⟩ = some (.slice A0_0 l0_0.length c0_0) := (blk_cell BK108.out 0).trans rfl
      have hfz7_0 := Zn BK108.out 0
      have p109 : 0 ≤ (x5_1 : Int) := Zo
      have q109 : x5_1 < (l0_0.length : Int) := Zo
      obtain ⟨ad109, A109_1, c109_1, A109_2, c109_2, e109, hx109_0, hx109_1, hx109_2, hl109_1, hi109_1, hl109_2, hi109_2⟩ := at_T55 HR0_0.out x5_1 p109 q109
      cases e109
      replace hx109_0 := Zc HB.out hx109_0
      replace hx109_1 := Zc HB.out hx109_1
      replace hx109_2 := Zc HB.out hx109_2
      have HR109_1 := Zh hi109_1
      have HC109_1 := Zh hl109_1
      clear hi109_1 hl109_1
      have HR109_2 := Zh hi109_2
      have HC109_2 := Zh hl109_2
      clear hi109_2 hl109_2
      replace p109 := eq_true p109
      replace q109 := eq_true q109
      go_wp2
      go_ret
      exact ⟨ZE, Zs⟩
     rw [if_neg c6] at H
     have c6b0 : (((rd_T55 l0_0 x5_1).f0).toList == a1.toList) = false := beq_eq_false_iff_ne.mpr c6
     have c6b1 : (((rd_T55 l0_0 x5_1).f0).toList != a1.toList) = true := bne_iff_ne.mpr c6
     have H' := Zh H
     clear H
     have hcz8_0 : wr.cell? ⟨gb108, 0, none⟩ = some (.slice A0_0 l0_0.length c0_0) := (blk_cell BK108.out 0).trans rfl
     have hfz8_0 := Zn BK108.out 0
     have p109 : 0 ≤ (x5_1 : Int) := Zo
     have q109 : x5_1 < (l0_0.length : Int) := Zo
     obtain ⟨ad109, A109_1, c109_1, A109_2, c109_2, e109, hx109_0, hx109_1, hx109_2, hl109_1, hi109_1, hl109_2, hi109_2⟩ := at_T55 HR0_0.out x5_1 p109 q109
     cases e109
     replace hx109_0 := Zc HB.out hx109_0
     replace hx109_1 := Zc HB.out hx109_1
     replace hx109_2 := Zc HB.out hx109_2
     have HR109_1 := Zh hi109_1
     have HC109_1 := Zh hl109_1
     clear hi109_1 hl109_1
     have HR109_2 := Zh hi109_2
     have HC109_2 := Zh hl109_2
     clear hi109_2 hl109_2
     replace p109 := eq_true p109
     replace q109 := eq_true q109
     go_wp2
     go_roundg k1
     case measure => have := HK1.out; omega
     case rel => exact ⟨(wrap64 (x5_1 + 1)), (by first | rfl | (simp; done) | (simp [*]; done)), H', ⟨by have := HK1.out; omega⟩, ⟨Zk⟩, ⟨Zs⟩⟩
    rw [if_neg c5] at H
    exact absurd H (by simp)
   rw [if_neg c4] at H
   have c4b0 : decide (x5_1 < (l0_0.length : Int)) = false := decide_eq_false c4
   clear c4
   obtain rfl := Option.some.inj H
   have hcz9_0 : wr.cell? ⟨gb108, 0, none⟩ = some (.slice A0_0 l0_0.length c0_0) := (blk_cell BK108.out 0).trans rfl
   have hfz9_0 := Zn BK108.out 0
   go_wp2
   go_ret
   exact ⟨ZE, Zs⟩
def spec_l01Join.l0 : Nat → List Int → List Int → Int → Option (List Int)
 | 0, _, _, _ => none
 | k + 1, x1, x5, x6 => if x6 < (x1.length : Int) then (if 0 ≤ x6 then (if x5.length < 140737488355328 then (spec_l01Join.l0 k x1 (x5 ++ [rd x1 x6]) (wrap64 (x6 + 1))) else (none)) else (none)) else (some x5)
def spec_l01Join.f (k : Nat) (l0 : List Int) (l1 : List Int) : Option (List Int) := (spec_l01Bytes.f k l0).bind fun t118 => (spec_l01Join.l0 k l1 t118 0)
set_option maxHeartbeats 8000000 in
set_option maxRecDepth 100000 in
theorem spec_l01Join.calls (k : Nat) (A0 : Option Addr) (c0 : Nat) (l0 : List Int) (A1 : Option Addr) (c1 : Nat) (l1 : List Int) (r : List Int) (w : World) (hr0 : Kd.C (Kd.int .u8) w A0 l0.length l0) (hc0 : l0.length ≤ c0) (hr1 : Kd.C (Kd.int .u8) w A1 l1.length l1) (hc1 : l1.length ≤ c1) (h : spec_l01Join.f k l0 l1 = some r) :
  Calls Tryd.prog 85 #[.slice A0 l0.length c0, .slice A1 l1.length c1] w fun e w' => ∃ v0_ : Value, e = .returned (v0_) ∧ Kd.R (Kd.int .u8) 5 w' w.heap.size (fun _ => True) v0_ r ∧ Below w.heap.size w w' := by
 have HR0 := Zh hr0
 have HC0 := Zh hc0
 clear hr0 hc0
 have HR1 := Zh hr1
 have HC1 := Zh hc1
 clear hr1 hc1
 have HB := Zh (Below.refl w.heap.size w)
 have H : ((spec_l01Bytes.f k l0).bind fun t118 => (spec_l01Join.l0 k l1 t118 0)) = some r := h
 clear h
 replace H := Option.bind_eq_some_iff.mp H
 obtain ⟨t118, A30, H⟩ := H
 replace H : (spec_l01Join.l0 k l1 t118 0) = some r := H
 have A3 := Zh A30
 clear A30
 have H' := Zh H
 clear H
 go_enter Tryd.func85, Tryd.ntmps85
 go_wp2_with (first | ((with_reducible refine gate_callee (f := 87) rfl ?_); refine ZG (some 8) Tryd.func87 #[.slice A0 l0.length c0] rfl ?_; (with_reducible refine (spec_l01Bytes.calls k _ _ l0 t118 _ ?side1 ?side2 A3.out).mono ?_); (case side1 => repeat (first | exact HR0.out | (with_reducible refine C_alloc ?_ _) | (with_reducible refine C_drewN ?_ _) | (with_reducible refine C_drew ?_))); (case side2 => exact HC0.out); rintro e w4 ⟨v119, rfl, ho0, hb⟩; refine ⟨_, rfl, ?_⟩; have HO120 := Zh (R_lower ho0 (below_size Zs)); replace HB := Zh (Zl Zs hb); (try clear hb); (try clear hb2); (try clear hk); (try clear hi); (try clear ho0)))
 go_loopg [5, 6] k (fun kq v5 v6 w' => ∃ (x5_1 : List Int) (x6_1 : Int), v6 = .int .i64 x6_1 ∧ Aside0 (spec_l01Join.l0 kq l1 x5_1 x6_1 = some r) ∧ Aside0 (kq ≤ k) ∧ Aside0 (Kd.R (Kd.int .u8) 5 w' w.heap.size (fun _ => True) v5 x5_1) ∧ Aside0 (Below w.heap.size w w'))
 case atStart => exact ⟨(t118), (0), (by first | rfl | (simp; done) | (simp [*]; done)), H', ⟨Nat.le_refl _⟩, ⟨ZR HO120.out⟩, ⟨Zs⟩⟩
 case round =>
  clear H'
  try clear c1
  try clear p2
  obtain ⟨x5_1, x6_1, rfl, HA, HK1, HO_5, HB⟩ := hrel
  cases gk with
  | zero => exact absurd HA.out (by simp [spec_l01Join.l0])
  | succ k1 =>
   have H := HA.out
   clear HA
   simp only [spec_l01Join.l0] at H
   by_cases c5 : x6_1 < (l1.length : Int)
   ·
    rw [if_pos c5] at H
    have c5b0 : decide (x6_1 < (l1.length : Int)) = true := decide_eq_true c5
    clear c5
    by_cases c6 : 0 ≤ x6_1
    ·
     rw [if_pos c6] at H
     have c6b0 : decide (0 ≤ x6_1) = true := decide_eq_true c6
     clear c6
     by_cases c7 : x5_1.length < 140737488355328
     ·
      rw [if_pos c7] at H
      have LMc7 := Zh c7
      clear c7
      obtain ⟨y122, hy122⟩ : ∃ y_ : List Int, y_ = (x5_1 ++ [rd l1 x6_1]) := ⟨_, rfl⟩
      replace H : (spec_l01Join.l0 k1 l1 y122 (wrap64 (x6_1 + 1))) = some r := by first | (rw [hy122]; with_reducible exact H) | (have H2_ := (Option.bind_some _ _).symm.trans H; rw [hy122]; with_reducible exact H2_) | (have H2_ := (Option.bind_some _ _).symm.trans H; with_reducible exact H2_) | with_reducible exact H | (rw [hy122]; exact H) | exact H
      have Ny122 := Zh hy122
      clear hy122
      have H' := Zh H
      clear H
      have p121 : 0 ≤ (x6_1 : Int) := Zo
      have q121 : x6_1 < (l1.length : Int) := Zo
      obtain ⟨ad121, e121, hx121_0⟩ := Kd.at_int HR1.out x6_1 p121 q121
      cases e121
      replace hx121_0 := Zc HB.out hx121_0
      replace p121 := eq_true p121
      replace q121 := eq_true q121
      go_wp2_with (first | ((with_reducible refine gate_builtin (b := .append) (xs := #[.tmp 15, .tmp 20]) rfl ?_); at_builtin; refine R_append (Kd.int .u8) (w0 := w) w.heap.size rfl (.tmp 15) (.tmp 20) 41 5 (.int .u8 0) 1 rfl Tryd.underlying41 info5 rfl (by decide) (by omega) u5 x5_1 (rd l1 x6_1) [.int .u8 (rd l1 x6_1)] (fun _ => True) (fun _ => False) rfl rfl ?aP (fun _ hk => hk.elim) ?aF ?aO ?aB ?aS ?aL ?_; (case aP => exact rfl); (case aB => exact Zs); (case aF => exact (fun _ _ => trivial)); (case aO => exact (ZR HO_5.out)); (case aS => exact (below_size Zs)); (case aL => have := LMc7.out; omega); intro v123 w8 ho hb hg hat; rw [← Ny122.out] at ho; have n0_ := Zh (hb); have n1_ := Zh (ho); clear HB; clear HO_5; have HB := n0_; have HO124 := n1_; clear n0_ n1_; clear ho hb hg hat))
      go_roundg k1
      case measure => have := HK1.out; omega
      case rel => exact ⟨(y122), (wrap64 (x6_1 + 1)), (by first | rfl | (simp; done) | (simp [*]; done)), H', ⟨by have := HK1.out; omega⟩, ⟨ZR HO124.out⟩, ⟨Zs⟩⟩
     rw [if_neg c7] at H
     exact absurd H (by simp)
    rw [if_neg c6] at H
    exact absurd H (by simp)
   rw [if_neg c5] at H
   have c5b0 : decide (x6_1 < (l1.length : Int)) = false := decide_eq_false c5
   clear c5
   obtain rfl := Option.some.inj H
   go_wp2
   go_ret
   exact ⟨_, ZE, ZR HO_5.out, Zs⟩
end Go.Proofs.YtcgojdhbphocgaaDoor.F

namespace Go.Proofs.YtcgojdhbphocgaaDoor.F
open Go.Proofs.YtcgojdhbphocgaaDoor
open Go.RowKit Go.Proofs.YtcgojdhbphocgaaDoorW.PrintWords Go.Proofs.YtcgojdhbphocgaaDoorW.PrintWords.Kd Go.Proofs.YtcgojdhbphocgaaDoorW.PrintMore.Kd Go.Proofs.YtcgojdhbphocgaaDoorW.PrintLast Go.Proofs.YtcgojdhbphocgaaDoorW.PrintMore
attribute [local go_sem] max2_int min2_int max_two min_two max_three min_three max_four min_four   -- for this text's walks alone
set_option linter.unusedVariables false
set_option linter.unusedSimpArgs false
def spec_Content.f (k : Nat) (l0_0 : List (S55)) (a1 : ByteArray) : Option (List Int × Bool) := (spec_l03Find.f k l0_0 a1).bind fun t126 => ((spec_DiskOk.f k l0_0).bind fun t127 => (if t127 = true then (if t126 < 0 then (some (([] : List Int), false)) else (if 0 ≤ t126 then (if t126 < (l0_0.length : Int) then ((spec_l01Join.f k ((rd_T55 l0_0 t126).f1) ((rd_T55 l0_0 t126).f2)).bind fun t130 => (some (t130, true))) else (none)) else (none))) else (some (([] : List Int), false))))
def spec_Content.T4 : Bool × List (List Nat × List Nat) := (true, [([], []), ([0], [0]), ([], []), ([1, 2], [1, 2]), ([3], [3]), ([4], [4]), ([], []), ([6], [6]), ([], []), ([7, 8], [7, 8]), ([9], [9]), ([10], [10]), ([5, 11], [5, 11]), ([12, 12, 0, 1, 2, 3, 4, 5, 6, 7, 8, 9, 10, 11, 12], [12]), ([13, 0, 1, 2, 3, 4, 5, 6, 7, 8, 9, 10, 11, 12, 13], [])])
def spec_Content.B4 : List Nat := [0, 1, 0, 7, 15, 31, 0, 64, 0, 448, 960, 1984, 4095, 8191, 16383]
theorem spec_Content.tab4 : rtab .any (opsOf Tryd.f50 4) = spec_Content.T4 := by kernel_rfl
theorem spec_Content.bits4 : waitsOk spec_Content.T4.2 spec_Content.B4 = true := by kernel_rfl
set_option maxHeartbeats 8000000 in
set_option maxRecDepth 100000 in
theorem spec_Content.calls (k : Nat) (A0_0 : Option Addr) (c0_0 : Nat) (l0_0 : List (S55)) (a1 : ByteArray) (r1 : List Int) (r2 : Bool) (w : World) (hr0_0 : Kd.C k55 w A0_0 l0_0.length l0_0) (hc0_0 : l0_0.length ≤ c0_0) (h : spec_Content.f k l0_0 a1 = some (r1, r2)) :
  Calls Tryd.prog 50 #[.agg #[.slice A0_0 l0_0.length c0_0], .string a1] w fun e w' => ∃ v0_ : Value, e = .returned (.tuple #[v0_, .bool r2]) ∧ Kd.R (Kd.int .u8) 5 w' w.heap.size (fun _ => True) v0_ r1 ∧ Below w.heap.size w w' := by
 have hu28 := Tryd.underlying28
 have HR0_0 := Zh hr0_0
 have HC0_0 := Zh hc0_0
 clear hr0_0 hc0_0
 have HB := Zh (Below.refl w.heap.size w)
 have H : ((spec_l03Find.f k l0_0 a1).bind fun t126 => ((spec_DiskOk.f k l0_0).bind fun t127 => (if t127 = true then (if t126 < 0 then (some (([] : List Int), false)) else (if 0 ≤ t126 then (if t126 < (l0_0.length : Int) then ((spec_l01Join.f k ((rd_T55 l0_0 t126).f1) ((rd_T55 l0_0 t126).f2)).bind fun t130 => (some (t130, true))) else (none)) else (none))) else (some (([] : List Int), false))))) = some (r1, r2) := h
 clear h
 replace H := Option.bind_eq_some_iff.mp H
 obtain ⟨t126, A30, H⟩ := H
 replace H : ((spec_DiskOk.f k l0_0).bind fun t127 => (if t127 = true then (if t126 < 0 then (some (([] : List Int), false)) else (if 0 ≤ t126 then (if t126 < (l0_0.length : Int) then ((spec_l01Join.f k ((rd_T55 l0_0 t126).f1) ((rd_T55 l0_0 t126).f2)).bind fun t130 => (some (t130, true))) else (none)) else (none))) else (some (([] : List Int), false)))) = some (r1, r2) := H
 have A3 := Zh A30
 clear A30
 replace H := Option.bind_eq_some_iff.mp H
 obtain ⟨t127, A40, H⟩ := H
 replace H : (if t127 = true then (if t126 < 0 then (some (([] : List Int), false)) else (if 0 ≤ t126 then (if t126 < (l0_0.length : Int) then ((spec_l01Join.f k ((rd_T55 l0_0 t126).f1) ((rd_T55 l0_0 t126).f2)).bind fun t130 => (some (t130, true))) else (none)) else (none))) else (some (([] : List Int), false))) = some (r1, r2) := H
 have A4 := Zh A40
 clear A40
 by_cases c5 : t127 = true
 ·
  subst c5
  have H1 : (if t126 < 0 then (some (([] : List Int), false)) else (if 0 ≤ t126 then (if t126 < (l0_0.length : Int) then ((spec_l01Join.f k ((rd_T55 l0_0 t126).f1) ((rd_T55 l0_0 t126).f2)).bind fun t130 => (some (t130, true))) else (none)) else (none))) = some (r1, r2) := by rw [if_pos rfl] at H; exact H
  clear H
  have H := H1
  clear H1
  by_cases c6 : t126 < 0
  ·
   rw [if_pos c6] at H
   have c6b0 : decide (t126 < 0) = true := decide_eq_true c6
   clear c6
   simp only [Option.some.injEq, Prod.mk.injEq] at H
   obtain ⟨rfl, rfl⟩ := H
   go_enter Tryd.func50, Tryd.ntmps50
   go_wp2_with (first | ((with_reducible refine gate_dst (N := 2) rfl ?_); refine box_event ?hg (N := 2) ?hd (cs := #[.slice A0_0 l0_0.length c0_0]) (t := 28) ?hr ?_; (case hd => rfl); (case hg => rfl); (case hr => first | (go_simp; done) | (go_simp; rfl)); intro gb125 hg w7 hbox hb; have BK125 := Zh (hbox); have GW125 := Zh ((by rw [hg]; exact (below_size Zs) : w.heap.size ≤ gb125)); have GE125 := Zh ((by rw [hg]; exact (below_size Zs) : w.heap.size ≤ gb125)); replace HB := Zh (Zl Zs hb); clear hb hbox hg; have hcz8_0 : w7.cell? ⟨gb125, 0, none⟩ = some (.slice A0_0 l0_0.length c0_0) := (blk_cell BK125.out 0).trans rfl; have hfz8_0 := Zn BK125.out 0) | ((with_reducible refine gate_callee (f := 83) rfl ?_); refine ZG (some 9) Tryd.func83 #[.agg #[.slice A0_0 l0_0.length c0_0], .string a1] rfl ?_; (with_reducible refine (spec_l03Find.calls k _ _ l0_0 a1 t126 _ ?side1 ?side2 A3.out).mono ?_); (case side1 => repeat (first | exact (C_below HR0_0.out HB.out) | (with_reducible refine C_alloc ?_ _) | (with_reducible refine C_drewN ?_ _) | (with_reducible refine C_drew ?_))); (case side2 => exact HC0_0.out); rintro e w9 ⟨rfl, hb⟩; refine ⟨_, rfl, ?_⟩; replace BK125 := Zh (Zm (g := gb125) (o := .cells #[.slice A0_0 l0_0.length c0_0] 28 (0, 0)) Zk hb); replace HB := Zh (Zl Zs hb); (try clear hb); (try clear hb2); (try clear hk); (try clear hi); have hcz10_0 : w9.cell? ⟨gb125, 0, none⟩ = some (.slice A0_0 l0_0.length c0_0) := (blk_cell BK125.out 0).trans rfl; have hfz10_0 := Zn BK125.out 0) | ((with_reducible refine gate_callee (f := 84) rfl ?_); refine ZG (some 11) Tryd.func84 #[.agg #[.slice A0_0 l0_0.length c0_0]] rfl ?_; (with_reducible refine (spec_DiskOk.calls k _ _ l0_0 true _ ?side1 ?side2 A4.out).mono ?_); (case side1 => repeat (first | exact (C_below HR0_0.out HB.out) | (with_reducible refine C_alloc ?_ _) | (with_reducible refine C_drewN ?_ _) | (with_reducible refine C_drew ?_))); (case side2 => exact HC0_0.out); rintro e w11 ⟨rfl, hb⟩; refine ⟨_, rfl, ?_⟩; replace BK125 := Zh (Zm (g := gb125) (o := .cells #[.slice A0_0 l0_0.length c0_0] 28 (0, 0)) Zk hb); replace HB := Zh (Zl Zs hb); (try clear hb); (try clear hb2); (try clear hk); (try clear hi)))
   go_ret2
   exact ⟨_, ZE, by first | exact R_nil _ _ _ _ _ | exact N_nil _ _ _ _ _ | exact V_nil _ _ _ _ _ | exact Q_nil _ _ _ _ _ | exact S_nil _ _ _ _ _, Zs⟩
  rw [if_neg c6] at H
  have c6b0 : decide (t126 < 0) = false := decide_eq_false c6
  clear c6
  by_cases c12 : 0 ≤ t126
  ·
   rw [if_pos c12] at H
   have c12b0 : decide (0 ≤ t126) = true := decide_eq_true c12
   clear c12
   by_cases c13 : t126 < (l0_0.length : Int)
   ·
    rw [if_pos c13] at H
    have c13b0 : decide (t126 < (l0_0.length : Int)) = true := decide_eq_true c13
    clear c13
    replace H := Option.bind_eq_some_iff.mp H
    obtain ⟨t130, A140, H⟩ := H
    replace H : (some (t130, true)) = some (r1, r2) := H
    have A14 := Zh A140
    clear A140
    simp only [Option.some.injEq, Prod.mk.injEq] at H
    obtain ⟨rfl, rfl⟩ := H
    go_enter Tryd.func50, Tryd.ntmps50
    try go_wp2_with (first | ((with_reducible refine gate_dst (N := 2) rfl ?_); refine box_event ?hg (N := 2) ?hd (cs := #[.slice A0_0 l0_0.length c0_0]) (t := 28) ?hr ?_; (case hd => rfl); (case hg => rfl); (case hr => first | (go_simp; done) | (go_simp; rfl)); intro gb125 hg w15 hbox hb; have BK125 := Zh (hbox); have GW125 := Zh ((by rw [hg]; exact (below_size Zs) : w.heap.size ≤ gb125)); have GE125 := Zh ((by rw [hg]; exact (below_size Zs) : w.heap.size ≤ gb125)); replace HB := Zh (Zl Zs hb); clear hb hbox hg; have hcz16_0 : w15.cell? ⟨gb125, 0, none⟩ = some (.slice A0_0 l0_0.length c0_0) := (blk_cell BK125.out 0).trans rfl; have hfz16_0 := Zn BK125.out 0) | ((with_reducible refine gate_callee (f := 83) rfl ?_); refine ZG (some 9) Tryd.func83 #[.agg #[.slice A0_0 l0_0.length c0_0], .string a1] rfl ?_; (with_reducible refine (spec_l03Find.calls k _ _ l0_0 a1 t126 _ ?side1 ?side2 A3.out).mono ?_); (case side1 => repeat (first | exact (C_below HR0_0.out HB.out) | (with_reducible refine C_alloc ?_ _) | (with_reducible refine C_drewN ?_ _) | (with_reducible refine C_drew ?_))); (case side2 => exact HC0_0.out); rintro e w17 ⟨rfl, hb⟩; refine ⟨_, rfl, ?_⟩; replace BK125 := Zh (Zm (g := gb125) (o := .cells #[.slice A0_0 l0_0.length c0_0] 28 (0, 0)) Zk hb); replace HB := Zh (Zl Zs hb); (try clear hb); (try clear hb2); (try clear hk); (try clear hi); have hcz18_0 : w17.cell? ⟨gb125, 0, none⟩ = some (.slice A0_0 l0_0.length c0_0) := (blk_cell BK125.out 0).trans rfl; have hfz18_0 := Zn BK125.out 0) | ((with_reducible refine gate_callee (f := 84) rfl ?_); refine ZG (some 11) Tryd.func84 #[.agg #[.slice A0_0 l0_0.length c0_0]] rfl ?_; (with_reducible refine (spec_DiskOk.calls k _ _ l0_0 true _ ?side1 ?side2 A4.out).mono ?_); (case side1 => repeat (first | exact (C_below HR0_0.out HB.out) | (with_reducible refine C_alloc ?_ _) | (with_reducible refine C_drewN ?_ _) | (with_reducible refine C_drew ?_))); (case side2 => exact HC0_0.out); rintro e w19 ⟨rfl, hb⟩; refine ⟨_, rfl, ?_⟩; replace BK125 := Zh (Zm (g := gb125) (o := .cells #[.slice A0_0 l0_0.length c0_0] 28 (0, 0)) Zk hb); replace HB := Zh (Zl Zs hb); (try clear hb); (try clear hb2); (try clear hk); (try clear hi)))
    replace BK125 := Zh (Zb BK125.out)
    replace HB := Zh (Ze HB.out)
    have p128 : 0 ≤ (t126 : Int) := Zo
    have q128 : t126 < (l0_0.length : Int) := Zo
    obtain ⟨ad128, A128_1, c128_1, A128_2, c128_2, e128, hx128_0, hx128_1, hx128_2, hl128_1, hi128_1, hl128_2, hi128_2⟩ := at_T55 HR0_0.out t126 p128 q128
    have hw128_2 := hx128_2
    have hw128_1 := hx128_1
    have hw128_0 := hx128_0
    cases e128
    replace hx128_0 := Zc HB.out hx128_0
    replace hx128_1 := Zc HB.out hx128_1
    replace hx128_2 := Zc HB.out hx128_2
    have HR128_1 := Zh hi128_1
    have HC128_1 := Zh hl128_1
    clear hi128_1 hl128_1
    have HR128_2 := Zh hi128_2
    have HC128_2 := Zh hl128_2
    clear hi128_2 hl128_2
    replace p128 := eq_true p128
    replace q128 := eq_true q128
    have p129 : 0 ≤ (t126 : Int) := Zo
    have q129 : t126 < (l0_0.length : Int) := Zo
    obtain ⟨ad129, A129_1, c129_1, A129_2, c129_2, e129, hx129_0, hx129_1, hx129_2, hl129_1, hi129_1, hl129_2, hi129_2⟩ := at_T55 HR0_0.out t126 p129 q129
    have hw129_2 := hx129_2
    have hw129_1 := hx129_1
    have hw129_0 := hx129_0
    obtain rfl : ad128 = ad129 := (by injection e129)
    replace hx129_0 := Zc HB.out hx129_0
    replace hx129_1 := Zc HB.out hx129_1
    replace hx129_2 := Zc HB.out hx129_2
    have HR129_1 := Zh hi129_1
    have HC129_1 := Zh hl129_1
    clear hi129_1 hl129_1
    have HR129_2 := Zh hi129_2
    have HC129_2 := Zh hl129_2
    clear hi129_2 hl129_2
    replace p129 := eq_true p129
    replace q129 := eq_true q129
    have ea_ := Option.some.inj (hx128_1.symm.trans hx129_1)
    injection ea_ with ea_ en_ ec_
    subst ea_
    subst ec_
    clear en_
    have ea_ := Option.some.inj (hx128_2.symm.trans hx129_2)
    injection ea_ with ea_ en_ ec_
    subst ea_
    subst ec_
    clear en_
    refine start_ (n := 15) (S := fun w' => w'.cell? ⟨gb125, 0, none⟩ = some (.slice (some ad128) l0_0.length c0_0) ∧ w'.cell? (ad128.add ((t126).toNat * 3)) = some (.string ((rd_T55 l0_0 t126).f0)) ∧ w'.cell? ⟨(ad128.add ((t126).toNat * 3)).block, (ad128.add ((t126).toNat * 3)).off + 1, none⟩ = some (.slice A128_1 ((rd_T55 l0_0 t126).f1).length c128_1) ∧ w'.cell? ⟨(ad128.add ((t126).toNat * 3)).block, (ad128.add ((t126).toNat * 3)).off + 2, none⟩ = some (.slice A128_2 ((rd_T55 l0_0 t126).f2).length c128_2) ∧ w'.cell? (ad128.add ((t126).toNat * 3)) = some (.string ((rd_T55 l0_0 t126).f0)) ∧ w'.cell? ⟨(ad128.add ((t126).toNat * 3)).block, (ad128.add ((t126).toNat * 3)).off + 1, none⟩ = some (.slice A128_1 ((rd_T55 l0_0 t126).f1).length c128_1) ∧ w'.cell? ⟨(ad128.add ((t126).toNat * 3)).block, (ad128.add ((t126).toNat * 3)).off + 2, none⟩ = some (.slice A128_2 ((rd_T55 l0_0 t126).f2).length c128_2)) (ds := []) #[false, false, false, false, false, false, false, false, false, false, false, false, false, false, false] (by kernel_rfl) rfl rfl ⟨(blk_cell BK125.out 0).trans rfl, ((HB.out.cell (Zi w _ hw128_0)).trans hw128_0), ((HB.out.cell (Zi w _ hw128_1)).trans hw128_1), ((HB.out.cell (Zi w _ hw128_2)).trans hw128_2), ((HB.out.cell (Zi w _ hw129_0)).trans hw129_0), ((HB.out.cell (Zi w _ hw129_1)).trans hw129_1), ((HB.out.cell (Zi w _ hw129_2)).trans hw129_2)⟩ (fun hHeld => ?_); refine with_tabW spec_Content.tab4 spec_Content.bits4 (fun HT_ HW_ => ?_)
    generalize w19.drew = w20 at BK125 HB HR128_1 HR128_2 HR129_1 HR129_2 hx128_0 hx128_1 hx128_2 hx129_0 hx129_1 hx129_2 hHeld ⊢
    refine SQ.pu 0 17 HT_ ?_
    refine SQ.pu 2 19 HT_ ?_
    refine SQ.pu 6 23 HT_ ?_
    refine SQ.pu 8 25 HT_ ?_
    refine SQ.tk 1 18 HT_ HW_ hHeld ?_
    refine SQ.pu 3 20 HT_ ?_
    refine SQ.pu 4 21 HT_ ?_
    refine SQ.tk 5 22 HT_ HW_ hHeld ?_
    refine SQ.tk 7 24 HT_ HW_ hHeld ?_
    refine SQ.pu 9 26 HT_ ?_
    refine SQ.pu 10 27 HT_ ?_
    refine SQ.tk 11 28 HT_ HW_ hHeld ?_
    refine one_ (i := 12) (N := some 29) #[true, true, true, true, true, true, true, true, true, true, true, true, true, false, false] rfl rfl (one_of HT_.out (by kernel_rfl)) (by decide) (fun K hK => ?_)
    refine goes_ Tryd.func85 (by kernel_rfl) rfl #[.slice A128_1 ((rd_T55 l0_0 t126).f1).length c128_1, .slice A128_2 ((rd_T55 l0_0 t126).f2).length c128_2] (by rfl) rfl rfl (by (try simp only [List.map_toArray, List.map_cons, List.map_nil]); first | done | rfl | (simp only [List.length_drop, List.length_take]; rfl)) ?_
    with_reducible refine (spec_l01Join.calls k _ _ ((rd_T55 l0_0 t126).f1) _ _ ((rd_T55 l0_0 t126).f2) t130 _ ?side1 ?side2 ?side3 ?side4 A14.out).mono ?_
    (case side1 => repeat (first | exact (C_below HR128_1.out HB.out) | (with_reducible refine C_alloc ?_ _) | (with_reducible refine C_drewN ?_ _) | (with_reducible refine C_drew ?_)))
    (case side2 => exact HC128_1.out)
    (case side3 => repeat (first | exact (C_below HR129_2.out HB.out) | (with_reducible refine C_alloc ?_ _) | (with_reducible refine C_drewN ?_ _) | (with_reducible refine C_drew ?_)))
    (case side4 => exact HC129_2.out)
    rintro e w21 ⟨v131, rfl, ho0, hb⟩
    refine ⟨_, rfl, ?_⟩
    have HO132 := Zh (R_lower ho0 (below_size Zs))
    replace BK125 := Zh (Zm (g := gb125) (o := .cells #[.slice (some ad128) l0_0.length c0_0] 28 (0, 0)) Zk hb)
    replace HB := Zh (Zl Zs hb)
    (try clear hb)
    (try clear hb2)
    (try clear hk)
    (try clear hi)
    (try clear ho0)
    refine hK.out _ _ ⟨(blk_cell BK125.out 0).trans rfl, ((HB.out.cell (Zi w _ hw128_0)).trans hw128_0), ((HB.out.cell (Zi w _ hw128_1)).trans hw128_1), ((HB.out.cell (Zi w _ hw128_2)).trans hw128_2), ((HB.out.cell (Zi w _ hw129_0)).trans hw129_0), ((HB.out.cell (Zi w _ hw129_1)).trans hw129_1), ((HB.out.cell (Zi w _ hw129_2)).trans hw129_2)⟩ (fun hHeld => ?_)
    clear hK K
    refine norm_ (a' := ?_) ?_ ?_
    rotate_left
    ·
     show Act.put _ (some 29) _ = _
     simp only [Act.put, List.setIfInBounds_toArray, List.set_cons_zero, List.set_cons_succ, i64_w, i32_w]
     rfl
    refine SQ.pu 13 4 HT_ ?_
    refine SQ.pu 14 5 HT_ ?_
    refine done_ (done_of HT_.out (by kernel_rfl)) ?_
    try go_wp2
    go_ret2
    exact ⟨_, ZE, ZR HO132.out, Zs⟩
   rw [if_neg c13] at H
   exact absurd H (by simp)
  rw [if_neg c12] at H
  exact absurd H (by simp)
 replace c5 := Bool.eq_false_iff.mpr c5
 subst c5
 have H1 : (some (([] : List Int), false)) = some (r1, r2) := by rw [if_neg (show ¬ (false = true) by decide)] at H; exact H
 clear H
 have H := H1
 clear H1
 simp only [Option.some.injEq, Prod.mk.injEq] at H
 obtain ⟨rfl, rfl⟩ := H
 go_enter Tryd.func50, Tryd.ntmps50
 go_wp2_with (first | ((with_reducible refine gate_dst (N := 2) rfl ?_); refine box_event ?hg (N := 2) ?hd (cs := #[.slice A0_0 l0_0.length c0_0]) (t := 28) ?hr ?_; (case hd => rfl); (case hg => rfl); (case hr => first | (go_simp; done) | (go_simp; rfl)); intro gb125 hg w22 hbox hb; have BK125 := Zh (hbox); have GW125 := Zh ((by rw [hg]; exact (below_size Zs) : w.heap.size ≤ gb125)); have GE125 := Zh ((by rw [hg]; exact (below_size Zs) : w.heap.size ≤ gb125)); replace HB := Zh (Zl Zs hb); clear hb hbox hg; have hcz23_0 : w22.cell? ⟨gb125, 0, none⟩ = some (.slice A0_0 l0_0.length c0_0) := (blk_cell BK125.out 0).trans rfl; have hfz23_0 := Zn BK125.out 0) | ((with_reducible refine gate_callee (f := 83) rfl ?_); refine ZG (some 9) Tryd.func83 #[.agg #[.slice A0_0 l0_0.length c0_0], .string a1] rfl ?_; (with_reducible refine (spec_l03Find.calls k _ _ l0_0 a1 t126 _ ?side1 ?side2 A3.out).mono ?_); (case side1 => repeat (first | exact (C_below HR0_0.out HB.out) | (with_reducible refine C_alloc ?_ _) | (with_reducible refine C_drewN ?_ _) | (with_reducible refine C_drew ?_))); (case side2 => exact HC0_0.out); rintro e w24 ⟨rfl, hb⟩; refine ⟨_, rfl, ?_⟩; replace BK125 := Zh (Zm (g := gb125) (o := .cells #[.slice A0_0 l0_0.length c0_0] 28 (0, 0)) Zk hb); replace HB := Zh (Zl Zs hb); (try clear hb); (try clear hb2); (try clear hk); (try clear hi); have hcz25_0 : w24.cell? ⟨gb125, 0, none⟩ = some (.slice A0_0 l0_0.length c0_0) := (blk_cell BK125.out 0).trans rfl; have hfz25_0 := Zn BK125.out 0) | ((with_reducible refine gate_callee (f := 84) rfl ?_); refine ZG (some 11) Tryd.func84 #[.agg #[.slice A0_0 l0_0.length c0_0]] rfl ?_; (with_reducible refine (spec_DiskOk.calls k _ _ l0_0 false _ ?side1 ?side2 A4.out).mono ?_); (case side1 => repeat (first | exact (C_below HR0_0.out HB.out) | (with_reducible refine C_alloc ?_ _) | (with_reducible refine C_drewN ?_ _) | (with_reducible refine C_drew ?_))); (case side2 => exact HC0_0.out); rintro e w26 ⟨rfl, hb⟩; refine ⟨_, rfl, ?_⟩; replace BK125 := Zh (Zm (g := gb125) (o := .cells #[.slice A0_0 l0_0.length c0_0] 28 (0, 0)) Zk hb); replace HB := Zh (Zl Zs hb); (try clear hb); (try clear hb2); (try clear hk); (try clear hi)))
 go_ret2
 exact ⟨_, ZE, by first | exact R_nil _ _ _ _ _ | exact N_nil _ _ _ _ _ | exact V_nil _ _ _ _ _ | exact Q_nil _ _ _ _ _ | exact S_nil _ _ _ _ _, Zs⟩
end Go.Proofs.YtcgojdhbphocgaaDoor.F

namespace Go.Proofs.YtcgojdhbphocgaaDoor.F
open Go.RowKit Go.Proofs.YtcgojdhbphocgaaDoorW.PrintWords Go.Proofs.YtcgojdhbphocgaaDoorW.PrintLast Go.Proofs.YtcgojdhbphocgaaDoorW.PrintMore
open Go.Proofs.YtcgojdhbphocgaaDoor
set_option linter.unusedVariables false
set_option linter.unusedSimpArgs false
mutual
def spec_l03Put.l0 : Nat → Bool → Int → List (S55) → ByteArray → List Int → List Int → List (S55) → Option ((List (S55)))
  | 0, _, _, _, _, _, _, _ => none
  | k + 1, x6, x7, x, a, u, v, y => if x7 < (x.length : Int) then (if x6 = true then (spec_l03Put.j1 k x6 x7 false x a u v y) else (if 0 ≤ x7 then (spec_l03Put.j1 k x6 x7 (!(Op.bytesLess (((rd_T55 x x7).f0).toList) a.toList)) x a u v y) else (none))) else (if x6 = true then ((spec_l03Copy.f k y).bind fun t301 => (some t301)) else (if y.length < 2199023255552 then ((spec_l03Copy.f k (y ++ [(⟨a, u, v⟩ : S55)])).bind fun t307 => (some t307)) else (none)))
def spec_l03Put.j1 : Nat → Bool → Int → Bool → List (S55) → ByteArray → List Int → List Int → List (S55) → Option ((List (S55)))
  | 0, _, _, _, _, _, _, _, _ => none
  | k + 1, x6, x7, x28, x, a, u, v, y => if x28 = true then (if y.length < 2199023255552 then ((some (y ++ [(⟨a, u, v⟩ : S55)] : List (S55))).bind fun y311 => (if 0 ≤ x7 then (if x7 < (x.length : Int) then (if ((rd_T55 x x7).f0).toList = a.toList then (spec_l03Put.l0 k true (wrap64 (x7 + 1)) x a u v y311) else (if y311.length < 2199023255552 then (spec_l03Put.l0 k true (wrap64 (x7 + 1)) x a u v (y311 ++ [rd_T55 x x7])) else (none))) else (none)) else (none))) else (none)) else (if 0 ≤ x7 then (if x7 < (x.length : Int) then (if ((rd_T55 x x7).f0).toList = a.toList then (spec_l03Put.l0 k x6 (wrap64 (x7 + 1)) x a u v y) else (if y.length < 2199023255552 then (spec_l03Put.l0 k x6 (wrap64 (x7 + 1)) x a u v (y ++ [rd_T55 x x7])) else (none))) else (none)) else (none))
end
def spec_l03Put.f (k : Nat) (l0_0 : List (S55)) (a1_0 : ByteArray) (l1_1 : List Int) (l1_2 : List Int) : Option ((List (S55))) := spec_l03Put.l0 k false 0 l0_0 a1_0 l1_1 l1_2 ([] : List (S55))
set_option maxHeartbeats 8000000 in
set_option maxRecDepth 100000 in
theorem spec_l03Put.calls (k : Nat) (A0_0 : Option Addr) (c0_0 : Nat) (l0_0 : List (S55)) (a1_0 : ByteArray) (A1_1 : Option Addr) (c1_1 : Nat) (l1_1 : List Int) (A1_2 : Option Addr) (c1_2 : Nat) (l1_2 : List Int) (r : List (S55)) (w : World) (hr0_0 : Kd.C k55 w A0_0 l0_0.length l0_0) (hc0_0 : l0_0.length ≤ c0_0) (hr1_1 : Kd.C (Kd.int .u8) w A1_1 l1_1.length l1_1) (hc1_1 : l1_1.length ≤ c1_1) (hr1_2 : Kd.C (Kd.int .u8) w A1_2 l1_2.length l1_2) (hc1_2 : l1_2.length ≤ c1_2) (h : spec_l03Put.f k l0_0 a1_0 l1_1 l1_2 = some r) :
    Calls Tryd.prog 77 #[.agg #[.slice A0_0 l0_0.length c0_0], .agg #[.string a1_0, .slice A1_1 l1_1.length c1_1, .slice A1_2 l1_2.length c1_2]] w fun e w' => ∃ v0_ : Value, e = .returned (.agg #[v0_]) ∧ Kd.S k55 55 w' w.heap.size (fun _ => True) v0_ r ∧ Below w.heap.size w w' := by
  have HR := Zh hr0_0
  have HKf := Zh (k55_mk w (⟨a1_0, l1_1, l1_2⟩ : S55) hc1_1 hr1_1 hc1_2 hr1_2)
  clear hr0_0 hc0_0 hr1_1 hc1_1 hr1_2 hc1_2
  have ST := Zh (LW.St.start w)
  have hu28 := Tryd.underlying28
  have hu55 := Tryd.underlying55
  have H := Zh (show spec_l03Put.l0 k false 0 l0_0 a1_0 l1_1 l1_2 [] = some r from h)
  clear h
  go_enter Tryd.func77, Tryd.ntmps77
  go_wp2_with fail
  replace ST := Zh (ST.out.alloc #[.slice A0_0 l0_0.length c0_0] 28 (g := w.heap.size) rfl)
  replace ST := Zh (ST.out.alloc #[.string a1_0, .slice A1_1 l1_1.length c1_1, .slice A1_2 l1_2.length c1_2] 55 (g := w.heap.size + 1) (by simp))
  replace ST := Zh (ST.out.alloc #[.slice none 0 0] 28 (g := w.heap.size + 2) (by simp))
  replace ST := Zh (ST.out.alloc #[.slice none 0 0] 28 (g := w.heap.size + 3) (by simp))
  replace ST := Zh (LW.St.pick0 (d := k55) (e := 55) (B := w.heap.size) ST.out)
  generalize hW : ((((w.alloc (.cells #[.slice A0_0 l0_0.length c0_0] 28)).alloc (.cells #[.string a1_0, .slice A1_1 l1_1.length c1_1, .slice A1_2 l1_2.length c1_2] 55)).alloc (.cells #[.slice none 0 0] 28)).alloc (.cells #[.slice none 0 0] 28)) = W at ST ⊢
  clear hW
  go_loopg [6, 7] k (fun kq v6 v7 w' => ∃ (x6 : Bool) (x7 : Int) (y : List S55) (Ao : Option Addr) (co : Nat), v6 = .bool x6 ∧ v7 = .int .i64 x7 ∧ Aside0 (spec_l03Put.l0 kq x6 x7 l0_0 a1_0 l1_1 l1_2 y = some r) ∧ Aside0 (LW.St w w' [LW.pick k55 55 w.heap.size w (.slice Ao y.length co) y, LW.box (w.heap.size + 3) #[.slice Ao y.length co] 28, LW.box (w.heap.size + 2) #[.slice none 0 0] 28, LW.box (w.heap.size + 1) #[.string a1_0, .slice A1_1 l1_1.length c1_1, .slice A1_2 l1_2.length c1_2] 55, LW.box w.heap.size #[.slice A0_0 l0_0.length c0_0] 28]))
  case atStart => exact ⟨false, 0, [], none, 0, rfl, rfl, H, ST⟩
  case round =>
    clear H ST
    obtain ⟨x6, x7, y, Ao, co, rfl, rfl, HA, ST⟩ := hrel
    cases gk with
    | zero => exact absurd HA.out (by simp [spec_l03Put.l0])
    | succ k1 =>
      have H := HA.out
      clear HA
      simp only [spec_l03Put.l0] at H
      have hc0 := ST.out.cell 4 rfl 0 (u := .slice A0_0 l0_0.length c0_0) rfl
      have hc1 := ST.out.cell 3 rfl 0 (u := .string a1_0) rfl
      have hc2 := ST.out.cell 3 rfl 1 (u := .slice A1_1 l1_1.length c1_1) rfl
      have hc3 := ST.out.cell 3 rfl 2 (u := .slice A1_2 l1_2.length c1_2) rfl
      have hc4 := ST.out.cell 1 rfl 0 (u := .slice Ao y.length co) rfl
      have hl0 := ST.out.lt 4 rfl
      have hl3 := ST.out.lt 3 rfl
      have hl4 := ST.out.lt 1 rfl
      by_cases c7 : x7 < (l0_0.length : Int)
      · rw [if_pos c7] at H
        have q7 := decide_eq_true c7
        have hb : ∃ b : Bool, spec_l03Put.j1 k1 x6 x7 b l0_0 a1_0 l1_1 l1_2 y = some r ∧ (x6 = true → b = false) ∧ (x6 = false → 0 ≤ x7 ∧ b = !(Op.bytesLess (rd_T55 l0_0 x7).f0.toList a1_0.toList)) := by
          by_cases c : x6 = true
          · rw [if_pos c] at H
            exact ⟨false, H, fun _ => rfl, fun g => by rw [c] at g; cases g⟩
          rw [if_neg c] at H
          by_cases c0 : 0 ≤ x7
          · rw [if_pos c0] at H
            exact ⟨_, H, fun g => absurd g c, fun _ => ⟨c0, rfl⟩⟩
          rw [if_neg c0] at H
          exact absurd H (by simp)
        clear H
        obtain ⟨b, HJ, hbt, hbf⟩ := hb
        replace HJ := Zh HJ
        go_upto_region 6 with fail
        go_cut [28] (fun v28 wc => v28 = .bool b ∧ Aside0 (LW.St w wc [LW.pick k55 55 w.heap.size w (.slice Ao y.length co) y, LW.box (w.heap.size + 3) #[.slice Ao y.length co] 28, LW.box (w.heap.size + 2) #[.slice none 0 0] 28, LW.box (w.heap.size + 1) #[.string a1_0, .slice A1_1 l1_1.length c1_1, .slice A1_2 l1_2.length c1_2] 55, LW.box w.heap.size #[.slice A0_0 l0_0.length c0_0] 28]))
        case first =>
          cases x6 with
          | true =>
            obtain rfl := hbt rfl
            clear hbt hbf
            go_quiet (fail)
            go_wp2
            go_meet
            case rel => exact ⟨rfl, ⟨ST.out.drewN _⟩⟩
          | false =>
            obtain ⟨p0, rfl⟩ := hbf rfl
            clear hbt hbf
            obtain ⟨ad, B1, d1, B2, d2, e, E0, E1, E2, g1, g2, g3, g4⟩ := at_T55 HR.out x7 p0 c7
            have HKd := Zh (k55_mk w (rd_T55 l0_0 x7) g1 g2 g3 g4)
            cases e
            have hx0 := (ST.out.b.cell (Zi w _ E0)).trans E0
            have hx1 := (ST.out.b.cell (Zi w _ E1)).trans E1
            have hx2 := (ST.out.b.cell (Zi w _ E2)).trans E2
            have HE0 := Zh E0
            have HE1 := Zh E1
            have HE2 := Zh E2
            clear E0 E1 E2 g1 g2 g3 g4
            have p1 := eq_true p0
            have p2 := eq_true c7
            clear p0 c7
            go_quiet (fail)
            go_wp2
            go_meet
            case rel => exact ⟨rfl, ⟨ST.out.drewN _⟩⟩
        case rest =>
        obtain ⟨rfl, STc⟩ := hcut
        clear ST hbt hbf
        clear hc0 hc1 hc2 hc3 hc4 hl0 hl3 hl4
        have ST := STc
        clear STc
        have H := HJ.out
        clear HJ
        cases k1 with
        | zero => exact absurd H (by simp [spec_l03Put.j1])
        | succ k2 =>
          simp only [spec_l03Put.j1, Option.bind_some] at H
          have hj : ∃ (z6 : Bool) (z : List S55), (b = true → y.length < 2199023255552 ∧ z6 = true ∧ z = y ++ [(⟨a1_0, l1_1, l1_2⟩ : S55)]) ∧ (b = false → z6 = x6 ∧ z = y) ∧ (if 0 ≤ x7 then (if x7 < (l0_0.length : Int) then (if ((rd_T55 l0_0 x7).f0).toList = a1_0.toList then (spec_l03Put.l0 k2 z6 (wrap64 (x7 + 1)) l0_0 a1_0 l1_1 l1_2 z) else (if z.length < 2199023255552 then (spec_l03Put.l0 k2 z6 (wrap64 (x7 + 1)) l0_0 a1_0 l1_1 l1_2 (z ++ [rd_T55 l0_0 x7])) else (none))) else (none)) else (none)) = some r := by
            cases b with
            | true =>
              rw [if_pos rfl] at H
              by_cases c : y.length < 2199023255552
              · rw [if_pos c] at H
                exact ⟨true, _, fun _ => ⟨c, rfl, rfl⟩, fun g => absurd g (by decide), H⟩
              rw [if_neg c] at H
              exact absurd H (by simp)
            | false =>
              rw [if_neg (by decide)] at H
              exact ⟨x6, y, fun g => absurd g (by decide), fun _ => ⟨rfl, rfl⟩, H⟩
          clear H
          obtain ⟨z6, z, hzt, hzf, H⟩ := hj
          have H' := Zh H
          clear H
          have hc0 := ST.out.cell 4 rfl 0 (u := .slice A0_0 l0_0.length c0_0) rfl
          have hc1 := ST.out.cell 3 rfl 0 (u := .string a1_0) rfl
          have hc2 := ST.out.cell 3 rfl 1 (u := .slice A1_1 l1_1.length c1_1) rfl
          have hc3 := ST.out.cell 3 rfl 2 (u := .slice A1_2 l1_2.length c1_2) rfl
          have hc4 := ST.out.cell 1 rfl 0 (u := .slice Ao y.length co) rfl
          have hl0 := ST.out.lt 4 rfl
          have hl3 := ST.out.lt 3 rfl
          have hl4 := ST.out.lt 1 rfl
          go_upto_if 28 with fail
          go_cut [6] (fun v6 wd => ∃ (Ao : Option Addr) (co : Nat), v6 = .bool z6 ∧ Aside0 (LW.St w wd [LW.pick k55 55 w.heap.size w (.slice Ao z.length co) z, LW.box (w.heap.size + 3) #[.slice Ao z.length co] 28, LW.box (w.heap.size + 2) #[.slice none 0 0] 28, LW.box (w.heap.size + 1) #[.string a1_0, .slice A1_1 l1_1.length c1_1, .slice A1_2 l1_2.length c1_2] 55, LW.box w.heap.size #[.slice A0_0 l0_0.length c0_0] 28]))
          case first =>
            cases b with
            | true =>
              obtain ⟨hlm, rfl, rfl⟩ := hzt rfl
              have HLM := Zh hlm
              clear hzt hzf hlm
              obtain ⟨rows, hrl, hrow, back⟩ := ST.out.picked 0 rfl
              have HRL := Zh hrl
              have HRW := Zh hrow
              have BK := Zh back
              clear hrl hrow back
              go_wp2_with ((with_reducible refine gate_builtin (b := .append) (xs := #[.tmp 30, .tmp 32]) rfl ?_); at_builtin; refine Kd.R_append (Kd.raw 3) (w0 := w) w.heap.size rfl (.tmp 30) (.tmp 32) 26 55 (.agg #[(.string ⟨#[]⟩), (.slice none 0 0), (.slice none 0 0)]) 64 rfl Tryd.underlying26 info55 rfl (by decide) (by omega) (.slice Ao y.length co) rows [.string a1_0, .slice A1_1 l1_1.length c1_1, .slice A1_2 l1_2.length c1_2] [.string a1_0, .slice A1_1 l1_1.length c1_1, .slice A1_2 l1_2.length c1_2] (fun _ => True) (fun _ => False) rfl rfl ⟨rfl, rfl, k55.K_one HKf.out⟩ (fun _ h => h.elim) (fun _ _ => trivial) HRW.out ST.out.b ST.out.b.size (by have := HRL.out; have := HLM.out; omega) ?_; intro v1 w2 q1 q2 q3 q4; obtain ⟨A3, c3, hv⟩ := Kd.R_slice q1; rw [show (rows ++ [([.string a1_0, .slice A1_1 l1_1.length c1_1, .slice A1_2 l1_2.length c1_2] : List Value)]).length = y.length + 1 by simp [HRL.out]] at hv; subst hv; have ST2 := Zh (BK.out (⟨a1_0, l1_1, l1_2⟩ : S55) _ _ _ HKf.out q1 q2 q3 q4); have hs1 := ST2.out.cell 1 rfl 0 (u := .slice Ao y.length co) rfl; have hf1 := ST2.out.frozen 1 rfl 0; have hl1 := ST2.out.lt 1 rfl; clear hc0 hc1 hc2 hc3 hc4 hl0 hl3 hl4; clear q1 q2 q3 q4)
              replace ST := Zh (ST2.out.set 1 rfl 0 (.slice A3 (y.length + 1) c3))
              go_meet
              case rel => exact ⟨A3, c3, rfl, by rw [List.length_append]; exact ST⟩
            | false =>
              obtain ⟨rfl, rfl⟩ := hzf rfl
              clear hzt hzf
              go_wp2
              go_meet
              case rel => exact ⟨Ao, co, rfl, ST⟩
          case rest =>
          clear ST hzt hzf
          clear hc0 hc1 hc2 hc3 hc4 hl0 hl3 hl4
          obtain ⟨Ao, co, rfl, ST⟩ := hcut
          have H := H'.out
          clear H'
          by_cases p0 : 0 ≤ x7
          · rw [if_pos p0, if_pos c7] at H
            have hc0 := ST.out.cell 4 rfl 0 (u := .slice A0_0 l0_0.length c0_0) rfl
            have hc1 := ST.out.cell 3 rfl 0 (u := .string a1_0) rfl
            have hc2 := ST.out.cell 3 rfl 1 (u := .slice A1_1 l1_1.length c1_1) rfl
            have hc3 := ST.out.cell 3 rfl 2 (u := .slice A1_2 l1_2.length c1_2) rfl
            have hc4 := ST.out.cell 1 rfl 0 (u := .slice Ao z.length co) rfl
            have hl0 := ST.out.lt 4 rfl
            have hl3 := ST.out.lt 3 rfl
            have hl4 := ST.out.lt 1 rfl
            obtain ⟨ad, B1, d1, B2, d2, e, E0, E1, E2, g1, g2, g3, g4⟩ := at_T55 HR.out x7 p0 c7
            have HKd := Zh (k55_mk w (rd_T55 l0_0 x7) g1 g2 g3 g4)
            cases e
            have hx0 := (ST.out.b.cell (Zi w _ E0)).trans E0
            have hx1 := (ST.out.b.cell (Zi w _ E1)).trans E1
            have hx2 := (ST.out.b.cell (Zi w _ E2)).trans E2
            have HE0 := Zh E0
            have HE1 := Zh E1
            have HE2 := Zh E2
            clear E0 E1 E2 g1 g2 g3 g4
            have p1 := eq_true p0
            have p2 := eq_true c7
            clear p0 c7
            by_cases ceq : ((rd_T55 l0_0 x7).f0).toList = a1_0.toList
            · rw [if_pos ceq] at H
              have q9 : (((rd_T55 l0_0 x7).f0).toList == a1_0.toList) = true := beq_iff_eq.mpr ceq
              have H' := Zh H
              clear H ceq
              go_wp2_with fail
              go_quiet (fail)
              go_wp2
              go_roundg k2
              case measure => omega
              case rel => exact ⟨_, _, _, _, _, rfl, rfl, H', ⟨ST.out.drewN _⟩⟩
            rw [if_neg ceq] at H
            have q9 : (((rd_T55 l0_0 x7).f0).toList == a1_0.toList) = false := by rw [beq_eq_false_iff_ne]; exact ceq
            by_cases cm : z.length < 2199023255552
            · rw [if_pos cm] at H
              have HLM := Zh cm
              have H' := Zh H
              clear H ceq cm
              go_wp2_with fail
              go_quiet (fail)
              clear hc0 hc1 hc2 hc3 hc4 hl0 hl3 hl4
              replace ST := Zh (ST.out.drewN nq)
              generalize wc.drewN nq = w5 at ST ⊢
              clear hx0 hx1 hx2
              go_wp2_with fail
              replace ST := Zh ST.out.drew
              have hx0 := (ST.out.b.cell (Zi w _ HE0.out)).trans HE0.out
              have hx1 := (ST.out.b.cell (Zi w _ HE1.out)).trans HE1.out
              have hx2 := (ST.out.b.cell (Zi w _ HE2.out)).trans HE2.out
              refine start_ (n := 11) (S := fun w' => w'.cell? ⟨w.heap.size + 3, 0, none⟩ = some (.slice Ao z.length co) ∧ w'.cell? ⟨w.heap.size, 0, none⟩ = some (.slice (some ad) l0_0.length c0_0) ∧ w'.cell? (ad.add (x7.toNat * 3)) = some (.string (rd_T55 l0_0 x7).f0) ∧ w'.cell? ⟨(ad.add (x7.toNat * 3)).block, (ad.add (x7.toNat * 3)).off + 1, none⟩ = some (.slice B1 (rd_T55 l0_0 x7).f1.length d1) ∧ w'.cell? ⟨(ad.add (x7.toNat * 3)).block, (ad.add (x7.toNat * 3)).off + 2, none⟩ = some (.slice B2 (rd_T55 l0_0 x7).f2.length d2)) (ds := [8, 10]) #[false, false, false, false, false, false, false, false, false, false, false] (by kernel_rfl) rfl rfl ⟨ST.out.cell 1 rfl 0 rfl, ST.out.cell 4 rfl 0 rfl, hx0, hx1, hx2⟩ (fun hHeld => ?_)
              generalize w5.drew = w6 at ST hHeld hx0 hx1 hx2 ⊢
              refine SQ.p0 0 44 ?_
              refine SQ.p0 2 46 ?_
              refine SQ.p0 4 48 ?_
              refine SQ.t0 1 45 hHeld ?_
              refine SQ.t0 3 47 hHeld ?_
              refine SQ.p0 5 49 ?_
              refine SQ.t0 6 50 hHeld ?_
              refine one_ (i := 7) (N := some 51) #[true, true, true, true, true, true, true, true, false, false, false] rfl rfl (by kernel_rfl) (by decide) (fun K hK => ?_)
              refine value_ (w1 := ?_) (v := ?_) (by rfl) rfl ?_ ?_
              rotate_left 2
              · go_simp
                constructor
                · rfl
                rfl
              refine hK.out _ _ ⟨(World.cell?_alloc_lt _ _ _ (Zi _ _ hHeld.1)).trans hHeld.1, (World.cell?_alloc_lt _ _ _ (Zi _ _ hHeld.2.1)).trans hHeld.2.1, (World.cell?_alloc_lt _ _ _ (Zi _ _ hHeld.2.2.1)).trans hHeld.2.2.1, (World.cell?_alloc_lt _ _ _ (Zi _ _ hHeld.2.2.2.1)).trans hHeld.2.2.2.1, (World.cell?_alloc_lt _ _ _ (Zi _ _ hHeld.2.2.2.2)).trans hHeld.2.2.2.2⟩ (fun hHeld => ?_)
              clear hK K
              refine norm_ (a' := ?_) ?_ ?_
              rotate_left
              · show Act.put _ (some 51) _ = _
                simp only [Act.put, List.setIfInBounds_toArray, List.set_cons_zero, List.set_cons_succ, i64_w, i32_w]
                rfl
              obtain ⟨rows, hrl, hrow, back⟩ := ST.out.picked 0 rfl
              have HRL := Zh hrl
              have HRW := Zh hrow
              have BK := Zh back
              clear hrl hrow back
              refine last_ (i := 8) (N := some 52) #[true, true, true, true, true, true, true, true, true, false, false] rfl rfl (by kernel_rfl) (by decide) (fun K hK => ?_)
              refine Kd.R_append_step (Kd.raw 3) (w0 := w) w.heap.size (by rfl) (.tmp 45) (.tmp 51) 26 55 (.agg #[(.string ⟨#[]⟩), (.slice none 0 0), (.slice none 0 0)]) 64 rfl Tryd.underlying26 info55 rfl (by decide) (by omega) (.slice Ao z.length co) rows [.string (rd_T55 l0_0 x7).f0, .slice B1 (rd_T55 l0_0 x7).f1.length d1, .slice B2 (rd_T55 l0_0 x7).f2.length d2] [.string (rd_T55 l0_0 x7).f0, .slice B1 (rd_T55 l0_0 x7).f1.length d1, .slice B2 (rd_T55 l0_0 x7).f2.length d2] (fun _ => True) (fun _ => False) (by rfl) (by rfl) ⟨rfl, rfl, k55.K_one HKd.out⟩ (fun _ h => h.elim) (fun _ _ => trivial) HRW.out ST.out.b ST.out.b.size (by have := HRL.out; have := HLM.out; omega) ?_
              intro v1 w2 q1 q2 q3 q4
              obtain ⟨A3, c3, hv⟩ := Kd.R_slice q1
              rw [show (rows ++ [([.string (rd_T55 l0_0 x7).f0, .slice B1 (rd_T55 l0_0 x7).f1.length d1, .slice B2 (rd_T55 l0_0 x7).f2.length d2] : List Value)]).length = z.length + 1 by simp [HRL.out]] at hv
              subst hv
              have ST2 := Zh (BK.out (rd_T55 l0_0 x7) _ _ _ HKd.out q1 q2 q3 q4)
              have hs1 := ST2.out.cell 1 rfl 0 (u := .slice Ao z.length co) rfl
              have hf1 := ST2.out.frozen 1 rfl 0
              have hl1 := ST2.out.lt 1 rfl
              clear q1 q2 q3 q4 hx0 hx1 hx2 hHeld
              refine hK.out _ _ ?_
              clear hK K
              refine norm_ (a' := ?_) ?_ ?_
              rotate_left
              · show Act.put _ (some 52) _ = _
                simp only [Act.put, List.setIfInBounds_toArray, List.set_cons_zero, List.set_cons_succ, i64_w, i32_w]
                rfl
              refine SQ.p0 9 53 ?_
              refine last_ (i := 10) (N := none) #[true, true, true, true, true, true, true, true, true, true, true] rfl rfl (by kernel_rfl) (by decide) (fun K hK => ?_)
              refine skip_ (w1 := ?_) (by rfl) rfl ?_ ?_
              rotate_left
              · go_simp
                rfl
              refine hK.out _ _ ?_
              clear hK K
              refine done_ (by kernel_rfl) ?_
              go_wp2
              replace ST := Zh (ST2.out.set 1 rfl 0 (.slice A3 (z.length + 1) c3))
              go_roundg k2
              case measure => omega
              case rel => exact ⟨_, _, _, A3, c3, rfl, rfl, H', by rw [List.length_append]; exact ST⟩
            rw [if_neg cm] at H; exact absurd H (by simp)
          rw [if_neg p0] at H; exact absurd H (by simp)
      rw [if_neg c7] at H
      have q7 := decide_eq_false c7
      clear c7
      cases x6 with
      | true =>
        rw [if_pos rfl] at H
        obtain ⟨t, HT, H⟩ := Option.bind_eq_some_iff.mp H
        obtain rfl := Option.some.inj H
        replace HT := Zh HT
        clear H
        go_wp2_with fail
        clear hc0 hc1 hc2 hc3 hc4 hl0 hl3 hl4
        with_reducible refine (spec_l03Copy.calls k1 _ _ y t _ (ST.out.picks 0 rfl).2.2 (ST.out.picks 0 rfl).2.1 HT.out).mono ?_
        rintro e w9 ⟨v9, rfl, ho, hb⟩
        obtain ⟨A9, c9, rfl⟩ := Kd.S_slice ho
        replace ST := Zh (ST.out.row hb ho)
        clear hb ho
        have hc6 := ST.out.cell 3 rfl 0 (u := .slice none 0 0) rfl
        have hl6 := ST.out.lt 3 rfl
        have hf6 := ST.out.frozen 3 rfl 0
        go_wp2
        replace ST := Zh (ST.out.set 3 rfl 0 (.slice A9 t.length c9))
        refine Zq (results_cell_row rfl _ _ (w.heap.size + 2) 28 #[.slice A9 t.length c9] (0, 0) _ rfl (ST.out.blk 3 rfl) Tryd.underlying28 rfl (by kernel_rfl)) rfl ?_
        exact ⟨_, rfl, Kd.S_mono (ST.out.own 0 rfl) (fun _ _ => trivial), ST.out.b⟩
      | false =>
        rw [if_neg (by decide)] at H
        by_cases cm : y.length < 2199023255552
        · rw [if_pos cm] at H
          obtain ⟨t, HT, H⟩ := Option.bind_eq_some_iff.mp H
          obtain rfl := Option.some.inj H
          replace HT := Zh HT
          have HLM := Zh cm
          clear H cm
          obtain ⟨rows, hrl, hrow, back⟩ := ST.out.picked 0 rfl
          have HRL := Zh hrl
          have HRW := Zh hrow
          have BK := Zh back
          clear hrl hrow back
          go_wp2_with ((with_reducible refine gate_builtin (b := .append) (xs := #[.tmp 57, .tmp 59]) rfl ?_); at_builtin; refine Kd.R_append (Kd.raw 3) (w0 := w) w.heap.size rfl (.tmp 57) (.tmp 59) 26 55 (.agg #[(.string ⟨#[]⟩), (.slice none 0 0), (.slice none 0 0)]) 64 rfl Tryd.underlying26 info55 rfl (by decide) (by omega) (.slice Ao y.length co) rows [.string a1_0, .slice A1_1 l1_1.length c1_1, .slice A1_2 l1_2.length c1_2] [.string a1_0, .slice A1_1 l1_1.length c1_1, .slice A1_2 l1_2.length c1_2] (fun _ => True) (fun _ => False) rfl rfl ⟨rfl, rfl, k55.K_one HKf.out⟩ (fun _ h => h.elim) (fun _ _ => trivial) HRW.out ST.out.b ST.out.b.size (by have := HRL.out; have := HLM.out; omega) ?_; intro v1 w2 q1 q2 q3 q4; obtain ⟨A3, c3, hv⟩ := Kd.R_slice q1; rw [show (rows ++ [([.string a1_0, .slice A1_1 l1_1.length c1_1, .slice A1_2 l1_2.length c1_2] : List Value)]).length = y.length + 1 by simp [HRL.out]] at hv; subst hv; have ST2 := Zh (BK.out (⟨a1_0, l1_1, l1_2⟩ : S55) _ _ _ HKf.out q1 q2 q3 q4); have hs1 := ST2.out.cell 1 rfl 0 (u := .slice Ao y.length co) rfl; have hf1 := ST2.out.frozen 1 rfl 0; have hl1 := ST2.out.lt 1 rfl; clear hc0 hc1 hc2 hc3 hc4 hl0 hl3 hl4; clear q1 q2 q3 q4)
          replace ST := Zh (ST2.out.set 1 rfl 0 (.slice A3 (y.length + 1) c3))
          have hcall := spec_l03Copy.calls k1 _ c3 (y ++ [(⟨a1_0, l1_1, l1_2⟩ : S55)]) t _ (ST.out.picks 0 rfl).2.2 (by rw [List.length_append]; exact (ST.out.picks 0 rfl).2.1) HT.out
          rw [List.length_append] at hcall
          refine hcall.mono ?_
          clear hcall
          rintro e w9 ⟨v9, rfl, ho, hb⟩
          obtain ⟨A9, c9, rfl⟩ := Kd.S_slice ho
          replace ST := Zh (ST.out.row hb ho)
          clear hb ho
          have hc6 := ST.out.cell 3 rfl 0 (u := .slice none 0 0) rfl
          have hl6 := ST.out.lt 3 rfl
          have hf6 := ST.out.frozen 3 rfl 0
          go_wp2
          replace ST := Zh (ST.out.set 3 rfl 0 (.slice A9 t.length c9))
          refine Zq (results_cell_row rfl _ _ (w.heap.size + 2) 28 #[.slice A9 t.length c9] (0, 0) _ rfl (ST.out.blk 3 rfl) Tryd.underlying28 rfl (by kernel_rfl)) rfl ?_
          exact ⟨_, rfl, Kd.S_mono (ST.out.own 0 rfl) (fun _ _ => trivial), ST.out.b⟩
        rw [if_neg cm] at H; exact absurd H (by simp)
end Go.Proofs.YtcgojdhbphocgaaDoor.F

namespace Go.Proofs.YtcgojdhbphocgaaDoor.F
open Go.RowKit Go.Proofs.YtcgojdhbphocgaaDoorW.PrintWords Go.Proofs.YtcgojdhbphocgaaDoorW.PrintWords.Kd Go.Proofs.YtcgojdhbphocgaaDoorW.PrintMore.Kd Go.Proofs.YtcgojdhbphocgaaDoorW.PrintLast Go.Proofs.YtcgojdhbphocgaaDoorW.PrintMore
attribute [local go_sem] max2_int min2_int max_two min_two max_three min_three max_four min_four   -- for this text's walks alone
set_option linter.unusedVariables false
set_option linter.unusedSimpArgs false
def spec_SyncFile.f (k : Nat) (l0_0 : List (S55)) (a1 : ByteArray) : Option ((List (S55)) × Bool) := (spec_Content.f k l0_0 a1).bind fun bt135 => (if bt135.2 = true then ((spec_l03Put.f k l0_0 a1 bt135.1 ([] : List Int)).bind fun t139 => (some (t139, true))) else ((spec_l03Copy.f k l0_0).bind fun t142 => (some (t142, false))))
set_option maxHeartbeats 8000000 in
set_option maxRecDepth 100000 in
theorem spec_SyncFile.calls (k : Nat) (A0_0 : Option Addr) (c0_0 : Nat) (l0_0 : List (S55)) (a1 : ByteArray) (r1 : List (S55)) (r2 : Bool) (w : World) (hr0_0 : Kd.C k55 w A0_0 l0_0.length l0_0) (hc0_0 : l0_0.length ≤ c0_0) (h : spec_SyncFile.f k l0_0 a1 = some (r1, r2)) :
  Calls Tryd.prog 43 #[.agg #[.slice A0_0 l0_0.length c0_0], .string a1] w fun e w' => ∃ v0_ : Value, e = .returned (.tuple #[.agg #[v0_], .bool r2]) ∧ Kd.S k55 55 w' w.heap.size (fun _ => True) v0_ r1 ∧ Below w.heap.size w w' := by
 have hu28 := Tryd.underlying28
 have hu55 := Tryd.underlying55
 have HR0_0 := Zh hr0_0
 have HC0_0 := Zh hc0_0
 clear hr0_0 hc0_0
 have HB := Zh (Below.refl w.heap.size w)
 have H : ((spec_Content.f k l0_0 a1).bind fun bt135 => (if bt135.2 = true then ((spec_l03Put.f k l0_0 a1 bt135.1 ([] : List Int)).bind fun t139 => (some (t139, true))) else ((spec_l03Copy.f k l0_0).bind fun t142 => (some (t142, false))))) = some (r1, r2) := h
 clear h
 replace H := Option.bind_eq_some_iff.mp H
 obtain ⟨⟨t135, t138⟩, A30, H⟩ := H
 replace H : (if t138 = true then ((spec_l03Put.f k l0_0 a1 t135 ([] : List Int)).bind fun t139 => (some (t139, true))) else ((spec_l03Copy.f k l0_0).bind fun t142 => (some (t142, false)))) = some (r1, r2) := H
 have A3 := Zh A30
 clear A30
 by_cases c4 : t138 = true
 ·
  subst c4
  have H1 : ((spec_l03Put.f k l0_0 a1 t135 ([] : List Int)).bind fun t139 => (some (t139, true))) = some (r1, r2) := by rw [if_pos rfl] at H; exact H
  clear H
  have H := H1
  clear H1
  replace H := Option.bind_eq_some_iff.mp H
  obtain ⟨t139, A50, H⟩ := H
  replace H : (some (t139, true)) = some (r1, r2) := H
  have A5 := Zh A50
  clear A50
  simp only [Option.some.injEq, Prod.mk.injEq] at H
  obtain ⟨rfl, rfl⟩ := H
  go_enter Tryd.func43, Tryd.ntmps43
  go_wp2_with (first | ((with_reducible refine gate_dst (N := 2) rfl ?_); refine box_event ?hg (N := 2) ?hd (cs := #[.slice A0_0 l0_0.length c0_0]) (t := 28) ?hr ?_; (case hd => rfl); (case hg => rfl); (case hr => first | (go_simp; done) | (go_simp; rfl)); intro gb133 hg w6 hbox hb; have BK133 := Zh (hbox); have GW133 := Zh ((by rw [hg]; exact (below_size Zs) : w.heap.size ≤ gb133)); have GE133 := Zh ((by rw [hg]; exact (below_size Zs) : w.heap.size ≤ gb133)); replace HB := Zh (Zl Zs hb); clear hb hbox hg) | ((with_reducible refine gate_dst (N := 4) rfl ?_); refine box_event ?hg (N := 4) ?hd (cs := #[.slice none 0 0]) (t := 28) ?hr ?_; (case hd => rfl); (case hg => rfl); (case hr => first | (go_simp; done) | (go_simp; rfl)); intro gb134 hg w7 hbox hb; have BK134 := Zh (hbox); have GW134 := Zh ((by rw [hg]; exact (below_size Zs) : w.heap.size ≤ gb134)); have GE134 := Zh ((by rw [hg]; exact (below_size Zs) : w.heap.size ≤ gb134)); replace HB := Zh (Zl Zs hb); have NB133_134 := Zh ((by rw [hg]; exact Nat.ne_of_lt (blk_lt (g := gb133) (o := .cells #[.slice A0_0 l0_0.length c0_0] 28 (0, 0)) Zk) : gb133 ≠ gb134)); have NB134_133 := Zh ((by rw [hg]; exact Nat.ne_of_gt (blk_lt (g := gb133) (o := .cells #[.slice A0_0 l0_0.length c0_0] 28 (0, 0)) Zk) : gb134 ≠ gb133)); replace BK133 := Zh (Zm (g := gb133) (o := .cells #[.slice A0_0 l0_0.length c0_0] 28 (0, 0)) Zk hb); clear hb hbox hg; have hnb8 := NB133_134.out; have hnc8 := NB134_133.out; have hcz9_0 : w7.cell? ⟨gb133, 0, none⟩ = some (.slice A0_0 l0_0.length c0_0) := (blk_cell BK133.out 0).trans rfl; have hfz9_0 := Zn BK133.out 0) | ((with_reducible refine gate_callee (f := 50) rfl ?_); refine ZG (some 11) Tryd.func50 #[.agg #[.slice A0_0 l0_0.length c0_0], .string a1] rfl ?_; (with_reducible refine (spec_Content.calls k _ _ l0_0 a1 t135 true _ ?side1 ?side2 A3.out).mono ?_); (case side1 => repeat (first | exact (C_below HR0_0.out HB.out) | (with_reducible refine C_alloc ?_ _) | (with_reducible refine C_drewN ?_ _) | (with_reducible refine C_drew ?_))); (case side2 => exact HC0_0.out); rintro e w10 ⟨v136, rfl, ho0, hb⟩; refine ⟨_, rfl, ?_⟩; have HO137 := Zh (R_lower ho0 (below_size Zs)); replace BK133 := Zh (Zm (g := gb133) (o := .cells #[.slice A0_0 l0_0.length c0_0] 28 (0, 0)) Zk hb); replace BK134 := Zh (Zm (g := gb134) (o := .cells #[.slice none 0 0] 28 (0, 0)) Zk hb); replace HB := Zh (Zl Zs hb); (try clear hb); (try clear hb2); (try clear hk); (try clear hi); (try clear ho0); have hcz11_0 : w10.cell? ⟨gb133, 0, none⟩ = some (.slice A0_0 l0_0.length c0_0) := (blk_cell BK133.out 0).trans rfl; have hfz11_0 := Zn BK133.out 0; obtain ⟨Ao12, co12, eo12⟩ := R_slice HO137.out; subst eo12) | ((with_reducible refine gate_callee (f := 77) rfl ?_); refine ZG (some 22) Tryd.func77 #[.agg #[.slice A0_0 l0_0.length c0_0], .agg #[.string a1, .slice Ao12 t135.length co12, .slice none 0 0]] rfl ?_; (refine (spec_l03Put.calls k _ _ l0_0 a1 _ _ t135 _ _ ([] : List Int) t139 _ ?side1 ?side2 ?side3 ?side4 ?side5 ?side6 A5.out).mono ?_); (case side1 => repeat (first | exact (C_below HR0_0.out HB.out) | (with_reducible refine C_alloc ?_ _) | (with_reducible refine C_drewN ?_ _) | (with_reducible refine C_drew ?_))); (case side2 => exact HC0_0.out); (case side3 => repeat (first | exact (R_reads' HO137.out).2.2 | (with_reducible refine C_alloc ?_ _) | (with_reducible refine C_drewN ?_ _) | (with_reducible refine C_drew ?_))); (case side4 => exact (R_reads' HO137.out).2.1); (case side5 => exact C_nil _ _); (case side6 => exact Nat.le_refl _); rintro e w13 ⟨v140, rfl, ho0, hb⟩; refine ⟨_, rfl, ?_⟩; have HO141 := Zh (S_lower (S_new' ho0 (R_lt (ZR HO137.out))) (below_size Zs)); replace HO137 := Zh (R_below (ZR HO137.out) hb); replace BK133 := Zh (Zm (g := gb133) (o := .cells #[.slice A0_0 l0_0.length c0_0] 28 (0, 0)) Zk hb); replace BK134 := Zh (Zm (g := gb134) (o := .cells #[.slice none 0 0] 28 (0, 0)) Zk hb); replace HB := Zh (Zl Zs hb); (try clear hb); (try clear hb2); (try clear hk); (try clear hi); (try clear ho0); obtain ⟨Ao14, co14, eo14⟩ := S_slice HO141.out; subst eo14; have hcz15_0 : w13.cell? ⟨gb134, 0, none⟩ = some (.slice none 0 0) := (blk_cell BK134.out 0).trans rfl; have hfz15_0 := Zn BK134.out 0))
  refine Zq (results_ct rfl _ _ gb134 28 #[.slice Ao14 t139.length co14] (0, 0) _ rfl (by (with_reducible repeat (first | refine Za ?_ _ | refine Zb ?_ | refine blk_alloc ?_ _)); refine blk_put (cs := #[.slice none 0 0]) ?_ 0 _ rfl; (with_reducible repeat (first | refine Za ?_ _ | refine Zb ?_ | refine blk_alloc ?_ _)); exact BK134.out) Tryd.underlying28 rfl (by kernel_rfl)) rfl ?_
  exact ⟨_, ZE, ZS (S_mono (S_far (p := ⟨gb134, 0, none⟩) (S_types HO141.out BK134.out (by decide)) (fun _ hk => hk.2) (.slice Ao14 t139.length co14)) (fun _ hk => trivial)), Zs⟩
 replace c4 := Bool.eq_false_iff.mpr c4
 subst c4
 have H1 : ((spec_l03Copy.f k l0_0).bind fun t142 => (some (t142, false))) = some (r1, r2) := by rw [if_neg (show ¬ (false = true) by decide)] at H; exact H
 clear H
 have H := H1
 clear H1
 replace H := Option.bind_eq_some_iff.mp H
 obtain ⟨t142, A160, H⟩ := H
 replace H : (some (t142, false)) = some (r1, r2) := H
 have A16 := Zh A160
 clear A160
 simp only [Option.some.injEq, Prod.mk.injEq] at H
 obtain ⟨rfl, rfl⟩ := H
 go_enter Tryd.func43, Tryd.ntmps43
 go_wp2_with (first | ((with_reducible refine gate_dst (N := 2) rfl ?_); refine box_event ?hg (N := 2) ?hd (cs := #[.slice A0_0 l0_0.length c0_0]) (t := 28) ?hr ?_; (case hd => rfl); (case hg => rfl); (case hr => first | (go_simp; done) | (go_simp; rfl)); intro gb133 hg w17 hbox hb; have BK133 := Zh (hbox); have GW133 := Zh ((by rw [hg]; exact (below_size Zs) : w.heap.size ≤ gb133)); have GE133 := Zh ((by rw [hg]; exact (below_size Zs) : w.heap.size ≤ gb133)); replace HB := Zh (Zl Zs hb); clear hb hbox hg) | ((with_reducible refine gate_dst (N := 4) rfl ?_); refine box_event ?hg (N := 4) ?hd (cs := #[.slice none 0 0]) (t := 28) ?hr ?_; (case hd => rfl); (case hg => rfl); (case hr => first | (go_simp; done) | (go_simp; rfl)); intro gb134 hg w18 hbox hb; have BK134 := Zh (hbox); have GW134 := Zh ((by rw [hg]; exact (below_size Zs) : w.heap.size ≤ gb134)); have GE134 := Zh ((by rw [hg]; exact (below_size Zs) : w.heap.size ≤ gb134)); replace HB := Zh (Zl Zs hb); have NB133_134 := Zh ((by rw [hg]; exact Nat.ne_of_lt (blk_lt (g := gb133) (o := .cells #[.slice A0_0 l0_0.length c0_0] 28 (0, 0)) Zk) : gb133 ≠ gb134)); have NB134_133 := Zh ((by rw [hg]; exact Nat.ne_of_gt (blk_lt (g := gb133) (o := .cells #[.slice A0_0 l0_0.length c0_0] 28 (0, 0)) Zk) : gb134 ≠ gb133)); replace BK133 := Zh (Zm (g := gb133) (o := .cells #[.slice A0_0 l0_0.length c0_0] 28 (0, 0)) Zk hb); clear hb hbox hg; have hnb19 := NB133_134.out; have hnc19 := NB134_133.out; have hcz20_0 : w18.cell? ⟨gb133, 0, none⟩ = some (.slice A0_0 l0_0.length c0_0) := (blk_cell BK133.out 0).trans rfl; have hfz20_0 := Zn BK133.out 0) | ((with_reducible refine gate_callee (f := 50) rfl ?_); refine ZG (some 11) Tryd.func50 #[.agg #[.slice A0_0 l0_0.length c0_0], .string a1] rfl ?_; (with_reducible refine (spec_Content.calls k _ _ l0_0 a1 t135 false _ ?side1 ?side2 A3.out).mono ?_); (case side1 => repeat (first | exact (C_below HR0_0.out HB.out) | (with_reducible refine C_alloc ?_ _) | (with_reducible refine C_drewN ?_ _) | (with_reducible refine C_drew ?_))); (case side2 => exact HC0_0.out); rintro e w21 ⟨v136, rfl, ho0, hb⟩; refine ⟨_, rfl, ?_⟩; have HO137 := Zh (R_lower ho0 (below_size Zs)); replace BK133 := Zh (Zm (g := gb133) (o := .cells #[.slice A0_0 l0_0.length c0_0] 28 (0, 0)) Zk hb); replace BK134 := Zh (Zm (g := gb134) (o := .cells #[.slice none 0 0] 28 (0, 0)) Zk hb); replace HB := Zh (Zl Zs hb); (try clear hb); (try clear hb2); (try clear hk); (try clear hi); (try clear ho0); have hcz22_0 : w21.cell? ⟨gb133, 0, none⟩ = some (.slice A0_0 l0_0.length c0_0) := (blk_cell BK133.out 0).trans rfl; have hfz22_0 := Zn BK133.out 0) | ((with_reducible refine gate_callee (f := 54) rfl ?_); refine ZG (some 17) Tryd.func54 #[.agg #[.slice A0_0 l0_0.length c0_0]] rfl ?_; (with_reducible refine (spec_l03Copy.calls k _ _ l0_0 t142 _ ?side1 ?side2 A16.out).mono ?_); (case side1 => repeat (first | exact (C_below HR0_0.out HB.out) | (with_reducible refine C_alloc ?_ _) | (with_reducible refine C_drewN ?_ _) | (with_reducible refine C_drew ?_))); (case side2 => exact HC0_0.out); rintro e w23 ⟨v143, rfl, ho0, hb⟩; refine ⟨_, rfl, ?_⟩; have HO144 := Zh (S_lower (S_new' ho0 (R_lt (ZR HO137.out))) (below_size Zs)); replace HO137 := Zh (R_below (ZR HO137.out) hb); replace BK133 := Zh (Zm (g := gb133) (o := .cells #[.slice A0_0 l0_0.length c0_0] 28 (0, 0)) Zk hb); replace BK134 := Zh (Zm (g := gb134) (o := .cells #[.slice none 0 0] 28 (0, 0)) Zk hb); replace HB := Zh (Zl Zs hb); (try clear hb); (try clear hb2); (try clear hk); (try clear hi); (try clear ho0); obtain ⟨Ao24, co24, eo24⟩ := S_slice HO144.out; subst eo24; have hcz25_0 : w23.cell? ⟨gb134, 0, none⟩ = some (.slice none 0 0) := (blk_cell BK134.out 0).trans rfl; have hfz25_0 := Zn BK134.out 0))
 refine Zq (results_ct rfl _ _ gb134 28 #[.slice Ao24 t142.length co24] (0, 0) _ rfl (by (with_reducible repeat (first | refine Za ?_ _ | refine Zb ?_ | refine blk_alloc ?_ _)); refine blk_put (cs := #[.slice none 0 0]) ?_ 0 _ rfl; (with_reducible repeat (first | refine Za ?_ _ | refine Zb ?_ | refine blk_alloc ?_ _)); exact BK134.out) Tryd.underlying28 rfl (by kernel_rfl)) rfl ?_
 exact ⟨_, ZE, ZS (S_mono (S_far (p := ⟨gb134, 0, none⟩) (S_types HO144.out BK134.out (by decide)) (fun _ hk => hk.2) (.slice Ao24 t142.length co24)) (fun _ hk => trivial)), Zs⟩
def spec_WalSync.f (k : Nat) (l0_0 : List (S55)) : Option ((List (S55)) × Bool) := (spec_SyncFile.f k l0_0 (⟨#[108, 111, 103]⟩ : ByteArray)).bind fun bt147 => (some (bt147.1, bt147.2))
set_option maxHeartbeats 8000000 in
set_option maxRecDepth 100000 in
theorem spec_WalSync.calls (k : Nat) (A0_0 : Option Addr) (c0_0 : Nat) (l0_0 : List (S55)) (r1 : List (S55)) (r2 : Bool) (w : World) (hr0_0 : Kd.C k55 w A0_0 l0_0.length l0_0) (hc0_0 : l0_0.length ≤ c0_0) (h : spec_WalSync.f k l0_0 = some (r1, r2)) :
  Calls Tryd.prog 12 #[.agg #[.slice A0_0 l0_0.length c0_0]] w fun e w' => ∃ v0_ : Value, e = .returned (.tuple #[.agg #[v0_], .bool r2]) ∧ Kd.S k55 55 w' w.heap.size (fun _ => True) v0_ r1 ∧ Below w.heap.size w w' := by
 have hu28 := Tryd.underlying28
 have HR0_0 := Zh hr0_0
 have HC0_0 := Zh hc0_0
 clear hr0_0 hc0_0
 have HB := Zh (Below.refl w.heap.size w)
 have H : ((spec_SyncFile.f k l0_0 (⟨#[108, 111, 103]⟩ : ByteArray)).bind fun bt147 => (some (bt147.1, bt147.2))) = some (r1, r2) := h
 clear h
 replace H := Option.bind_eq_some_iff.mp H
 obtain ⟨⟨t147, t150⟩, A20, H⟩ := H
 replace H : (some (t147, t150)) = some (r1, r2) := H
 have A2 := Zh A20
 clear A20
 simp only [Option.some.injEq, Prod.mk.injEq] at H
 obtain ⟨rfl, rfl⟩ := H
 go_enter Tryd.func12, Tryd.ntmps12
 go_wp2_with (first | ((with_reducible refine gate_dst (N := 1) rfl ?_); refine box_event ?hg (N := 1) ?hd (cs := #[.slice A0_0 l0_0.length c0_0]) (t := 28) ?hr ?_; (case hd => rfl); (case hg => rfl); (case hr => first | (go_simp; done) | (go_simp; rfl)); intro gb145 hg w3 hbox hb; have BK145 := Zh (hbox); have GW145 := Zh ((by rw [hg]; exact (below_size Zs) : w.heap.size ≤ gb145)); have GE145 := Zh ((by rw [hg]; exact (below_size Zs) : w.heap.size ≤ gb145)); replace HB := Zh (Zl Zs hb); clear hb hbox hg) | ((with_reducible refine gate_dst (N := 2) rfl ?_); refine box_event ?hg (N := 2) ?hd (cs := #[.slice none 0 0]) (t := 28) ?hr ?_; (case hd => rfl); (case hg => rfl); (case hr => first | (go_simp; done) | (go_simp; rfl)); intro gb146 hg w4 hbox hb; have BK146 := Zh (hbox); have GW146 := Zh ((by rw [hg]; exact (below_size Zs) : w.heap.size ≤ gb146)); have GE146 := Zh ((by rw [hg]; exact (below_size Zs) : w.heap.size ≤ gb146)); replace HB := Zh (Zl Zs hb); have NB145_146 := Zh ((by rw [hg]; exact Nat.ne_of_lt (blk_lt (g := gb145) (o := .cells #[.slice A0_0 l0_0.length c0_0] 28 (0, 0)) Zk) : gb145 ≠ gb146)); have NB146_145 := Zh ((by rw [hg]; exact Nat.ne_of_gt (blk_lt (g := gb145) (o := .cells #[.slice A0_0 l0_0.length c0_0] 28 (0, 0)) Zk) : gb146 ≠ gb145)); replace BK145 := Zh (Zm (g := gb145) (o := .cells #[.slice A0_0 l0_0.length c0_0] 28 (0, 0)) Zk hb); clear hb hbox hg; have hnb5 := NB145_146.out; have hnc5 := NB146_145.out; have hcz6_0 : w4.cell? ⟨gb145, 0, none⟩ = some (.slice A0_0 l0_0.length c0_0) := (blk_cell BK145.out 0).trans rfl; have hfz6_0 := Zn BK145.out 0) | ((with_reducible refine gate_callee (f := 43) rfl ?_); refine ZG (some 8) Tryd.func43 #[.agg #[.slice A0_0 l0_0.length c0_0], .string (⟨#[108, 111, 103]⟩ : ByteArray)] rfl ?_; (with_reducible refine (spec_SyncFile.calls k _ _ l0_0 (⟨#[108, 111, 103]⟩ : ByteArray) t147 t150 _ ?side1 ?side2 A2.out).mono ?_); (case side1 => repeat (first | exact (C_below HR0_0.out HB.out) | (with_reducible refine C_alloc ?_ _) | (with_reducible refine C_drewN ?_ _) | (with_reducible refine C_drew ?_))); (case side2 => exact HC0_0.out); rintro e w7 ⟨v148, rfl, ho0, hb⟩; refine ⟨_, rfl, ?_⟩; have HO149 := Zh (S_lower ho0 (below_size Zs)); replace BK145 := Zh (Zm (g := gb145) (o := .cells #[.slice A0_0 l0_0.length c0_0] 28 (0, 0)) Zk hb); replace BK146 := Zh (Zm (g := gb146) (o := .cells #[.slice none 0 0] 28 (0, 0)) Zk hb); replace HB := Zh (Zl Zs hb); (try clear hb); (try clear hb2); (try clear hk); (try clear hi); (try clear ho0)) | ((with_reducible refine gate_dst (N := 4) rfl ?_); refine box_event ?hg (N := 4) ?hd (cs := #[.slice none 0 0]) (t := 28) ?hr ?_; (case hd => rfl); (case hg => rfl); (case hr => first | (go_simp; done) | (go_simp; rfl)); intro gb151 hg w8 hbox hb; replace HO149 := Zh (S_below (ZS HO149.out) hb); have BK151 := Zh (hbox); have GW151 := Zh ((by rw [hg]; exact (below_size Zs) : w.heap.size ≤ gb151)); have GE151 := Zh ((by rw [hg]; exact (below_size Zs) : w.heap.size ≤ gb151)); replace HB := Zh (Zl Zs hb); have NB145_151 := Zh ((by rw [hg]; exact Nat.ne_of_lt (blk_lt (g := gb145) (o := .cells #[.slice A0_0 l0_0.length c0_0] 28 (0, 0)) Zk) : gb145 ≠ gb151)); have NB151_145 := Zh ((by rw [hg]; exact Nat.ne_of_gt (blk_lt (g := gb145) (o := .cells #[.slice A0_0 l0_0.length c0_0] 28 (0, 0)) Zk) : gb151 ≠ gb145)); replace BK145 := Zh (Zm (g := gb145) (o := .cells #[.slice A0_0 l0_0.length c0_0] 28 (0, 0)) Zk hb); have NB146_151 := Zh ((by rw [hg]; exact Nat.ne_of_lt (blk_lt (g := gb146) (o := .cells #[.slice none 0 0] 28 (0, 0)) Zk) : gb146 ≠ gb151)); have NB151_146 := Zh ((by rw [hg]; exact Nat.ne_of_gt (blk_lt (g := gb146) (o := .cells #[.slice none 0 0] 28 (0, 0)) Zk) : gb151 ≠ gb146)); replace BK146 := Zh (Zm (g := gb146) (o := .cells #[.slice none 0 0] 28 (0, 0)) Zk hb); clear hb hbox hg; obtain ⟨Ao9, co9, eo9⟩ := S_slice HO149.out; subst eo9; have hnb10 := NB151_145.out; have hnc10 := NB145_151.out; have hnb11 := NB151_146.out; have hnc11 := NB146_151.out; have hcz12_0 : w8.cell? ⟨gb151, 0, none⟩ = some (.slice none 0 0) := (blk_cell BK151.out 0).trans rfl; have hfz12_0 := Zn BK151.out 0; have hcz13_0 : w8.cell? ⟨gb146, 0, none⟩ = some (.slice none 0 0) := (blk_cell BK146.out 0).trans rfl; have hfz13_0 := Zn BK146.out 0))
 refine Zq (results_ct rfl _ _ gb146 28 #[.slice Ao9 t147.length co9] (0, 0) _ rfl (by (with_reducible repeat (first | refine Za ?_ _ | refine Zb ?_ | refine blk_alloc ?_ _)); refine blk_put (cs := #[.slice none 0 0]) ?_ 0 _ rfl; (with_reducible repeat (first | refine Za ?_ _ | refine Zb ?_ | refine blk_alloc ?_ _)); refine blk_far ?_ NB146_151.out _; (with_reducible repeat (first | refine Za ?_ _ | refine Zb ?_ | refine blk_alloc ?_ _)); exact BK146.out) Tryd.underlying28 rfl (by kernel_rfl)) rfl ?_
 exact ⟨_, ZE, ZS (S_mono (S_far (p := ⟨gb146, 0, none⟩) (S_far (p := ⟨gb151, 0, none⟩) (S_types (S_types HO149.out BK151.out (by decide)) BK146.out (by decide)) (fun _ hk => hk.1.2) (.slice Ao9 t147.length co9)) (fun _ hk => hk.2) (.slice Ao9 t147.length co9)) (fun _ hk => trivial)), Zs⟩
def spec_l01Byte.f (s0_0 : List Int) (s0_1 : Int) (s0_2 : Int) : Option (Int × Int × Int) := if s0_1 < (s0_0.length : Int) then (if 0 ≤ s0_1 then (some (Go.bits .and .i64 (wrap64 ((Go.bits .and .i64 (Go.bits .xor .i64 ((wrap64 ((wrap64 (s0_2 * 6364136223846793005)) + 1442695040888963407)) / 8589934592) ((wrap64 ((wrap64 (s0_2 * 6364136223846793005)) + 1442695040888963407)) / 35184372088832)) 255) + (wrap64 (rd s0_0 s0_1)))) 255, wrap64 (s0_1 + 1), wrap64 ((wrap64 (s0_2 * 6364136223846793005)) + 1442695040888963407))) else (none)) else (some (Go.bits .and .i64 (Go.bits .xor .i64 ((wrap64 ((wrap64 (s0_2 * 6364136223846793005)) + 1442695040888963407)) / 8589934592) ((wrap64 ((wrap64 (s0_2 * 6364136223846793005)) + 1442695040888963407)) / 35184372088832)) 255, s0_1, wrap64 ((wrap64 (s0_2 * 6364136223846793005)) + 1442695040888963407)))
set_option maxHeartbeats 8000000 in
set_option maxRecDepth 100000 in
theorem spec_l01Byte.calls (g : Nat) (s0_0 : List Int) (s0_1 : Int) (s0_2 : Int) (r1 : Int) (r2 : Int) (r3 : Int) (w0 w : World) (hI : IsS99 w0 w g s0_0 s0_1 s0_2) (hB : Below w0.heap.size w0 w) (h : spec_l01Byte.f s0_0 s0_1 s0_2 = some (r1, r2, r3)) :
  Calls Tryd.prog 100 #[.pointer (some ⟨g, 0, none⟩)] w fun e w' => e = .returned (.int .i64 r1) ∧ IsS99 w0 w' g s0_0 r2 r3 ∧ Below w0.heap.size w0 w' ∧ KeepBut w w' g none := by
 have HI0 := Zh hI
 have HK := Zh (KeepBut.refl w g none)
 have HL := Zh hB.size
 clear hI
 have HW0 := Zh hB.size
 have HB := Zh hB
 clear hB
 have H : (if s0_1 < (s0_0.length : Int) then (if 0 ≤ s0_1 then (some (Go.bits .and .i64 (wrap64 ((Go.bits .and .i64 (Go.bits .xor .i64 ((wrap64 ((wrap64 (s0_2 * 6364136223846793005)) + 1442695040888963407)) / 8589934592) ((wrap64 ((wrap64 (s0_2 * 6364136223846793005)) + 1442695040888963407)) / 35184372088832)) 255) + (wrap64 (rd s0_0 s0_1)))) 255, wrap64 (s0_1 + 1), wrap64 ((wrap64 (s0_2 * 6364136223846793005)) + 1442695040888963407))) else (none)) else (some (Go.bits .and .i64 (Go.bits .xor .i64 ((wrap64 ((wrap64 (s0_2 * 6364136223846793005)) + 1442695040888963407)) / 8589934592) ((wrap64 ((wrap64 (s0_2 * 6364136223846793005)) + 1442695040888963407)) / 35184372088832)) 255, s0_1, wrap64 ((wrap64 (s0_2 * 6364136223846793005)) + 1442695040888963407)))) = some (r1, r2, r3) := h
 clear h
 by_cases c2 : s0_1 < (s0_0.length : Int)
 ·
  rw [if_pos c2] at H
  have c2b0 : decide (s0_1 < (s0_0.length : Int)) = true := decide_eq_true c2
  clear c2
  by_cases c3 : 0 ≤ s0_1
  ·
   rw [if_pos c3] at H
   have c3b0 : decide (0 ≤ s0_1) = true := decide_eq_true c3
   clear c3
   simp only [Option.some.injEq, Prod.mk.injEq] at H
   obtain ⟨rfl, rfl, rfl⟩ := H
   obtain ⟨ASz4_0, cSz4_0, HGz4, hgz4, HSz4_0⟩ := HI0.out
   have hcz4_0 := cellS99_0 HGz4
   have hcz4_1 := cellS99_1 HGz4
   have hcz4_2 := cellS99_2 HGz4
   have hfz4_1 := Zn HGz4 1
   have hfz4_2 := Zn HGz4 2
   clear HGz4 hgz4
   have p617 : 0 ≤ (s0_1 : Int) := Zo
   have q617 : s0_1 < (s0_0.length : Int) := Zo
   obtain ⟨ad617, e617, hx617_0⟩ := Kd.at_int HSz4_0 s0_1 p617 q617
   cases e617
   have hn617_0 : ad617.block ≠ g := Nat.ne_of_lt (Nat.lt_of_lt_of_le (by have := Zi _ _ hx617_0; first | rwa [add_block] at this | exact this) (IsS99.ge HI0.out))
   replace hx617_0 := pw_cell_below HB.out hx617_0
   replace hx617_0 := (cell_far (p := ⟨g, 2, none⟩) (by first | (rw [add_block]; exact hn617_0) | (show (Addr.add _ _).block ≠ _; rw [add_block]; exact hn617_0) | exact hn617_0) (.int .i64 (wrap64 ((wrap64 (s0_2 * 6364136223846793005)) + 1442695040888963407)))).trans hx617_0
   (try have hy617_0 := fun (n_ : Nat) => (show (((w.drewN n_).setCell ⟨g, 2, none⟩ (.int .i64 (wrap64 ((wrap64 (s0_2 * 6364136223846793005)) + 1442695040888963407))))).cell? _ = some _ from hx617_0))
   clear hn617_0
   replace p617 := eq_true p617
   replace q617 := eq_true q617
   go_enter Tryd.func100, Tryd.ntmps100
   go_wp2
   repeat (go_quiet (fail); try go_wp2)
   go_ret
   exact ⟨ZE, by repeat (first | (with_reducible first | exact HI0.out | apply IsS99.alloc | apply IsS99.drewN | apply IsS99.drew | apply IsS99.set_1 | apply IsS99.set_2) | exact HI0.out), by repeat (first | (with_reducible first | exact HB.out | apply Zf | apply Zd | apply Ze | refine Zg ?_ (IsS99.ge HI0.out)) | exact HB.out), by repeat (first | (with_reducible first | exact HK.out | apply KeepBut.set_ | apply keep_drewN | apply keep_drew | apply keep_alloc) | exact HK.out)⟩
  rw [if_neg c3] at H
  exact absurd H (by simp)
 rw [if_neg c2] at H
 have c2b0 : decide (s0_1 < (s0_0.length : Int)) = false := decide_eq_false c2
 clear c2
 simp only [Option.some.injEq, Prod.mk.injEq] at H
 obtain ⟨rfl, rfl, rfl⟩ := H
 obtain ⟨ASz5_0, cSz5_0, HGz5, hgz5, HSz5_0⟩ := HI0.out
 have hcz5_0 := cellS99_0 HGz5
 have hcz5_1 := cellS99_1 HGz5
 have hcz5_2 := cellS99_2 HGz5
 have hfz5_1 := Zn HGz5 1
 have hfz5_2 := Zn HGz5 2
 clear HGz5 hgz5
 go_enter Tryd.func100, Tryd.ntmps100
 go_wp2
 repeat (go_quiet (fail); try go_wp2)
 go_ret
 exact ⟨ZE, by repeat (first | (with_reducible first | exact HI0.out | apply IsS99.alloc | apply IsS99.drewN | apply IsS99.drew | apply IsS99.set_1 | apply IsS99.set_2) | exact HI0.out), by repeat (first | (with_reducible first | exact HB.out | apply Zf | apply Zd | apply Ze | refine Zg ?_ (IsS99.ge HI0.out)) | exact HB.out), by repeat (first | (with_reducible first | exact HK.out | apply KeepBut.set_ | apply keep_drewN | apply keep_drew | apply keep_alloc) | exact HK.out)⟩
def spec_l01Below.f (s0_0 : List Int) (s0_1 : Int) (s0_2 : Int) (a1 : Int) : Option (Int × Int × Int) := if a1 ≤ 0 then (some (0, s0_1, s0_2)) else (if a1 ≤ 256 then ((spec_l01Byte.f s0_0 s0_1 s0_2).bind fun bt618 => (if a1 = 0 then (none) else (some (Int.tmod bt618.1 a1, bt618.2.1, bt618.2.2)))) else ((spec_l01Byte.f s0_0 s0_1 s0_2).bind fun bt621 => ((spec_l01Byte.f s0_0 bt621.2.1 bt621.2.2).bind fun bt624 => ((spec_l01Byte.f s0_0 bt624.2.1 bt624.2.2).bind fun bt627 => (if a1 = 0 then (none) else (some (Int.tmod (wrap64 ((wrap64 ((wrap64 (bt621.1 * 65536)) + (wrap64 (bt624.1 * 256)))) + bt627.1)) a1, bt627.2.1, bt627.2.2)))))))
set_option maxHeartbeats 8000000 in
set_option maxRecDepth 100000 in
theorem spec_l01Below.calls (g : Nat) (s0_0 : List Int) (s0_1 : Int) (s0_2 : Int) (a1 : Int) (r1 : Int) (r2 : Int) (r3 : Int) (w0 w : World) (hI : IsS99 w0 w g s0_0 s0_1 s0_2) (hB : Below w0.heap.size w0 w) (h : spec_l01Below.f s0_0 s0_1 s0_2 a1 = some (r1, r2, r3)) :
  Calls Tryd.prog 70 #[.pointer (some ⟨g, 0, none⟩), .int .i64 a1] w fun e w' => e = .returned (.int .i64 r1) ∧ IsS99 w0 w' g s0_0 r2 r3 ∧ Below w0.heap.size w0 w' ∧ KeepBut w w' g none := by
 have HI0 := Zh hI
 have HK := Zh (KeepBut.refl w g none)
 have HL := Zh hB.size
 clear hI
 have HW0 := Zh hB.size
 have HB := Zh hB
 clear hB
 have H : (if a1 ≤ 0 then (some (0, s0_1, s0_2)) else (if a1 ≤ 256 then ((spec_l01Byte.f s0_0 s0_1 s0_2).bind fun bt618 => (if a1 = 0 then (none) else (some (Int.tmod bt618.1 a1, bt618.2.1, bt618.2.2)))) else ((spec_l01Byte.f s0_0 s0_1 s0_2).bind fun bt621 => ((spec_l01Byte.f s0_0 bt621.2.1 bt621.2.2).bind fun bt624 => ((spec_l01Byte.f s0_0 bt624.2.1 bt624.2.2).bind fun bt627 => (if a1 = 0 then (none) else (some (Int.tmod (wrap64 ((wrap64 ((wrap64 (bt621.1 * 65536)) + (wrap64 (bt624.1 * 256)))) + bt627.1)) a1, bt627.2.1, bt627.2.2)))))))) = some (r1, r2, r3) := h
 clear h
 by_cases c3 : a1 ≤ 0
 ·
  rw [if_pos c3] at H
  have c3b0 : decide (a1 ≤ 0) = true := decide_eq_true c3
  clear c3
  simp only [Option.some.injEq, Prod.mk.injEq] at H
  obtain ⟨rfl, rfl, rfl⟩ := H
  go_enter Tryd.func70, Tryd.ntmps70
  go_wp2
  go_ret
  exact ⟨ZE, by repeat (first | (with_reducible first | exact HI0.out | apply IsS99.alloc | apply IsS99.drewN | apply IsS99.drew | apply IsS99.set_1 | apply IsS99.set_2) | exact HI0.out), by repeat (first | (with_reducible first | exact HB.out | apply Zf | apply Zd | apply Ze | refine Zg ?_ (IsS99.ge HI0.out)) | exact HB.out), by repeat (first | (with_reducible first | exact HK.out | apply KeepBut.set_ | apply keep_drewN | apply keep_drew | apply keep_alloc) | exact HK.out)⟩
 rw [if_neg c3] at H
 have c3b0 : decide (a1 ≤ 0) = false := decide_eq_false c3
 clear c3
 by_cases c4 : a1 ≤ 256
 ·
  rw [if_pos c4] at H
  have c4b0 : decide (a1 ≤ 256) = true := decide_eq_true c4
  clear c4
  replace H := Option.bind_eq_some_iff.mp H
  obtain ⟨⟨t618, t619, t620⟩, A50, H⟩ := H
  replace H : (if a1 = 0 then (none) else (some (Int.tmod t618 a1, t619, t620))) = some (r1, r2, r3) := H
  have A5 := Zh A50
  clear A50
  by_cases c6 : a1 = 0
  ·
   rw [if_pos c6] at H
   exact absurd H (by simp)
  rw [if_neg c6] at H
  have c6b0 : (a1 == 0) = false := beq_eq_false_iff_ne.mpr c6
  have c6b1 : (a1 != 0) = true := bne_iff_ne.mpr c6
  simp only [Option.some.injEq, Prod.mk.injEq] at H
  obtain ⟨rfl, rfl, rfl⟩ := H
  go_enter Tryd.func70, Tryd.ntmps70
  go_wp2_with (first | ((with_reducible refine gate_callee (f := 100) rfl ?_); refine ZG (some 13) Tryd.func100 #[.pointer (some ⟨g, 0, none⟩)] rfl ?_; (with_reducible refine (spec_l01Byte.calls g s0_0 s0_1 s0_2 t618 t619 t620 w0 _ ?side1 ?side2 A5.out).mono ?_); (case side1 => repeat (first | (with_reducible first | exact HI0.out | apply IsS99.alloc | apply IsS99.drewN | apply IsS99.drew | apply IsS99.set_1 | apply IsS99.set_2) | exact HI0.out)); (case side2 => repeat (first | (with_reducible first | exact HB.out | apply Zf | apply Zd | apply Ze | refine Zg ?_ (IsS99.ge HI0.out)) | exact HB.out)); rintro e w7 ⟨rfl, hi, hb, hk⟩; refine ⟨_, rfl, ?_⟩; replace HK := Zh (KeepBut.trans (by repeat (first | (with_reducible first | exact HK.out | apply KeepBut.set_ | apply keep_drewN | apply keep_drew | apply keep_alloc) | exact HK.out)) hk (.inl rfl)); replace HB := Zh (hb); replace HI0 := Zh (hi); (try clear hb); (try clear hb2); (try clear hk); (try clear hi)))
  go_ret
  exact ⟨ZE, by repeat (first | (with_reducible first | exact HI0.out | apply IsS99.alloc | apply IsS99.drewN | apply IsS99.drew | apply IsS99.set_1 | apply IsS99.set_2) | exact HI0.out), by repeat (first | (with_reducible first | exact HB.out | apply Zf | apply Zd | apply Ze | refine Zg ?_ (IsS99.ge HI0.out)) | exact HB.out), by repeat (first | (with_reducible first | exact HK.out | apply KeepBut.set_ | apply keep_drewN | apply keep_drew | apply keep_alloc) | exact HK.out)⟩
 rw [if_neg c4] at H
 have c4b0 : decide (a1 ≤ 256) = false := decide_eq_false c4
 clear c4
 replace H := Option.bind_eq_some_iff.mp H
 obtain ⟨⟨t621, t622, t623⟩, A80, H⟩ := H
 replace H : ((spec_l01Byte.f s0_0 t622 t623).bind fun bt624 => ((spec_l01Byte.f s0_0 bt624.2.1 bt624.2.2).bind fun bt627 => (if a1 = 0 then (none) else (some (Int.tmod (wrap64 ((wrap64 ((wrap64 (t621 * 65536)) + (wrap64 (bt624.1 * 256)))) + bt627.1)) a1, bt627.2.1, bt627.2.2))))) = some (r1, r2, r3) := H
 have A8 := Zh A80
 clear A80
 replace H := Option.bind_eq_some_iff.mp H
 obtain ⟨⟨t624, t625, t626⟩, A90, H⟩ := H
 replace H : ((spec_l01Byte.f s0_0 t625 t626).bind fun bt627 => (if a1 = 0 then (none) else (some (Int.tmod (wrap64 ((wrap64 ((wrap64 (t621 * 65536)) + (wrap64 (t624 * 256)))) + bt627.1)) a1, bt627.2.1, bt627.2.2)))) = some (r1, r2, r3) := H
 have A9 := Zh A90
 clear A90
 replace H := Option.bind_eq_some_iff.mp H
 obtain ⟨⟨t627, t628, t629⟩, A100, H⟩ := H
 replace H : (if a1 = 0 then (none) else (some (Int.tmod (wrap64 ((wrap64 ((wrap64 (t621 * 65536)) + (wrap64 (t624 * 256)))) + t627)) a1, t628, t629))) = some (r1, r2, r3) := H
 have A10 := Zh A100
 clear A100
 by_cases c11 : a1 = 0
 ·
  rw [if_pos c11] at H
  exact absurd H (by simp)
 rw [if_neg c11] at H
 have c11b0 : (a1 == 0) = false := beq_eq_false_iff_ne.mpr c11
 have c11b1 : (a1 != 0) = true := bne_iff_ne.mpr c11
 simp only [Option.some.injEq, Prod.mk.injEq] at H
 obtain ⟨rfl, rfl, rfl⟩ := H
 go_enter Tryd.func70, Tryd.ntmps70
 go_wp2_with (first | ((with_reducible refine gate_callee (f := 100) rfl ?_); refine ZG (some 17) Tryd.func100 #[.pointer (some ⟨g, 0, none⟩)] rfl ?_; (with_reducible refine (spec_l01Byte.calls g s0_0 s0_1 s0_2 t621 t622 t623 w0 _ ?side1 ?side2 A8.out).mono ?_); (case side1 => repeat (first | (with_reducible first | exact HI0.out | apply IsS99.alloc | apply IsS99.drewN | apply IsS99.drew | apply IsS99.set_1 | apply IsS99.set_2) | exact HI0.out)); (case side2 => repeat (first | (with_reducible first | exact HB.out | apply Zf | apply Zd | apply Ze | refine Zg ?_ (IsS99.ge HI0.out)) | exact HB.out)); rintro e w12 ⟨rfl, hi, hb, hk⟩; refine ⟨_, rfl, ?_⟩; replace HK := Zh (KeepBut.trans (by repeat (first | (with_reducible first | exact HK.out | apply KeepBut.set_ | apply keep_drewN | apply keep_drew | apply keep_alloc) | exact HK.out)) hk (.inl rfl)); replace HB := Zh (hb); replace HI0 := Zh (hi); (try clear hb); (try clear hb2); (try clear hk); (try clear hi)) | ((with_reducible refine gate_callee (f := 100) rfl ?_); refine ZG (some 19) Tryd.func100 #[.pointer (some ⟨g, 0, none⟩)] rfl ?_; (with_reducible refine (spec_l01Byte.calls g s0_0 t622 t623 t624 t625 t626 w0 _ ?side1 ?side2 A9.out).mono ?_); (case side1 => repeat (first | (with_reducible first | exact HI0.out | apply IsS99.alloc | apply IsS99.drewN | apply IsS99.drew | apply IsS99.set_1 | apply IsS99.set_2) | exact HI0.out)); (case side2 => repeat (first | (with_reducible first | exact HB.out | apply Zf | apply Zd | apply Ze | refine Zg ?_ (IsS99.ge HI0.out)) | exact HB.out)); rintro e w13 ⟨rfl, hi, hb, hk⟩; refine ⟨_, rfl, ?_⟩; replace HK := Zh (KeepBut.trans (by repeat (first | (with_reducible first | exact HK.out | apply KeepBut.set_ | apply keep_drewN | apply keep_drew | apply keep_alloc) | exact HK.out)) hk (.inl rfl)); replace HB := Zh (hb); replace HI0 := Zh (hi); (try clear hb); (try clear hb2); (try clear hk); (try clear hi)) | ((with_reducible refine gate_callee (f := 100) rfl ?_); refine ZG (some 21) Tryd.func100 #[.pointer (some ⟨g, 0, none⟩)] rfl ?_; (with_reducible refine (spec_l01Byte.calls g s0_0 t625 t626 t627 t628 t629 w0 _ ?side1 ?side2 A10.out).mono ?_); (case side1 => repeat (first | (with_reducible first | exact HI0.out | apply IsS99.alloc | apply IsS99.drewN | apply IsS99.drew | apply IsS99.set_1 | apply IsS99.set_2) | exact HI0.out)); (case side2 => repeat (first | (with_reducible first | exact HB.out | apply Zf | apply Zd | apply Ze | refine Zg ?_ (IsS99.ge HI0.out)) | exact HB.out)); rintro e w14 ⟨rfl, hi, hb, hk⟩; refine ⟨_, rfl, ?_⟩; replace HK := Zh (KeepBut.trans (by repeat (first | (with_reducible first | exact HK.out | apply KeepBut.set_ | apply keep_drewN | apply keep_drew | apply keep_alloc) | exact HK.out)) hk (.inl rfl)); replace HB := Zh (hb); replace HI0 := Zh (hi); (try clear hb); (try clear hb2); (try clear hk); (try clear hi)))
 go_ret
 exact ⟨ZE, by repeat (first | (with_reducible first | exact HI0.out | apply IsS99.alloc | apply IsS99.drewN | apply IsS99.drew | apply IsS99.set_1 | apply IsS99.set_2) | exact HI0.out), by repeat (first | (with_reducible first | exact HB.out | apply Zf | apply Zd | apply Ze | refine Zg ?_ (IsS99.ge HI0.out)) | exact HB.out), by repeat (first | (with_reducible first | exact HK.out | apply KeepBut.set_ | apply keep_drewN | apply keep_drew | apply keep_alloc) | exact HK.out)⟩
def spec_l01PickInt.f (s0_0 : List Int) (s0_1 : Int) (s0_2 : Int) (l1 : List Int) : Option (Int × Int × Int) := (spec_l01Below.f s0_0 s0_1 s0_2 (l1.length : Int)).bind fun bt630 => (if 0 ≤ bt630.1 then (if bt630.1 < (l1.length : Int) then (some (rd l1 bt630.1, bt630.2.1, bt630.2.2)) else (none)) else (none))
set_option maxHeartbeats 8000000 in
set_option maxRecDepth 100000 in
theorem spec_l01PickInt.calls (g : Nat) (s0_0 : List Int) (s0_1 : Int) (s0_2 : Int) (A1 : Option Addr) (c1 : Nat) (l1 : List Int) (r1 : Int) (r2 : Int) (r3 : Int) (w0 w : World) (hI : IsS99 w0 w g s0_0 s0_1 s0_2) (hB : Below w0.heap.size w0 w) (hr1 : Kd.C (Kd.int .i64) w A1 l1.length l1) (hc1 : l1.length ≤ c1) (hf1 : ∀ ad, A1 = some ad → 0 < l1.length → ad.block ≠ g) (h : spec_l01PickInt.f s0_0 s0_1 s0_2 l1 = some (r1, r2, r3)) :
  Calls Tryd.prog 101 #[.pointer (some ⟨g, 0, none⟩), .slice A1 l1.length c1] w fun e w' => e = .returned (.int .i64 r1) ∧ IsS99 w0 w' g s0_0 r2 r3 ∧ Below w0.heap.size w0 w' ∧ KeepBut w w' g none := by
 have HR1 := Zh hr1
 have HC1 := Zh hc1
 clear hr1 hc1
 have HI0 := Zh hI
 have HK := Zh (KeepBut.refl w g none)
 have HL := Zh hB.size
 clear hI
 have HW0 := Zh hB.size
 have HB := Zh hB
 clear hB
 have H : ((spec_l01Below.f s0_0 s0_1 s0_2 (l1.length : Int)).bind fun bt630 => (if 0 ≤ bt630.1 then (if bt630.1 < (l1.length : Int) then (some (rd l1 bt630.1, bt630.2.1, bt630.2.2)) else (none)) else (none))) = some (r1, r2, r3) := h
 clear h
 replace H := Option.bind_eq_some_iff.mp H
 obtain ⟨⟨t630, t631, t632⟩, A30, H⟩ := H
 replace H : (if 0 ≤ t630 then (if t630 < (l1.length : Int) then (some (rd l1 t630, t631, t632)) else (none)) else (none)) = some (r1, r2, r3) := H
 have A3 := Zh A30
 clear A30
 by_cases c4 : 0 ≤ t630
 ·
  rw [if_pos c4] at H
  have c4b0 : decide (0 ≤ t630) = true := decide_eq_true c4
  clear c4
  by_cases c5 : t630 < (l1.length : Int)
  ·
   rw [if_pos c5] at H
   have c5b0 : decide (t630 < (l1.length : Int)) = true := decide_eq_true c5
   clear c5
   simp only [Option.some.injEq, Prod.mk.injEq] at H
   obtain ⟨rfl, rfl, rfl⟩ := H
   go_enter Tryd.func101, Tryd.ntmps101
   go_wp2_with (first | ((with_reducible refine gate_callee (f := 70) rfl ?_); refine ZG (some 9) Tryd.func70 #[.pointer (some ⟨g, 0, none⟩), .int .i64 (l1.length : Int)] rfl ?_; (with_reducible refine (spec_l01Below.calls g s0_0 s0_1 s0_2 (l1.length : Int) t630 t631 t632 w0 _ ?side1 ?side2 A3.out).mono ?_); (case side1 => repeat (first | (with_reducible first | exact HI0.out | apply IsS99.alloc | apply IsS99.drewN | apply IsS99.drew | apply IsS99.set_1 | apply IsS99.set_2) | exact HI0.out)); (case side2 => repeat (first | (with_reducible first | exact HB.out | apply Zf | apply Zd | apply Ze | refine Zg ?_ (IsS99.ge HI0.out)) | exact HB.out)); rintro e w6 ⟨rfl, hi, hb, hk⟩; refine ⟨_, rfl, ?_⟩; replace HK := Zh (KeepBut.trans (by repeat (first | (with_reducible first | exact HK.out | apply KeepBut.set_ | apply keep_drewN | apply keep_drew | apply keep_alloc) | exact HK.out)) hk (.inl rfl)); replace HB := Zh (hb); replace HI0 := Zh (hi); (try clear hb); (try clear hb2); (try clear hk); (try clear hi); have p633 : 0 ≤ (t630 : Int) := Zo; have q633 : t630 < (l1.length : Int) := Zo; obtain ⟨ad633, e633, hx633_0⟩ := Kd.at_int HR1.out t630 p633 q633; cases e633; replace hx633_0 := keep_cell HK.out hx633_0 (by first | (rw [add_block]; exact hf1 _ rfl (by omega)) | exact hf1 _ rfl (by omega) | exact hf1 ad633 rfl (by omega)); replace p633 := eq_true p633; replace q633 := eq_true q633))
   go_ret
   exact ⟨ZE, by repeat (first | (with_reducible first | exact HI0.out | apply IsS99.alloc | apply IsS99.drewN | apply IsS99.drew | apply IsS99.set_1 | apply IsS99.set_2) | exact HI0.out), by repeat (first | (with_reducible first | exact HB.out | apply Zf | apply Zd | apply Ze | refine Zg ?_ (IsS99.ge HI0.out)) | exact HB.out), by repeat (first | (with_reducible first | exact HK.out | apply KeepBut.set_ | apply keep_drewN | apply keep_drew | apply keep_alloc) | exact HK.out)⟩
  rw [if_neg c5] at H
  exact absurd H (by simp)
 rw [if_neg c4] at H
 exact absurd H (by simp)
def spec_l01DrawBytes.l0 : Nat → Int → List Int → Int → List Int → Int → Int → Option (List Int × Int × Int)
 | 0, _, _, _, _, _, _ => none
 | k + 1, x1, x5, x6, x1000, x1001, x1002 => if x6 < x1 then ((spec_l01Below.f x1000 x1001 x1002 256).bind fun bt637 => ((spec_l01Below.f x1000 bt637.2.1 bt637.2.2 256).bind fun bt640 => ((spec_l01PickInt.f x1000 bt640.2.1 bt640.2.2 (([0, 1, 255, 128, bt637.1, bt640.1] : List Int))).bind fun bt646 => (if x5.length < 140737488355328 then (spec_l01DrawBytes.l0 k x1 (x5 ++ [(bt646.1) % 256]) (wrap64 (x6 + 1)) x1000 bt646.2.1 bt646.2.2) else (none))))) else (some (x5, x1001, x1002))
def spec_l01DrawBytes.f (k : Nat) (s0_0 : List Int) (s0_1 : Int) (s0_2 : Int) (a1 : Int) : Option (List Int × Int × Int) := spec_l01DrawBytes.l0 k a1 (([] : List Int)) 0 s0_0 s0_1 s0_2
set_option maxHeartbeats 8000000 in
set_option maxRecDepth 100000 in
theorem spec_l01DrawBytes.calls (k : Nat) (g : Nat) (s0_0 : List Int) (s0_1 : Int) (s0_2 : Int) (a1 : Int) (r1 : List Int) (r2 : Int) (r3 : Int) (w0 w : World) (hI : IsS99 w0 w g s0_0 s0_1 s0_2) (hB : Below w0.heap.size w0 w) (h : spec_l01DrawBytes.f k s0_0 s0_1 s0_2 a1 = some (r1, r2, r3)) :
  Calls Tryd.prog 71 #[.pointer (some ⟨g, 0, none⟩), .int .i64 a1] w fun e w' => ∃ v0_ : Value, e = .returned (v0_) ∧ Kd.R (Kd.int .u8) 5 w' w.heap.size (fun _ => True) v0_ r1 ∧ IsS99 w0 w' g s0_0 r2 r3 ∧ Below w0.heap.size w0 w' ∧ KeepBut w w' g none := by
 have HI0 := Zh hI
 have HK := Zh (KeepBut.refl w g none)
 have HL := Zh hB.size
 clear hI
 have HW0 := Zh hB.size
 have HB := Zh hB
 clear hB
 have H : (spec_l01DrawBytes.l0 k a1 (([] : List Int)) 0 s0_0 s0_1 s0_2) = some (r1, r2, r3) := h
 clear h
 obtain ⟨y634, hy634⟩ : ∃ y_ : List Int, y_ = (([] : List Int)) := ⟨_, rfl⟩
 replace H : (spec_l01DrawBytes.l0 k a1 y634 0 s0_0 s0_1 s0_2) = some (r1, r2, r3) := by first | (rw [hy634]; with_reducible exact H) | (have H2_ := (Option.bind_some _ _).symm.trans H; rw [hy634]; with_reducible exact H2_) | (have H2_ := (Option.bind_some _ _).symm.trans H; with_reducible exact H2_) | with_reducible exact H | (rw [hy634]; exact H) | exact H
 have Ny634 := Zh hy634
 clear hy634
 have H' := Zh H
 clear H
 go_enter Tryd.func71, Tryd.ntmps71
 go_wp2_with (first | ((with_reducible refine gate_dst (N := 7) rfl ?_); refine R_lit (Kd.int .u8) _ 5 ?hg (N := 7) ?hd (xs := ([] : List Int)) (inner := []) (ok := fun _ => True) (okp := fun _ => True) ?hr ?hp (fun _ hk => hk) trivial (Below.refl _ _) (Nat.le_refl _) (by simp) ?_; (case hd => rfl); (case hg => rfl); (case hr => first | (go_simp; done) | (go_simp; rfl)); (case hp => exact (Reps.none _ _)); intro v635 w3 ho4 hb hg_ hnew_; clear hg_ hnew_; (first | rw [← Ny634.out] at ho4 | (simp only [Int.reduceToNat] at ho4; rw [← Ny634.out] at ho4)); have HO636 := Zh (R_lower ho4 (keep_size (w := w) (g := g) (row := none) (by repeat (first | (with_reducible first | exact HK.out | apply KeepBut.set_ | apply keep_drewN | apply keep_drew | apply keep_alloc) | exact HK.out)))); replace HK := Zh (KeepBut.trans (by repeat (first | (with_reducible first | exact HK.out | apply KeepBut.set_ | apply keep_drewN | apply keep_drew | apply keep_alloc) | exact HK.out)) (KeepBut.of_below hb g none) (.inl rfl)); replace HB := Zh (Zl (by repeat (first | (with_reducible first | exact HB.out | apply Zf | apply Zd | apply Ze | refine Zg ?_ (IsS99.ge HI0.out)) | exact HB.out)) hb); replace HI0 := Zh (IsS99.below (by repeat (first | (with_reducible first | exact HI0.out | apply IsS99.alloc | apply IsS99.drewN | apply IsS99.drew | apply IsS99.set_1 | apply IsS99.set_2) | exact HI0.out)) hb); clear hb ho4))
 go_loopg [5, 6] k (fun kq v5 v6 w' => ∃ (x5_1 : List Int) (x6_1 : Int) (x1001_1 : Int) (x1002_1 : Int), v6 = .int .i64 x6_1 ∧ Aside0 (spec_l01DrawBytes.l0 kq a1 x5_1 x6_1 s0_0 x1001_1 x1002_1 = some (r1, r2, r3)) ∧ Aside0 (kq ≤ k) ∧ Aside0 (Kd.R (Kd.int .u8) 5 w' w.heap.size (fun _ => True) v5 x5_1) ∧ Aside0 (IsS99 w0 w' g s0_0 x1001_1 x1002_1) ∧ Aside0 (KeepBut w w' g none) ∧ Aside0 (Below w0.heap.size w0 w'))
 case atStart => exact ⟨(y634), (0), (s0_1), (s0_2), (by first | rfl | (simp; done) | (simp [*]; done)), H', ⟨Nat.le_refl _⟩, ⟨ZR HO636.out⟩, ⟨by repeat (first | (with_reducible first | exact HI0.out | apply IsS99.alloc | apply IsS99.drewN | apply IsS99.drew | apply IsS99.set_1 | apply IsS99.set_2) | exact HI0.out)⟩, ⟨by repeat (first | (with_reducible first | exact HK.out | apply KeepBut.set_ | apply keep_drewN | apply keep_drew | apply keep_alloc) | exact HK.out)⟩, ⟨by repeat (first | (with_reducible first | exact HB.out | apply Zf | apply Zd | apply Ze | refine Zg ?_ (IsS99.ge HI0.out)) | exact HB.out)⟩⟩
 case round =>
  clear H'
  try clear p2
  obtain ⟨x5_1, x6_1, x1001_1, x1002_1, rfl, HA, HK1, HO_5, HI0, HK, HB⟩ := hrel
  cases gk with
  | zero => exact absurd HA.out (by simp [spec_l01DrawBytes.l0])
  | succ k1 =>
   have H := HA.out
   clear HA
   simp only [spec_l01DrawBytes.l0] at H
   by_cases c5 : x6_1 < a1
   ·
    rw [if_pos c5] at H
    have c5b0 : decide (x6_1 < a1) = true := decide_eq_true c5
    clear c5
    replace H := Option.bind_eq_some_iff.mp H
    obtain ⟨⟨t637, t638, t639⟩, A60, H⟩ := H
    replace H : ((spec_l01Below.f s0_0 t638 t639 256).bind fun bt640 => ((spec_l01PickInt.f s0_0 bt640.2.1 bt640.2.2 (([0, 1, 255, 128, t637, bt640.1] : List Int))).bind fun bt646 => (if x5_1.length < 140737488355328 then (spec_l01DrawBytes.l0 k1 a1 (x5_1 ++ [(bt646.1) % 256]) (wrap64 (x6_1 + 1)) s0_0 bt646.2.1 bt646.2.2) else (none)))) = some (r1, r2, r3) := H
    have A6 := Zh A60
    clear A60
    replace H := Option.bind_eq_some_iff.mp H
    obtain ⟨⟨t640, t641, t642⟩, A70, H⟩ := H
    replace H : ((spec_l01PickInt.f s0_0 t641 t642 (([0, 1, 255, 128, t637, t640] : List Int))).bind fun bt646 => (if x5_1.length < 140737488355328 then (spec_l01DrawBytes.l0 k1 a1 (x5_1 ++ [(bt646.1) % 256]) (wrap64 (x6_1 + 1)) s0_0 bt646.2.1 bt646.2.2) else (none))) = some (r1, r2, r3) := H
    have A7 := Zh A70
    clear A70
    obtain ⟨y643, hy643⟩ : ∃ y_ : List Int, y_ = (([0, 1, 255, 128, t637, t640] : List Int)) := ⟨_, rfl⟩
    replace H : ((spec_l01PickInt.f s0_0 t641 t642 y643).bind fun bt646 => (if x5_1.length < 140737488355328 then (spec_l01DrawBytes.l0 k1 a1 (x5_1 ++ [(bt646.1) % 256]) (wrap64 (x6_1 + 1)) s0_0 bt646.2.1 bt646.2.2) else (none))) = some (r1, r2, r3) := by first | (rw [hy643]; with_reducible exact H) | (have H2_ := (Option.bind_some _ _).symm.trans H; rw [hy643]; with_reducible exact H2_) | (have H2_ := (Option.bind_some _ _).symm.trans H; with_reducible exact H2_) | with_reducible exact H | (rw [hy643]; exact H) | exact H
    have Ny643 := Zh hy643
    clear hy643
    replace H := Option.bind_eq_some_iff.mp H
    obtain ⟨⟨t646, t647, t648⟩, A80, H⟩ := H
    replace H : (if x5_1.length < 140737488355328 then (spec_l01DrawBytes.l0 k1 a1 (x5_1 ++ [(t646) % 256]) (wrap64 (x6_1 + 1)) s0_0 t647 t648) else (none)) = some (r1, r2, r3) := H
    have A8 := Zh A80
    clear A80
    by_cases c9 : x5_1.length < 140737488355328
    ·
     rw [if_pos c9] at H
     have LMc9 := Zh c9
     clear c9
     obtain ⟨y649, hy649⟩ : ∃ y_ : List Int, y_ = (x5_1 ++ [(t646) % 256]) := ⟨_, rfl⟩
     replace H : (spec_l01DrawBytes.l0 k1 a1 y649 (wrap64 (x6_1 + 1)) s0_0 t647 t648) = some (r1, r2, r3) := by first | (rw [hy649]; with_reducible exact H) | (have H2_ := (Option.bind_some _ _).symm.trans H; rw [hy649]; with_reducible exact H2_) | (have H2_ := (Option.bind_some _ _).symm.trans H; with_reducible exact H2_) | with_reducible exact H | (rw [hy649]; exact H) | exact H
     have Ny649 := Zh hy649
     clear hy649
     have H' := Zh H
     clear H
     go_wp2_with (first | ((with_reducible refine gate_callee (f := 70) rfl ?_); refine ZG (some 16) Tryd.func70 #[.pointer (some ⟨g, 0, none⟩), .int .i64 256] rfl ?_; (with_reducible refine (spec_l01Below.calls g s0_0 x1001_1 x1002_1 256 t637 t638 t639 w0 _ ?side1 ?side2 A6.out).mono ?_); (case side1 => repeat (first | (with_reducible first | exact HI0.out | apply IsS99.alloc | apply IsS99.drewN | apply IsS99.drew | apply IsS99.set_1 | apply IsS99.set_2) | exact HI0.out)); (case side2 => repeat (first | (with_reducible first | exact HB.out | apply Zf | apply Zd | apply Ze | refine Zg ?_ (IsS99.ge HI0.out)) | exact HB.out)); rintro e w10 ⟨rfl, hi, hb, hk⟩; refine ⟨_, rfl, ?_⟩; replace HO_5 := Zh (R_mono (R_keep (IsS99.apart (show IsS99 w0 _ g s0_0 x1001_1 x1002_1 from by repeat (first | (with_reducible first | exact HI0.out | apply IsS99.alloc | apply IsS99.drewN | apply IsS99.drew | apply IsS99.set_1 | apply IsS99.set_2) | exact HI0.out)) (ZR HO_5.out) (by decide)) hk (fun _ h => h.2)) (fun _ h => h.1)); replace HK := Zh (KeepBut.trans (by repeat (first | (with_reducible first | exact HK.out | apply KeepBut.set_ | apply keep_drewN | apply keep_drew | apply keep_alloc) | exact HK.out)) hk (.inl rfl)); replace HB := Zh (hb); replace HI0 := Zh (hi); (try clear hb); (try clear hb2); (try clear hk); (try clear hi)) | ((with_reducible refine gate_callee (f := 70) rfl ?_); refine ZG (some 18) Tryd.func70 #[.pointer (some ⟨g, 0, none⟩), .int .i64 256] rfl ?_; (with_reducible refine (spec_l01Below.calls g s0_0 t638 t639 256 t640 t641 t642 w0 _ ?side1 ?side2 A7.out).mono ?_); (case side1 => repeat (first | (with_reducible first | exact HI0.out | apply IsS99.alloc | apply IsS99.drewN | apply IsS99.drew | apply IsS99.set_1 | apply IsS99.set_2) | exact HI0.out)); (case side2 => repeat (first | (with_reducible first | exact HB.out | apply Zf | apply Zd | apply Ze | refine Zg ?_ (IsS99.ge HI0.out)) | exact HB.out)); rintro e w11 ⟨rfl, hi, hb, hk⟩; refine ⟨_, rfl, ?_⟩; replace HO_5 := Zh (R_mono (R_keep (IsS99.apart (show IsS99 w0 _ g s0_0 t638 t639 from by repeat (first | (with_reducible first | exact HI0.out | apply IsS99.alloc | apply IsS99.drewN | apply IsS99.drew | apply IsS99.set_1 | apply IsS99.set_2) | exact HI0.out)) (ZR HO_5.out) (by decide)) hk (fun _ h => h.2)) (fun _ h => h.1)); replace HK := Zh (KeepBut.trans (by repeat (first | (with_reducible first | exact HK.out | apply KeepBut.set_ | apply keep_drewN | apply keep_drew | apply keep_alloc) | exact HK.out)) hk (.inl rfl)); replace HB := Zh (hb); replace HI0 := Zh (hi); (try clear hb); (try clear hb2); (try clear hk); (try clear hi)) | ((with_reducible refine gate_dst (N := 19) rfl ?_); refine R_lit (Kd.int .i64) _ 3 ?hg (N := 19) ?hd (xs := ([0, 1, 255, 128, t637, t640] : List Int)) (inner := [.int .i64 0, .int .i64 1, .int .i64 255, .int .i64 128, .int .i64 t637, .int .i64 t640]) (ok := fun _ => True) (okp := fun _ => True) ?hr ?hp (fun _ hk => hk) trivial (Below.refl _ _) (Nat.le_refl _) (by simp) ?_; (case hd => rfl); (case hg => rfl); (case hr => first | (go_simp; done) | (go_simp; rfl)); (case hp => exact (Reps.one (show Kd.M (Kd.int .i64) _ _ _ 0 [.int .i64 0] from rfl) (Reps.one (show Kd.M (Kd.int .i64) _ _ _ 1 [.int .i64 1] from rfl) (Reps.one (show Kd.M (Kd.int .i64) _ _ _ 255 [.int .i64 255] from rfl) (Reps.one (show Kd.M (Kd.int .i64) _ _ _ 128 [.int .i64 128] from rfl) (Reps.one (show Kd.M (Kd.int .i64) _ _ _ t637 [.int .i64 t637] from rfl) (Reps.one (show Kd.M (Kd.int .i64) _ _ _ t640 [.int .i64 t640] from rfl) (Reps.none _ _)))))))); intro v644 w12 ho13 hb hg_ hnew_; clear hg_ hnew_; (first | rw [← Ny643.out] at ho13 | (simp only [Int.reduceToNat] at ho13; rw [← Ny643.out] at ho13)); replace HO_5 := Zh (R_below (ZR HO_5.out) hb); have HO645 := Zh (R_lower ho13 (keep_size (w := w) (g := g) (row := none) (by repeat (first | (with_reducible first | exact HK.out | apply KeepBut.set_ | apply keep_drewN | apply keep_drew | apply keep_alloc) | exact HK.out)))); replace HK := Zh (KeepBut.trans (by repeat (first | (with_reducible first | exact HK.out | apply KeepBut.set_ | apply keep_drewN | apply keep_drew | apply keep_alloc) | exact HK.out)) (KeepBut.of_below hb g none) (.inl rfl)); replace HB := Zh (Zl (by repeat (first | (with_reducible first | exact HB.out | apply Zf | apply Zd | apply Ze | refine Zg ?_ (IsS99.ge HI0.out)) | exact HB.out)) hb); replace HI0 := Zh (IsS99.below (by repeat (first | (with_reducible first | exact HI0.out | apply IsS99.alloc | apply IsS99.drewN | apply IsS99.drew | apply IsS99.set_1 | apply IsS99.set_2) | exact HI0.out)) hb); clear hb ho13; obtain ⟨Ao14, co14, eo14⟩ := R_slice HO645.out; subst eo14) | ((with_reducible refine gate_callee (f := 101) rfl ?_); refine ZG (some 20) Tryd.func101 #[.pointer (some ⟨g, 0, none⟩), .slice Ao14 y643.length co14] rfl ?_; (with_reducible refine (spec_l01PickInt.calls g s0_0 t641 t642 _ _ y643 t646 t647 t648 w0 _ ?side1 ?side2 ?side3 ?side4 ?side5 A8.out).mono ?_); (case side1 => repeat (first | (with_reducible first | exact HI0.out | apply IsS99.alloc | apply IsS99.drewN | apply IsS99.drew | apply IsS99.set_1 | apply IsS99.set_2) | exact HI0.out)); (case side2 => repeat (first | (with_reducible first | exact HB.out | apply Zf | apply Zd | apply Ze | refine Zg ?_ (IsS99.ge HI0.out)) | exact HB.out)); (case side3 => repeat (first | exact (R_reads' HO645.out).2.2 | (with_reducible refine C_alloc ?_ _) | (with_reducible refine C_drewN ?_ _) | (with_reducible refine C_drew ?_))); (case side4 => exact (R_reads' HO645.out).2.1); (case side5 => exact far_slice (IsS99.own_ne HI0.out HO645.out (by decide))); rintro e w15 ⟨rfl, hi, hb, hk⟩; refine ⟨_, rfl, ?_⟩; replace HO_5 := Zh (R_mono (R_keep (IsS99.apart (show IsS99 w0 _ g s0_0 t641 t642 from by repeat (first | (with_reducible first | exact HI0.out | apply IsS99.alloc | apply IsS99.drewN | apply IsS99.drew | apply IsS99.set_1 | apply IsS99.set_2) | exact HI0.out)) (ZR HO_5.out) (by decide)) hk (fun _ h => h.2)) (fun _ h => h.1)); replace HO645 := Zh (R_mono (R_keep (IsS99.apart (show IsS99 w0 _ g s0_0 t641 t642 from by repeat (first | (with_reducible first | exact HI0.out | apply IsS99.alloc | apply IsS99.drewN | apply IsS99.drew | apply IsS99.set_1 | apply IsS99.set_2) | exact HI0.out)) (ZR HO645.out) (by decide)) hk (fun _ h => h.2)) (fun _ h => h.1)); replace HK := Zh (KeepBut.trans (by repeat (first | (with_reducible first | exact HK.out | apply KeepBut.set_ | apply keep_drewN | apply keep_drew | apply keep_alloc) | exact HK.out)) hk (.inl rfl)); replace HB := Zh (hb); replace HI0 := Zh (hi); (try clear hb); (try clear hb2); (try clear hk); (try clear hi)) | ((with_reducible refine gate_builtin (b := .append) (xs := #[.tmp 13, .tmp 22]) rfl ?_); at_builtin; refine R_append (Kd.int .u8) w.heap.size rfl (.tmp 13) (.tmp 22) 41 5 (.int .u8 0) 1 rfl Tryd.underlying41 info5 rfl (by decide) (by omega) u5 x5_1 ((t646) % 256) [.int .u8 ((t646) % 256)] (fun _ => True) (fun _ => False) rfl rfl ?aP (fun _ hk => hk.elim) ?aF ?aO (Below.refl _ _) ?aS ?aL ?_; (case aP => exact rfl); (case aF => exact (fun _ _ => trivial)); (case aO => exact (ZR HO_5.out)); (case aS => exact (keep_size (w := w) (g := g) (row := none) (by repeat (first | (with_reducible first | exact HK.out | apply KeepBut.set_ | apply keep_drewN | apply keep_drew | apply keep_alloc) | exact HK.out)))); (case aL => have := LMc9.out; omega); intro v650 w16 ho hb hg hat; rw [← Ny649.out] at ho; have n0_ := Zh (IsS99.grown (show IsS99 w0 _ g s0_0 t647 t648 from by repeat (first | (with_reducible first | exact HI0.out | apply IsS99.alloc | apply IsS99.drewN | apply IsS99.drew | apply IsS99.set_1 | apply IsS99.set_2) | exact HI0.out)) hg (IsS99.own_ne HI0.out HO_5.out (by decide))); have n1_ := Zh (R_over' (ZR HO645.out) (R_typed (ZR HO_5.out)) (by decide) hg); have n2_ := Zh (below_weaken (by repeat (first | (with_reducible first | exact HB.out | apply Zf | apply Zd | apply Ze | refine Zg ?_ (IsS99.ge HI0.out)) | exact HB.out)) HL.out hb); have n3_ := Zh (KeepBut.trans (by repeat (first | (with_reducible first | exact HK.out | apply KeepBut.set_ | apply keep_drewN | apply keep_drew | apply keep_alloc) | exact HK.out)) (KeepBut.of_grown hg g) (R_base2 HO_5.out)); have n4_ := Zh (ho); clear HI0; clear HO645; clear HB; clear HK; clear HO_5; have HI0 := n0_; have HO645 := n1_; have HB := n2_; have HK := n3_; have HO651 := n4_; clear n0_ n1_ n2_ n3_ n4_; clear ho hb hg hat))
     go_roundg k1
     case measure => have := HK1.out; omega
     case rel => exact ⟨(y649), (wrap64 (x6_1 + 1)), (t647), (t648), (by first | rfl | (simp; done) | (simp [*]; done)), H', ⟨by have := HK1.out; omega⟩, ⟨ZR HO651.out⟩, ⟨by repeat (first | (with_reducible first | exact HI0.out | apply IsS99.alloc | apply IsS99.drewN | apply IsS99.drew | apply IsS99.set_1 | apply IsS99.set_2) | exact HI0.out)⟩, ⟨by repeat (first | (with_reducible first | exact HK.out | apply KeepBut.set_ | apply keep_drewN | apply keep_drew | apply keep_alloc) | exact HK.out)⟩, ⟨by repeat (first | (with_reducible first | exact HB.out | apply Zf | apply Zd | apply Ze | refine Zg ?_ (IsS99.ge HI0.out)) | exact HB.out)⟩⟩
    rw [if_neg c9] at H
    exact absurd H (by simp)
   rw [if_neg c5] at H
   have c5b0 : decide (x6_1 < a1) = false := decide_eq_false c5
   clear c5
   simp only [Option.some.injEq, Prod.mk.injEq] at H
   obtain ⟨rfl, rfl, rfl⟩ := H
   go_wp2
   go_ret
   exact ⟨_, ZE, ZR HO_5.out, by repeat (first | (with_reducible first | exact HI0.out | apply IsS99.alloc | apply IsS99.drewN | apply IsS99.drew | apply IsS99.set_1 | apply IsS99.set_2) | exact HI0.out), by repeat (first | (with_reducible first | exact HB.out | apply Zf | apply Zd | apply Ze | refine Zg ?_ (IsS99.ge HI0.out)) | exact HB.out), by repeat (first | (with_reducible first | exact HK.out | apply KeepBut.set_ | apply keep_drewN | apply keep_drew | apply keep_alloc) | exact HK.out)⟩
def spec_l01Once.f (s0_0 : List Int) (s0_1 : Int) (s0_2 : Int) (a1 : Int) : Option (Bool × Int × Int) := (spec_l01Below.f s0_0 s0_1 s0_2 a1).bind fun bt652 => (some ((bt652.1 == 0), bt652.2.1, bt652.2.2))
set_option maxHeartbeats 8000000 in
set_option maxRecDepth 100000 in
theorem spec_l01Once.calls (g : Nat) (s0_0 : List Int) (s0_1 : Int) (s0_2 : Int) (a1 : Int) (r1 : Bool) (r2 : Int) (r3 : Int) (w0 w : World) (hI : IsS99 w0 w g s0_0 s0_1 s0_2) (hB : Below w0.heap.size w0 w) (h : spec_l01Once.f s0_0 s0_1 s0_2 a1 = some (r1, r2, r3)) :
  Calls Tryd.prog 97 #[.pointer (some ⟨g, 0, none⟩), .int .i64 a1] w fun e w' => e = .returned (.bool r1) ∧ IsS99 w0 w' g s0_0 r2 r3 ∧ Below w0.heap.size w0 w' ∧ KeepBut w w' g none := by
 have HI0 := Zh hI
 have HK := Zh (KeepBut.refl w g none)
 have HL := Zh hB.size
 clear hI
 have HW0 := Zh hB.size
 have HB := Zh hB
 clear hB
 have H : ((spec_l01Below.f s0_0 s0_1 s0_2 a1).bind fun bt652 => (some ((bt652.1 == 0), bt652.2.1, bt652.2.2))) = some (r1, r2, r3) := h
 clear h
 replace H := Option.bind_eq_some_iff.mp H
 obtain ⟨⟨t652, t653, t654⟩, A30, H⟩ := H
 replace H : (some ((t652 == 0), t653, t654)) = some (r1, r2, r3) := H
 have A3 := Zh A30
 clear A30
 simp only [Option.some.injEq, Prod.mk.injEq] at H
 obtain ⟨rfl, rfl, rfl⟩ := H
 go_enter Tryd.func97, Tryd.ntmps97
 go_wp2_with (first | ((with_reducible refine gate_callee (f := 70) rfl ?_); refine ZG (some 7) Tryd.func70 #[.pointer (some ⟨g, 0, none⟩), .int .i64 a1] rfl ?_; (with_reducible refine (spec_l01Below.calls g s0_0 s0_1 s0_2 a1 t652 t653 t654 w0 _ ?side1 ?side2 A3.out).mono ?_); (case side1 => repeat (first | (with_reducible first | exact HI0.out | apply IsS99.alloc | apply IsS99.drewN | apply IsS99.drew | apply IsS99.set_1 | apply IsS99.set_2) | exact HI0.out)); (case side2 => repeat (first | (with_reducible first | exact HB.out | apply Zf | apply Zd | apply Ze | refine Zg ?_ (IsS99.ge HI0.out)) | exact HB.out)); rintro e w4 ⟨rfl, hi, hb, hk⟩; refine ⟨_, rfl, ?_⟩; replace HK := Zh (KeepBut.trans (by repeat (first | (with_reducible first | exact HK.out | apply KeepBut.set_ | apply keep_drewN | apply keep_drew | apply keep_alloc) | exact HK.out)) hk (.inl rfl)); replace HB := Zh (hb); replace HI0 := Zh (hi); (try clear hb); (try clear hb2); (try clear hk); (try clear hi)))
 go_ret
 exact ⟨ZE, by repeat (first | (with_reducible first | exact HI0.out | apply IsS99.alloc | apply IsS99.drewN | apply IsS99.drew | apply IsS99.set_1 | apply IsS99.set_2) | exact HI0.out), by repeat (first | (with_reducible first | exact HB.out | apply Zf | apply Zd | apply Ze | refine Zg ?_ (IsS99.ge HI0.out)) | exact HB.out), by repeat (first | (with_reducible first | exact HK.out | apply KeepBut.set_ | apply keep_drewN | apply keep_drew | apply keep_alloc) | exact HK.out)⟩
def spec_l01PickText.f (s0_0 : List Int) (s0_1 : Int) (s0_2 : Int) (l1 : List ByteArray) : Option (ByteArray × Int × Int) := (spec_l01Below.f s0_0 s0_1 s0_2 (l1.length : Int)).bind fun bt655 => (if 0 ≤ bt655.1 then (if bt655.1 < (l1.length : Int) then (some (rdOf ByteArray.empty l1 bt655.1, bt655.2.1, bt655.2.2)) else (none)) else (none))
set_option maxHeartbeats 8000000 in
set_option maxRecDepth 100000 in
theorem spec_l01PickText.calls (g : Nat) (s0_0 : List Int) (s0_1 : Int) (s0_2 : Int) (A1 : Option Addr) (c1 : Nat) (l1 : List ByteArray) (r1 : ByteArray) (r2 : Int) (r3 : Int) (w0 w : World) (hI : IsS99 w0 w g s0_0 s0_1 s0_2) (hB : Below w0.heap.size w0 w) (hr1 : Kd.C Kd.string w A1 l1.length l1) (hc1 : l1.length ≤ c1) (hf1 : ∀ ad, A1 = some ad → 0 < l1.length → ad.block ≠ g) (h : spec_l01PickText.f s0_0 s0_1 s0_2 l1 = some (r1, r2, r3)) :
  Calls Tryd.prog 98 #[.pointer (some ⟨g, 0, none⟩), .slice A1 l1.length c1] w fun e w' => e = .returned (.string r1) ∧ IsS99 w0 w' g s0_0 r2 r3 ∧ Below w0.heap.size w0 w' ∧ KeepBut w w' g none := by
 have HR1 := Zh hr1
 have HC1 := Zh hc1
 clear hr1 hc1
 have HI0 := Zh hI
 have HK := Zh (KeepBut.refl w g none)
 have HL := Zh hB.size
 clear hI
 have HW0 := Zh hB.size
 have HB := Zh hB
 clear hB
 have H : ((spec_l01Below.f s0_0 s0_1 s0_2 (l1.length : Int)).bind fun bt655 => (if 0 ≤ bt655.1 then (if bt655.1 < (l1.length : Int) then (some (rdOf ByteArray.empty l1 bt655.1, bt655.2.1, bt655.2.2)) else (none)) else (none))) = some (r1, r2, r3) := h
 clear h
 replace H := Option.bind_eq_some_iff.mp H
 obtain ⟨⟨t655, t656, t657⟩, A30, H⟩ := H
 replace H : (if 0 ≤ t655 then (if t655 < (l1.length : Int) then (some (rdOf ByteArray.empty l1 t655, t656, t657)) else (none)) else (none)) = some (r1, r2, r3) := H
 have A3 := Zh A30
 clear A30
 by_cases c4 : 0 ≤ t655
 ·
  rw [if_pos c4] at H
  have c4b0 : decide (0 ≤ t655) = true := decide_eq_true c4
  clear c4
  by_cases c5 : t655 < (l1.length : Int)
  ·
   rw [if_pos c5] at H
   have c5b0 : decide (t655 < (l1.length : Int)) = true := decide_eq_true c5
   clear c5
   simp only [Option.some.injEq, Prod.mk.injEq] at H
   obtain ⟨rfl, rfl, rfl⟩ := H
   go_enter Tryd.func98, Tryd.ntmps98
   go_wp2_with (first | ((with_reducible refine gate_callee (f := 70) rfl ?_); refine ZG (some 9) Tryd.func70 #[.pointer (some ⟨g, 0, none⟩), .int .i64 (l1.length : Int)] rfl ?_; (with_reducible refine (spec_l01Below.calls g s0_0 s0_1 s0_2 (l1.length : Int) t655 t656 t657 w0 _ ?side1 ?side2 A3.out).mono ?_); (case side1 => repeat (first | (with_reducible first | exact HI0.out | apply IsS99.alloc | apply IsS99.drewN | apply IsS99.drew | apply IsS99.set_1 | apply IsS99.set_2) | exact HI0.out)); (case side2 => repeat (first | (with_reducible first | exact HB.out | apply Zf | apply Zd | apply Ze | refine Zg ?_ (IsS99.ge HI0.out)) | exact HB.out)); rintro e w6 ⟨rfl, hi, hb, hk⟩; refine ⟨_, rfl, ?_⟩; replace HK := Zh (KeepBut.trans (by repeat (first | (with_reducible first | exact HK.out | apply KeepBut.set_ | apply keep_drewN | apply keep_drew | apply keep_alloc) | exact HK.out)) hk (.inl rfl)); replace HB := Zh (hb); replace HI0 := Zh (hi); (try clear hb); (try clear hb2); (try clear hk); (try clear hi); have p658 : 0 ≤ (t655 : Int) := Zo; have q658 : t655 < (l1.length : Int) := Zo; obtain ⟨ad658, e658, hx658_0⟩ := Kd.at_string HR1.out t655 p658 q658; cases e658; replace hx658_0 := keep_cell HK.out hx658_0 (by first | (rw [add_block]; exact hf1 _ rfl (by omega)) | exact hf1 _ rfl (by omega) | exact hf1 ad658 rfl (by omega)); replace p658 := eq_true p658; replace q658 := eq_true q658))
   go_ret
   exact ⟨ZE, by repeat (first | (with_reducible first | exact HI0.out | apply IsS99.alloc | apply IsS99.drewN | apply IsS99.drew | apply IsS99.set_1 | apply IsS99.set_2) | exact HI0.out), by repeat (first | (with_reducible first | exact HB.out | apply Zf | apply Zd | apply Ze | refine Zg ?_ (IsS99.ge HI0.out)) | exact HB.out), by repeat (first | (with_reducible first | exact HK.out | apply KeepBut.set_ | apply keep_drewN | apply keep_drew | apply keep_alloc) | exact HK.out)⟩
  rw [if_neg c5] at H
  exact absurd H (by simp)
 rw [if_neg c4] at H
 exact absurd H (by simp)
def spec_l01Size.f (l0 : List Int) (a1 : Int) : Option (Int) := if (wrap64 (2 + (wrap64 ((l0.length : Int) / 16)))) > a1 then (some a1) else (some (wrap64 (2 + (wrap64 ((l0.length : Int) / 16)))))
set_option maxHeartbeats 8000000 in
set_option maxRecDepth 100000 in
theorem spec_l01Size.calls (A0 : Option Addr) (c0 : Nat) (l0 : List Int) (a1 : Int) (r : Int) (w : World) (hr0 : Kd.C (Kd.int .u8) w A0 l0.length l0) (hc0 : l0.length ≤ c0) (h : spec_l01Size.f l0 a1 = some r) :
  Calls Tryd.prog 99 #[.slice A0 l0.length c0, .int .i64 a1] w fun e w' => e = .returned (.int .i64 r) ∧ Drawn0 w w' := by
 have HR0 := Zh hr0
 have HC0 := Zh hc0
 clear hr0 hc0
 have H : (if (wrap64 (2 + (wrap64 ((l0.length : Int) / 16)))) > a1 then (some a1) else (some (wrap64 (2 + (wrap64 ((l0.length : Int) / 16)))))) = some r := h
 clear h
 by_cases c3 : (wrap64 (2 + (wrap64 ((l0.length : Int) / 16)))) > a1
 ·
  rw [if_pos c3] at H
  have c3b0 : decide (a1 < (wrap64 (2 + (wrap64 ((l0.length : Int) / 16))))) = true := decide_eq_true c3
  clear c3
  obtain rfl := Option.some.inj H
  go_enter Tryd.func99, Tryd.ntmps99
  go_wp2
  go_ret
  exact ⟨by first | rfl | (simp; done) | (simp [*]; done), by repeat (first | exact Drawn0.refl _ | apply Drawn0.step)⟩
 rw [if_neg c3] at H
 have c3b0 : decide (a1 < (wrap64 (2 + (wrap64 ((l0.length : Int) / 16))))) = false := decide_eq_false c3
 clear c3
 obtain rfl := Option.some.inj H
 go_enter Tryd.func99, Tryd.ntmps99
 go_wp2
 go_ret
 exact ⟨by first | rfl | (simp; done) | (simp [*]; done), by repeat (first | exact Drawn0.refl _ | apply Drawn0.step)⟩
end Go.Proofs.YtcgojdhbphocgaaDoor.F

namespace Go.Proofs.YtcgojdhbphocgaaDoor.F
open Go.RowKit Go.Proofs.YtcgojdhbphocgaaDoorW.PrintWords Go.Proofs.YtcgojdhbphocgaaDoorW.PrintLast Go.Proofs.YtcgojdhbphocgaaDoorW.PrintMore
open Go.Proofs.YtcgojdhbphocgaaDoor
set_option linter.unusedVariables false
set_option linter.unusedSimpArgs false
def spec_AppendFile.fin (k : Nat) (l0_0 : List S55) (a1 : ByteArray) (d f1 f2 : List Int) : Option (List S55 × Bool) := if (d.length : Int) > wrap64 (wrap64 (20000 - (f1.length : Int)) - (f2.length : Int)) then (spec_l03Copy.f k l0_0).bind fun o => some (o, false) else (spec_l01Join.f k f2 d).bind fun e => (spec_l03Put.f k l0_0 a1 f1 e).bind fun r => some (r, true)
def spec_AppendFile.f (k : Nat) (l0_0 : List S55) (a1 : ByteArray) (d : List Int) : Option (List S55 × Bool) := (spec_l03Find.f k l0_0 a1).bind fun i => (spec_DiskOk.f k l0_0).bind fun t => if t = true then (spec_l01Name.f k a1).bind fun n => if n = true then (if 0 ≤ i then (if i < (l0_0.length : Int) then spec_AppendFile.fin k l0_0 (rd_T55 l0_0 i).f0 d (rd_T55 l0_0 i).f1 (rd_T55 l0_0 i).f2 else none) else (if (l0_0.length : Int) = 8 then (spec_l03Copy.f k l0_0).bind fun o => some (o, false) else spec_AppendFile.fin k l0_0 a1 d [] [])) else (spec_l03Copy.f k l0_0).bind fun o => some (o, false) else (spec_l03Copy.f k l0_0).bind fun o => some (o, false)
set_option maxHeartbeats 8000000 in
set_option maxRecDepth 100000 in
theorem spec_AppendFile.calls (k : Nat) (A0_0 : Option Addr) (c0_0 : Nat) (l0_0 : List (S55)) (a1 : ByteArray) (A2 : Option Addr) (c2 : Nat) (l2 : List Int) (r1 : List (S55)) (r2 : Bool) (w : World) (hr0_0 : Kd.C k55 w A0_0 l0_0.length l0_0) (hc0_0 : l0_0.length ≤ c0_0) (hr2 : Kd.C (Kd.int .u8) w A2 l2.length l2) (hc2 : l2.length ≤ c2) (h : spec_AppendFile.f k l0_0 a1 l2 = some (r1, r2)) :
    Calls Tryd.prog 59 #[.agg #[.slice A0_0 l0_0.length c0_0], .string a1, .slice A2 l2.length c2] w fun e w' => ∃ v0_ : Value, e = .returned (.tuple #[.agg #[v0_], .bool r2]) ∧ Kd.S k55 55 w' w.heap.size (fun _ => True) v0_ r1 ∧ Below w.heap.size w w' := by
  have HR := Zh hr0_0
  have HC := Zh hc0_0
  have HR2 := Zh hr2
  have HC2 := Zh hc2
  clear hr0_0 hc0_0 hr2 hc2
  have ST := Zh (LW.St.start w)
  have hu55 := Tryd.underlying55
  have hu28 := Tryd.underlying28
  unfold spec_AppendFile.f at h
  replace h := Option.bind_eq_some_iff.mp h
  obtain ⟨i, HA1, h⟩ := h
  replace h := Option.bind_eq_some_iff.mp h
  obtain ⟨t, HA2, h⟩ := h
  replace HA1 := Zh HA1
  replace HA2 := Zh HA2
  have H := Zh h
  clear h
  go_enter Tryd.func59, Tryd.ntmps59
  go_wp2_with fail
  replace ST := Zh (ST.out.alloc #[.slice A0_0 l0_0.length c0_0] 28 (g := w.heap.size) rfl)
  replace ST := Zh (ST.out.alloc #[.slice none 0 0] 28 (g := w.heap.size + 1) (by simp))
  replace ST := Zh (ST.out.alloc #[.string a1, .slice none 0 0, .slice none 0 0] 55 (g := w.heap.size + 2) (by simp))
  with_reducible refine (spec_l03Find.calls k _ _ l0_0 a1 i _ (Kd.C_below HR.out ST.out.b) HC.out HA1.out).mono ?_
  rintro e w2 ⟨rfl, hb⟩
  replace ST := Zh (ST.out.step hb)
  clear hb
  have hc1 := ST.out.cell 2 rfl 0 (u := .slice A0_0 l0_0.length c0_0) rfl
  have hl1 := ST.out.lt 2 rfl
  go_wp2_with fail
  with_reducible refine (spec_DiskOk.calls k _ _ l0_0 t _ (Kd.C_below HR.out ST.out.b) HC.out HA2.out).mono ?_
  rintro e w3 ⟨rfl, hb⟩
  replace ST := Zh (ST.out.step hb)
  clear hb hc1 hl1
  have hc1 := ST.out.cell 2 rfl 0 (u := .slice A0_0 l0_0.length c0_0) rfl
  have hl1 := ST.out.lt 2 rfl
  have h := H.out
  clear H
  by_cases ct : t = true
  · subst ct
    rw [if_pos rfl] at h
    replace h := Option.bind_eq_some_iff.mp h
    obtain ⟨n, HA3, h⟩ := h
    replace HA3 := Zh HA3
    have H := Zh h
    clear h
    go_wp2_with fail
    with_reducible refine (spec_l01Name.calls k a1 n _ HA3.out).mono ?_
    rintro e w4 ⟨rfl, nd, rfl⟩
    replace ST := Zh (ST.out.step (Zd (Below.refl _ _) nd))
    generalize w3.drewN nd = w4 at ST ⊢
    clear hc1 hl1
    have hc1 := ST.out.cell 2 rfl 0 (u := .slice A0_0 l0_0.length c0_0) rfl
    have hl1 := ST.out.lt 2 rfl
    have h := H.out
    clear H
    by_cases cn : n = true
    · subst cn
      rw [if_pos rfl] at h
      by_cases ci : 0 ≤ i
      · rw [if_pos ci] at h
        have cib : decide (0 ≤ i) = true := decide_eq_true ci
        by_cases cl : i < (l0_0.length : Int)
        · rw [if_pos cl] at h
          obtain ⟨ad, B1, d1, B2, d2, e0, hx0, hx1, hx2, hl1', hi1, hl2', hi2⟩ := at_T55 HR.out i ci cl
          cases e0
          have HI1 := Zh hi1
          have HI2 := Zh hi2
          have HL1 := Zh hl1'
          have HL2 := Zh hl2'
          clear hi1 hi2 hl1' hl2'
          replace hx0 := (ST.out.b.cell (Zi w _ hx0)).trans hx0
          replace hx1 := (ST.out.b.cell (Zi w _ hx1)).trans hx1
          replace hx2 := (ST.out.b.cell (Zi w _ hx2)).trans hx2
          have p0 := eq_true ci
          have p1 := eq_true cl
          have hd0 := ST.out.cell 0 rfl 0 (u := .string a1) rfl
          have hd1 := ST.out.cell 0 rfl 1 (u := .slice none 0 0) rfl
          have hd2 := ST.out.cell 0 rfl 2 (u := .slice none 0 0) rfl
          have hdl := ST.out.lt 0 rfl
          have hf0 := ST.out.frozen 0 rfl 0
          have hf1 := ST.out.frozen 0 rfl 1
          have hf2 := ST.out.frozen 0 rfl 2
          have hne := ST.out.ne 0 2 (by decide) rfl rfl
          have hne' := hne.symm
          clear ci cl
          go_upto_region 9 with (fail)
          replace ST := Zh (ST.out.set 0 rfl 0 (.string (rd_T55 l0_0 i).f0))
          replace ST := Zh (ST.out.set 0 rfl 1 (.slice B1 (rd_T55 l0_0 i).f1.length d1))
          replace ST := Zh (ST.out.set 0 rfl 2 (.slice B2 (rd_T55 l0_0 i).f2.length d2))
          clear hx0 hx1 hx2 p0 p1 hd0 hd1 hd2 hdl hf0 hf1 hf2 hne hne' hc1 hl1
          generalize (((w4.setCell ⟨w.heap.size + 2, 0, none⟩ (.string (rd_T55 l0_0 i).f0)).setCell ⟨w.heap.size + 2, 1, none⟩ (.slice B1 (rd_T55 l0_0 i).f1.length d1)).setCell ⟨w.heap.size + 2, 2, none⟩ (.slice B2 (rd_T55 l0_0 i).f2.length d2)) = w5 at ST ⊢
          unfold spec_AppendFile.fin at h
          have hc1 := ST.out.cell 2 rfl 0 (u := .slice (some ad) l0_0.length c0_0) rfl
          have hl1 := ST.out.lt 2 rfl
          have hg1 := ST.out.cell 0 rfl 1 (u := .slice B1 ((rd_T55 l0_0 i).f1).length d1) rfl
          have hg2 := ST.out.cell 0 rfl 2 (u := .slice B2 ((rd_T55 l0_0 i).f2).length d2) rfl
          have hgl := ST.out.lt 0 rfl
          by_cases cg : (l2.length : Int) > wrap64 (wrap64 (20000 - (((rd_T55 l0_0 i).f1).length : Int)) - (((rd_T55 l0_0 i).f2).length : Int))
          · rw [if_pos cg] at h
            have cgb : decide (wrap64 (wrap64 (20000 - (((rd_T55 l0_0 i).f1).length : Int)) - (((rd_T55 l0_0 i).f2).length : Int)) < (l2.length : Int)) = true := decide_eq_true cg
            clear cg
            replace h := Option.bind_eq_some_iff.mp h
            obtain ⟨o, HAo, h⟩ := h
            obtain ⟨rfl, rfl⟩ := Prod.mk.inj (Option.some.inj h)
            clear h
            replace HAo := Zh HAo
            go_wp2_with fail
            with_reducible refine (spec_l03Copy.calls k _ _ l0_0 o _ (Kd.C_below HR.out ST.out.b) HC.out HAo.out).mono ?_
            rintro e w9 ⟨v9, rfl, ho, hb⟩
            obtain ⟨A9, c9, rfl⟩ := Kd.S_slice ho
            replace ST := Zh (ST.out.row hb ho)
            clear hb ho hc1 hl1
            have hc2 := ST.out.cell 2 rfl 0 (u := .slice none 0 0) rfl
            have hl2 := ST.out.lt 2 rfl
            have hf2 := ST.out.frozen 2 rfl 0
            go_wp2
            replace ST := Zh (ST.out.set 2 rfl 0 (.slice A9 o.length c9))
            refine Zq (results_ct rfl _ _ (w.heap.size + 1) 28 #[.slice A9 o.length c9] (0, 0) _ rfl (ST.out.blk 2 rfl) Tryd.underlying28 rfl (by kernel_rfl)) rfl ?_
            exact ⟨_, rfl, Kd.S_mono (ST.out.own 0 rfl) (fun _ _ => trivial), ST.out.b⟩
          rw [if_neg cg] at h
          have cgb : decide (wrap64 (wrap64 (20000 - (((rd_T55 l0_0 i).f1).length : Int)) - (((rd_T55 l0_0 i).f2).length : Int)) < (l2.length : Int)) = false := decide_eq_false cg
          clear cg
          replace h := Option.bind_eq_some_iff.mp h
          obtain ⟨e, HB1, h⟩ := h
          replace h := Option.bind_eq_some_iff.mp h
          obtain ⟨r, HB2, h⟩ := h
          obtain ⟨rfl, rfl⟩ := Prod.mk.inj (Option.some.inj h)
          clear h
          replace HB1 := Zh HB1
          replace HB2 := Zh HB2
          go_wp2_with fail
          refine (spec_l01Join.calls k _ _ ((rd_T55 l0_0 i).f2) _ _ l2 e _ (Kd.C_below HI2.out ST.out.b) HL2.out (Kd.C_below HR2.out ST.out.b) HC2.out HB1.out).mono ?_
          rintro e_ w6 ⟨v6, rfl, ho, hb⟩
          obtain ⟨A6, c6, rfl⟩ := Kd.R_slice ho
          replace ST := Zh (ST.out.rowR rfl hb ho)
          clear hb ho hc1 hl1 hg1 hg2 hgl
          have hc1 := ST.out.cell 3 rfl 0 (u := .slice (some ad) l0_0.length c0_0) rfl
          have hl1 := ST.out.lt 3 rfl
          have hg0 := ST.out.cell 1 rfl 0 (u := .string (rd_T55 l0_0 i).f0) rfl
          have hg1 := ST.out.cell 1 rfl 1 (u := .slice B1 ((rd_T55 l0_0 i).f1).length d1) rfl
          have hg2 := ST.out.cell 1 rfl 2 (u := .slice B2 ((rd_T55 l0_0 i).f2).length d2) rfl
          have hgl := ST.out.lt 1 rfl
          have hgf := ST.out.frozen 1 rfl 2
          have hne := ST.out.ne 1 3 (by decide) rfl rfl
          have hne' := hne.symm
          go_wp2_with fail
          replace ST := Zh (ST.out.set 1 rfl 2 (.slice A6 e.length c6))
          generalize hW : w6.setCell ⟨w.heap.size + 2, 2, none⟩ (.slice A6 e.length c6) = w7 at ST ⊢
          clear hW hc1 hl1 hg0 hg1 hg2 hgl hgf hne hne'
          refine (spec_l03Put.calls k _ _ l0_0 (rd_T55 l0_0 i).f0 _ _ ((rd_T55 l0_0 i).f1) _ _ e r _ (Kd.C_below HR.out ST.out.b) HC.out (Kd.C_below HI1.out ST.out.b) HL1.out (ST.out.reads 0 rfl).2.2 (ST.out.reads 0 rfl).2.1 HB2.out).mono ?_
          rintro e_ w8 ⟨v8, rfl, ho, hb⟩
          obtain ⟨A8, c8, rfl⟩ := Kd.S_slice ho
          replace ST := Zh (ST.out.row hb ho)
          clear hb ho
          have hc2 := ST.out.cell 3 rfl 0 (u := .slice none 0 0) rfl
          have hl2 := ST.out.lt 3 rfl
          have hf2 := ST.out.frozen 3 rfl 0
          go_wp2
          replace ST := Zh (ST.out.set 3 rfl 0 (.slice A8 r.length c8))
          refine Zq (results_ct rfl _ _ (w.heap.size + 1) 28 #[.slice A8 r.length c8] (0, 0) _ rfl (ST.out.blk 3 rfl) Tryd.underlying28 rfl (by kernel_rfl)) rfl ?_
          exact ⟨_, rfl, Kd.S_mono (ST.out.own 0 rfl) (fun _ _ => trivial), ST.out.b⟩
        rw [if_neg cl] at h; exact absurd h (by simp)
      rw [if_neg ci] at h
      have cib : decide (0 ≤ i) = false := decide_eq_false ci
      by_cases c8 : (l0_0.length : Int) = 8
      · rw [if_pos c8] at h
        have c8b : ((l0_0.length : Int) == 8) = true := beq_iff_eq.mpr c8
        clear c8
        replace h := Option.bind_eq_some_iff.mp h
        obtain ⟨o, HAo, h⟩ := h
        obtain ⟨rfl, rfl⟩ := Prod.mk.inj (Option.some.inj h)
        clear h
        replace HAo := Zh HAo
        go_wp2_with fail
        with_reducible refine (spec_l03Copy.calls k _ _ l0_0 o _ (Kd.C_below HR.out ST.out.b) HC.out HAo.out).mono ?_
        rintro e w9 ⟨v9, rfl, ho, hb⟩
        obtain ⟨A9, c9, rfl⟩ := Kd.S_slice ho
        replace ST := Zh (ST.out.row hb ho)
        clear hb ho hc1 hl1
        have hc2 := ST.out.cell 2 rfl 0 (u := .slice none 0 0) rfl
        have hl2 := ST.out.lt 2 rfl
        have hf2 := ST.out.frozen 2 rfl 0
        go_wp2
        replace ST := Zh (ST.out.set 2 rfl 0 (.slice A9 o.length c9))
        refine Zq (results_ct rfl _ _ (w.heap.size + 1) 28 #[.slice A9 o.length c9] (0, 0) _ rfl (ST.out.blk 2 rfl) Tryd.underlying28 rfl (by kernel_rfl)) rfl ?_
        exact ⟨_, rfl, Kd.S_mono (ST.out.own 0 rfl) (fun _ _ => trivial), ST.out.b⟩
      rw [if_neg c8] at h
      have c8b : ((l0_0.length : Int) == 8) = false := beq_eq_false_iff_ne.mpr c8
      clear c8
      have HI1 := Zh (Kd.C_nil (Kd.int .u8) w)
      have HI2 := HI1
      have HL1 := Zh (show ([] : List Int).length ≤ 0 from Nat.le_refl _)
      have HL2 := HL1
      unfold spec_AppendFile.fin at h
      have hc1 := ST.out.cell 2 rfl 0 (u := .slice A0_0 l0_0.length c0_0) rfl
      have hl1 := ST.out.lt 2 rfl
      have hg1 := ST.out.cell 0 rfl 1 (u := .slice none (([] : List Int)).length 0) rfl
      have hg2 := ST.out.cell 0 rfl 2 (u := .slice none (([] : List Int)).length 0) rfl
      have hgl := ST.out.lt 0 rfl
      by_cases cg : (l2.length : Int) > wrap64 (wrap64 (20000 - ((([] : List Int)).length : Int)) - ((([] : List Int)).length : Int))
      · rw [if_pos cg] at h
        have cgb : decide (wrap64 (wrap64 (20000 - ((([] : List Int)).length : Int)) - ((([] : List Int)).length : Int)) < (l2.length : Int)) = true := decide_eq_true cg
        have cgp : (20000 : Int) < (l2.length : Int) := by simpa [wrap64] using cg
        have cgq := eq_true cgp
        clear cg
        replace h := Option.bind_eq_some_iff.mp h
        obtain ⟨o, HAo, h⟩ := h
        obtain ⟨rfl, rfl⟩ := Prod.mk.inj (Option.some.inj h)
        clear h
        replace HAo := Zh HAo
        go_wp2_with fail
        with_reducible refine (spec_l03Copy.calls k _ _ l0_0 o _ (Kd.C_below HR.out ST.out.b) HC.out HAo.out).mono ?_
        rintro e w9 ⟨v9, rfl, ho, hb⟩
        obtain ⟨A9, c9, rfl⟩ := Kd.S_slice ho
        replace ST := Zh (ST.out.row hb ho)
        clear hb ho hc1 hl1
        have hc2 := ST.out.cell 2 rfl 0 (u := .slice none 0 0) rfl
        have hl2 := ST.out.lt 2 rfl
        have hf2 := ST.out.frozen 2 rfl 0
        go_wp2
        replace ST := Zh (ST.out.set 2 rfl 0 (.slice A9 o.length c9))
        refine Zq (results_ct rfl _ _ (w.heap.size + 1) 28 #[.slice A9 o.length c9] (0, 0) _ rfl (ST.out.blk 2 rfl) Tryd.underlying28 rfl (by kernel_rfl)) rfl ?_
        exact ⟨_, rfl, Kd.S_mono (ST.out.own 0 rfl) (fun _ _ => trivial), ST.out.b⟩
      rw [if_neg cg] at h
      have cgb : decide (wrap64 (wrap64 (20000 - ((([] : List Int)).length : Int)) - ((([] : List Int)).length : Int)) < (l2.length : Int)) = false := decide_eq_false cg
      have cgp : ¬ (20000 : Int) < (l2.length : Int) := by simpa [wrap64] using cg
      have cgr : (l2.length : Int) ≤ 20000 := by omega
      clear cg
      replace h := Option.bind_eq_some_iff.mp h
      obtain ⟨e, HB1, h⟩ := h
      replace h := Option.bind_eq_some_iff.mp h
      obtain ⟨r, HB2, h⟩ := h
      obtain ⟨rfl, rfl⟩ := Prod.mk.inj (Option.some.inj h)
      clear h
      replace HB1 := Zh HB1
      replace HB2 := Zh HB2
      go_wp2_with fail
      refine (spec_l01Join.calls k _ _ (([] : List Int)) _ _ l2 e _ (Kd.C_below HI2.out ST.out.b) HL2.out (Kd.C_below HR2.out ST.out.b) HC2.out HB1.out).mono ?_
      rintro e_ w6 ⟨v6, rfl, ho, hb⟩
      obtain ⟨A6, c6, rfl⟩ := Kd.R_slice ho
      replace ST := Zh (ST.out.rowR rfl hb ho)
      clear hb ho hc1 hl1 hg1 hg2 hgl
      have hc1 := ST.out.cell 3 rfl 0 (u := .slice A0_0 l0_0.length c0_0) rfl
      have hl1 := ST.out.lt 3 rfl
      have hg0 := ST.out.cell 1 rfl 0 (u := .string a1) rfl
      have hg1 := ST.out.cell 1 rfl 1 (u := .slice none (([] : List Int)).length 0) rfl
      have hg2 := ST.out.cell 1 rfl 2 (u := .slice none (([] : List Int)).length 0) rfl
      have hgl := ST.out.lt 1 rfl
      have hgf := ST.out.frozen 1 rfl 2
      have hne := ST.out.ne 1 3 (by decide) rfl rfl
      have hne' := hne.symm
      go_wp2_with fail
      replace ST := Zh (ST.out.set 1 rfl 2 (.slice A6 e.length c6))
      generalize hW : w6.setCell ⟨w.heap.size + 2, 2, none⟩ (.slice A6 e.length c6) = w7 at ST ⊢
      clear hW hc1 hl1 hg0 hg1 hg2 hgl hgf hne hne'
      refine (spec_l03Put.calls k _ _ l0_0 a1 _ _ (([] : List Int)) _ _ e r _ (Kd.C_below HR.out ST.out.b) HC.out (Kd.C_below HI1.out ST.out.b) HL1.out (ST.out.reads 0 rfl).2.2 (ST.out.reads 0 rfl).2.1 HB2.out).mono ?_
      rintro e_ w8 ⟨v8, rfl, ho, hb⟩
      obtain ⟨A8, c8, rfl⟩ := Kd.S_slice ho
      replace ST := Zh (ST.out.row hb ho)
      clear hb ho
      have hc2 := ST.out.cell 3 rfl 0 (u := .slice none 0 0) rfl
      have hl2 := ST.out.lt 3 rfl
      have hf2 := ST.out.frozen 3 rfl 0
      go_wp2
      replace ST := Zh (ST.out.set 3 rfl 0 (.slice A8 r.length c8))
      refine Zq (results_ct rfl _ _ (w.heap.size + 1) 28 #[.slice A8 r.length c8] (0, 0) _ rfl (ST.out.blk 3 rfl) Tryd.underlying28 rfl (by kernel_rfl)) rfl ?_
      exact ⟨_, rfl, Kd.S_mono (ST.out.own 0 rfl) (fun _ _ => trivial), ST.out.b⟩
    rw [if_neg cn] at h
    obtain rfl : n = false := by simpa using cn
    clear cn
    replace h := Option.bind_eq_some_iff.mp h
    obtain ⟨o, HAo, h⟩ := h
    obtain ⟨rfl, rfl⟩ := Prod.mk.inj (Option.some.inj h)
    clear h
    replace HAo := Zh HAo
    go_wp2_with fail
    with_reducible refine (spec_l03Copy.calls k _ _ l0_0 o _ (Kd.C_below HR.out ST.out.b) HC.out HAo.out).mono ?_
    rintro e w9 ⟨v9, rfl, ho, hb⟩
    obtain ⟨A9, c9, rfl⟩ := Kd.S_slice ho
    replace ST := Zh (ST.out.row hb ho)
    clear hb ho hc1 hl1
    have hc2 := ST.out.cell 2 rfl 0 (u := .slice none 0 0) rfl
    have hl2 := ST.out.lt 2 rfl
    have hf2 := ST.out.frozen 2 rfl 0
    go_wp2
    replace ST := Zh (ST.out.set 2 rfl 0 (.slice A9 o.length c9))
    refine Zq (results_ct rfl _ _ (w.heap.size + 1) 28 #[.slice A9 o.length c9] (0, 0) _ rfl (ST.out.blk 2 rfl) Tryd.underlying28 rfl (by kernel_rfl)) rfl ?_
    exact ⟨_, rfl, Kd.S_mono (ST.out.own 0 rfl) (fun _ _ => trivial), ST.out.b⟩
  rw [if_neg ct] at h
  obtain rfl : t = false := by simpa using ct
  clear ct
  replace h := Option.bind_eq_some_iff.mp h
  obtain ⟨o, HAo, h⟩ := h
  obtain ⟨rfl, rfl⟩ := Prod.mk.inj (Option.some.inj h)
  clear h
  replace HAo := Zh HAo
  go_wp2_with fail
  with_reducible refine (spec_l03Copy.calls k _ _ l0_0 o _ (Kd.C_below HR.out ST.out.b) HC.out HAo.out).mono ?_
  rintro e w9 ⟨v9, rfl, ho, hb⟩
  obtain ⟨A9, c9, rfl⟩ := Kd.S_slice ho
  replace ST := Zh (ST.out.row hb ho)
  clear hb ho hc1 hl1
  have hc2 := ST.out.cell 2 rfl 0 (u := .slice none 0 0) rfl
  have hl2 := ST.out.lt 2 rfl
  have hf2 := ST.out.frozen 2 rfl 0
  go_wp2
  replace ST := Zh (ST.out.set 2 rfl 0 (.slice A9 o.length c9))
  refine Zq (results_ct rfl _ _ (w.heap.size + 1) 28 #[.slice A9 o.length c9] (0, 0) _ rfl (ST.out.blk 2 rfl) Tryd.underlying28 rfl (by kernel_rfl)) rfl ?_
  exact ⟨_, rfl, Kd.S_mono (ST.out.own 0 rfl) (fun _ _ => trivial), ST.out.b⟩
end Go.Proofs.YtcgojdhbphocgaaDoor.F

namespace Go.Proofs.YtcgojdhbphocgaaDoor.F
open Go.RowKit Go.Proofs.YtcgojdhbphocgaaDoorW.PrintWords Go.Proofs.YtcgojdhbphocgaaDoorW.PrintWords.Kd Go.Proofs.YtcgojdhbphocgaaDoorW.PrintMore.Kd Go.Proofs.YtcgojdhbphocgaaDoorW.PrintLast Go.Proofs.YtcgojdhbphocgaaDoorW.PrintMore
attribute [local go_sem] max2_int min2_int max_two min_two max_three min_three max_four min_four   -- for this text's walks alone
set_option linter.unusedVariables false
set_option linter.unusedSimpArgs false
def spec_l02Four.f (a0 : Int) : Option (List Int) := some (([(Int.tmod a0 256) % 256, ((Int.tdiv a0 256) % 4294967296) % 256, ((Int.tdiv a0 65536) % 4294967296) % 256, ((Int.tdiv a0 16777216) % 4294967296) % 256] : List Int))
set_option maxHeartbeats 8000000 in
set_option maxRecDepth 100000 in
theorem spec_l02Four.calls (a0 : Int) (r : List Int) (w : World) (h : spec_l02Four.f a0 = some r) :
  Calls Tryd.prog 88 #[.int .u32 a0] w fun e w' => ∃ v0_ : Value, e = .returned (v0_) ∧ Kd.R (Kd.int .u8) 5 w' w.heap.size (fun _ => True) v0_ r ∧ Below w.heap.size w w' := by
 have HB := Zh (Below.refl w.heap.size w)
 have H : (some (([(Int.tmod a0 256) % 256, ((Int.tdiv a0 256) % 4294967296) % 256, ((Int.tdiv a0 65536) % 4294967296) % 256, ((Int.tdiv a0 16777216) % 4294967296) % 256] : List Int))) = some r := h
 clear h
 obtain ⟨y287, hy287⟩ : ∃ y_ : List Int, y_ = (([(Int.tmod a0 256) % 256, ((Int.tdiv a0 256) % 4294967296) % 256, ((Int.tdiv a0 65536) % 4294967296) % 256, ((Int.tdiv a0 16777216) % 4294967296) % 256] : List Int)) := ⟨_, rfl⟩
 replace H : (some y287) = some r := by first | (rw [hy287]; with_reducible exact H) | (have H2_ := (Option.bind_some _ _).symm.trans H; rw [hy287]; with_reducible exact H2_) | (have H2_ := (Option.bind_some _ _).symm.trans H; with_reducible exact H2_) | with_reducible exact H | (rw [hy287]; exact H) | exact H
 have Ny287 := Zh hy287
 clear hy287
 obtain rfl := Option.some.inj H
 go_enter Tryd.func88, Tryd.ntmps88
 go_wp2_with (first | ((with_reducible refine gate_dst (N := 17) rfl ?_); refine R_lit (Kd.int .u8) _ 5 ?hg (N := 17) ?hd (xs := ([(Int.tmod a0 256) % 256, ((Int.tdiv a0 256) % 4294967296) % 256, ((Int.tdiv a0 65536) % 4294967296) % 256, ((Int.tdiv a0 16777216) % 4294967296) % 256] : List Int)) (inner := [.int .u8 ((Int.tmod a0 256) % 256), .int .u8 (((Int.tdiv a0 256) % 4294967296) % 256), .int .u8 (((Int.tdiv a0 65536) % 4294967296) % 256), .int .u8 (((Int.tdiv a0 16777216) % 4294967296) % 256)]) (ok := fun _ => True) (okp := fun _ => True) ?hr ?hp (fun _ hk => hk) trivial (Below.refl _ _) (Nat.le_refl _) (by simp) ?_; (case hd => rfl); (case hg => rfl); (case hr => first | (go_simp; done) | (go_simp; rfl)); (case hp => exact (Reps.one (show Kd.M (Kd.int .u8) _ _ _ ((Int.tmod a0 256) % 256) [.int .u8 ((Int.tmod a0 256) % 256)] from rfl) (Reps.one (show Kd.M (Kd.int .u8) _ _ _ (((Int.tdiv a0 256) % 4294967296) % 256) [.int .u8 (((Int.tdiv a0 256) % 4294967296) % 256)] from rfl) (Reps.one (show Kd.M (Kd.int .u8) _ _ _ (((Int.tdiv a0 65536) % 4294967296) % 256) [.int .u8 (((Int.tdiv a0 65536) % 4294967296) % 256)] from rfl) (Reps.one (show Kd.M (Kd.int .u8) _ _ _ (((Int.tdiv a0 16777216) % 4294967296) % 256) [.int .u8 (((Int.tdiv a0 16777216) % 4294967296) % 256)] from rfl) (Reps.none _ _)))))); intro v288 w2 ho3 hb hg_ hnew_; clear hg_ hnew_; (first | rw [← Ny287.out] at ho3 | (simp only [Int.reduceToNat] at ho3; rw [← Ny287.out] at ho3)); have HO289 := Zh (R_lower ho3 (below_size Zs)); replace HB := Zh (Zl Zs hb); clear hb ho3))
 go_ret
 exact ⟨_, ZE, ZR HO289.out, Zs⟩
mutual
def spec_Crc32.l0 : Nat → List Int → Int → Int → Option (Int)
 | 0, _, _, _ => none
 | k + 1, x0, x3, x4 => if x4 < (x0.length : Int) then (if 0 ≤ x4 then (spec_Crc32.l1 k x0 (Go.bits .xor .u32 x3 ((rd x0 x4) % 4294967296)) x4 0) else (none)) else (some (Go.bits .xor .u32 x3 4294967295))
def spec_Crc32.l1 : Nat → List Int → Int → Int → Int → Option (Int)
 | 0, _, _, _, _ => none
 | k + 1, x0, x3, x4, x5 => if x5 < 8 then (if (Int.tmod x3 2) = 1 then (spec_Crc32.l1 k x0 (Go.bits .xor .u32 ((Int.tdiv x3 2) % 4294967296) 3988292384) x4 (wrap64 (x5 + 1))) else (spec_Crc32.l1 k x0 ((Int.tdiv x3 2) % 4294967296) x4 (wrap64 (x5 + 1)))) else (spec_Crc32.l0 k x0 x3 (wrap64 (x4 + 1)))
end
def spec_Crc32.f (k : Nat) (l0 : List Int) : Option (Int) := if (l0.length : Int) > 20000 then (some 0) else (spec_Crc32.l0 k l0 4294967295 0)
set_option maxHeartbeats 8000000 in
set_option maxRecDepth 100000 in
theorem spec_Crc32.calls (k : Nat) (A0 : Option Addr) (c0 : Nat) (l0 : List Int) (r : Int) (w : World) (hr0 : Kd.C (Kd.int .u8) w A0 l0.length l0) (hc0 : l0.length ≤ c0) (h : spec_Crc32.f k l0 = some r) :
  Calls Tryd.prog 89 #[.slice A0 l0.length c0] w fun e w' => e = .returned (.int .u32 r) ∧ Drawn0 w w' := by
 have HR0 := Zh hr0
 have HC0 := Zh hc0
 clear hr0 hc0
 have H : (if (l0.length : Int) > 20000 then (some 0) else (spec_Crc32.l0 k l0 4294967295 0)) = some r := h
 clear h
 by_cases c2 : (l0.length : Int) > 20000
 ·
  rw [if_pos c2] at H
  have c2b0 : decide (20000 < (l0.length : Int)) = true := decide_eq_true c2
  have c2b1 : decide (20000 < l0.length) = true := decide_eq_true (by omega)
  clear c2
  obtain rfl := Option.some.inj H
  go_enter Tryd.func89, Tryd.ntmps89
  go_wp2
  go_ret
  exact ⟨by first | rfl | (simp; done) | (simp [*]; done), by repeat (first | exact Drawn0.refl _ | apply Drawn0.step)⟩
 rw [if_neg c2] at H
 have c2b0 : decide (20000 < (l0.length : Int)) = false := decide_eq_false c2
 have c2b1 : decide (20000 < l0.length) = false := decide_eq_false (by omega)
 clear c2
 have H' := Zh H
 clear H
 go_enter Tryd.func89, Tryd.ntmps89
 go_wp2
 go_loopg [3, 4] k (fun kq v3 v4 w' => ∃ (x3_1 : Int) (x4_1 : Int), v3 = .int .u32 x3_1 ∧ v4 = .int .i64 x4_1 ∧ Aside0 (spec_Crc32.l0 kq l0 x3_1 x4_1 = some r) ∧ Aside0 (kq ≤ k) ∧ Drawn0 w w')
 case atStart => exact ⟨(4294967295), (0), (by first | rfl | (simp; done) | (simp [*]; done)), (by first | rfl | (simp; done) | (simp [*]; done)), H', ⟨Nat.le_refl _⟩, by repeat (first | exact Drawn0.refl _ | apply Drawn0.step)⟩
 case round =>
  clear H'
  try clear c2
  try clear c2b0
  try clear c2b1
  try clear p2
  obtain ⟨x3_1, x4_1, rfl, rfl, HA, HK1, ⟨m1, rfl⟩⟩ := hrel
  cases gk with
  | zero => exact absurd HA.out (by simp [spec_Crc32.l0])
  | succ k1 =>
   have H := HA.out
   clear HA
   simp only [spec_Crc32.l0] at H
   by_cases c3 : x4_1 < (l0.length : Int)
   ·
    rw [if_pos c3] at H
    have c3b0 : decide (x4_1 < (l0.length : Int)) = true := decide_eq_true c3
    clear c3
    by_cases c4 : 0 ≤ x4_1
    ·
     rw [if_pos c4] at H
     have c4b0 : decide (0 ≤ x4_1) = true := decide_eq_true c4
     clear c4
     have H' := Zh H
     clear H
     have p290 : 0 ≤ (x4_1 : Int) := Zo
     have q290 : x4_1 < (l0.length : Int) := Zo
     obtain ⟨ad290, e290, hx290_0⟩ := Kd.at_int HR0.out x4_1 p290 q290
     cases e290
     replace p290 := eq_true p290
     replace q290 := eq_true q290
     go_wp2
     go_loopg [3, 5] k1 (fun kq v3 v5 w' => ∃ (x3_2 : Int) (x5_2 : Int), v3 = .int .u32 x3_2 ∧ v5 = .int .i64 x5_2 ∧ Aside0 (spec_Crc32.l1 kq l0 x3_2 x4_1 x5_2 = some r) ∧ Aside0 (kq ≤ k1) ∧ Drawn0 w w')
     case atStart => exact ⟨(Go.bits .xor .u32 x3_1 ((rd l0 x4_1) % 4294967296)), (0), (by first | rfl | (simp; done) | (simp [*]; done)), (by first | rfl | (simp; done) | (simp [*]; done)), H', ⟨Nat.le_refl _⟩, by repeat (first | exact Drawn0.refl _ | apply Drawn0.step)⟩
     case round =>
      clear H'
      try clear c2
      try clear c2b0
      try clear c2b1
      try clear p2
      try clear q2
      try clear hx2
      try clear c3
      try clear c3b0
      try clear c4
      try clear c4b0
      try clear hx290_0
      try clear p2
      try clear p290
      try clear q290
      obtain ⟨x3_2, x5_2, rfl, rfl, HA, HK2, ⟨m2, rfl⟩⟩ := hrel
      cases gk with
      | zero => exact absurd HA.out (by simp [spec_Crc32.l1])
      | succ k2 =>
       have H := HA.out
       clear HA
       simp only [spec_Crc32.l1] at H
       by_cases c5 : x5_2 < 8
       ·
        rw [if_pos c5] at H
        have c5b0 : decide (x5_2 < 8) = true := decide_eq_true c5
        clear c5
        by_cases c6 : (Int.tmod x3_2 2) = 1
        ·
         rw [if_pos c6] at H
         have c6b0 : ((Int.tmod x3_2 2) == 1) = true := beq_iff_eq.mpr c6
         have c6b1 : ((Int.tmod x3_2 2) != 1) = false := bne_eq_false_iff_eq.mpr c6
         clear c6
         have H' := Zh H
         clear H
         go_wp2
         go_roundg k2
         case measure => have := HK1.out; have := HK2.out; omega
         case rel => exact ⟨(Go.bits .xor .u32 ((Int.tdiv x3_2 2) % 4294967296) 3988292384), (wrap64 (x5_2 + 1)), (by first | rfl | (simp; done) | (simp [*]; done)), (by first | rfl | (simp; done) | (simp [*]; done)), H', ⟨by have := HK1.out; have := HK2.out; omega⟩, by repeat (first | exact Drawn0.refl _ | apply Drawn0.step)⟩
        rw [if_neg c6] at H
        have c6b0 : ((Int.tmod x3_2 2) == 1) = false := beq_eq_false_iff_ne.mpr c6
        have c6b1 : ((Int.tmod x3_2 2) != 1) = true := bne_iff_ne.mpr c6
        have H' := Zh H
        clear H
        go_wp2
        go_roundg k2
        case measure => have := HK1.out; have := HK2.out; omega
        case rel => exact ⟨((Int.tdiv x3_2 2) % 4294967296), (wrap64 (x5_2 + 1)), (by first | rfl | (simp; done) | (simp [*]; done)), (by first | rfl | (simp; done) | (simp [*]; done)), H', ⟨by have := HK1.out; have := HK2.out; omega⟩, by repeat (first | exact Drawn0.refl _ | apply Drawn0.step)⟩
       rw [if_neg c5] at H
       have c5b0 : decide (x5_2 < 8) = false := decide_eq_false c5
       clear c5
       have H' := Zh H
       clear H
       go_wp2
       go_roundg k2
       case measure => have := HK1.out; have := HK2.out; omega
       case rel => exact ⟨(x3_2), (wrap64 (x4_1 + 1)), (by first | rfl | (simp; done) | (simp [*]; done)), (by first | rfl | (simp; done) | (simp [*]; done)), H', ⟨by have := HK1.out; have := HK2.out; omega⟩, by repeat (first | exact Drawn0.refl _ | apply Drawn0.step)⟩
    rw [if_neg c4] at H
    exact absurd H (by simp)
   rw [if_neg c3] at H
   have c3b0 : decide (x4_1 < (l0.length : Int)) = false := decide_eq_false c3
   clear c3
   obtain rfl := Option.some.inj H
   go_wp2
   go_ret
   exact ⟨by first | rfl | (simp; done) | (simp [*]; done), by repeat (first | exact Drawn0.refl _ | apply Drawn0.step)⟩
def spec_Frame.f (k : Nat) (l0 : List Int) : Option (List Int) := (spec_l01In.f (l0.length : Int) 1 600).bind fun t291 => (if t291 = true then ((spec_l02Four.f (((l0.length : Int)) % 4294967296)).bind fun t292 => ((spec_Crc32.f k l0).bind fun t295 => ((spec_l02Four.f t295).bind fun t296 => ((spec_l01Join.f k t292 t296).bind fun t299 => ((spec_l01Join.f k t299 l0).bind fun t302 => (some t302)))))) else (some ([] : List Int)))
set_option maxHeartbeats 8000000 in
set_option maxRecDepth 100000 in
theorem spec_Frame.calls (k : Nat) (A0 : Option Addr) (c0 : Nat) (l0 : List Int) (r : List Int) (w : World) (hr0 : Kd.C (Kd.int .u8) w A0 l0.length l0) (hc0 : l0.length ≤ c0) (h : spec_Frame.f k l0 = some r) :
  Calls Tryd.prog 58 #[.slice A0 l0.length c0] w fun e w' => ∃ v0_ : Value, e = .returned (v0_) ∧ Kd.R (Kd.int .u8) 5 w' w.heap.size (fun _ => True) v0_ r ∧ Below w.heap.size w w' := by
 have HR0 := Zh hr0
 have HC0 := Zh hc0
 clear hr0 hc0
 have HB := Zh (Below.refl w.heap.size w)
 have H : ((spec_l01In.f (l0.length : Int) 1 600).bind fun t291 => (if t291 = true then ((spec_l02Four.f (((l0.length : Int)) % 4294967296)).bind fun t292 => ((spec_Crc32.f k l0).bind fun t295 => ((spec_l02Four.f t295).bind fun t296 => ((spec_l01Join.f k t292 t296).bind fun t299 => ((spec_l01Join.f k t299 l0).bind fun t302 => (some t302)))))) else (some ([] : List Int)))) = some r := h
 clear h
 replace H := Option.bind_eq_some_iff.mp H
 obtain ⟨t291, A20, H⟩ := H
 replace H : (if t291 = true then ((spec_l02Four.f (((l0.length : Int)) % 4294967296)).bind fun t292 => ((spec_Crc32.f k l0).bind fun t295 => ((spec_l02Four.f t295).bind fun t296 => ((spec_l01Join.f k t292 t296).bind fun t299 => ((spec_l01Join.f k t299 l0).bind fun t302 => (some t302)))))) else (some ([] : List Int))) = some r := H
 have A2 := Zh A20
 clear A20
 by_cases c3 : t291 = true
 ·
  subst c3
  have H1 : ((spec_l02Four.f (((l0.length : Int)) % 4294967296)).bind fun t292 => ((spec_Crc32.f k l0).bind fun t295 => ((spec_l02Four.f t295).bind fun t296 => ((spec_l01Join.f k t292 t296).bind fun t299 => ((spec_l01Join.f k t299 l0).bind fun t302 => (some t302)))))) = some r := by rw [if_pos rfl] at H; exact H
  clear H
  have H := H1
  clear H1
  replace H := Option.bind_eq_some_iff.mp H
  obtain ⟨t292, A40, H⟩ := H
  replace H : ((spec_Crc32.f k l0).bind fun t295 => ((spec_l02Four.f t295).bind fun t296 => ((spec_l01Join.f k t292 t296).bind fun t299 => ((spec_l01Join.f k t299 l0).bind fun t302 => (some t302))))) = some r := H
  have A4 := Zh A40
  clear A40
  replace H := Option.bind_eq_some_iff.mp H
  obtain ⟨t295, A50, H⟩ := H
  replace H : ((spec_l02Four.f t295).bind fun t296 => ((spec_l01Join.f k t292 t296).bind fun t299 => ((spec_l01Join.f k t299 l0).bind fun t302 => (some t302)))) = some r := H
  have A5 := Zh A50
  clear A50
  replace H := Option.bind_eq_some_iff.mp H
  obtain ⟨t296, A60, H⟩ := H
  replace H : ((spec_l01Join.f k t292 t296).bind fun t299 => ((spec_l01Join.f k t299 l0).bind fun t302 => (some t302))) = some r := H
  have A6 := Zh A60
  clear A60
  replace H := Option.bind_eq_some_iff.mp H
  obtain ⟨t299, A70, H⟩ := H
  replace H : ((spec_l01Join.f k t299 l0).bind fun t302 => (some t302)) = some r := H
  have A7 := Zh A70
  clear A70
  replace H := Option.bind_eq_some_iff.mp H
  obtain ⟨t302, A80, H⟩ := H
  replace H : (some t302) = some r := H
  have A8 := Zh A80
  clear A80
  obtain rfl := Option.some.inj H
  go_enter Tryd.func58, Tryd.ntmps58
  go_wp2_with (first | ((with_reducible refine gate_callee (f := 62) rfl ?_); refine ZG (some 5) Tryd.func62 #[.int .i64 (l0.length : Int), .int .i64 1, .int .i64 600] rfl ?_; (with_reducible refine (spec_l01In.calls (l0.length : Int) 1 600 true _ A2.out).mono ?_); rintro e w' ⟨rfl, ⟨nd, rfl⟩⟩; refine ⟨_, rfl, ?_⟩) | ((with_reducible refine gate_callee (f := 88) rfl ?_); refine ZG (some 10) Tryd.func88 #[.int .u32 (((l0.length : Int)) % 4294967296)] rfl ?_; (with_reducible refine (spec_l02Four.calls (((l0.length : Int)) % 4294967296) t292 _ A4.out).mono ?_); rintro e w9 ⟨v293, rfl, ho0, hb⟩; refine ⟨_, rfl, ?_⟩; have HO294 := Zh (R_lower ho0 (below_size Zs)); replace HB := Zh (Zl Zs hb); (try clear hb); (try clear hb2); (try clear hk); (try clear hi); (try clear ho0)) | ((with_reducible refine gate_callee (f := 89) rfl ?_); refine ZG (some 12) Tryd.func89 #[.slice A0 l0.length c0] rfl ?_; (with_reducible refine (spec_Crc32.calls k _ _ l0 t295 _ ?side1 ?side2 A5.out).mono ?_); (case side1 => repeat (first | exact (C_below HR0.out HB.out) | (with_reducible refine C_alloc ?_ _) | (with_reducible refine C_drewN ?_ _) | (with_reducible refine C_drew ?_))); (case side2 => exact HC0.out); rintro e w' ⟨rfl, ⟨nd, rfl⟩⟩; refine ⟨_, rfl, ?_⟩) | ((with_reducible refine gate_callee (f := 88) rfl ?_); refine ZG (some 13) Tryd.func88 #[.int .u32 t295] rfl ?_; (with_reducible refine (spec_l02Four.calls t295 t296 _ A6.out).mono ?_); rintro e w10 ⟨v297, rfl, ho0, hb⟩; refine ⟨_, rfl, ?_⟩; have HO298 := Zh (R_lower (R_new' ho0 (R_lt (ZR HO294.out))) (below_size Zs)); replace HO294 := Zh (R_elder' (ZR HO294.out) (R_base ho0) hb); replace HB := Zh (Zl Zs hb); (try clear hb); (try clear hb2); (try clear hk); (try clear hi); (try clear ho0); obtain ⟨Ao11, co11, eo11⟩ := R_slice HO294.out; subst eo11; obtain ⟨Ao12, co12, eo12⟩ := R_slice HO298.out; subst eo12) | ((with_reducible refine gate_callee (f := 85) rfl ?_); refine ZG (some 14) Tryd.func85 #[.slice Ao11 t292.length co11, .slice Ao12 t296.length co12] rfl ?_; (with_reducible refine (spec_l01Join.calls k _ _ t292 _ _ t296 t299 _ ?side1 ?side2 ?side3 ?side4 A7.out).mono ?_); (case side1 => repeat (first | exact (R_reads' HO294.out).2.2 | (with_reducible refine C_alloc ?_ _) | (with_reducible refine C_drewN ?_ _) | (with_reducible refine C_drew ?_))); (case side2 => exact (R_reads' HO294.out).2.1); (case side3 => repeat (first | exact (R_reads' HO298.out).2.2 | (with_reducible refine C_alloc ?_ _) | (with_reducible refine C_drewN ?_ _) | (with_reducible refine C_drew ?_))); (case side4 => exact (R_reads' HO298.out).2.1); rintro e w13 ⟨v300, rfl, ho0, hb⟩; refine ⟨_, rfl, ?_⟩; have HO301 := Zh (R_lower (R_new' (R_new' ho0 (R_lt (ZR HO294.out))) (R_lt (ZR HO298.out))) (below_size Zs)); replace HO294 := Zh (R_elder' (ZR HO294.out) (R_base ho0) hb); replace HO298 := Zh (R_elder' (ZR HO298.out) (R_base ho0) hb); replace HB := Zh (Zl Zs hb); (try clear hb); (try clear hb2); (try clear hk); (try clear hi); (try clear ho0); obtain ⟨Ao14, co14, eo14⟩ := R_slice HO301.out; subst eo14) | ((with_reducible refine gate_callee (f := 85) rfl ?_); refine ZG (some 16) Tryd.func85 #[.slice Ao14 t299.length co14, .slice A0 l0.length c0] rfl ?_; (with_reducible refine (spec_l01Join.calls k _ _ t299 _ _ l0 t302 _ ?side1 ?side2 ?side3 ?side4 A8.out).mono ?_); (case side1 => repeat (first | exact (R_reads' HO301.out).2.2 | (with_reducible refine C_alloc ?_ _) | (with_reducible refine C_drewN ?_ _) | (with_reducible refine C_drew ?_))); (case side2 => exact (R_reads' HO301.out).2.1); (case side3 => repeat (first | exact (C_below HR0.out HB.out) | (with_reducible refine C_alloc ?_ _) | (with_reducible refine C_drewN ?_ _) | (with_reducible refine C_drew ?_))); (case side4 => exact HC0.out); rintro e w15 ⟨v303, rfl, ho0, hb⟩; refine ⟨_, rfl, ?_⟩; have HO304 := Zh (R_lower (R_new' (R_new' (R_new' ho0 (R_lt (ZR HO294.out))) (R_lt (ZR HO298.out))) (R_lt (ZR HO301.out))) (below_size Zs)); replace HO294 := Zh (R_elder' (ZR HO294.out) (R_base ho0) hb); replace HO298 := Zh (R_elder' (ZR HO298.out) (R_base ho0) hb); replace HO301 := Zh (R_elder' (ZR HO301.out) (R_base ho0) hb); replace HB := Zh (Zl Zs hb); (try clear hb); (try clear hb2); (try clear hk); (try clear hi); (try clear ho0)))
  go_ret
  exact ⟨_, ZE, ZR (R_mono HO304.out (fun _ hk => trivial)), Zs⟩
 replace c3 := Bool.eq_false_iff.mpr c3
 subst c3
 have H1 : (some ([] : List Int)) = some r := by rw [if_neg (show ¬ (false = true) by decide)] at H; exact H
 clear H
 have H := H1
 clear H1
 obtain rfl := Option.some.inj H
 go_enter Tryd.func58, Tryd.ntmps58
 go_wp2_with (first | ((with_reducible refine gate_callee (f := 62) rfl ?_); refine ZG (some 5) Tryd.func62 #[.int .i64 (l0.length : Int), .int .i64 1, .int .i64 600] rfl ?_; (with_reducible refine (spec_l01In.calls (l0.length : Int) 1 600 false _ A2.out).mono ?_); rintro e w' ⟨rfl, ⟨nd, rfl⟩⟩; refine ⟨_, rfl, ?_⟩))
 go_ret
 exact ⟨_, ZE, by first | exact R_nil _ _ _ _ _ | exact N_nil _ _ _ _ _ | exact V_nil _ _ _ _ _ | exact Q_nil _ _ _ _ _ | exact S_nil _ _ _ _ _, Zs⟩
end Go.Proofs.YtcgojdhbphocgaaDoor.F

namespace Go.Proofs.YtcgojdhbphocgaaDoor.F
open Go.RowKit Go.Proofs.YtcgojdhbphocgaaDoorW.PrintWords Go.Proofs.YtcgojdhbphocgaaDoorW.PrintLast Go.Proofs.YtcgojdhbphocgaaDoorW.PrintMore
open Go.Proofs.YtcgojdhbphocgaaDoor
set_option linter.unusedVariables false
set_option linter.unusedSimpArgs false
def spec_WalAppend.f (k : Nat) (l0_0 : List S55) (a1 : List Int) : Option (List S55 × Bool) := (spec_Frame.f k a1).bind fun f => if (f.length : Int) = 0 then (spec_l03Copy.f k l0_0).bind fun o => some (o, false) else spec_AppendFile.f k l0_0 (⟨#[108, 111, 103]⟩ : ByteArray) f
set_option maxHeartbeats 8000000 in
set_option maxRecDepth 100000 in
theorem spec_WalAppend.calls (k : Nat) (A0_0 : Option Addr) (c0_0 : Nat) (l0_0 : List (S55)) (A1 : Option Addr) (c1 : Nat) (l1 : List Int) (r1 : List (S55)) (r2 : Bool) (w : World) (hr0_0 : Kd.C k55 w A0_0 l0_0.length l0_0) (hc0_0 : l0_0.length ≤ c0_0) (hr1 : Kd.C (Kd.int .u8) w A1 l1.length l1) (hc1 : l1.length ≤ c1) (h : spec_WalAppend.f k l0_0 l1 = some (r1, r2)) :
    Calls Tryd.prog 27 #[.agg #[.slice A0_0 l0_0.length c0_0], .slice A1 l1.length c1] w fun e w' => ∃ v0_ : Value, e = .returned (.tuple #[.agg #[v0_], .bool r2]) ∧ Kd.S k55 55 w' w.heap.size (fun _ => True) v0_ r1 ∧ Below w.heap.size w w' := by
  have HR := Zh hr0_0
  have HC := Zh hc0_0
  have HR1 := Zh hr1
  have HC1 := Zh hc1
  clear hr0_0 hc0_0 hr1 hc1
  have ST := Zh (LW.St.start w)
  unfold spec_WalAppend.f at h
  replace h := Option.bind_eq_some_iff.mp h
  obtain ⟨f, HA1, h⟩ := h
  replace HA1 := Zh HA1
  have H := Zh h
  clear h
  go_enter Tryd.func27, Tryd.ntmps27
  go_wp2_with fail
  replace ST := Zh (ST.out.alloc #[.slice A0_0 l0_0.length c0_0] 28 (g := w.heap.size) rfl)
  replace ST := Zh (ST.out.alloc #[.slice none 0 0] 28 (g := w.heap.size + 1) (by simp))
  with_reducible refine (spec_Frame.calls k _ _ l1 f _ (Kd.C_below HR1.out ST.out.b) HC1.out HA1.out).mono ?_
  rintro e w1 ⟨v1, rfl, ho, hb⟩
  obtain ⟨Af, cf, rfl⟩ := Kd.R_slice ho
  replace ST := Zh (ST.out.rowR rfl hb ho)
  clear hb ho
  have hc1 := ST.out.cell 2 rfl 0 (u := .slice A0_0 l0_0.length c0_0) rfl
  have hl1 := ST.out.lt 2 rfl
  have hc2 := ST.out.cell 1 rfl 0 (u := .slice none 0 0) rfl
  have hl2 := ST.out.lt 1 rfl
  have hf2 := ST.out.frozen 1 rfl 0
  have h := H.out
  clear H
  by_cases c : (f.length : Int) = 0
  · rw [if_pos c] at h
    replace h := Option.bind_eq_some_iff.mp h
    obtain ⟨o, HA2, h⟩ := h
    replace HA2 := Zh HA2
    obtain ⟨rfl, rfl⟩ := Prod.mk.inj (Option.some.inj h)
    clear h
    have q5 : ((f.length : Int) == 0) = true := beq_iff_eq.mpr c
    have hn : f.length = 0 := by omega
    go_wp2_with fail
    with_reducible refine (spec_l03Copy.calls k _ _ l0_0 o _ (Kd.C_below HR.out ST.out.b) HC.out HA2.out).mono ?_
    rintro e w2 ⟨v2, rfl, ho, hb⟩
    obtain ⟨A2, c2, rfl⟩ := Kd.S_slice ho
    replace ST := Zh (ST.out.row hb ho)
    clear hb ho hc1 hl1 hc2 hl2 hf2
    have hc2 := ST.out.cell 2 rfl 0 (u := .slice none 0 0) rfl
    have hl2 := ST.out.lt 2 rfl
    have hf2 := ST.out.frozen 2 rfl 0
    go_wp2
    replace ST := Zh (ST.out.set 2 rfl 0 (.slice A2 o.length c2))
    refine Zq (results_ct rfl _ _ (w.heap.size + 1) 28 #[.slice A2 o.length c2] (0, 0) _ rfl (ST.out.blk 2 rfl) Tryd.underlying28 rfl (by kernel_rfl)) rfl ?_
    exact ⟨_, rfl, Kd.S_mono (ST.out.own 0 rfl) (fun _ _ => trivial), ST.out.b⟩
  rw [if_neg c] at h
  have q5 : ((f.length : Int) == 0) = false := by rw [beq_eq_false_iff_ne]; exact c
  have HA4 := Zh h
  clear h c
  go_wp2_with fail
  with_reducible refine (spec_AppendFile.calls k _ _ l0_0 (⟨#[108, 111, 103]⟩ : ByteArray) _ _ f r1 r2 _ (Kd.C_below HR.out ST.out.b) HC.out (ST.out.reads 0 rfl).2.2 (ST.out.reads 0 rfl).2.1 HA4.out).mono ?_
  rintro e w4 ⟨v4, rfl, ho, hb⟩
  obtain ⟨A4, c4, rfl⟩ := Kd.S_slice ho
  replace ST := Zh (ST.out.row hb ho)
  clear hb ho hc1 hl1 hc2 hl2 hf2
  have hc1 := ST.out.cell 2 rfl 0 (u := .slice none 0 0) rfl
  have hl1 := ST.out.lt 2 rfl
  have hf1 := ST.out.frozen 2 rfl 0
  go_wp2
  replace ST := Zh (ST.out.set 2 rfl 0 (.slice A4 r1.length c4))
  replace ST := Zh (ST.out.alloc #[.slice A4 r1.length c4] 28 rfl)
  refine Zq (results_ct rfl _ _ (w.heap.size + 1) 28 #[.slice A4 r1.length c4] (0, 0) _ rfl (ST.out.blk 3 rfl) Tryd.underlying28 rfl (by kernel_rfl)) rfl ?_
  exact ⟨_, rfl, Kd.S_mono (ST.out.own 1 rfl) (fun _ _ => trivial), ST.out.b⟩
end Go.Proofs.YtcgojdhbphocgaaDoor.F
