/- Merged texts below the law FnExactSyncFile: Go functions as Lean functions, their contracts, and plain lemmas. -/
import Derived.Test.YtmgeffgcihfpcaaDoorQFnExactSyncFile23
import Derived.Shelf.Abstract
import Derived.Test.YtmgeffgcihfpcaaDoorVFnExactSyncFileMore
import Derived.Test.YtmgeffgcihfpcaaDoorVFnExactSyncFileKept
import Derived.Test.YtmgeffgcihfpcaaDoorVFnExactSyncFileApart
import Derived.Test.YtmgeffgcihfpcaaDoorQFnExactSyncFile27
import Derived.Test.YtmgeffgcihfpcaaDoorQFnExactSyncFile24
import Derived.Test.YtmgeffgcihfpcaaDoorQFnExactSyncFile25
import Derived.Test.YtmgeffgcihfpcaaDoorQFnExactSyncFile26
import Derived.Deep.Slices
import Derived.ChangeSame
import Derived.WideShapes
namespace Go.Proofs.YtmgeffgcihfpcaaDoor.F
open Go.RowKit Go.Proofs.YtmgeffgcihfpcaaDoorW.PrintWords Go.Proofs.YtmgeffgcihfpcaaDoorW.PrintWords.Kd Go.Proofs.YtmgeffgcihfpcaaDoorW.PrintMore.Kd Go.Proofs.YtmgeffgcihfpcaaDoorW.PrintLast Go.Proofs.YtmgeffgcihfpcaaDoorW.PrintMore
attribute [local go_sem] max2_int min2_int max_two min_two max_three min_three max_four min_four   -- for this text's walks alone
set_option linter.unusedVariables false
set_option linter.unusedSimpArgs false
def impl_File_content.f (a0_0 : ByteArray) (l0_1 : List Int) (l0_2 : List Int) : Option (List Int) := (some (([] : List Int) : List Int)).bind fun y207 => (if y207.length + l0_1.length < 140737488355328 then ((some (y207 ++ l0_1 : List Int)).bind fun y210 => (if y210.length + l0_2.length < 140737488355328 then (some (y210 ++ l0_2)) else (none))) else (none))
def impl_File_content.T1 : Bool × List (List Nat × List Nat) := (true, [([], []), ([], []), ([1], [1]), ([0, 2], [0, 2]), ([], []), ([4], [4]), ([3, 5, 3], [3, 5]), ([6, 6, 0, 1, 2, 3, 4, 5, 6], [6])])
def impl_File_content.B1 : List Nat := [0, 0, 2, 7, 0, 16, 63, 127]
theorem impl_File_content.tab1 : rtab .any (opsOf Tryd.f64 1) = impl_File_content.T1 := by kernel_rfl
theorem impl_File_content.bits1 : waitsOk impl_File_content.T1.2 impl_File_content.B1 = true := by kernel_rfl
set_option maxHeartbeats 8000000 in
set_option maxRecDepth 100000 in
theorem impl_File_content.calls (a0_0 : ByteArray) (A0_1 : Option Addr) (c0_1 : Nat) (l0_1 : List Int) (A0_2 : Option Addr) (c0_2 : Nat) (l0_2 : List Int) (r : List Int) (w : World) (hr0_1 : Kd.C (Kd.int .u8) w A0_1 l0_1.length l0_1) (hc0_1 : l0_1.length ≤ c0_1) (hr0_2 : Kd.C (Kd.int .u8) w A0_2 l0_2.length l0_2) (hc0_2 : l0_2.length ≤ c0_2) (h : impl_File_content.f a0_0 l0_1 l0_2 = some r) :
  Calls Tryd.prog 64 #[.agg #[.string a0_0, .slice A0_1 l0_1.length c0_1, .slice A0_2 l0_2.length c0_2]] w fun e w' => ∃ v0_ : Value, e = .returned (v0_) ∧ Kd.R (Kd.int .u8) 5 w' w.heap.size (fun _ => True) v0_ r ∧ Below w.heap.size w w' := by
 have hu74 := Tryd.underlying74
 have HR0_1 := Aside0.mk hr0_1
 have HC0_1 := Aside0.mk hc0_1
 clear hr0_1 hc0_1
 have HR0_2 := Aside0.mk hr0_2
 have HC0_2 := Aside0.mk hc0_2
 clear hr0_2 hc0_2
 have HB := Aside0.mk (Below.refl w.heap.size w)
 have H : ((some (([] : List Int) : List Int)).bind fun y207 => (if y207.length + l0_1.length < 140737488355328 then ((some (y207 ++ l0_1 : List Int)).bind fun y210 => (if y210.length + l0_2.length < 140737488355328 then (some (y210 ++ l0_2)) else (none))) else (none))) = some r := h
 clear h
 obtain ⟨y207, hy207⟩ : ∃ y_ : List Int, y_ = (([] : List Int)) := ⟨_, rfl⟩
 replace H : (if y207.length + l0_1.length < 140737488355328 then ((some (y207 ++ l0_1 : List Int)).bind fun y210 => (if y210.length + l0_2.length < 140737488355328 then (some (y210 ++ l0_2)) else (none))) else (none)) = some r := by first | (rw [hy207]; with_reducible exact H) | (have H2_ := (Option.bind_some _ _).symm.trans H; rw [hy207]; with_reducible exact H2_) | (have H2_ := (Option.bind_some _ _).symm.trans H; with_reducible exact H2_) | with_reducible exact H | (rw [hy207]; exact H) | exact H
 have Ny207 := Aside0.mk hy207
 clear hy207
 by_cases c2 : y207.length + l0_1.length < 140737488355328
 ·
  rw [if_pos c2] at H
  have LMc2 := Aside0.mk c2
  clear c2
  obtain ⟨y210, hy210⟩ : ∃ y_ : List Int, y_ = (y207 ++ l0_1) := ⟨_, rfl⟩
  replace H : (if y210.length + l0_2.length < 140737488355328 then (some (y210 ++ l0_2)) else (none)) = some r := by first | (rw [hy210]; with_reducible exact H) | (have H2_ := (Option.bind_some _ _).symm.trans H; rw [hy210]; with_reducible exact H2_) | (have H2_ := (Option.bind_some _ _).symm.trans H; with_reducible exact H2_) | with_reducible exact H | (rw [hy210]; exact H) | exact H
  have Ny210 := Aside0.mk hy210
  clear hy210
  by_cases c3 : y210.length + l0_2.length < 140737488355328
  ·
   rw [if_pos c3] at H
   have LMc3 := Aside0.mk c3
   clear c3
   obtain ⟨y213, hy213⟩ : ∃ y_ : List Int, y_ = (y210 ++ l0_2) := ⟨_, rfl⟩
   replace H : (some y213) = some r := by first | (rw [hy213]; with_reducible exact H) | (have H2_ := (Option.bind_some _ _).symm.trans H; rw [hy213]; with_reducible exact H2_) | (have H2_ := (Option.bind_some _ _).symm.trans H; with_reducible exact H2_) | with_reducible exact H | (rw [hy213]; exact H) | exact H
   have Ny213 := Aside0.mk hy213
   clear hy213
   obtain rfl := Option.some.inj H
   go_enter Tryd.func64, Tryd.ntmps64
   try go_wp2_with (first | ((with_reducible refine gate_dst (N := 1) rfl ?_); refine box_event ?hg (N := 1) ?hd (cs := #[.string a0_0, .slice A0_1 l0_1.length c0_1, .slice A0_2 l0_2.length c0_2]) (t := 74) ?hr ?_; (case hd => rfl); (case hg => rfl); (case hr => first | (go_simp; done) | (go_simp; rfl)); intro gb206 hg w4 hbox hb; have n0_ := Aside0.mk (below_step (by repeat (first | (with_reducible first | exact HB.out | apply below_alloc | apply pw_below_drewN | apply below_drew1) | exact HB.out)) hb); have n1_ := Aside0.mk (hbox); have n2_ := Aside0.mk ((by rw [hg]; exact (below_size (by repeat (first | (with_reducible first | exact HB.out | apply below_alloc | apply pw_below_drewN | apply below_drew1) | exact HB.out))) : w.heap.size ≤ gb206)); have n3_ := Aside0.mk ((by rw [hg]; exact (below_size (by repeat (first | (with_reducible first | exact HB.out | apply below_alloc | apply pw_below_drewN | apply below_drew1) | exact HB.out))) : w.heap.size ≤ gb206)); clear HB; have HB := n0_; have BK206 := n1_; have GW206 := n2_; have GE206 := n3_; clear n0_ n1_ n2_ n3_; clear hb hbox hg))
   have n0_ := Aside0.mk (blk_drew BK206.out)
   have n1_ := Aside0.mk (below_drew1 HB.out)
   clear BK206
   clear HB
   have BK206 := n0_
   have HB := n1_
   clear n0_ n1_
   refine start_ (n := 8) (S := fun w' => w'.cell? ⟨gb206, 0, none⟩ = some (.string a0_0) ∧ w'.cell? ⟨gb206, 1, none⟩ = some (.slice A0_1 l0_1.length c0_1) ∧ w'.cell? ⟨gb206, 2, none⟩ = some (.slice A0_2 l0_2.length c0_2)) (ds := []) #[false, false, false, false, false, false, false, false] (by kernel_rfl) rfl rfl ⟨(blk_cell BK206.out 0).trans rfl, (blk_cell BK206.out 1).trans rfl, (blk_cell BK206.out 2).trans rfl⟩ (fun hHeld => ?_); refine with_tabW impl_File_content.tab1 impl_File_content.bits1 (fun HT_ HW_ => ?_)
   generalize w4.drew = w5 at BK206 HB hHeld ⊢
   refine pure_ (i := 1) (N := some 4) (v := ?_) (a' := ?_) #[false, true, false, false, false, false, false, false] rfl rfl (any_of HT_.out (by kernel_rfl)) (fun _ _ _ h => h) (Or.inl ⟨by rfl, ?_⟩) ?_ ?_
   rotate_left
   ·
    intro w'
    go_simp
    with_reducible rfl
   rotate_left
   ·
    simp only [Act.put, List.setIfInBounds_toArray, List.set_cons_zero, List.set_cons_succ, i64_w, i32_w]
    rfl
   refine pure_ (i := 4) (N := some 7) (v := ?_) (a' := ?_) #[false, true, false, false, true, false, false, false] rfl rfl (any_of HT_.out (by kernel_rfl)) (fun _ _ _ h => h) (Or.inl ⟨by rfl, ?_⟩) ?_ ?_
   rotate_left
   ·
    intro w'
    go_simp
    with_reducible rfl
   rotate_left
   ·
    simp only [Act.put, List.setIfInBounds_toArray, List.set_cons_zero, List.set_cons_succ, i64_w, i32_w]
    rfl
   refine take_ (i := 2) (N := some 5) (v := ?_) (a' := ?_) #[false, true, true, false, true, false, false, false] rfl rfl (take_ofW HT_.out HW_.out (by kernel_rfl)) (fun _ _ _ h => h) (Or.inl ⟨by rfl, ?_⟩) hHeld ?_ ?_
   rotate_left
   ·
    rintro w' ⟨s0, s1, s2⟩
    go_simp
    with_reducible rfl
   rotate_left
   ·
    simp only [Act.put, List.setIfInBounds_toArray, List.set_cons_zero, List.set_cons_succ, i64_w, i32_w]
    rfl
   refine take_ (i := 5) (N := some 8) (v := ?_) (a' := ?_) #[false, true, true, false, true, true, false, false] rfl rfl (take_ofW HT_.out HW_.out (by kernel_rfl)) (fun _ _ _ h => h) (Or.inl ⟨by rfl, ?_⟩) hHeld ?_ ?_
   rotate_left
   ·
    rintro w' ⟨s0, s1, s2⟩
    go_simp
    with_reducible rfl
   rotate_left
   ·
    simp only [Act.put, List.setIfInBounds_toArray, List.set_cons_zero, List.set_cons_succ, i64_w, i32_w]
    rfl
   refine one_ (i := 0) (N := some 3) #[true, true, true, false, true, true, false, false] rfl rfl (one_of HT_.out (by kernel_rfl)) (by decide) (fun K hK => ?_)
   refine R_lit_step (Kd.int .u8) _ 5 ?hg (N := 3) ?hd (xs := ([] : List Int)) (inner := []) (ok := fun _ => True) (okp := fun _ => True) ?hr ?hp (fun _ hk => hk) trivial (Below.refl _ _) (Nat.le_refl _) (by simp) ?_; (case hd => rfl); (case hg => rfl); (case hr => first | (go_simp; done) | (go_simp; rfl)); (case hp => exact (Reps.none _ _))
   intro v208 w6 ho7 hb hg_ hnew_
   clear hg_ hnew_
   (first | rw [← Ny207.out] at ho7 | (simp only [Int.reduceToNat] at ho7; rw [← Ny207.out] at ho7))
   have n0_ := Aside0.mk (R_lower ho7 (below_size (by repeat (first | (with_reducible first | exact HB.out | apply below_alloc | apply pw_below_drewN | apply below_drew1 | refine below_set ?_ GE206.out) | exact HB.out))))
   have n1_ := Aside0.mk (blk_below (g := gb206) (o := .cells #[.string a0_0, .slice A0_1 l0_1.length c0_1, .slice A0_2 l0_2.length c0_2] 74 (0, 0)) (by (with_reducible repeat (first | refine blk_drewN ?_ _ | refine blk_drew ?_ | refine blk_alloc ?_ _)); exact BK206.out) hb)
   have n2_ := Aside0.mk (below_step (by repeat (first | (with_reducible first | exact HB.out | apply below_alloc | apply pw_below_drewN | apply below_drew1 | refine below_set ?_ GE206.out) | exact HB.out)) hb)
   clear BK206
   clear HB
   have HO209 := n0_
   have BK206 := n1_
   have HB := n2_
   clear n0_ n1_ n2_
   clear hb ho7
   refine hK.out _ _ ⟨(blk_cell BK206.out 0).trans rfl, (blk_cell BK206.out 1).trans rfl, (blk_cell BK206.out 2).trans rfl⟩ (fun hHeld => ?_)
   clear hK K
   refine norm_ (a' := ?_) ?_ ?_
   rotate_left
   ·
    show Act.put _ (some 3) _ = _
    simp only [Act.put, List.setIfInBounds_toArray, List.set_cons_zero, List.set_cons_succ, i64_w, i32_w]
    rfl
   refine one_ (i := 3) (N := some 6) #[true, true, true, true, true, true, false, false] rfl rfl (one_of HT_.out (by kernel_rfl)) (by decide) (fun K hK => ?_)
   refine R_append_rows_step (Kd.int .u8) (w0 := w) w.heap.size (by rfl) (.tmp 3) (.tmp 5) 33 5 (.int .u8 0) 1 rfl Tryd.underlying33 info5 rfl (by decide) (by omega) v208 y207 l0_1 _ _ _ (fun _ => True) (fun _ => False) rfl rfl ?aO ?aR (fun _ _ h => h) (fun _ h => h.elim) ?aF ?aB ?aS ?aL ?_
   (case aR => repeat (first | exact (C_below HR0_1.out HB.out) | (with_reducible refine C_alloc ?_ _) | (with_reducible refine C_drewN ?_ _) | (with_reducible refine C_drew ?_)))
   (case aB => exact (by repeat (first | (with_reducible first | exact HB.out | apply below_alloc | apply pw_below_drewN | apply below_drew1 | refine below_set ?_ GE206.out) | exact HB.out)))
   (case aF => exact (fun _ _ => trivial))
   (case aO => exact (by (with_reducible repeat (first | apply R_alloc | apply R_drewN | apply R_drew)); exact HO209.out))
   (case aS => exact (below_size (by repeat (first | (with_reducible first | exact HB.out | apply below_alloc | apply pw_below_drewN | apply below_drew1 | refine below_set ?_ GE206.out) | exact HB.out))))
   (case aL => have := LMc2.out; omega)
   intro v211 w8 ho hb hg hat
   rw [← Ny210.out] at ho
   have n0_ := Aside0.mk (blk_grown (g := gb206) (o := .cells #[.string a0_0, .slice A0_1 l0_1.length c0_1, .slice A0_2 l0_2.length c0_2] 74 (0, 0)) (by (with_reducible repeat (first | refine blk_drewN ?_ _ | refine blk_drew ?_ | refine blk_alloc ?_ _)); exact BK206.out) hg (R_ne HO209.out BK206.out (by decide)))
   have n1_ := Aside0.mk (hb)
   have n2_ := Aside0.mk (ho)
   clear BK206
   clear HB
   clear HO209
   have BK206 := n0_
   have HB := n1_
   have HO212 := n2_
   clear n0_ n1_ n2_
   clear ho hb hg hat
   refine hK.out _ _ ⟨(blk_cell BK206.out 0).trans rfl, (blk_cell BK206.out 1).trans rfl, (blk_cell BK206.out 2).trans rfl⟩ (fun hHeld => ?_)
   clear hK K
   refine norm_ (a' := ?_) ?_ ?_
   rotate_left
   ·
    show Act.put _ (some 6) _ = _
    simp only [Act.put, List.setIfInBounds_toArray, List.set_cons_zero, List.set_cons_succ, i64_w, i32_w]
    rfl
   refine one_ (i := 6) (N := some 9) #[true, true, true, true, true, true, true, false] rfl rfl (one_of HT_.out (by kernel_rfl)) (by decide) (fun K hK => ?_)
   refine R_append_rows_step (Kd.int .u8) (w0 := w) w.heap.size (by rfl) (.tmp 6) (.tmp 8) 33 5 (.int .u8 0) 1 rfl Tryd.underlying33 info5 rfl (by decide) (by omega) v211 y210 l0_2 _ _ _ (fun _ => True) (fun _ => False) rfl rfl ?aO ?aR (fun _ _ h => h) (fun _ h => h.elim) ?aF ?aB ?aS ?aL ?_
   (case aR => repeat (first | exact (C_below HR0_2.out HB.out) | (with_reducible refine C_alloc ?_ _) | (with_reducible refine C_drewN ?_ _) | (with_reducible refine C_drew ?_)))
   (case aB => exact (by repeat (first | (with_reducible first | exact HB.out | apply below_alloc | apply pw_below_drewN | apply below_drew1 | refine below_set ?_ GE206.out) | exact HB.out)))
   (case aF => exact (fun _ _ => trivial))
   (case aO => exact (by (with_reducible repeat (first | apply R_alloc | apply R_drewN | apply R_drew)); exact HO212.out))
   (case aS => exact (below_size (by repeat (first | (with_reducible first | exact HB.out | apply below_alloc | apply pw_below_drewN | apply below_drew1 | refine below_set ?_ GE206.out) | exact HB.out))))
   (case aL => have := LMc3.out; omega)
   intro v214 w9 ho hb hg hat
   rw [← Ny213.out] at ho
   have n0_ := Aside0.mk (blk_grown (g := gb206) (o := .cells #[.string a0_0, .slice A0_1 l0_1.length c0_1, .slice A0_2 l0_2.length c0_2] 74 (0, 0)) (by (with_reducible repeat (first | refine blk_drewN ?_ _ | refine blk_drew ?_ | refine blk_alloc ?_ _)); exact BK206.out) hg (R_ne HO212.out BK206.out (by decide)))
   have n1_ := Aside0.mk (hb)
   have n2_ := Aside0.mk (ho)
   clear BK206
   clear HB
   clear HO212
   have BK206 := n0_
   have HB := n1_
   have HO215 := n2_
   clear n0_ n1_ n2_
   clear ho hb hg hat
   refine hK.out _ _ ⟨(blk_cell BK206.out 0).trans rfl, (blk_cell BK206.out 1).trans rfl, (blk_cell BK206.out 2).trans rfl⟩ (fun hHeld => ?_)
   clear hK K
   refine norm_ (a' := ?_) ?_ ?_
   rotate_left
   ·
    show Act.put _ (some 9) _ = _
    simp only [Act.put, List.setIfInBounds_toArray, List.set_cons_zero, List.set_cons_succ, i64_w, i32_w]
    rfl
   refine pure_ (i := 7) (N := some 2) (v := ?_) (a' := ?_) #[true, true, true, true, true, true, true, true] rfl rfl (any_of HT_.out (by kernel_rfl)) (fun _ _ _ h => h) (Or.inl ⟨by rfl, ?_⟩) ?_ ?_
   rotate_left
   ·
    intro w'
    go_simp
    with_reducible rfl
   rotate_left
   ·
    simp only [Act.put, List.setIfInBounds_toArray, List.set_cons_zero, List.set_cons_succ, i64_w, i32_w]
    rfl
   refine done_ (done_of HT_.out (by kernel_rfl)) ?_
   try go_wp2
   go_ret
   exact ⟨_, by first | rfl | (simp [errW_none, errW_some] <;> rfl) | (simp [*, errW_none, errW_some] <;> rfl), by (with_reducible repeat (first | apply R_alloc | apply R_drewN | apply R_drew)); exact HO215.out, by repeat (first | (with_reducible first | exact HB.out | apply below_alloc | apply pw_below_drewN | apply below_drew1 | refine below_set ?_ GE206.out) | exact HB.out)⟩
  ·
   rw [if_neg c3] at H
   exact absurd H (by simp)
 ·
  rw [if_neg c2] at H
  exact absurd H (by simp)
end Go.Proofs.YtmgeffgcihfpcaaDoor.F

namespace Go.Proofs.YtmgeffgcihfpcaaDoor.F
open Go.RowKit Go.Proofs.YtmgeffgcihfpcaaDoorW.PrintWords Go.Proofs.YtmgeffgcihfpcaaDoorW.PrintLast Go.Proofs.YtmgeffgcihfpcaaDoorW.PrintMore
set_option linter.unusedVariables false
set_option linter.unusedSimpArgs false
def PredF (g : Nat) (lb : Array Value) (p : ByteArray → Bool) (w : World) : Prop := ∀ w1 : World, Below w.heap.size w w1 → ∀ (s : ByteArray) (v1 v2 : Value), Calls Tryd.prog g (#[.agg #[.string s, v1, v2]] ++ lb) w1 fun e w' => e = .returned (.bool (p s)) ∧ Below w1.heap.size w1 w'
def idxF (p : ByteArray → Bool) : List S74 → Int → Int
  | [], _ => -1
  | x :: t, i => if p x.f0 = true then i else idxF p t (i + 1)
set_option maxHeartbeats 4000000 in
theorem indexFile.calls (g : Nat) (lb : Array Value) (p : ByteArray → Bool) (eg : ∀ args w, (callFunc g args).run Tryd.prog w = .ok (.enter g args) w) (A : Option Addr) (c : Nat) (l : List S74) (w : World) (hr : Kd.C k74 w A l.length l) (hl : l.length ≤ 9223372036854775807) (hp : PredF g lb p w) :
    Calls Tryd.prog 94 #[.slice A l.length c, .func (.func g) #[] lb] w fun e w' => e = .returned (.int .i64 (idxF p l 0)) ∧ Below w.heap.size w w' := by
  have HR0 := Aside0.mk hr
  clear hr
  have HP := Aside0.mk hp
  clear hp
  have hu74 := Tryd.underlying74
  go_enter Tryd.func94, Tryd.ntmps94
  go_wp2
  go_loopg [5, 8] l.length (fun gg _ v8 w' => ∃ kk : Nat, kk ≤ l.length ∧ l.length - kk ≤ gg ∧ v8 = .int .i64 kk ∧ Aside0 (Below w.heap.size w w') ∧ Aside0 (idxF p (l.drop kk) kk = idxF p l 0))
  case atStart => exact ⟨0, Nat.zero_le _, by omega, rfl, ⟨Below.refl _ _⟩, ⟨rfl⟩⟩
  case round =>
    obtain ⟨kk, hkk, hg, rfl, HB, HA⟩ := hrel
    by_cases hlt : kk < l.length
    · have hltz : (kk : Int) < (l.length : Int) := by omega
      obtain ⟨ad, A1, c1, A2, c2, e, hx0, hx1, hx2, _, _, _, _⟩ := at_T74 HR0.out (kk : Int) (by omega) (by omega)
      cases e
      replace hx0 := (HB.out.cell (World.block_lt_of_cell? w _ hx0)).trans hx0
      replace hx1 := (HB.out.cell (World.block_lt_of_cell? w _ hx1)).trans hx1
      replace hx2 := (HB.out.cell (World.block_lt_of_cell? w _ hx2)).trans hx2
      rw [Int.toNat_natCast] at hx0 hx1 hx2
      have hrd : rd_T74 l (kk : Int) = l[kk] := by simp [rd_T74, List.getD_eq_getElem?_getD, List.getElem?_eq_getElem hlt]
      have hA := HA.out
      rw [List.drop_eq_getElem_cons hlt] at hA
      rw [hrd] at hx0 hx1 hx2
      clear HA hrd
      generalize l[kk] = y at hx0 hx1 hx2 hA
      have hcall := HP.out wr HB.out y.f0 (.slice A1 y.f1.length c1) (.slice A2 y.f2.length c2)
      cases hq : p y.f0 with
      | true =>
        simp only [idxF, hq, if_true] at hA
        rw [hq] at hcall
        have HA := Aside0.mk hA
        clear hA
        go_wp2_with (go_at_fn g; refine hcall.mono ?_; rintro e w' ⟨rfl, hb⟩; replace HB := Aside0.mk (below_step HB.out hb); clear hb)
        go_ret
        exact ⟨by rw [← HA.out]; rfl, HB.out⟩
      | false =>
        simp only [idxF, hq, Bool.false_eq_true, if_false] at hA
        rw [hq] at hcall
        have HA := Aside0.mk hA
        clear hA
        go_wp2_with (go_at_fn g; refine hcall.mono ?_; rintro e w' ⟨rfl, hb⟩; replace HB := Aside0.mk (below_step HB.out hb); clear hb)
        go_roundg (l.length - (kk + 1))
        case measure => omega
        case rel => exact ⟨kk + 1, by omega, by omega, by go_num, HB, ⟨by have := HA.out; simpa using this⟩⟩
    · have hltz : ¬ (kk : Int) < (l.length : Int) := by omega
      have : kk = l.length := by omega
      subst this
      go_wp2
      go_ret
      refine ⟨?_, HB.out⟩
      rw [← HA.out, List.drop_length]
      rfl
set_option maxHeartbeats 4000000 in
theorem fileOf1.pred (B : Nat) (name : ByteArray) (w : World) (hb : w.cell? ⟨B, 0, none⟩ = some (.string name)) : PredF 95 #[.pointer (some ⟨B, 0, none⟩)] (fun s => s.toList == name.toList) w := by
  intro w1 hB s v1 v2
  have hlt := Nat.lt_of_lt_of_le (World.block_lt_of_cell? w _ hb) hB.size
  have hx := (hB.cell (World.block_lt_of_cell? w _ hb)).trans hb
  clear hb hB
  have hu74 := Tryd.underlying74
  have hlt2 : B < w1.heap.size := hlt
  clear hlt
  go_enter Tryd.func95, Tryd.ntmps95
  go_wp2
  go_ret
  exact ⟨rfl, below_alloc (Below.refl _ _) _⟩
def impl_fileOf.f (l0_0 : List S74) (a1 : ByteArray) : Option Int := if l0_0.length ≤ 9223372036854775807 then some (idxF (fun s => s.toList == a1.toList) l0_0 0) else none
set_option maxHeartbeats 4000000 in
theorem impl_fileOf.calls (A0_0 : Option Addr) (c0_0 : Nat) (l0_0 : List S74) (a1 : ByteArray) (r : Int) (w : World) (hr0_0 : Kd.C k74 w A0_0 l0_0.length l0_0) (hc0_0 : l0_0.length ≤ c0_0) (h : impl_fileOf.f l0_0 a1 = some r) :
    Calls Tryd.prog 63 #[.agg #[.slice A0_0 l0_0.length c0_0], .string a1] w fun e w' => e = .returned (.int .i64 r) ∧ Below w.heap.size w w' := by
  unfold impl_fileOf.f at h
  split at h
  · rename_i hl
    have h := Option.some.inj h
    subst h
    have HR := Aside0.mk hr0_0
    have HL := Aside0.mk hl
    clear hr0_0 hl
    have e6 : ∀ args w, (callFunc 94 args).run Tryd.prog w = .ok (.enter 94 args) w := enters_of Tryd.func94 (by kernel_rfl) rfl
    have e7 : ∀ args w, (callFunc 95 args).run Tryd.prog w = .ok (.enter 95 args) w := enters_of Tryd.func95 (by kernel_rfl) rfl
    have hmf : ∀ (fn : Fn) (first cap : Array Value) (w : World), (Instr.makeFunc fn first cap).run Tryd.prog w = .ok (.func fn first cap) w := fun _ _ _ _ => rfl
    have hcall := indexFile.calls 95 #[.pointer (some ⟨w.heap.size + 1, 0, none⟩)] (fun s => s.toList == a1.toList) e7 A0_0 c0_0 l0_0 ((w.alloc (.cells #[.slice A0_0 l0_0.length c0_0] 29)).alloc (.cells #[.string a1] 9)) (Kd.C_alloc (Kd.C_alloc HR.out _) _) HL.out (fileOf1.pred _ _ _ (by simp))
    go_enter Tryd.func63, Tryd.ntmps63
    go_wp2_with (go_at_fn 94; refine hcall.mono ?_; rintro e w' ⟨rfl, hb⟩)
    go_ret
    exact ⟨rfl, below_step (below_alloc (below_alloc (Below.refl _ _) _) _) hb⟩
  · cases h
end Go.Proofs.YtmgeffgcihfpcaaDoor.F

namespace Go.Proofs.YtmgeffgcihfpcaaDoor.LW
set_option linter.unusedVariables false
set_option linter.unusedSimpArgs false
open Go.RowKit Go.Proofs.YtmgeffgcihfpcaaDoorW.PrintWords Go.Proofs.YtmgeffgcihfpcaaDoorW.PrintLast Go.Proofs.YtmgeffgcihfpcaaDoorW.PrintMore
structure It where
  P : World → Prop
  F : Nat → Prop
  mv : ∀ w w1 : World, (∀ k, F k → w1.heap[k]? = w.heap[k]?) → P w → P w1
def Its (w : World) (B n : Nat) : List It → Prop
  | [] => True
  | i :: r => (∀ k, i.F k → B ≤ k ∧ k < n) ∧ i.P w ∧ (∀ j, j ∈ r → ∀ k, i.F k → ¬ j.F k) ∧ Its w B n r
variable {w w0 w1 : World} {B B' n m g t e : Nat} {l : List It} {i : It} {cs : Array Value} {α : Type} {d : Kd α} {v : Value} {xs ys : List α} {F S ok : Nat → Prop}
theorem Its.mono (h : Its w B n l) (hB : B' ≤ B) (hn : n ≤ m) : Its w B' m l := by
  induction l with
  | nil => trivial
  | cons i r ih => exact ⟨fun k hk => ⟨Nat.le_trans hB (h.1 k hk).1, Nat.lt_of_lt_of_le (h.1 k hk).2 hn⟩, h.2.1, h.2.2.1, ih h.2.2.2⟩
theorem Its.all (h : Its w B n l) : ∀ j, j ∈ l → j.P w ∧ ∀ k, j.F k → B ≤ k ∧ k < n := by
  induction l with
  | nil => intro j hj; cases hj
  | cons i r ih =>
    intro j hj
    cases hj with
    | head => exact ⟨h.2.1, h.1⟩
    | tail _ hj => exact ih h.2.2.2 j hj
theorem Its.move (h : Its w B n l) (hm : ∀ j, j ∈ l → ∀ k, j.F k → w1.heap[k]? = w.heap[k]?) : Its w1 B n l := by
  induction l with
  | nil => trivial
  | cons i r ih => exact ⟨h.1, i.mv w w1 (hm i List.mem_cons_self) h.2.1, h.2.2.1, ih h.2.2.2 (fun j hj => hm j (List.mem_cons_of_mem _ hj))⟩
theorem Its.app {l' : List It} (h' : Its w B' n l') (h : Its w B B' l) (hB : B ≤ B') (hn : B' ≤ n) : Its w B n (l' ++ l) := by
  induction l' with
  | nil => exact h.mono (Nat.le_refl _) hn
  | cons i r ih =>
    refine ⟨fun k hk => ⟨Nat.le_trans hB (h'.1 k hk).1, (h'.1 k hk).2⟩, h'.2.1, fun j hj k hk => ?_, ih h'.2.2.2⟩
    rcases List.mem_append.1 hj with hj | hj
    · exact h'.2.2.1 j hj k hk
    · intro hf
      have h1 := (h'.1 k hk).1
      have h2 := ((h.all j hj).2 k hf).2
      omega
theorem Its.write (h : Its w B n l) (i' : It) (hF : ∀ k, i'.F k → i.F k) (hP : i'.P w1) (hk : ∀ k, k < n → ¬ i.F k → w1.heap[k]? = w.heap[k]?) : ∀ q, l[q]? = some i → Its w1 B n (l.set q i') := by
  induction l with
  | nil => intro q hq; simp at hq
  | cons j r ih =>
    intro q hq
    cases q with
    | zero =>
      simp only [List.getElem?_cons_zero, Option.some.injEq] at hq
      subst hq
      exact ⟨fun k hk' => h.1 k (hF k hk'), hP, fun x hx k hk' => h.2.2.1 x hx k (hF k hk'), h.2.2.2.move (fun x hx k hk' => hk k ((h.2.2.2.all x hx).2 k hk').2 (fun hi => h.2.2.1 x hx k hi hk'))⟩
    | succ q =>
      rw [List.getElem?_cons_succ] at hq
      have hm := List.mem_of_getElem? hq
      refine ⟨h.1, j.mv w w1 (fun k hk' => hk k (h.1 k hk').2 (fun hi => h.2.2.1 i hm k hk' hi)) h.2.1, fun x hx k hk' => ?_, ih h.2.2.2 q hq⟩
      rcases List.mem_or_eq_of_mem_set hx with hx | rfl
      · exact h.2.2.1 x hx k hk'
      · exact fun hi => h.2.2.1 i hm k hk' (hF k hi)
def box (g : Nat) (cs : Array Value) (t : Nat) : It := ⟨fun w => w.heap[g]? = some (.cells cs t (0, 0)), fun k => k = g, fun _ _ hk h => (hk g rfl).trans h⟩
def row {α : Type} (d : Kd α) (e B : Nat) (v : Value) (xs : List α) (F : Nat → Prop) : It := ⟨fun w => Kd.S d e w B F v xs, F, fun _ _ hk h => Kd.S_move h hk⟩
structure St (w0 w : World) (l : List It) : Prop where
  b : Below w0.heap.size w0 w
  i : Its w w0.heap.size w.heap.size l
theorem St.start (w : World) : St w w [] := ⟨Below.refl _ _, trivial⟩
theorem St.step (h : St w0 w l) (hb : Below w.heap.size w w1) : St w0 w1 l :=
  ⟨below_step h.b hb, (h.i.move (fun j hj k hk => hb.block k ((h.i.all j hj).2 k hk).2)).mono (Nat.le_refl _) hb.size⟩
theorem St.drew (h : St w0 w l) : St w0 w.drew l := h.step (below_drew (Below.refl _ _))
theorem St.add (h : St w0 w l) (hb : Below w.heap.size w w1) {l' : List It} (hn : Its w1 w.heap.size w1.heap.size l') : St w0 w1 (l' ++ l) :=
  ⟨below_step h.b hb, hn.app (h.i.move (fun j hj k hk => hb.block k ((h.i.all j hj).2 k hk).2)) h.b.size hb.size⟩
theorem St.box (h : St w0 w l) (hg : g = w.heap.size) (hx : w1.heap[g]? = some (.cells cs t (0, 0))) (hb : Below w.heap.size w w1) : St w0 w1 (box g cs t :: l) :=
  h.add hb (l' := [LW.box g cs t]) ⟨fun k hk => by have : k = g := hk; subst this; exact ⟨by omega, blk_lt hx⟩, hx, fun j hj => (List.not_mem_nil hj).elim, trivial⟩
theorem St.alloc (h : St w0 w l) (cs : Array Value) (t : Nat) (hg : g = w.heap.size) : St w0 (w.alloc (.cells cs t)) (LW.box g cs t :: l) := h.box hg (by subst hg; simpa using blk_new w (.cells cs t)) (below_alloc (Below.refl _ _) _)
theorem St.lt (h : St w0 w l) (q : Nat) (hq : l[q]? = some (LW.box g cs t)) : g < w.heap.size := blk_lt (h.i.all _ (List.mem_of_getElem? hq)).1
theorem S_between (h : Kd.S d e w1 w.heap.size ok v xs) (h0 : w0.heap.size ≤ w.heap.size) : Kd.S d e w1 w0.heap.size (fun k => w.heap.size ≤ k ∧ k < w1.heap.size) v xs := Kd.S_lower (Kd.S_mono (Kd.S_bound h) (fun k hk => ⟨hk.2.1, hk.2.2.1⟩)) h0
theorem St.row (h : St w0 w l) (hb : Below w.heap.size w w1) (ho : Kd.S d e w1 w.heap.size ok v xs) : St w0 w1 (row d e w0.heap.size v xs (fun k => w.heap.size ≤ k ∧ k < w1.heap.size) :: l) :=
  h.add hb (l' := [LW.row d e w0.heap.size v xs (fun k => w.heap.size ≤ k ∧ k < w1.heap.size)]) ⟨fun k hk => hk, S_between ho h.b.size, fun j hj => (List.not_mem_nil hj).elim, trivial⟩
theorem S_flat (hE : d.E = []) (h : d.R e w B ok v xs) : Kd.S d e w B ok v xs := by
  obtain ⟨h0, inner, ho, hr⟩ := h
  refine ⟨fun _ => 0, h0, inner, by rw [List.length_zipIdx]; exact ho, by rw [List.length_zipIdx]; exact hr.1, fun j p hj => ?_⟩
  rw [List.getElem?_zipIdx, Nat.zero_add] at hj
  obtain ⟨x, hx, rfl⟩ := Option.map_eq_some_iff.1 hj
  refine d.M_mono (fun k hk => ?_) (d.M_bound (hr.2 j x hx))
  obtain ⟨_, _, _, q, hq, _⟩ := hk
  rw [hE] at hq
  cases hq
theorem St.rowR (h : St w0 w l) (hE : d.E = []) (hb : Below w.heap.size w w1) (ho : d.R e w1 w.heap.size ok v xs) : St w0 w1 (LW.row d e w0.heap.size v xs (fun k => w.heap.size ≤ k ∧ k < w1.heap.size) :: l) := h.row hb (S_flat hE ho)
theorem setCell_size (w : World) (p : Addr) (u : Value) : (w.setCell p u).heap.size = w.heap.size := by simp [World.setCell]
theorem St.set (h : St w0 w l) (q : Nat) (hq : l[q]? = some (LW.box g cs t)) (j : Nat) (u : Value) : St w0 (w.setCell ⟨g, j, none⟩ u) (l.set q (LW.box g (cs.setIfInBounds j u) t)) := by
  have hx := h.i.all _ (List.mem_of_getElem? hq)
  refine ⟨below_set h.b (hx.2 g rfl).1, ?_⟩
  rw [setCell_size]
  exact h.i.write (i := LW.box g cs t) (LW.box g (cs.setIfInBounds j u) t) (fun k hk => hk) (blk_set hx.1 j u) (fun k _ hk => Below.heap_setCell w ⟨g, j, none⟩ u k hk) q hq
theorem St.cell (h : St w0 w l) (q : Nat) (hq : l[q]? = some (LW.box g cs t)) (j : Nat) {u : Value} (hu : cs[j]? = some u) : w.cell? ⟨g, j, none⟩ = some u := (blk_cell (h.i.all _ (List.mem_of_getElem? hq)).1 j).trans hu
theorem St.blk (h : St w0 w l) (q : Nat) (hq : l[q]? = some (LW.box g cs t)) : w.heap[g]? = some (.cells cs t (0, 0)) := (h.i.all _ (List.mem_of_getElem? hq)).1
theorem St.frozen (h : St w0 w l) (q : Nat) (hq : l[q]? = some (LW.box g cs t)) (j : Nat) : w.frozen? ⟨g, j, none⟩ = false := blk_frozen (h.i.all _ (List.mem_of_getElem? hq)).1 j
theorem St.own (h : St w0 w l) (q : Nat) (hq : l[q]? = some (LW.row d e B v xs F)) : Kd.S d e w B F v xs := (h.i.all _ (List.mem_of_getElem? hq)).1
theorem St.reads {A : Option Addr} {m c : Nat} (h : St w0 w l) (q : Nat) (hq : l[q]? = some (LW.row d e B (.slice A m c) xs F)) : m = xs.length ∧ m ≤ c ∧ d.C w A xs.length xs := Kd.S_reads' (h.own q hq)
theorem St.write (h : St w0 w l) (q : Nat) (hq : l[q]? = some (LW.row d e w0.heap.size v xs F)) (hS : Kd.S d e w1 w0.heap.size F v ys) (hB : Below w0.heap.size w0 w1) (hk : Kept w w1 F) : St w0 w1 (l.set q (LW.row d e w0.heap.size v ys F)) := by
  have hx := h.i.all _ (List.mem_of_getElem? hq)
  exact ⟨hB, (h.i.write (i := LW.row d e w0.heap.size v xs F) (LW.row d e w0.heap.size v ys F) (fun k hk => hk) hS (fun k hlt hn => hk.2 k hlt hn) q hq).mono (Nat.le_refl _) hk.1⟩
theorem Its.disj : ∀ {l : List It}, Its w B n l → ∀ (p q : Nat) (i j : It), p ≠ q → l[p]? = some i → l[q]? = some j → ∀ k, i.F k → ¬ j.F k
  | [], _, p, q, i, j, _, hi, _ => by simp at hi
  | a :: r, h, 0, 0, i, j, hn, _, _ => absurd rfl hn
  | a :: r, h, 0, q + 1, i, j, hn, hi, hj => by
    rw [List.getElem?_cons_succ] at hj
    simp only [List.getElem?_cons_zero, Option.some.injEq] at hi
    subst hi
    exact h.2.2.1 j (List.mem_of_getElem? hj)
  | a :: r, h, p + 1, 0, i, j, hn, hi, hj => by
    rw [List.getElem?_cons_succ] at hi
    simp only [List.getElem?_cons_zero, Option.some.injEq] at hj
    subst hj
    exact fun k hk hf => h.2.2.1 i (List.mem_of_getElem? hi) k hf hk
  | a :: r, h, p + 1, q + 1, i, j, hn, hi, hj => by
    rw [List.getElem?_cons_succ] at hi hj
    exact Its.disj h.2.2.2 p q i j (by omega) hi hj
def gone : It := ⟨fun _ => True, fun _ => False, fun _ _ _ _ => trivial⟩
theorem Its.of : ∀ {l : List It}, (∀ (q : Nat) (i : It), l[q]? = some i → (∀ k, i.F k → B ≤ k ∧ k < n) ∧ i.P w) → (∀ (p q : Nat) (i j : It), p < q → l[p]? = some i → l[q]? = some j → ∀ k, i.F k → ¬ j.F k) → Its w B n l
  | [], _, _ => trivial
  | a :: r, h1, h2 => ⟨(h1 0 a rfl).1, (h1 0 a rfl).2, fun j hj => by
      obtain ⟨q, hq⟩ := List.mem_iff_getElem?.1 hj
      exact h2 0 (q + 1) a j (by omega) rfl (by rw [List.getElem?_cons_succ]; exact hq), Its.of (fun q i hq => h1 (q + 1) i (by rw [List.getElem?_cons_succ]; exact hq)) (fun p q i j hpq hp hq => h2 (p + 1) (q + 1) i j (by omega) (by rw [List.getElem?_cons_succ]; exact hp) (by rw [List.getElem?_cons_succ]; exact hq))⟩
theorem St.merge (h : St w0 w l) (q p : Nat) (hn : q ≠ p) {i j : It} (hq : l[q]? = some i) (hp : l[p]? = some j) (i' : It) (hF : ∀ k, i'.F k → i.F k ∨ j.F k) (hP : i'.P w1) (hB : Below w0.heap.size w0 w1) (hkp : Kept w w1 i.F) : St w0 w1 ((l.set q i').set p gone) := by
  have hql : q < l.length := (List.getElem?_eq_some_iff.1 hq).1
  have hpl : p < l.length := (List.getElem?_eq_some_iff.1 hp).1
  have hI := h.i.all i (List.mem_of_getElem? hq)
  have hJ := h.i.all j (List.mem_of_getElem? hp)
  have look : ∀ (m : Nat) (x : It), ((l.set q i').set p gone)[m]? = some x → (m = p ∧ x = gone) ∨ (m ≠ p ∧ m = q ∧ x = i') ∨ (m ≠ p ∧ m ≠ q ∧ l[m]? = some x) := by
    intro m x hm
    by_cases e1 : m = p
    · subst e1
      rw [List.getElem?_set_self (by simpa using hpl)] at hm
      exact .inl ⟨rfl, (Option.some.inj hm).symm⟩
    · rw [List.getElem?_set_ne (Ne.symm e1)] at hm
      by_cases e2 : m = q
      · subst e2
        rw [List.getElem?_set_self hql] at hm
        exact .inr (.inl ⟨e1, rfl, (Option.some.inj hm).symm⟩)
      · rw [List.getElem?_set_ne (Ne.symm e2)] at hm
        exact .inr (.inr ⟨e1, e2, hm⟩)
  have apart : ∀ (m : Nat) (x : It), m ≠ p → m ≠ q → l[m]? = some x → ∀ k, x.F k → ¬ i.F k ∧ ¬ j.F k := fun m x e1 e2 hm k hk => ⟨Its.disj h.i m q x i e2 hm hq k hk, Its.disj h.i m p x j e1 hm hp k hk⟩
  refine ⟨hB, Its.of (fun m x hm0 => ?_) (fun m m' x y hlt hm0 hm0' => ?_)⟩
  · rcases look m x hm0 with ⟨_, rfl⟩ | ⟨_, _, rfl⟩ | ⟨e1, e2, hm⟩
    · exact ⟨fun k hk => hk.elim, trivial⟩
    · refine ⟨fun k hk => ?_, hP⟩
      rcases hF k hk with h2 | h2
      · exact ⟨(hI.2 k h2).1, Nat.lt_of_lt_of_le (hI.2 k h2).2 hkp.1⟩
      · exact ⟨(hJ.2 k h2).1, Nat.lt_of_lt_of_le (hJ.2 k h2).2 hkp.1⟩
    · have hX := h.i.all x (List.mem_of_getElem? hm)
      exact ⟨fun k hkx => ⟨(hX.2 k hkx).1, Nat.lt_of_lt_of_le (hX.2 k hkx).2 hkp.1⟩, x.mv w w1 (fun k hkx => hkp.2 k (hX.2 k hkx).2 (apart m x e1 e2 hm k hkx).1) hX.1⟩
  · intro k hx hy
    rcases look m x hm0 with ⟨_, rfl⟩ | ⟨_, e, rfl⟩ | ⟨e1, e2, hm⟩
    · exact hx
    · rcases look m' y hm0' with ⟨_, rfl⟩ | ⟨_, e', rfl⟩ | ⟨e1', e2', hm'⟩
      · exact hy
      · omega
      · rcases hF k hx with h2 | h2
        · exact (apart m' y e1' e2' hm' k hy).1 h2
        · exact (apart m' y e1' e2' hm' k hy).2 h2
    · rcases look m' y hm0' with ⟨_, rfl⟩ | ⟨_, e', rfl⟩ | ⟨e1', e2', hm'⟩
      · exact hy
      · rcases hF k hy with h2 | h2
        · exact (apart m x e1 e2 hm k hx).1 h2
        · exact (apart m x e1 e2 hm k hx).2 h2
      · exact Its.disj h.i m m' x y (by omega) hm hm' k hx hy
def view {α : Type} (d : Kd α) (e B : Nat) (v : Value) (xs : List α) (F : Nat → Prop) : It := ⟨fun w => Kd.V d e w B F v xs, F, fun _ _ hk h => Kd.V_step h (fun k hk' _ => hk k hk')⟩
theorem St.viewed (h : St w0 w l) (q : Nat) (hq : l[q]? = some (LW.view d e B v xs F)) : Kd.V d e w B F v xs := (h.i.all _ (List.mem_of_getElem? hq)).1
theorem St.views {A : Option Addr} {m c : Nat} (h : St w0 w l) (q : Nat) (hq : l[q]? = some (LW.view d e B (.slice A m c) xs F)) : m = xs.length ∧ m ≤ c ∧ d.C w A xs.length xs := by
  have hv := Kd.V_reads' (h.viewed q hq)
  exact ⟨hv.1, hv.2.1, hv.1 ▸ hv.2.2⟩
theorem St.seen {β : Type} {d' : Kd β} {e' b' : Nat} {v' : Value} {ys : List β} {ok' : Nat → Prop} {j : It} (h : St w0 w l) (p : Nat) (hp : l[p]? = some j) (hb : Below w.heap.size w w1) (hN : Kd.N d' e' w1 b' ok' v' ys) (hok : ∀ k, ok' k → j.F k ∨ w.heap.size ≤ k) :
    St w0 w1 (LW.view d' e' w0.heap.size v' ys (fun k => ok' k ∧ k < w1.heap.size) :: l.set p gone) := by
  have hJ := h.i.all j (List.mem_of_getElem? hp)
  have hpl : p < l.length := (List.getElem?_eq_some_iff.1 hp).1
  have h1 : Its w1 w0.heap.size w1.heap.size (l.set p gone) := ((h.i.write (i := j) gone (fun k hk => hk.elim) trivial (fun k hlt hn => hb.block k hlt) p hp).mono (Nat.le_refl _) hb.size)
  refine ⟨below_step h.b hb, fun k hk => ⟨?_, hk.2⟩, Kd.V_bound (base := w0.heap.size) (Kd.N_V (base' := w0.heap.size) hN), fun x hx k hk hf => ?_, h1⟩
  · rcases hok k hk.1 with h2 | h2
    · exact (hJ.2 k h2).1
    · exact Nat.le_trans h.b.size h2
  · obtain ⟨m, hm⟩ := List.mem_iff_getElem?.1 hx
    by_cases e1 : m = p
    · subst e1
      rw [List.getElem?_set_self hpl] at hm
      have := Option.some.inj hm
      subst this
      exact hf
    · rw [List.getElem?_set_ne (Ne.symm e1)] at hm
      have hX := h.i.all x (List.mem_of_getElem? hm)
      rcases hok k hk.1 with h2 | h2
      · exact Its.disj h.i m p x j e1 hm hp k hf h2
      · have := (hX.2 k hf).2
        omega
end Go.Proofs.YtmgeffgcihfpcaaDoor.LW

namespace Go.Proofs.YtmgeffgcihfpcaaDoor.F
open Go.RowKit Go.Proofs.YtmgeffgcihfpcaaDoorW.PrintWords Go.Proofs.YtmgeffgcihfpcaaDoorW.PrintLast Go.Proofs.YtmgeffgcihfpcaaDoorW.PrintMore
open Go.Proofs.YtmgeffgcihfpcaaDoor
set_option linter.unusedVariables false
set_option linter.unusedSimpArgs false
theorem setFile {w0 w : World} {l : List LW.It} {g n c : Nat} {xs : List S74} {F G : Nat → Prop} {v1 : Value} {ys : List Int} (h : LW.St w0 w l) (q p : Nat) (hn : q ≠ p)
    (hq : l[q]? = some (LW.row k74 74 w0.heap.size (.slice (some ⟨g, 0, none⟩) n c) xs F)) (hp : l[p]? = some (LW.row (Kd.int .u8) 5 w0.heap.size v1 ys G)) (i : Int) (h0 : 0 ≤ i) (h1 : i < n) (a : ByteArray) :
    LW.St w0 (((w.setCell ⟨g, i.toNat * 3, none⟩ (.string a)).setCell ⟨g, i.toNat * 3 + 1, none⟩ v1).setCell ⟨g, i.toNat * 3 + 2, none⟩ (.slice none 0 0))
      ((l.set q (LW.row k74 74 w0.heap.size (.slice (some ⟨g, 0, none⟩) n c) (xs.set i.toNat ⟨a, ys, []⟩) (fun k => F k ∨ G k))).set p LW.gone) := by
  have hS := h.own q hq
  have hR := Kd.S_R (h.own p hp)
  have hd := LW.Its.disj h.i q p _ _ hn hq hp
  have hFg : F g := (Kd.S_R hS).1 g (by simp [Value.ownBlock])
  have hbg := (h.i.all _ (List.mem_of_getElem? hq)).2 g hFg
  have hS2 : Kd.S k74 74 w w0.heap.size (fun k => (F k ∨ G k) ∧ ¬ G k) (.slice (some ⟨g, 0, none⟩) n c) xs := Kd.S_mono hS (fun k hk => ⟨.inl hk, fun h2 => hd k hk h2⟩)
  obtain ⟨oki, cs, hcl, hM, hcc, hfr, hoki, hH⟩ := Kd.S_elem hS2 z74 i h0 h1
  obtain ⟨pp, u1, u2, rfl, hA1, hA2⟩ := k74_openA hM
  have hP := (Kd.S_seg (okg := G) (seg := [.string a, v1, .slice none 0 0]) (j := 0) hH h0 h1 (show 0 + 3 ≤ 3 by decide) (x' := (⟨a, ys, []⟩ : S74)) (k74_mkM _ _ _ (⟨a, ys, []⟩ : S74) hR (Kd.R_nil _ _ _ _ _) AP.nil_ne) (fun k hk => .inr hk) (fun k hk => ⟨.inr hk, fun he => hd k (he ▸ hFg) hk⟩))
  refine h.merge q p hn hq hp (LW.row k74 74 w0.heap.size (.slice (some ⟨g, 0, none⟩) n c) (xs.set i.toNat ⟨a, ys, []⟩) (fun k => F k ∨ G k)) (fun k hk => hk) hP.1 (below_set (below_set (below_set h.b hbg.1) hbg.1) hbg.1) ⟨?_, fun k hk hne => ?_⟩
  · simp [World.setCell]
  · have hkg : k ≠ g := fun he => hne (he ▸ hFg)
    rw [Below.heap_setCell _ _ _ k hkg, Below.heap_setCell _ _ _ k hkg, Below.heap_setCell _ _ _ k hkg]
end Go.Proofs.YtmgeffgcihfpcaaDoor.F

namespace Go.Proofs.YtmgeffgcihfpcaaDoor.F
open Go.RowKit Go.Proofs.YtmgeffgcihfpcaaDoorW.PrintWords Go.Proofs.YtmgeffgcihfpcaaDoorW.PrintLast Go.Proofs.YtmgeffgcihfpcaaDoorW.PrintMore
open Go.Proofs.YtmgeffgcihfpcaaDoor
set_option linter.unusedVariables false
set_option linter.unusedSimpArgs false
def impl_syncFile.f (k : Nat) (l0_0 : List S74) (a1 : ByteArray) : Option (List S74 × Bool) := (impl_copyDisk.f k l0_0).bind fun o => (impl_fileOf.f l0_0 a1).bind fun i => (impl_isDisk.f k l0_0).bind fun t => if t = true then (if i < 0 then some (o, false) else (if i < (l0_0.length : Int) then (if i < (o.length : Int) then (impl_File_content.f (rd_T74 l0_0 i).f0 (rd_T74 l0_0 i).f1 (rd_T74 l0_0 i).f2).bind fun b => some (o.set i.toNat (⟨a1, b, []⟩ : S74), true) else none) else none)) else some (o, false)
set_option maxHeartbeats 8000000 in
set_option maxRecDepth 100000 in
theorem impl_syncFile.calls (k : Nat) (A0_0 : Option Addr) (c0_0 : Nat) (l0_0 : List S74) (a1 : ByteArray) (r1 : List S74) (r2 : Bool) (w : World) (hr0_0 : Kd.C k74 w A0_0 l0_0.length l0_0) (hc0_0 : l0_0.length ≤ c0_0) (h : impl_syncFile.f k l0_0 a1 = some (r1, r2)) :
    Calls Tryd.prog 71 #[.agg #[.slice A0_0 l0_0.length c0_0], .string a1] w fun e w' => ∃ v0_ : Value, e = .returned (.tuple #[.agg #[v0_], .bool r2]) ∧ Kd.S k74 74 w' w.heap.size (fun _ => True) v0_ r1 ∧ Below w.heap.size w w' := by
  have HR := Aside0.mk hr0_0
  have HC := Aside0.mk hc0_0
  clear hr0_0 hc0_0
  have ST := Aside0.mk (LW.St.start w)
  unfold impl_syncFile.f at h
  replace h := Option.bind_eq_some_iff.mp h
  obtain ⟨o, HA1, h⟩ := h
  replace h := Option.bind_eq_some_iff.mp h
  obtain ⟨i, HA2, h⟩ := h
  replace h := Option.bind_eq_some_iff.mp h
  obtain ⟨t, HA3, h⟩ := h
  replace HA1 := Aside0.mk HA1
  replace HA2 := Aside0.mk HA2
  replace HA3 := Aside0.mk HA3
  have H := Aside0.mk h
  clear h
  go_enter Tryd.func71, Tryd.ntmps71
  go_wp2_with fail
  replace ST := Aside0.mk (ST.out.alloc #[.slice A0_0 l0_0.length c0_0] 29 (g := w.heap.size) rfl)
  replace ST := Aside0.mk (ST.out.alloc #[.slice none 0 0] 29 (g := w.heap.size + 1) (by simp))
  with_reducible refine (impl_copyDisk.calls k _ _ l0_0 o _ (Kd.C_below HR.out ST.out.b) HC.out HA1.out).mono ?_
  rintro e w1 ⟨v1, rfl, ho, hb⟩
  obtain ⟨A1, c1, rfl⟩ := Kd.S_slice ho
  replace ST := Aside0.mk (ST.out.row hb ho)
  clear hb ho
  have hc1 := ST.out.cell 1 rfl 0 (u := .slice none 0 0) rfl
  have hl1 := ST.out.lt 1 rfl
  have hc2 := ST.out.cell 2 rfl 0 (u := .slice A0_0 l0_0.length c0_0) rfl
  have hl2 := ST.out.lt 2 rfl
  go_wp2_with fail
  replace ST := Aside0.mk (ST.out.alloc #[.slice A1 o.length c1] 29 (g := w1.heap.size) rfl)
  with_reducible refine (impl_fileOf.calls _ _ l0_0 a1 i _ (Kd.C_below HR.out ST.out.b) HC.out HA2.out).mono ?_
  rintro e w2 ⟨rfl, hb⟩
  replace ST := Aside0.mk (ST.out.step hb)
  clear hb
  clear hc1 hl1 hc2 hl2
  have hc1 := ST.out.cell 0 rfl 0 (u := .slice A1 o.length c1) rfl
  have hl1 := ST.out.lt 0 rfl
  have hc2 := ST.out.cell 3 rfl 0 (u := .slice A0_0 l0_0.length c0_0) rfl
  have hl2 := ST.out.lt 3 rfl
  go_wp2_with fail
  with_reducible refine (impl_isDisk.calls k _ _ l0_0 t _ (Kd.C_below HR.out ST.out.b) HC.out HA3.out).mono ?_
  rintro e w3 ⟨rfl, hb⟩
  replace ST := Aside0.mk (ST.out.step hb)
  clear hb
  clear hc1 hl1 hc2 hl2
  have hc1 := ST.out.cell 0 rfl 0 (u := .slice A1 o.length c1) rfl
  have hl1 := ST.out.lt 0 rfl
  have hc2 := ST.out.cell 2 rfl 0 (u := .slice none 0 0) rfl
  have hl2 := ST.out.lt 2 rfl
  have h := H.out
  clear H
  by_cases ct : t = true
  · subst ct
    rw [if_pos rfl] at h
    by_cases ci : i < 0
    · rw [if_pos ci] at h
      obtain ⟨rfl, rfl⟩ := Prod.mk.inj (Option.some.inj h)
      clear h
      have cib : decide (i < 0) = true := decide_eq_true ci
      clear ci
      have hf2 := ST.out.frozen 2 rfl 0
      go_wp2_with fail
      replace ST := Aside0.mk (ST.out.set 2 rfl 0 (.slice A1 o.length c1))
      refine bodyPost_ret (results_ct rfl _ _ (w.heap.size + 1) 29 #[.slice A1 o.length c1] (0, 0) _ rfl (ST.out.blk 2 rfl) Tryd.underlying29 rfl (by kernel_rfl)) rfl ?_
      exact ⟨_, rfl, Kd.S_mono (ST.out.own 1 rfl) (fun _ _ => trivial), ST.out.b⟩
    · rw [if_neg ci] at h
      by_cases cl : i < (l0_0.length : Int)
      · rw [if_pos cl] at h
        by_cases cj : i < (o.length : Int)
        · rw [if_pos cj] at h
          replace h := Option.bind_eq_some_iff.mp h
          obtain ⟨b, HA4, h⟩ := h
          obtain ⟨rfl, rfl⟩ := Prod.mk.inj (Option.some.inj h)
          replace HA4 := Aside0.mk HA4
          clear h
          have cib : decide (i < 0) = false := decide_eq_false ci
          have ci0 : 0 ≤ i := by omega
          obtain ⟨g, cg, hv, _, _, _⟩ := Kd.S_form (ST.out.own 1 rfl) (by omega)
          injection hv with hv1 hv2 hv3
          subst hv1
          have HI0 := Aside0.mk ci0
          have HIL := Aside0.mk cl
          have HIO := Aside0.mk cj
          have ci0b := eq_true ci0
          have clb := eq_true cl
          have cjb := eq_true cj
          clear ci cl cj ci0 hv2 hv3
          obtain ⟨ad, B1, d1, B2, d2, e, hx0, hx1, hx2, hl1', hi1, hl2', hi2⟩ := at_T74 HR.out i HI0.out HIL.out
          cases e
          go_wp2_with fail
          clear hc1 hl1 hc2 hl2
          have E0 := Aside0.mk hx0
          have E1 := Aside0.mk hx1
          have E2 := Aside0.mk hx2
          have HI1 := Aside0.mk hi1
          have HL1 := Aside0.mk hl1'
          have HI2 := Aside0.mk hi2
          have HL2 := Aside0.mk hl2'
          clear hx0 hx1 hx2 hl1' hi1 hl2' hi2
          replace ST := Aside0.mk ST.out.drew
          refine start_ (n := 13) (S := fun w' => w'.cell? ⟨w1.heap.size, 0, none⟩ = some (.slice (some ⟨g, 0, none⟩) o.length c1) ∧ w'.cell? ⟨w.heap.size, 0, none⟩ = some (.slice (some ad) l0_0.length c0_0) ∧ w'.cell? (ad.add (i.toNat * 3)) = some (.string (rd_T74 l0_0 i).f0) ∧ w'.cell? ⟨(ad.add (i.toNat * 3)).block, (ad.add (i.toNat * 3)).off + 1, none⟩ = some (.slice B1 (rd_T74 l0_0 i).f1.length d1) ∧ w'.cell? ⟨(ad.add (i.toNat * 3)).block, (ad.add (i.toNat * 3)).off + 2, none⟩ = some (.slice B2 (rd_T74 l0_0 i).f2.length d2)) (ds := [12]) #[false, false, false, false, false, false, false, false, false, false, false, false, false] (by kernel_rfl) rfl rfl ⟨ST.out.cell 0 rfl 0 rfl, ST.out.cell 3 rfl 0 rfl, (ST.out.b.cell (World.block_lt_of_cell? w _ E0.out)).trans E0.out, (ST.out.b.cell (World.block_lt_of_cell? w _ E1.out)).trans E1.out, (ST.out.b.cell (World.block_lt_of_cell? w _ E2.out)).trans E2.out⟩ (fun hHeld => ?_)
          generalize w3.drew = w4 at ST hHeld ⊢
          refine pure_ (i := 0) (N := some 21) (v := ?_) (a' := ?_) #[true, false, false, false, false, false, false, false, false, false, false, false, false] rfl rfl (by kernel_rfl) (fun _ _ _ h => h) (Or.inl ⟨by rfl, ?_⟩) ?_ ?_
          rotate_left
          · intro w'
            go_simp
            with_reducible rfl
          rotate_left
          · simp only [Act.put, List.setIfInBounds_toArray, List.set_cons_zero, List.set_cons_succ, i64_w, i32_w]
            rfl
          refine pure_ (i := 2) (N := some 23) (v := ?_) (a' := ?_) #[true, false, true, false, false, false, false, false, false, false, false, false, false] rfl rfl (by kernel_rfl) (fun _ _ _ h => h) (Or.inl ⟨by rfl, ?_⟩) ?_ ?_
          rotate_left
          · intro w'
            go_simp
            with_reducible rfl
          rotate_left
          · simp only [Act.put, List.setIfInBounds_toArray, List.set_cons_zero, List.set_cons_succ, i64_w, i32_w]
            rfl
          refine pure_ (i := 3) (N := some 24) (v := ?_) (a' := ?_) #[true, false, true, true, false, false, false, false, false, false, false, false, false] rfl rfl (by kernel_rfl) (fun _ _ _ h => h) (Or.inl ⟨by rfl, ?_⟩) ?_ ?_
          rotate_left
          · intro w'
            go_simp
            with_reducible rfl
          rotate_left
          · simp only [Act.put, List.setIfInBounds_toArray, List.set_cons_zero, List.set_cons_succ, i64_w, i32_w]
            rfl
          refine pure_ (i := 4) (N := some 25) (v := ?_) (a' := ?_) #[true, false, true, true, true, false, false, false, false, false, false, false, false] rfl rfl (by kernel_rfl) (fun _ _ _ h => h) (Or.inl ⟨by rfl, ?_⟩) ?_ ?_
          rotate_left
          · intro w'
            go_simp
            with_reducible rfl
          rotate_left
          · simp only [Act.put, List.setIfInBounds_toArray, List.set_cons_zero, List.set_cons_succ, i64_w, i32_w]
            rfl
          refine pure_ (i := 6) (N := some 27) (v := ?_) (a' := ?_) #[true, false, true, true, true, false, true, false, false, false, false, false, false] rfl rfl (by kernel_rfl) (fun _ _ _ h => h) (Or.inl ⟨by rfl, ?_⟩) ?_ ?_
          rotate_left
          · intro w'
            go_simp
            with_reducible rfl
          rotate_left
          · simp only [Act.put, List.setIfInBounds_toArray, List.set_cons_zero, List.set_cons_succ, i64_w, i32_w]
            rfl
          refine take_ (i := 1) (N := some 22) (v := ?_) (a' := ?_) #[true, true, true, true, true, false, true, false, false, false, false, false, false] rfl rfl (by kernel_rfl) (fun _ _ _ h => h) (Or.inl ⟨by rfl, ?_⟩) hHeld ?_ ?_
          rotate_left
          · rintro w' ⟨s0, s1, s2, s3, s4⟩
            go_simp
            with_reducible rfl
          rotate_left
          · simp only [Act.put, List.setIfInBounds_toArray, List.set_cons_zero, List.set_cons_succ, i64_w, i32_w]
            rfl
          refine take_ (i := 5) (N := some 26) (v := ?_) (a' := ?_) #[true, true, true, true, true, true, true, false, false, false, false, false, false] rfl rfl (by kernel_rfl) (fun _ _ _ h => h) (Or.inl ⟨by rfl, ?_⟩) hHeld ?_ ?_
          rotate_left
          · rintro w' ⟨s0, s1, s2, s3, s4⟩
            go_simp
            with_reducible rfl
          rotate_left
          · simp only [Act.put, List.setIfInBounds_toArray, List.set_cons_zero, List.set_cons_succ, i64_w, i32_w]
            rfl
          refine pure_ (i := 7) (N := some 28) (v := ?_) (a' := ?_) #[true, true, true, true, true, true, true, true, false, false, false, false, false] rfl rfl (by kernel_rfl) (fun _ _ _ h => h) (Or.inl ⟨by rfl, ?_⟩) ?_ ?_
          rotate_left
          · intro w'
            go_simp
            with_reducible rfl
          rotate_left
          · simp only [Act.put, List.setIfInBounds_toArray, List.set_cons_zero, List.set_cons_succ, i64_w, i32_w]
            rfl
          refine take_ (i := 8) (N := some 29) (v := ?_) (a' := ?_) #[true, true, true, true, true, true, true, true, true, false, false, false, false] rfl rfl (by kernel_rfl) (fun _ _ _ h => h) (Or.inl ⟨by rfl, ?_⟩) hHeld ?_ ?_
          rotate_left
          · rintro w' ⟨s0, s1, s2, s3, s4⟩
            go_simp
            with_reducible rfl
          rotate_left
          · simp only [Act.put, List.setIfInBounds_toArray, List.set_cons_zero, List.set_cons_succ, i64_w, i32_w]
            rfl
          refine one_ (i := 9) (N := some 30) #[true, true, true, true, true, true, true, true, true, true, false, false, false] rfl rfl (by kernel_rfl) (by decide) (fun K hK => ?_)
          refine goes_ Tryd.func64 (by kernel_rfl) rfl #[.agg #[.string (rd_T74 l0_0 i).f0, .slice B1 (rd_T74 l0_0 i).f1.length d1, .slice B2 (rd_T74 l0_0 i).f2.length d2]] (by rfl) rfl rfl (by (try simp only [List.map_toArray, List.map_cons, List.map_nil]); first | done | rfl) ?_
          with_reducible refine (impl_File_content.calls (rd_T74 l0_0 i).f0 _ _ (rd_T74 l0_0 i).f1 _ _ (rd_T74 l0_0 i).f2 b _ (Kd.C_below HI1.out ST.out.b) HL1.out (Kd.C_below HI2.out ST.out.b) HL2.out HA4.out).mono ?_
          rintro e w5 ⟨v5, rfl, ho, hb⟩
          refine ⟨_, rfl, ?_⟩
          obtain ⟨A5, c5, rfl⟩ := Kd.R_slice ho
          replace ST := Aside0.mk (ST.out.rowR rfl hb ho)
          clear hb ho
          refine hK.out _ _ ⟨ST.out.cell 1 rfl 0 rfl, ST.out.cell 4 rfl 0 rfl, (ST.out.b.cell (World.block_lt_of_cell? w _ E0.out)).trans E0.out, (ST.out.b.cell (World.block_lt_of_cell? w _ E1.out)).trans E1.out, (ST.out.b.cell (World.block_lt_of_cell? w _ E2.out)).trans E2.out⟩ (fun hHeld => ?_)
          clear hK K
          refine norm_ (a' := ?_) ?_ ?_
          rotate_left
          · show Act.put _ (some 30) _ = _
            simp only [Act.put, List.setIfInBounds_toArray, List.set_cons_zero, List.set_cons_succ, i64_w, i32_w]
            rfl
          obtain ⟨oki, cs, hcl, hM, hcc, hfr, hoki, hH⟩ := Kd.S_elem (ST.out.own 2 rfl) z74 i HI0.out HIO.out
          obtain ⟨pp, u1, u2, rfl, hA1, hA2⟩ := k74_openA hM
          have hy0 : w5.cell? ⟨g, i.toNat * 3, none⟩ = some (.string (o.getD i.toNat z74).f0) := hcc 0 _ rfl
          have hy1 : w5.cell? ⟨g, i.toNat * 3 + 1, none⟩ = some u1 := hcc 1 _ rfl
          have hy2 : w5.cell? ⟨g, i.toNat * 3 + 2, none⟩ = some u2 := hcc 2 _ rfl
          have hf0 : w5.frozen? ⟨g, i.toNat * 3, none⟩ = false := hfr 0
          have hf1 : w5.frozen? ⟨g, i.toNat * 3 + 1, none⟩ = false := hfr 1
          have hf2 : w5.frozen? ⟨g, i.toNat * 3 + 2, none⟩ = false := hfr 2
          clear hcl hM hcc hfr hoki hH hA1 hA2
          refine pure_ (i := 10) (N := some 31) (v := ?_) (a' := ?_) #[true, true, true, true, true, true, true, true, true, true, true, false, false] rfl rfl (by kernel_rfl) (fun _ _ _ h => h) (Or.inl ⟨by rfl, ?_⟩) ?_ ?_
          rotate_left
          · intro w'
            go_simp
            with_reducible rfl
          rotate_left
          · simp only [Act.put, List.setIfInBounds_toArray, List.set_cons_zero, List.set_cons_succ, i64_w, i32_w]
            rfl
          refine pure_ (i := 11) (N := some 32) (v := ?_) (a' := ?_) #[true, true, true, true, true, true, true, true, true, true, true, true, false] rfl rfl (by kernel_rfl) (fun _ _ _ h => h) (Or.inl ⟨by rfl, ?_⟩) ?_ ?_
          rotate_left
          · intro w'
            go_simp
            with_reducible rfl
          rotate_left
          · simp only [Act.put, List.setIfInBounds_toArray, List.set_cons_zero, List.set_cons_succ, i64_w, i32_w]
            rfl
          refine last_ (i := 12) (N := none) #[true, true, true, true, true, true, true, true, true, true, true, true, true] rfl rfl (by kernel_rfl) (by decide) (fun K hK => ?_)
          refine skip_ (w1 := ?_) (by rfl) rfl ?_ ?_
          rotate_left
          · go_simp
            rfl
          refine hK.out _ _ ?_
          clear hK K
          refine done_ (by kernel_rfl) ?_
          clear hy0 hy1 hy2 hf0 hf1 hf2 hHeld
          replace ST := Aside0.mk (setFile ST.out 2 0 (by decide) rfl rfl i HI0.out HIO.out a1)
          generalize (((w5.setCell ⟨g, i.toNat * 3, none⟩ (.string a1)).setCell ⟨g, i.toNat * 3 + 1, none⟩ (.slice A5 b.length c5)).setCell ⟨g, i.toNat * 3 + 2, none⟩ (.slice none 0 0)) = w6 at ST ⊢
          have hc1 := ST.out.cell 1 rfl 0 (u := .slice (some ⟨g, 0, none⟩) o.length c1) rfl
          have hl1 := ST.out.lt 1 rfl
          have hc2 := ST.out.cell 3 rfl 0 (u := .slice none 0 0) rfl
          have hl2 := ST.out.lt 3 rfl
          have hf2 := ST.out.frozen 3 rfl 0
          go_wp2
          replace ST := Aside0.mk (ST.out.set 3 rfl 0 (.slice (some ⟨g, 0, none⟩) o.length c1))
          refine bodyPost_ret (results_ct rfl _ _ (w.heap.size + 1) 29 #[.slice (some ⟨g, 0, none⟩) o.length c1] (0, 0) _ rfl (ST.out.blk 3 rfl) Tryd.underlying29 rfl (by kernel_rfl)) rfl ?_
          exact ⟨_, rfl, Kd.S_mono (ST.out.own 2 rfl) (fun _ _ => trivial), ST.out.b⟩
        · rw [if_neg cj] at h
          exact absurd h (by simp)
      · rw [if_neg cl] at h
        exact absurd h (by simp)
  · rw [if_neg ct] at h
    obtain rfl : t = false := by simpa using ct
    obtain ⟨rfl, rfl⟩ := Prod.mk.inj (Option.some.inj h)
    clear h ct
    have hf2 := ST.out.frozen 2 rfl 0
    go_wp2_with fail
    replace ST := Aside0.mk (ST.out.set 2 rfl 0 (.slice A1 o.length c1))
    refine bodyPost_ret (results_ct rfl _ _ (w.heap.size + 1) 29 #[.slice A1 o.length c1] (0, 0) _ rfl (ST.out.blk 2 rfl) Tryd.underlying29 rfl (by kernel_rfl)) rfl ?_
    exact ⟨_, rfl, Kd.S_mono (ST.out.own 1 rfl) (fun _ _ => trivial), ST.out.b⟩
end Go.Proofs.YtmgeffgcihfpcaaDoor.F

namespace Go.Proofs.YtmgeffgcihfpcaaDoor.F
open Go.RowKit Go.Proofs.YtmgeffgcihfpcaaDoorW.PrintWords Go.Proofs.YtmgeffgcihfpcaaDoorW.PrintWords.Kd Go.Proofs.YtmgeffgcihfpcaaDoorW.PrintMore.Kd Go.Proofs.YtmgeffgcihfpcaaDoorW.PrintLast Go.Proofs.YtmgeffgcihfpcaaDoorW.PrintMore
attribute [local go_sem] max2_int min2_int max_two min_two max_three min_three max_four min_four   -- for this text's walks alone
set_option linter.unusedVariables false
set_option linter.unusedSimpArgs false
def impl_SyncFile.f (k : Nat) (l0_0 : List (S74)) (a1 : ByteArray) : Option ((List (S74)) × Bool) := (impl_syncFile.f k l0_0 a1).bind fun bt338 => (some (bt338.1, bt338.2))
set_option maxHeartbeats 8000000 in
set_option maxRecDepth 100000 in
theorem impl_SyncFile.calls (k : Nat) (A0_0 : Option Addr) (c0_0 : Nat) (l0_0 : List (S74)) (a1 : ByteArray) (r1 : List (S74)) (r2 : Bool) (w : World) (hr0_0 : Kd.C k74 w A0_0 l0_0.length l0_0) (hc0_0 : l0_0.length ≤ c0_0) (h : impl_SyncFile.f k l0_0 a1 = some (r1, r2)) :
  Calls Tryd.prog 29 #[.agg #[.slice A0_0 l0_0.length c0_0], .string a1] w fun e w' => ∃ v0_ : Value, e = .returned (.tuple #[.agg #[v0_], .bool r2]) ∧ Kd.S k74 74 w' w.heap.size (fun _ => True) v0_ r1 ∧ Below w.heap.size w w' := by
 have hu29 := Tryd.underlying29
 have HR0_0 := Aside0.mk hr0_0
 have HC0_0 := Aside0.mk hc0_0
 clear hr0_0 hc0_0
 have HB := Aside0.mk (Below.refl w.heap.size w)
 have H : ((impl_syncFile.f k l0_0 a1).bind fun bt338 => (some (bt338.1, bt338.2))) = some (r1, r2) := h
 clear h
 replace H := Option.bind_eq_some_iff.mp H
 obtain ⟨⟨t338, t341⟩, A30, H⟩ := H
 replace H : (some (t338, t341)) = some (r1, r2) := H
 have A3 := Aside0.mk A30
 clear A30
 simp only [Option.some.injEq, Prod.mk.injEq] at H
 obtain ⟨rfl, rfl⟩ := H
 go_enter Tryd.func29, Tryd.ntmps29
 go_wp2_with (first | ((with_reducible refine gate_dst (N := 2) rfl ?_); refine box_event ?hg (N := 2) ?hd (cs := #[.slice A0_0 l0_0.length c0_0]) (t := 29) ?hr ?_; (case hd => rfl); (case hg => rfl); (case hr => first | (go_simp; done) | (go_simp; rfl)); intro gb336 hg w4 hbox hb; have n0_ := Aside0.mk (below_step (by repeat (first | (with_reducible first | exact HB.out | apply below_alloc | apply pw_below_drewN | apply below_drew1) | exact HB.out)) hb); have n1_ := Aside0.mk (hbox); have n2_ := Aside0.mk ((by rw [hg]; exact (below_size (by repeat (first | (with_reducible first | exact HB.out | apply below_alloc | apply pw_below_drewN | apply below_drew1) | exact HB.out))) : w.heap.size ≤ gb336)); have n3_ := Aside0.mk ((by rw [hg]; exact (below_size (by repeat (first | (with_reducible first | exact HB.out | apply below_alloc | apply pw_below_drewN | apply below_drew1) | exact HB.out))) : w.heap.size ≤ gb336)); clear HB; have HB := n0_; have BK336 := n1_; have GW336 := n2_; have GE336 := n3_; clear n0_ n1_ n2_ n3_; clear hb hbox hg) | ((with_reducible refine gate_dst (N := 4) rfl ?_); refine box_event ?hg (N := 4) ?hd (cs := #[.slice none 0 0]) (t := 29) ?hr ?_; (case hd => rfl); (case hg => rfl); (case hr => first | (go_simp; done) | (go_simp; rfl)); intro gb337 hg w5 hbox hb; have n0_ := Aside0.mk (blk_below (g := gb336) (o := .cells #[.slice A0_0 l0_0.length c0_0] 29 (0, 0)) (by (with_reducible repeat (first | refine blk_drewN ?_ _ | refine blk_drew ?_ | refine blk_alloc ?_ _)); exact BK336.out) hb); have n1_ := Aside0.mk (below_step (by repeat (first | (with_reducible first | exact HB.out | apply below_alloc | apply pw_below_drewN | apply below_drew1 | refine below_set ?_ GE336.out) | exact HB.out)) hb); have n2_ := Aside0.mk (hbox); have n3_ := Aside0.mk ((by rw [hg]; exact (below_size (by repeat (first | (with_reducible first | exact HB.out | apply below_alloc | apply pw_below_drewN | apply below_drew1 | refine below_set ?_ GE336.out) | exact HB.out))) : w.heap.size ≤ gb337)); have n4_ := Aside0.mk ((by rw [hg]; exact (below_size (by repeat (first | (with_reducible first | exact HB.out | apply below_alloc | apply pw_below_drewN | apply below_drew1 | refine below_set ?_ GE336.out) | exact HB.out))) : w.heap.size ≤ gb337)); have n5_ := Aside0.mk ((by rw [hg]; exact Nat.ne_of_lt (blk_lt (g := gb336) (o := .cells #[.slice A0_0 l0_0.length c0_0] 29 (0, 0)) (by (with_reducible repeat (first | refine blk_drewN ?_ _ | refine blk_drew ?_ | refine blk_alloc ?_ _)); exact BK336.out)) : gb336 ≠ gb337)); have n6_ := Aside0.mk ((by rw [hg]; exact Nat.ne_of_gt (blk_lt (g := gb336) (o := .cells #[.slice A0_0 l0_0.length c0_0] 29 (0, 0)) (by (with_reducible repeat (first | refine blk_drewN ?_ _ | refine blk_drew ?_ | refine blk_alloc ?_ _)); exact BK336.out)) : gb337 ≠ gb336)); clear BK336; clear HB; have BK336 := n0_; have HB := n1_; have BK337 := n2_; have GW337 := n3_; have GE337 := n4_; have NB336_337 := n5_; have NB337_336 := n6_; clear n0_ n1_ n2_ n3_ n4_ n5_ n6_; clear hb hbox hg; have hnb6 := NB336_337.out; have hnc6 := NB337_336.out; have hcz7_0 : w5.cell? ⟨gb336, 0, none⟩ = some (.slice A0_0 l0_0.length c0_0) := (blk_cell BK336.out 0).trans rfl; have hfz7_0 := blk_frozen BK336.out 0) | ((with_reducible refine gate_callee (f := 71) rfl ?_); refine goesL_ (some 8) rfl rfl Tryd.func71 (by kernel_rfl) rfl #[.agg #[.slice A0_0 l0_0.length c0_0], .string a1] rfl (by (try simp only [List.map_toArray, List.map_cons, List.map_nil]); first | done | rfl | (simp only [List.length_drop, List.length_take]; rfl)) ?_; (with_reducible refine (impl_syncFile.calls k _ _ l0_0 a1 t338 t341 _ ?side1 ?side2 A3.out).mono ?_); (case side1 => repeat (first | exact (C_below HR0_0.out HB.out) | (with_reducible refine C_alloc ?_ _) | (with_reducible refine C_drewN ?_ _) | (with_reducible refine C_drew ?_))); (case side2 => exact HC0_0.out); rintro e w8 ⟨v339, rfl, ho0, hb⟩; refine ⟨_, rfl, ?_⟩; have n0_ := Aside0.mk (S_lower ho0 (below_size (by repeat (first | (with_reducible first | exact HB.out | apply below_alloc | apply pw_below_drewN | apply below_drew1 | refine below_set ?_ GE336.out | refine below_set ?_ GE337.out) | exact HB.out)))); have n1_ := Aside0.mk (blk_below (g := gb336) (o := .cells #[.slice A0_0 l0_0.length c0_0] 29 (0, 0)) (by (with_reducible repeat (first | refine blk_drewN ?_ _ | refine blk_drew ?_ | refine blk_alloc ?_ _)); exact BK336.out) hb); have n2_ := Aside0.mk (blk_below (g := gb337) (o := .cells #[.slice none 0 0] 29 (0, 0)) (by (with_reducible repeat (first | refine blk_drewN ?_ _ | refine blk_drew ?_ | refine blk_alloc ?_ _)); exact BK337.out) hb); have n3_ := Aside0.mk (below_step (by repeat (first | (with_reducible first | exact HB.out | apply below_alloc | apply pw_below_drewN | apply below_drew1 | refine below_set ?_ GE336.out | refine below_set ?_ GE337.out) | exact HB.out)) hb); clear BK336; clear BK337; clear HB; have HO340 := n0_; have BK336 := n1_; have BK337 := n2_; have HB := n3_; clear n0_ n1_ n2_ n3_; (try clear hb); (try clear hb2); (try clear hk); (try clear hi); (try clear ho0); obtain ⟨Ao9, co9, eo9⟩ := S_slice HO340.out; subst eo9; have hcz10_0 : w8.cell? ⟨gb337, 0, none⟩ = some (.slice none 0 0) := (blk_cell BK337.out 0).trans rfl; have hfz10_0 := blk_frozen BK337.out 0))
 refine bodyPost_ret (results_ct rfl _ _ gb337 29 #[.slice Ao9 t338.length co9] (0, 0) _ rfl (by (with_reducible repeat (first | refine blk_drewN ?_ _ | refine blk_drew ?_ | refine blk_alloc ?_ _)); refine blk_put (cs := #[.slice none 0 0]) ?_ 0 _ rfl; (with_reducible repeat (first | refine blk_drewN ?_ _ | refine blk_drew ?_ | refine blk_alloc ?_ _)); exact BK337.out) Tryd.underlying29 rfl (by kernel_rfl)) rfl ?_
 exact ⟨_, by first | rfl | (simp [errW_none, errW_some] <;> rfl) | (simp [*, errW_none, errW_some] <;> rfl), by (with_reducible repeat (first | apply S_alloc | apply S_drewN | apply S_drew)); exact S_mono (S_far (p := ⟨gb337, 0, none⟩) (S_types HO340.out BK337.out (by decide)) (fun _ hk => hk.2) (.slice Ao9 t338.length co9)) (fun _ hk => trivial), by repeat (first | (with_reducible first | exact HB.out | apply below_alloc | apply pw_below_drewN | apply below_drew1 | refine below_set ?_ GE336.out | refine below_set ?_ GE337.out) | exact HB.out)⟩
end Go.Proofs.YtmgeffgcihfpcaaDoor.F

namespace Go.Proofs.YtmgeffgcihfpcaaDoor.F
open Go.RowKit Go.Proofs.YtmgeffgcihfpcaaDoorW.PrintWords Go.Proofs.YtmgeffgcihfpcaaDoorW.PrintWords.Kd Go.Proofs.YtmgeffgcihfpcaaDoorW.PrintMore.Kd Go.Proofs.YtmgeffgcihfpcaaDoorW.PrintLast Go.Proofs.YtmgeffgcihfpcaaDoorW.PrintMore
attribute [local go_sem] max2_int min2_int max_two min_two max_three min_three max_four min_four   -- for this text's walks alone
set_option linter.unusedVariables false
set_option linter.unusedSimpArgs false
def laws_markByteS.l0 : Nat → List Int → Int → Int → Option (Int × List Int)
 | 0, _, _, _ => none
 | k + 1, x0, x1, x5 => if x5 < (x0.length : Int) then (if 0 ≤ x5 then (laws_markByteS.l0 k (x0.set (x5 : Int).toNat ((x1) % 256)) (wrap64 (x1 + 1)) (wrap64 (x5 + 1))) else (none)) else (some (x1, x0))
def laws_markByteS.f (k : Nat) (l0 : List Int) (a1 : Int) : Option (Int × List Int) := laws_markByteS.l0 k l0 a1 0
set_option maxHeartbeats 8000000 in
set_option maxRecDepth 100000 in
theorem laws_markByteS.calls (k : Nat) (P0_ : Nat → Prop) (u9000_ : Value) (l0 : List Int) (a1 : Int) (r1 : Int) (r2 : List Int) (w0 w : World) (hB : Below w0.heap.size w0 w) (ho0 : Kd.R (Kd.int .u8) 5 w w0.heap.size P0_ u9000_ l0) (h : laws_markByteS.f k l0 a1 = some (r1, r2)) :
  Calls Tryd.prog 23 #[u9000_, .int .i64 a1] w fun e w' => e = .returned (.int .i64 r1) ∧ Kd.R (Kd.int .u8) 5 w' w0.heap.size (fun k_ => (P0_ k_ ∨ w.heap.size ≤ k_)) u9000_ r2 ∧ Below w0.heap.size w0 w' ∧ Kept w w' (fun k_ => P0_ k_) := by
 have HO0 := Aside0.mk (show Kd.R (Kd.int .u8) 5 w w0.heap.size (fun k_ => (P0_ k_ ∨ w.heap.size ≤ k_)) u9000_ l0 from R_mono ho0 (fun k_ hk => (.inl hk)))
 have HK := Aside0.mk (Kept.refl w (fun k_ => P0_ k_))
 have HW0 := Aside0.mk hB.size
 have HB := Aside0.mk hB
 clear hB
 have H : (laws_markByteS.l0 k l0 a1 0) = some (r1, r2) := h
 clear h
 have H' := Aside0.mk H
 clear H
 go_enter Tryd.func23, Tryd.ntmps23
 go_wp2
 go_loopg [1, 5] k (fun kq v1 v5 w' => ∃ (x0_1 : List Int) (x1_1 : Int) (x5_1 : Int), v1 = .int .i64 x1_1 ∧ v5 = .int .i64 x5_1 ∧ Aside0 (laws_markByteS.l0 kq x0_1 x1_1 x5_1 = some (r1, r2)) ∧ Aside0 (kq ≤ k) ∧ Aside0 (Kd.R (Kd.int .u8) 5 w' w0.heap.size (fun k_ => (P0_ k_ ∨ w.heap.size ≤ k_)) u9000_ x0_1) ∧ Aside0 (Kept w w' (fun k_ => P0_ k_)) ∧ Aside0 (Below w0.heap.size w0 w'))
 case atStart => exact ⟨(l0), (a1), (0), (by first | rfl | (simp; done) | (simp [*]; done)), (by first | rfl | (simp; done) | (simp [*]; done)), H', ⟨Nat.le_refl _⟩, ⟨by (with_reducible repeat (first | apply R_alloc | apply R_drewN | apply R_drew)); exact HO0.out⟩, ⟨by repeat (first | (with_reducible first | exact HK.out | apply Kept.alloc | apply Kept.drewN | apply Kept.drew) | exact HK.out)⟩, ⟨by repeat (first | (with_reducible first | exact HB.out | apply below_alloc | apply pw_below_drewN | apply below_drew1) | exact HB.out)⟩⟩
 case round =>
  clear H'
  try clear c2
  try clear p2
  obtain ⟨x0_1, x1_1, x5_1, rfl, rfl, HA, HK1, HO_0, HK, HB⟩ := hrel
  cases gk with
  | zero => exact absurd HA.out (by simp [laws_markByteS.l0])
  | succ k1 =>
   have H := HA.out
   clear HA
   simp only [laws_markByteS.l0] at H
   by_cases c3 : x5_1 < (x0_1.length : Int)
   ·
    rw [if_pos c3] at H
    have c3b0 : decide (x5_1 < (x0_1.length : Int)) = true := decide_eq_true c3
    clear c3
    by_cases c4 : 0 ≤ x5_1
    ·
     rw [if_pos c4] at H
     have c4b0 : decide (0 ≤ x5_1) = true := decide_eq_true c4
     clear c4
     obtain ⟨y223, hy223⟩ : ∃ y_ : List Int, y_ = (x0_1.set (x5_1 : Int).toNat ((x1_1) % 256)) := ⟨_, rfl⟩
     replace H : (laws_markByteS.l0 k1 y223 (wrap64 (x1_1 + 1)) (wrap64 (x5_1 + 1))) = some (r1, r2) := by first | (rw [hy223]; with_reducible exact H) | (have H2_ := (Option.bind_some _ _).symm.trans H; rw [hy223]; with_reducible exact H2_) | (have H2_ := (Option.bind_some _ _).symm.trans H; with_reducible exact H2_) | with_reducible exact H | (rw [hy223]; exact H) | exact H
     have Ny223 := Aside0.mk hy223
     clear hy223
     have H' := Aside0.mk H
     clear H
     obtain ⟨Ao6, co6, eo6⟩ := R_slice HO_0.out
     subst eo6
     have p5 : 0 ≤ (x5_1 : Int) := of_decide_eq_true (by first | (with_reducible assumption) | assumption)
     have q5 : (x5_1 : Int) < ((x0_1.length : Int) : Int) := of_decide_eq_true (by first | (with_reducible assumption) | assumption)
     obtain ⟨go5, co5, eo5, gb5, gl5, cl5, HG5⟩ := R_form HO_0.out (by omega)
     (first | cases eo5 | (injection eo5 with ea_ en_ ec_; (first | subst ea_ | (injection ea_ with ea_; subst ea_)); subst ec_; clear en_))
     have GB5 := Aside0.mk gb5
     have GG5 := Aside0.mk HG5
     clear gb5 gl5 HG5
     have HMgo5 := Aside0.mk (show (P0_ go5 ∨ w.heap.size ≤ go5) from (HO_0.out.1 _ rfl))
     obtain ⟨hx5_0, hf5_0⟩ := R_celln 0 HO_0.out (x5_1 : Int) p5 q5
     replace p5 := eq_true p5
     replace q5 := eq_true q5
     have HP7 := R_putg HO_0.out (x5_1 : Int) ((x1_1) % 256)
     go_wp2_with (first | ((with_reducible refine gate_store (t := 5) (p := 16) rfl ?_); refine store_event (t := 5) (p := 16) (v := ?vo_w8) (w1 := (wr.setCell ⟨go5, (x5_1 : Int).toNat, none⟩ (.int .u8 ((x1_1) % 256)))) ?hg ?ho ?hn ?hr ?_; (case ho => rfl); (case hg => rfl); (case hn => rfl); (case hr => first | (go_simp; done) | (go_simp; rfl)); intro w8 hw; have hg : wr.grownBy w8 (some go5) := (by rw [hw]; exact HP7.2); have hp_ : Kd.R (Kd.int .u8) 5 w8 w0.heap.size (fun k_ => (P0_ k_ ∨ w.heap.size ≤ k_)) (.slice (some ⟨go5, 0, none⟩) x0_1.length co6) y223 := (by rw [hw, Ny223.out]; exact HP7.1); clear HP7; have n0_ := Aside0.mk (hp_); have n1_ := Aside0.mk ((by rw [hw]; exact below_set (HB.out) GB5.out : Below w0.heap.size w0 w8)); have n2_ := Aside0.mk (Kept.of_grown (S := (fun k_ => P0_ k_)) hg (by repeat (first | (with_reducible first | exact HK.out | apply Kept.alloc | apply Kept.drewN | apply Kept.drew) | exact HK.out)) (fun k_ e_ => (HO_0.out.1 k_ e_))); clear HO_0; clear HB; clear HK; have HO_0 := n0_; have HB := n1_; have HK := n2_; clear n0_ n1_ n2_; clear hg hw hp_))
     go_roundg k1
     case measure => have := HK1.out; omega
     case rel => exact ⟨(y223), (wrap64 (x1_1 + 1)), (wrap64 (x5_1 + 1)), (by first | rfl | (simp; done) | (simp [*]; done)), (by first | rfl | (simp; done) | (simp [*]; done)), H', ⟨by have := HK1.out; omega⟩, ⟨by (with_reducible repeat (first | apply R_alloc | apply R_drewN | apply R_drew)); exact HO_0.out⟩, ⟨by repeat (first | (with_reducible first | exact HK.out | apply Kept.alloc | apply Kept.drewN | apply Kept.drew) | exact HK.out)⟩, ⟨by repeat (first | (with_reducible first | exact HB.out | apply below_alloc | apply pw_below_drewN | apply below_drew1) | exact HB.out)⟩⟩
    ·
     rw [if_neg c4] at H
     exact absurd H (by simp)
   ·
    rw [if_neg c3] at H
    have c3b0 : decide (x5_1 < (x0_1.length : Int)) = false := decide_eq_false c3
    clear c3
    simp only [Option.some.injEq, Prod.mk.injEq] at H
    obtain ⟨rfl, rfl⟩ := H
    obtain ⟨Ao9, co9, eo9⟩ := R_slice HO_0.out
    subst eo9
    go_wp2
    go_ret
    exact ⟨by first | rfl | (simp [errW_none, errW_some] <;> rfl) | (simp [*, errW_none, errW_some] <;> rfl), by (with_reducible repeat (first | apply R_alloc | apply R_drewN | apply R_drew)); exact HO_0.out, by repeat (first | (with_reducible first | exact HB.out | apply below_alloc | apply pw_below_drewN | apply below_drew1) | exact HB.out), by repeat (first | (with_reducible first | exact HK.out | apply Kept.alloc | apply Kept.drewN | apply Kept.drew) | exact HK.out)⟩
end Go.Proofs.YtmgeffgcihfpcaaDoor.F

namespace Go.Proofs.YtmgeffgcihfpcaaDoor.F
open Go.RowKit Go.Proofs.YtmgeffgcihfpcaaDoorW.PrintWords Go.Proofs.YtmgeffgcihfpcaaDoorW.PrintLast Go.Proofs.YtmgeffgcihfpcaaDoorW.PrintMore
set_option linter.unusedVariables false
set_option linter.unusedSimpArgs false
def laws_markFileS.l0 : Nat → List S74 → Int → Int → Option (Int × List S74)
  | 0, _, _, _ => none
  | k + 1, x0, x1, x5 => if x5 < (x0.length : Int) then (if 0 ≤ x5 then ((laws_markText.f k x1).bind fun a => ((laws_markByteS.f k (rd_T74 x0 x5).f1 (wrap64 (x1 + 1))).bind fun b => ((laws_markByteS.f k (rd_T74 x0 x5).f2 b.1).bind fun c => laws_markFileS.l0 k (x0.set x5.toNat ⟨a, b.2, c.2⟩) c.1 (wrap64 (x5 + 1))))) else none) else some (x1, x0)
def laws_markFileS.f (k : Nat) (l0 : List S74) (a1 : Int) : Option (Int × List S74) := laws_markFileS.l0 k l0 a1 0
theorem S_lent {α : Type} {d : Kd α} {e base : Nat} {W : World} {ok : Nat → Prop} {v : Value} {xs : List α} (h : Kd.S d e W base ok v xs) (z : α) (i : Int) (h0 : 0 ≤ i) (h1 : i < xs.length) :
    ∃ (g cap : Nat) (oki : Nat → Prop) (c : List Value), v = .slice (some ⟨g, 0, none⟩) xs.length cap ∧ base ≤ g ∧ ok g ∧ c.length = d.sz ∧ d.M W base oki (xs.getD i.toNat z) c ∧ (∀ j u, c[j]? = some u → W.cell? ⟨g, i.toNat * d.sz + j, none⟩ = some u) ∧ (∀ j, W.frozen? ⟨g, i.toNat * d.sz + j, none⟩ = false) ∧ (∀ k, oki k → ok k ∧ k ≠ g) ∧ Kd.H d e W base ok v xs i oki c := by
  obtain ⟨g, cap, rfl, hg, _, _⟩ := Kd.S_form h (by omega)
  obtain ⟨oki, c, a1, a2, a3, a6, a4, a5⟩ := Kd.S_elem h z i h0 h1
  exact ⟨g, cap, oki, c, rfl, hg, (Kd.S_R h).1 g (by simp [Value.ownBlock]), a1, a2, a3, a6, a4, a5⟩
theorem R_back {α : Type} {d : Kd α} {e base : Nat} {W W1 : World} {ok ok' : Nat → Prop} {v : Value} {xs ys : List α} (hE : d.E = []) (h : d.R e W base ok v xs) (h' : d.R e W1 base ok' v ys) : d.R e W1 base ok v ys :=
  Kd.R_mono (Kd.R_tight hE h') (fun k hk => h.1 k hk.symm)
set_option maxHeartbeats 8000000 in
set_option maxRecDepth 100000 in
theorem laws_markFileS.calls (k : Nat) (P0_ : Nat → Prop) (u9000_ : Value) (l0 : List S74) (a1 : Int) (r1 : Int) (r2 : List S74) (w0 w : World) (hB : Below w0.heap.size w0 w) (ho0 : Kd.S k74 74 w w0.heap.size P0_ u9000_ l0) (h : laws_markFileS.f k l0 a1 = some (r1, r2)) :
    Calls Tryd.prog 65 #[u9000_, .int .i64 a1] w fun e w' => e = .returned (.int .i64 r1) ∧ Kd.S k74 74 w' w0.heap.size P0_ u9000_ r2 ∧ Below w0.heap.size w0 w' ∧ Kept w w' (fun k_ => P0_ k_) := by
  obtain ⟨A0, c0, rfl⟩ := Kd.S_slice ho0
  have HO0 := Aside0.mk ho0
  have HK := Aside0.mk (Kept.refl w (fun k_ => P0_ k_))
  have HB := Aside0.mk hB
  clear hB ho0
  have H' := Aside0.mk (show laws_markFileS.l0 k l0 a1 0 = some (r1, r2) from h)
  clear h
  have hu74 := Tryd.underlying74
  go_enter Tryd.func65, Tryd.ntmps65
  go_wp2
  go_loopg [1, 5] k (fun kq v1 v5 w' => ∃ (x0 : List S74) (x1 x5 : Int), v1 = .int .i64 x1 ∧ v5 = .int .i64 x5 ∧ Aside0 (laws_markFileS.l0 kq x0 x1 x5 = some (r1, r2)) ∧ Aside0 (kq ≤ k) ∧ Aside0 (Kd.S k74 74 w' w0.heap.size P0_ (.slice A0 l0.length c0) x0) ∧ Aside0 (Kept w w' (fun k_ => P0_ k_)) ∧ Aside0 (Below w0.heap.size w0 w'))
  case atStart => exact ⟨l0, a1, 0, by first | rfl | (simp; done), by first | rfl | (simp; done), H', ⟨Nat.le_refl _⟩, HO0, HK, HB⟩
  case round =>
    clear H' HO0 HK HB
    obtain ⟨x0, x1, x5, rfl, rfl, HA, HK1, HO, HK, HB⟩ := hrel
    cases gk with
    | zero => exact absurd HA.out (by simp [laws_markFileS.l0])
    | succ k1 =>
      have H := HA.out
      clear HA
      have hl : l0.length = x0.length := (Kd.S_reads' HO.out).1
      simp only [laws_markFileS.l0, ← hl] at H
      by_cases c3 : x5 < (l0.length : Int)
      · rw [if_pos c3] at H
        have q5 := decide_eq_true c3
        by_cases c4 : 0 ≤ x5
        · rw [if_pos c4] at H
          obtain ⟨t0, A4, H⟩ := Option.bind_eq_some_iff.mp H
          obtain ⟨⟨t1, t2⟩, A5, H⟩ := Option.bind_eq_some_iff.mp H
          obtain ⟨⟨t3, t4⟩, A7, H⟩ := Option.bind_eq_some_iff.mp H
          dsimp only at A7 H
          have H' := Aside0.mk H
          clear H
          have A3 := Aside0.mk A4
          clear A4
          have p6 := eq_true c4
          have q6 := eq_true c3
          have C3 := Aside0.mk c3
          have C4 := Aside0.mk c4
          have HL := Aside0.mk hl
          clear hl
          go_wp2_with fail
          refine (laws_markText.calls k1 x1 t0 _ A3.out).mono ?_
          rintro e w5 ⟨rfl, hb0⟩
          replace HO := Aside0.mk (Kd.S_below HO.out hb0)
          replace HB := Aside0.mk (below_then HB.out HB.out.size hb0)
          replace HK := Aside0.mk (HK.out.below hb0)
          clear hb0
          have hl := HL.out
          have c3 := C3.out
          have c4 := C4.out
          obtain ⟨g, cap, oki, c, hv, hg, hok, hcl, hM, hcc, hfr, hoki, hH⟩ := S_lent HO.out z74 x5 c4 (by omega)
          have hM : k74.M w5 w0.heap.size oki (rd_T74 x0 x5) c := hM
          generalize rd_T74 x0 x5 = y at A5 A7 hM
          have A6 := Aside0.mk A5
          have A8 := Aside0.mk A7
          clear A5 A7
          obtain ⟨pp, v1, v2, rfl, hA1, hA2⟩ := k74_openA hM
          have hNN := fun k (h1 : some k = v1.ownBlock) (h2 : some k = v2.ownBlock) => (hA2.1 k h2.symm).2 (hA1.1 k h1.symm).2
          have hR1 := Kd.R_mono hA1 (fun _ h => h.1)
          have hR2 := Kd.R_mono hA2 (fun _ h => h.1)
          have hx0 : w5.cell? ⟨g, x5.toNat * 3, none⟩ = some (.string y.f0) := hcc 0 _ rfl
          have hf0 : w5.frozen? ⟨g, x5.toNat * 3, none⟩ = false := hfr 0
          have hil : x5.toNat < x0.length := by omega
          have hP := (Kd.S_seg (okg := fun _ => False) (seg := [.string t0]) (j := 0) (x' := (⟨t0, y.f1, y.f2⟩ : S74)) (Kd.H_mono (v := .slice (some ⟨g, 0, none⟩) x0.length cap) (hv ▸ hH) (fun k hk => ⟨hk, fun h => h⟩)) c4 (by omega) (show 0 + 1 ≤ 3 by decide) (k74_mkM _ _ _ (⟨t0, y.f1, y.f2⟩ : S74) hR1 hR2 hNN) (fun k hk => .inl hk) (fun k hk => hk.elim)).1
          have HP : Aside0 (Kd.S k74 74 (w5.setCell ⟨g, x5.toNat * 3, none⟩ (.string t0)) w0.heap.size P0_ (.slice (some ⟨g, 0, none⟩) x0.length cap) (x0.set x5.toNat (⟨t0, y.f1, y.f2⟩ : S74))) := ⟨hP⟩
          have HB2 := Aside0.mk (below_set (g := g) (j := x5.toNat * 3) (v := .string t0) HB.out hg)
          have HK2 := Aside0.mk (Kept.setCell (p := ⟨g, x5.toNat * 3, none⟩) HK.out (.inl hok) (.string t0))
          injection hv with e1 e2 e3
          subst e1
          subst e3
          have HIL := Aside0.mk hil
          clear hNN hA1 hA2
          clear e2 hM hcc hfr hoki hH hcl hR1 hR2 hP hil HO HB HK hg hok hl
          go_wp2_with ((with_reducible refine gate_store (t := 9) (p := 17) rfl ?_); refine store_event (t := 9) (p := 17) (v := ?vo) (w1 := (w5.setCell ⟨g, x5.toNat * 3, none⟩ (.string t0))) ?hg ?ho ?hn ?hr ?_; (case ho => rfl); (case hg => rfl); (case hn => rfl); (case hr => first | (go_simp; done) | (go_simp; rfl)); intro w2 hw; rw [← hw] at HP HB2 HK2; clear hw hx0 hf0; obtain ⟨g2, cap2, oki, c, hv, hg, hok, hcl, hM, hcc, hfr, hoki, hH⟩ := S_lent HP.out z74 x5 C4.out (by rw [List.length_set]; exact (Int.toNat_lt C4.out).1 HIL.out); injection hv with e1 e2 e3; injection e1 with e1; injection e1 with e1; subst e1; clear e2 e3; rw [List.getD_eq_getElem?_getD, List.getElem?_set_self HIL.out, Option.getD_some] at hM; obtain ⟨pp2, v3, v4, rfl, hA1, hA2⟩ := k74_openA hM; have GN := Aside0.mk (fun k (h1 : some k = v3.ownBlock) (h2 : some k = v4.ownBlock) => (hA2.1 k h2.symm).2 (hA1.1 k h1.symm).2); have hR1 := Kd.R_mono hA1 (fun _ h => h.1); have hR2 := Kd.R_mono hA2 (fun _ h => h.1); have hx1 : w2.cell? ⟨g, x5.toNat * 3 + 1, none⟩ = some v3 := hcc 1 _ rfl; have hx2 : w2.cell? ⟨g, x5.toNat * 3 + 2, none⟩ = some v4 := hcc 2 _ rfl; have GR1 := Aside0.mk hR1; have GR2 := Aside0.mk hR2; have GH := Aside0.mk hH; have GI := Aside0.mk hoki; have GO := Aside0.mk hok; clear hM hcc hfr hoki hH hcl hR1 hR2 hg hok HP hA1 hA2)
          have T1 := Kd.R_tight rfl GR1.out
          have T2 := Kd.R_tight rfl GR2.out
          refine (laws_markByteS.calls k1 (fun k => some k = v3.ownBlock) v3 y.f1 _ t1 t2 w0 _ HB2.out T1 A6.out).mono ?_
          rintro e w3 ⟨rfl, hR1, hB1, hK1⟩
          have U1 := Aside0.mk (R_back rfl T1 hR1)
          have U2 := Aside0.mk (Kd.R_kept T2 hK1 (fun k h1 h2 => GN.out k h2 h1))
          have UH := Aside0.mk (Kd.H_kept GH.out hK1 (fun k hk hn hs => hn (GR1.out.1 k hs.symm)))
          have UK := Aside0.mk (HK2.out.then_ hK1 (fun k hk => .inl (GI.out k (GR1.out.1 k hk.symm)).1))
          have hx3 : w3.cell? ⟨g, x5.toNat * 3 + 2, none⟩ = some v4 := cell_kept hx2 hK1 (fun hs => (GI.out _ (GR1.out.1 _ hs.symm)).2 rfl)
          have UB := Aside0.mk hB1
          have NE1 := Aside0.mk GN.out
          clear T1 T2 hR1 hB1 hK1 hx1 hx2 GH HK2 HB2
          go_wp2_with fail
          refine (laws_markByteS.calls k1 (fun k => some k = v4.ownBlock) v4 y.f2 _ t3 t4 w0 _ UB.out U2.out A8.out).mono ?_
          rintro e w4 ⟨rfl, hR2, hB1, hK1⟩
          have V2 := R_back rfl U2.out hR2
          have V1 := Kd.R_kept U1.out hK1 NE1.out
          have VH := Kd.H_kept UH.out hK1 (fun k hk hn hs => hn (GR2.out.1 k hs.symm))
          have N1 := Aside0.mk (Kd.H_back VH (okp := oki) (k74_mkM _ _ _ (⟨t0, t2, t4⟩ : S74) (Kd.R_mono V1 (fun k hk => GR1.out.1 k hk.symm)) (Kd.R_mono V2 (fun k hk => GR2.out.1 k hk.symm)) GN.out) (fun _ h => h))
          rw [List.set_set] at N1
          have N2 := Aside0.mk (UK.out.then_ hK1 (fun k hk => .inl (GI.out k (GR2.out.1 k hk.symm)).1))
          have N3 := Aside0.mk hB1
          clear V1 V2 VH hR2 hB1 hK1 hx3 U1 U2 UH UK UB NE1 GR1 GR2 GI GO
          rw [HL.out.symm] at N1
          go_wp2
          go_roundg k1
          case measure => have := HK1.out; omega
          case rel => exact ⟨_, t3, _, rfl, by first | rfl | (simp; done), H', ⟨by have := HK1.out; omega⟩, N1, N2, N3⟩
        · rw [if_neg c4] at H
          exact absurd H (by simp)
      · rw [if_neg c3] at H
        have q5 := decide_eq_false c3
        simp only [Option.some.injEq, Prod.mk.injEq] at H
        obtain ⟨rfl, rfl⟩ := H
        clear hl c3
        go_wp2
        go_ret
        exact ⟨rfl, HO.out, HB.out, HK.out⟩
def laws_markDisk.f (k : Nat) (l0_0 : List S74) (a1 : Int) : Option (Int × List S74) := laws_markFileS.f k l0_0 a1
set_option maxHeartbeats 8000000 in
theorem laws_markDisk.calls (k : Nat) (P0_0_ : Nat → Prop) (u9000_ : Value) (l0_0 : List S74) (a1 : Int) (r1 : Int) (r2 : List S74) (w0 w : World) (hB : Below w0.heap.size w0 w) (ho0_0 : Kd.S k74 74 w w0.heap.size P0_0_ u9000_ l0_0) (h : laws_markDisk.f k l0_0 a1 = some (r1, r2)) :
    Calls Tryd.prog 22 #[.agg #[u9000_], .int .i64 a1] w fun e w' => e = .returned (.int .i64 r1) ∧ Kd.S k74 74 w' w0.heap.size P0_0_ u9000_ r2 ∧ Below w0.heap.size w0 w' ∧ Kept w w' (fun k_ => P0_0_ k_) := by
  obtain ⟨A0, c0, rfl⟩ := Kd.S_slice ho0_0
  have HO0 := Aside0.mk ho0_0
  have HB := Aside0.mk hB
  have H := Aside0.mk (show laws_markFileS.f k l0_0 a1 = some (r1, r2) from h)
  clear hB ho0_0 h
  go_enter Tryd.func22, Tryd.ntmps22
  go_wp2_with fail
  have B1 := below_alloc (Below.refl w.heap.size w) (.cells #[.slice A0 l0_0.length c0] 29)
  refine (laws_markFileS.calls k P0_0_ _ l0_0 a1 r1 r2 w0 _ (below_then HB.out HB.out.size B1) (Kd.S_below HO0.out B1) H.out).mono ?_
  rintro e w' ⟨rfl, hS, hB2, hK⟩
  have HS := Aside0.mk hS
  have HB2 := Aside0.mk hB2
  have HK := Aside0.mk ((Kept.of_below B1 _).then_ hK (fun k hk => .inl hk))
  clear hS hB2 hK B1
  go_wp2
  go_ret
  exact ⟨rfl, HS.out, HB2.out, HK.out⟩
end Go.Proofs.YtmgeffgcihfpcaaDoor.F

namespace Go.Proofs.YtmgeffgcihfpcaaDoor.F
open Go.RowKit Go.Proofs.YtmgeffgcihfpcaaDoorW.PrintWords Go.Proofs.YtmgeffgcihfpcaaDoorW.PrintLast Go.Proofs.YtmgeffgcihfpcaaDoorW.PrintMore
open Go.Proofs.YtmgeffgcihfpcaaDoor
set_option linter.unusedVariables false
set_option linter.unusedSimpArgs false
def laws_FnExactSyncFile.f (k : Nat) (l0_0 : List (S101)) (a1 : ByteArray) : Option Bool := (if (a1.size : Int) > 1048576 then some true else ((laws_szDisk.f k l0_0 1048576).bind fun p3 => (if p3 < 0 then some true else ((laws_toDisk.f k l0_0).bind fun p9 => ((spec_SyncFile.f k p9 a1).bind fun p17 => ((laws_toDisk.f k l0_0).bind fun p26 => ((impl_SyncFile.f k p26 a1).bind fun p34 => ((laws_eqDisk.f k p34.1 p17.1).bind fun p43 => (if p43 = true then (if p34.2 = p17.2 then ((laws_toDisk.f k l0_0).bind fun p49 => ((laws_eqDisk.f k p26 p49).bind fun p56 => (if p56 = true then ((laws_markDisk.f k p26 1).bind fun p62 => (if p62.1 < 0 then none else ((laws_eqDisk.f k p34.1 p17.1).bind fun p72 => (if p72 = true then (if p17.2 = p17.2 then ((laws_markDisk.f k p34.1 1).bind fun p78 => ((laws_heldDisk.f k p78.2 1).bind fun p85 => (if p85 < 0 then none else (if p85 = p78.1 then ((laws_toDisk.f k l0_0).bind fun p93 => ((impl_SyncFile.f k p93 a1).bind fun p101 => ((laws_eqDisk.f k p101.1 p17.1).bind fun p110 => (if p110 = true then (if p101.2 = p17.2 then ((laws_heldDisk.f k p78.2 1).bind fun p117 => (if p117 < 0 then none else (if p117 = p78.1 then (some true) else none))) else none) else none)))) else none)))) else none) else none)))) else none))) else none) else none)))))))))
set_option maxHeartbeats 16000000 in
set_option maxRecDepth 100000 in
theorem laws_FnExactSyncFile.calls (k : Nat) (A0_0 : Option Addr) (c0_0 : Nat) (l0_0 : List (S101)) (a1 : ByteArray) (r : Bool) (w : World) (hr0_0 : Kd.C k101 w A0_0 l0_0.length l0_0) (hc0_0 : l0_0.length ≤ c0_0) (h : laws_FnExactSyncFile.f k l0_0 a1 = some r) :
    Calls Tryd.prog 6 #[.agg #[.slice A0_0 l0_0.length c0_0], .string a1] w fun e w' => e = .returned (.bool r) ∧ Below w.heap.size w w' := by
  have HR0_0 := Aside0.mk hr0_0
  have HC0_0 := Aside0.mk hc0_0
  clear hr0_0 hc0_0
  have ST := Aside0.mk (LW.St.start w)
  unfold laws_FnExactSyncFile.f at h
  by_cases c1 : (a1.size : Int) > 1048576
  · rw [if_pos c1] at h
    obtain rfl := Option.some.inj h
    have c1b : decide ((a1.size : Int) > 1048576) = true := decide_eq_true c1
    clear c1
    go_enter Tryd.func6, Tryd.ntmps6
    go_wp2
    go_ret
    exact ⟨rfl, by repeat (first | exact Below.refl _ _ | apply below_alloc)⟩
  rw [if_neg c1] at h
  have c1b : decide ((a1.size : Int) > 1048576) = false := decide_eq_false c1
  clear c1
  go_enter Tryd.func6, Tryd.ntmps6
  go_wp2_with fail
  replace ST := Aside0.mk (ST.out.alloc #[.slice A0_0 l0_0.length c0_0] 24 (g := w.heap.size) rfl)
  replace h := Option.bind_eq_some_iff.mp h
  obtain ⟨t2, HA_, h⟩ := h
  try dsimp only at h
  replace HA_ := Aside0.mk HA_
  with_reducible refine (laws_szDisk.calls k _ _ l0_0 1048576 t2 _ (Kd.C_below HR0_0.out ST.out.b) HC0_0.out HA_.out).mono ?_
  rintro e w4 ⟨rfl, hb⟩
  clear HA_
  replace ST := Aside0.mk (ST.out.step hb)
  clear hb
  have hc5 := ST.out.cell 0 rfl 0 (u := .slice A0_0 l0_0.length c0_0) rfl
  have hl6 := ST.out.lt 0 rfl
  by_cases c7 : t2 < 0
  · rw [if_pos c7] at h
    obtain rfl := Option.some.inj h
    have c7b : decide (t2 < 0) = true := decide_eq_true c7
    clear c7
    go_wp2
    go_ret
    exact ⟨rfl, ST.out.b⟩
  rw [if_neg c7] at h
  have c7b : decide (t2 < 0) = false := decide_eq_false c7
  clear c7
  go_wp2_with fail
  replace h := Option.bind_eq_some_iff.mp h
  obtain ⟨t8, HA_, h⟩ := h
  try dsimp only at h
  replace HA_ := Aside0.mk HA_
  with_reducible refine (laws_toDisk.calls k _ _ l0_0 t8 _ (Kd.C_below HR0_0.out ST.out.b) HC0_0.out HA_.out).mono ?_
  rintro e w10 ⟨v11, rfl, ho12, hb⟩
  clear HA_
  obtain ⟨A13, c14, rfl⟩ := Kd.S_slice ho12
  replace ST := Aside0.mk (ST.out.row hb ho12)
  clear hb ho12
  clear hc5 hl6
  go_wp2_with fail
  replace h := Option.bind_eq_some_iff.mp h
  obtain ⟨⟨t15, t16⟩, HA_, h⟩ := h
  try dsimp only at h
  replace HA_ := Aside0.mk HA_
  with_reducible refine (spec_SyncFile.calls k _ _ _ t8 a1 t15 t16 _ (Kd.S_V (ST.out.own 0 rfl)) HA_.out).mono ?_
  rintro e w18 ⟨v19, rfl, ho20, hb⟩
  clear HA_
  obtain ⟨A21, c22, rfl⟩ := Kd.N_slice ho20
  replace ST := Aside0.mk (ST.out.seen 0 rfl hb ho20 (fun k_ hk_ => hk_))
  clear hb ho20
  have hc23 := ST.out.cell 2 rfl 0 (u := .slice A0_0 l0_0.length c0_0) rfl
  have hl24 := ST.out.lt 2 rfl
  go_wp2_with fail
  replace ST := Aside0.mk (ST.out.alloc #[.slice A21 t15.length c22] 29 (g := w18.heap.size) rfl)
  replace h := Option.bind_eq_some_iff.mp h
  obtain ⟨t25, HA_, h⟩ := h
  try dsimp only at h
  replace HA_ := Aside0.mk HA_
  with_reducible refine (laws_toDisk.calls k _ _ l0_0 t25 _ (Kd.C_below HR0_0.out ST.out.b) HC0_0.out HA_.out).mono ?_
  rintro e w27 ⟨v28, rfl, ho29, hb⟩
  clear HA_
  obtain ⟨A30, c31, rfl⟩ := Kd.S_slice ho29
  replace ST := Aside0.mk (ST.out.row hb ho29)
  clear hb ho29
  clear hc23 hl24
  go_wp2_with fail
  replace ST := Aside0.mk (ST.out.alloc #[.slice A30 t25.length c31] 29 (g := w27.heap.size) rfl)
  replace h := Option.bind_eq_some_iff.mp h
  obtain ⟨⟨t32, t33⟩, HA_, h⟩ := h
  try dsimp only at h
  replace HA_ := Aside0.mk HA_
  with_reducible refine (impl_SyncFile.calls k _ _ t25 a1 t32 t33 _ (ST.out.reads 1 rfl).2.2 (ST.out.reads 1 rfl).2.1 HA_.out).mono ?_
  rintro e w35 ⟨v36, rfl, ho37, hb⟩
  clear HA_
  obtain ⟨A38, c39, rfl⟩ := Kd.S_slice ho37
  replace ST := Aside0.mk (ST.out.row hb ho37)
  clear hb ho37
  have hc40 := ST.out.cell 3 rfl 0 (u := .slice A21 t15.length c22) rfl
  have hl41 := ST.out.lt 3 rfl
  go_wp2_with fail
  replace ST := Aside0.mk (ST.out.alloc #[.slice A38 t32.length c39] 29 (g := w35.heap.size) rfl)
  replace h := Option.bind_eq_some_iff.mp h
  obtain ⟨t42, HA_, h⟩ := h
  try dsimp only at h
  replace HA_ := Aside0.mk HA_
  with_reducible refine (laws_eqDisk.calls k _ _ t32 _ _ t15 t42 _ (ST.out.reads 1 rfl).2.2 (ST.out.reads 1 rfl).2.1 (ST.out.views 5 rfl).2.2 (ST.out.views 5 rfl).2.1 HA_.out).mono ?_
  rintro e w44 ⟨rfl, hb⟩
  clear HA_
  replace ST := Aside0.mk (ST.out.step hb)
  clear hb
  obtain rfl : t42 = true := by
    cases t42 with
    | true => rfl
    | false => exact absurd h (by simp)
  first | rw [if_pos rfl] at h | rw [if_pos trivial] at h
  clear hc40 hl41
  have e45 : t33 = t16 := by
    refine Decidable.byContradiction fun e_ => ?_
    rw [if_neg e_] at h
    exact absurd h (by simp)
  rw [if_pos e45] at h
  obtain rfl : t16 = t33 := by first | exact e45 | exact e45.symm
  clear e45
  have hq46 : (t16 != t16) = false := bne_self_eq_false _
  go_wp2_with fail
  replace ST := Aside0.mk ST.out.drew
  refine start_ (n := 5) (S := fun w' => w'.cell? ⟨w27.heap.size, 0, none⟩ = some (.slice A30 t25.length c31) ∧ w'.cell? ⟨w.heap.size, 0, none⟩ = some (.slice A0_0 l0_0.length c0_0)) (ds := []) #[false, false, false, false, false] (by kernel_rfl) rfl rfl ⟨ST.out.cell 2 rfl 0 rfl, ST.out.cell 7 rfl 0 rfl⟩ (fun hHeld => ?_)
  generalize w44.drew = w47 at ST hHeld ⊢
  refine take_ (i := 0) (N := some 48) (v := ?_) (a' := ?_) #[true, false, false, false, false] rfl rfl (by kernel_rfl) (fun _ _ _ h => h) (Or.inl ⟨by rfl, ?_⟩) hHeld ?_ ?_
  rotate_left
  · rintro w' ⟨s0, s1⟩
    go_simp
    with_reducible rfl
  rotate_left
  · simp only [Act.put, List.setIfInBounds_toArray, List.set_cons_zero, List.set_cons_succ, i64_w, i32_w]
    rfl
  refine take_ (i := 1) (N := some 49) (v := ?_) (a' := ?_) #[true, true, false, false, false] rfl rfl (by kernel_rfl) (fun _ _ _ h => h) (Or.inl ⟨by rfl, ?_⟩) hHeld ?_ ?_
  rotate_left
  · rintro w' ⟨s0, s1⟩
    go_simp
    with_reducible rfl
  rotate_left
  · simp only [Act.put, List.setIfInBounds_toArray, List.set_cons_zero, List.set_cons_succ, i64_w, i32_w]
    rfl
  refine one_ (i := 2) (N := some 50) #[true, true, true, false, false] rfl rfl (by kernel_rfl) (by decide) (fun K hK => ?_)
  replace h := Option.bind_eq_some_iff.mp h
  obtain ⟨t48, HA_, h⟩ := h
  try dsimp only at h
  replace HA_ := Aside0.mk HA_
  refine goes_ Tryd.func16 (by kernel_rfl) rfl #[.agg #[.slice A0_0 l0_0.length c0_0]] (by rfl) rfl rfl (by (try simp only [List.map_toArray, List.map_cons, List.map_nil]); first | done | rfl) ?_
  with_reducible refine (laws_toDisk.calls k _ _ l0_0 t48 _ (Kd.C_below HR0_0.out ST.out.b) HC0_0.out HA_.out).mono ?_
  rintro e w50 ⟨v51, rfl, ho52, hb⟩
  clear HA_
  refine ⟨_, rfl, ?_⟩
  obtain ⟨A53, c54, rfl⟩ := Kd.S_slice ho52
  replace ST := Aside0.mk (ST.out.row hb ho52)
  clear hb ho52
  refine hK.out _ _ ⟨ST.out.cell 3 rfl 0 rfl, ST.out.cell 8 rfl 0 rfl⟩ (fun hHeld => ?_)
  clear hK K
  refine norm_ (a' := ?_) ?_ ?_
  rotate_left
  · show Act.put _ (some 50) _ = _
    simp only [Act.put, List.setIfInBounds_toArray, List.set_cons_zero, List.set_cons_succ, i64_w, i32_w]
    rfl
  refine one_ (i := 3) (N := some 51) #[true, true, true, true, false] rfl rfl (by kernel_rfl) (by decide) (fun K hK => ?_)
  replace h := Option.bind_eq_some_iff.mp h
  obtain ⟨t55, HA_, h⟩ := h
  try dsimp only at h
  replace HA_ := Aside0.mk HA_
  refine goes_ Tryd.func18 (by kernel_rfl) rfl #[.agg #[.slice A30 t25.length c31], .agg #[.slice A53 t48.length c54]] (by rfl) rfl rfl (by (try simp only [List.map_toArray, List.map_cons, List.map_nil]); first | done | rfl) ?_
  with_reducible refine (laws_eqDisk.calls k _ _ t25 _ _ t48 t55 _ (ST.out.reads 4 rfl).2.2 (ST.out.reads 4 rfl).2.1 (ST.out.reads 0 rfl).2.2 (ST.out.reads 0 rfl).2.1 HA_.out).mono ?_
  rintro e w57 ⟨rfl, hb⟩
  clear HA_
  refine ⟨_, rfl, ?_⟩
  replace ST := Aside0.mk (ST.out.step hb)
  clear hb
  obtain rfl : t55 = true := by
    cases t55 with
    | true => rfl
    | false => exact absurd h (by simp)
  first | rw [if_pos rfl] at h | rw [if_pos trivial] at h
  refine hK.out _ _ ⟨ST.out.cell 3 rfl 0 rfl, ST.out.cell 8 rfl 0 rfl⟩ (fun hHeld => ?_)
  clear hK K
  refine norm_ (a' := ?_) ?_ ?_
  rotate_left
  · show Act.put _ (some 51) _ = _
    simp only [Act.put, List.setIfInBounds_toArray, List.set_cons_zero, List.set_cons_succ, i64_w, i32_w]
    rfl
  refine pure_ (i := 4) (N := some 52) (v := ?_) (a' := ?_) #[true, true, true, true, true] rfl rfl (by kernel_rfl) (fun _ _ _ h => h) (Or.inl ⟨by rfl, ?_⟩) ?_ ?_
  rotate_left
  · intro w'
    go_simp
    with_reducible rfl
  rotate_left
  · simp only [Act.put, List.setIfInBounds_toArray, List.set_cons_zero, List.set_cons_succ, i64_w, i32_w]
    rfl
  refine done_ (by kernel_rfl) ?_
  have hc58 := ST.out.cell 3 rfl 0 (u := .slice A30 t25.length c31) rfl
  have hl59 := ST.out.lt 3 rfl
  go_wp2_with fail
  replace h := Option.bind_eq_some_iff.mp h
  obtain ⟨⟨t60, t61⟩, HA_, h⟩ := h
  try dsimp only at h
  replace HA_ := Aside0.mk HA_
  with_reducible refine (laws_markDisk.calls k _ _ t25 1 t60 t61 w _ ST.out.b (ST.out.own 4 rfl) HA_.out).mono ?_
  rintro e w63 ⟨rfl, ho64, hb, hk⟩
  clear HA_
  replace ST := Aside0.mk (ST.out.write 4 rfl ho64 hb hk)
  clear hb hk ho64
  have el65 := (ST.out.reads 4 rfl).1
  simp only [el65] at ST ⊢
  clear el65
  clear hc58 hl59
  have hc66 := ST.out.cell 1 rfl 0 (u := .slice A38 t32.length c39) rfl
  have hl67 := ST.out.lt 1 rfl
  have hc68 := ST.out.cell 5 rfl 0 (u := .slice A21 t15.length c22) rfl
  have hl69 := ST.out.lt 5 rfl
  by_cases c70 : t60 < 0
  · rw [if_pos c70] at h
    exact absurd h (by simp)
  rw [if_neg c70] at h
  have c70b : decide (t60 < 0) = false := decide_eq_false c70
  clear c70
  go_wp2_with fail
  replace h := Option.bind_eq_some_iff.mp h
  obtain ⟨t71, HA_, h⟩ := h
  try dsimp only at h
  replace HA_ := Aside0.mk HA_
  with_reducible refine (laws_eqDisk.calls k _ _ t32 _ _ t15 t71 _ (ST.out.reads 2 rfl).2.2 (ST.out.reads 2 rfl).2.1 (ST.out.views 6 rfl).2.2 (ST.out.views 6 rfl).2.1 HA_.out).mono ?_
  rintro e w73 ⟨rfl, hb⟩
  clear HA_
  replace ST := Aside0.mk (ST.out.step hb)
  clear hb
  obtain rfl : t71 = true := by
    cases t71 with
    | true => rfl
    | false => exact absurd h (by simp)
  first | rw [if_pos rfl] at h | rw [if_pos trivial] at h
  clear hc66 hl67 hc68 hl69
  have hc74 := ST.out.cell 1 rfl 0 (u := .slice A38 t32.length c39) rfl
  have hl75 := ST.out.lt 1 rfl
  first | rw [if_pos rfl] at h | rw [if_pos trivial] at h
  go_wp2_with fail
  replace h := Option.bind_eq_some_iff.mp h
  obtain ⟨⟨t76, t77⟩, HA_, h⟩ := h
  try dsimp only at h
  replace HA_ := Aside0.mk HA_
  with_reducible refine (laws_markDisk.calls k _ _ t32 1 t76 t77 w _ ST.out.b (ST.out.own 2 rfl) HA_.out).mono ?_
  rintro e w79 ⟨rfl, ho80, hb, hk⟩
  clear HA_
  replace ST := Aside0.mk (ST.out.write 2 rfl ho80 hb hk)
  clear hb hk ho80
  have el81 := (ST.out.reads 2 rfl).1
  simp only [el81] at ST ⊢
  clear el81
  clear hc74 hl75
  have hc82 := ST.out.cell 1 rfl 0 (u := .slice A38 t77.length c39) rfl
  have hl83 := ST.out.lt 1 rfl
  go_wp2_with fail
  replace h := Option.bind_eq_some_iff.mp h
  obtain ⟨t84, HA_, h⟩ := h
  try dsimp only at h
  replace HA_ := Aside0.mk HA_
  with_reducible refine (laws_heldDisk.calls k _ _ t77 1 t84 _ (ST.out.reads 2 rfl).2.2 (ST.out.reads 2 rfl).2.1 HA_.out).mono ?_
  rintro e w86 ⟨rfl, hb⟩
  clear HA_
  replace ST := Aside0.mk (ST.out.step hb)
  clear hb
  clear hc82 hl83
  have hc87 := ST.out.cell 8 rfl 0 (u := .slice A0_0 l0_0.length c0_0) rfl
  have hl88 := ST.out.lt 8 rfl
  by_cases c89 : t84 < 0
  · rw [if_pos c89] at h
    exact absurd h (by simp)
  rw [if_neg c89] at h
  have c89b : decide (t84 < 0) = false := decide_eq_false c89
  clear c89
  have e90 : t84 = t76 := by
    refine Decidable.byContradiction fun e_ => ?_
    rw [if_neg e_] at h
    exact absurd h (by simp)
  rw [if_pos e90] at h
  obtain rfl : t76 = t84 := by first | exact e90 | exact e90.symm
  clear e90
  have hq91 : (t76 != t76) = false := bne_self_eq_false _
  go_wp2_with fail
  replace h := Option.bind_eq_some_iff.mp h
  obtain ⟨t92, HA_, h⟩ := h
  try dsimp only at h
  replace HA_ := Aside0.mk HA_
  with_reducible refine (laws_toDisk.calls k _ _ l0_0 t92 _ (Kd.C_below HR0_0.out ST.out.b) HC0_0.out HA_.out).mono ?_
  rintro e w94 ⟨v95, rfl, ho96, hb⟩
  clear HA_
  obtain ⟨A97, c98, rfl⟩ := Kd.S_slice ho96
  replace ST := Aside0.mk (ST.out.row hb ho96)
  clear hb ho96
  clear hc87 hl88
  go_wp2_with fail
  replace h := Option.bind_eq_some_iff.mp h
  obtain ⟨⟨t99, t100⟩, HA_, h⟩ := h
  try dsimp only at h
  replace HA_ := Aside0.mk HA_
  with_reducible refine (impl_SyncFile.calls k _ _ t92 a1 t99 t100 _ (ST.out.reads 0 rfl).2.2 (ST.out.reads 0 rfl).2.1 HA_.out).mono ?_
  rintro e w102 ⟨v103, rfl, ho104, hb⟩
  clear HA_
  obtain ⟨A105, c106, rfl⟩ := Kd.S_slice ho104
  replace ST := Aside0.mk (ST.out.row hb ho104)
  clear hb ho104
  have hc107 := ST.out.cell 7 rfl 0 (u := .slice A21 t15.length c22) rfl
  have hl108 := ST.out.lt 7 rfl
  go_wp2_with fail
  replace ST := Aside0.mk (ST.out.alloc #[.slice A105 t99.length c106] 29 (g := w102.heap.size) rfl)
  replace h := Option.bind_eq_some_iff.mp h
  obtain ⟨t109, HA_, h⟩ := h
  try dsimp only at h
  replace HA_ := Aside0.mk HA_
  with_reducible refine (laws_eqDisk.calls k _ _ t99 _ _ t15 t109 _ (ST.out.reads 1 rfl).2.2 (ST.out.reads 1 rfl).2.1 (ST.out.views 9 rfl).2.2 (ST.out.views 9 rfl).2.1 HA_.out).mono ?_
  rintro e w111 ⟨rfl, hb⟩
  clear HA_
  replace ST := Aside0.mk (ST.out.step hb)
  clear hb
  obtain rfl : t109 = true := by
    cases t109 with
    | true => rfl
    | false => exact absurd h (by simp)
  first | rw [if_pos rfl] at h | rw [if_pos trivial] at h
  clear hc107 hl108
  have hc112 := ST.out.cell 4 rfl 0 (u := .slice A38 t77.length c39) rfl
  have hl113 := ST.out.lt 4 rfl
  have e114 : t100 = t16 := by
    refine Decidable.byContradiction fun e_ => ?_
    rw [if_neg e_] at h
    exact absurd h (by simp)
  rw [if_pos e114] at h
  obtain rfl : t16 = t100 := by first | exact e114 | exact e114.symm
  clear e114
  have hq115 : (t16 != t16) = false := bne_self_eq_false _
  go_wp2_with fail
  replace h := Option.bind_eq_some_iff.mp h
  obtain ⟨t116, HA_, h⟩ := h
  try dsimp only at h
  replace HA_ := Aside0.mk HA_
  with_reducible refine (laws_heldDisk.calls k _ _ t77 1 t116 _ (ST.out.reads 5 rfl).2.2 (ST.out.reads 5 rfl).2.1 HA_.out).mono ?_
  rintro e w118 ⟨rfl, hb⟩
  clear HA_
  replace ST := Aside0.mk (ST.out.step hb)
  clear hb
  clear hc112 hl113
  by_cases c119 : t116 < 0
  · rw [if_pos c119] at h
    exact absurd h (by simp)
  rw [if_neg c119] at h
  have c119b : decide (t116 < 0) = false := decide_eq_false c119
  clear c119
  have e120 : t116 = t76 := by
    refine Decidable.byContradiction fun e_ => ?_
    rw [if_neg e_] at h
    exact absurd h (by simp)
  rw [if_pos e120] at h
  obtain rfl : t76 = t116 := by first | exact e120 | exact e120.symm
  clear e120
  have hq121 : (t76 != t76) = false := bne_self_eq_false _
  obtain rfl := Option.some.inj h
  go_wp2
  go_ret
  exact ⟨rfl, ST.out.b⟩
end Go.Proofs.YtmgeffgcihfpcaaDoor.F

namespace Go.Proofs.YtmgeffgcihfpcaaDoor.PK
set_option linter.unusedVariables false
set_option linter.unusedSimpArgs false
open Go.RowKit Go.Proofs.YtmgeffgcihfpcaaDoorW.PrintWords
theorem EvS {α : Type} {g : Nat → Option α} {r : α} (h : Ev (fun k => g (k + 1)) r) : Ev g r := by
  obtain ⟨K, h⟩ := h
  refine ⟨K + 1, fun k hk => ?_⟩
  obtain ⟨m, rfl⟩ : ∃ m, k = m + 1 := ⟨k - 1, by omega⟩
  exact h m (by omega)
theorem EvB {α β : Type} {g : Nat → Option α} {f : Nat → α → Option β} {a : α} {r : β} (h : Ev g a) : Ev (fun k => (g k).bind (f k)) r ↔ Ev (fun k => f k a) r := by
  obtain ⟨K, h⟩ := h
  constructor
  · rintro ⟨K', h'⟩
    refine ⟨max K K', fun k hk => ?_⟩
    have h2 : (g k).bind (f k) = some r := h' k (by omega)
    rw [h k (by omega)] at h2
    exact h2
  · rintro ⟨K', h'⟩
    refine ⟨max K K', fun k hk => ?_⟩
    show (g k).bind (f k) = some r
    rw [h k (by omega)]
    exact h' k (by omega)
theorem EvN {α : Type} {r : α} : Ev (fun _ => some r) r := ⟨0, fun _ _ => rfl⟩
theorem EvE {α : Type} {g : Nat → Option α} {r : α} (h : Ev g r) : ∃ k, g k = some r := h.rounds
theorem w64 {x : Int} (h : -9223372036854775808 ≤ x) (h' : x ≤ 9223372036854775807) : wrap64 x = x := by
  unfold wrap64
  omega
theorem up {P : Int → Prop} (n : Nat) (base : P n) (step : ∀ i : Nat, i < n → P ((i + 1 : Nat) : Int) → P (i : Int)) : ∀ i : Nat, i ≤ n → P (i : Int) := by
  intro i hi
  obtain ⟨d, hd⟩ : ∃ d, d + i = n := ⟨n - i, by omega⟩
  induction d generalizing i with
  | zero => have : i = n := by omega
            subst this
            exact base
  | succ d ih => exact step i (by omega) (ih (i + 1) (by omega) (by omega))
theorem up0 {P : Int → Prop} (n : Nat) (base : P n) (step : ∀ i : Nat, i < n → P ((i + 1 : Nat) : Int) → P (i : Int)) : P 0 := up n base step 0 (Nat.zero_le _)
theorem getD_nat {α : Type} (l : List α) (z : α) (i : Nat) (h : i < l.length) : l.getD ((i : Int).toNat) z = l[i] := by
  simp [List.getD_eq_getElem?_getD, List.getElem?_eq_getElem h]
theorem drop_at {α : Type} (l : List α) (i : Nat) (h : i < l.length) : l.drop i = l[i] :: l.drop (i + 1) := List.drop_eq_getElem_cons h
end Go.Proofs.YtmgeffgcihfpcaaDoor.PK

namespace Go.Proofs.YtmgeffgcihfpcaaDoor.DK
set_option linter.unusedVariables false
set_option linter.unusedSimpArgs false
open Go.RowKit Go.Proofs.YtmgeffgcihfpcaaDoor.F Go.Proofs.YtmgeffgcihfpcaaDoor.PK Go.Proofs.YtmgeffgcihfpcaaDoorW.PrintWords Go.Proofs.YtmgeffgcihfpcaaDoorW.PrintLast Go.Proofs.YtmgeffgcihfpcaaDoorW.PrintMore
theorem nxt (i n : Nat) (h : i < n) (hn : n ≤ 9223372036854775807) : wrap64 ((i : Int) + 1) = ((i + 1 : Nat) : Int) := by rw [w64 (by omega) (by omega)]; omega
def inB (b : UInt8) : Bool := decide ((97 ≤ b.toNat ∧ b.toNat ≤ 122) ∨ (48 ≤ b.toNat ∧ b.toNat ≤ 57))
def nameM (s : ByteArray) : Bool := s.data.toList.all inB && decide (1 ≤ s.size ∧ s.size ≤ 12)
theorem bt_get (s : ByteArray) (i : Nat) (h : i < s.data.toList.length) : bt s (i : Int) = (s.data.toList[i].toNat : Int) := by
  have hs : i < s.size := by rw [← data_length]; exact h
  unfold bt
  rw [dif_pos (show (i : Int).toNat < s.size by rw [Int.toNat_natCast]; exact hs)]
  simp
  rfl
theorem spec_name (s : ByteArray) (hs : s.size ≤ 9223372036854775807) : Ev (fun k => spec_l01Name.f k s) (nameM s) := by
  have hl := data_length s
  have key := up0 (P := fun i => Ev (fun k => spec_l01Name.l0 k s i) ((s.data.toList.drop i.toNat).all inB && decide (1 ≤ s.size ∧ s.size ≤ 12))) s.size
    (EvS (by
      simp only [spec_l01Name.l0, Int.lt_irrefl, if_false, Int.toNat_natCast, spec_l01In.f]
      rw [List.drop_eq_nil_of_le (by omega), List.all_nil, Bool.true_and]
      by_cases h1 : 1 ≤ (s.size : Int)
      · simp only [if_pos h1, Option.bind_some]
        rw [show decide ((s.size : Int) ≤ 12) = decide (1 ≤ s.size ∧ s.size ≤ 12) from decide_eq_decide.2 (by omega)]
        exact EvN
      · simp only [if_neg h1, Option.bind_some]
        rw [decide_eq_false (show ¬ (1 ≤ s.size ∧ s.size ≤ 12) by omega)]
        exact EvN))
    (fun i hi ih => EvS (by
      have hil : i < s.data.toList.length := by omega
      rw [Int.toNat_natCast] at *
      rw [drop_at _ i hil, List.all_cons]
      simp only [spec_l01Name.l0, if_pos (show (i : Int) < (s.size : Int) by omega), if_pos (show 0 ≤ (i : Int) by omega), nxt i _ hi hs]
      have hb := bt_get s i hil
      generalize bt s (i : Int) = x at hb ⊢
      generalize s.data.toList[i] = b at hb ⊢
      by_cases c1 : x ≥ 97
      · by_cases c2 : x ≤ 122
        · simp only [if_pos c1, if_pos c2, show inB b = true from decide_eq_true (by omega), Bool.true_and]; exact ih
        · by_cases c3 : x ≥ 48
          · simp only [if_pos c1, if_neg c2, if_pos c3, if_neg (show ¬ x ≤ 57 by omega), show inB b = false from decide_eq_false (by omega), Bool.false_and]; exact EvN
          · omega
      · by_cases c3 : x ≥ 48
        · by_cases c4 : x ≤ 57
          · simp only [if_neg c1, if_pos c3, if_pos c4, show inB b = true from decide_eq_true (by omega), Bool.true_and]; exact ih
          · simp only [if_neg c1, if_pos c3, if_neg c4, show inB b = false from decide_eq_false (by omega), Bool.false_and]; exact EvN
        · simp only [if_neg c1, if_neg c3, show inB b = false from decide_eq_false (by omega), Bool.false_and]; exact EvN))
  unfold spec_l01Name.f nameM
  exact key
def cutB : List UInt8 := [97, 98, 99, 100, 101, 102, 103, 104, 105, 106, 107, 108, 109, 110, 111, 112, 113, 114, 115, 116, 117, 118, 119, 120, 121, 122, 48, 49, 50, 51, 52, 53, 54, 55, 56, 57]
theorem cut_in (b : UInt8) : cutB.contains b = inB b := by
  have h : ∀ n : Fin 256, cutB.contains (UInt8.ofNat n.val) = inB (UInt8.ofNat n.val) := by decide +kernel
  have := h ⟨b.toNat, b.toNat_lt⟩
  simpa using this
theorem dw_nil {α : Type} (p : α → Bool) : ∀ l : List α, l.dropWhile p = [] ↔ ∀ x ∈ l, p x = true
  | [] => by simp
  | a :: l => by
    rw [List.dropWhile_cons]
    by_cases h : p a = true
    · rw [if_pos h, dw_nil p l]
      simp [h]
    · rw [if_neg h]
      simp [h]
theorem dw_head {α : Type} (p : α → Bool) : ∀ (l : List α) (x : α) (r : List α), l.dropWhile p = x :: r → p x = false
  | [], x, r, h => by simp at h
  | a :: l, x, r, h => by
    rw [List.dropWhile_cons] at h
    by_cases hp : p a = true
    · rw [if_pos hp] at h
      exact dw_head p l x r h
    · rw [if_neg hp] at h
      injection h with h1 _
      rw [← h1]
      exact Bool.eq_false_iff.2 hp
theorem dw_mem {α : Type} (p : α → Bool) : ∀ (l : List α) (x : α), x ∈ l.dropWhile p → x ∈ l
  | [], x, h => by simp at h
  | a :: l, x, h => by
    rw [List.dropWhile_cons] at h
    by_cases hp : p a = true
    · rw [if_pos hp] at h
      exact List.mem_cons_of_mem _ (dw_mem p l x h)
    · rw [if_neg hp] at h
      exact h
theorem trim_nil (l : List UInt8) : (Go.Lib.trimS l cutB == []) = l.all inB := by
  unfold Go.Lib.trimS Go.Lib.trimLeftS Go.Lib.trimRightS
  rw [Bool.eq_iff_iff, beq_iff_eq, dw_nil, List.all_eq_true]
  constructor
  · intro h
    have hd : l.reverse.dropWhile (cutB.contains ·) = [] := by
      cases hq : l.reverse.dropWhile (cutB.contains ·) with
      | nil => rfl
      | cons x r =>
        have h1 := h x (by rw [hq]; simp)
        have h2 := dw_head (cutB.contains ·) _ _ _ hq
        rw [h1] at h2
        cases h2
    rw [dw_nil] at hd
    intro x hx
    rw [← cut_in]
    exact hd x (List.mem_reverse.2 hx)
  · intro h x hx
    rw [cut_in]
    exact h x (List.mem_reverse.1 (dw_mem _ _ _ (List.mem_reverse.1 hx)))
theorem impl_name (s : ByteArray) (hs : s.size ≤ 9223372036854775807) : impl_isFileName.f s = some (nameM s) := by
  unfold impl_isFileName.f nameM
  by_cases h1 : (s.size : Int) ≥ 1
  · by_cases h2 : (s.size : Int) ≤ 12
    · have ht : trimF.f s (⟨#[97, 98, 99, 100, 101, 102, 103, 104, 105, 106, 107, 108, 109, 110, 111, 112, 113, 114, 115, 116, 117, 118, 119, 120, 121, 122, 48, 49, 50, 51, 52, 53, 54, 55, 56, 57]⟩ : ByteArray) = some ⟨(Go.Lib.trimS s.data.toList cutB).toArray⟩ := by
        unfold trimF.f
        rw [if_pos ⟨hs, by decide, by decide⟩]
        rfl
      simp only [if_pos h1, if_pos h2, ht, Option.bind_some]
      rw [Go.Lib.toList_data, trim_nil, decide_eq_true (show 1 ≤ s.size ∧ s.size ≤ 12 by omega), Bool.and_true]
    · simp only [if_pos h1, if_neg h2]
      rw [decide_eq_false (show ¬ (1 ≤ s.size ∧ s.size ≤ 12) by omega), Bool.and_false]
  · simp only [if_neg h1]
    rw [decide_eq_false (show ¬ (1 ≤ s.size ∧ s.size ≤ 12) by omega), Bool.and_false]
end Go.Proofs.YtmgeffgcihfpcaaDoor.DK

namespace Go.Proofs.YtmgeffgcihfpcaaDoor.BY
set_option linter.unusedVariables false
set_option linter.unusedSimpArgs false
open Go.RowKit Go.Proofs.YtmgeffgcihfpcaaDoor.F Go.Proofs.YtmgeffgcihfpcaaDoor.PK Go.Proofs.YtmgeffgcihfpcaaDoorW.PrintWords Go.Proofs.YtmgeffgcihfpcaaDoorW.PrintLast
theorem rd_at (l : List Int) (i : Nat) (h : i < l.length) : rd l (i : Int) = l[i] := getD_nat l _ i h
theorem nxt (i n : Nat) (h : i < n) (hn : n ≤ 9223372036854775807) : wrap64 ((i : Int) + 1) = ((i + 1 : Nat) : Int) := by rw [w64 (by omega) (by omega)]; omega
theorem toByteS (l : List Int) (hl : l.length ≤ 1048576) : Ev (fun k => laws_toByteS.f k l) l := by
  have key := up (P := fun i => ∀ x : List Int, x.length = l.length → (∀ j : Nat, (j : Int) < i → x[j]? = l[j]?) → Ev (fun k => laws_toByteS.l0 k l x i) l) l.length
      (fun x h0 h1 => by
        have : x = l := List.ext_getElem? fun j => by
          by_cases hj : j < l.length
          · exact h1 j (by omega)
          · rw [List.getElem?_eq_none (by omega), List.getElem?_eq_none (by omega)]
        subst this
        exact EvS (by simp only [laws_toByteS.l0, Int.lt_irrefl, if_false]; exact EvN))
      (fun i hi ih x h0 h1 => by
        refine EvS ?_
        simp only [laws_toByteS.l0, rd_at l i hi, Option.bind_some, h0, Int.toNat_natCast, if_pos (show (i : Int) < (l.length : Int) by omega), if_pos (show 0 ≤ (i : Int) by omega), nxt i _ hi (by omega)]
        refine ih _ (by simpa using h0) fun j hj => ?_
        by_cases hji : j = i
        · subst hji
          rw [List.getElem?_set_self (by omega)]
          simp [List.getElem?_eq_getElem hi]
        · rw [List.getElem?_set_ne (by omega)]
          exact h1 j (by omega))
  have := key 0 (Nat.zero_le _) (List.replicate l.length 0) (by simp) (fun j hj => absurd hj (by omega))
  unfold laws_toByteS.f
  simp only [Int.toNat_natCast, if_pos (show 0 ≤ (l.length : Int) by omega), if_pos (show l.length ≤ 281474976710656 by omega)]
  exact this
theorem eqByteS (x : List Int) (hx : x.length ≤ 9223372036854775807) : Ev (fun k => laws_eqByteS.f k x x) true := by
  have key := up (P := fun i => Ev (fun k => laws_eqByteS.l0 k x x i) true) x.length
    (EvS (by simp only [laws_eqByteS.l0, Int.lt_irrefl, if_false]; exact EvN))
    (fun i hi ih => EvS (by simp only [laws_eqByteS.l0, if_true, Option.bind_some, if_pos (show (i : Int) < (x.length : Int) by omega), if_pos (show 0 ≤ (i : Int) by omega), nxt i _ hi hx]; exact ih))
  have := key 0 (Nat.zero_le _)
  unfold laws_eqByteS.f
  simp only [if_true]
  exact this
end Go.Proofs.YtmgeffgcihfpcaaDoor.BY

namespace Go.Proofs.YtmgeffgcihfpcaaDoor.F
open Go.RowKit Go.Proofs.YtmgeffgcihfpcaaDoorW.PrintWords Go.Proofs.YtmgeffgcihfpcaaDoorW.PrintWords.Kd Go.Proofs.YtmgeffgcihfpcaaDoorW.PrintMore.Kd Go.Proofs.YtmgeffgcihfpcaaDoorW.PrintLast Go.Proofs.YtmgeffgcihfpcaaDoorW.PrintMore
attribute [local go_sem] max2_int min2_int max_two min_two max_three min_three max_four min_four   -- for this text's walks alone
set_option linter.unusedVariables false
set_option linter.unusedSimpArgs false
end Go.Proofs.YtmgeffgcihfpcaaDoor.F

namespace Go.Proofs.YtmgeffgcihfpcaaDoor.DK
set_option linter.unusedVariables false
set_option linter.unusedSimpArgs false
open Go.RowKit Go.Proofs.YtmgeffgcihfpcaaDoor.F Go.Proofs.YtmgeffgcihfpcaaDoor.PK Go.Proofs.YtmgeffgcihfpcaaDoorW.PrintWords Go.Proofs.YtmgeffgcihfpcaaDoorW.PrintLast Go.Proofs.YtmgeffgcihfpcaaDoorW.PrintMore
open Go.Proofs.YtmgeffgcihfpcaaDoor.BY (toByteS eqByteS)
theorem rd74 (l : List S74) (i : Nat) (h : i < l.length) : rd_T74 l (i : Int) = l[i] := getD_nat l _ i h
theorem rd101 (l : List S101) (i : Nat) (h : i < l.length) : rd_T101 l (i : Int) = l[i] := getD_nat l _ i h
def conv101 (x : S101) : S74 := ⟨x.f0, x.f1, x.f2⟩
theorem toFile (a : ByteArray) (b c : List Int) (hb : b.length ≤ 1048576) (hc : c.length ≤ 1048576) : Ev (fun k => laws_toFile.f k a b c) (a, b, c) := by
  unfold laws_toFile.f
  simp only [EvB (toByteS b hb), EvB (toByteS c hc)]
  exact EvN
theorem toFileS (l : List S101) (hl : l.length ≤ 1048576) (hs : ∀ y ∈ l, y.f1.length ≤ 1048576 ∧ y.f2.length ≤ 1048576) : Ev (fun k => laws_toFileS.f k l) (l.map conv101) := by
  have key := up (P := fun i => ∀ x : List S74, x.length = l.length → (∀ j : Nat, (j : Int) < i → x[j]? = (l.map conv101)[j]?) → Ev (fun k => laws_toFileS.l0 k l x i) (l.map conv101)) l.length
      (fun x h0 h1 => by
        have : x = l.map conv101 := List.ext_getElem? fun j => by
          by_cases hj : j < l.length
          · exact h1 j (by omega)
          · rw [List.getElem?_eq_none (by omega), List.getElem?_eq_none (by rw [List.length_map]; omega)]
        subst this
        exact EvS (by simp only [laws_toFileS.l0, Int.lt_irrefl, if_false]; exact EvN))
      (fun i hi ih x h0 h1 => by
        have hy := hs _ (List.getElem_mem hi)
        refine EvS ?_
        simp only [laws_toFileS.l0, rd101 l i hi, EvB (toFile l[i].f0 l[i].f1 l[i].f2 hy.1 hy.2), h0, Int.toNat_natCast, if_pos (show (i : Int) < (l.length : Int) by omega), if_pos (show 0 ≤ (i : Int) by omega), nxt i _ hi (by omega)]
        refine ih _ (by simpa using h0) fun j hj => ?_
        by_cases hji : j = i
        · subst hji
          rw [List.getElem?_set_self (by omega)]
          simp [List.getElem?_eq_getElem hi, conv101]
        · rw [List.getElem?_set_ne (by omega)]
          exact h1 j (by omega))
  have := key 0 (Nat.zero_le _) (List.replicate l.length z74) (by simp) (fun j hj => absurd hj (by omega))
  unfold laws_toFileS.f
  have hS : (l.length ≤ 4398046511104) = True := eq_true (by omega)
  simp only [Int.toNat_natCast, if_pos (show 0 ≤ (l.length : Int) by omega), hS, if_true]
  exact this
theorem toDisk (l : List S101) (hl : l.length ≤ 1048576) (hs : ∀ y ∈ l, y.f1.length ≤ 1048576 ∧ y.f2.length ≤ 1048576) : Ev (fun k => laws_toDisk.f k l) (l.map conv101) := by
  unfold laws_toDisk.f
  simp only [EvB (toFileS l hl hs)]
  exact EvN
theorem szByteS (l : List Int) (c : Int) (h0 : 0 ≤ c) (h1 : c ≤ 1048576) (hl : l.length ≤ 9223372036854775807) : ∃ t, laws_szByteS.f l c = some t ∧ t ≤ c ∧ (0 ≤ t → (l.length : Int) ≤ c) := by
  unfold laws_szByteS.f
  rw [w64 (by omega) (by omega)]
  split
  · exact ⟨_, rfl, by omega, by omega⟩
  · exact ⟨_, rfl, by omega, by omega⟩
theorem szFile (a : ByteArray) (b d : List Int) (c : Int) (h0 : 0 ≤ c) (h1 : c ≤ 1048576) (ha : a.size ≤ 9223372036854775807) (hb : b.length ≤ 9223372036854775807) (hd : d.length ≤ 9223372036854775807) : ∃ t, laws_szFile.f a b d c = some t ∧ t ≤ c ∧ (0 ≤ t → b.length ≤ 1048576 ∧ d.length ≤ 1048576) := by
  unfold laws_szFile.f
  rw [w64 (by omega) (by omega)]
  by_cases g : c - (a.size : Int) < 0
  · exact ⟨-1, by rw [if_pos g], by omega, by omega⟩
  obtain ⟨t, e, a1, a2⟩ := szByteS b (c - (a.size : Int)) (by omega) (by omega) hb
  by_cases g1 : t < 0
  · exact ⟨-1, by simp only [if_neg g, e, Option.bind_some, if_pos g1], by omega, by omega⟩
  obtain ⟨u, e2, b1, b2⟩ := szByteS d t (by omega) (by omega) hd
  by_cases g2 : u < 0
  · exact ⟨-1, by simp only [if_neg g, e, Option.bind_some, if_neg g1, e2, if_pos g2], by omega, by omega⟩
  · exact ⟨u, by simp only [if_neg g, e, Option.bind_some, if_neg g1, e2, if_neg g2], by omega, by omega⟩
def wfF (l : List S101) : Prop := ∀ y ∈ l, y.f0.size ≤ 9223372036854775807 ∧ y.f1.length ≤ 9223372036854775807 ∧ y.f2.length ≤ 9223372036854775807
theorem szFileS (l : List S101) (hl : l.length ≤ 9223372036854775807) (hs : wfF l) : ∃ t, Ev (fun k => laws_szFileS.f k l 1048576) t ∧ (0 ≤ t → l.length ≤ 1048576 ∧ ∀ y ∈ l, y.f1.length ≤ 1048576 ∧ y.f2.length ≤ 1048576) := by
  by_cases h : (1048576 - (l.length : Int)) < 0
  · refine ⟨-1, ?_, by omega⟩
    unfold laws_szFileS.f
    rw [w64 (by omega) (by omega)]
    simp only [if_pos h]
    exact EvN
  · have key := up (P := fun i => ∀ x, 0 ≤ x → x ≤ 1048576 → ∃ t, Ev (fun k => laws_szFileS.l0 k l x i) t ∧ (0 ≤ t → ∀ y ∈ l.drop i.toNat, y.f1.length ≤ 1048576 ∧ y.f2.length ≤ 1048576)) l.length
      (fun x g0 g1 => ⟨x, EvS (by simp only [laws_szFileS.l0, Int.lt_irrefl, if_false]; exact EvN), fun _ y hy => by rw [Int.toNat_natCast, List.drop_length] at hy; cases hy⟩)
      (fun i hi ih x g0 g1 => by
        have hz := hs _ (List.getElem_mem hi)
        obtain ⟨t, e1, e2, e3⟩ := szFile l[i].f0 l[i].f1 l[i].f2 x g0 g1 hz.1 hz.2.1 hz.2.2
        by_cases h2 : t < 0
        · refine ⟨-1, EvS ?_, by omega⟩
          simp only [laws_szFileS.l0, rd101 l i hi, e1, Option.bind_some, if_pos h2, if_pos (show (i : Int) < (l.length : Int) by omega), if_pos (show 0 ≤ (i : Int) by omega)]
          exact EvN
        · obtain ⟨t', h3, h4⟩ := ih t (by omega) (by omega)
          refine ⟨t', EvS ?_, fun ht y hy => ?_⟩
          · simp only [laws_szFileS.l0, rd101 l i hi, e1, Option.bind_some, if_neg h2, if_pos (show (i : Int) < (l.length : Int) by omega), if_pos (show 0 ≤ (i : Int) by omega), nxt i _ hi hl]
            exact h3
          · rw [Int.toNat_natCast, drop_at l i hi] at hy
            rcases List.mem_cons.1 hy with rfl | hy
            · exact e3 (by omega)
            · exact h4 ht y (by rw [Int.toNat_natCast]; exact hy))
    obtain ⟨t, h2, h3⟩ := key 0 (Nat.zero_le _) (1048576 - (l.length : Int)) (by omega) (by omega)
    refine ⟨t, ?_, fun ht => ⟨by omega, fun y hy => h3 ht y (by simpa using hy)⟩⟩
    unfold laws_szFileS.f
    rw [w64 (by omega) (by omega)]
    simp only [if_neg h]
    exact h2
theorem szDisk (l : List S101) (hl : l.length ≤ 9223372036854775807) (hs : wfF l) : ∃ t, Ev (fun k => laws_szDisk.f k l 1048576) t ∧ (0 ≤ t → l.length ≤ 1048576 ∧ ∀ y ∈ l, y.f1.length ≤ 1048576 ∧ y.f2.length ≤ 1048576) := by
  obtain ⟨t, h1, h2⟩ := szFileS l hl hs
  unfold laws_szDisk.f
  by_cases h : t < 0
  · exact ⟨-1, by simp only [EvB h1, if_pos h]; exact EvN, by omega⟩
  · exact ⟨t, by simp only [EvB h1, if_neg h]; exact EvN, h2⟩
theorem eqFile (a : ByteArray) (b c : List Int) (hb : b.length ≤ 9223372036854775807) (hc : c.length ≤ 9223372036854775807) : Ev (fun k => laws_eqFile.f k a b c a b c) true := by
  unfold laws_eqFile.f
  simp only [if_true, EvB (eqByteS b hb), EvB (eqByteS c hc)]
  exact EvN
theorem eqFileS (x : List S74) (hx : x.length ≤ 9223372036854775807) (hy : ∀ y ∈ x, y.f1.length ≤ 9223372036854775807 ∧ y.f2.length ≤ 9223372036854775807) : Ev (fun k => laws_eqFileS.f k x x) true := by
  have key := up (P := fun i => Ev (fun k => laws_eqFileS.l0 k x x i) true) x.length
    (EvS (by simp only [laws_eqFileS.l0, Int.lt_irrefl, if_false]; exact EvN))
    (fun i hi ih => EvS (by
      have e := eqFile x[i].f0 x[i].f1 x[i].f2 (hy _ (List.getElem_mem hi)).1 (hy _ (List.getElem_mem hi)).2
      simp only [laws_eqFileS.l0, rd74 x i hi, if_pos (show (i : Int) < (x.length : Int) by omega), if_pos (show 0 ≤ (i : Int) by omega), EvB e, if_true, nxt i _ hi hx]; exact ih))
  have := key 0 (Nat.zero_le _)
  unfold laws_eqFileS.f
  simp only [if_true]
  exact this
theorem eqDisk (x : List S74) (hx : x.length ≤ 9223372036854775807) (hy : ∀ y ∈ x, y.f1.length ≤ 9223372036854775807 ∧ y.f2.length ≤ 9223372036854775807) : Ev (fun k => laws_eqDisk.f k x x) true := by
  unfold laws_eqDisk.f
  simp only [EvB (eqFileS x hx hy), if_true]
  exact EvN
def okAt (l : List S74) (i : Nat) : Bool := nameM (rd_T74 l i).f0 && (decide ((rd_T74 l i).f1.length + (rd_T74 l i).f2.length ≤ 20000) && (decide (i = 0) || Op.bytesLess (rd_T74 l ((i - 1 : Nat) : Int)).f0.toList (rd_T74 l i).f0.toList))
def goD (l : List S74) : Nat → Nat → Bool
  | 0, _ => true
  | d + 1, i => okAt l i && goD l d (i + 1)
def diskM (l : List S74) : Bool := decide (l.length ≤ 8) && goD l l.length 0
def wfD (l : List S74) : Prop := ∀ y ∈ l, y.f0.size ≤ 9223372036854775807 ∧ y.f1.length ≤ 1048576 ∧ y.f2.length ≤ 1048576
theorem specGo (l : List S74) (hl : l.length ≤ 1048576) (hw : wfD l) : ∀ d i : Nat, d + i = l.length → Ev (fun k => spec_DiskOk.l0 k i l) (goD l d i) := by
  intro d
  induction d with
  | zero =>
    intro i hi
    refine EvS ?_
    simp only [spec_DiskOk.l0, if_neg (show ¬ (i : Int) < (l.length : Int) by omega)]
    exact EvN
  | succ d ih =>
    intro i hi
    have hil : i < l.length := by omega
    have hy := hw _ (List.getElem_mem hil)
    refine EvS ?_
    have hn := spec_name l[i].f0 hy.1
    have h := ih (i + 1) (by omega)
    rw [← rd74 l i hil] at hn hy
    unfold goD okAt
    simp only [spec_DiskOk.l0, if_pos (show (i : Int) < (l.length : Int) by omega), if_pos (show 0 ≤ (i : Int) by omega), EvB hn, nxt i _ hil (by omega)]
    generalize rd_T74 l (i : Int) = y at hy hn ⊢
    by_cases c1 : nameM y.f0 = true
    · by_cases c2 : (y.f1.length : Int) > 20000
      · simp only [if_pos c1, if_pos c2, decide_eq_false (show ¬ y.f1.length + y.f2.length ≤ 20000 by omega), Bool.false_and, Bool.and_false]; exact EvN
      · have hw1 : wrap64 (20000 - (y.f1.length : Int)) = 20000 - (y.f1.length : Int) := w64 (by omega) (by omega)
        by_cases c3 : (y.f2.length : Int) > 20000 - (y.f1.length : Int)
        · simp only [if_pos c1, if_neg c2, hw1, if_pos c3, decide_eq_false (show ¬ y.f1.length + y.f2.length ≤ 20000 by omega), Bool.false_and, Bool.and_false]; exact EvN
        · simp only [if_pos c1, if_neg c2, hw1, if_neg c3, c1, decide_eq_true (show y.f1.length + y.f2.length ≤ 20000 by omega), Bool.true_and]
          by_cases c4 : i = 0
          · simp only [if_neg (show ¬ (i : Int) > 0 by omega), decide_eq_true c4, Bool.true_or, Bool.true_and]; exact h
          · have hw2 : wrap64 ((i : Int) - 1) = ((i - 1 : Nat) : Int) := by rw [w64 (by omega) (by omega)]; omega
            simp only [if_pos (show (i : Int) > 0 by omega), hw2, if_pos (show 0 ≤ ((i - 1 : Nat) : Int) by omega), if_pos (show ((i - 1 : Nat) : Int) < (l.length : Int) by omega), decide_eq_false c4, Bool.false_or]
            by_cases c5 : Op.bytesLess (rd_T74 l ((i - 1 : Nat) : Int)).f0.toList y.f0.toList = true
            · simp only [if_pos c5, c5, Bool.true_and]; exact h
            · simp only [if_neg c5, Bool.eq_false_iff.2 c5, Bool.false_and]; exact EvN
    · simp only [if_neg c1, Bool.eq_false_iff.2 c1, Bool.false_and]; exact EvN
theorem implGo (l : List S74) (hl : l.length ≤ 1048576) (hw : wfD l) : ∀ d i : Nat, d + i = l.length → Ev (fun k => impl_isDisk.l0 k l (l.length : Int) i l) (goD l d i && decide (l.length ≤ 8)) := by
  intro d
  induction d with
  | zero =>
    intro i hi
    refine EvS ?_
    simp only [impl_isDisk.l0, if_neg (show ¬ (i : Int) < (l.length : Int) by omega), goD, Bool.true_and]
    rw [show decide ((l.length : Int) ≤ 8) = decide (l.length ≤ 8) from decide_eq_decide.2 (by omega)]
    exact EvN
  | succ d ih =>
    intro i hi
    have hil : i < l.length := by omega
    have hy := hw _ (List.getElem_mem hil)
    refine EvS ?_
    have hn := impl_name l[i].f0 hy.1
    have h := ih (i + 1) (by omega)
    rw [← rd74 l i hil] at hn hy
    unfold goD okAt
    simp only [impl_isDisk.l0, if_pos (show (i : Int) < (l.length : Int) by omega), if_pos (show 0 ≤ (i : Int) by omega), hn, Option.bind_some, nxt i _ hil (by omega)]
    generalize rd_T74 l (i : Int) = y at hy hn ⊢
    by_cases c1 : nameM y.f0 = true
    · have hw1 : wrap64 ((y.f1.length : Int) + (y.f2.length : Int)) = (y.f1.length : Int) + (y.f2.length : Int) := w64 (by omega) (by omega)
      by_cases c3 : (y.f1.length : Int) + (y.f2.length : Int) > 20000
      · simp only [if_pos c1, hw1, if_pos c3, decide_eq_false (show ¬ y.f1.length + y.f2.length ≤ 20000 by omega), Bool.false_and, Bool.and_false]; exact EvN
      · simp only [if_pos c1, hw1, if_neg c3, c1, decide_eq_true (show y.f1.length + y.f2.length ≤ 20000 by omega), Bool.true_and]
        by_cases c4 : i = 0
        · simp only [if_neg (show ¬ (i : Int) > 0 by omega), decide_eq_true c4, Bool.true_or, Bool.true_and]; exact h
        · have hw2 : wrap64 ((i : Int) - 1) = ((i - 1 : Nat) : Int) := by rw [w64 (by omega) (by omega)]; omega
          simp only [if_pos (show (i : Int) > 0 by omega), hw2, if_pos (show 0 ≤ ((i - 1 : Nat) : Int) by omega), if_pos (show ((i - 1 : Nat) : Int) < (l.length : Int) by omega), decide_eq_false c4, Bool.false_or]
          by_cases c5 : Op.bytesLess (rd_T74 l ((i - 1 : Nat) : Int)).f0.toList y.f0.toList = true
          · simp only [if_pos c5, c5, Bool.true_and]; exact h
          · simp only [if_neg c5, Bool.eq_false_iff.2 c5, Bool.false_and]; exact EvN
    · simp only [if_neg c1, Bool.eq_false_iff.2 c1, Bool.false_and]; exact EvN
theorem spec_disk (l : List S74) (hl : l.length ≤ 1048576) (hw : wfD l) : Ev (fun k => spec_DiskOk.f k l) (diskM l) := by
  unfold spec_DiskOk.f diskM
  by_cases h : l.length ≤ 8
  · simp only [if_neg (show ¬ (l.length : Int) > 8 by omega), decide_eq_true h, Bool.true_and]
    exact specGo l hl hw l.length 0 rfl
  · simp only [if_pos (show (l.length : Int) > 8 by omega), decide_eq_false h, Bool.false_and]
    exact EvN
theorem impl_disk (l : List S74) (hl : l.length ≤ 1048576) (hw : wfD l) : Ev (fun k => impl_isDisk.f k l) (diskM l) := by
  unfold impl_isDisk.f diskM
  rw [Bool.and_comm]
  exact implGo l hl hw l.length 0 rfl
end Go.Proofs.YtmgeffgcihfpcaaDoor.DK

namespace Go.Proofs.YtmgeffgcihfpcaaDoor.F
open Go.RowKit Go.Proofs.YtmgeffgcihfpcaaDoorW.PrintWords Go.Proofs.YtmgeffgcihfpcaaDoorW.PrintWords.Kd Go.Proofs.YtmgeffgcihfpcaaDoorW.PrintMore.Kd Go.Proofs.YtmgeffgcihfpcaaDoorW.PrintLast Go.Proofs.YtmgeffgcihfpcaaDoorW.PrintMore
attribute [local go_sem] max2_int min2_int max_two min_two max_three min_three max_four min_four   -- for this text's walks alone
set_option linter.unusedVariables false
set_option linter.unusedSimpArgs false
end Go.Proofs.YtmgeffgcihfpcaaDoor.F

namespace Go.Proofs.YtmgeffgcihfpcaaDoor.DK
set_option linter.unusedVariables false
set_option linter.unusedSimpArgs false
open Go.RowKit Go.Proofs.YtmgeffgcihfpcaaDoor.F Go.Proofs.YtmgeffgcihfpcaaDoor.PK Go.Proofs.YtmgeffgcihfpcaaDoorW.PrintWords Go.Proofs.YtmgeffgcihfpcaaDoorW.PrintLast Go.Proofs.YtmgeffgcihfpcaaDoorW.PrintMore
theorem rdI (l : List Int) (i : Nat) (h : i < l.length) : rd l (i : Int) = l[i] := getD_nat l _ i h
theorem bytesS (l : List Int) (hl : l.length ≤ 1000000000) : Ev (fun k => spec_l01Bytes.f k l) l := by
  have key := up0 (P := fun i => Ev (fun k => spec_l01Bytes.l0 k l (l.take i.toNat) i) l) l.length
    (EvS (by simp only [spec_l01Bytes.l0, Int.lt_irrefl, if_false, Int.toNat_natCast, List.take_length]; exact EvN))
    (fun i hi ih => EvS (by
      simp only [spec_l01Bytes.l0, if_pos (show (i : Int) < (l.length : Int) by omega), if_pos (show 0 ≤ (i : Int) by omega), Int.toNat_natCast, rdI l i hi, nxt i _ hi (by omega), if_pos (show (l.take i).length < 140737488355328 by rw [List.length_take]; omega)]
      rw [Int.toNat_natCast, List.take_add_one, List.getElem?_eq_getElem hi] at ih
      exact ih))
  unfold spec_l01Bytes.f
  exact key
theorem joinS (l m : List Int) (hl : l.length ≤ 1000000000) (hm : m.length ≤ 1000000000) : Ev (fun k => spec_l01Join.f k l m) (l ++ m) := by
  have key := up0 (P := fun i => Ev (fun k => spec_l01Join.l0 k m (l ++ m.take i.toNat) i) (l ++ m)) m.length
    (EvS (by simp only [spec_l01Join.l0, Int.lt_irrefl, if_false, Int.toNat_natCast, List.take_length]; exact EvN))
    (fun i hi ih => EvS (by
      simp only [spec_l01Join.l0, if_pos (show (i : Int) < (m.length : Int) by omega), if_pos (show 0 ≤ (i : Int) by omega), Int.toNat_natCast, rdI m i hi, nxt i _ hi (by omega), if_pos (show (l ++ m.take i).length < 140737488355328 by rw [List.length_append, List.length_take]; omega)]
      rw [Int.toNat_natCast, List.take_add_one, List.getElem?_eq_getElem hi, ← List.append_assoc] at ih
      exact ih))
  unfold spec_l01Join.f
  simp only [EvB (bytesS l hl)]
  have e : l ++ m.take (0 : Int).toNat = l := by simp
  rw [e] at key
  exact key
def isN (a : ByteArray) : ByteArray → Bool := fun s => s.toList == a.toList
theorem find_ev (l : List S74) (a : ByteArray) (hl : l.length ≤ 1048576) : Ev (fun k => spec_l03Find.f k l a) (idxF (isN a) l 0) := by
  have key := up0 (P := fun i => Ev (fun k => spec_l03Find.l0 k a i l) (idxF (isN a) (l.drop i.toNat) i)) l.length
    (EvS (by
      simp only [spec_l03Find.l0, Int.lt_irrefl, if_false, Int.toNat_natCast, List.drop_length, idxF]
      exact EvN))
    (fun i hi ih => EvS (by
      rw [Int.toNat_natCast] at *
      rw [drop_at l i hi]
      simp only [spec_l03Find.l0, if_pos (show (i : Int) < (l.length : Int) by omega), if_pos (show 0 ≤ (i : Int) by omega), rd74 l i hi, nxt i _ hi (by omega), idxF]
      by_cases h : l[i].f0.toList = a.toList
      · simp only [if_pos h, isN, beq_iff_eq.2 h, if_true]; exact EvN
      · simp only [if_neg h, isN, beq_eq_false_iff_ne.2 h, Bool.false_eq_true, if_false]
        exact ih))
  unfold spec_l03Find.f
  exact key
theorem idxF_bd (p : ByteArray → Bool) : ∀ (l : List S74) (i : Int), 0 ≤ i → idxF p l i = -1 ∨ (i ≤ idxF p l i ∧ idxF p l i < i + l.length) := by
  intro l
  induction l with
  | nil => intro i _; exact .inl rfl
  | cons x t ih =>
    intro i hi
    unfold idxF
    by_cases h : p x.f0 = true
    · rw [if_pos h]; right; simp only [List.length_cons]; omega
    · rw [if_neg h]
      rcases ih (i + 1) (by omega) with h1 | h1
      · exact .inl h1
      · right; simp only [List.length_cons]; omega
def contentM (l : List S74) (a : ByteArray) : List Int × Bool := if diskM l = true then (if idxF (isN a) l 0 < 0 then ([], false) else ((rd_T74 l (idxF (isN a) l 0)).f1 ++ (rd_T74 l (idxF (isN a) l 0)).f2, true)) else ([], false)
theorem at_bd (l : List S74) (hw : wfD l) (i : Int) (h0 : 0 ≤ i) (h1 : i < l.length) : (rd_T74 l i).f1.length ≤ 1048576 ∧ (rd_T74 l i).f2.length ≤ 1048576 := by
  obtain ⟨n, rfl⟩ := Int.eq_ofNat_of_zero_le h0
  have hn : n < l.length := by omega
  rw [rd74 l n hn]
  exact (hw _ (List.getElem_mem hn)).2
theorem content_le (l : List S74) (a : ByteArray) (hw : wfD l) : (contentM l a).1.length ≤ 2097152 := by
  unfold contentM
  by_cases h : diskM l = true
  · rw [if_pos h]
    by_cases h2 : idxF (isN a) l 0 < 0
    · rw [if_pos h2]; simp
    · rw [if_neg h2]
      have := idxF_bd (isN a) l 0 (by omega)
      have := at_bd l hw (idxF (isN a) l 0) (by omega) (by omega)
      rw [List.length_append]
      omega
  · rw [if_neg h]; simp
theorem spec_content (l : List S74) (a : ByteArray) (hl : l.length ≤ 1048576) (hw : wfD l) : Ev (fun k => spec_Content.f k l a) (contentM l a) := by
  unfold spec_Content.f contentM
  simp only [EvB (find_ev l a hl), EvB (spec_disk l hl hw)]
  have hb := idxF_bd (isN a) l 0 (by omega)
  generalize idxF (isN a) l 0 = i at hb ⊢
  by_cases h : diskM l = true
  · by_cases h2 : i < 0
    · simp only [if_pos h, if_pos h2]; exact EvN
    · have hr := at_bd l hw i (by omega) (by omega)
      simp only [if_pos h, if_neg h2, if_pos (show 0 ≤ i by omega), if_pos (show i < (l.length : Int) by omega), EvB (joinS (rd_T74 l i).f1 (rd_T74 l i).f2 (by omega) (by omega))]
      exact EvN
  · simp only [if_neg h]; exact EvN
theorem lt47 (n m : Nat) (h : n ≤ 1000000000) (h' : m ≤ 1000000000) : n + m < 140737488355328 := by omega
end Go.Proofs.YtmgeffgcihfpcaaDoor.DK

namespace Go.Proofs.YtmgeffgcihfpcaaDoor.F
open Go.RowKit Go.Proofs.YtmgeffgcihfpcaaDoorW.PrintWords Go.Proofs.YtmgeffgcihfpcaaDoorW.PrintWords.Kd Go.Proofs.YtmgeffgcihfpcaaDoorW.PrintMore.Kd Go.Proofs.YtmgeffgcihfpcaaDoorW.PrintLast Go.Proofs.YtmgeffgcihfpcaaDoorW.PrintMore
attribute [local go_sem] max2_int min2_int max_two min_two max_three min_three max_four min_four   -- for this text's walks alone
set_option linter.unusedVariables false
set_option linter.unusedSimpArgs false
end Go.Proofs.YtmgeffgcihfpcaaDoor.F

namespace Go.Proofs.YtmgeffgcihfpcaaDoor.DK
set_option linter.unusedVariables false
set_option linter.unusedSimpArgs false
open Go.RowKit Go.Proofs.YtmgeffgcihfpcaaDoor.F Go.Proofs.YtmgeffgcihfpcaaDoor.PK Go.Proofs.YtmgeffgcihfpcaaDoorW.PrintWords Go.Proofs.YtmgeffgcihfpcaaDoorW.PrintLast Go.Proofs.YtmgeffgcihfpcaaDoorW.PrintMore
theorem lt_irr : ∀ a : List UInt8, Op.bytesLess a a = false
  | [] => rfl
  | x :: r => by simp [Op.bytesLess, lt_irr r]
theorem lt_trans : ∀ a b c : List UInt8, Op.bytesLess a b = true → Op.bytesLess b c = true → Op.bytesLess a c = true
  | a, b, [], _, h => by cases b <;> simp [Op.bytesLess] at h
  | [], b, z :: c, _, _ => rfl
  | x :: a, [], z :: c, h, _ => by simp [Op.bytesLess] at h
  | x :: a, y :: b, z :: c, h, h' => by
    simp only [Op.bytesLess, Bool.or_eq_true, decide_eq_true_eq, Bool.and_eq_true, beq_iff_eq, UInt8.lt_iff_toNat_lt] at h h' ⊢
    rcases h with h | ⟨rfl, h⟩
    · rcases h' with h' | ⟨rfl, h'⟩
      · exact .inl (by omega)
      · exact .inl h
    · rcases h' with h' | ⟨rfl, h'⟩
      · exact .inl h'
      · exact .inr ⟨rfl, lt_trans a b c h h'⟩
theorem lt_ne {a b : List UInt8} (h : Op.bytesLess a b = true) : a ≠ b := by
  rintro rfl
  rw [lt_irr] at h
  cases h
def nm (x : S74) : List UInt8 := x.f0.toList
def srt (l : List S74) : Prop := ∀ i j : Nat, i < j → ∀ x y, l[i]? = some x → l[j]? = some y → Op.bytesLess (nm x) (nm y) = true
theorem goD_at (l : List S74) : ∀ d i : Nat, goD l d i = true → ∀ j, i ≤ j → j < i + d → okAt l j = true := by
  intro d
  induction d with
  | zero => intro i _ j _ _; omega
  | succ d ih =>
    intro i h j h1 h2
    unfold goD at h
    rw [Bool.and_eq_true] at h
    by_cases e : j = i
    · subst e; exact h.1
    · exact ih (i + 1) h.2 j (by omega) (by omega)
theorem disk_srt {l : List S74} (h : diskM l = true) : srt l := by
  unfold diskM at h
  rw [Bool.and_eq_true] at h
  have hk := goD_at l _ _ h.2
  have step : ∀ j, j + 1 < l.length → Op.bytesLess (nm (l.getD j z74)) (nm (l.getD (j + 1) z74)) = true := by
    intro j hj
    have := hk (j + 1) (by omega) (by omega)
    unfold okAt at this
    rw [Bool.and_eq_true, Bool.and_eq_true, Bool.or_eq_true] at this
    have h3 := this.2.2.resolve_left (by simp)
    simpa [rd_T74, nm] using h3
  have key : ∀ j i : Nat, i < j → j < l.length → Op.bytesLess (nm (l.getD i z74)) (nm (l.getD j z74)) = true := by
    intro j
    induction j with
    | zero => intro i h1; omega
    | succ j ih =>
      intro i h1 h2
      by_cases e : i = j
      · subst e; exact step i h2
      · exact lt_trans _ _ _ (ih i (by omega) (by omega)) (step j h2)
  intro i j hij x y hx hy
  have h1 := (List.getElem?_eq_some_iff.1 hy).1
  have := key j i hij h1
  rw [List.getD_eq_getElem?_getD, List.getD_eq_getElem?_getD, hx, hy] at this
  exact this
theorem idxF_at (p : ByteArray → Bool) : ∀ (l : List S74) (s : Int), (idxF p l s = -1 ∧ ∀ x ∈ l, p x.f0 = false) ∨ (∃ m : Nat, ∃ x, idxF p l s = s + m ∧ l[m]? = some x ∧ p x.f0 = true ∧ ∀ (j : Nat) (y : S74), j < m → l[j]? = some y → p y.f0 = false) := by
  intro l
  induction l with
  | nil => intro s; exact .inl ⟨rfl, fun x hx => by cases hx⟩
  | cons x t ih =>
    intro s
    unfold idxF
    by_cases h : p x.f0 = true
    · rw [if_pos h]
      exact .inr ⟨0, x, by simp, rfl, h, fun j y hj => by omega⟩
    · rw [if_neg h]
      rcases ih (s + 1) with ⟨h1, h2⟩ | ⟨m, y, h1, h2, h3, h4⟩
      · refine .inl ⟨h1, fun y hy => ?_⟩
        rcases List.mem_cons.1 hy with rfl | hy
        · exact Bool.eq_false_iff.2 h
        · exact h2 y hy
      · refine .inr ⟨m + 1, y, by rw [h1]; omega, by rw [List.getElem?_cons_succ]; exact h2, h3, fun j z hj hz => ?_⟩
        cases j with
        | zero => simp only [List.getElem?_cons_zero, Option.some.injEq] at hz; subst hz; exact Bool.eq_false_iff.2 h
        | succ j => rw [List.getElem?_cons_succ] at hz; exact h4 j z (by omega) hz
def notN (a : ByteArray) : S74 → Bool := fun x => !isN a x.f0
theorem filter_all {α : Type} {p : α → Bool} {l : List α} (h : ∀ x ∈ l, p x = true) : l.filter p = l := List.filter_eq_self.2 h
theorem split_at {α : Type} (l : List α) (m : Nat) (x : α) (h : l[m]? = some x) : l = l.take m ++ x :: l.drop (m + 1) := by
  obtain ⟨h1, h2⟩ := List.getElem?_eq_some_iff.1 h
  conv => lhs; rw [← List.take_append_drop m l, List.drop_eq_getElem_cons h1, h2]
theorem copyS (l : List S74) (hl : l.length ≤ 100000000) (hw : ∀ y ∈ l, y.f1.length ≤ 100000000 ∧ y.f2.length ≤ 100000000) : Ev (fun k => spec_l03Copy.f k l) l := by
  have key := up0 (P := fun i => Ev (fun k => spec_l03Copy.l0 k i l (l.take i.toNat)) l) l.length
    (EvS (by simp only [spec_l03Copy.l0, Int.lt_irrefl, if_false, Int.toNat_natCast, List.take_length]; exact EvN))
    (fun i hi ih => EvS (by
      have hy := hw _ (List.getElem_mem hi)
      simp only [spec_l03Copy.l0, if_pos (show (i : Int) < (l.length : Int) by omega), if_pos (show 0 ≤ (i : Int) by omega), Int.toNat_natCast, rd74 l i hi, EvB (bytesS _ (show l[i].f1.length ≤ 1000000000 by omega)), EvB (bytesS _ (show l[i].f2.length ≤ 1000000000 by omega)), nxt i _ hi (by omega), if_pos (show (l.take i).length < 2199023255552 by rw [List.length_take]; omega)]
      rw [Int.toNat_natCast, List.take_add_one, List.getElem?_eq_getElem hi] at ih
      exact ih))
  unfold spec_l03Copy.f
  exact key
theorem copyI (l : List S74) (hl : l.length ≤ 100000000) (hw : ∀ y ∈ l, y.f1.length ≤ 100000000 ∧ y.f2.length ≤ 100000000) : Ev (fun k => impl_copyDisk.f k l) l := by
  have key := up0 (P := fun i => Ev (fun k => impl_copyDisk.l0 k l (l.length : Int) i (l.take i.toNat)) l) l.length
    (EvS (by simp only [impl_copyDisk.l0, Int.lt_irrefl, if_false, Int.toNat_natCast, List.take_length]; exact EvN))
    (fun i hi ih => EvS (by
      have hy := hw _ (List.getElem_mem hi)
      simp only [impl_copyDisk.l0, if_pos (show (i : Int) < (l.length : Int) by omega), if_pos (show 0 ≤ (i : Int) by omega), Int.toNat_natCast, rd74 l i hi, Option.bind_some, if_pos (show ([] : List Int).length + l[i].f1.length < 140737488355328 by rw [List.length_nil]; omega), if_pos (show ([] : List Int).length + l[i].f2.length < 140737488355328 by rw [List.length_nil]; omega), List.nil_append, nxt i _ hi (by omega), if_pos (show (l.take i).length < 2199023255552 by rw [List.length_take]; omega)]
      rw [Int.toNat_natCast, List.take_add_one, List.getElem?_eq_getElem hi] at ih
      exact ih))
  unfold impl_copyDisk.f
  exact key
def lessN (a : ByteArray) : S74 → Bool := fun x => Op.bytesLess (nm x) a.toList
def putGo (f : S74) : Bool → List S74 → List S74 → List S74
  | b, [], out => if b = true then out else out ++ [f]
  | true, x :: r, out => if nm x = nm f then putGo f true r out else putGo f true r (out ++ [x])
  | false, x :: r, out => if lessN f.f0 x = true then (if nm x = nm f then putGo f false r out else putGo f false r (out ++ [x])) else (if nm x = nm f then putGo f true r (out ++ [f]) else putGo f true r (out ++ [f] ++ [x]))
theorem putGo_true (f : S74) : ∀ (l out : List S74), putGo f true l out = out ++ l.filter (notN f.f0)
  | [], out => by simp [putGo]
  | x :: r, out => by
    unfold putGo
    by_cases c : nm x = nm f
    · rw [if_pos c, putGo_true f r out, List.filter_cons, if_neg (by simp [notN, isN]; exact c)]
    · rw [if_neg c, putGo_true f r _, List.filter_cons, if_pos (by simp [notN, isN]; exact c), List.append_assoc]; rfl
theorem putGo_false (f : S74) : ∀ (l out : List S74), putGo f false l out = out ++ l.takeWhile (lessN f.f0) ++ f :: (l.dropWhile (lessN f.f0)).filter (notN f.f0)
  | [], out => by simp [putGo]
  | x :: r, out => by
    unfold putGo
    by_cases h : lessN f.f0 x = true
    · have c : ¬ nm x = nm f := lt_ne h
      rw [if_pos h, if_neg c, putGo_false f r _, List.takeWhile_cons_of_pos h, List.dropWhile_cons_of_pos h]
      simp
    · rw [if_neg h, List.takeWhile_cons_of_neg h, List.dropWhile_cons_of_neg h]
      by_cases c : nm x = nm f
      · rw [if_pos c, putGo_true, List.filter_cons, if_neg (by simp [notN, isN]; exact c)]
        simp
      · rw [if_neg c, putGo_true, List.filter_cons, if_pos (by simp [notN, isN]; exact c)]
        simp
def putM (l : List S74) (f : S74) : List S74 := l.takeWhile (lessN f.f0) ++ f :: (l.dropWhile (lessN f.f0)).filter (notN f.f0)
theorem put_len (f : S74) : ∀ (b : Bool) (l out : List S74), (putGo f b l out).length ≤ out.length + l.length + 1 := by
  intro b l out
  cases b with
  | true => rw [putGo_true, List.length_append]; have := List.length_filter_le (notN f.f0) l; omega
  | false =>
    rw [putGo_false]
    have h1 := List.length_filter_le (notN f.f0) (l.dropWhile (lessN f.f0))
    have h2 : (l.takeWhile (lessN f.f0)).length + (l.dropWhile (lessN f.f0)).length = l.length := by rw [← List.length_append, List.takeWhile_append_dropWhile]
    simp only [List.length_append, List.length_cons]
    omega
theorem put_mem (f : S74) (l : List S74) : ∀ y ∈ putM l f, y = f ∨ y ∈ l := by
  intro y hy
  rcases List.mem_append.1 hy with h | h
  · exact .inr ((List.takeWhile_sublist _).subset h)
  · rcases List.mem_cons.1 h with h | h
    · exact .inl h
    · exact .inr ((List.dropWhile_sublist _).subset (List.mem_filter.1 h).1)
end Go.Proofs.YtmgeffgcihfpcaaDoor.DK

namespace Go.Proofs.YtmgeffgcihfpcaaDoor.DK
set_option linter.unusedVariables false
set_option linter.unusedSimpArgs false
open Go.RowKit Go.Proofs.YtmgeffgcihfpcaaDoor.F Go.Proofs.YtmgeffgcihfpcaaDoor.PK Go.Proofs.YtmgeffgcihfpcaaDoorW.PrintWords Go.Proofs.YtmgeffgcihfpcaaDoorW.PrintLast Go.Proofs.YtmgeffgcihfpcaaDoorW.PrintMore
theorem putS (l : List S74) (f : S74) (hl : l.length ≤ 10000000) (hw : ∀ y ∈ l, y.f1.length ≤ 100000000 ∧ y.f2.length ≤ 100000000) (hf : f.f1.length ≤ 100000000 ∧ f.f2.length ≤ 100000000) : Ev (fun k => spec_l03Put.f k l f.f0 f.f1 f.f2) (putM l f) := by
  have hsz : (putM l f).length ≤ 100000000 := by
    have := put_len f false l []
    rw [putGo_false, List.length_nil] at this
    simp only [List.nil_append] at this
    show (l.takeWhile (lessN f.f0) ++ f :: (l.dropWhile (lessN f.f0)).filter (notN f.f0)).length ≤ _
    omega
  have fin : Ev (fun k => spec_l03Copy.f k (putM l f)) (putM l f) := copyS _ hsz (fun y hy => by
    rcases put_mem f l y hy with rfl | h
    · exact hf
    · exact hw y h)
  have key : ∀ d i : Nat, d + i = l.length → ∀ (b : Bool) (out : List S74), out.length ≤ 2 * i → putGo f b (l.drop i) out = putM l f → Ev (fun k => spec_l03Put.l0 k b i l f.f0 f.f1 f.f2 out) (putM l f) := by
    intro d
    induction d with
    | zero =>
      intro i hi b out h1 h3
      have hi : i = l.length := by omega
      subst hi
      rw [List.drop_length] at h3
      refine EvS ?_
      simp only [spec_l03Put.l0, Int.lt_irrefl, if_false]
      cases b with
      | true =>
        simp only [putGo, if_true] at h3
        subst h3
        simp only [if_true]
        exact (EvB fin).2 EvN
      | false =>
        simp only [putGo, Bool.false_eq_true, if_false] at h3
        simp only [Bool.false_eq_true, if_false, if_pos (show out.length < 2199023255552 by omega)]
        rw [h3]
        exact (EvB fin).2 EvN
    | succ d ih =>
      intro i hi b out h1 h3
      have hil : i < l.length := by omega
      rw [drop_at l i hil] at h3
      have ih' := fun b out h1 h3 => ih (i + 1) (by omega) b out h1 h3
      refine EvS ?_
      have hi1 : (i : Int) < (l.length : Int) := by omega
      have hi0 : 0 ≤ (i : Int) := by omega
      have hnx := nxt i _ hil (by omega)
      simp only [spec_l03Put.l0, if_pos hi1, if_pos hi0, rd74 l i hil]
      cases b with
      | true =>
        simp only [if_true]
        refine EvS ?_
        simp only [spec_l03Put.j1, Bool.false_eq_true, if_false, if_pos hi1, if_pos hi0, rd74 l i hil, hnx]
        simp only [putGo] at h3
        by_cases c : l[i].f0.toList = f.f0.toList
        · rw [if_pos (show nm l[i] = nm f from c)] at h3
          simp only [if_pos c]
          exact ih' _ _ (by omega) h3
        · rw [if_neg (show ¬ nm l[i] = nm f from c)] at h3
          simp only [if_neg c, if_pos (show out.length < 2199023255552 by omega)]
          exact ih' _ _ (by simp; omega) h3
      | false =>
        simp only [Bool.false_eq_true, if_false]
        refine EvS ?_
        simp only [putGo] at h3
        by_cases g : lessN f.f0 l[i] = true
        · have g' : Op.bytesLess l[i].f0.toList f.f0.toList = true := g
          rw [if_pos g] at h3
          simp only [g', Bool.not_true, spec_l03Put.j1, Bool.false_eq_true, if_false, if_pos hi1, if_pos hi0, rd74 l i hil, hnx]
          by_cases c : l[i].f0.toList = f.f0.toList
          · rw [if_pos (show nm l[i] = nm f from c)] at h3
            simp only [if_pos c]
            exact ih' _ _ (by omega) h3
          · rw [if_neg (show ¬ nm l[i] = nm f from c)] at h3
            simp only [if_neg c, if_pos (show out.length < 2199023255552 by omega)]
            exact ih' _ _ (by simp; omega) h3
        · have g' : Op.bytesLess l[i].f0.toList f.f0.toList = false := Bool.eq_false_iff.2 g
          rw [if_neg g] at h3
          simp only [g', Bool.not_false, spec_l03Put.j1, if_true, if_pos hi1, if_pos hi0, rd74 l i hil, hnx, if_pos (show out.length < 2199023255552 by omega), Option.bind_some]
          by_cases c : l[i].f0.toList = f.f0.toList
          · rw [if_pos (show nm l[i] = nm f from c)] at h3
            simp only [if_pos c]
            exact ih' _ _ (by simp; omega) h3
          · rw [if_neg (show ¬ nm l[i] = nm f from c)] at h3
            have hlen : (out ++ [(⟨f.f0, f.f1, f.f2⟩ : S74)]).length < 2199023255552 := by simp; omega
            simp only [if_neg c, if_pos hlen]
            exact ih' _ _ (by simp; omega) h3
  have := key l.length 0 rfl false [] (by simp) (by rw [List.drop_zero, putGo_false]; rfl)
  unfold spec_l03Put.f
  exact this
end Go.Proofs.YtmgeffgcihfpcaaDoor.DK

namespace Go.Proofs.YtmgeffgcihfpcaaDoor.DK
set_option linter.unusedVariables false
set_option linter.unusedSimpArgs false
open Go.RowKit Go.Proofs.YtmgeffgcihfpcaaDoor.F Go.Proofs.YtmgeffgcihfpcaaDoor.PK Go.Proofs.YtmgeffgcihfpcaaDoorW.PrintWords Go.Proofs.YtmgeffgcihfpcaaDoorW.PrintLast Go.Proofs.YtmgeffgcihfpcaaDoorW.PrintMore
def syncM (l : List S74) (a : ByteArray) : List S74 × Bool := if (contentM l a).2 = true then (l.set (idxF (isN a) l 0).toNat ⟨a, (contentM l a).1, []⟩, true) else (l, false)
theorem wfD_le' {l : List S74} (hw : wfD l) : ∀ y ∈ l, y.f1.length ≤ 100000000 ∧ y.f2.length ≤ 100000000 := fun y hy => by have := hw y hy; omega
theorem content_ok {l : List S74} {a : ByteArray} (h : (contentM l a).2 = true) : diskM l = true ∧ ¬ idxF (isN a) l 0 < 0 ∧ (contentM l a).1 = (rd_T74 l (idxF (isN a) l 0)).f1 ++ (rd_T74 l (idxF (isN a) l 0)).f2 := by
  unfold contentM at h ⊢
  by_cases h1 : diskM l = true
  · rw [if_pos h1] at h ⊢
    by_cases h2 : idxF (isN a) l 0 < 0
    · rw [if_pos h2] at h; cases h
    · rw [if_neg h2]; exact ⟨h1, h2, rfl⟩
  · rw [if_neg h1] at h; cases h
theorem content_no {l : List S74} {a : ByteArray} (h : ¬ (contentM l a).2 = true) : diskM l = true → idxF (isN a) l 0 < 0 := by
  intro h1
  refine Decidable.byContradiction fun h2 => h ?_
  unfold contentM
  rw [if_pos h1, if_neg h2]
theorem idx_at (l : List S74) (a : ByteArray) (h : ¬ idxF (isN a) l 0 < 0) : ∃ (m : Nat) (x : S74), idxF (isN a) l 0 = m ∧ l[m]? = some x ∧ nm x = a.toList ∧ m < l.length := by
  rcases idxF_at (isN a) l 0 with ⟨h1, _⟩ | ⟨m, x, h1, h2, h3, _⟩
  · omega
  · exact ⟨m, x, by omega, h2, by simpa [isN, nm] using h3, (List.getElem?_eq_some_iff.1 h2).1⟩
theorem put_at {l : List S74} (hs : srt l) (f : S74) (m : Nat) (x : S74) (hx : l[m]? = some x) (hn : nm x = f.f0.toList) : putM l f = l.set m f := by
  have hb : ∀ y ∈ l.take m, lessN f.f0 y = true := by
    intro y hy
    obtain ⟨j, hj⟩ := List.mem_iff_getElem?.1 hy
    rw [List.getElem?_take] at hj
    split at hj
    · have := hs j m (by omega) y x hj hx
      rw [hn] at this
      exact this
    · cases hj
  have ha : ∀ y ∈ l.drop (m + 1), notN f.f0 y = true := by
    intro y hy
    obtain ⟨j, hj⟩ := List.mem_iff_getElem?.1 hy
    rw [List.getElem?_drop] at hj
    have := lt_ne (hs m (m + 1 + j) (by omega) x y hx hj)
    simp only [notN, isN, Bool.not_eq_true', beq_eq_false_iff_ne]
    rw [← hn]; exact fun e => this e.symm
  have hx0 : lessN f.f0 x = false := by unfold lessN; rw [hn, lt_irr]
  have hx1 : notN f.f0 x = false := by unfold notN isN; rw [Bool.not_eq_false', beq_iff_eq]; exact hn
  have hm := (List.getElem?_eq_some_iff.1 hx).1
  unfold putM
  have e1 : l.takeWhile (lessN f.f0) = l.take m := by
    conv => lhs; rw [split_at l m x hx]
    rw [List.takeWhile_append_of_pos hb, List.takeWhile_cons_of_neg (by rw [hx0]; decide), List.append_nil]
  have e2 : l.dropWhile (lessN f.f0) = x :: l.drop (m + 1) := by
    conv => lhs; rw [split_at l m x hx]
    rw [List.dropWhile_append_of_pos hb, List.dropWhile_cons_of_neg (by rw [hx0]; decide)]
  rw [e1, e2, List.filter_cons, if_neg (by rw [hx1]; decide), filter_all ha, List.set_eq_take_append_cons_drop, if_pos hm]
theorem mem_set {l : List S74} {m : Nat} {f y : S74} (h : y ∈ l.set m f) : y = f ∨ y ∈ l := (List.mem_or_eq_of_mem_set h).symm
theorem sync_le (l : List S74) (a : ByteArray) (hw : wfD l) : (syncM l a).1.length = l.length ∧ ∀ y ∈ (syncM l a).1, y.f1.length + y.f2.length ≤ 2097152 := by
  have hl : ∀ y ∈ l, y.f1.length + y.f2.length ≤ 2097152 := fun y hy => by have := hw y hy; omega
  unfold syncM
  by_cases h : (contentM l a).2 = true
  · rw [if_pos h]
    refine ⟨by simp, fun y hy => ?_⟩
    rcases mem_set hy with rfl | hy
    · have := content_le l a hw; simpa using this
    · exact hl y hy
  · rw [if_neg h]; exact ⟨rfl, hl⟩
theorem spec_sync (l : List S74) (a : ByteArray) (hl : l.length ≤ 1048576) (hw : wfD l) : Ev (fun k => spec_SyncFile.f k l a) (syncM l a) := by
  have hc := copyS l (by omega) (wfD_le' hw)
  have hS := spec_content l a hl hw
  have hb := content_le l a hw
  unfold spec_SyncFile.f syncM
  simp only [EvB hS]
  by_cases h : (contentM l a).2 = true
  · obtain ⟨h1, h2, _⟩ := content_ok h
    obtain ⟨m, x, e, hx, hn, hm⟩ := idx_at l a h2
    have hP := putS l ⟨a, (contentM l a).1, []⟩ (by omega) (wfD_le' hw) ⟨by show (contentM l a).1.length ≤ 100000000; omega, by simp⟩
    rw [put_at (disk_srt h1) _ m x hx hn] at hP
    simp only [if_pos h]
    rw [e, Int.toNat_natCast]
    exact (EvB hP).2 EvN
  · simp only [if_neg h]
    exact (EvB hc).2 EvN
theorem content_at (l : List S74) (hw : wfD l) (i : Int) (h0 : 0 ≤ i) (h1 : i < l.length) : impl_File_content.f (rd_T74 l i).f0 (rd_T74 l i).f1 (rd_T74 l i).f2 = some ((rd_T74 l i).f1 ++ (rd_T74 l i).f2) := by
  have hr := at_bd l hw i h0 h1
  unfold impl_File_content.f
  rw [Option.bind_some, if_pos (lt47 _ _ (by simp) (by omega)), Option.bind_some, if_pos (lt47 _ _ (by simp; omega) (by omega)), List.nil_append]
theorem impl_sync (l : List S74) (a : ByteArray) (hl : l.length ≤ 1048576) (hw : wfD l) : Ev (fun k => impl_syncFile.f k l a) (syncM l a) := by
  have hc := copyI l (by omega) (wfD_le' hw)
  have hf : impl_fileOf.f l a = some (idxF (isN a) l 0) := by unfold impl_fileOf.f; rw [if_pos (by omega)]; rfl
  unfold impl_syncFile.f syncM
  simp only [EvB hc, hf, Option.bind_some, EvB (impl_disk l hl hw)]
  by_cases h : (contentM l a).2 = true
  · obtain ⟨h1, h2, h3⟩ := content_ok h
    obtain ⟨m, x, e, hx, hn, hm⟩ := idx_at l a h2
    have hil : idxF (isN a) l 0 < (l.length : Int) := by omega
    simp only [if_pos h1, if_neg h2, if_pos hil, content_at l hw _ (by omega) hil, Option.bind_some, if_pos h, h3]
    exact EvN
  · simp only [if_neg h]
    by_cases h1 : diskM l = true
    · simp only [if_pos h1, if_pos (content_no h h1)]; exact EvN
    · simp only [if_neg h1]; exact EvN
theorem impl_sync' (l : List S74) (a : ByteArray) (hl : l.length ≤ 1048576) (hw : wfD l) : Ev (fun k => impl_SyncFile.f k l a) (syncM l a) := by
  unfold impl_SyncFile.f
  simp only [EvB (impl_sync l a hl hw)]
  exact EvN
end Go.Proofs.YtmgeffgcihfpcaaDoor.DK

namespace Go.Proofs.YtmgeffgcihfpcaaDoor.BY
set_option linter.unusedVariables false
set_option linter.unusedSimpArgs false
open Go.RowKit Go.Proofs.YtmgeffgcihfpcaaDoor.F Go.Proofs.YtmgeffgcihfpcaaDoor.PK Go.Proofs.YtmgeffgcihfpcaaDoorW.PrintWords Go.Proofs.YtmgeffgcihfpcaaDoorW.PrintLast
theorem markByteS (l : List Int) (hl : l.length ≤ 9000000000000000000) (a : Int) (ha : 0 ≤ a) (hla : a + l.length ≤ 9223372036854775807) : ∃ (m : Int) (l' : List Int), Ev (fun k => laws_markByteS.f k l a) (m, l') ∧ m = a + l.length ∧ l'.length = l.length ∧ Ev (fun k => laws_heldByteS.f k l' a) m := by
  have key : ∀ (d i : Nat), d + i = l.length → ∀ (x : List Int) (b : Int), x.length = l.length → b = a + i → ∃ l', Ev (fun k => laws_markByteS.l0 k x b i) (a + l.length, l') ∧ l'.length = l.length ∧ (∀ j, j < i → l'[j]? = x[j]?) ∧ Ev (fun k => laws_heldByteS.l0 k l' b i) (a + l.length) := by
    intro d
    induction d with
    | zero =>
      intro i hi x b hx hb
      have hi : i = l.length := by omega
      subst hi
      subst hb
      exact ⟨x, EvS (by simp only [laws_markByteS.l0, hx, Int.lt_irrefl, if_false]; exact EvN), hx, fun _ _ => rfl, EvS (by simp only [laws_heldByteS.l0, hx, Int.lt_irrefl, if_false]; exact EvN)⟩
    | succ d ih =>
      intro i hi x b hx hb
      have hw : wrap64 (b + 1) = b + 1 := w64 (by omega) (by omega)
      obtain ⟨l', h1, h2, h3, h4⟩ := ih (i + 1) (by omega) (x.set i (b % 256)) (b + 1) (by simpa using hx) (by omega)
      have hli : i < l'.length := by omega
      have he : l'[i] = b % 256 := by
        have := h3 i (by omega)
        rw [List.getElem?_set_self (by omega), List.getElem?_eq_getElem hli] at this
        exact Option.some.inj this
      refine ⟨l', EvS ?_, h2, fun j hj => ?_, EvS ?_⟩
      · simp only [laws_markByteS.l0, if_pos (show (i : Int) < (x.length : Int) by omega), if_pos (show 0 ≤ (i : Int) by omega), hw, Int.toNat_natCast, nxt i l.length (by omega) (by omega)]
        exact h1
      · rw [h3 j (by omega), List.getElem?_set_ne (by omega)]
      · simp only [laws_heldByteS.l0, if_pos (show (i : Int) < (l'.length : Int) by omega), if_pos (show 0 ≤ (i : Int) by omega), hw, rd_at l' i hli, he, if_true, nxt i l.length (by omega) (by omega)]
        exact h4
  obtain ⟨l', h1, h2, _, h4⟩ := key l.length 0 (by omega) l a rfl (by omega)
  exact ⟨_, l', h1, rfl, h2, h4⟩
end Go.Proofs.YtmgeffgcihfpcaaDoor.BY

namespace Go.Proofs.YtmgeffgcihfpcaaDoor.MT
set_option linter.unusedVariables false
set_option linter.unusedSimpArgs false
open Go.RowKit Go.Proofs.YtmgeffgcihfpcaaDoor.F Go.Proofs.YtmgeffgcihfpcaaDoor.PK Go.Proofs.YtmgeffgcihfpcaaDoorW.PrintWords Go.Proofs.YtmgeffgcihfpcaaDoorW.PrintLast
theorem strOf1 (x : Int) : (strOfNums [x]).size = 1 := rfl
theorem markText (x : Int) (h : x ≤ 9223372036854775807) : ∃ s, Ev (fun k => laws_markText.f k x) s := by
  have key : ∀ (d : Nat) (x : Int) (s : ByteArray), x < 10 ^ d → s.size + d ≤ 30 → ∃ r, Ev (fun k => laws_markText.l0 k x s) r := by
    intro d
    induction d with
    | zero =>
      intro x s hx hs
      have hS : (1 + s.size ≤ 9223372036854775807) = True := eq_true (by omega)
      refine ⟨(⟨#[109]⟩ : ByteArray) ++ s, EvS ?_⟩
      simp only [laws_markText.l0, if_neg (show ¬ x > 0 by simp at hx; omega), hS, if_true]
      exact EvN
    | succ d ih =>
      intro x s hx hs
      have hS : (1 + s.size ≤ 9223372036854775807) = True := eq_true (by omega)
      by_cases h0 : x > 0
      · have h10 : (10 : Int) ^ (d + 1) = 10 * 10 ^ d := by rw [Int.pow_succ, Int.mul_comm]
        have hq : Int.tdiv x 10 = x / 10 := Int.tdiv_eq_ediv_of_nonneg (by omega)
        obtain ⟨r, hr⟩ := ih (wrap64 (x / 10)) (strOfNums [(wrap64 (48 + (Int.tmod x 10))) % 256] ++ s) (by unfold wrap64; omega) (by rw [ByteArray.size_append, strOf1]; omega)
        refine ⟨r, EvS ?_⟩
        simp only [laws_markText.l0, if_pos h0, Option.bind_some, strOf1, hS, if_true, hq]
        exact hr
      · refine ⟨(⟨#[109]⟩ : ByteArray) ++ s, EvS ?_⟩
        simp only [laws_markText.l0, if_neg h0, hS, if_true]
        exact EvN
  by_cases h0 : x ≤ 0
  · exact ⟨⟨#[109, 48]⟩, by unfold laws_markText.f; simp only [if_pos h0]; exact EvN⟩
  · have h19 : (10 : Int) ^ 19 = 10000000000000000000 := by decide
    obtain ⟨r, hr⟩ := key 19 x ⟨#[]⟩ (by omega) (show 0 + 19 ≤ 30 by omega)
    exact ⟨r, by unfold laws_markText.f; simp only [if_neg h0]; exact hr⟩
end Go.Proofs.YtmgeffgcihfpcaaDoor.MT

namespace Go.Proofs.YtmgeffgcihfpcaaDoor.DK
set_option linter.unusedVariables false
set_option linter.unusedSimpArgs false
open Go.RowKit Go.Proofs.YtmgeffgcihfpcaaDoor.F Go.Proofs.YtmgeffgcihfpcaaDoor.PK Go.Proofs.YtmgeffgcihfpcaaDoorW.PrintWords Go.Proofs.YtmgeffgcihfpcaaDoorW.PrintLast Go.Proofs.YtmgeffgcihfpcaaDoorW.PrintMore
open Go.Proofs.YtmgeffgcihfpcaaDoor.BY (markByteS)
open Go.Proofs.YtmgeffgcihfpcaaDoor.MT (markText)
theorem markFS (B : Nat) (hB : B ≤ 3000000) : ∀ (d i : Nat) (x : List S74) (a : Int), d + i = x.length → x.length ≤ 3000000 → (∀ y ∈ x, 1 + y.f1.length + y.f2.length ≤ B) → 0 ≤ a → a + d * B ≤ 3900000000000000 →
    ∃ (m : Int) (x' : List S74), Ev (fun k => laws_markFileS.l0 k x a i) (m, x') ∧ a ≤ m ∧ m ≤ a + d * B ∧ x'.length = x.length ∧ (∀ j, j < i → x'[j]? = x[j]?) ∧ Ev (fun k => laws_heldFileS.l0 k x' a i) m := by
  intro d
  induction d with
  | zero =>
    intro i x a hi hx hy h0 h1
    have hi : i = x.length := by omega
    subst hi
    exact ⟨a, x, EvS (by simp only [laws_markFileS.l0, Int.lt_irrefl, if_false]; exact EvN), Int.le_refl _, by omega, rfl, fun _ _ => rfl, EvS (by simp only [laws_heldFileS.l0, Int.lt_irrefl, if_false]; exact EvN)⟩
  | succ d ih =>
    intro i x a hi hx hy h0 h1
    have hix : i < x.length := by omega
    have hyi := hy _ (List.getElem_mem hix)
    have hq : ((d + 1 : Nat) : Int) * (B : Int) = (d : Int) * (B : Int) + (B : Int) := by rw [Int.natCast_succ, Int.add_mul, Int.one_mul]
    have hdn : (0 : Int) ≤ (d : Int) * (B : Int) := Int.mul_nonneg (by omega) (by omega)
    rw [hq] at h1
    have hw : wrap64 (a + 1) = a + 1 := w64 (by omega) (by omega)
    obtain ⟨s, hs⟩ := markText a (by omega)
    obtain ⟨b, n', a1, a2, a3, a4⟩ := markByteS x[i].f1 (by omega) (a + 1) (by omega) (by omega)
    obtain ⟨c, w', b1, b2, b3, b4⟩ := markByteS x[i].f2 (by omega) b (by omega) (by omega)
    obtain ⟨m, x', f1, f2, f3, f4, f5, f6⟩ := ih (i + 1) (x.set i ⟨s, n', w'⟩) c (by simp; omega) (by simpa using hx) (fun y hmem => by
      rcases List.mem_or_eq_of_mem_set hmem with h | rfl
      · exact hy y h
      · simp only [a3, b3]; exact hyi) (by omega) (by omega)
    have hli : i < x'.length := by rw [f4]; simpa using hix
    have he : x'[i] = ⟨s, n', w'⟩ := by
      have := f5 i (by omega)
      rw [List.getElem?_set_self hix, List.getElem?_eq_getElem hli] at this
      exact Option.some.inj this
    refine ⟨m, x', EvS ?_, by omega, by rw [hq]; omega, by simpa using f4, fun j hj => ?_, EvS ?_⟩
    · simp only [laws_markFileS.l0, if_pos (show (i : Int) < (x.length : Int) by omega), if_pos (show 0 ≤ (i : Int) by omega), EvB hs, rd74 x i hix, hw, EvB a1, EvB b1, Int.toNat_natCast, nxt i x.length hix (by omega)]
      exact f1
    · rw [f5 j (by omega), List.getElem?_set_ne (by omega)]
    · simp only [laws_heldFileS.l0, if_pos (show (i : Int) < (x'.length : Int) by omega), if_pos (show 0 ≤ (i : Int) by omega), EvB hs, rd74 x' i hli, he, if_true, hw, EvB a4, EvB b4, if_neg (show ¬ b < 0 by omega), if_neg (show ¬ c < 0 by omega), nxt i x'.length hli (by rw [f4]; simp; omega)]
      exact f6
theorem markDisk (B : Nat) (x : List S74) (hB : B ≤ 3000000) (hx : x.length ≤ 3000000) (hs : 1 + (x.length : Int) * B ≤ 3900000000000000) (hy : ∀ y ∈ x, 1 + y.f1.length + y.f2.length ≤ B) : ∃ (m : Int) (x' : List S74), Ev (fun k => laws_markDisk.f k x 1) (m, x') ∧ 1 ≤ m ∧ Ev (fun k => laws_heldDisk.f k x' 1) m := by
  obtain ⟨m, x', h1, h2, _, _, _, h3⟩ := markFS B hB x.length 0 x 1 rfl hx hy (by omega) hs
  refine ⟨m, x', h1, h2, ?_⟩
  have h3 : Ev (fun k => laws_heldFileS.f k x' 1) m := h3
  unfold laws_heldDisk.f
  simp only [EvB h3, if_neg (show ¬ m < 0 by omega)]
  exact EvN
end Go.Proofs.YtmgeffgcihfpcaaDoor.DK

namespace Go.Proofs.YtmgeffgcihfpcaaDoor.Pure
set_option linter.unusedVariables false
set_option linter.unusedSimpArgs false
open Go.RowKit Go.Proofs.YtmgeffgcihfpcaaDoor.F Go.Proofs.YtmgeffgcihfpcaaDoor.PK Go.Proofs.YtmgeffgcihfpcaaDoorW.PrintWords Go.Proofs.YtmgeffgcihfpcaaDoorW.PrintLast
open Go.Proofs.YtmgeffgcihfpcaaDoor.DK Go.Proofs.YtmgeffgcihfpcaaDoor.BY
theorem FnExactSyncFile (l0_0 : List (S101)) (a1 : ByteArray) (hw0 : l0_0.length ≤ 9223372036854775807 ∧ ∀ y_ ∈ l0_0, ((y_.f0.size ≤ 9223372036854775807) ∧ (y_.f1.length ≤ 9223372036854775807 ∧ ∀ z_ ∈ y_.f1, ((Lit.int .u8 z_).wf = true)) ∧ (y_.f2.length ≤ 9223372036854775807 ∧ ∀ z_ ∈ y_.f2, ((Lit.int .u8 z_).wf = true)))) (hw1 : a1.size ≤ 9223372036854775807) : ∃ k, laws_FnExactSyncFile.f k l0_0 a1 = some true := by
  refine EvE ?_
  unfold laws_FnExactSyncFile.f
  by_cases h0 : (a1.size : Int) > 1048576
  · simp only [if_pos h0]; exact EvN
  obtain ⟨t, h1, h3⟩ := szDisk l0_0 hw0.1 (fun y hy => ⟨(hw0.2 y hy).1, (hw0.2 y hy).2.1.1, (hw0.2 y hy).2.2.1⟩)
  simp only [if_neg h0, EvB h1]
  by_cases h : t < 0
  · simp only [if_pos h]; exact EvN
  have h3 := h3 (by omega)
  have hT := toDisk l0_0 h3.1 h3.2
  have hw : wfD (l0_0.map conv101) := fun r hr => by
    obtain ⟨y, hy, rfl⟩ := List.mem_map.1 hr
    exact ⟨(hw0.2 y hy).1, h3.2 y hy⟩
  have hl : (l0_0.map conv101).length ≤ 1048576 := by rw [List.length_map]; exact h3.1
  generalize l0_0.map conv101 = l at hT hw hl
  have hS := spec_sync l a1 hl hw
  have hI := impl_sync' l a1 hl hw
  have hc := sync_le l a1 hw
  generalize syncM l a1 = r at hS hI hc
  obtain ⟨b, q⟩ := r
  simp only at hc
  have hwb : ∀ y ∈ b, y.f1.length + y.f2.length ≤ 2097152 := hc.2
  have hE := eqDisk l (by omega) (fun y hy => by have := hw y hy; omega)
  have hQ := eqDisk b (by omega) (fun y hy => by have := hwb y hy; omega)
  have hm : (l.length : Int) * ((2097153 : Nat) : Int) ≤ 1048576 * 2097153 := Int.mul_le_mul (by omega) (by omega) (by omega) (by omega)
  have hm2 : (b.length : Int) * ((2097153 : Nat) : Int) ≤ 1048576 * 2097153 := Int.mul_le_mul (by omega) (by omega) (by omega) (by omega)
  obtain ⟨m, l', m1, m2, _⟩ := markDisk 2097153 l (by omega) (by omega) (by omega) (fun y hy => by have := hw y hy; omega)
  obtain ⟨n, b', q1, q2, q3⟩ := markDisk 2097153 b (by omega) (by omega) (by omega) (fun y hy => by have := hwb y hy; omega)
  simp only [if_neg h, EvB hT, EvB hS, EvB hI, EvB hQ, if_true, EvB hE, EvB m1, if_neg (show ¬ m < 0 by omega), EvB q1, EvB q3, if_neg (show ¬ n < 0 by omega)]
  exact EvN
end Go.Proofs.YtmgeffgcihfpcaaDoor.Pure

namespace Go.Proofs.YtmgeffgcihfpcaaDoor.Opens
set_option linter.unusedVariables false
set_option linter.unusedSimpArgs false
open Go.RowKit Go.Proofs.YtmgeffgcihfpcaaDoorW.PrintWords
def Opens (P : Program) (t : TypeId) {α : Type} (d : Kd α) (ok : α → Prop) : Prop :=
  P.cellsOf t = d.sz ∧ ∀ (H : Type) (enc : TypeId × Value → H) (w : World) (spare : Nat → Bool) (fuel : Nat) (cs : List Value) (x : DataW H × List MemPlace), DataW.trod enc P w 0 spare true fuel t cs = some x → ∃ a : α, d.K w a cs ∧ ok a
variable {P : Program}
theorem opens_int {t : TypeId} {k : IntKind} (ht : P.underlying t = some (.int k)) (hc : P.cellsOf t = 1) : Opens P t (Kd.int k) (fun a => (Lit.int k a).wf = true) :=
  ⟨hc, fun _ _ _ _ _ _ _ h => by
    obtain ⟨n, rfl, _, hw⟩ := DataW.trod_int ht h
    exact ⟨n, rfl, hw⟩⟩
theorem opens_string {t : TypeId} (ht : P.underlying t = some .string) (hc : P.cellsOf t = 1) : Opens P t Kd.string (fun a => a.size ≤ 9223372036854775807) :=
  ⟨hc, fun _ _ _ _ _ _ _ h => by
    obtain ⟨n, rfl, _, hw⟩ := DataW.trod_string ht h
    exact ⟨n, rfl, hw⟩⟩
theorem add_add (a : Addr) (i j : Nat) : (a.add i).add j = a.add (i + j) := by
  unfold Addr.add
  by_cases hi : i = 0 <;> by_cases hj : j = 0 <;> simp [hi, hj, Nat.add_assoc]
theorem opens_slice {t e : TypeId} {α : Type} {d : Kd α} {ok : α → Prop} (ht : P.underlying t = some (.slice e)) (hc : P.cellsOf t = 1) (hd : Opens P e d ok) :
    Opens P t (Kd.slice e d) (fun l => l.length ≤ 9223372036854775807 ∧ ∀ a ∈ l, ok a) :=
  ⟨hc, fun H enc w spare fuel cs x h => by
    rcases Deep.open_slice ht h with ⟨rfl, _⟩ | ⟨a, len, cap, m, n, D, Pl, rfl, _, hl, hm, hmm, hxx, hx⟩
    · exact ⟨[], ⟨none, 0, rfl, Nat.le_refl _, rfl, Nat.zero_le _, fun h => absurd h (Nat.lt_irrefl _)⟩, Nat.zero_le _, fun _ h => nomatch h⟩
    · have hlm : len ≤ m := by rw [hmm]; split <;> omega
      have hex : ∀ i, i < len → ∃ b : α, ∃ cs', w.cells? 0 (a.add (i * P.cellsOf e)) (P.cellsOf e) = some cs' ∧ d.K w b cs' ∧ ok b := fun i hi => by
        obtain ⟨cs', h1, h2⟩ := hx i (Nat.lt_of_lt_of_le hi hlm)
        obtain ⟨b, hb⟩ := hd.2 H enc w spare n cs' _ h2
        exact ⟨b, cs', h1, hb.1, hb.2⟩
      have hml : len ≤ 9223372036854775807 := by unfold maxLen at hm; omega
      obtain ⟨l, hll, hat⟩ : ∃ l : List α, l.length = len ∧ ∀ i p, l[i]? = some p → ∃ cs', w.cells? 0 (a.add (i * P.cellsOf e)) (P.cellsOf e) = some cs' ∧ d.K w p cs' ∧ ok p := by
        clear hx hlm hmm hl hm hml hxx h
        induction len with
        | zero => exact ⟨[], rfl, fun i p h => by simp at h⟩
        | succ len ih =>
          obtain ⟨l, hll, hat⟩ := ih (fun i hi => hex i (Nat.lt_succ_of_lt hi))
          obtain ⟨b, hb⟩ := hex len (Nat.lt_succ_self _)
          refine ⟨l ++ [b], by simp [hll], fun i p h => ?_⟩
          rcases Nat.lt_or_ge i l.length with hi | hi
          · rw [List.getElem?_append_left hi] at h
            exact hat i p h
          · rw [List.getElem?_append_right hi] at h
            have hi0 : i - l.length = 0 := by
              rcases Nat.eq_zero_or_pos (i - l.length) with h0 | h0
              · exact h0
              · rw [List.getElem?_eq_none (by simp; omega)] at h
                cases h
            rw [hi0] at h
            have : b = p := by simpa using h
            subst this
            have : i = len := by omega
            subst this
            exact hb
      subst hll
      refine ⟨l, ⟨some a, cap, rfl, hl, rfl, hml, fun _ => ⟨a, rfl, fun j p hj => ?_⟩⟩, hml, fun b hb => ?_⟩
      · obtain ⟨cs', h1, hk, _⟩ := hat j p hj
        obtain ⟨_, hlen, hcell⟩ := World.cells?_some h1
        refine ⟨cs', hlen.trans hd.1, hk, fun i u hu => ?_⟩
        have hi : i < P.cellsOf e := by
          have := (List.getElem?_eq_some_iff.1 hu).1
          omega
        have := hcell i hi
        rw [hu, add_add, hd.1] at this
        exact this
      · obtain ⟨i, hi⟩ := List.getElem?_of_mem hb
        obtain ⟨_, _, _, hok⟩ := hat i b hi
        exact hok⟩
def OpensF (P : Program) (fs : List Field) (off : Nat) {α : Type} (d : Kd α) (ok : α → Prop) : Prop :=
  ∀ (H : Type) (enc : TypeId × Value → H) (w : World) (spare : Nat → Bool) (n : Nat) (cs : List Value), (∀ f, f ∈ fs → ∃ y, DataW.trod enc P w 0 spare true n f.type ((cs.drop f.offset).take (P.cellsOf f.type)) = some y) → cs.length = off + d.sz → ∃ a : α, d.K w a (cs.drop off) ∧ ok a
theorem opens_last {f : Field} {off : Nat} {α : Type} {d : Kd α} {ok : α → Prop} (ho : f.offset = off) (hd : Opens P f.type d ok) : OpensF P [f] off d ok := fun H enc w spare n cs hf hl => by
  obtain ⟨y, hy⟩ := hf f (List.mem_singleton.2 rfl)
  rw [ho, List.take_of_length_le (by rw [List.length_drop, hl, hd.1]; omega)] at hy
  exact hd.2 H enc w spare n _ y hy
theorem opens_field {f : Field} {fs : List Field} {off : Nat} {α β : Type} {d : Kd α} {d' : Kd β} {ok : α → Prop} {ok' : β → Prop} (ho : f.offset = off) (hd : Opens P f.type d ok) (hr : OpensF P fs (off + d.sz) d' ok') :
    OpensF P (f :: fs) off (Kd.pair d d') (fun p => ok p.1 ∧ ok' p.2) := fun H enc w spare n cs hf hl => by
  obtain ⟨y, hy⟩ := hf f (List.mem_cons_self ..)
  have hz : (Kd.pair d d').sz = d.sz + d'.sz := rfl
  rw [ho, hd.1] at hy
  obtain ⟨a, ha, hoa⟩ := hd.2 H enc w spare n _ y hy
  obtain ⟨b, hb, hob⟩ := hr H enc w spare n cs (fun g hg => hf g (List.mem_cons_of_mem _ hg)) (by omega)
  refine ⟨(a, b), ⟨(cs.drop off).take d.sz, cs.drop (off + d.sz), ?_, ha, hb⟩, hoa, hob⟩
  rw [← List.drop_drop, List.take_append_drop]
theorem opens_struct {t : TypeId} {fs : Array Field} {α : Type} {d : Kd α} {ok : α → Prop} (ht : P.underlying t = some (.struct fs)) (hc : P.cellsOf t = d.sz) (hf : OpensF P fs.toList 0 d ok) : Opens P t d ok :=
  ⟨hc, fun H enc w spare fuel cs x h => by
    obtain ⟨xs, n, _, _, hlen, hxs, hi⟩ := DataW.trod_struct ht h
    have := hf H enc w spare n cs (fun f hm => by
      obtain ⟨i, hi'⟩ := List.getElem?_of_mem hm
      have hq := hi i f (by simpa using hi')
      have hlt : i < xs.length := by
        have := (List.getElem?_eq_some_iff.1 hi').1
        rw [hxs]
        simpa using this
      rw [List.getElem?_eq_getElem hlt] at hq
      exact ⟨_, hq⟩) (by omega)
    simpa using this⟩
theorem opens_iso {t : TypeId} {α β : Type} {d : Kd α} {ok : α → Prop} (f : β → α) (g : α → β) (hfg : ∀ a, f (g a) = a) (h : Opens P t d ok) : Opens P t (Kd.iso d f) (fun b => ok (f b)) :=
  ⟨h.1, fun H enc w spare fuel cs x hx => by
    obtain ⟨a, ha, hok⟩ := h.2 H enc w spare fuel cs x hx
    exact ⟨g a, by show d.K w (f (g a)) cs; rw [hfg]; exact ha, by show ok (f (g a)); rw [hfg]; exact hok⟩⟩
end Go.Proofs.YtmgeffgcihfpcaaDoor.Opens
