/- The Go law FnExactContent answers true at every input: the last of the merged texts, with the row. -/
import Derived.Test.YtmgeffgcihfpcaaDoorQFnExactContent1
import Derived.Shelf.Abstract
import Derived.Test.YtmgeffgcihfpcaaDoorQFnExactContent4
import Derived.Test.YtmgeffgcihfpcaaDoorWMore
import Derived.Test.YtmgeffgcihfpcaaDoorWKept
import Derived.Test.YtmgeffgcihfpcaaDoorWApart
import Derived.Test.YtmgeffgcihfpcaaDoorQFnExactContent3
import Derived.Test.YtmgeffgcihfpcaaDoorQFnExactContent2
import Derived.Deep.Slices
import Derived.ChangeSame
import Derived.WideShapes
import Derived.Test.YtmgeffgcihfpcaaDoorRows
import Derived.Test.YtmgeffgcihfpcaaDoorTie
import Derived.Test.YtmgeffgcihfpcaaDoorCards
import Derived.LaidMore
import Derived.Lay
import Derived.Stop.Joined
import Derived.SevenTiedAt
import Derived.WalkKit
import Derived.ProofKit
import Derived.OpenShut
import Derived.ShutString
import Derived.ChangeOld
import Derived.Below
import Derived.SizedLaws
import Derived.Test.YtmgeffgcihfpcaaDoorWSized
namespace Go.Proofs.YtmgeffgcihfpcaaDoor.F
open Go.RowKit Go.Proofs.YtmgeffgcihfpcaaDoorW.PrintWords Go.Proofs.YtmgeffgcihfpcaaDoorW.PrintLast Go.Proofs.YtmgeffgcihfpcaaDoorW.PrintMore
attribute [local go_sem] max2_int min2_int max_two min_two max_three min_three max_four min_four   -- for this text's walks alone
set_option linter.unusedVariables false
set_option linter.unusedSimpArgs false

/-! ### impl_File_content: function 64 -/
def impl_File_content.f (a0_0 : ByteArray) (l0_1 : List Int) (l0_2 : List Int) : Option (List Int) := (some (([] : List Int) : List Int)).bind fun y207 => (if y207.length + l0_1.length < 140737488355328 then ((some (y207 ++ l0_1 : List Int)).bind fun y210 => (if y210.length + l0_2.length < 140737488355328 then (some (y210 ++ l0_2)) else (none))) else (none))
def impl_File_content.T1 : Bool × List (List Nat × List Nat) := (true, [([], []), ([], []), ([1], [1]), ([0, 2], [0, 2]), ([], []), ([4], [4]), ([3, 5, 3], [3, 5]), ([6, 6, 0, 1, 2, 3, 4, 5, 6], [6])])
def impl_File_content.B1 : List Nat := [0, 0, 2, 7, 0, 16, 63, 127]
theorem impl_File_content.tab1 : rtab .any (opsOf Tryd.f64 1) = impl_File_content.T1 := by kernel_rfl
theorem impl_File_content.bits1 : waitsOk impl_File_content.T1.2 impl_File_content.B1 = true := by kernel_rfl
set_option maxHeartbeats 8000000 in
set_option maxRecDepth 100000 in
theorem impl_File_content.calls (a0_0 : ByteArray) (A0_1 : Option Addr) (c0_1 : Nat) (l0_1 : List Int) (A0_2 : Option Addr) (c0_2 : Nat) (l0_2 : List Int) (r : List Int) (w : World) (hr0_1 : Kd.C (Kd.int .u8) w A0_1 l0_1.length l0_1) (hc0_1 : l0_1.length ≤ c0_1) (hr0_2 : Kd.C (Kd.int .u8) w A0_2 l0_2.length l0_2) (hc0_2 : l0_2.length ≤ c0_2) (h : impl_File_content.f a0_0 l0_1 l0_2 = some r) :
    Calls Tryd.prog 64 #[.agg #[.string a0_0, .slice A0_1 l0_1.length c0_1, .slice A0_2 l0_2.length c0_2]] w fun e w' => ∃ v0_ : Value, e = .returned (v0_) ∧ Kd.R (Kd.int .u8) 5 w' w.heap.size (fun _ => True) v0_ r ∧ Below w.heap.size w w' := by
  have hu74 := Tryd.underlying74
  have HR0_1 := Aside0.mk hr0_1
  have HC0_1 := Aside0.mk hc0_1
  clear hr0_1 hc0_1
  have HR0_2 := Aside0.mk hr0_2
  have HC0_2 := Aside0.mk hc0_2
  clear hr0_2 hc0_2
  have HB := Aside0.mk (Below.refl w.heap.size w)
  have H : ((some (([] : List Int) : List Int)).bind fun y207 => (if y207.length + l0_1.length < 140737488355328 then ((some (y207 ++ l0_1 : List Int)).bind fun y210 => (if y210.length + l0_2.length < 140737488355328 then (some (y210 ++ l0_2)) else (none))) else (none))) = some r := h
  clear h
  obtain ⟨y207, hy207⟩ : ∃ y_ : List Int, y_ = (([] : List Int)) := ⟨_, rfl⟩
  replace H : (if y207.length + l0_1.length < 140737488355328 then ((some (y207 ++ l0_1 : List Int)).bind fun y210 => (if y210.length + l0_2.length < 140737488355328 then (some (y210 ++ l0_2)) else (none))) else (none)) = some r := by first | (rw [hy207]; with_reducible exact H) | (have H2_ := (Option.bind_some _ _).symm.trans H; rw [hy207]; with_reducible exact H2_) | (have H2_ := (Option.bind_some _ _).symm.trans H; with_reducible exact H2_) | with_reducible exact H | (rw [hy207]; exact H) | exact H
  have Ny207 := Aside0.mk hy207
  clear hy207
  by_cases c2 : y207.length + l0_1.length < 140737488355328
  · rw [if_pos c2] at H
    have LMc2 := Aside0.mk c2
    clear c2
    obtain ⟨y210, hy210⟩ : ∃ y_ : List Int, y_ = (y207 ++ l0_1) := ⟨_, rfl⟩
    replace H : (if y210.length + l0_2.length < 140737488355328 then (some (y210 ++ l0_2)) else (none)) = some r := by first | (rw [hy210]; with_reducible exact H) | (have H2_ := (Option.bind_some _ _).symm.trans H; rw [hy210]; with_reducible exact H2_) | (have H2_ := (Option.bind_some _ _).symm.trans H; with_reducible exact H2_) | with_reducible exact H | (rw [hy210]; exact H) | exact H
    have Ny210 := Aside0.mk hy210
    clear hy210
    by_cases c3 : y210.length + l0_2.length < 140737488355328
    · rw [if_pos c3] at H
      have LMc3 := Aside0.mk c3
      clear c3
      obtain ⟨y213, hy213⟩ : ∃ y_ : List Int, y_ = (y210 ++ l0_2) := ⟨_, rfl⟩
      replace H : (some y213) = some r := by first | (rw [hy213]; with_reducible exact H) | (have H2_ := (Option.bind_some _ _).symm.trans H; rw [hy213]; with_reducible exact H2_) | (have H2_ := (Option.bind_some _ _).symm.trans H; with_reducible exact H2_) | with_reducible exact H | (rw [hy213]; exact H) | exact H
      have Ny213 := Aside0.mk hy213
      clear hy213
      obtain rfl := Option.some.inj H
      go_enter Tryd.func64, Tryd.ntmps64
      try go_wp2_with (first | ((with_reducible refine gate_dst (N := 1) rfl ?_); refine box_event ?hg (N := 1) ?hd (cs := #[.string a0_0, .slice A0_1 l0_1.length c0_1, .slice A0_2 l0_2.length c0_2]) (t := 74) ?hr ?_; (case hd => rfl); (case hg => rfl); (case hr => first | (go_simp; done) | (go_simp; rfl)); intro gb206 hg w4 hbox hb; have n0_ := Aside0.mk (below_step (by repeat (first | (with_reducible first | exact HB.out | apply below_alloc | apply pw_below_drewN | apply below_drew1) | exact HB.out)) hb); have n1_ := Aside0.mk (hbox); have n2_ := Aside0.mk ((by rw [hg]; exact (below_size (by repeat (first | (with_reducible first | exact HB.out | apply below_alloc | apply pw_below_drewN | apply below_drew1) | exact HB.out))) : w.heap.size ≤ gb206)); have n3_ := Aside0.mk ((by rw [hg]; exact (below_size (by repeat (first | (with_reducible first | exact HB.out | apply below_alloc | apply pw_below_drewN | apply below_drew1) | exact HB.out))) : w.heap.size ≤ gb206)); clear HB; have HB := n0_; have BK206 := n1_; have GW206 := n2_; have GE206 := n3_; clear n0_ n1_ n2_ n3_; clear hb hbox hg))
      have n0_ := Aside0.mk (blk_drew BK206.out)
      have n1_ := Aside0.mk (below_drew1 HB.out)
      clear BK206
      clear HB
      have BK206 := n0_
      have HB := n1_
      clear n0_ n1_
      refine start_ (n := 8) (S := fun w' => w'.cell? ⟨gb206, 0, none⟩ = some (.string a0_0) ∧ w'.cell? ⟨gb206, 1, none⟩ = some (.slice A0_1 l0_1.length c0_1) ∧ w'.cell? ⟨gb206, 2, none⟩ = some (.slice A0_2 l0_2.length c0_2)) (ds := []) #[false, false, false, false, false, false, false, false] (by kernel_rfl) rfl rfl ⟨(blk_cell BK206.out 0).trans rfl, (blk_cell BK206.out 1).trans rfl, (blk_cell BK206.out 2).trans rfl⟩ (fun hHeld => ?_); refine with_tabW impl_File_content.tab1 impl_File_content.bits1 (fun HT_ HW_ => ?_)
      generalize w4.drew = w5 at BK206 HB hHeld ⊢
      refine pure_ (i := 1) (N := some 4) (v := ?_) (a' := ?_) #[false, true, false, false, false, false, false, false] rfl rfl (any_of HT_.out (by kernel_rfl)) (fun _ _ _ h => h) (Or.inl ⟨by rfl, ?_⟩) ?_ ?_
      rotate_left
      · intro w'
        go_simp
        with_reducible rfl
      rotate_left
      · simp only [Act.put, List.setIfInBounds_toArray, List.set_cons_zero, List.set_cons_succ, i64_w, i32_w]
        rfl
      refine pure_ (i := 4) (N := some 7) (v := ?_) (a' := ?_) #[false, true, false, false, true, false, false, false] rfl rfl (any_of HT_.out (by kernel_rfl)) (fun _ _ _ h => h) (Or.inl ⟨by rfl, ?_⟩) ?_ ?_
      rotate_left
      · intro w'
        go_simp
        with_reducible rfl
      rotate_left
      · simp only [Act.put, List.setIfInBounds_toArray, List.set_cons_zero, List.set_cons_succ, i64_w, i32_w]
        rfl
      refine take_ (i := 2) (N := some 5) (v := ?_) (a' := ?_) #[false, true, true, false, true, false, false, false] rfl rfl (take_ofW HT_.out HW_.out (by kernel_rfl)) (fun _ _ _ h => h) (Or.inl ⟨by rfl, ?_⟩) hHeld ?_ ?_
      rotate_left
      · rintro w' ⟨s0, s1, s2⟩
        go_simp
        with_reducible rfl
      rotate_left
      · simp only [Act.put, List.setIfInBounds_toArray, List.set_cons_zero, List.set_cons_succ, i64_w, i32_w]
        rfl
      refine take_ (i := 5) (N := some 8) (v := ?_) (a' := ?_) #[false, true, true, false, true, true, false, false] rfl rfl (take_ofW HT_.out HW_.out (by kernel_rfl)) (fun _ _ _ h => h) (Or.inl ⟨by rfl, ?_⟩) hHeld ?_ ?_
      rotate_left
      · rintro w' ⟨s0, s1, s2⟩
        go_simp
        with_reducible rfl
      rotate_left
      · simp only [Act.put, List.setIfInBounds_toArray, List.set_cons_zero, List.set_cons_succ, i64_w, i32_w]
        rfl
      refine one_ (i := 0) (N := some 3) #[true, true, true, false, true, true, false, false] rfl rfl (one_of HT_.out (by kernel_rfl)) (by decide) (fun K hK => ?_)
      refine Kd.R_lit_step (Kd.int .u8) _ 5 ?hg (N := 3) ?hd (xs := ([] : List Int)) (inner := []) (ok := fun _ => True) (okp := fun _ => True) ?hr ?hp (fun _ hk => hk) trivial (Below.refl _ _) (Nat.le_refl _) (by simp) ?_; (case hd => rfl); (case hg => rfl); (case hr => first | (go_simp; done) | (go_simp; rfl)); (case hp => exact (Reps.none _ _))
      intro v208 w6 ho7 hb hg_ hnew_
      clear hg_ hnew_
      (first | rw [← Ny207.out] at ho7 | (simp only [Int.reduceToNat] at ho7; rw [← Ny207.out] at ho7))
      have n0_ := Aside0.mk (Kd.R_lower ho7 (below_size (by repeat (first | (with_reducible first | exact HB.out | apply below_alloc | apply pw_below_drewN | apply below_drew1 | refine below_set ?_ GE206.out) | exact HB.out))))
      have n1_ := Aside0.mk (blk_below (g := gb206) (o := .cells #[.string a0_0, .slice A0_1 l0_1.length c0_1, .slice A0_2 l0_2.length c0_2] 74 (0, 0)) (by (with_reducible repeat (first | refine blk_drewN ?_ _ | refine blk_drew ?_ | refine blk_alloc ?_ _)); exact BK206.out) hb)
      have n2_ := Aside0.mk (below_step (by repeat (first | (with_reducible first | exact HB.out | apply below_alloc | apply pw_below_drewN | apply below_drew1 | refine below_set ?_ GE206.out) | exact HB.out)) hb)
      clear BK206
      clear HB
      have HO209 := n0_
      have BK206 := n1_
      have HB := n2_
      clear n0_ n1_ n2_
      clear hb ho7
      refine hK.out _ _ ⟨(blk_cell BK206.out 0).trans rfl, (blk_cell BK206.out 1).trans rfl, (blk_cell BK206.out 2).trans rfl⟩ (fun hHeld => ?_)
      clear hK K
      refine norm_ (a' := ?_) ?_ ?_
      rotate_left
      · show Act.put _ (some 3) _ = _
        simp only [Act.put, List.setIfInBounds_toArray, List.set_cons_zero, List.set_cons_succ, i64_w, i32_w]
        rfl
      refine one_ (i := 3) (N := some 6) #[true, true, true, true, true, true, false, false] rfl rfl (one_of HT_.out (by kernel_rfl)) (by decide) (fun K hK => ?_)
      refine Kd.R_append_rows_step (Kd.int .u8) (w0 := w) w.heap.size (by rfl) (.tmp 3) (.tmp 5) 33 5 (.int .u8 0) 1 rfl Tryd.underlying33 info5 rfl (by decide) (by omega) v208 y207 l0_1 _ _ _ (fun _ => True) (fun _ => False) rfl rfl ?aO ?aR (fun _ _ h => h) (fun _ h => h.elim) ?aF ?aB ?aS ?aL ?_
      (case aR => repeat (first | exact (Kd.C_below HR0_1.out HB.out) | (with_reducible refine Kd.C_alloc ?_ _) | (with_reducible refine Kd.C_drewN ?_ _) | (with_reducible refine Kd.C_drew ?_)))
      (case aB => exact (by repeat (first | (with_reducible first | exact HB.out | apply below_alloc | apply pw_below_drewN | apply below_drew1 | refine below_set ?_ GE206.out) | exact HB.out)))
      (case aF => exact (fun _ _ => trivial))
      (case aO => exact (by (with_reducible repeat (first | apply Kd.R_alloc | apply Kd.R_drewN | apply Kd.R_drew)); exact HO209.out))
      (case aS => exact (below_size (by repeat (first | (with_reducible first | exact HB.out | apply below_alloc | apply pw_below_drewN | apply below_drew1 | refine below_set ?_ GE206.out) | exact HB.out))))
      (case aL => have := LMc2.out; omega)
      intro v211 w8 ho hb hg hat
      rw [← Ny210.out] at ho
      have n0_ := Aside0.mk (blk_grown (g := gb206) (o := .cells #[.string a0_0, .slice A0_1 l0_1.length c0_1, .slice A0_2 l0_2.length c0_2] 74 (0, 0)) (by (with_reducible repeat (first | refine blk_drewN ?_ _ | refine blk_drew ?_ | refine blk_alloc ?_ _)); exact BK206.out) hg (Kd.R_ne HO209.out BK206.out (by decide)))
      have n1_ := Aside0.mk (hb)
      have n2_ := Aside0.mk (ho)
      clear BK206
      clear HB
      clear HO209
      have BK206 := n0_
      have HB := n1_
      have HO212 := n2_
      clear n0_ n1_ n2_
      clear ho hb hg hat
      refine hK.out _ _ ⟨(blk_cell BK206.out 0).trans rfl, (blk_cell BK206.out 1).trans rfl, (blk_cell BK206.out 2).trans rfl⟩ (fun hHeld => ?_)
      clear hK K
      refine norm_ (a' := ?_) ?_ ?_
      rotate_left
      · show Act.put _ (some 6) _ = _
        simp only [Act.put, List.setIfInBounds_toArray, List.set_cons_zero, List.set_cons_succ, i64_w, i32_w]
        rfl
      refine one_ (i := 6) (N := some 9) #[true, true, true, true, true, true, true, false] rfl rfl (one_of HT_.out (by kernel_rfl)) (by decide) (fun K hK => ?_)
      refine Kd.R_append_rows_step (Kd.int .u8) (w0 := w) w.heap.size (by rfl) (.tmp 6) (.tmp 8) 33 5 (.int .u8 0) 1 rfl Tryd.underlying33 info5 rfl (by decide) (by omega) v211 y210 l0_2 _ _ _ (fun _ => True) (fun _ => False) rfl rfl ?aO ?aR (fun _ _ h => h) (fun _ h => h.elim) ?aF ?aB ?aS ?aL ?_
      (case aR => repeat (first | exact (Kd.C_below HR0_2.out HB.out) | (with_reducible refine Kd.C_alloc ?_ _) | (with_reducible refine Kd.C_drewN ?_ _) | (with_reducible refine Kd.C_drew ?_)))
      (case aB => exact (by repeat (first | (with_reducible first | exact HB.out | apply below_alloc | apply pw_below_drewN | apply below_drew1 | refine below_set ?_ GE206.out) | exact HB.out)))
      (case aF => exact (fun _ _ => trivial))
      (case aO => exact (by (with_reducible repeat (first | apply Kd.R_alloc | apply Kd.R_drewN | apply Kd.R_drew)); exact HO212.out))
      (case aS => exact (below_size (by repeat (first | (with_reducible first | exact HB.out | apply below_alloc | apply pw_below_drewN | apply below_drew1 | refine below_set ?_ GE206.out) | exact HB.out))))
      (case aL => have := LMc3.out; omega)
      intro v214 w9 ho hb hg hat
      rw [← Ny213.out] at ho
      have n0_ := Aside0.mk (blk_grown (g := gb206) (o := .cells #[.string a0_0, .slice A0_1 l0_1.length c0_1, .slice A0_2 l0_2.length c0_2] 74 (0, 0)) (by (with_reducible repeat (first | refine blk_drewN ?_ _ | refine blk_drew ?_ | refine blk_alloc ?_ _)); exact BK206.out) hg (Kd.R_ne HO212.out BK206.out (by decide)))
      have n1_ := Aside0.mk (hb)
      have n2_ := Aside0.mk (ho)
      clear BK206
      clear HB
      clear HO212
      have BK206 := n0_
      have HB := n1_
      have HO215 := n2_
      clear n0_ n1_ n2_
      clear ho hb hg hat
      refine hK.out _ _ ⟨(blk_cell BK206.out 0).trans rfl, (blk_cell BK206.out 1).trans rfl, (blk_cell BK206.out 2).trans rfl⟩ (fun hHeld => ?_)
      clear hK K
      refine norm_ (a' := ?_) ?_ ?_
      rotate_left
      · show Act.put _ (some 9) _ = _
        simp only [Act.put, List.setIfInBounds_toArray, List.set_cons_zero, List.set_cons_succ, i64_w, i32_w]
        rfl
      refine pure_ (i := 7) (N := some 2) (v := ?_) (a' := ?_) #[true, true, true, true, true, true, true, true] rfl rfl (any_of HT_.out (by kernel_rfl)) (fun _ _ _ h => h) (Or.inl ⟨by rfl, ?_⟩) ?_ ?_
      rotate_left
      · intro w'
        go_simp
        with_reducible rfl
      rotate_left
      · simp only [Act.put, List.setIfInBounds_toArray, List.set_cons_zero, List.set_cons_succ, i64_w, i32_w]
        rfl
      refine done_ (done_of HT_.out (by kernel_rfl)) ?_
      try go_wp2
      go_ret
      exact ⟨_, by first | rfl | (simp [errW_none, errW_some] <;> rfl) | (simp [*, errW_none, errW_some] <;> rfl), by (with_reducible repeat (first | apply Kd.R_alloc | apply Kd.R_drewN | apply Kd.R_drew)); exact HO215.out, by repeat (first | (with_reducible first | exact HB.out | apply below_alloc | apply pw_below_drewN | apply below_drew1 | refine below_set ?_ GE206.out) | exact HB.out)⟩
    · rw [if_neg c3] at H
      exact absurd H (by simp)
  · rw [if_neg c2] at H
    exact absurd H (by simp)

end Go.Proofs.YtmgeffgcihfpcaaDoor.F

namespace Go.Proofs.YtmgeffgcihfpcaaDoor.F
open Go.RowKit Go.Proofs.YtmgeffgcihfpcaaDoorW.PrintWords Go.Proofs.YtmgeffgcihfpcaaDoorW.PrintLast Go.Proofs.YtmgeffgcihfpcaaDoorW.PrintMore
set_option linter.unusedVariables false
set_option linter.unusedSimpArgs false
def PredF (g : Nat) (lb : Array Value) (p : ByteArray → Bool) (w : World) : Prop := ∀ w1 : World, Below w.heap.size w w1 → ∀ (s : ByteArray) (v1 v2 : Value), Calls Tryd.prog g (#[.agg #[.string s, v1, v2]] ++ lb) w1 fun e w' => e = .returned (.bool (p s)) ∧ Below w1.heap.size w1 w'
/-- The place of the first file of a name, from a place on; else minus one. -/
def idxF (p : ByteArray → Bool) : List S74 → Int → Int
  | [], _ => -1
  | x :: t, i => if p x.f0 = true then i else idxF p t (i + 1)
set_option maxHeartbeats 4000000 in
theorem indexFile.calls (g : Nat) (lb : Array Value) (p : ByteArray → Bool) (eg : ∀ args w, (callFunc g args).run Tryd.prog w = .ok (.enter g args) w) (A : Option Addr) (c : Nat) (l : List S74) (w : World) (hr : Kd.C k74 w A l.length l) (hl : l.length ≤ 9223372036854775807) (hp : PredF g lb p w) :
    Calls Tryd.prog 94 #[.slice A l.length c, .func (.func g) #[] lb] w fun e w' => e = .returned (.int .i64 (idxF p l 0)) ∧ Below w.heap.size w w' := by
  have HR0 := Aside0.mk hr
  clear hr
  have HP := Aside0.mk hp
  clear hp
  have hu74 := Tryd.underlying74
  go_enter Tryd.func94, Tryd.ntmps94
  go_wp2
  go_loopg [5, 8] l.length (fun gg _ v8 w' => ∃ kk : Nat, kk ≤ l.length ∧ l.length - kk ≤ gg ∧ v8 = .int .i64 kk ∧ Aside0 (Below w.heap.size w w') ∧ Aside0 (idxF p (l.drop kk) kk = idxF p l 0))
  case atStart => exact ⟨0, Nat.zero_le _, by omega, rfl, ⟨Below.refl _ _⟩, ⟨rfl⟩⟩
  case round =>
    obtain ⟨kk, hkk, hg, rfl, HB, HA⟩ := hrel
    by_cases hlt : kk < l.length
    · have hltz : (kk : Int) < (l.length : Int) := by omega
      obtain ⟨ad, A1, c1, A2, c2, e, hx0, hx1, hx2, _, _, _, _⟩ := at_T74 HR0.out (kk : Int) (by omega) (by omega)
      cases e
      replace hx0 := (HB.out.cell (World.block_lt_of_cell? w _ hx0)).trans hx0
      replace hx1 := (HB.out.cell (World.block_lt_of_cell? w _ hx1)).trans hx1
      replace hx2 := (HB.out.cell (World.block_lt_of_cell? w _ hx2)).trans hx2
      rw [Int.toNat_natCast] at hx0 hx1 hx2
      have hrd : rd_T74 l (kk : Int) = l[kk] := by simp [rd_T74, List.getD_eq_getElem?_getD, List.getElem?_eq_getElem hlt]
      have hA := HA.out
      rw [List.drop_eq_getElem_cons hlt] at hA
      rw [hrd] at hx0 hx1 hx2
      clear HA hrd
      generalize l[kk] = y at hx0 hx1 hx2 hA
      have hcall := HP.out wr HB.out y.f0 (.slice A1 y.f1.length c1) (.slice A2 y.f2.length c2)
      cases hq : p y.f0 with
      | true =>
        simp only [idxF, hq, if_true] at hA
        rw [hq] at hcall
        have HA := Aside0.mk hA
        clear hA
        go_wp2_with (go_at_fn g; refine hcall.mono ?_; rintro e w' ⟨rfl, hb⟩; replace HB := Aside0.mk (below_step HB.out hb); clear hb)
        go_ret
        exact ⟨by rw [← HA.out]; rfl, HB.out⟩
      | false =>
        simp only [idxF, hq, Bool.false_eq_true, if_false] at hA
        rw [hq] at hcall
        have HA := Aside0.mk hA
        clear hA
        go_wp2_with (go_at_fn g; refine hcall.mono ?_; rintro e w' ⟨rfl, hb⟩; replace HB := Aside0.mk (below_step HB.out hb); clear hb)
        go_roundg (l.length - (kk + 1))
        case measure => omega
        case rel => exact ⟨kk + 1, by omega, by omega, by go_num, HB, ⟨by have := HA.out; simpa using this⟩⟩
    · have hltz : ¬ (kk : Int) < (l.length : Int) := by omega
      have : kk = l.length := by omega
      subst this
      go_wp2
      go_ret
      refine ⟨?_, HB.out⟩
      rw [← HA.out, List.drop_length]
      rfl
set_option maxHeartbeats 4000000 in
theorem fileOf1.pred (B : Nat) (name : ByteArray) (w : World) (hb : w.cell? ⟨B, 0, none⟩ = some (.string name)) : PredF 95 #[.pointer (some ⟨B, 0, none⟩)] (fun s => s.toList == name.toList) w := by
  intro w1 hB s v1 v2
  have hlt := Nat.lt_of_lt_of_le (World.block_lt_of_cell? w _ hb) hB.size
  have hx := (hB.cell (World.block_lt_of_cell? w _ hb)).trans hb
  clear hb hB
  have hu74 := Tryd.underlying74
  have hlt2 : B < w1.heap.size := hlt
  clear hlt
  go_enter Tryd.func95, Tryd.ntmps95
  go_wp2
  go_ret
  exact ⟨rfl, below_alloc (Below.refl _ _) _⟩
def impl_fileOf.f (l0_0 : List S74) (a1 : ByteArray) : Option Int := if l0_0.length ≤ 9223372036854775807 then some (idxF (fun s => s.toList == a1.toList) l0_0 0) else none
set_option maxHeartbeats 4000000 in
theorem impl_fileOf.calls (A0_0 : Option Addr) (c0_0 : Nat) (l0_0 : List S74) (a1 : ByteArray) (r : Int) (w : World) (hr0_0 : Kd.C k74 w A0_0 l0_0.length l0_0) (hc0_0 : l0_0.length ≤ c0_0) (h : impl_fileOf.f l0_0 a1 = some r) :
    Calls Tryd.prog 63 #[.agg #[.slice A0_0 l0_0.length c0_0], .string a1] w fun e w' => e = .returned (.int .i64 r) ∧ Below w.heap.size w w' := by
  unfold impl_fileOf.f at h
  split at h
  · rename_i hl
    have h := Option.some.inj h
    subst h
    have HR := Aside0.mk hr0_0
    have HL := Aside0.mk hl
    clear hr0_0 hl
    have e6 : ∀ args w, (callFunc 94 args).run Tryd.prog w = .ok (.enter 94 args) w := enters_of Tryd.func94 (by kernel_rfl) rfl
    have e7 : ∀ args w, (callFunc 95 args).run Tryd.prog w = .ok (.enter 95 args) w := enters_of Tryd.func95 (by kernel_rfl) rfl
    have hmf : ∀ (fn : Fn) (first cap : Array Value) (w : World), (Instr.makeFunc fn first cap).run Tryd.prog w = .ok (.func fn first cap) w := fun _ _ _ _ => rfl
    have hcall := indexFile.calls 95 #[.pointer (some ⟨w.heap.size + 1, 0, none⟩)] (fun s => s.toList == a1.toList) e7 A0_0 c0_0 l0_0 ((w.alloc (.cells #[.slice A0_0 l0_0.length c0_0] 29)).alloc (.cells #[.string a1] 9)) (Kd.C_alloc (Kd.C_alloc HR.out _) _) HL.out (fileOf1.pred _ _ _ (by simp))
    go_enter Tryd.func63, Tryd.ntmps63
    go_wp2_with (go_at_fn 94; refine hcall.mono ?_; rintro e w' ⟨rfl, hb⟩)
    go_ret
    exact ⟨rfl, below_step (below_alloc (below_alloc (Below.refl _ _) _) _) hb⟩
  · cases h
end Go.Proofs.YtmgeffgcihfpcaaDoor.F

namespace Go.Proofs.YtmgeffgcihfpcaaDoor.F
open Go.RowKit Go.Proofs.YtmgeffgcihfpcaaDoorW.PrintWords Go.Proofs.YtmgeffgcihfpcaaDoorW.PrintLast Go.Proofs.YtmgeffgcihfpcaaDoorW.PrintMore
attribute [local go_sem] max2_int min2_int max_two min_two max_three min_three max_four min_four   -- for this text's walks alone
set_option linter.unusedVariables false
set_option linter.unusedSimpArgs false

/-! ### impl_Content: function 20 -/
def impl_Content.f (k : Nat) (l0_0 : List (S74)) (a1 : ByteArray) : Option (List Int × Bool) := (impl_fileOf.f l0_0 a1).bind fun t217 => ((impl_isDisk.f k l0_0).bind fun t218 => (if t218 = true then (if t217 < 0 then (some (([] : List Int), false)) else (if 0 ≤ t217 then (if t217 < (l0_0.length : Int) then ((impl_File_content.f ((rd_T74 l0_0 t217).f0) ((rd_T74 l0_0 t217).f1) ((rd_T74 l0_0 t217).f2)).bind fun t220 => (some (t220, true))) else (none)) else (none))) else (some (([] : List Int), false))))
theorem impl_Content.mono : ∀ a0 a1 k, LeO (impl_Content.f k a0 a1) (impl_Content.f (k + 1) a0 a1) := by
  intro a0 a1 k
  unfold impl_Content.f
  repeat' first
      | (with_reducible exact impl_isDisk.mono _ _)
      | (with_reducible exact LeO.refl _)
      | (with_reducible exact LeO.none _)
      | (with_reducible refine LeO.ite ?_ ?_)
      | (with_reducible refine LeO.bind ?_ (fun _ => ?_))
      | exact impl_isDisk.mono _ _
      | exact LeO.none _
      | refine LeO.ite ?_ ?_
      | refine LeO.bind ?_ (fun _ => ?_)
set_option maxHeartbeats 8000000 in
set_option maxRecDepth 100000 in
theorem impl_Content.calls (k : Nat) (A0_0 : Option Addr) (c0_0 : Nat) (l0_0 : List (S74)) (a1 : ByteArray) (r1 : List Int) (r2 : Bool) (w : World) (hr0_0 : Kd.C k74 w A0_0 l0_0.length l0_0) (hc0_0 : l0_0.length ≤ c0_0) (h : impl_Content.f k l0_0 a1 = some (r1, r2)) :
    Calls Tryd.prog 20 #[.agg #[.slice A0_0 l0_0.length c0_0], .string a1] w fun e w' => ∃ v0_ : Value, e = .returned (.tuple #[v0_, .bool r2]) ∧ Kd.R (Kd.int .u8) 5 w' w.heap.size (fun _ => True) v0_ r1 ∧ Below w.heap.size w w' := by
  have hu29 := Tryd.underlying29
  have hu74 := Tryd.underlying74
  have HR0_0 := Aside0.mk hr0_0
  have HC0_0 := Aside0.mk hc0_0
  clear hr0_0 hc0_0
  have HB := Aside0.mk (Below.refl w.heap.size w)
  have H : ((impl_fileOf.f l0_0 a1).bind fun t217 => ((impl_isDisk.f k l0_0).bind fun t218 => (if t218 = true then (if t217 < 0 then (some (([] : List Int), false)) else (if 0 ≤ t217 then (if t217 < (l0_0.length : Int) then ((impl_File_content.f ((rd_T74 l0_0 t217).f0) ((rd_T74 l0_0 t217).f1) ((rd_T74 l0_0 t217).f2)).bind fun t220 => (some (t220, true))) else (none)) else (none))) else (some (([] : List Int), false))))) = some (r1, r2) := h
  clear h
  replace H := Option.bind_eq_some_iff.mp H
  obtain ⟨t217, A30, H⟩ := H
  replace H : ((impl_isDisk.f k l0_0).bind fun t218 => (if t218 = true then (if t217 < 0 then (some (([] : List Int), false)) else (if 0 ≤ t217 then (if t217 < (l0_0.length : Int) then ((impl_File_content.f ((rd_T74 l0_0 t217).f0) ((rd_T74 l0_0 t217).f1) ((rd_T74 l0_0 t217).f2)).bind fun t220 => (some (t220, true))) else (none)) else (none))) else (some (([] : List Int), false)))) = some (r1, r2) := H
  have A3 := Aside0.mk A30
  clear A30
  replace H := Option.bind_eq_some_iff.mp H
  obtain ⟨t218, A40, H⟩ := H
  replace H : (if t218 = true then (if t217 < 0 then (some (([] : List Int), false)) else (if 0 ≤ t217 then (if t217 < (l0_0.length : Int) then ((impl_File_content.f ((rd_T74 l0_0 t217).f0) ((rd_T74 l0_0 t217).f1) ((rd_T74 l0_0 t217).f2)).bind fun t220 => (some (t220, true))) else (none)) else (none))) else (some (([] : List Int), false))) = some (r1, r2) := H
  have A4 := Aside0.mk A40
  clear A40
  by_cases c5 : t218 = true
  · subst c5
    have H1 : (if t217 < 0 then (some (([] : List Int), false)) else (if 0 ≤ t217 then (if t217 < (l0_0.length : Int) then ((impl_File_content.f ((rd_T74 l0_0 t217).f0) ((rd_T74 l0_0 t217).f1) ((rd_T74 l0_0 t217).f2)).bind fun t220 => (some (t220, true))) else (none)) else (none))) = some (r1, r2) := by rw [if_pos rfl] at H; exact H
    clear H
    have H := H1
    clear H1
    by_cases c6 : t217 < 0
    · rw [if_pos c6] at H
      have c6b0 : decide (t217 < 0) = true := decide_eq_true c6
      clear c6
      simp only [Option.some.injEq, Prod.mk.injEq] at H
      obtain ⟨rfl, rfl⟩ := H
      go_enter Tryd.func20, Tryd.ntmps20
      go_wp2_with (first | ((with_reducible refine gate_dst (N := 2) rfl ?_); refine box_event ?hg (N := 2) ?hd (cs := #[.slice A0_0 l0_0.length c0_0]) (t := 29) ?hr ?_; (case hd => rfl); (case hg => rfl); (case hr => first | (go_simp; done) | (go_simp; rfl)); intro gb216 hg w7 hbox hb; have n0_ := Aside0.mk (below_step (by repeat (first | (with_reducible first | exact HB.out | apply below_alloc | apply pw_below_drewN | apply below_drew1) | exact HB.out)) hb); have n1_ := Aside0.mk (hbox); have n2_ := Aside0.mk ((by rw [hg]; exact (below_size (by repeat (first | (with_reducible first | exact HB.out | apply below_alloc | apply pw_below_drewN | apply below_drew1) | exact HB.out))) : w.heap.size ≤ gb216)); have n3_ := Aside0.mk ((by rw [hg]; exact (below_size (by repeat (first | (with_reducible first | exact HB.out | apply below_alloc | apply pw_below_drewN | apply below_drew1) | exact HB.out))) : w.heap.size ≤ gb216)); clear HB; have HB := n0_; have BK216 := n1_; have GW216 := n2_; have GE216 := n3_; clear n0_ n1_ n2_ n3_; clear hb hbox hg; have hcz8_0 : w7.cell? ⟨gb216, 0, none⟩ = some (.slice A0_0 l0_0.length c0_0) := (blk_cell BK216.out 0).trans rfl; have hfz8_0 := blk_frozen BK216.out 0) | ((with_reducible refine gate_callee (f := 63) rfl ?_); refine goesL_ (some 9) rfl rfl Tryd.func63 (by kernel_rfl) rfl #[.agg #[.slice A0_0 l0_0.length c0_0], .string a1] rfl (by (try simp only [List.map_toArray, List.map_cons, List.map_nil]); first | done | rfl | (simp only [List.length_drop, List.length_take]; rfl)) ?_; (with_reducible refine (impl_fileOf.calls _ _ l0_0 a1 t217 _ ?side1 ?side2 A3.out).mono ?_); (case side1 => repeat (first | exact (Kd.C_below HR0_0.out HB.out) | (with_reducible refine Kd.C_alloc ?_ _) | (with_reducible refine Kd.C_drewN ?_ _) | (with_reducible refine Kd.C_drew ?_))); (case side2 => exact HC0_0.out); rintro e w9 ⟨rfl, hb⟩; refine ⟨_, rfl, ?_⟩; have n0_ := Aside0.mk (blk_below (g := gb216) (o := .cells #[.slice A0_0 l0_0.length c0_0] 29 (0, 0)) (by (with_reducible repeat (first | refine blk_drewN ?_ _ | refine blk_drew ?_ | refine blk_alloc ?_ _)); exact BK216.out) hb); have n1_ := Aside0.mk (below_step (by repeat (first | (with_reducible first | exact HB.out | apply below_alloc | apply pw_below_drewN | apply below_drew1 | refine below_set ?_ GE216.out) | exact HB.out)) hb); clear BK216; clear HB; have BK216 := n0_; have HB := n1_; clear n0_ n1_; (try clear hb); (try clear hb2); (try clear hk); (try clear hi); have hcz10_0 : w9.cell? ⟨gb216, 0, none⟩ = some (.slice A0_0 l0_0.length c0_0) := (blk_cell BK216.out 0).trans rfl; have hfz10_0 := blk_frozen BK216.out 0) | ((with_reducible refine gate_callee (f := 59) rfl ?_); refine goesL_ (some 11) rfl rfl Tryd.func59 (by kernel_rfl) rfl #[.agg #[.slice A0_0 l0_0.length c0_0]] rfl (by (try simp only [List.map_toArray, List.map_cons, List.map_nil]); first | done | rfl | (simp only [List.length_drop, List.length_take]; rfl)) ?_; (with_reducible refine (impl_isDisk.calls k _ _ l0_0 true _ ?side1 ?side2 A4.out).mono ?_); (case side1 => repeat (first | exact (Kd.C_below HR0_0.out HB.out) | (with_reducible refine Kd.C_alloc ?_ _) | (with_reducible refine Kd.C_drewN ?_ _) | (with_reducible refine Kd.C_drew ?_))); (case side2 => exact HC0_0.out); rintro e w11 ⟨rfl, hb⟩; refine ⟨_, rfl, ?_⟩; have n0_ := Aside0.mk (blk_below (g := gb216) (o := .cells #[.slice A0_0 l0_0.length c0_0] 29 (0, 0)) (by (with_reducible repeat (first | refine blk_drewN ?_ _ | refine blk_drew ?_ | refine blk_alloc ?_ _)); exact BK216.out) hb); have n1_ := Aside0.mk (below_step (by repeat (first | (with_reducible first | exact HB.out | apply below_alloc | apply pw_below_drewN | apply below_drew1 | refine below_set ?_ GE216.out) | exact HB.out)) hb); clear BK216; clear HB; have BK216 := n0_; have HB := n1_; clear n0_ n1_; (try clear hb); (try clear hb2); (try clear hk); (try clear hi)))
      go_ret2
      exact ⟨_, by first | rfl | (simp [errW_none, errW_some] <;> rfl) | (simp [*, errW_none, errW_some] <;> rfl), by first | exact Kd.R_nil _ _ _ _ _ | exact Kd.N_nil _ _ _ _ _ | exact Kd.V_nil _ _ _ _ _ | exact Kd.Q_nil _ _ _ _ _ | exact Kd.S_nil _ _ _ _ _, by repeat (first | (with_reducible first | exact HB.out | apply below_alloc | apply pw_below_drewN | apply below_drew1 | refine below_set ?_ GE216.out) | exact HB.out)⟩
    · rw [if_neg c6] at H
      have c6b0 : decide (t217 < 0) = false := decide_eq_false c6
      clear c6
      by_cases c12 : 0 ≤ t217
      · rw [if_pos c12] at H
        have c12b0 : decide (0 ≤ t217) = true := decide_eq_true c12
        clear c12
        by_cases c13 : t217 < (l0_0.length : Int)
        · rw [if_pos c13] at H
          have c13b0 : decide (t217 < (l0_0.length : Int)) = true := decide_eq_true c13
          clear c13
          replace H := Option.bind_eq_some_iff.mp H
          obtain ⟨t220, A140, H⟩ := H
          replace H : (some (t220, true)) = some (r1, r2) := H
          have A14 := Aside0.mk A140
          clear A140
          simp only [Option.some.injEq, Prod.mk.injEq] at H
          obtain ⟨rfl, rfl⟩ := H
          go_enter Tryd.func20, Tryd.ntmps20
          go_wp2_with (first | ((with_reducible refine gate_dst (N := 2) rfl ?_); refine box_event ?hg (N := 2) ?hd (cs := #[.slice A0_0 l0_0.length c0_0]) (t := 29) ?hr ?_; (case hd => rfl); (case hg => rfl); (case hr => first | (go_simp; done) | (go_simp; rfl)); intro gb216 hg w15 hbox hb; have n0_ := Aside0.mk (below_step (by repeat (first | (with_reducible first | exact HB.out | apply below_alloc | apply pw_below_drewN | apply below_drew1) | exact HB.out)) hb); have n1_ := Aside0.mk (hbox); have n2_ := Aside0.mk ((by rw [hg]; exact (below_size (by repeat (first | (with_reducible first | exact HB.out | apply below_alloc | apply pw_below_drewN | apply below_drew1) | exact HB.out))) : w.heap.size ≤ gb216)); have n3_ := Aside0.mk ((by rw [hg]; exact (below_size (by repeat (first | (with_reducible first | exact HB.out | apply below_alloc | apply pw_below_drewN | apply below_drew1) | exact HB.out))) : w.heap.size ≤ gb216)); clear HB; have HB := n0_; have BK216 := n1_; have GW216 := n2_; have GE216 := n3_; clear n0_ n1_ n2_ n3_; clear hb hbox hg; have hcz16_0 : w15.cell? ⟨gb216, 0, none⟩ = some (.slice A0_0 l0_0.length c0_0) := (blk_cell BK216.out 0).trans rfl; have hfz16_0 := blk_frozen BK216.out 0) | ((with_reducible refine gate_callee (f := 63) rfl ?_); refine goesL_ (some 9) rfl rfl Tryd.func63 (by kernel_rfl) rfl #[.agg #[.slice A0_0 l0_0.length c0_0], .string a1] rfl (by (try simp only [List.map_toArray, List.map_cons, List.map_nil]); first | done | rfl | (simp only [List.length_drop, List.length_take]; rfl)) ?_; (with_reducible refine (impl_fileOf.calls _ _ l0_0 a1 t217 _ ?side1 ?side2 A3.out).mono ?_); (case side1 => repeat (first | exact (Kd.C_below HR0_0.out HB.out) | (with_reducible refine Kd.C_alloc ?_ _) | (with_reducible refine Kd.C_drewN ?_ _) | (with_reducible refine Kd.C_drew ?_))); (case side2 => exact HC0_0.out); rintro e w17 ⟨rfl, hb⟩; refine ⟨_, rfl, ?_⟩; have n0_ := Aside0.mk (blk_below (g := gb216) (o := .cells #[.slice A0_0 l0_0.length c0_0] 29 (0, 0)) (by (with_reducible repeat (first | refine blk_drewN ?_ _ | refine blk_drew ?_ | refine blk_alloc ?_ _)); exact BK216.out) hb); have n1_ := Aside0.mk (below_step (by repeat (first | (with_reducible first | exact HB.out | apply below_alloc | apply pw_below_drewN | apply below_drew1 | refine below_set ?_ GE216.out) | exact HB.out)) hb); clear BK216; clear HB; have BK216 := n0_; have HB := n1_; clear n0_ n1_; (try clear hb); (try clear hb2); (try clear hk); (try clear hi); have hcz18_0 : w17.cell? ⟨gb216, 0, none⟩ = some (.slice A0_0 l0_0.length c0_0) := (blk_cell BK216.out 0).trans rfl; have hfz18_0 := blk_frozen BK216.out 0) | ((with_reducible refine gate_callee (f := 59) rfl ?_); refine goesL_ (some 11) rfl rfl Tryd.func59 (by kernel_rfl) rfl #[.agg #[.slice A0_0 l0_0.length c0_0]] rfl (by (try simp only [List.map_toArray, List.map_cons, List.map_nil]); first | done | rfl | (simp only [List.length_drop, List.length_take]; rfl)) ?_; (with_reducible refine (impl_isDisk.calls k _ _ l0_0 true _ ?side1 ?side2 A4.out).mono ?_); (case side1 => repeat (first | exact (Kd.C_below HR0_0.out HB.out) | (with_reducible refine Kd.C_alloc ?_ _) | (with_reducible refine Kd.C_drewN ?_ _) | (with_reducible refine Kd.C_drew ?_))); (case side2 => exact HC0_0.out); rintro e w19 ⟨rfl, hb⟩; refine ⟨_, rfl, ?_⟩; have n0_ := Aside0.mk (blk_below (g := gb216) (o := .cells #[.slice A0_0 l0_0.length c0_0] 29 (0, 0)) (by (with_reducible repeat (first | refine blk_drewN ?_ _ | refine blk_drew ?_ | refine blk_alloc ?_ _)); exact BK216.out) hb); have n1_ := Aside0.mk (below_step (by repeat (first | (with_reducible first | exact HB.out | apply below_alloc | apply pw_below_drewN | apply below_drew1 | refine below_set ?_ GE216.out) | exact HB.out)) hb); clear BK216; clear HB; have BK216 := n0_; have HB := n1_; clear n0_ n1_; (try clear hb); (try clear hb2); (try clear hk); (try clear hi); have hcz20_0 : w19.cell? ⟨gb216, 0, none⟩ = some (.slice A0_0 l0_0.length c0_0) := (blk_cell BK216.out 0).trans rfl; have hfz20_0 := blk_frozen BK216.out 0; have p219 : 0 ≤ (t217 : Int) := of_decide_eq_true (by first | (with_reducible assumption) | assumption); have q219 : t217 < (l0_0.length : Int) := of_decide_eq_true (by first | (with_reducible assumption) | assumption); obtain ⟨ad219, A219_1, c219_1, A219_2, c219_2, e219, hx219_0, hx219_1, hx219_2, hl219_1, hi219_1, hl219_2, hi219_2⟩ := at_T74 HR0_0.out t217 p219 q219; cases e219; replace hx219_0 := (HB.out.cell (World.block_lt_of_cell? w _ hx219_0)).trans hx219_0; replace hx219_1 := (HB.out.cell (World.block_lt_of_cell? w _ hx219_1)).trans hx219_1; replace hx219_2 := (HB.out.cell (World.block_lt_of_cell? w _ hx219_2)).trans hx219_2; have HR219_1 := Aside0.mk hi219_1; have HC219_1 := Aside0.mk hl219_1; clear hi219_1 hl219_1; have HR219_2 := Aside0.mk hi219_2; have HC219_2 := Aside0.mk hl219_2; clear hi219_2 hl219_2; replace p219 := eq_true p219; replace q219 := eq_true q219) | ((with_reducible refine gate_callee (f := 64) rfl ?_); refine goesL_ (some 22) rfl rfl Tryd.func64 (by kernel_rfl) rfl #[.agg #[.string ((rd_T74 l0_0 t217).f0), .slice A219_1 ((rd_T74 l0_0 t217).f1).length c219_1, .slice A219_2 ((rd_T74 l0_0 t217).f2).length c219_2]] rfl (by (try simp only [List.map_toArray, List.map_cons, List.map_nil]); first | done | rfl | (simp only [List.length_drop, List.length_take]; rfl)) ?_; (with_reducible refine (impl_File_content.calls ((rd_T74 l0_0 t217).f0) _ _ ((rd_T74 l0_0 t217).f1) _ _ ((rd_T74 l0_0 t217).f2) t220 _ ?side1 ?side2 ?side3 ?side4 A14.out).mono ?_); (case side1 => repeat (first | exact (Kd.C_below HR219_1.out HB.out) | (with_reducible refine Kd.C_alloc ?_ _) | (with_reducible refine Kd.C_drewN ?_ _) | (with_reducible refine Kd.C_drew ?_))); (case side2 => exact HC219_1.out); (case side3 => repeat (first | exact (Kd.C_below HR219_2.out HB.out) | (with_reducible refine Kd.C_alloc ?_ _) | (with_reducible refine Kd.C_drewN ?_ _) | (with_reducible refine Kd.C_drew ?_))); (case side4 => exact HC219_2.out); rintro e w21 ⟨v221, rfl, ho0, hb⟩; refine ⟨_, rfl, ?_⟩; have n0_ := Aside0.mk (Kd.R_lower ho0 (below_size (by repeat (first | (with_reducible first | exact HB.out | apply below_alloc | apply pw_below_drewN | apply below_drew1 | refine below_set ?_ GE216.out) | exact HB.out)))); have n1_ := Aside0.mk (blk_below (g := gb216) (o := .cells #[.slice (some ad219) l0_0.length c0_0] 29 (0, 0)) (by (with_reducible repeat (first | refine blk_drewN ?_ _ | refine blk_drew ?_ | refine blk_alloc ?_ _)); exact BK216.out) hb); have n2_ := Aside0.mk (below_step (by repeat (first | (with_reducible first | exact HB.out | apply below_alloc | apply pw_below_drewN | apply below_drew1 | refine below_set ?_ GE216.out) | exact HB.out)) hb); clear BK216; clear HB; have HO222 := n0_; have BK216 := n1_; have HB := n2_; clear n0_ n1_ n2_; (try clear hb); (try clear hb2); (try clear hk); (try clear hi); (try clear ho0)))
          go_ret2
          exact ⟨_, by first | rfl | (simp [errW_none, errW_some] <;> rfl) | (simp [*, errW_none, errW_some] <;> rfl), by (with_reducible repeat (first | apply Kd.R_alloc | apply Kd.R_drewN | apply Kd.R_drew)); exact HO222.out, by repeat (first | (with_reducible first | exact HB.out | apply below_alloc | apply pw_below_drewN | apply below_drew1 | refine below_set ?_ GE216.out) | exact HB.out)⟩
        · rw [if_neg c13] at H
          exact absurd H (by simp)
      · rw [if_neg c12] at H
        exact absurd H (by simp)
  · replace c5 := Bool.eq_false_iff.mpr c5
    subst c5
    have H1 : (some (([] : List Int), false)) = some (r1, r2) := by rw [if_neg (show ¬ (false = true) by decide)] at H; exact H
    clear H
    have H := H1
    clear H1
    simp only [Option.some.injEq, Prod.mk.injEq] at H
    obtain ⟨rfl, rfl⟩ := H
    go_enter Tryd.func20, Tryd.ntmps20
    go_wp2_with (first | ((with_reducible refine gate_dst (N := 2) rfl ?_); refine box_event ?hg (N := 2) ?hd (cs := #[.slice A0_0 l0_0.length c0_0]) (t := 29) ?hr ?_; (case hd => rfl); (case hg => rfl); (case hr => first | (go_simp; done) | (go_simp; rfl)); intro gb216 hg w22 hbox hb; have n0_ := Aside0.mk (below_step (by repeat (first | (with_reducible first | exact HB.out | apply below_alloc | apply pw_below_drewN | apply below_drew1) | exact HB.out)) hb); have n1_ := Aside0.mk (hbox); have n2_ := Aside0.mk ((by rw [hg]; exact (below_size (by repeat (first | (with_reducible first | exact HB.out | apply below_alloc | apply pw_below_drewN | apply below_drew1) | exact HB.out))) : w.heap.size ≤ gb216)); have n3_ := Aside0.mk ((by rw [hg]; exact (below_size (by repeat (first | (with_reducible first | exact HB.out | apply below_alloc | apply pw_below_drewN | apply below_drew1) | exact HB.out))) : w.heap.size ≤ gb216)); clear HB; have HB := n0_; have BK216 := n1_; have GW216 := n2_; have GE216 := n3_; clear n0_ n1_ n2_ n3_; clear hb hbox hg; have hcz23_0 : w22.cell? ⟨gb216, 0, none⟩ = some (.slice A0_0 l0_0.length c0_0) := (blk_cell BK216.out 0).trans rfl; have hfz23_0 := blk_frozen BK216.out 0) | ((with_reducible refine gate_callee (f := 63) rfl ?_); refine goesL_ (some 9) rfl rfl Tryd.func63 (by kernel_rfl) rfl #[.agg #[.slice A0_0 l0_0.length c0_0], .string a1] rfl (by (try simp only [List.map_toArray, List.map_cons, List.map_nil]); first | done | rfl | (simp only [List.length_drop, List.length_take]; rfl)) ?_; (with_reducible refine (impl_fileOf.calls _ _ l0_0 a1 t217 _ ?side1 ?side2 A3.out).mono ?_); (case side1 => repeat (first | exact (Kd.C_below HR0_0.out HB.out) | (with_reducible refine Kd.C_alloc ?_ _) | (with_reducible refine Kd.C_drewN ?_ _) | (with_reducible refine Kd.C_drew ?_))); (case side2 => exact HC0_0.out); rintro e w24 ⟨rfl, hb⟩; refine ⟨_, rfl, ?_⟩; have n0_ := Aside0.mk (blk_below (g := gb216) (o := .cells #[.slice A0_0 l0_0.length c0_0] 29 (0, 0)) (by (with_reducible repeat (first | refine blk_drewN ?_ _ | refine blk_drew ?_ | refine blk_alloc ?_ _)); exact BK216.out) hb); have n1_ := Aside0.mk (below_step (by repeat (first | (with_reducible first | exact HB.out | apply below_alloc | apply pw_below_drewN | apply below_drew1 | refine below_set ?_ GE216.out) | exact HB.out)) hb); clear BK216; clear HB; have BK216 := n0_; have HB := n1_; clear n0_ n1_; (try clear hb); (try clear hb2); (try clear hk); (try clear hi); have hcz25_0 : w24.cell? ⟨gb216, 0, none⟩ = some (.slice A0_0 l0_0.length c0_0) := (blk_cell BK216.out 0).trans rfl; have hfz25_0 := blk_frozen BK216.out 0) | ((with_reducible refine gate_callee (f := 59) rfl ?_); refine goesL_ (some 11) rfl rfl Tryd.func59 (by kernel_rfl) rfl #[.agg #[.slice A0_0 l0_0.length c0_0]] rfl (by (try simp only [List.map_toArray, List.map_cons, List.map_nil]); first | done | rfl | (simp only [List.length_drop, List.length_take]; rfl)) ?_; (with_reducible refine (impl_isDisk.calls k _ _ l0_0 false _ ?side1 ?side2 A4.out).mono ?_); (case side1 => repeat (first | exact (Kd.C_below HR0_0.out HB.out) | (with_reducible refine Kd.C_alloc ?_ _) | (with_reducible refine Kd.C_drewN ?_ _) | (with_reducible refine Kd.C_drew ?_))); (case side2 => exact HC0_0.out); rintro e w26 ⟨rfl, hb⟩; refine ⟨_, rfl, ?_⟩; have n0_ := Aside0.mk (blk_below (g := gb216) (o := .cells #[.slice A0_0 l0_0.length c0_0] 29 (0, 0)) (by (with_reducible repeat (first | refine blk_drewN ?_ _ | refine blk_drew ?_ | refine blk_alloc ?_ _)); exact BK216.out) hb); have n1_ := Aside0.mk (below_step (by repeat (first | (with_reducible first | exact HB.out | apply below_alloc | apply pw_below_drewN | apply below_drew1 | refine below_set ?_ GE216.out) | exact HB.out)) hb); clear BK216; clear HB; have BK216 := n0_; have HB := n1_; clear n0_ n1_; (try clear hb); (try clear hb2); (try clear hk); (try clear hi)))
    go_ret2
    exact ⟨_, by first | rfl | (simp [errW_none, errW_some] <;> rfl) | (simp [*, errW_none, errW_some] <;> rfl), by first | exact Kd.R_nil _ _ _ _ _ | exact Kd.N_nil _ _ _ _ _ | exact Kd.V_nil _ _ _ _ _ | exact Kd.Q_nil _ _ _ _ _ | exact Kd.S_nil _ _ _ _ _, by repeat (first | (with_reducible first | exact HB.out | apply below_alloc | apply pw_below_drewN | apply below_drew1 | refine below_set ?_ GE216.out) | exact HB.out)⟩

end Go.Proofs.YtmgeffgcihfpcaaDoor.F

namespace Go.Proofs.YtmgeffgcihfpcaaDoor.F
open Go.RowKit Go.Proofs.YtmgeffgcihfpcaaDoorW.PrintWords Go.Proofs.YtmgeffgcihfpcaaDoorW.PrintLast Go.Proofs.YtmgeffgcihfpcaaDoorW.PrintMore
attribute [local go_sem] max2_int min2_int max_two min_two max_three min_three max_four min_four   -- for this text's walks alone
set_option linter.unusedVariables false
set_option linter.unusedSimpArgs false

/-! ### laws_markByteS: function 23 -/
def laws_markByteS.l0 : Nat → List Int → Int → Int → Option (Int × List Int)
  | 0, _, _, _ => none
  | k + 1, x0, x1, x5 => if x5 < (x0.length : Int) then (if 0 ≤ x5 then (laws_markByteS.l0 k (x0.set (x5 : Int).toNat ((x1) % 256)) (wrap64 (x1 + 1)) (wrap64 (x5 + 1))) else (none)) else (some (x1, x0))
def laws_markByteS.f (k : Nat) (l0 : List Int) (a1 : Int) : Option (Int × List Int) := laws_markByteS.l0 k l0 a1 0
theorem laws_markByteS.mono_l : ∀ k, (∀ y0 y1 y2, LeO (laws_markByteS.l0 k y0 y1 y2) (laws_markByteS.l0 (k + 1) y0 y1 y2))
  | 0 => fun _ _ _ r h => by simp [laws_markByteS.l0] at h
  | k + 1 => by
    have ih0 := laws_markByteS.mono_l k
    · intro y0 y1 y2
      unfold laws_markByteS.l0
      repeat' first
      | (with_reducible exact ih0 _ _ _)
      | (with_reducible exact LeO.refl _)
      | (with_reducible exact LeO.none _)
      | (with_reducible refine LeO.ite ?_ ?_)
      | (with_reducible refine LeO.bind ?_ (fun _ => ?_))
      | exact ih0 _ _ _
      | exact LeO.none _
      | refine LeO.ite ?_ ?_
      | refine LeO.bind ?_ (fun _ => ?_)
theorem laws_markByteS.mono : ∀ a0 a1 k, LeO (laws_markByteS.f k a0 a1) (laws_markByteS.f (k + 1) a0 a1) := by
  intro a0 a1 k
  have ih0 := laws_markByteS.mono_l k
  unfold laws_markByteS.f
  repeat' first
      | (with_reducible exact ih0 _ _ _)
      | (with_reducible exact LeO.refl _)
      | (with_reducible exact LeO.none _)
      | (with_reducible refine LeO.ite ?_ ?_)
      | (with_reducible refine LeO.bind ?_ (fun _ => ?_))
      | exact ih0 _ _ _
      | exact LeO.none _
      | refine LeO.ite ?_ ?_
      | refine LeO.bind ?_ (fun _ => ?_)
set_option maxHeartbeats 8000000 in
set_option maxRecDepth 100000 in
theorem laws_markByteS.calls (k : Nat) (P0_ : Nat → Prop) (u9000_ : Value) (l0 : List Int) (a1 : Int) (r1 : Int) (r2 : List Int) (w0 w : World) (hB : Below w0.heap.size w0 w) (ho0 : Kd.R (Kd.int .u8) 5 w w0.heap.size P0_ u9000_ l0) (h : laws_markByteS.f k l0 a1 = some (r1, r2)) :
    Calls Tryd.prog 23 #[u9000_, .int .i64 a1] w fun e w' => e = .returned (.int .i64 r1) ∧ Kd.R (Kd.int .u8) 5 w' w0.heap.size (fun k_ => (P0_ k_ ∨ w.heap.size ≤ k_)) u9000_ r2 ∧ Below w0.heap.size w0 w' ∧ Kept w w' (fun k_ => P0_ k_) := by
  have HO0 := Aside0.mk (show Kd.R (Kd.int .u8) 5 w w0.heap.size (fun k_ => (P0_ k_ ∨ w.heap.size ≤ k_)) u9000_ l0 from Kd.R_mono ho0 (fun k_ hk => (.inl hk)))
  have HK := Aside0.mk (Kept.refl w (fun k_ => P0_ k_))
  have HW0 := Aside0.mk hB.size
  have HB := Aside0.mk hB
  clear hB
  have H : (laws_markByteS.l0 k l0 a1 0) = some (r1, r2) := h
  clear h
  have H' := Aside0.mk H
  clear H
  go_enter Tryd.func23, Tryd.ntmps23
  go_wp2
  go_loopg [1, 5] k (fun kq v1 v5 w' => ∃ (x0_1 : List Int) (x1_1 : Int) (x5_1 : Int), v1 = .int .i64 x1_1 ∧ v5 = .int .i64 x5_1 ∧ Aside0 (laws_markByteS.l0 kq x0_1 x1_1 x5_1 = some (r1, r2)) ∧ Aside0 (kq ≤ k) ∧ Aside0 (Kd.R (Kd.int .u8) 5 w' w0.heap.size (fun k_ => (P0_ k_ ∨ w.heap.size ≤ k_)) u9000_ x0_1) ∧ Aside0 (Kept w w' (fun k_ => P0_ k_)) ∧ Aside0 (Below w0.heap.size w0 w'))
  case atStart => exact ⟨(l0), (a1), (0), (by first | rfl | (simp; done) | (simp [*]; done)), (by first | rfl | (simp; done) | (simp [*]; done)), H', ⟨Nat.le_refl _⟩, ⟨by (with_reducible repeat (first | apply Kd.R_alloc | apply Kd.R_drewN | apply Kd.R_drew)); exact HO0.out⟩, ⟨by repeat (first | (with_reducible first | exact HK.out | apply Kept.alloc | apply Kept.drewN | apply Kept.drew) | exact HK.out)⟩, ⟨by repeat (first | (with_reducible first | exact HB.out | apply below_alloc | apply pw_below_drewN | apply below_drew1) | exact HB.out)⟩⟩
  case round =>
    clear H'
    try clear c2
    try clear p2
    obtain ⟨x0_1, x1_1, x5_1, rfl, rfl, HA, HK1, HO_0, HK, HB⟩ := hrel
    cases gk with
    | zero => exact absurd HA.out (by simp [laws_markByteS.l0])
    | succ k1 =>
      have H := HA.out
      clear HA
      simp only [laws_markByteS.l0] at H
      by_cases c3 : x5_1 < (x0_1.length : Int)
      · rw [if_pos c3] at H
        have c3b0 : decide (x5_1 < (x0_1.length : Int)) = true := decide_eq_true c3
        clear c3
        by_cases c4 : 0 ≤ x5_1
        · rw [if_pos c4] at H
          have c4b0 : decide (0 ≤ x5_1) = true := decide_eq_true c4
          clear c4
          obtain ⟨y223, hy223⟩ : ∃ y_ : List Int, y_ = (x0_1.set (x5_1 : Int).toNat ((x1_1) % 256)) := ⟨_, rfl⟩
          replace H : (laws_markByteS.l0 k1 y223 (wrap64 (x1_1 + 1)) (wrap64 (x5_1 + 1))) = some (r1, r2) := by first | (rw [hy223]; with_reducible exact H) | (have H2_ := (Option.bind_some _ _).symm.trans H; rw [hy223]; with_reducible exact H2_) | (have H2_ := (Option.bind_some _ _).symm.trans H; with_reducible exact H2_) | with_reducible exact H | (rw [hy223]; exact H) | exact H
          have Ny223 := Aside0.mk hy223
          clear hy223
          have H' := Aside0.mk H
          clear H
          obtain ⟨Ao6, co6, eo6⟩ := Kd.R_slice HO_0.out
          subst eo6
          have p5 : 0 ≤ (x5_1 : Int) := of_decide_eq_true (by first | (with_reducible assumption) | assumption)
          have q5 : (x5_1 : Int) < ((x0_1.length : Int) : Int) := of_decide_eq_true (by first | (with_reducible assumption) | assumption)
          obtain ⟨go5, co5, eo5, gb5, gl5, cl5, HG5⟩ := Kd.R_form HO_0.out (by omega)
          (first | cases eo5 | (injection eo5 with ea_ en_ ec_; (first | subst ea_ | (injection ea_ with ea_; subst ea_)); subst ec_; clear en_))
          have GB5 := Aside0.mk gb5
          have GG5 := Aside0.mk HG5
          clear gb5 gl5 HG5
          have HMgo5 := Aside0.mk (show (P0_ go5 ∨ w.heap.size ≤ go5) from (HO_0.out.1 _ rfl))
          obtain ⟨hx5_0, hf5_0⟩ := Kd.R_celln 0 HO_0.out (x5_1 : Int) p5 q5
          replace p5 := eq_true p5
          replace q5 := eq_true q5
          have HP7 := Kd.R_putg HO_0.out (x5_1 : Int) ((x1_1) % 256)
          go_wp2_with (first | ((with_reducible refine gate_store (t := 5) (p := 16) rfl ?_); refine store_event (t := 5) (p := 16) (v := ?vo_w8) (w1 := (wr.setCell ⟨go5, (x5_1 : Int).toNat, none⟩ (.int .u8 ((x1_1) % 256)))) ?hg ?ho ?hn ?hr ?_; (case ho => rfl); (case hg => rfl); (case hn => rfl); (case hr => first | (go_simp; done) | (go_simp; rfl)); intro w8 hw; have hg : wr.grownBy w8 (some go5) := (by rw [hw]; exact HP7.2); have hp_ : Kd.R (Kd.int .u8) 5 w8 w0.heap.size (fun k_ => (P0_ k_ ∨ w.heap.size ≤ k_)) (.slice (some ⟨go5, 0, none⟩) x0_1.length co6) y223 := (by rw [hw, Ny223.out]; exact HP7.1); clear HP7; have n0_ := Aside0.mk (hp_); have n1_ := Aside0.mk ((by rw [hw]; exact below_set (HB.out) GB5.out : Below w0.heap.size w0 w8)); have n2_ := Aside0.mk (Kept.of_grown (S := (fun k_ => P0_ k_)) hg (by repeat (first | (with_reducible first | exact HK.out | apply Kept.alloc | apply Kept.drewN | apply Kept.drew) | exact HK.out)) (fun k_ e_ => (HO_0.out.1 k_ e_))); clear HO_0; clear HB; clear HK; have HO_0 := n0_; have HB := n1_; have HK := n2_; clear n0_ n1_ n2_; clear hg hw hp_))
          go_roundg k1
          case measure => have := HK1.out; omega
          case rel => exact ⟨(y223), (wrap64 (x1_1 + 1)), (wrap64 (x5_1 + 1)), (by first | rfl | (simp; done) | (simp [*]; done)), (by first | rfl | (simp; done) | (simp [*]; done)), H', ⟨by have := HK1.out; omega⟩, ⟨by (with_reducible repeat (first | apply Kd.R_alloc | apply Kd.R_drewN | apply Kd.R_drew)); exact HO_0.out⟩, ⟨by repeat (first | (with_reducible first | exact HK.out | apply Kept.alloc | apply Kept.drewN | apply Kept.drew) | exact HK.out)⟩, ⟨by repeat (first | (with_reducible first | exact HB.out | apply below_alloc | apply pw_below_drewN | apply below_drew1) | exact HB.out)⟩⟩
        · rw [if_neg c4] at H
          exact absurd H (by simp)
      · rw [if_neg c3] at H
        have c3b0 : decide (x5_1 < (x0_1.length : Int)) = false := decide_eq_false c3
        clear c3
        simp only [Option.some.injEq, Prod.mk.injEq] at H
        obtain ⟨rfl, rfl⟩ := H
        obtain ⟨Ao9, co9, eo9⟩ := Kd.R_slice HO_0.out
        subst eo9
        go_wp2
        go_ret
        exact ⟨by first | rfl | (simp [errW_none, errW_some] <;> rfl) | (simp [*, errW_none, errW_some] <;> rfl), by (with_reducible repeat (first | apply Kd.R_alloc | apply Kd.R_drewN | apply Kd.R_drew)); exact HO_0.out, by repeat (first | (with_reducible first | exact HB.out | apply below_alloc | apply pw_below_drewN | apply below_drew1) | exact HB.out), by repeat (first | (with_reducible first | exact HK.out | apply Kept.alloc | apply Kept.drewN | apply Kept.drew) | exact HK.out)⟩

end Go.Proofs.YtmgeffgcihfpcaaDoor.F

namespace Go.Proofs.YtmgeffgcihfpcaaDoor.F
open Go.RowKit Go.Proofs.YtmgeffgcihfpcaaDoorW.PrintWords Go.Proofs.YtmgeffgcihfpcaaDoorW.PrintLast Go.Proofs.YtmgeffgcihfpcaaDoorW.PrintMore
attribute [local go_sem] max2_int min2_int max_two min_two max_three min_three max_four min_four   -- for this text's walks alone
set_option linter.unusedVariables false
set_option linter.unusedSimpArgs false

/-! ### laws_heldByteS: function 24 -/
def laws_heldByteS.l0 : Nat → List Int → Int → Int → Option (Int)
  | 0, _, _, _ => none
  | k + 1, x0, x1, x5 => if x5 < (x0.length : Int) then (if 0 ≤ x5 then (if (rd x0 x5) = ((x1) % 256) then (laws_heldByteS.l0 k x0 (wrap64 (x1 + 1)) (wrap64 (x5 + 1))) else (some (-1))) else (none)) else (some x1)
def laws_heldByteS.f (k : Nat) (l0 : List Int) (a1 : Int) : Option (Int) := laws_heldByteS.l0 k l0 a1 0
theorem laws_heldByteS.mono_l : ∀ k, (∀ y0 y1 y2, LeO (laws_heldByteS.l0 k y0 y1 y2) (laws_heldByteS.l0 (k + 1) y0 y1 y2))
  | 0 => fun _ _ _ r h => by simp [laws_heldByteS.l0] at h
  | k + 1 => by
    have ih0 := laws_heldByteS.mono_l k
    · intro y0 y1 y2
      unfold laws_heldByteS.l0
      repeat' first
      | (with_reducible exact ih0 _ _ _)
      | (with_reducible exact LeO.refl _)
      | (with_reducible exact LeO.none _)
      | (with_reducible refine LeO.ite ?_ ?_)
      | (with_reducible refine LeO.bind ?_ (fun _ => ?_))
      | exact ih0 _ _ _
      | exact LeO.none _
      | refine LeO.ite ?_ ?_
      | refine LeO.bind ?_ (fun _ => ?_)
theorem laws_heldByteS.mono : ∀ a0 a1 k, LeO (laws_heldByteS.f k a0 a1) (laws_heldByteS.f (k + 1) a0 a1) := by
  intro a0 a1 k
  have ih0 := laws_heldByteS.mono_l k
  unfold laws_heldByteS.f
  repeat' first
      | (with_reducible exact ih0 _ _ _)
      | (with_reducible exact LeO.refl _)
      | (with_reducible exact LeO.none _)
      | (with_reducible refine LeO.ite ?_ ?_)
      | (with_reducible refine LeO.bind ?_ (fun _ => ?_))
      | exact ih0 _ _ _
      | exact LeO.none _
      | refine LeO.ite ?_ ?_
      | refine LeO.bind ?_ (fun _ => ?_)
set_option maxHeartbeats 8000000 in
set_option maxRecDepth 100000 in
theorem laws_heldByteS.calls (k : Nat) (A0 : Option Addr) (c0 : Nat) (l0 : List Int) (a1 : Int) (r : Int) (w : World) (hr0 : Kd.C (Kd.int .u8) w A0 l0.length l0) (hc0 : l0.length ≤ c0) (h : laws_heldByteS.f k l0 a1 = some r) :
    Calls Tryd.prog 24 #[.slice A0 l0.length c0, .int .i64 a1] w fun e w' => e = .returned (.int .i64 r) ∧ Drawn0 w w' := by
  have HR0 := Aside0.mk hr0
  have HC0 := Aside0.mk hc0
  clear hr0 hc0
  have H : (laws_heldByteS.l0 k l0 a1 0) = some r := h
  clear h
  have H' := Aside0.mk H
  clear H
  go_enter Tryd.func24, Tryd.ntmps24
  go_wp2
  go_loopg [1, 5] k (fun kq v1 v5 w' => ∃ (x1_1 : Int) (x5_1 : Int), v1 = .int .i64 x1_1 ∧ v5 = .int .i64 x5_1 ∧ Aside0 (laws_heldByteS.l0 kq l0 x1_1 x5_1 = some r) ∧ Aside0 (kq ≤ k) ∧ Drawn0 w w')
  case atStart => exact ⟨(a1), (0), (by first | rfl | (simp; done) | (simp [*]; done)), (by first | rfl | (simp; done) | (simp [*]; done)), H', ⟨Nat.le_refl _⟩, by repeat (first | exact Drawn0.refl _ | apply Drawn0.step)⟩
  case round =>
    clear H'
    try clear c2
    try clear p2
    obtain ⟨x1_1, x5_1, rfl, rfl, HA, HK1, ⟨m1, rfl⟩⟩ := hrel
    cases gk with
    | zero => exact absurd HA.out (by simp [laws_heldByteS.l0])
    | succ k1 =>
      have H := HA.out
      clear HA
      simp only [laws_heldByteS.l0] at H
      by_cases c3 : x5_1 < (l0.length : Int)
      · rw [if_pos c3] at H
        have c3b0 : decide (x5_1 < (l0.length : Int)) = true := decide_eq_true c3
        clear c3
        by_cases c4 : 0 ≤ x5_1
        · rw [if_pos c4] at H
          have c4b0 : decide (0 ≤ x5_1) = true := decide_eq_true c4
          clear c4
          by_cases c5 : (rd l0 x5_1) = ((x1_1) % 256)
          · rw [if_pos c5] at H
            have c5b0 : ((rd l0 x5_1) == ((x1_1) % 256)) = true := beq_iff_eq.mpr c5
            have c5b1 : ((rd l0 x5_1) != ((x1_1) % 256)) = false := bne_eq_false_iff_eq.mpr c5
            clear c5
            have H' := Aside0.mk H
            clear H
            have p227 : 0 ≤ (x5_1 : Int) := of_decide_eq_true (by first | (with_reducible assumption) | assumption)
            have q227 : x5_1 < (l0.length : Int) := of_decide_eq_true (by first | (with_reducible assumption) | assumption)
            obtain ⟨ad227, e227, hx227_0⟩ := Kd.at_int HR0.out x5_1 p227 q227
            cases e227
            replace p227 := eq_true p227
            replace q227 := eq_true q227
            go_wp2
            go_roundg k1
            case measure => have := HK1.out; omega
            case rel => exact ⟨(wrap64 (x1_1 + 1)), (wrap64 (x5_1 + 1)), (by first | rfl | (simp; done) | (simp [*]; done)), (by first | rfl | (simp; done) | (simp [*]; done)), H', ⟨by have := HK1.out; omega⟩, by repeat (first | exact Drawn0.refl _ | apply Drawn0.step)⟩
          · rw [if_neg c5] at H
            have c5b0 : ((rd l0 x5_1) == ((x1_1) % 256)) = false := beq_eq_false_iff_ne.mpr c5
            have c5b1 : ((rd l0 x5_1) != ((x1_1) % 256)) = true := bne_iff_ne.mpr c5
            obtain rfl := Option.some.inj H
            have p227 : 0 ≤ (x5_1 : Int) := of_decide_eq_true (by first | (with_reducible assumption) | assumption)
            have q227 : x5_1 < (l0.length : Int) := of_decide_eq_true (by first | (with_reducible assumption) | assumption)
            obtain ⟨ad227, e227, hx227_0⟩ := Kd.at_int HR0.out x5_1 p227 q227
            cases e227
            replace p227 := eq_true p227
            replace q227 := eq_true q227
            go_wp2
            go_ret
            exact ⟨by first | rfl | (simp; done) | (simp [*]; done), by repeat (first | exact Drawn0.refl _ | apply Drawn0.step)⟩
        · rw [if_neg c4] at H
          exact absurd H (by simp)
      · rw [if_neg c3] at H
        have c3b0 : decide (x5_1 < (l0.length : Int)) = false := decide_eq_false c3
        clear c3
        obtain rfl := Option.some.inj H
        go_wp2
        go_ret
        exact ⟨by first | rfl | (simp; done) | (simp [*]; done), by repeat (first | exact Drawn0.refl _ | apply Drawn0.step)⟩

end Go.Proofs.YtmgeffgcihfpcaaDoor.F

namespace Go.Proofs.YtmgeffgcihfpcaaDoor.F
open Go.RowKit Go.Proofs.YtmgeffgcihfpcaaDoorW.PrintWords Go.Proofs.YtmgeffgcihfpcaaDoorW.PrintLast Go.Proofs.YtmgeffgcihfpcaaDoorW.PrintMore
attribute [local go_sem] max2_int min2_int max_two min_two max_three min_three max_four min_four   -- for this text's walks alone
set_option linter.unusedVariables false
set_option linter.unusedSimpArgs false

/-! ### laws_markText: function 83 -/
def laws_markText.l0 : Nat → Int → ByteArray → Option (ByteArray)
  | 0, _, _ => none
  | k + 1, x0, x3 => if x0 > 0 then ((some (([(wrap64 (48 + (Int.tmod x0 10))) % 256] : List Int) : List Int)).bind fun y224 => (if (strOfNums y224).size + x3.size ≤ 9223372036854775807 then (laws_markText.l0 k (wrap64 (Int.tdiv x0 10)) ((strOfNums y224) ++ x3)) else (none))) else (if 1 + x3.size ≤ 9223372036854775807 then (some ((⟨#[109]⟩ : ByteArray) ++ x3)) else (none))
def laws_markText.f (k : Nat) (a0 : Int) : Option (ByteArray) := if a0 ≤ 0 then (some (⟨#[109, 48]⟩ : ByteArray)) else (laws_markText.l0 k a0 (⟨#[]⟩ : ByteArray))
theorem laws_markText.mono_l : ∀ k, (∀ y0 y1, LeO (laws_markText.l0 k y0 y1) (laws_markText.l0 (k + 1) y0 y1))
  | 0 => fun _ _ r h => by simp [laws_markText.l0] at h
  | k + 1 => by
    have ih0 := laws_markText.mono_l k
    · intro y0 y1
      unfold laws_markText.l0
      repeat' first
      | (with_reducible exact ih0 _ _)
      | (with_reducible exact LeO.refl _)
      | (with_reducible exact LeO.none _)
      | (with_reducible refine LeO.ite ?_ ?_)
      | (with_reducible refine LeO.bind ?_ (fun _ => ?_))
      | exact ih0 _ _
      | exact LeO.none _
      | refine LeO.ite ?_ ?_
      | refine LeO.bind ?_ (fun _ => ?_)
theorem laws_markText.mono : ∀ a0 k, LeO (laws_markText.f k a0) (laws_markText.f (k + 1) a0) := by
  intro a0 k
  have ih0 := laws_markText.mono_l k
  unfold laws_markText.f
  repeat' first
      | (with_reducible exact ih0 _ _)
      | (with_reducible exact LeO.refl _)
      | (with_reducible exact LeO.none _)
      | (with_reducible refine LeO.ite ?_ ?_)
      | (with_reducible refine LeO.bind ?_ (fun _ => ?_))
      | exact ih0 _ _
      | exact LeO.none _
      | refine LeO.ite ?_ ?_
      | refine LeO.bind ?_ (fun _ => ?_)
set_option maxHeartbeats 8000000 in
set_option maxRecDepth 100000 in
theorem laws_markText.calls (k : Nat) (a0 : Int) (r : ByteArray) (w : World) (h : laws_markText.f k a0 = some r) :
    Calls Tryd.prog 83 #[.int .i64 a0] w fun e w' => e = .returned (.string r) ∧ Below w.heap.size w w' := by
  have HB := Aside0.mk (Below.refl w.heap.size w)
  have H : (if a0 ≤ 0 then (some (⟨#[109, 48]⟩ : ByteArray)) else (laws_markText.l0 k a0 (⟨#[]⟩ : ByteArray))) = some r := h
  clear h
  by_cases c2 : a0 ≤ 0
  · rw [if_pos c2] at H
    have c2b0 : decide (a0 ≤ 0) = true := decide_eq_true c2
    clear c2
    obtain rfl := Option.some.inj H
    go_enter Tryd.func83, Tryd.ntmps83
    go_wp2
    go_ret
    exact ⟨by first | rfl | (simp [errW_none, errW_some] <;> rfl) | (simp [*, errW_none, errW_some] <;> rfl), by repeat (first | (with_reducible first | exact HB.out | apply below_alloc | apply pw_below_drewN | apply below_drew1) | exact HB.out)⟩
  · rw [if_neg c2] at H
    have c2b0 : decide (a0 ≤ 0) = false := decide_eq_false c2
    clear c2
    have H' := Aside0.mk H
    clear H
    go_enter Tryd.func83, Tryd.ntmps83
    go_wp2
    go_loopg [0, 3] k (fun kq v0 v3 w' => ∃ (x0_1 : Int) (x3_1 : ByteArray), v0 = .int .i64 x0_1 ∧ v3 = .string x3_1 ∧ Aside0 (laws_markText.l0 kq x0_1 x3_1 = some r) ∧ Aside0 (kq ≤ k) ∧ Aside0 (Below w.heap.size w w'))
    case atStart => exact ⟨(a0), ((⟨#[]⟩ : ByteArray)), (by first | rfl | (simp; done) | (simp [*]; done)), (by first | rfl | (simp; done) | (simp [*]; done)), H', ⟨Nat.le_refl _⟩, ⟨by repeat (first | (with_reducible first | exact HB.out | apply below_alloc | apply pw_below_drewN | apply below_drew1) | exact HB.out)⟩⟩
    case round =>
      clear H'
      try clear c2
      try clear c2b0
      try clear p2
      obtain ⟨x0_1, x3_1, rfl, rfl, HA, HK1, HB⟩ := hrel
      cases gk with
      | zero => exact absurd HA.out (by simp [laws_markText.l0])
      | succ k1 =>
        have H := HA.out
        clear HA
        simp only [laws_markText.l0] at H
        by_cases c3 : x0_1 > 0
        · rw [if_pos c3] at H
          have c3b0 : decide (0 < x0_1) = true := decide_eq_true c3
          clear c3
          obtain ⟨y224, hy224⟩ : ∃ y_ : List Int, y_ = (([(wrap64 (48 + (Int.tmod x0_1 10))) % 256] : List Int)) := ⟨_, rfl⟩
          replace H : (if (strOfNums y224).size + x3_1.size ≤ 9223372036854775807 then (laws_markText.l0 k1 (wrap64 (Int.tdiv x0_1 10)) ((strOfNums y224) ++ x3_1)) else (none)) = some r := by first | (rw [hy224]; with_reducible exact H) | (have H2_ := (Option.bind_some _ _).symm.trans H; rw [hy224]; with_reducible exact H2_) | (have H2_ := (Option.bind_some _ _).symm.trans H; with_reducible exact H2_) | with_reducible exact H | (rw [hy224]; exact H) | exact H
          have Ny224 := Aside0.mk hy224
          clear hy224
          by_cases c4 : (strOfNums y224).size + x3_1.size ≤ 9223372036854775807
          · rw [if_pos c4] at H
            have c4b0 := eq_true c4
            have c4b1 : decide ((strOfNums y224).size + x3_1.size ≤ 9223372036854775807) = true := decide_eq_true c4
            try have c4b2 : (9223372036854775807 < (strOfNums y224).size + x3_1.size) = False := eq_false (Nat.not_lt.2 c4)
            have H' := Aside0.mk H
            clear H
            go_wp2_with (first | ((with_reducible refine gate_dst (N := 12) rfl ?_); refine Kd.R_lit (Kd.int .u8) _ 5 ?hg (N := 12) ?hd (xs := ([(wrap64 (48 + (Int.tmod x0_1 10))) % 256] : List Int)) (inner := [.int .u8 ((wrap64 (48 + (Int.tmod x0_1 10))) % 256)]) (ok := fun _ => True) (okp := fun _ => True) ?hr ?hp (fun _ hk => hk) trivial (Below.refl _ _) (Nat.le_refl _) (by simp) ?_; (case hd => rfl); (case hg => rfl); (case hr => first | (go_simp; done) | (go_simp; rfl)); (case hp => exact (Reps.one (show Kd.M (Kd.int .u8) _ _ _ ((wrap64 (48 + (Int.tmod x0_1 10))) % 256) [.int .u8 ((wrap64 (48 + (Int.tmod x0_1 10))) % 256)] from rfl) (Reps.none _ _))); intro v225 w5 ho6 hb hg_ hnew_; clear hg_ hnew_; (first | rw [← Ny224.out] at ho6 | (simp only [Int.reduceToNat] at ho6; rw [← Ny224.out] at ho6)); have n0_ := Aside0.mk (Kd.R_lower ho6 (below_size (by repeat (first | (with_reducible first | exact HB.out | apply below_alloc | apply pw_below_drewN | apply below_drew1) | exact HB.out)))); have n1_ := Aside0.mk (below_step (by repeat (first | (with_reducible first | exact HB.out | apply below_alloc | apply pw_below_drewN | apply below_drew1) | exact HB.out)) hb); clear HB; have HO226 := n0_; have HB := n1_; clear n0_ n1_; clear hb ho6; have hcv7 := own_string (P := Tryd.prog) Tryd.underlying33 Tryd.underlying5 Tryd.underlying9 (Kd.own_of_R HO226.out); have hcv8 := fun (nq_ : Nat) => own_string (P := Tryd.prog) Tryd.underlying33 Tryd.underlying5 Tryd.underlying9 (Kd.own_of_R (Kd.R_drewN HO226.out nq_))))
            go_roundg k1
            case measure => have := HK1.out; omega
            case rel => exact ⟨(wrap64 (Int.tdiv x0_1 10)), ((strOfNums y224) ++ x3_1), (by first | rfl | (simp; done) | (simp [*]; done)), (by first | rfl | (simp; done) | (simp [*]; done)), H', ⟨by have := HK1.out; omega⟩, ⟨by repeat (first | (with_reducible first | exact HB.out | apply below_alloc | apply pw_below_drewN | apply below_drew1) | exact HB.out)⟩⟩
          · rw [if_neg c4] at H
            exact absurd H (by simp)
        · rw [if_neg c3] at H
          have c3b0 : decide (0 < x0_1) = false := decide_eq_false c3
          clear c3
          by_cases c9 : 1 + x3_1.size ≤ 9223372036854775807
          · rw [if_pos c9] at H
            have c9b0 := eq_true c9
            have c9b1 : decide (1 + x3_1.size ≤ 9223372036854775807) = true := decide_eq_true c9
            try have c9b2 : (9223372036854775807 < 1 + x3_1.size) = False := eq_false (Nat.not_lt.2 c9)
            obtain rfl := Option.some.inj H
            go_wp2
            go_ret
            exact ⟨by first | rfl | (simp [errW_none, errW_some] <;> rfl) | (simp [*, errW_none, errW_some] <;> rfl), by repeat (first | (with_reducible first | exact HB.out | apply below_alloc | apply pw_below_drewN | apply below_drew1) | exact HB.out)⟩
          · rw [if_neg c9] at H
            exact absurd H (by simp)

end Go.Proofs.YtmgeffgcihfpcaaDoor.F

namespace Go.Proofs.YtmgeffgcihfpcaaDoor.F
open Go.RowKit Go.Proofs.YtmgeffgcihfpcaaDoorW.PrintWords Go.Proofs.YtmgeffgcihfpcaaDoorW.PrintLast Go.Proofs.YtmgeffgcihfpcaaDoorW.PrintMore
set_option linter.unusedVariables false
set_option linter.unusedSimpArgs false
def laws_markFileS.l0 : Nat → List S74 → Int → Int → Option (Int × List S74)
  | 0, _, _, _ => none
  | k + 1, x0, x1, x5 => if x5 < (x0.length : Int) then (if 0 ≤ x5 then ((laws_markText.f k x1).bind fun a => ((laws_markByteS.f k (rd_T74 x0 x5).f1 (wrap64 (x1 + 1))).bind fun b => ((laws_markByteS.f k (rd_T74 x0 x5).f2 b.1).bind fun c => laws_markFileS.l0 k (x0.set x5.toNat ⟨a, b.2, c.2⟩) c.1 (wrap64 (x5 + 1))))) else none) else some (x1, x0)
def laws_markFileS.f (k : Nat) (l0 : List S74) (a1 : Int) : Option (Int × List S74) := laws_markFileS.l0 k l0 a1 0
theorem laws_markFileS.mono_l : ∀ k, (∀ y0 y1 y2, LeO (laws_markFileS.l0 k y0 y1 y2) (laws_markFileS.l0 (k + 1) y0 y1 y2))
  | 0 => fun _ _ _ r h => by simp [laws_markFileS.l0] at h
  | k + 1 => by
    have ih0 := laws_markFileS.mono_l k
    intro y0 y1 y2
    unfold laws_markFileS.l0
    exact LeO.ite (LeO.ite (LeO.bind (laws_markText.mono _ _) (fun _ => LeO.bind (laws_markByteS.mono _ _ _) (fun _ => LeO.bind (laws_markByteS.mono _ _ _) (fun _ => ih0 _ _ _)))) (LeO.none _)) (LeO.refl _)
theorem laws_markFileS.mono : ∀ a0 a1 k, LeO (laws_markFileS.f k a0 a1) (laws_markFileS.f (k + 1) a0 a1) := fun a0 a1 k => laws_markFileS.mono_l k _ _ _
/-- An element lent: where it lies, its cells, its blocks. -/
theorem S_lent {α : Type} {d : Kd α} {e base : Nat} {W : World} {ok : Nat → Prop} {v : Value} {xs : List α} (h : Kd.S d e W base ok v xs) (z : α) (i : Int) (h0 : 0 ≤ i) (h1 : i < xs.length) :
    ∃ (g cap : Nat) (oki : Nat → Prop) (c : List Value), v = .slice (some ⟨g, 0, none⟩) xs.length cap ∧ base ≤ g ∧ ok g ∧ c.length = d.sz ∧ d.M W base oki (xs.getD i.toNat z) c ∧ (∀ j u, c[j]? = some u → W.cell? ⟨g, i.toNat * d.sz + j, none⟩ = some u) ∧ (∀ j, W.frozen? ⟨g, i.toNat * d.sz + j, none⟩ = false) ∧ (∀ k, oki k → ok k ∧ k ≠ g) ∧ Kd.H d e W base ok v xs i oki c := by
  obtain ⟨g, cap, rfl, hg, _, _⟩ := Kd.S_form h (by omega)
  obtain ⟨oki, c, a1, a2, a3, a6, a4, a5⟩ := Kd.S_elem h z i h0 h1
  exact ⟨g, cap, oki, c, rfl, hg, (Kd.S_R h).1 g (by simp [Value.ownBlock]), a1, a2, a3, a6, a4, a5⟩
/-- A flat row that was written through its blocks is of these blocks. -/
theorem R_back {α : Type} {d : Kd α} {e base : Nat} {W W1 : World} {ok ok' : Nat → Prop} {v : Value} {xs ys : List α} (hE : d.E = []) (h : d.R e W base ok v xs) (h' : d.R e W1 base ok' v ys) : d.R e W1 base ok v ys :=
  Kd.R_mono (Kd.R_tight hE h') (fun k hk => h.1 k hk.symm)
/-- Two rows of different types lie in two blocks. -/
theorem R_two {α β : Type} {d : Kd α} {d' : Kd β} {e e' base base' : Nat} {W : World} {ok ok' : Nat → Prop} {v v' : Value} {xs : List α} {ys : List β} (h : d.R e W base ok v xs) (h' : d'.R e' W base' ok' v' ys) (hne : e ≠ e') : ∀ k, some k = v.ownBlock → ¬ some k = v'.ownBlock := by
  intro k hk hk'
  obtain ⟨c1, h1⟩ := Kd.R_typed h k hk.symm
  obtain ⟨c2, h2⟩ := Kd.R_typed h' k hk'.symm
  rw [h1] at h2
  injection h2 with h2
  injection h2 with _ h2
  exact hne h2
set_option maxHeartbeats 8000000 in
set_option maxRecDepth 100000 in
theorem laws_markFileS.calls (k : Nat) (P0_ : Nat → Prop) (u9000_ : Value) (l0 : List S74) (a1 : Int) (r1 : Int) (r2 : List S74) (w0 w : World) (hB : Below w0.heap.size w0 w) (ho0 : Kd.S k74 74 w w0.heap.size P0_ u9000_ l0) (h : laws_markFileS.f k l0 a1 = some (r1, r2)) :
    Calls Tryd.prog 65 #[u9000_, .int .i64 a1] w fun e w' => e = .returned (.int .i64 r1) ∧ Kd.S k74 74 w' w0.heap.size P0_ u9000_ r2 ∧ Below w0.heap.size w0 w' ∧ Kept w w' (fun k_ => P0_ k_) := by
  obtain ⟨A0, c0, rfl⟩ := Kd.S_slice ho0
  have HO0 := Aside0.mk ho0
  have HK := Aside0.mk (Kept.refl w (fun k_ => P0_ k_))
  have HB := Aside0.mk hB
  clear hB ho0
  have H' := Aside0.mk (show laws_markFileS.l0 k l0 a1 0 = some (r1, r2) from h)
  clear h
  have hu74 := Tryd.underlying74
  go_enter Tryd.func65, Tryd.ntmps65
  go_wp2
  go_loopg [1, 5] k (fun kq v1 v5 w' => ∃ (x0 : List S74) (x1 x5 : Int), v1 = .int .i64 x1 ∧ v5 = .int .i64 x5 ∧ Aside0 (laws_markFileS.l0 kq x0 x1 x5 = some (r1, r2)) ∧ Aside0 (kq ≤ k) ∧ Aside0 (Kd.S k74 74 w' w0.heap.size P0_ (.slice A0 l0.length c0) x0) ∧ Aside0 (Kept w w' (fun k_ => P0_ k_)) ∧ Aside0 (Below w0.heap.size w0 w'))
  case atStart => exact ⟨l0, a1, 0, by first | rfl | (simp; done), by first | rfl | (simp; done), H', ⟨Nat.le_refl _⟩, HO0, HK, HB⟩
  case round =>
    clear H' HO0 HK HB
    obtain ⟨x0, x1, x5, rfl, rfl, HA, HK1, HO, HK, HB⟩ := hrel
    cases gk with
    | zero => exact absurd HA.out (by simp [laws_markFileS.l0])
    | succ k1 =>
      have H := HA.out
      clear HA
      have hl : l0.length = x0.length := (Kd.S_reads' HO.out).1
      simp only [laws_markFileS.l0, ← hl] at H
      by_cases c3 : x5 < (l0.length : Int)
      · rw [if_pos c3] at H
        have q5 := decide_eq_true c3
        by_cases c4 : 0 ≤ x5
        · rw [if_pos c4] at H
          obtain ⟨t0, A4, H⟩ := Option.bind_eq_some_iff.mp H
          obtain ⟨⟨t1, t2⟩, A5, H⟩ := Option.bind_eq_some_iff.mp H
          obtain ⟨⟨t3, t4⟩, A7, H⟩ := Option.bind_eq_some_iff.mp H
          dsimp only at A7 H
          have H' := Aside0.mk H
          clear H
          have A3 := Aside0.mk A4
          clear A4
          have p6 := eq_true c4
          have q6 := eq_true c3
          have C3 := Aside0.mk c3
          have C4 := Aside0.mk c4
          have HL := Aside0.mk hl
          clear hl
          go_wp2_with fail
          refine (laws_markText.calls k1 x1 t0 _ A3.out).mono ?_
          rintro e w5 ⟨rfl, hb0⟩
          replace HO := Aside0.mk (Kd.S_below HO.out hb0)
          replace HB := Aside0.mk (below_then HB.out HB.out.size hb0)
          replace HK := Aside0.mk (HK.out.below hb0)
          clear hb0
          have hl := HL.out
          have c3 := C3.out
          have c4 := C4.out
          obtain ⟨g, cap, oki, c, hv, hg, hok, hcl, hM, hcc, hfr, hoki, hH⟩ := S_lent HO.out z74 x5 c4 (by omega)
          have hM : k74.M w5 w0.heap.size oki (rd_T74 x0 x5) c := hM
          generalize rd_T74 x0 x5 = y at A5 A7 hM
          have A6 := Aside0.mk A5
          have A8 := Aside0.mk A7
          clear A5 A7
          obtain ⟨pp, v1, v2, rfl, hA1, hA2⟩ := k74_openA hM
          have hNN := fun k (h1 : some k = v1.ownBlock) (h2 : some k = v2.ownBlock) => (hA2.1 k h2.symm).2 (hA1.1 k h1.symm).2
          have hR1 := Kd.R_mono hA1 (fun _ h => h.1)
          have hR2 := Kd.R_mono hA2 (fun _ h => h.1)
          have hx0 : w5.cell? ⟨g, x5.toNat * 3, none⟩ = some (.string y.f0) := hcc 0 _ rfl
          have hf0 : w5.frozen? ⟨g, x5.toNat * 3, none⟩ = false := hfr 0
          have hil : x5.toNat < x0.length := by omega
          have hP := (Kd.S_seg (okg := fun _ => False) (seg := [.string t0]) (j := 0) (x' := (⟨t0, y.f1, y.f2⟩ : S74)) (Kd.H_mono (v := .slice (some ⟨g, 0, none⟩) x0.length cap) (hv ▸ hH) (fun k hk => ⟨hk, fun h => h⟩)) c4 (by omega) (show 0 + 1 ≤ 3 by decide) (k74_mkM _ _ _ (⟨t0, y.f1, y.f2⟩ : S74) hR1 hR2 hNN) (fun k hk => .inl hk) (fun k hk => hk.elim)).1
          have HP : Aside0 (Kd.S k74 74 (w5.setCell ⟨g, x5.toNat * 3, none⟩ (.string t0)) w0.heap.size P0_ (.slice (some ⟨g, 0, none⟩) x0.length cap) (x0.set x5.toNat (⟨t0, y.f1, y.f2⟩ : S74))) := ⟨hP⟩
          have HB2 := Aside0.mk (below_set (g := g) (j := x5.toNat * 3) (v := .string t0) HB.out hg)
          have HK2 := Aside0.mk (Kept.setCell (p := ⟨g, x5.toNat * 3, none⟩) HK.out (.inl hok) (.string t0))
          injection hv with e1 e2 e3
          subst e1
          subst e3
          have HIL := Aside0.mk hil
          clear hNN hA1 hA2
          clear e2 hM hcc hfr hoki hH hcl hR1 hR2 hP hil HO HB HK hg hok hl
          go_wp2_with ((with_reducible refine gate_store (t := 9) (p := 17) rfl ?_); refine store_event (t := 9) (p := 17) (v := ?vo) (w1 := (w5.setCell ⟨g, x5.toNat * 3, none⟩ (.string t0))) ?hg ?ho ?hn ?hr ?_; (case ho => rfl); (case hg => rfl); (case hn => rfl); (case hr => first | (go_simp; done) | (go_simp; rfl)); intro w2 hw; rw [← hw] at HP HB2 HK2; clear hw hx0 hf0; obtain ⟨g2, cap2, oki, c, hv, hg, hok, hcl, hM, hcc, hfr, hoki, hH⟩ := S_lent HP.out z74 x5 C4.out (by rw [List.length_set]; exact (Int.toNat_lt C4.out).1 HIL.out); injection hv with e1 e2 e3; injection e1 with e1; injection e1 with e1; subst e1; clear e2 e3; rw [List.getD_eq_getElem?_getD, List.getElem?_set_self HIL.out, Option.getD_some] at hM; obtain ⟨pp2, v3, v4, rfl, hA1, hA2⟩ := k74_openA hM; have GN := Aside0.mk (fun k (h1 : some k = v3.ownBlock) (h2 : some k = v4.ownBlock) => (hA2.1 k h2.symm).2 (hA1.1 k h1.symm).2); have hR1 := Kd.R_mono hA1 (fun _ h => h.1); have hR2 := Kd.R_mono hA2 (fun _ h => h.1); have hx1 : w2.cell? ⟨g, x5.toNat * 3 + 1, none⟩ = some v3 := hcc 1 _ rfl; have hx2 : w2.cell? ⟨g, x5.toNat * 3 + 2, none⟩ = some v4 := hcc 2 _ rfl; have GR1 := Aside0.mk hR1; have GR2 := Aside0.mk hR2; have GH := Aside0.mk hH; have GI := Aside0.mk hoki; have GO := Aside0.mk hok; clear hM hcc hfr hoki hH hcl hR1 hR2 hg hok HP hA1 hA2)
          have T1 := Kd.R_tight rfl GR1.out
          have T2 := Kd.R_tight rfl GR2.out
          refine (laws_markByteS.calls k1 (fun k => some k = v3.ownBlock) v3 y.f1 _ t1 t2 w0 _ HB2.out T1 A6.out).mono ?_
          rintro e w3 ⟨rfl, hR1, hB1, hK1⟩
          have U1 := Aside0.mk (R_back rfl T1 hR1)
          have U2 := Aside0.mk (Kd.R_kept T2 hK1 (fun k h1 h2 => GN.out k h2 h1))
          have UH := Aside0.mk (Kd.H_kept GH.out hK1 (fun k hk hn hs => hn (GR1.out.1 k hs.symm)))
          have UK := Aside0.mk (HK2.out.then_ hK1 (fun k hk => .inl (GI.out k (GR1.out.1 k hk.symm)).1))
          have hx3 : w3.cell? ⟨g, x5.toNat * 3 + 2, none⟩ = some v4 := cell_kept hx2 hK1 (fun hs => (GI.out _ (GR1.out.1 _ hs.symm)).2 rfl)
          have UB := Aside0.mk hB1
          have NE1 := Aside0.mk GN.out
          clear T1 T2 hR1 hB1 hK1 hx1 hx2 GH HK2 HB2
          go_wp2_with fail
          refine (laws_markByteS.calls k1 (fun k => some k = v4.ownBlock) v4 y.f2 _ t3 t4 w0 _ UB.out U2.out A8.out).mono ?_
          rintro e w4 ⟨rfl, hR2, hB1, hK1⟩
          have V2 := R_back rfl U2.out hR2
          have V1 := Kd.R_kept U1.out hK1 NE1.out
          have VH := Kd.H_kept UH.out hK1 (fun k hk hn hs => hn (GR2.out.1 k hs.symm))
          have N1 := Aside0.mk (Kd.H_back VH (okp := oki) (k74_mkM _ _ _ (⟨t0, t2, t4⟩ : S74) (Kd.R_mono V1 (fun k hk => GR1.out.1 k hk.symm)) (Kd.R_mono V2 (fun k hk => GR2.out.1 k hk.symm)) GN.out) (fun _ h => h))
          rw [List.set_set] at N1
          have N2 := Aside0.mk (UK.out.then_ hK1 (fun k hk => .inl (GI.out k (GR2.out.1 k hk.symm)).1))
          have N3 := Aside0.mk hB1
          clear V1 V2 VH hR2 hB1 hK1 hx3 U1 U2 UH UK UB NE1 GR1 GR2 GI GO
          rw [HL.out.symm] at N1
          go_wp2
          go_roundg k1
          case measure => have := HK1.out; omega
          case rel => exact ⟨_, t3, _, rfl, by first | rfl | (simp; done), H', ⟨by have := HK1.out; omega⟩, N1, N2, N3⟩
        · rw [if_neg c4] at H
          exact absurd H (by simp)
      · rw [if_neg c3] at H
        have q5 := decide_eq_false c3
        simp only [Option.some.injEq, Prod.mk.injEq] at H
        obtain ⟨rfl, rfl⟩ := H
        clear hl c3
        go_wp2
        go_ret
        exact ⟨rfl, HO.out, HB.out, HK.out⟩
def laws_markDisk.f (k : Nat) (l0_0 : List S74) (a1 : Int) : Option (Int × List S74) := laws_markFileS.f k l0_0 a1
theorem laws_markDisk.mono : ∀ a0 a1 k, LeO (laws_markDisk.f k a0 a1) (laws_markDisk.f (k + 1) a0 a1) := laws_markFileS.mono
set_option maxHeartbeats 8000000 in
theorem laws_markDisk.calls (k : Nat) (P0_0_ : Nat → Prop) (u9000_ : Value) (l0_0 : List S74) (a1 : Int) (r1 : Int) (r2 : List S74) (w0 w : World) (hB : Below w0.heap.size w0 w) (ho0_0 : Kd.S k74 74 w w0.heap.size P0_0_ u9000_ l0_0) (h : laws_markDisk.f k l0_0 a1 = some (r1, r2)) :
    Calls Tryd.prog 22 #[.agg #[u9000_], .int .i64 a1] w fun e w' => e = .returned (.int .i64 r1) ∧ Kd.S k74 74 w' w0.heap.size P0_0_ u9000_ r2 ∧ Below w0.heap.size w0 w' ∧ Kept w w' (fun k_ => P0_0_ k_) := by
  obtain ⟨A0, c0, rfl⟩ := Kd.S_slice ho0_0
  have HO0 := Aside0.mk ho0_0
  have HB := Aside0.mk hB
  have H := Aside0.mk (show laws_markFileS.f k l0_0 a1 = some (r1, r2) from h)
  clear hB ho0_0 h
  go_enter Tryd.func22, Tryd.ntmps22
  go_wp2_with fail
  have B1 := below_alloc (Below.refl w.heap.size w) (.cells #[.slice A0 l0_0.length c0] 29)
  refine (laws_markFileS.calls k P0_0_ _ l0_0 a1 r1 r2 w0 _ (below_then HB.out HB.out.size B1) (Kd.S_below HO0.out B1) H.out).mono ?_
  rintro e w' ⟨rfl, hS, hB2, hK⟩
  have HS := Aside0.mk hS
  have HB2 := Aside0.mk hB2
  have HK := Aside0.mk ((Kept.of_below B1 _).then_ hK (fun k hk => .inl hk))
  clear hS hB2 hK B1
  go_wp2
  go_ret
  exact ⟨rfl, HS.out, HB2.out, HK.out⟩
end Go.Proofs.YtmgeffgcihfpcaaDoor.F

namespace Go.Proofs.YtmgeffgcihfpcaaDoor.LW
set_option linter.unusedVariables false
set_option linter.unusedSimpArgs false
open Go.RowKit Go.Proofs.YtmgeffgcihfpcaaDoorW.PrintWords Go.Proofs.YtmgeffgcihfpcaaDoorW.PrintLast Go.Proofs.YtmgeffgcihfpcaaDoorW.PrintMore
structure It where
  P : World → Prop
  F : Nat → Prop
  mv : ∀ w w1 : World, (∀ k, F k → w1.heap[k]? = w.heap[k]?) → P w → P w1
def Its (w : World) (B n : Nat) : List It → Prop
  | [] => True
  | i :: r => (∀ k, i.F k → B ≤ k ∧ k < n) ∧ i.P w ∧ (∀ j, j ∈ r → ∀ k, i.F k → ¬ j.F k) ∧ Its w B n r
variable {w w0 w1 : World} {B B' n m g t e : Nat} {l : List It} {i : It} {cs : Array Value} {α : Type} {d : Kd α} {v : Value} {xs ys : List α} {F S ok : Nat → Prop}
theorem Its.mono (h : Its w B n l) (hB : B' ≤ B) (hn : n ≤ m) : Its w B' m l := by
  induction l with
  | nil => trivial
  | cons i r ih => exact ⟨fun k hk => ⟨Nat.le_trans hB (h.1 k hk).1, Nat.lt_of_lt_of_le (h.1 k hk).2 hn⟩, h.2.1, h.2.2.1, ih h.2.2.2⟩
theorem Its.all (h : Its w B n l) : ∀ j, j ∈ l → j.P w ∧ ∀ k, j.F k → B ≤ k ∧ k < n := by
  induction l with
  | nil => intro j hj; cases hj
  | cons i r ih =>
    intro j hj
    cases hj with
    | head => exact ⟨h.2.1, h.1⟩
    | tail _ hj => exact ih h.2.2.2 j hj
theorem Its.move (h : Its w B n l) (hm : ∀ j, j ∈ l → ∀ k, j.F k → w1.heap[k]? = w.heap[k]?) : Its w1 B n l := by
  induction l with
  | nil => trivial
  | cons i r ih => exact ⟨h.1, i.mv w w1 (hm i List.mem_cons_self) h.2.1, h.2.2.1, ih h.2.2.2 (fun j hj => hm j (List.mem_cons_of_mem _ hj))⟩
theorem Its.app {l' : List It} (h' : Its w B' n l') (h : Its w B B' l) (hB : B ≤ B') (hn : B' ≤ n) : Its w B n (l' ++ l) := by
  induction l' with
  | nil => exact h.mono (Nat.le_refl _) hn
  | cons i r ih =>
    refine ⟨fun k hk => ⟨Nat.le_trans hB (h'.1 k hk).1, (h'.1 k hk).2⟩, h'.2.1, fun j hj k hk => ?_, ih h'.2.2.2⟩
    rcases List.mem_append.1 hj with hj | hj
    · exact h'.2.2.1 j hj k hk
    · intro hf
      have h1 := (h'.1 k hk).1
      have h2 := ((h.all j hj).2 k hf).2
      omega
/-- One of them is written: the others stay. -/
theorem Its.write (h : Its w B n l) (i' : It) (hF : ∀ k, i'.F k → i.F k) (hP : i'.P w1) (hk : ∀ k, k < n → ¬ i.F k → w1.heap[k]? = w.heap[k]?) : ∀ q, l[q]? = some i → Its w1 B n (l.set q i') := by
  induction l with
  | nil => intro q hq; simp at hq
  | cons j r ih =>
    intro q hq
    cases q with
    | zero =>
      simp only [List.getElem?_cons_zero, Option.some.injEq] at hq
      subst hq
      exact ⟨fun k hk' => h.1 k (hF k hk'), hP, fun x hx k hk' => h.2.2.1 x hx k (hF k hk'), h.2.2.2.move (fun x hx k hk' => hk k ((h.2.2.2.all x hx).2 k hk').2 (fun hi => h.2.2.1 x hx k hi hk'))⟩
    | succ q =>
      rw [List.getElem?_cons_succ] at hq
      have hm := List.mem_of_getElem? hq
      refine ⟨h.1, j.mv w w1 (fun k hk' => hk k (h.1 k hk').2 (fun hi => h.2.2.1 i hm k hk' hi)) h.2.1, fun x hx k hk' => ?_, ih h.2.2.2 q hq⟩
      rcases List.mem_or_eq_of_mem_set hx with hx | rfl
      · exact h.2.2.1 x hx k hk'
      · exact fun hi => h.2.2.1 i hm k hk' (hF k hi)
/-- A variable in memory. -/
def box (g : Nat) (cs : Array Value) (t : Nat) : It := ⟨fun w => w.heap[g]? = some (.cells cs t (0, 0)), fun k => k = g, fun _ _ hk h => (hk g rfl).trans h⟩
/-- A row of the call's own. -/
def row {α : Type} (d : Kd α) (e B : Nat) (v : Value) (xs : List α) (F : Nat → Prop) : It := ⟨fun w => Kd.S d e w B F v xs, F, fun _ _ hk h => Kd.S_move h hk⟩
/-- What the law holds at w; what stood at its begin (w0) stands. -/
structure St (w0 w : World) (l : List It) : Prop where
  b : Below w0.heap.size w0 w
  i : Its w w0.heap.size w.heap.size l
theorem St.start (w : World) : St w w [] := ⟨Below.refl _ _, trivial⟩
theorem St.step (h : St w0 w l) (hb : Below w.heap.size w w1) : St w0 w1 l :=
  ⟨below_step h.b hb, (h.i.move (fun j hj k hk => hb.block k ((h.i.all j hj).2 k hk).2)).mono (Nat.le_refl _) hb.size⟩
theorem St.drew (h : St w0 w l) : St w0 w.drew l := h.step (below_drew (Below.refl _ _))
theorem St.add (h : St w0 w l) (hb : Below w.heap.size w w1) {l' : List It} (hn : Its w1 w.heap.size w1.heap.size l') : St w0 w1 (l' ++ l) :=
  ⟨below_step h.b hb, hn.app (h.i.move (fun j hj k hk => hb.block k ((h.i.all j hj).2 k hk).2)) h.b.size hb.size⟩
theorem St.box (h : St w0 w l) (hg : g = w.heap.size) (hx : w1.heap[g]? = some (.cells cs t (0, 0))) (hb : Below w.heap.size w w1) : St w0 w1 (box g cs t :: l) :=
  h.add hb (l' := [LW.box g cs t]) ⟨fun k hk => by have : k = g := hk; subst this; exact ⟨by omega, blk_lt hx⟩, hx, fun j hj => (List.not_mem_nil hj).elim, trivial⟩
theorem St.alloc (h : St w0 w l) (cs : Array Value) (t : Nat) (hg : g = w.heap.size) : St w0 (w.alloc (.cells cs t)) (LW.box g cs t :: l) := h.box hg (by subst hg; simpa using blk_new w (.cells cs t)) (below_alloc (Below.refl _ _) _)
theorem St.lt (h : St w0 w l) (q : Nat) (hq : l[q]? = some (LW.box g cs t)) : g < w.heap.size := blk_lt (h.i.all _ (List.mem_of_getElem? hq)).1
theorem S_between (h : Kd.S d e w1 w.heap.size ok v xs) (h0 : w0.heap.size ≤ w.heap.size) : Kd.S d e w1 w0.heap.size (fun k => w.heap.size ≤ k ∧ k < w1.heap.size) v xs := Kd.S_lower (Kd.S_mono (Kd.S_bound h) (fun k hk => ⟨hk.2.1, hk.2.2.1⟩)) h0
theorem St.row (h : St w0 w l) (hb : Below w.heap.size w w1) (ho : Kd.S d e w1 w.heap.size ok v xs) : St w0 w1 (row d e w0.heap.size v xs (fun k => w.heap.size ≤ k ∧ k < w1.heap.size) :: l) :=
  h.add hb (l' := [LW.row d e w0.heap.size v xs (fun k => w.heap.size ≤ k ∧ k < w1.heap.size)]) ⟨fun k hk => hk, S_between ho h.b.size, fun j hj => (List.not_mem_nil hj).elim, trivial⟩
/-- A flat row (its elements lead to nothing) is told so, too. -/
theorem S_flat (hE : d.E = []) (h : d.R e w B ok v xs) : Kd.S d e w B ok v xs := by
  obtain ⟨h0, inner, ho, hr⟩ := h
  refine ⟨fun _ => 0, h0, inner, by rw [List.length_zipIdx]; exact ho, by rw [List.length_zipIdx]; exact hr.1, fun j p hj => ?_⟩
  rw [List.getElem?_zipIdx, Nat.zero_add] at hj
  obtain ⟨x, hx, rfl⟩ := Option.map_eq_some_iff.1 hj
  refine d.M_mono (fun k hk => ?_) (d.M_bound (hr.2 j x hx))
  obtain ⟨_, _, _, q, hq, _⟩ := hk
  rw [hE] at hq
  cases hq
theorem St.rowR (h : St w0 w l) (hE : d.E = []) (hb : Below w.heap.size w w1) (ho : d.R e w1 w.heap.size ok v xs) : St w0 w1 (LW.row d e w0.heap.size v xs (fun k => w.heap.size ≤ k ∧ k < w1.heap.size) :: l) := h.row hb (S_flat hE ho)
/-- Two flat rows of different types that one call made. -/
theorem St.rows2 {β : Type} {d' : Kd β} {e' : Nat} {v' : Value} {ys : List β} {ok' : Nat → Prop} (h : St w0 w l) (hE : d.E = []) (hE' : d'.E = []) (hne : e ≠ e') (hb : Below w.heap.size w w1) (ho : d.R e w1 w.heap.size ok v xs) (ho' : d'.R e' w1 w.heap.size ok' v' ys) :
    St w0 w1 (LW.row d e w0.heap.size v xs (fun k => some k = v.ownBlock) :: LW.row d' e' w0.heap.size v' ys (fun k => some k = v'.ownBlock) :: l) :=
  h.add hb (l' := [_, _]) ⟨fun k hk => ⟨Kd.R_base ho k hk.symm, Kd.R_lt ho k hk.symm⟩, S_flat hE (Kd.R_lower (Kd.R_tight hE ho) h.b.size), fun j hj k hk hf => by
      rcases List.mem_singleton.1 hj with rfl
      obtain ⟨c1, h1⟩ := Kd.R_typed ho k hk.symm
      obtain ⟨c2, h2⟩ := Kd.R_typed ho' k (show v'.ownBlock = some k from Eq.symm hf)
      rw [h1] at h2
      injection h2 with h2
      injection h2 with _ h2
      exact hne h2, fun k hk => ⟨Kd.R_base ho' k hk.symm, Kd.R_lt ho' k hk.symm⟩, S_flat hE' (Kd.R_lower (Kd.R_tight hE' ho') h.b.size), fun j hj => (List.not_mem_nil hj).elim, trivial⟩
theorem setCell_size (w : World) (p : Addr) (u : Value) : (w.setCell p u).heap.size = w.heap.size := by simp [World.setCell]
/-- A store into a variable. -/
theorem St.set (h : St w0 w l) (q : Nat) (hq : l[q]? = some (LW.box g cs t)) (j : Nat) (u : Value) : St w0 (w.setCell ⟨g, j, none⟩ u) (l.set q (LW.box g (cs.setIfInBounds j u) t)) := by
  have hx := h.i.all _ (List.mem_of_getElem? hq)
  refine ⟨below_set h.b (hx.2 g rfl).1, ?_⟩
  rw [setCell_size]
  exact h.i.write (i := LW.box g cs t) (LW.box g (cs.setIfInBounds j u) t) (fun k hk => hk) (blk_set hx.1 j u) (fun k _ hk => Below.heap_setCell w ⟨g, j, none⟩ u k hk) q hq
theorem St.cell (h : St w0 w l) (q : Nat) (hq : l[q]? = some (LW.box g cs t)) (j : Nat) {u : Value} (hu : cs[j]? = some u) : w.cell? ⟨g, j, none⟩ = some u := (blk_cell (h.i.all _ (List.mem_of_getElem? hq)).1 j).trans hu
theorem St.frozen (h : St w0 w l) (q : Nat) (hq : l[q]? = some (LW.box g cs t)) (j : Nat) : w.frozen? ⟨g, j, none⟩ = false := blk_frozen (h.i.all _ (List.mem_of_getElem? hq)).1 j
theorem St.own (h : St w0 w l) (q : Nat) (hq : l[q]? = some (LW.row d e B v xs F)) : Kd.S d e w B F v xs := (h.i.all _ (List.mem_of_getElem? hq)).1
theorem St.reads {A : Option Addr} {m c : Nat} (h : St w0 w l) (q : Nat) (hq : l[q]? = some (LW.row d e B (.slice A m c) xs F)) : m = xs.length ∧ m ≤ c ∧ d.C w A xs.length xs := Kd.S_reads' (h.own q hq)
/-- A row has been written. -/
theorem St.write (h : St w0 w l) (q : Nat) (hq : l[q]? = some (LW.row d e w0.heap.size v xs F)) (hS : Kd.S d e w1 w0.heap.size F v ys) (hB : Below w0.heap.size w0 w1) (hk : Kept w w1 F) : St w0 w1 (l.set q (LW.row d e w0.heap.size v ys F)) := by
  have hx := h.i.all _ (List.mem_of_getElem? hq)
  exact ⟨hB, (h.i.write (i := LW.row d e w0.heap.size v xs F) (LW.row d e w0.heap.size v ys F) (fun k hk => hk) hS (fun k hlt hn => hk.2 k hlt hn) q hq).mono (Nat.le_refl _) hk.1⟩
theorem St.writeR (h : St w0 w l) (hE : d.E = []) (q : Nat) (hq : l[q]? = some (LW.row d e w0.heap.size v xs F)) (hR : d.R e w1 w0.heap.size ok v ys) (hB : Below w0.heap.size w0 w1) (hk : Kept w w1 F) : St w0 w1 (l.set q (LW.row d e w0.heap.size v ys F)) :=
  h.write q hq (S_flat hE (Kd.R_mono (Kd.R_tight hE hR) (fun k hk' => (Kd.S_R (h.own q hq)).1 k hk'.symm))) hB hk
theorem Its.upd : ∀ {l l' : List It}, Its w B n l → l'.length = l.length → (∀ (q : Nat) (i i' : It), l[q]? = some i → l'[q]? = some i' → (∀ k, i'.F k → i.F k) ∧ i'.P w1) → Its w1 B n l'
  | [], l', _, hl, _ => by
    have : l' = [] := List.eq_nil_of_length_eq_zero hl
    subst this
    trivial
  | i :: r, [], _, hl, _ => by cases hl
  | i :: r, i' :: r', h, hl, hp => by
    have h0 := hp 0 i i' rfl rfl
    refine ⟨fun k hk => h.1 k (h0.1 k hk), h0.2, fun j hj k hk hf => ?_, Its.upd h.2.2.2 (Nat.succ.inj hl) (fun q a b ha hb => hp (q + 1) a b (by rw [List.getElem?_cons_succ]; exact ha) (by rw [List.getElem?_cons_succ]; exact hb))⟩
    obtain ⟨q, hq, rfl⟩ := List.mem_iff_getElem.1 hj
    have hl' : r'.length = r.length := Nat.succ.inj hl
    have hqr : q < r.length := by omega
    have := hp (q + 1) r[q] r'[q] (by rw [List.getElem?_cons_succ, List.getElem?_eq_getElem hqr]) (by rw [List.getElem?_cons_succ, List.getElem?_eq_getElem hq])
    exact h.2.2.1 r[q] (List.getElem_mem hqr) k (h0.1 k hk) (this.1 k hf)
theorem Its.disj : ∀ {l : List It}, Its w B n l → ∀ (p q : Nat) (i j : It), p ≠ q → l[p]? = some i → l[q]? = some j → ∀ k, i.F k → ¬ j.F k
  | [], _, p, q, i, j, _, hi, _ => by simp at hi
  | a :: r, h, 0, 0, i, j, hn, _, _ => absurd rfl hn
  | a :: r, h, 0, q + 1, i, j, hn, hi, hj => by
    rw [List.getElem?_cons_succ] at hj
    simp only [List.getElem?_cons_zero, Option.some.injEq] at hi
    subst hi
    exact h.2.2.1 j (List.mem_of_getElem? hj)
  | a :: r, h, p + 1, 0, i, j, hn, hi, hj => by
    rw [List.getElem?_cons_succ] at hi
    simp only [List.getElem?_cons_zero, Option.some.injEq] at hj
    subst hj
    exact fun k hk hf => h.2.2.1 i (List.mem_of_getElem? hi) k hf hk
  | a :: r, h, p + 1, q + 1, i, j, hn, hi, hj => by
    rw [List.getElem?_cons_succ] at hi hj
    exact Its.disj h.2.2.2 p q i j (by omega) hi hj
/-- Two flat rows have been written. -/
theorem St.write2 {β : Type} {d' : Kd β} {e' : Nat} {v' : Value} {zs us : List β} {F' ok' : Nat → Prop} (h : St w0 w l) (hE : d.E = []) (hE' : d'.E = []) (q q' : Nat) (hne : q ≠ q') (hq : l[q]? = some (LW.row d e w0.heap.size v xs F)) (hq' : l[q']? = some (LW.row d' e' w0.heap.size v' zs F'))
    (hR : d.R e w1 w0.heap.size ok v ys) (hR' : d'.R e' w1 w0.heap.size ok' v' us) (hB : Below w0.heap.size w0 w1) (hk : Kept w w1 (fun k => F k ∨ F' k)) : St w0 w1 ((l.set q (LW.row d e w0.heap.size v ys F)).set q' (LW.row d' e' w0.heap.size v' us F')) := by
  have s1 : Kd.S d e w1 w0.heap.size F v ys := S_flat hE (Kd.R_mono (Kd.R_tight hE hR) (fun k hk' => (Kd.S_R (h.own q hq)).1 k hk'.symm))
  have s2 : Kd.S d' e' w1 w0.heap.size F' v' us := S_flat hE' (Kd.R_mono (Kd.R_tight hE' hR') (fun k hk' => (Kd.S_R (h.own q' hq')).1 k hk'.symm))
  refine ⟨hB, (Its.upd h.i (by simp) (fun p i i' hi hi' => ?_)).mono (Nat.le_refl _) hk.1⟩
  have hpl : p < l.length := (List.getElem?_eq_some_iff.1 hi).1
  by_cases e2 : p = q'
  · subst e2
    rw [List.getElem?_set_self (by simpa using hpl)] at hi'
    have hi' := Option.some.inj hi'
    subst hi'
    rw [hq'] at hi
    have hi := Option.some.inj hi
    subst hi
    exact ⟨fun k hk => hk, s2⟩
  · rw [List.getElem?_set_ne (Ne.symm e2)] at hi'
    by_cases e1 : p = q
    · subst e1
      rw [List.getElem?_set_self hpl] at hi'
      have hi' := Option.some.inj hi'
      subst hi'
      rw [hq] at hi
      have hi := Option.some.inj hi
      subst hi
      exact ⟨fun k hk => hk, s1⟩
    · rw [List.getElem?_set_ne (Ne.symm e1), hi] at hi'
      have hi' := Option.some.inj hi'
      subst hi'
      have ha := h.i.all _ (List.mem_of_getElem? hi)
      refine ⟨fun k hk => hk, i.mv w w1 (fun k hkF => hk.2 k (ha.2 k hkF).2 (fun hf => ?_)) ha.1⟩
      rcases hf with hf | hf
      · exact Its.disj h.i p q i _ e1 hi hq k hkF hf
      · exact Its.disj h.i p q' i _ e2 hi hq' k hkF hf
end Go.Proofs.YtmgeffgcihfpcaaDoor.LW

namespace Go.Proofs.YtmgeffgcihfpcaaDoor.F
open Go.RowKit Go.Proofs.YtmgeffgcihfpcaaDoorW.PrintWords Go.Proofs.YtmgeffgcihfpcaaDoorW.PrintLast Go.Proofs.YtmgeffgcihfpcaaDoorW.PrintMore
open Go.Proofs.YtmgeffgcihfpcaaDoor
set_option linter.unusedVariables false
set_option linter.unusedSimpArgs false
def laws_FnExactContent.f (k : Nat) (l0_0 : List (S101)) (a1 : ByteArray) : Option Bool := (if (a1.size : Int) > 1048576 then some true else ((laws_szDisk.f k l0_0 1048576).bind fun p3 => (if p3 < 0 then some true else ((laws_toDisk.f k l0_0).bind fun p9 => ((spec_Content.f k p9 a1).bind fun p17 => ((laws_toDisk.f k l0_0).bind fun p26 => ((impl_Content.f k p26 a1).bind fun p34 => ((laws_eqByteS.f k p34.1 p17.1).bind fun p41 => (if p41 = true then (if p34.2 = p17.2 then ((laws_toDisk.f k l0_0).bind fun p47 => ((laws_eqDisk.f k p26 p47).bind fun p54 => (if p54 = true then ((laws_markDisk.f k p26 1).bind fun p60 => (if p60.1 < 0 then none else ((laws_eqByteS.f k p34.1 p17.1).bind fun p66 => (if p66 = true then (if p17.2 = p17.2 then ((laws_markByteS.f k p34.1 1).bind fun p70 => ((laws_heldByteS.f k p70.2 1).bind fun p75 => (if p75 < 0 then none else (if p75 = p70.1 then ((laws_toDisk.f k l0_0).bind fun p83 => ((impl_Content.f k p83 a1).bind fun p91 => ((laws_eqByteS.f k p91.1 p17.1).bind fun p98 => (if p98 = true then (if p91.2 = p17.2 then ((laws_heldByteS.f k p70.2 1).bind fun p103 => (if p103 < 0 then none else (if p103 = p70.1 then (some true) else none))) else none) else none)))) else none)))) else none) else none)))) else none))) else none) else none)))))))))
theorem laws_FnExactContent.mono : ∀ l0_0 a1 k, LeO (laws_FnExactContent.f k l0_0 a1) (laws_FnExactContent.f (k + 1) l0_0 a1) := by
  intro l0_0 a1 k
  unfold laws_FnExactContent.f
  repeat' first
  | (with_reducible exact laws_szDisk.mono _ _ _)
  | (with_reducible exact laws_toDisk.mono _ _)
  | (with_reducible exact laws_eqDisk.mono _ _ _)
  | (with_reducible exact spec_Content.mono _ _ _)
  | (with_reducible exact impl_Content.mono _ _ _)
  | (with_reducible exact laws_eqByteS.mono _ _ _)
  | (with_reducible exact laws_markDisk.mono _ _ _)
  | (with_reducible exact laws_markByteS.mono _ _ _)
  | (with_reducible exact laws_heldByteS.mono _ _ _)
  | (with_reducible exact LeO.refl _)
  | (with_reducible exact LeO.none _)
  | (with_reducible refine LeO.ite ?_ ?_)
  | (with_reducible refine LeO.bind ?_ (fun _ => ?_))
  | exact laws_szDisk.mono _ _ _
  | exact laws_toDisk.mono _ _
  | exact laws_eqDisk.mono _ _ _
  | exact spec_Content.mono _ _ _
  | exact impl_Content.mono _ _ _
  | exact laws_eqByteS.mono _ _ _
  | exact laws_markDisk.mono _ _ _
  | exact laws_markByteS.mono _ _ _
  | exact laws_heldByteS.mono _ _ _
set_option maxHeartbeats 16000000 in
set_option maxRecDepth 100000 in
theorem laws_FnExactContent.calls (k : Nat) (A0_0 : Option Addr) (c0_0 : Nat) (l0_0 : List (S101)) (a1 : ByteArray) (r : Bool) (w : World) (hr0_0 : Kd.C k101 w A0_0 l0_0.length l0_0) (hc0_0 : l0_0.length ≤ c0_0) (h : laws_FnExactContent.f k l0_0 a1 = some r) :
    Calls Tryd.prog 4 #[.agg #[.slice A0_0 l0_0.length c0_0], .string a1] w fun e w' => e = .returned (.bool r) ∧ Below w.heap.size w w' := by
  have HR0_0 := Aside0.mk hr0_0
  have HC0_0 := Aside0.mk hc0_0
  clear hr0_0 hc0_0
  have ST := Aside0.mk (LW.St.start w)
  unfold laws_FnExactContent.f at h
  by_cases c1 : (a1.size : Int) > 1048576
  · rw [if_pos c1] at h
    obtain rfl := Option.some.inj h
    have c1b : decide ((a1.size : Int) > 1048576) = true := decide_eq_true c1
    clear c1
    go_enter Tryd.func4, Tryd.ntmps4
    go_wp2
    go_ret
    exact ⟨rfl, by repeat (first | exact Below.refl _ _ | apply below_alloc)⟩
  rw [if_neg c1] at h
  have c1b : decide ((a1.size : Int) > 1048576) = false := decide_eq_false c1
  clear c1
  go_enter Tryd.func4, Tryd.ntmps4
  go_wp2_with fail
  replace ST := Aside0.mk (ST.out.alloc #[.slice A0_0 l0_0.length c0_0] 24 (g := w.heap.size) rfl)
  replace h := Option.bind_eq_some_iff.mp h
  obtain ⟨t2, HA_, h⟩ := h
  try dsimp only at h
  replace HA_ := Aside0.mk HA_
  with_reducible refine (laws_szDisk.calls k _ _ l0_0 1048576 t2 _ (Kd.C_below HR0_0.out ST.out.b) HC0_0.out HA_.out).mono ?_
  rintro e w4 ⟨rfl, hb⟩
  clear HA_
  replace ST := Aside0.mk (ST.out.step hb)
  clear hb
  have hc5 := ST.out.cell 0 rfl 0 (u := .slice A0_0 l0_0.length c0_0) rfl
  have hl6 := ST.out.lt 0 rfl
  by_cases c7 : t2 < 0
  · rw [if_pos c7] at h
    obtain rfl := Option.some.inj h
    have c7b : decide (t2 < 0) = true := decide_eq_true c7
    clear c7
    go_wp2
    go_ret
    exact ⟨rfl, ST.out.b⟩
  rw [if_neg c7] at h
  have c7b : decide (t2 < 0) = false := decide_eq_false c7
  clear c7
  go_wp2_with fail
  replace h := Option.bind_eq_some_iff.mp h
  obtain ⟨t8, HA_, h⟩ := h
  try dsimp only at h
  replace HA_ := Aside0.mk HA_
  with_reducible refine (laws_toDisk.calls k _ _ l0_0 t8 _ (Kd.C_below HR0_0.out ST.out.b) HC0_0.out HA_.out).mono ?_
  rintro e w10 ⟨v11, rfl, ho12, hb⟩
  clear HA_
  obtain ⟨A13, c14, rfl⟩ := Kd.S_slice ho12
  replace ST := Aside0.mk (ST.out.row hb ho12)
  clear hb ho12
  clear hc5 hl6
  go_wp2_with fail
  replace h := Option.bind_eq_some_iff.mp h
  obtain ⟨⟨t15, t16⟩, HA_, h⟩ := h
  try dsimp only at h
  replace HA_ := Aside0.mk HA_
  with_reducible refine (spec_Content.calls k _ _ t8 a1 t15 t16 _ (ST.out.reads 0 rfl).2.2 (ST.out.reads 0 rfl).2.1 HA_.out).mono ?_
  rintro e w18 ⟨v19, rfl, ho20, hb⟩
  clear HA_
  obtain ⟨A21, c22, rfl⟩ := Kd.R_slice ho20
  replace ST := Aside0.mk (ST.out.rowR rfl hb ho20)
  clear hb ho20
  have hc23 := ST.out.cell 2 rfl 0 (u := .slice A0_0 l0_0.length c0_0) rfl
  have hl24 := ST.out.lt 2 rfl
  go_wp2_with fail
  replace h := Option.bind_eq_some_iff.mp h
  obtain ⟨t25, HA_, h⟩ := h
  try dsimp only at h
  replace HA_ := Aside0.mk HA_
  with_reducible refine (laws_toDisk.calls k _ _ l0_0 t25 _ (Kd.C_below HR0_0.out ST.out.b) HC0_0.out HA_.out).mono ?_
  rintro e w27 ⟨v28, rfl, ho29, hb⟩
  clear HA_
  obtain ⟨A30, c31, rfl⟩ := Kd.S_slice ho29
  replace ST := Aside0.mk (ST.out.row hb ho29)
  clear hb ho29
  clear hc23 hl24
  go_wp2_with fail
  replace ST := Aside0.mk (ST.out.alloc #[.slice A30 t25.length c31] 29 (g := w27.heap.size) rfl)
  replace h := Option.bind_eq_some_iff.mp h
  obtain ⟨⟨t32, t33⟩, HA_, h⟩ := h
  try dsimp only at h
  replace HA_ := Aside0.mk HA_
  with_reducible refine (impl_Content.calls k _ _ t25 a1 t32 t33 _ (ST.out.reads 1 rfl).2.2 (ST.out.reads 1 rfl).2.1 HA_.out).mono ?_
  rintro e w35 ⟨v36, rfl, ho37, hb⟩
  clear HA_
  obtain ⟨A38, c39, rfl⟩ := Kd.R_slice ho37
  replace ST := Aside0.mk (ST.out.rowR rfl hb ho37)
  clear hb ho37
  go_wp2_with fail
  replace h := Option.bind_eq_some_iff.mp h
  obtain ⟨t40, HA_, h⟩ := h
  try dsimp only at h
  replace HA_ := Aside0.mk HA_
  with_reducible refine (laws_eqByteS.calls k _ _ t32 _ _ t15 t40 _ (ST.out.reads 0 rfl).2.2 (ST.out.reads 0 rfl).2.1 (ST.out.reads 3 rfl).2.2 (ST.out.reads 3 rfl).2.1 HA_.out).mono ?_
  rintro e w42 ⟨rfl, hb⟩
  clear HA_
  replace hb := Drawn0.below hb
  replace ST := Aside0.mk (ST.out.step hb)
  clear hb
  obtain rfl : t40 = true := by
    cases t40 with
    | true => rfl
    | false => exact absurd h (by simp)
  first | rw [if_pos rfl] at h | rw [if_pos trivial] at h
  have e43 : t33 = t16 := by
    refine Decidable.byContradiction fun e_ => ?_
    rw [if_neg e_] at h
    exact absurd h (by simp)
  rw [if_pos e43] at h
  obtain rfl : t16 = t33 := by first | exact e43 | exact e43.symm
  clear e43
  have hq44 : (t16 != t16) = false := bne_self_eq_false _
  go_wp2_with fail
  replace ST := Aside0.mk ST.out.drew
  refine start_ (n := 5) (S := fun w' => w'.cell? ⟨w27.heap.size, 0, none⟩ = some (.slice A30 t25.length c31) ∧ w'.cell? ⟨w.heap.size, 0, none⟩ = some (.slice A0_0 l0_0.length c0_0)) (ds := []) #[false, false, false, false, false] (by kernel_rfl) rfl rfl ⟨ST.out.cell 1 rfl 0 rfl, ST.out.cell 5 rfl 0 rfl⟩ (fun hHeld => ?_)
  generalize w42.drew = w45 at ST hHeld ⊢
  refine take_ (i := 0) (N := some 48) (v := ?_) (a' := ?_) #[true, false, false, false, false] rfl rfl (by kernel_rfl) (fun _ _ _ h => h) (Or.inl ⟨by rfl, ?_⟩) hHeld ?_ ?_
  rotate_left
  · rintro w' ⟨s0, s1⟩
    go_simp
    with_reducible rfl
  rotate_left
  · simp only [Act.put, List.setIfInBounds_toArray, List.set_cons_zero, List.set_cons_succ, i64_w, i32_w]
    rfl
  refine take_ (i := 1) (N := some 49) (v := ?_) (a' := ?_) #[true, true, false, false, false] rfl rfl (by kernel_rfl) (fun _ _ _ h => h) (Or.inl ⟨by rfl, ?_⟩) hHeld ?_ ?_
  rotate_left
  · rintro w' ⟨s0, s1⟩
    go_simp
    with_reducible rfl
  rotate_left
  · simp only [Act.put, List.setIfInBounds_toArray, List.set_cons_zero, List.set_cons_succ, i64_w, i32_w]
    rfl
  refine one_ (i := 2) (N := some 50) #[true, true, true, false, false] rfl rfl (by kernel_rfl) (by decide) (fun K hK => ?_)
  replace h := Option.bind_eq_some_iff.mp h
  obtain ⟨t46, HA_, h⟩ := h
  try dsimp only at h
  replace HA_ := Aside0.mk HA_
  refine goes_ Tryd.func16 (by kernel_rfl) rfl #[.agg #[.slice A0_0 l0_0.length c0_0]] (by rfl) rfl rfl (by (try simp only [List.map_toArray, List.map_cons, List.map_nil]); first | done | rfl) ?_
  with_reducible refine (laws_toDisk.calls k _ _ l0_0 t46 _ (Kd.C_below HR0_0.out ST.out.b) HC0_0.out HA_.out).mono ?_
  rintro e w48 ⟨v49, rfl, ho50, hb⟩
  clear HA_
  refine ⟨_, rfl, ?_⟩
  obtain ⟨A51, c52, rfl⟩ := Kd.S_slice ho50
  replace ST := Aside0.mk (ST.out.row hb ho50)
  clear hb ho50
  refine hK.out _ _ ⟨ST.out.cell 2 rfl 0 rfl, ST.out.cell 6 rfl 0 rfl⟩ (fun hHeld => ?_)
  clear hK K
  refine norm_ (a' := ?_) ?_ ?_
  rotate_left
  · show Act.put _ (some 50) _ = _
    simp only [Act.put, List.setIfInBounds_toArray, List.set_cons_zero, List.set_cons_succ, i64_w, i32_w]
    rfl
  refine one_ (i := 3) (N := some 51) #[true, true, true, true, false] rfl rfl (by kernel_rfl) (by decide) (fun K hK => ?_)
  replace h := Option.bind_eq_some_iff.mp h
  obtain ⟨t53, HA_, h⟩ := h
  try dsimp only at h
  replace HA_ := Aside0.mk HA_
  refine goes_ Tryd.func18 (by kernel_rfl) rfl #[.agg #[.slice A30 t25.length c31], .agg #[.slice A51 t46.length c52]] (by rfl) rfl rfl (by (try simp only [List.map_toArray, List.map_cons, List.map_nil]); first | done | rfl) ?_
  with_reducible refine (laws_eqDisk.calls k _ _ t25 _ _ t46 t53 _ (ST.out.reads 3 rfl).2.2 (ST.out.reads 3 rfl).2.1 (ST.out.reads 0 rfl).2.2 (ST.out.reads 0 rfl).2.1 HA_.out).mono ?_
  rintro e w55 ⟨rfl, hb⟩
  clear HA_
  refine ⟨_, rfl, ?_⟩
  replace ST := Aside0.mk (ST.out.step hb)
  clear hb
  obtain rfl : t53 = true := by
    cases t53 with
    | true => rfl
    | false => exact absurd h (by simp)
  first | rw [if_pos rfl] at h | rw [if_pos trivial] at h
  refine hK.out _ _ ⟨ST.out.cell 2 rfl 0 rfl, ST.out.cell 6 rfl 0 rfl⟩ (fun hHeld => ?_)
  clear hK K
  refine norm_ (a' := ?_) ?_ ?_
  rotate_left
  · show Act.put _ (some 51) _ = _
    simp only [Act.put, List.setIfInBounds_toArray, List.set_cons_zero, List.set_cons_succ, i64_w, i32_w]
    rfl
  refine pure_ (i := 4) (N := some 52) (v := ?_) (a' := ?_) #[true, true, true, true, true] rfl rfl (by kernel_rfl) (fun _ _ _ h => h) (Or.inl ⟨by rfl, ?_⟩) ?_ ?_
  rotate_left
  · intro w'
    go_simp
    with_reducible rfl
  rotate_left
  · simp only [Act.put, List.setIfInBounds_toArray, List.set_cons_zero, List.set_cons_succ, i64_w, i32_w]
    rfl
  refine done_ (by kernel_rfl) ?_
  have hc56 := ST.out.cell 2 rfl 0 (u := .slice A30 t25.length c31) rfl
  have hl57 := ST.out.lt 2 rfl
  go_wp2_with fail
  replace h := Option.bind_eq_some_iff.mp h
  obtain ⟨⟨t58, t59⟩, HA_, h⟩ := h
  try dsimp only at h
  replace HA_ := Aside0.mk HA_
  with_reducible refine (laws_markDisk.calls k _ _ t25 1 t58 t59 w _ ST.out.b (ST.out.own 3 rfl) HA_.out).mono ?_
  rintro e w61 ⟨rfl, ho62, hb, hk⟩
  clear HA_
  replace ST := Aside0.mk (ST.out.write 3 rfl ho62 hb hk)
  clear hb hk ho62
  have el63 := (ST.out.reads 3 rfl).1
  simp only [el63] at ST ⊢
  clear el63
  clear hc56 hl57
  by_cases c64 : t58 < 0
  · rw [if_pos c64] at h
    exact absurd h (by simp)
  rw [if_neg c64] at h
  have c64b : decide (t58 < 0) = false := decide_eq_false c64
  clear c64
  go_wp2_with fail
  replace h := Option.bind_eq_some_iff.mp h
  obtain ⟨t65, HA_, h⟩ := h
  try dsimp only at h
  replace HA_ := Aside0.mk HA_
  with_reducible refine (laws_eqByteS.calls k _ _ t32 _ _ t15 t65 _ (ST.out.reads 1 rfl).2.2 (ST.out.reads 1 rfl).2.1 (ST.out.reads 4 rfl).2.2 (ST.out.reads 4 rfl).2.1 HA_.out).mono ?_
  rintro e w67 ⟨rfl, hb⟩
  clear HA_
  replace hb := Drawn0.below hb
  replace ST := Aside0.mk (ST.out.step hb)
  clear hb
  obtain rfl : t65 = true := by
    cases t65 with
    | true => rfl
    | false => exact absurd h (by simp)
  first | rw [if_pos rfl] at h | rw [if_pos trivial] at h
  first | rw [if_pos rfl] at h | rw [if_pos trivial] at h
  go_wp2_with fail
  replace h := Option.bind_eq_some_iff.mp h
  obtain ⟨⟨t68, t69⟩, HA_, h⟩ := h
  try dsimp only at h
  replace HA_ := Aside0.mk HA_
  with_reducible refine (laws_markByteS.calls k _ _ t32 1 t68 t69 w _ ST.out.b (Kd.S_R (ST.out.own 1 rfl)) HA_.out).mono ?_
  rintro e w71 ⟨rfl, ho72, hb, hk⟩
  clear HA_
  replace ST := Aside0.mk (ST.out.writeR rfl 1 rfl ho72 hb hk)
  clear hb hk ho72
  have el73 := (ST.out.reads 1 rfl).1
  simp only [el73] at ST ⊢
  clear el73
  go_wp2_with fail
  replace h := Option.bind_eq_some_iff.mp h
  obtain ⟨t74, HA_, h⟩ := h
  try dsimp only at h
  replace HA_ := Aside0.mk HA_
  with_reducible refine (laws_heldByteS.calls k _ _ t69 1 t74 _ (ST.out.reads 1 rfl).2.2 (ST.out.reads 1 rfl).2.1 HA_.out).mono ?_
  rintro e w76 ⟨rfl, hb⟩
  clear HA_
  replace hb := Drawn0.below hb
  replace ST := Aside0.mk (ST.out.step hb)
  clear hb
  have hc77 := ST.out.cell 6 rfl 0 (u := .slice A0_0 l0_0.length c0_0) rfl
  have hl78 := ST.out.lt 6 rfl
  by_cases c79 : t74 < 0
  · rw [if_pos c79] at h
    exact absurd h (by simp)
  rw [if_neg c79] at h
  have c79b : decide (t74 < 0) = false := decide_eq_false c79
  clear c79
  have e80 : t74 = t68 := by
    refine Decidable.byContradiction fun e_ => ?_
    rw [if_neg e_] at h
    exact absurd h (by simp)
  rw [if_pos e80] at h
  obtain rfl : t68 = t74 := by first | exact e80 | exact e80.symm
  clear e80
  have hq81 : (t68 != t68) = false := bne_self_eq_false _
  go_wp2_with fail
  replace h := Option.bind_eq_some_iff.mp h
  obtain ⟨t82, HA_, h⟩ := h
  try dsimp only at h
  replace HA_ := Aside0.mk HA_
  with_reducible refine (laws_toDisk.calls k _ _ l0_0 t82 _ (Kd.C_below HR0_0.out ST.out.b) HC0_0.out HA_.out).mono ?_
  rintro e w84 ⟨v85, rfl, ho86, hb⟩
  clear HA_
  obtain ⟨A87, c88, rfl⟩ := Kd.S_slice ho86
  replace ST := Aside0.mk (ST.out.row hb ho86)
  clear hb ho86
  clear hc77 hl78
  go_wp2_with fail
  replace h := Option.bind_eq_some_iff.mp h
  obtain ⟨⟨t89, t90⟩, HA_, h⟩ := h
  try dsimp only at h
  replace HA_ := Aside0.mk HA_
  with_reducible refine (impl_Content.calls k _ _ t82 a1 t89 t90 _ (ST.out.reads 0 rfl).2.2 (ST.out.reads 0 rfl).2.1 HA_.out).mono ?_
  rintro e w92 ⟨v93, rfl, ho94, hb⟩
  clear HA_
  obtain ⟨A95, c96, rfl⟩ := Kd.R_slice ho94
  replace ST := Aside0.mk (ST.out.rowR rfl hb ho94)
  clear hb ho94
  go_wp2_with fail
  replace h := Option.bind_eq_some_iff.mp h
  obtain ⟨t97, HA_, h⟩ := h
  try dsimp only at h
  replace HA_ := Aside0.mk HA_
  with_reducible refine (laws_eqByteS.calls k _ _ t89 _ _ t15 t97 _ (ST.out.reads 0 rfl).2.2 (ST.out.reads 0 rfl).2.1 (ST.out.reads 6 rfl).2.2 (ST.out.reads 6 rfl).2.1 HA_.out).mono ?_
  rintro e w99 ⟨rfl, hb⟩
  clear HA_
  replace hb := Drawn0.below hb
  replace ST := Aside0.mk (ST.out.step hb)
  clear hb
  obtain rfl : t97 = true := by
    cases t97 with
    | true => rfl
    | false => exact absurd h (by simp)
  first | rw [if_pos rfl] at h | rw [if_pos trivial] at h
  have e100 : t90 = t16 := by
    refine Decidable.byContradiction fun e_ => ?_
    rw [if_neg e_] at h
    exact absurd h (by simp)
  rw [if_pos e100] at h
  obtain rfl : t16 = t90 := by first | exact e100 | exact e100.symm
  clear e100
  have hq101 : (t16 != t16) = false := bne_self_eq_false _
  go_wp2_with fail
  replace h := Option.bind_eq_some_iff.mp h
  obtain ⟨t102, HA_, h⟩ := h
  try dsimp only at h
  replace HA_ := Aside0.mk HA_
  with_reducible refine (laws_heldByteS.calls k _ _ t69 1 t102 _ (ST.out.reads 3 rfl).2.2 (ST.out.reads 3 rfl).2.1 HA_.out).mono ?_
  rintro e w104 ⟨rfl, hb⟩
  clear HA_
  replace hb := Drawn0.below hb
  replace ST := Aside0.mk (ST.out.step hb)
  clear hb
  by_cases c105 : t102 < 0
  · rw [if_pos c105] at h
    exact absurd h (by simp)
  rw [if_neg c105] at h
  have c105b : decide (t102 < 0) = false := decide_eq_false c105
  clear c105
  have e106 : t102 = t68 := by
    refine Decidable.byContradiction fun e_ => ?_
    rw [if_neg e_] at h
    exact absurd h (by simp)
  rw [if_pos e106] at h
  obtain rfl : t68 = t102 := by first | exact e106 | exact e106.symm
  clear e106
  have hq107 : (t68 != t68) = false := bne_self_eq_false _
  obtain rfl := Option.some.inj h
  go_wp2
  go_ret
  exact ⟨rfl, ST.out.b⟩
end Go.Proofs.YtmgeffgcihfpcaaDoor.F

namespace Go.Proofs.YtmgeffgcihfpcaaDoor.PK
set_option linter.unusedVariables false
set_option linter.unusedSimpArgs false
open Go.RowKit Go.Proofs.YtmgeffgcihfpcaaDoorW.PrintWords
theorem EvS {α : Type} {g : Nat → Option α} {r : α} (h : Ev (fun k => g (k + 1)) r) : Ev g r := by
  obtain ⟨K, h⟩ := h
  refine ⟨K + 1, fun k hk => ?_⟩
  obtain ⟨m, rfl⟩ : ∃ m, k = m + 1 := ⟨k - 1, by omega⟩
  exact h m (by omega)
theorem EvP {α : Type} {g : Nat → Option α} {r : α} (h : Ev g r) : Ev (fun k => g (k + 1)) r := by
  obtain ⟨K, h⟩ := h
  exact ⟨K, fun k hk => h (k + 1) (by omega)⟩
theorem EvB {α β : Type} {g : Nat → Option α} {f : Nat → α → Option β} {a : α} {r : β} (h : Ev g a) : Ev (fun k => (g k).bind (f k)) r ↔ Ev (fun k => f k a) r := by
  obtain ⟨K, h⟩ := h
  constructor
  · rintro ⟨K', h'⟩
    refine ⟨max K K', fun k hk => ?_⟩
    have h2 : (g k).bind (f k) = some r := h' k (by omega)
    rw [h k (by omega)] at h2
    exact h2
  · rintro ⟨K', h'⟩
    refine ⟨max K K', fun k hk => ?_⟩
    show (g k).bind (f k) = some r
    rw [h k (by omega)]
    exact h' k (by omega)
theorem EvN {α : Type} {r : α} : Ev (fun _ => some r) r := ⟨0, fun _ _ => rfl⟩
theorem EvE {α : Type} {g : Nat → Option α} {r : α} (h : Ev g r) : ∃ k, g k = some r := h.rounds
/-- Two answers of one function are one. -/
theorem EvU {α : Type} {g : Nat → Option α} {r s : α} (h : Ev g r) (h' : Ev g s) : r = s := by
  obtain ⟨K, h⟩ := h
  obtain ⟨K', h'⟩ := h'
  have := (h (max K K') (by omega)).symm.trans (h' (max K K') (by omega))
  exact Option.some.inj this
theorem w64 {x : Int} (h : -9223372036854775808 ≤ x) (h' : x ≤ 9223372036854775807) : wrap64 x = x := by
  unfold wrap64
  omega
theorem wf64 {x : Int} (h : (Lit.int .i64 x).wf = true) : -9223372036854775808 ≤ x ∧ x ≤ 9223372036854775807 := by
  simp only [Lit.wf, Bool.and_eq_true, decide_eq_true_eq] at h
  have h1 : IntKind.i64.min = -9223372036854775808 := by decide
  have h2 : IntKind.i64.max = 9223372036854775807 := by decide
  omega
/-- From the end down. -/
theorem up {P : Int → Prop} (n : Nat) (base : P n) (step : ∀ i : Nat, i < n → P ((i + 1 : Nat) : Int) → P (i : Int)) : ∀ i : Nat, i ≤ n → P (i : Int) := by
  intro i hi
  obtain ⟨d, hd⟩ : ∃ d, d + i = n := ⟨n - i, by omega⟩
  induction d generalizing i with
  | zero => have : i = n := by omega
            subst this
            exact base
  | succ d ih => exact step i (by omega) (ih (i + 1) (by omega) (by omega))
theorem up0 {P : Int → Prop} (n : Nat) (base : P n) (step : ∀ i : Nat, i < n → P ((i + 1 : Nat) : Int) → P (i : Int)) : P 0 := up n base step 0 (Nat.zero_le _)
theorem getD_nat {α : Type} (l : List α) (z : α) (i : Nat) (h : i < l.length) : l.getD ((i : Int).toNat) z = l[i] := by
  simp [List.getD_eq_getElem?_getD, List.getElem?_eq_getElem h]
theorem drop_at {α : Type} (l : List α) (i : Nat) (h : i < l.length) : l.drop i = l[i] :: l.drop (i + 1) := List.drop_eq_getElem_cons h
/-- Marks put into the elements of a list, one behind the other, and found there. -/
theorem marks {α : Type} (L : Nat → List α → Int → Int → Option (Int × List α)) (H : Nat → List α → Int → Int → Option Int) (B : Int) (hB : 0 ≤ B) (n : Nat) (N : Int)
    (endL : ∀ l a, l.length = n → Ev (fun k => L k l a n) (a, l)) (endH : ∀ l a, l.length = n → Ev (fun k => H k l a n) a)
    (step : ∀ (i : Nat) (l : List α) (a : Int), i < n → l.length = n → 0 ≤ a → a + B ≤ N → ∃ (e : α) (a1 : Int), a ≤ a1 ∧ a1 ≤ a + B ∧
      (∀ r, Ev (fun k => L k (l.set i e) a1 ((i + 1 : Nat) : Int)) r → Ev (fun k => L k l a i) r) ∧
      (∀ (l' : List α) r, l'.length = n → l'[i]? = some e → Ev (fun k => H k l' a1 ((i + 1 : Nat) : Int)) r → Ev (fun k => H k l' a i) r)) :
    ∀ (i : Nat), i ≤ n → ∀ (l : List α) (a : Int), l.length = n → 0 ≤ a → a + (n - i) * B ≤ N →
      ∃ (a' : Int) (l' : List α), Ev (fun k => L k l a i) (a', l') ∧ a ≤ a' ∧ a' ≤ a + (n - i) * B ∧ l'.length = n ∧ (∀ j, j < i → l'[j]? = l[j]?) ∧ Ev (fun k => H k l' a i) a' := by
  intro i hi
  obtain ⟨d, hd⟩ : ∃ d, d + i = n := ⟨n - i, by omega⟩
  induction d generalizing i with
  | zero =>
    intro l a hl h0 hN
    have : i = n := by omega
    subst this
    exact ⟨a, l, endL l a hl, Int.le_refl _, by rw [Int.sub_self, Int.zero_mul]; omega, hl, fun _ _ => rfl, endH l a hl⟩
  | succ d ih =>
    intro l a hl h0 hN
    have hni : ((n : Int) - i) * B = B + ((n : Int) - ((i + 1 : Nat) : Int)) * B := by
      rw [show (n : Int) - i = 1 + ((n : Int) - ((i + 1 : Nat) : Int)) by omega, Int.add_mul, Int.one_mul]
    have hnn : 0 ≤ ((n : Int) - ((i + 1 : Nat) : Int)) * B := Int.mul_nonneg (by omega) hB
    obtain ⟨e, a1, h1, h2, hL, hH⟩ := step i l a (by omega) hl h0 (by omega)
    obtain ⟨a', l', hev, h3, h4, h5, h6, h7⟩ := ih (i + 1) (by omega) (by omega) (l.set i e) a1 (by simpa using hl) (by omega) (by omega)
    refine ⟨a', l', hL _ hev, by omega, by omega, h5, fun j hj => ?_, hH l' a' h5 ?_ h7⟩
    · rw [h6 j (by omega), List.getElem?_set_ne (by omega)]
    · rw [h6 i (by omega), List.getElem?_set_self (by omega)]
end Go.Proofs.YtmgeffgcihfpcaaDoor.PK

namespace Go.Proofs.YtmgeffgcihfpcaaDoor.DK
set_option linter.unusedVariables false
set_option linter.unusedSimpArgs false
open Go.RowKit Go.Proofs.YtmgeffgcihfpcaaDoor.F Go.Proofs.YtmgeffgcihfpcaaDoor.PK Go.Proofs.YtmgeffgcihfpcaaDoorW.PrintWords Go.Proofs.YtmgeffgcihfpcaaDoorW.PrintLast Go.Proofs.YtmgeffgcihfpcaaDoorW.PrintMore
theorem nxt (i n : Nat) (h : i < n) (hn : n ≤ 9223372036854775807) : wrap64 ((i : Int) + 1) = ((i + 1 : Nat) : Int) := by rw [w64 (by omega) (by omega)]; omega
def inB (b : UInt8) : Bool := decide ((97 ≤ b.toNat ∧ b.toNat ≤ 122) ∨ (48 ≤ b.toNat ∧ b.toNat ≤ 57))
def nameM (s : ByteArray) : Bool := s.data.toList.all inB && decide (1 ≤ s.size ∧ s.size ≤ 12)
theorem bt_get (s : ByteArray) (i : Nat) (h : i < s.data.toList.length) : bt s (i : Int) = (s.data.toList[i].toNat : Int) := by
  have hs : i < s.size := by rw [← data_length]; exact h
  unfold bt
  rw [dif_pos (show (i : Int).toNat < s.size by rw [Int.toNat_natCast]; exact hs)]
  simp
  rfl
theorem spec_name (s : ByteArray) (hs : s.size ≤ 9223372036854775807) : Ev (fun k => spec_l01Name.f k s) (nameM s) := by
  have hl := data_length s
  have key := up0 (P := fun i => Ev (fun k => spec_l01Name.l0 k s i) ((s.data.toList.drop i.toNat).all inB && decide (1 ≤ s.size ∧ s.size ≤ 12))) s.size
    (EvS (by
      simp only [spec_l01Name.l0, Int.lt_irrefl, if_false, Int.toNat_natCast, spec_l01In.f]
      rw [List.drop_eq_nil_of_le (by omega), List.all_nil, Bool.true_and]
      by_cases h1 : 1 ≤ (s.size : Int)
      · simp only [if_pos h1, Option.bind_some]
        rw [show decide ((s.size : Int) ≤ 12) = decide (1 ≤ s.size ∧ s.size ≤ 12) from decide_eq_decide.2 (by omega)]
        exact EvN
      · simp only [if_neg h1, Option.bind_some]
        rw [decide_eq_false (show ¬ (1 ≤ s.size ∧ s.size ≤ 12) by omega)]
        exact EvN))
    (fun i hi ih => EvS (by
      have hil : i < s.data.toList.length := by omega
      rw [Int.toNat_natCast] at *
      rw [drop_at _ i hil, List.all_cons]
      simp only [spec_l01Name.l0, if_pos (show (i : Int) < (s.size : Int) by omega), if_pos (show 0 ≤ (i : Int) by omega), nxt i _ hi hs]
      have hb := bt_get s i hil
      generalize bt s (i : Int) = x at hb ⊢
      generalize s.data.toList[i] = b at hb ⊢
      by_cases c1 : x ≥ 97
      · by_cases c2 : x ≤ 122
        · simp only [if_pos c1, if_pos c2, show inB b = true from decide_eq_true (by omega), Bool.true_and]; exact ih
        · by_cases c3 : x ≥ 48
          · simp only [if_pos c1, if_neg c2, if_pos c3, if_neg (show ¬ x ≤ 57 by omega), show inB b = false from decide_eq_false (by omega), Bool.false_and]; exact EvN
          · omega
      · by_cases c3 : x ≥ 48
        · by_cases c4 : x ≤ 57
          · simp only [if_neg c1, if_pos c3, if_pos c4, show inB b = true from decide_eq_true (by omega), Bool.true_and]; exact ih
          · simp only [if_neg c1, if_pos c3, if_neg c4, show inB b = false from decide_eq_false (by omega), Bool.false_and]; exact EvN
        · simp only [if_neg c1, if_neg c3, show inB b = false from decide_eq_false (by omega), Bool.false_and]; exact EvN))
  unfold spec_l01Name.f nameM
  exact key
def cutB : List UInt8 := [97, 98, 99, 100, 101, 102, 103, 104, 105, 106, 107, 108, 109, 110, 111, 112, 113, 114, 115, 116, 117, 118, 119, 120, 121, 122, 48, 49, 50, 51, 52, 53, 54, 55, 56, 57]
theorem cut_in (b : UInt8) : cutB.contains b = inB b := by
  have h : ∀ n : Fin 256, cutB.contains (UInt8.ofNat n.val) = inB (UInt8.ofNat n.val) := by decide +kernel
  have := h ⟨b.toNat, b.toNat_lt⟩
  simpa using this
theorem dw_nil {α : Type} (p : α → Bool) : ∀ l : List α, l.dropWhile p = [] ↔ ∀ x ∈ l, p x = true
  | [] => by simp
  | a :: l => by
    rw [List.dropWhile_cons]
    by_cases h : p a = true
    · rw [if_pos h, dw_nil p l]
      simp [h]
    · rw [if_neg h]
      simp [h]
theorem dw_head {α : Type} (p : α → Bool) : ∀ (l : List α) (x : α) (r : List α), l.dropWhile p = x :: r → p x = false
  | [], x, r, h => by simp at h
  | a :: l, x, r, h => by
    rw [List.dropWhile_cons] at h
    by_cases hp : p a = true
    · rw [if_pos hp] at h
      exact dw_head p l x r h
    · rw [if_neg hp] at h
      injection h with h1 _
      rw [← h1]
      exact Bool.eq_false_iff.2 hp
theorem dw_mem {α : Type} (p : α → Bool) : ∀ (l : List α) (x : α), x ∈ l.dropWhile p → x ∈ l
  | [], x, h => by simp at h
  | a :: l, x, h => by
    rw [List.dropWhile_cons] at h
    by_cases hp : p a = true
    · rw [if_pos hp] at h
      exact List.mem_cons_of_mem _ (dw_mem p l x h)
    · rw [if_neg hp] at h
      exact h
theorem trim_nil (l : List UInt8) : (Go.Lib.trimS l cutB == []) = l.all inB := by
  unfold Go.Lib.trimS Go.Lib.trimLeftS Go.Lib.trimRightS
  rw [Bool.eq_iff_iff, beq_iff_eq, dw_nil, List.all_eq_true]
  constructor
  · intro h
    have hd : l.reverse.dropWhile (cutB.contains ·) = [] := by
      cases hq : l.reverse.dropWhile (cutB.contains ·) with
      | nil => rfl
      | cons x r =>
        have h1 := h x (by rw [hq]; simp)
        have h2 := dw_head (cutB.contains ·) _ _ _ hq
        rw [h1] at h2
        cases h2
    rw [dw_nil] at hd
    intro x hx
    rw [← cut_in]
    exact hd x (List.mem_reverse.2 hx)
  · intro h x hx
    rw [cut_in]
    exact h x (List.mem_reverse.1 (dw_mem _ _ _ (List.mem_reverse.1 hx)))
theorem impl_name (s : ByteArray) (hs : s.size ≤ 9223372036854775807) : impl_isFileName.f s = some (nameM s) := by
  unfold impl_isFileName.f nameM
  by_cases h1 : (s.size : Int) ≥ 1
  · by_cases h2 : (s.size : Int) ≤ 12
    · have ht : trimF.f s (⟨#[97, 98, 99, 100, 101, 102, 103, 104, 105, 106, 107, 108, 109, 110, 111, 112, 113, 114, 115, 116, 117, 118, 119, 120, 121, 122, 48, 49, 50, 51, 52, 53, 54, 55, 56, 57]⟩ : ByteArray) = some ⟨(Go.Lib.trimS s.data.toList cutB).toArray⟩ := by
        unfold trimF.f
        rw [if_pos ⟨hs, by decide, by decide⟩]
        rfl
      simp only [if_pos h1, if_pos h2, ht, Option.bind_some]
      rw [Go.Lib.toList_data, trim_nil, decide_eq_true (show 1 ≤ s.size ∧ s.size ≤ 12 by omega), Bool.and_true]
    · simp only [if_pos h1, if_neg h2]
      rw [decide_eq_false (show ¬ (1 ≤ s.size ∧ s.size ≤ 12) by omega), Bool.and_false]
  · simp only [if_neg h1]
    rw [decide_eq_false (show ¬ (1 ≤ s.size ∧ s.size ≤ 12) by omega), Bool.and_false]
end Go.Proofs.YtmgeffgcihfpcaaDoor.DK

namespace Go.Proofs.YtmgeffgcihfpcaaDoor.BY
set_option linter.unusedVariables false
set_option linter.unusedSimpArgs false
open Go.RowKit Go.Proofs.YtmgeffgcihfpcaaDoor.F Go.Proofs.YtmgeffgcihfpcaaDoor.PK Go.Proofs.YtmgeffgcihfpcaaDoorW.PrintWords Go.Proofs.YtmgeffgcihfpcaaDoorW.PrintLast
theorem rd_at (l : List Int) (i : Nat) (h : i < l.length) : rd l (i : Int) = l[i] := getD_nat l _ i h
theorem nxt (i n : Nat) (h : i < n) (hn : n ≤ 9223372036854775807) : wrap64 ((i : Int) + 1) = ((i + 1 : Nat) : Int) := by rw [w64 (by omega) (by omega)]; omega
theorem toByteS (l : List Int) (hl : l.length ≤ 1048576) : Ev (fun k => laws_toByteS.f k l) l := by
  have key := up (P := fun i => ∀ x : List Int, x.length = l.length → (∀ j : Nat, (j : Int) < i → x[j]? = l[j]?) → Ev (fun k => laws_toByteS.l0 k l x i) l) l.length
      (fun x h0 h1 => by
        have : x = l := List.ext_getElem? fun j => by
          by_cases hj : j < l.length
          · exact h1 j (by omega)
          · rw [List.getElem?_eq_none (by omega), List.getElem?_eq_none (by omega)]
        subst this
        exact EvS (by simp only [laws_toByteS.l0, Int.lt_irrefl, if_false]; exact EvN))
      (fun i hi ih x h0 h1 => by
        refine EvS ?_
        simp only [laws_toByteS.l0, rd_at l i hi, Option.bind_some, h0, Int.toNat_natCast, if_pos (show (i : Int) < (l.length : Int) by omega), if_pos (show 0 ≤ (i : Int) by omega), nxt i _ hi (by omega)]
        refine ih _ (by simpa using h0) fun j hj => ?_
        by_cases hji : j = i
        · subst hji
          rw [List.getElem?_set_self (by omega)]
          simp [List.getElem?_eq_getElem hi]
        · rw [List.getElem?_set_ne (by omega)]
          exact h1 j (by omega))
  have := key 0 (Nat.zero_le _) (List.replicate l.length 0) (by simp) (fun j hj => absurd hj (by omega))
  unfold laws_toByteS.f
  simp only [Int.toNat_natCast, if_pos (show 0 ≤ (l.length : Int) by omega), if_pos (show l.length ≤ 281474976710656 by omega)]
  exact this
theorem eqByteS (x : List Int) (hx : x.length ≤ 9223372036854775807) : Ev (fun k => laws_eqByteS.f k x x) true := by
  have key := up (P := fun i => Ev (fun k => laws_eqByteS.l0 k x x i) true) x.length
    (EvS (by simp only [laws_eqByteS.l0, Int.lt_irrefl, if_false]; exact EvN))
    (fun i hi ih => EvS (by simp only [laws_eqByteS.l0, if_true, Option.bind_some, if_pos (show (i : Int) < (x.length : Int) by omega), if_pos (show 0 ≤ (i : Int) by omega), nxt i _ hi hx]; exact ih))
  have := key 0 (Nat.zero_le _)
  unfold laws_eqByteS.f
  simp only [if_true]
  exact this
end Go.Proofs.YtmgeffgcihfpcaaDoor.BY

namespace Go.Proofs.YtmgeffgcihfpcaaDoor.F
open Go.RowKit Go.Proofs.YtmgeffgcihfpcaaDoorW.PrintWords Go.Proofs.YtmgeffgcihfpcaaDoorW.PrintLast Go.Proofs.YtmgeffgcihfpcaaDoorW.PrintMore
attribute [local go_sem] max2_int min2_int max_two min_two max_three min_three max_four min_four   -- for this text's walks alone
set_option linter.unusedVariables false
set_option linter.unusedSimpArgs false

/-! ### impl_DiskOk: function 17 -/
def impl_DiskOk.f (k : Nat) (l0_0 : List (S74)) : Option (Bool) := (impl_isDisk.f k l0_0).bind fun t154 => (some t154)
theorem impl_DiskOk.mono : ∀ a0 k, LeO (impl_DiskOk.f k a0) (impl_DiskOk.f (k + 1) a0) := by
  intro a0 k
  unfold impl_DiskOk.f
  repeat' first
      | (with_reducible exact impl_isDisk.mono _ _)
      | (with_reducible exact LeO.refl _)
      | (with_reducible exact LeO.none _)
      | (with_reducible refine LeO.ite ?_ ?_)
      | (with_reducible refine LeO.bind ?_ (fun _ => ?_))
      | exact impl_isDisk.mono _ _
      | exact LeO.none _
      | refine LeO.ite ?_ ?_
      | refine LeO.bind ?_ (fun _ => ?_)
set_option maxHeartbeats 8000000 in
set_option maxRecDepth 100000 in
theorem impl_DiskOk.calls (k : Nat) (A0_0 : Option Addr) (c0_0 : Nat) (l0_0 : List (S74)) (r : Bool) (w : World) (hr0_0 : Kd.C k74 w A0_0 l0_0.length l0_0) (hc0_0 : l0_0.length ≤ c0_0) (h : impl_DiskOk.f k l0_0 = some r) :
    Calls Tryd.prog 17 #[.agg #[.slice A0_0 l0_0.length c0_0]] w fun e w' => e = .returned (.bool r) ∧ Below w.heap.size w w' := by
  have hu29 := Tryd.underlying29
  have HR0_0 := Aside0.mk hr0_0
  have HC0_0 := Aside0.mk hc0_0
  clear hr0_0 hc0_0
  have HB := Aside0.mk (Below.refl w.heap.size w)
  have H : ((impl_isDisk.f k l0_0).bind fun t154 => (some t154)) = some r := h
  clear h
  replace H := Option.bind_eq_some_iff.mp H
  obtain ⟨t154, A20, H⟩ := H
  replace H : (some t154) = some r := H
  have A2 := Aside0.mk A20
  clear A20
  obtain rfl := Option.some.inj H
  go_enter Tryd.func17, Tryd.ntmps17
  go_wp2_with (first | ((with_reducible refine gate_dst (N := 1) rfl ?_); refine box_event ?hg (N := 1) ?hd (cs := #[.slice A0_0 l0_0.length c0_0]) (t := 29) ?hr ?_; (case hd => rfl); (case hg => rfl); (case hr => first | (go_simp; done) | (go_simp; rfl)); intro gb153 hg w3 hbox hb; have n0_ := Aside0.mk (below_step (by repeat (first | (with_reducible first | exact HB.out | apply below_alloc | apply pw_below_drewN | apply below_drew1) | exact HB.out)) hb); have n1_ := Aside0.mk (hbox); have n2_ := Aside0.mk ((by rw [hg]; exact (below_size (by repeat (first | (with_reducible first | exact HB.out | apply below_alloc | apply pw_below_drewN | apply below_drew1) | exact HB.out))) : w.heap.size ≤ gb153)); have n3_ := Aside0.mk ((by rw [hg]; exact (below_size (by repeat (first | (with_reducible first | exact HB.out | apply below_alloc | apply pw_below_drewN | apply below_drew1) | exact HB.out))) : w.heap.size ≤ gb153)); clear HB; have HB := n0_; have BK153 := n1_; have GW153 := n2_; have GE153 := n3_; clear n0_ n1_ n2_ n3_; clear hb hbox hg; have hcz4_0 : w3.cell? ⟨gb153, 0, none⟩ = some (.slice A0_0 l0_0.length c0_0) := (blk_cell BK153.out 0).trans rfl; have hfz4_0 := blk_frozen BK153.out 0) | ((with_reducible refine gate_callee (f := 59) rfl ?_); refine goesL_ (some 4) rfl rfl Tryd.func59 (by kernel_rfl) rfl #[.agg #[.slice A0_0 l0_0.length c0_0]] rfl (by (try simp only [List.map_toArray, List.map_cons, List.map_nil]); first | done | rfl | (simp only [List.length_drop, List.length_take]; rfl)) ?_; (with_reducible refine (impl_isDisk.calls k _ _ l0_0 t154 _ ?side1 ?side2 A2.out).mono ?_); (case side1 => repeat (first | exact (Kd.C_below HR0_0.out HB.out) | (with_reducible refine Kd.C_alloc ?_ _) | (with_reducible refine Kd.C_drewN ?_ _) | (with_reducible refine Kd.C_drew ?_))); (case side2 => exact HC0_0.out); rintro e w5 ⟨rfl, hb⟩; refine ⟨_, rfl, ?_⟩; have n0_ := Aside0.mk (blk_below (g := gb153) (o := .cells #[.slice A0_0 l0_0.length c0_0] 29 (0, 0)) (by (with_reducible repeat (first | refine blk_drewN ?_ _ | refine blk_drew ?_ | refine blk_alloc ?_ _)); exact BK153.out) hb); have n1_ := Aside0.mk (below_step (by repeat (first | (with_reducible first | exact HB.out | apply below_alloc | apply pw_below_drewN | apply below_drew1 | refine below_set ?_ GE153.out) | exact HB.out)) hb); clear BK153; clear HB; have BK153 := n0_; have HB := n1_; clear n0_ n1_; (try clear hb); (try clear hb2); (try clear hk); (try clear hi)))
  go_ret
  exact ⟨by first | rfl | (simp [errW_none, errW_some] <;> rfl) | (simp [*, errW_none, errW_some] <;> rfl), by repeat (first | (with_reducible first | exact HB.out | apply below_alloc | apply pw_below_drewN | apply below_drew1 | refine below_set ?_ GE153.out) | exact HB.out)⟩

end Go.Proofs.YtmgeffgcihfpcaaDoor.F

namespace Go.Proofs.YtmgeffgcihfpcaaDoor.DK
set_option linter.unusedVariables false
set_option linter.unusedSimpArgs false
open Go.RowKit Go.Proofs.YtmgeffgcihfpcaaDoor.F Go.Proofs.YtmgeffgcihfpcaaDoor.PK Go.Proofs.YtmgeffgcihfpcaaDoorW.PrintWords Go.Proofs.YtmgeffgcihfpcaaDoorW.PrintLast Go.Proofs.YtmgeffgcihfpcaaDoorW.PrintMore
open Go.Proofs.YtmgeffgcihfpcaaDoor.BY (toByteS eqByteS)
theorem rd74 (l : List S74) (i : Nat) (h : i < l.length) : rd_T74 l (i : Int) = l[i] := getD_nat l _ i h
theorem rd101 (l : List S101) (i : Nat) (h : i < l.length) : rd_T101 l (i : Int) = l[i] := getD_nat l _ i h
def conv101 (x : S101) : S74 := ⟨x.f0, x.f1, x.f2⟩
theorem toFile (a : ByteArray) (b c : List Int) (hb : b.length ≤ 1048576) (hc : c.length ≤ 1048576) : Ev (fun k => laws_toFile.f k a b c) (a, b, c) := by
  unfold laws_toFile.f
  simp only [EvB (toByteS b hb), EvB (toByteS c hc)]
  exact EvN
theorem toFileS (l : List S101) (hl : l.length ≤ 1048576) (hs : ∀ y ∈ l, y.f1.length ≤ 1048576 ∧ y.f2.length ≤ 1048576) : Ev (fun k => laws_toFileS.f k l) (l.map conv101) := by
  have key := up (P := fun i => ∀ x : List S74, x.length = l.length → (∀ j : Nat, (j : Int) < i → x[j]? = (l.map conv101)[j]?) → Ev (fun k => laws_toFileS.l0 k l x i) (l.map conv101)) l.length
      (fun x h0 h1 => by
        have : x = l.map conv101 := List.ext_getElem? fun j => by
          by_cases hj : j < l.length
          · exact h1 j (by omega)
          · rw [List.getElem?_eq_none (by omega), List.getElem?_eq_none (by rw [List.length_map]; omega)]
        subst this
        exact EvS (by simp only [laws_toFileS.l0, Int.lt_irrefl, if_false]; exact EvN))
      (fun i hi ih x h0 h1 => by
        have hy := hs _ (List.getElem_mem hi)
        refine EvS ?_
        simp only [laws_toFileS.l0, rd101 l i hi, EvB (toFile l[i].f0 l[i].f1 l[i].f2 hy.1 hy.2), h0, Int.toNat_natCast, if_pos (show (i : Int) < (l.length : Int) by omega), if_pos (show 0 ≤ (i : Int) by omega), nxt i _ hi (by omega)]
        refine ih _ (by simpa using h0) fun j hj => ?_
        by_cases hji : j = i
        · subst hji
          rw [List.getElem?_set_self (by omega)]
          simp [List.getElem?_eq_getElem hi, conv101]
        · rw [List.getElem?_set_ne (by omega)]
          exact h1 j (by omega))
  have := key 0 (Nat.zero_le _) (List.replicate l.length z74) (by simp) (fun j hj => absurd hj (by omega))
  unfold laws_toFileS.f
  have hS : (l.length ≤ 4398046511104) = True := eq_true (by omega)
  simp only [Int.toNat_natCast, if_pos (show 0 ≤ (l.length : Int) by omega), hS, if_true]
  exact this
theorem toDisk (l : List S101) (hl : l.length ≤ 1048576) (hs : ∀ y ∈ l, y.f1.length ≤ 1048576 ∧ y.f2.length ≤ 1048576) : Ev (fun k => laws_toDisk.f k l) (l.map conv101) := by
  unfold laws_toDisk.f
  simp only [EvB (toFileS l hl hs)]
  exact EvN
theorem szByteS (l : List Int) (c : Int) (h0 : 0 ≤ c) (h1 : c ≤ 1048576) (hl : l.length ≤ 9223372036854775807) : ∃ t, laws_szByteS.f l c = some t ∧ t ≤ c ∧ (0 ≤ t → (l.length : Int) ≤ c) := by
  unfold laws_szByteS.f
  rw [w64 (by omega) (by omega)]
  split
  · exact ⟨_, rfl, by omega, by omega⟩
  · exact ⟨_, rfl, by omega, by omega⟩
theorem szFile (a : ByteArray) (b d : List Int) (c : Int) (h0 : 0 ≤ c) (h1 : c ≤ 1048576) (ha : a.size ≤ 9223372036854775807) (hb : b.length ≤ 9223372036854775807) (hd : d.length ≤ 9223372036854775807) : ∃ t, laws_szFile.f a b d c = some t ∧ t ≤ c ∧ (0 ≤ t → b.length ≤ 1048576 ∧ d.length ≤ 1048576) := by
  unfold laws_szFile.f
  rw [w64 (by omega) (by omega)]
  by_cases g : c - (a.size : Int) < 0
  · exact ⟨-1, by rw [if_pos g], by omega, by omega⟩
  obtain ⟨t, e, a1, a2⟩ := szByteS b (c - (a.size : Int)) (by omega) (by omega) hb
  by_cases g1 : t < 0
  · exact ⟨-1, by simp only [if_neg g, e, Option.bind_some, if_pos g1], by omega, by omega⟩
  obtain ⟨u, e2, b1, b2⟩ := szByteS d t (by omega) (by omega) hd
  by_cases g2 : u < 0
  · exact ⟨-1, by simp only [if_neg g, e, Option.bind_some, if_neg g1, e2, if_pos g2], by omega, by omega⟩
  · exact ⟨u, by simp only [if_neg g, e, Option.bind_some, if_neg g1, e2, if_neg g2], by omega, by omega⟩
def wfF (l : List S101) : Prop := ∀ y ∈ l, y.f0.size ≤ 9223372036854775807 ∧ y.f1.length ≤ 9223372036854775807 ∧ y.f2.length ≤ 9223372036854775807
theorem szFileS (l : List S101) (hl : l.length ≤ 9223372036854775807) (hs : wfF l) : ∃ t, Ev (fun k => laws_szFileS.f k l 1048576) t ∧ (0 ≤ t → l.length ≤ 1048576 ∧ ∀ y ∈ l, y.f1.length ≤ 1048576 ∧ y.f2.length ≤ 1048576) := by
  by_cases h : (1048576 - (l.length : Int)) < 0
  · refine ⟨-1, ?_, by omega⟩
    unfold laws_szFileS.f
    rw [w64 (by omega) (by omega)]
    simp only [if_pos h]
    exact EvN
  · have key := up (P := fun i => ∀ x, 0 ≤ x → x ≤ 1048576 → ∃ t, Ev (fun k => laws_szFileS.l0 k l x i) t ∧ (0 ≤ t → ∀ y ∈ l.drop i.toNat, y.f1.length ≤ 1048576 ∧ y.f2.length ≤ 1048576)) l.length
      (fun x g0 g1 => ⟨x, EvS (by simp only [laws_szFileS.l0, Int.lt_irrefl, if_false]; exact EvN), fun _ y hy => by rw [Int.toNat_natCast, List.drop_length] at hy; cases hy⟩)
      (fun i hi ih x g0 g1 => by
        have hz := hs _ (List.getElem_mem hi)
        obtain ⟨t, e1, e2, e3⟩ := szFile l[i].f0 l[i].f1 l[i].f2 x g0 g1 hz.1 hz.2.1 hz.2.2
        by_cases h2 : t < 0
        · refine ⟨-1, EvS ?_, by omega⟩
          simp only [laws_szFileS.l0, rd101 l i hi, e1, Option.bind_some, if_pos h2, if_pos (show (i : Int) < (l.length : Int) by omega), if_pos (show 0 ≤ (i : Int) by omega)]
          exact EvN
        · obtain ⟨t', h3, h4⟩ := ih t (by omega) (by omega)
          refine ⟨t', EvS ?_, fun ht y hy => ?_⟩
          · simp only [laws_szFileS.l0, rd101 l i hi, e1, Option.bind_some, if_neg h2, if_pos (show (i : Int) < (l.length : Int) by omega), if_pos (show 0 ≤ (i : Int) by omega), nxt i _ hi hl]
            exact h3
          · rw [Int.toNat_natCast, drop_at l i hi] at hy
            rcases List.mem_cons.1 hy with rfl | hy
            · exact e3 (by omega)
            · exact h4 ht y (by rw [Int.toNat_natCast]; exact hy))
    obtain ⟨t, h2, h3⟩ := key 0 (Nat.zero_le _) (1048576 - (l.length : Int)) (by omega) (by omega)
    refine ⟨t, ?_, fun ht => ⟨by omega, fun y hy => h3 ht y (by simpa using hy)⟩⟩
    unfold laws_szFileS.f
    rw [w64 (by omega) (by omega)]
    simp only [if_neg h]
    exact h2
theorem szDisk (l : List S101) (hl : l.length ≤ 9223372036854775807) (hs : wfF l) : ∃ t, Ev (fun k => laws_szDisk.f k l 1048576) t ∧ (0 ≤ t → l.length ≤ 1048576 ∧ ∀ y ∈ l, y.f1.length ≤ 1048576 ∧ y.f2.length ≤ 1048576) := by
  obtain ⟨t, h1, h2⟩ := szFileS l hl hs
  unfold laws_szDisk.f
  by_cases h : t < 0
  · exact ⟨-1, by simp only [EvB h1, if_pos h]; exact EvN, by omega⟩
  · exact ⟨t, by simp only [EvB h1, if_neg h]; exact EvN, h2⟩
theorem eqFile (a : ByteArray) (b c : List Int) (hb : b.length ≤ 9223372036854775807) (hc : c.length ≤ 9223372036854775807) : Ev (fun k => laws_eqFile.f k a b c a b c) true := by
  unfold laws_eqFile.f
  simp only [if_true, EvB (eqByteS b hb), EvB (eqByteS c hc)]
  exact EvN
theorem eqFileS (x : List S74) (hx : x.length ≤ 9223372036854775807) (hy : ∀ y ∈ x, y.f1.length ≤ 9223372036854775807 ∧ y.f2.length ≤ 9223372036854775807) : Ev (fun k => laws_eqFileS.f k x x) true := by
  have key := up (P := fun i => Ev (fun k => laws_eqFileS.l0 k x x i) true) x.length
    (EvS (by simp only [laws_eqFileS.l0, Int.lt_irrefl, if_false]; exact EvN))
    (fun i hi ih => EvS (by
      have e := eqFile x[i].f0 x[i].f1 x[i].f2 (hy _ (List.getElem_mem hi)).1 (hy _ (List.getElem_mem hi)).2
      simp only [laws_eqFileS.l0, rd74 x i hi, if_pos (show (i : Int) < (x.length : Int) by omega), if_pos (show 0 ≤ (i : Int) by omega), EvB e, if_true, nxt i _ hi hx]; exact ih))
  have := key 0 (Nat.zero_le _)
  unfold laws_eqFileS.f
  simp only [if_true]
  exact this
theorem eqDisk (x : List S74) (hx : x.length ≤ 9223372036854775807) (hy : ∀ y ∈ x, y.f1.length ≤ 9223372036854775807 ∧ y.f2.length ≤ 9223372036854775807) : Ev (fun k => laws_eqDisk.f k x x) true := by
  unfold laws_eqDisk.f
  simp only [EvB (eqFileS x hx hy), if_true]
  exact EvN
def okAt (l : List S74) (i : Nat) : Bool := nameM (rd_T74 l i).f0 && (decide ((rd_T74 l i).f1.length + (rd_T74 l i).f2.length ≤ 20000) && (decide (i = 0) || Op.bytesLess (rd_T74 l ((i - 1 : Nat) : Int)).f0.toList (rd_T74 l i).f0.toList))
def goD (l : List S74) : Nat → Nat → Bool
  | 0, _ => true
  | d + 1, i => okAt l i && goD l d (i + 1)
def diskM (l : List S74) : Bool := decide (l.length ≤ 8) && goD l l.length 0
def wfD (l : List S74) : Prop := ∀ y ∈ l, y.f0.size ≤ 9223372036854775807 ∧ y.f1.length ≤ 1048576 ∧ y.f2.length ≤ 1048576
theorem specGo (l : List S74) (hl : l.length ≤ 1048576) (hw : wfD l) : ∀ d i : Nat, d + i = l.length → Ev (fun k => spec_DiskOk.l0 k i l) (goD l d i) := by
  intro d
  induction d with
  | zero =>
    intro i hi
    refine EvS ?_
    simp only [spec_DiskOk.l0, if_neg (show ¬ (i : Int) < (l.length : Int) by omega)]
    exact EvN
  | succ d ih =>
    intro i hi
    have hil : i < l.length := by omega
    have hy := hw _ (List.getElem_mem hil)
    refine EvS ?_
    have hn := spec_name l[i].f0 hy.1
    have h := ih (i + 1) (by omega)
    rw [← rd74 l i hil] at hn hy
    unfold goD okAt
    simp only [spec_DiskOk.l0, if_pos (show (i : Int) < (l.length : Int) by omega), if_pos (show 0 ≤ (i : Int) by omega), EvB hn, nxt i _ hil (by omega)]
    generalize rd_T74 l (i : Int) = y at hy hn ⊢
    by_cases c1 : nameM y.f0 = true
    · by_cases c2 : (y.f1.length : Int) > 20000
      · simp only [if_pos c1, if_pos c2, decide_eq_false (show ¬ y.f1.length + y.f2.length ≤ 20000 by omega), Bool.false_and, Bool.and_false]; exact EvN
      · have hw1 : wrap64 (20000 - (y.f1.length : Int)) = 20000 - (y.f1.length : Int) := w64 (by omega) (by omega)
        by_cases c3 : (y.f2.length : Int) > 20000 - (y.f1.length : Int)
        · simp only [if_pos c1, if_neg c2, hw1, if_pos c3, decide_eq_false (show ¬ y.f1.length + y.f2.length ≤ 20000 by omega), Bool.false_and, Bool.and_false]; exact EvN
        · simp only [if_pos c1, if_neg c2, hw1, if_neg c3, c1, decide_eq_true (show y.f1.length + y.f2.length ≤ 20000 by omega), Bool.true_and]
          by_cases c4 : i = 0
          · simp only [if_neg (show ¬ (i : Int) > 0 by omega), decide_eq_true c4, Bool.true_or, Bool.true_and]; exact h
          · have hw2 : wrap64 ((i : Int) - 1) = ((i - 1 : Nat) : Int) := by rw [w64 (by omega) (by omega)]; omega
            simp only [if_pos (show (i : Int) > 0 by omega), hw2, if_pos (show 0 ≤ ((i - 1 : Nat) : Int) by omega), if_pos (show ((i - 1 : Nat) : Int) < (l.length : Int) by omega), decide_eq_false c4, Bool.false_or]
            by_cases c5 : Op.bytesLess (rd_T74 l ((i - 1 : Nat) : Int)).f0.toList y.f0.toList = true
            · simp only [if_pos c5, c5, Bool.true_and]; exact h
            · simp only [if_neg c5, Bool.eq_false_iff.2 c5, Bool.false_and]; exact EvN
    · simp only [if_neg c1, Bool.eq_false_iff.2 c1, Bool.false_and]; exact EvN
theorem implGo (l : List S74) (hl : l.length ≤ 1048576) (hw : wfD l) : ∀ d i : Nat, d + i = l.length → Ev (fun k => impl_isDisk.l0 k l (l.length : Int) i l) (goD l d i && decide (l.length ≤ 8)) := by
  intro d
  induction d with
  | zero =>
    intro i hi
    refine EvS ?_
    simp only [impl_isDisk.l0, if_neg (show ¬ (i : Int) < (l.length : Int) by omega), goD, Bool.true_and]
    rw [show decide ((l.length : Int) ≤ 8) = decide (l.length ≤ 8) from decide_eq_decide.2 (by omega)]
    exact EvN
  | succ d ih =>
    intro i hi
    have hil : i < l.length := by omega
    have hy := hw _ (List.getElem_mem hil)
    refine EvS ?_
    have hn := impl_name l[i].f0 hy.1
    have h := ih (i + 1) (by omega)
    rw [← rd74 l i hil] at hn hy
    unfold goD okAt
    simp only [impl_isDisk.l0, if_pos (show (i : Int) < (l.length : Int) by omega), if_pos (show 0 ≤ (i : Int) by omega), hn, Option.bind_some, nxt i _ hil (by omega)]
    generalize rd_T74 l (i : Int) = y at hy hn ⊢
    by_cases c1 : nameM y.f0 = true
    · have hw1 : wrap64 ((y.f1.length : Int) + (y.f2.length : Int)) = (y.f1.length : Int) + (y.f2.length : Int) := w64 (by omega) (by omega)
      by_cases c3 : (y.f1.length : Int) + (y.f2.length : Int) > 20000
      · simp only [if_pos c1, hw1, if_pos c3, decide_eq_false (show ¬ y.f1.length + y.f2.length ≤ 20000 by omega), Bool.false_and, Bool.and_false]; exact EvN
      · simp only [if_pos c1, hw1, if_neg c3, c1, decide_eq_true (show y.f1.length + y.f2.length ≤ 20000 by omega), Bool.true_and]
        by_cases c4 : i = 0
        · simp only [if_neg (show ¬ (i : Int) > 0 by omega), decide_eq_true c4, Bool.true_or, Bool.true_and]; exact h
        · have hw2 : wrap64 ((i : Int) - 1) = ((i - 1 : Nat) : Int) := by rw [w64 (by omega) (by omega)]; omega
          simp only [if_pos (show (i : Int) > 0 by omega), hw2, if_pos (show 0 ≤ ((i - 1 : Nat) : Int) by omega), if_pos (show ((i - 1 : Nat) : Int) < (l.length : Int) by omega), decide_eq_false c4, Bool.false_or]
          by_cases c5 : Op.bytesLess (rd_T74 l ((i - 1 : Nat) : Int)).f0.toList y.f0.toList = true
          · simp only [if_pos c5, c5, Bool.true_and]; exact h
          · simp only [if_neg c5, Bool.eq_false_iff.2 c5, Bool.false_and]; exact EvN
    · simp only [if_neg c1, Bool.eq_false_iff.2 c1, Bool.false_and]; exact EvN
theorem spec_disk (l : List S74) (hl : l.length ≤ 1048576) (hw : wfD l) : Ev (fun k => spec_DiskOk.f k l) (diskM l) := by
  unfold spec_DiskOk.f diskM
  by_cases h : l.length ≤ 8
  · simp only [if_neg (show ¬ (l.length : Int) > 8 by omega), decide_eq_true h, Bool.true_and]
    exact specGo l hl hw l.length 0 rfl
  · simp only [if_pos (show (l.length : Int) > 8 by omega), decide_eq_false h, Bool.false_and]
    exact EvN
theorem impl_disk (l : List S74) (hl : l.length ≤ 1048576) (hw : wfD l) : Ev (fun k => impl_isDisk.f k l) (diskM l) := by
  unfold impl_isDisk.f diskM
  rw [Bool.and_comm]
  exact implGo l hl hw l.length 0 rfl
theorem impl_diskOk (l : List S74) (hl : l.length ≤ 1048576) (hw : wfD l) : Ev (fun k => impl_DiskOk.f k l) (diskM l) := by
  unfold impl_DiskOk.f
  simp only [EvB (impl_disk l hl hw)]
  exact EvN
end Go.Proofs.YtmgeffgcihfpcaaDoor.DK

namespace Go.Proofs.YtmgeffgcihfpcaaDoor.DK
set_option linter.unusedVariables false
set_option linter.unusedSimpArgs false
open Go.RowKit Go.Proofs.YtmgeffgcihfpcaaDoor.F Go.Proofs.YtmgeffgcihfpcaaDoor.PK Go.Proofs.YtmgeffgcihfpcaaDoorW.PrintWords Go.Proofs.YtmgeffgcihfpcaaDoorW.PrintLast Go.Proofs.YtmgeffgcihfpcaaDoorW.PrintMore
theorem rdI (l : List Int) (i : Nat) (h : i < l.length) : rd l (i : Int) = l[i] := getD_nat l _ i h
theorem bytesS (l : List Int) (hl : l.length ≤ 1000000000) : Ev (fun k => spec_l01Bytes.f k l) l := by
  have key := up0 (P := fun i => Ev (fun k => spec_l01Bytes.l0 k l (l.take i.toNat) i) l) l.length
    (EvS (by simp only [spec_l01Bytes.l0, Int.lt_irrefl, if_false, Int.toNat_natCast, List.take_length]; exact EvN))
    (fun i hi ih => EvS (by
      simp only [spec_l01Bytes.l0, if_pos (show (i : Int) < (l.length : Int) by omega), if_pos (show 0 ≤ (i : Int) by omega), Int.toNat_natCast, rdI l i hi, nxt i _ hi (by omega), if_pos (show (l.take i).length < 140737488355328 by rw [List.length_take]; omega)]
      rw [Int.toNat_natCast, List.take_add_one, List.getElem?_eq_getElem hi] at ih
      exact ih))
  unfold spec_l01Bytes.f
  exact key
theorem joinS (l m : List Int) (hl : l.length ≤ 1000000000) (hm : m.length ≤ 1000000000) : Ev (fun k => spec_l01Join.f k l m) (l ++ m) := by
  have key := up0 (P := fun i => Ev (fun k => spec_l01Join.l0 k m (l ++ m.take i.toNat) i) (l ++ m)) m.length
    (EvS (by simp only [spec_l01Join.l0, Int.lt_irrefl, if_false, Int.toNat_natCast, List.take_length]; exact EvN))
    (fun i hi ih => EvS (by
      simp only [spec_l01Join.l0, if_pos (show (i : Int) < (m.length : Int) by omega), if_pos (show 0 ≤ (i : Int) by omega), Int.toNat_natCast, rdI m i hi, nxt i _ hi (by omega), if_pos (show (l ++ m.take i).length < 140737488355328 by rw [List.length_append, List.length_take]; omega)]
      rw [Int.toNat_natCast, List.take_add_one, List.getElem?_eq_getElem hi, ← List.append_assoc] at ih
      exact ih))
  unfold spec_l01Join.f
  simp only [EvB (bytesS l hl)]
  have e : l ++ m.take (0 : Int).toNat = l := by simp
  rw [e] at key
  exact key
def isN (a : ByteArray) : ByteArray → Bool := fun s => s.toList == a.toList
theorem find_ev (l : List S74) (a : ByteArray) (hl : l.length ≤ 1048576) : Ev (fun k => spec_l03Find.f k l a) (idxF (isN a) l 0) := by
  have key := up0 (P := fun i => Ev (fun k => spec_l03Find.l0 k a i l) (idxF (isN a) (l.drop i.toNat) i)) l.length
    (EvS (by
      simp only [spec_l03Find.l0, Int.lt_irrefl, if_false, Int.toNat_natCast, List.drop_length, idxF]
      exact EvN))
    (fun i hi ih => EvS (by
      rw [Int.toNat_natCast] at *
      rw [drop_at l i hi]
      simp only [spec_l03Find.l0, if_pos (show (i : Int) < (l.length : Int) by omega), if_pos (show 0 ≤ (i : Int) by omega), rd74 l i hi, nxt i _ hi (by omega), idxF]
      by_cases h : l[i].f0.toList = a.toList
      · simp only [if_pos h, isN, beq_iff_eq.2 h, if_true]; exact EvN
      · simp only [if_neg h, isN, beq_eq_false_iff_ne.2 h, Bool.false_eq_true, if_false]
        exact ih))
  unfold spec_l03Find.f
  exact key
theorem idxF_bd (p : ByteArray → Bool) : ∀ (l : List S74) (i : Int), 0 ≤ i → idxF p l i = -1 ∨ (i ≤ idxF p l i ∧ idxF p l i < i + l.length) := by
  intro l
  induction l with
  | nil => intro i _; exact .inl rfl
  | cons x t ih =>
    intro i hi
    unfold idxF
    by_cases h : p x.f0 = true
    · rw [if_pos h]; right; simp only [List.length_cons]; omega
    · rw [if_neg h]
      rcases ih (i + 1) (by omega) with h1 | h1
      · exact .inl h1
      · right; simp only [List.length_cons]; omega
def contentM (l : List S74) (a : ByteArray) : List Int × Bool := if diskM l = true then (if idxF (isN a) l 0 < 0 then ([], false) else ((rd_T74 l (idxF (isN a) l 0)).f1 ++ (rd_T74 l (idxF (isN a) l 0)).f2, true)) else ([], false)
theorem at_bd (l : List S74) (hw : wfD l) (i : Int) (h0 : 0 ≤ i) (h1 : i < l.length) : (rd_T74 l i).f1.length ≤ 1048576 ∧ (rd_T74 l i).f2.length ≤ 1048576 := by
  obtain ⟨n, rfl⟩ := Int.eq_ofNat_of_zero_le h0
  have hn : n < l.length := by omega
  rw [rd74 l n hn]
  exact (hw _ (List.getElem_mem hn)).2
theorem content_le (l : List S74) (a : ByteArray) (hw : wfD l) : (contentM l a).1.length ≤ 2097152 := by
  unfold contentM
  by_cases h : diskM l = true
  · rw [if_pos h]
    by_cases h2 : idxF (isN a) l 0 < 0
    · rw [if_pos h2]; simp
    · rw [if_neg h2]
      have := idxF_bd (isN a) l 0 (by omega)
      have := at_bd l hw (idxF (isN a) l 0) (by omega) (by omega)
      rw [List.length_append]
      omega
  · rw [if_neg h]; simp
theorem spec_content (l : List S74) (a : ByteArray) (hl : l.length ≤ 1048576) (hw : wfD l) : Ev (fun k => spec_Content.f k l a) (contentM l a) := by
  unfold spec_Content.f contentM
  simp only [EvB (find_ev l a hl), EvB (spec_disk l hl hw)]
  have hb := idxF_bd (isN a) l 0 (by omega)
  generalize idxF (isN a) l 0 = i at hb ⊢
  by_cases h : diskM l = true
  · by_cases h2 : i < 0
    · simp only [if_pos h, if_pos h2]; exact EvN
    · have hr := at_bd l hw i (by omega) (by omega)
      simp only [if_pos h, if_neg h2, if_pos (show 0 ≤ i by omega), if_pos (show i < (l.length : Int) by omega), EvB (joinS (rd_T74 l i).f1 (rd_T74 l i).f2 (by omega) (by omega))]
      exact EvN
  · simp only [if_neg h]; exact EvN
theorem lt47 (n m : Nat) (h : n ≤ 1000000000) (h' : m ≤ 1000000000) : n + m < 140737488355328 := by omega
theorem impl_content (l : List S74) (a : ByteArray) (hl : l.length ≤ 1048576) (hw : wfD l) : Ev (fun k => impl_Content.f k l a) (contentM l a) := by
  unfold impl_Content.f contentM
  have hf : impl_fileOf.f l a = some (idxF (isN a) l 0) := by unfold impl_fileOf.f; rw [if_pos (by omega)]; rfl
  simp only [hf, Option.bind_some, EvB (impl_disk l hl hw)]
  have hb := idxF_bd (isN a) l 0 (by omega)
  generalize idxF (isN a) l 0 = i at hb ⊢
  by_cases h : diskM l = true
  · by_cases h2 : i < 0
    · simp only [if_pos h, if_pos h2]; exact EvN
    · have hr := at_bd l hw i (by omega) (by omega)
      have hc : impl_File_content.f (rd_T74 l i).f0 (rd_T74 l i).f1 (rd_T74 l i).f2 = some ((rd_T74 l i).f1 ++ (rd_T74 l i).f2) := by
        unfold impl_File_content.f
        rw [Option.bind_some, if_pos (lt47 _ _ (by simp) (by omega)), Option.bind_some, if_pos (lt47 _ _ (by simp; omega) (by omega)), List.nil_append]
      simp only [if_pos h, if_neg h2, if_pos (show 0 ≤ i by omega), if_pos (show i < (l.length : Int) by omega), hc, Option.bind_some]
      exact EvN
  · simp only [if_neg h]; exact EvN
end Go.Proofs.YtmgeffgcihfpcaaDoor.DK

namespace Go.Proofs.YtmgeffgcihfpcaaDoor.BY
set_option linter.unusedVariables false
set_option linter.unusedSimpArgs false
open Go.RowKit Go.Proofs.YtmgeffgcihfpcaaDoor.F Go.Proofs.YtmgeffgcihfpcaaDoor.PK Go.Proofs.YtmgeffgcihfpcaaDoorW.PrintWords Go.Proofs.YtmgeffgcihfpcaaDoorW.PrintLast
theorem markByteS (l : List Int) (hl : l.length ≤ 9000000000000000000) (a : Int) (ha : 0 ≤ a) (hla : a + l.length ≤ 9223372036854775807) : ∃ (m : Int) (l' : List Int), Ev (fun k => laws_markByteS.f k l a) (m, l') ∧ m = a + l.length ∧ l'.length = l.length ∧ Ev (fun k => laws_heldByteS.f k l' a) m := by
  have key : ∀ (d i : Nat), d + i = l.length → ∀ (x : List Int) (b : Int), x.length = l.length → b = a + i → ∃ l', Ev (fun k => laws_markByteS.l0 k x b i) (a + l.length, l') ∧ l'.length = l.length ∧ (∀ j, j < i → l'[j]? = x[j]?) ∧ Ev (fun k => laws_heldByteS.l0 k l' b i) (a + l.length) := by
    intro d
    induction d with
    | zero =>
      intro i hi x b hx hb
      have hi : i = l.length := by omega
      subst hi
      subst hb
      exact ⟨x, EvS (by simp only [laws_markByteS.l0, hx, Int.lt_irrefl, if_false]; exact EvN), hx, fun _ _ => rfl, EvS (by simp only [laws_heldByteS.l0, hx, Int.lt_irrefl, if_false]; exact EvN)⟩
    | succ d ih =>
      intro i hi x b hx hb
      have hw : wrap64 (b + 1) = b + 1 := w64 (by omega) (by omega)
      obtain ⟨l', h1, h2, h3, h4⟩ := ih (i + 1) (by omega) (x.set i (b % 256)) (b + 1) (by simpa using hx) (by omega)
      have hli : i < l'.length := by omega
      have he : l'[i] = b % 256 := by
        have := h3 i (by omega)
        rw [List.getElem?_set_self (by omega), List.getElem?_eq_getElem hli] at this
        exact Option.some.inj this
      refine ⟨l', EvS ?_, h2, fun j hj => ?_, EvS ?_⟩
      · simp only [laws_markByteS.l0, if_pos (show (i : Int) < (x.length : Int) by omega), if_pos (show 0 ≤ (i : Int) by omega), hw, Int.toNat_natCast, nxt i l.length (by omega) (by omega)]
        exact h1
      · rw [h3 j (by omega), List.getElem?_set_ne (by omega)]
      · simp only [laws_heldByteS.l0, if_pos (show (i : Int) < (l'.length : Int) by omega), if_pos (show 0 ≤ (i : Int) by omega), hw, rd_at l' i hli, he, if_true, nxt i l.length (by omega) (by omega)]
        exact h4
  obtain ⟨l', h1, h2, _, h4⟩ := key l.length 0 (by omega) l a rfl (by omega)
  exact ⟨_, l', h1, rfl, h2, h4⟩
end Go.Proofs.YtmgeffgcihfpcaaDoor.BY

namespace Go.Proofs.YtmgeffgcihfpcaaDoor.MT
set_option linter.unusedVariables false
set_option linter.unusedSimpArgs false
open Go.RowKit Go.Proofs.YtmgeffgcihfpcaaDoor.F Go.Proofs.YtmgeffgcihfpcaaDoor.PK Go.Proofs.YtmgeffgcihfpcaaDoorW.PrintWords Go.Proofs.YtmgeffgcihfpcaaDoorW.PrintLast
theorem strOf1 (x : Int) : (strOfNums [x]).size = 1 := rfl
theorem markText (x : Int) (h : x ≤ 9223372036854775807) : ∃ s, Ev (fun k => laws_markText.f k x) s := by
  have key : ∀ (d : Nat) (x : Int) (s : ByteArray), x < 10 ^ d → s.size + d ≤ 30 → ∃ r, Ev (fun k => laws_markText.l0 k x s) r := by
    intro d
    induction d with
    | zero =>
      intro x s hx hs
      have hS : (1 + s.size ≤ 9223372036854775807) = True := eq_true (by omega)
      refine ⟨(⟨#[109]⟩ : ByteArray) ++ s, EvS ?_⟩
      simp only [laws_markText.l0, if_neg (show ¬ x > 0 by simp at hx; omega), hS, if_true]
      exact EvN
    | succ d ih =>
      intro x s hx hs
      have hS : (1 + s.size ≤ 9223372036854775807) = True := eq_true (by omega)
      by_cases h0 : x > 0
      · have h10 : (10 : Int) ^ (d + 1) = 10 * 10 ^ d := by rw [Int.pow_succ, Int.mul_comm]
        have hq : Int.tdiv x 10 = x / 10 := Int.tdiv_eq_ediv_of_nonneg (by omega)
        obtain ⟨r, hr⟩ := ih (wrap64 (x / 10)) (strOfNums [(wrap64 (48 + (Int.tmod x 10))) % 256] ++ s) (by unfold wrap64; omega) (by rw [ByteArray.size_append, strOf1]; omega)
        refine ⟨r, EvS ?_⟩
        simp only [laws_markText.l0, if_pos h0, Option.bind_some, strOf1, hS, if_true, hq]
        exact hr
      · refine ⟨(⟨#[109]⟩ : ByteArray) ++ s, EvS ?_⟩
        simp only [laws_markText.l0, if_neg h0, hS, if_true]
        exact EvN
  by_cases h0 : x ≤ 0
  · exact ⟨⟨#[109, 48]⟩, by unfold laws_markText.f; simp only [if_pos h0]; exact EvN⟩
  · have h19 : (10 : Int) ^ 19 = 10000000000000000000 := by decide
    obtain ⟨r, hr⟩ := key 19 x ⟨#[]⟩ (by omega) (show 0 + 19 ≤ 30 by omega)
    exact ⟨r, by unfold laws_markText.f; simp only [if_neg h0]; exact hr⟩
end Go.Proofs.YtmgeffgcihfpcaaDoor.MT

namespace Go.Proofs.YtmgeffgcihfpcaaDoor.DK
set_option linter.unusedVariables false
set_option linter.unusedSimpArgs false
open Go.RowKit Go.Proofs.YtmgeffgcihfpcaaDoor.F Go.Proofs.YtmgeffgcihfpcaaDoor.PK Go.Proofs.YtmgeffgcihfpcaaDoorW.PrintWords Go.Proofs.YtmgeffgcihfpcaaDoorW.PrintLast Go.Proofs.YtmgeffgcihfpcaaDoorW.PrintMore
open Go.Proofs.YtmgeffgcihfpcaaDoor.BY (markByteS)
open Go.Proofs.YtmgeffgcihfpcaaDoor.MT (markText)
theorem markFS0 (B : Nat) (hB : B ≤ 3000000) : ∀ (d i : Nat) (x : List S74) (a : Int), d + i = x.length → x.length ≤ 3000000 → (∀ y ∈ x, 1 + y.f1.length + y.f2.length ≤ B) → 0 ≤ a → a + d * B ≤ 3900000000000000 →
    ∃ (m : Int) (x' : List S74), Ev (fun k => laws_markFileS.l0 k x a i) (m, x') ∧ a ≤ m ∧ m ≤ a + d * B ∧ x'.length = x.length := by
  intro d
  induction d with
  | zero =>
    intro i x a hi hx hy h0 h1
    have hi : i = x.length := by omega
    subst hi
    exact ⟨a, x, EvS (by simp only [laws_markFileS.l0, Int.lt_irrefl, if_false]; exact EvN), Int.le_refl _, by omega, rfl⟩
  | succ d ih =>
    intro i x a hi hx hy h0 h1
    have hix : i < x.length := by omega
    have hyi := hy _ (List.getElem_mem hix)
    have hq : ((d + 1 : Nat) : Int) * (B : Int) = (d : Int) * (B : Int) + (B : Int) := by rw [Int.natCast_succ, Int.add_mul, Int.one_mul]
    have hdn : (0 : Int) ≤ (d : Int) * (B : Int) := Int.mul_nonneg (by omega) (by omega)
    rw [hq] at h1
    have hw : wrap64 (a + 1) = a + 1 := w64 (by omega) (by omega)
    obtain ⟨s, hs⟩ := markText a (by omega)
    obtain ⟨b, n', a1, a2, a3, a4⟩ := markByteS x[i].f1 (by omega) (a + 1) (by omega) (by omega)
    obtain ⟨c, w', b1, b2, b3, b4⟩ := markByteS x[i].f2 (by omega) b (by omega) (by omega)
    obtain ⟨m, x', f1, f2, f3, f4⟩ := ih (i + 1) (x.set i ⟨s, n', w'⟩) c (by simp; omega) (by simpa using hx) (fun y hmem => by
      rcases List.mem_or_eq_of_mem_set hmem with h | rfl
      · exact hy y h
      · simp only [a3, b3]; exact hyi) (by omega) (by omega)
    refine ⟨m, x', EvS ?_, by omega, by rw [hq]; omega, by simpa using f4⟩
    simp only [laws_markFileS.l0, if_pos (show (i : Int) < (x.length : Int) by omega), if_pos (show 0 ≤ (i : Int) by omega), EvB hs, rd74 x i hix, hw, EvB a1, EvB b1, Int.toNat_natCast, nxt i x.length hix (by omega)]
    exact f1
theorem markDisk0 (B : Nat) (x : List S74) (hB : B ≤ 3000000) (hx : x.length ≤ 3000000) (hs : 1 + (x.length : Int) * B ≤ 3900000000000000) (hy : ∀ y ∈ x, 1 + y.f1.length + y.f2.length ≤ B) : ∃ (m : Int) (x' : List S74), Ev (fun k => laws_markDisk.f k x 1) (m, x') ∧ 1 ≤ m := by
  obtain ⟨m, x', h1, h2, _, _⟩ := markFS0 B hB x.length 0 x 1 rfl hx hy (by omega) hs
  exact ⟨m, x', h1, h2⟩
end Go.Proofs.YtmgeffgcihfpcaaDoor.DK

namespace Go.Proofs.YtmgeffgcihfpcaaDoor.Pure
set_option linter.unusedVariables false
set_option linter.unusedSimpArgs false
open Go.RowKit Go.Proofs.YtmgeffgcihfpcaaDoor.F Go.Proofs.YtmgeffgcihfpcaaDoor.PK Go.Proofs.YtmgeffgcihfpcaaDoorW.PrintWords Go.Proofs.YtmgeffgcihfpcaaDoorW.PrintLast
open Go.Proofs.YtmgeffgcihfpcaaDoor.DK Go.Proofs.YtmgeffgcihfpcaaDoor.BY
theorem FnExactContent (l0_0 : List (S101)) (a1 : ByteArray) (hw0 : l0_0.length ≤ 9223372036854775807 ∧ ∀ y_ ∈ l0_0, ((y_.f0.size ≤ 9223372036854775807) ∧ (y_.f1.length ≤ 9223372036854775807 ∧ ∀ z_ ∈ y_.f1, ((Lit.int .u8 z_).wf = true)) ∧ (y_.f2.length ≤ 9223372036854775807 ∧ ∀ z_ ∈ y_.f2, ((Lit.int .u8 z_).wf = true)))) (hw1 : a1.size ≤ 9223372036854775807) : ∃ k, laws_FnExactContent.f k l0_0 a1 = some true := by
  refine EvE ?_
  unfold laws_FnExactContent.f
  by_cases h0 : (a1.size : Int) > 1048576
  · simp only [if_pos h0]; exact EvN
  obtain ⟨t, h1, h3⟩ := szDisk l0_0 hw0.1 (fun y hy => ⟨(hw0.2 y hy).1, (hw0.2 y hy).2.1.1, (hw0.2 y hy).2.2.1⟩)
  simp only [if_neg h0, EvB h1]
  by_cases h : t < 0
  · simp only [if_pos h]; exact EvN
  have h3 := h3 (by omega)
  have hT := toDisk l0_0 h3.1 h3.2
  have hw : wfD (l0_0.map conv101) := fun r hr => by
    obtain ⟨y, hy, rfl⟩ := List.mem_map.1 hr
    exact ⟨(hw0.2 y hy).1, h3.2 y hy⟩
  have hl : (l0_0.map conv101).length ≤ 1048576 := by rw [List.length_map]; exact h3.1
  generalize l0_0.map conv101 = l at hT hw hl
  have hS := spec_content l a1 hl hw
  have hI := impl_content l a1 hl hw
  have hc := content_le l a1 hw
  generalize contentM l a1 = r at hS hI hc
  obtain ⟨b, q⟩ := r
  simp only at hc
  have hE := eqDisk l (by omega) (fun y hy => by have := hw y hy; omega)
  have hQ := eqByteS b (by omega)
  have hm : (l.length : Int) * ((2097153 : Nat) : Int) ≤ 1048576 * 2097153 := Int.mul_le_mul (by omega) (by omega) (by omega) (by omega)
  obtain ⟨m, l', m1, m2⟩ := markDisk0 2097153 l (by omega) (by omega) (by omega) (fun y hy => by have := hw y hy; omega)
  obtain ⟨n, b', q1, q2, q3, q4⟩ := markByteS b (by omega) 1 (by omega) (by omega)
  simp only [if_neg h, EvB hT, EvB hS, EvB hI, EvB hQ, if_true, EvB hE, EvB m1, if_neg (show ¬ m < 0 by omega), EvB q1, EvB q4, if_neg (show ¬ n < 0 by omega)]
  exact EvN
end Go.Proofs.YtmgeffgcihfpcaaDoor.Pure

namespace Go.Proofs.YtmgeffgcihfpcaaDoor.Opens
set_option linter.unusedVariables false
set_option linter.unusedSimpArgs false
open Go.RowKit Go.Proofs.YtmgeffgcihfpcaaDoorW.PrintWords
/-- What reads at type t is of kind d, and meets ok. -/
def Opens (P : Program) (t : TypeId) {α : Type} (d : Kd α) (ok : α → Prop) : Prop :=
  P.cellsOf t = d.sz ∧ ∀ (H : Type) (enc : TypeId × Value → H) (w : World) (spare : Nat → Bool) (fuel : Nat) (cs : List Value) (x : DataW H × List MemPlace), DataW.trod enc P w 0 spare true fuel t cs = some x → ∃ a : α, d.K w a cs ∧ ok a
variable {P : Program}
theorem opens_int {t : TypeId} {k : IntKind} (ht : P.underlying t = some (.int k)) (hc : P.cellsOf t = 1) : Opens P t (Kd.int k) (fun a => (Lit.int k a).wf = true) :=
  ⟨hc, fun _ _ _ _ _ _ _ h => by
    obtain ⟨n, rfl, _, hw⟩ := DataW.trod_int ht h
    exact ⟨n, rfl, hw⟩⟩
theorem opens_bool {t : TypeId} (ht : P.underlying t = some .bool) (hc : P.cellsOf t = 1) : Opens P t Kd.bool (fun _ => True) :=
  ⟨hc, fun _ _ _ _ _ _ _ h => by
    obtain ⟨n, rfl, _⟩ := DataW.trod_bool ht h
    exact ⟨n, rfl, trivial⟩⟩
theorem opens_string {t : TypeId} (ht : P.underlying t = some .string) (hc : P.cellsOf t = 1) : Opens P t Kd.string (fun a => a.size ≤ 9223372036854775807) :=
  ⟨hc, fun _ _ _ _ _ _ _ h => by
    obtain ⟨n, rfl, _, hw⟩ := DataW.trod_string ht h
    exact ⟨n, rfl, hw⟩⟩
theorem add_add (a : Addr) (i j : Nat) : (a.add i).add j = a.add (i + j) := by
  unfold Addr.add
  by_cases hi : i = 0 <;> by_cases hj : j = 0 <;> simp [hi, hj, Nat.add_assoc]
theorem opens_slice {t e : TypeId} {α : Type} {d : Kd α} {ok : α → Prop} (ht : P.underlying t = some (.slice e)) (hc : P.cellsOf t = 1) (hd : Opens P e d ok) :
    Opens P t (Kd.slice e d) (fun l => l.length ≤ 9223372036854775807 ∧ ∀ a ∈ l, ok a) :=
  ⟨hc, fun H enc w spare fuel cs x h => by
    rcases Deep.open_slice ht h with ⟨rfl, _⟩ | ⟨a, len, cap, m, n, D, Pl, rfl, _, hl, hm, hmm, hxx, hx⟩
    · exact ⟨[], ⟨none, 0, rfl, Nat.le_refl _, rfl, Nat.zero_le _, fun h => absurd h (Nat.lt_irrefl _)⟩, Nat.zero_le _, fun _ h => nomatch h⟩
    · have hlm : len ≤ m := by rw [hmm]; split <;> omega
      have hex : ∀ i, i < len → ∃ b : α, ∃ cs', w.cells? 0 (a.add (i * P.cellsOf e)) (P.cellsOf e) = some cs' ∧ d.K w b cs' ∧ ok b := fun i hi => by
        obtain ⟨cs', h1, h2⟩ := hx i (Nat.lt_of_lt_of_le hi hlm)
        obtain ⟨b, hb⟩ := hd.2 H enc w spare n cs' _ h2
        exact ⟨b, cs', h1, hb.1, hb.2⟩
      have hml : len ≤ 9223372036854775807 := by unfold maxLen at hm; omega
      obtain ⟨l, hll, hat⟩ : ∃ l : List α, l.length = len ∧ ∀ i p, l[i]? = some p → ∃ cs', w.cells? 0 (a.add (i * P.cellsOf e)) (P.cellsOf e) = some cs' ∧ d.K w p cs' ∧ ok p := by
        clear hx hlm hmm hl hm hml hxx h
        induction len with
        | zero => exact ⟨[], rfl, fun i p h => by simp at h⟩
        | succ len ih =>
          obtain ⟨l, hll, hat⟩ := ih (fun i hi => hex i (Nat.lt_succ_of_lt hi))
          obtain ⟨b, hb⟩ := hex len (Nat.lt_succ_self _)
          refine ⟨l ++ [b], by simp [hll], fun i p h => ?_⟩
          rcases Nat.lt_or_ge i l.length with hi | hi
          · rw [List.getElem?_append_left hi] at h
            exact hat i p h
          · rw [List.getElem?_append_right hi] at h
            have hi0 : i - l.length = 0 := by
              rcases Nat.eq_zero_or_pos (i - l.length) with h0 | h0
              · exact h0
              · rw [List.getElem?_eq_none (by simp; omega)] at h
                cases h
            rw [hi0] at h
            have : b = p := by simpa using h
            subst this
            have : i = len := by omega
            subst this
            exact hb
      subst hll
      refine ⟨l, ⟨some a, cap, rfl, hl, rfl, hml, fun _ => ⟨a, rfl, fun j p hj => ?_⟩⟩, hml, fun b hb => ?_⟩
      · obtain ⟨cs', h1, hk, _⟩ := hat j p hj
        obtain ⟨_, hlen, hcell⟩ := World.cells?_some h1
        refine ⟨cs', hlen.trans hd.1, hk, fun i u hu => ?_⟩
        have hi : i < P.cellsOf e := by
          have := (List.getElem?_eq_some_iff.1 hu).1
          omega
        have := hcell i hi
        rw [hu, add_add, hd.1] at this
        exact this
      · obtain ⟨i, hi⟩ := List.getElem?_of_mem hb
        obtain ⟨_, _, _, hok⟩ := hat i b hi
        exact hok⟩
/-- The fields of a struct from an offset on. -/
def OpensF (P : Program) (fs : List Field) (off : Nat) {α : Type} (d : Kd α) (ok : α → Prop) : Prop :=
  ∀ (H : Type) (enc : TypeId × Value → H) (w : World) (spare : Nat → Bool) (n : Nat) (cs : List Value), (∀ f, f ∈ fs → ∃ y, DataW.trod enc P w 0 spare true n f.type ((cs.drop f.offset).take (P.cellsOf f.type)) = some y) → cs.length = off + d.sz → ∃ a : α, d.K w a (cs.drop off) ∧ ok a
theorem opens_last {f : Field} {off : Nat} {α : Type} {d : Kd α} {ok : α → Prop} (ho : f.offset = off) (hd : Opens P f.type d ok) : OpensF P [f] off d ok := fun H enc w spare n cs hf hl => by
  obtain ⟨y, hy⟩ := hf f (List.mem_singleton.2 rfl)
  rw [ho, List.take_of_length_le (by rw [List.length_drop, hl, hd.1]; omega)] at hy
  exact hd.2 H enc w spare n _ y hy
theorem opens_field {f : Field} {fs : List Field} {off : Nat} {α β : Type} {d : Kd α} {d' : Kd β} {ok : α → Prop} {ok' : β → Prop} (ho : f.offset = off) (hd : Opens P f.type d ok) (hr : OpensF P fs (off + d.sz) d' ok') :
    OpensF P (f :: fs) off (Kd.pair d d') (fun p => ok p.1 ∧ ok' p.2) := fun H enc w spare n cs hf hl => by
  obtain ⟨y, hy⟩ := hf f (List.mem_cons_self ..)
  have hz : (Kd.pair d d').sz = d.sz + d'.sz := rfl
  rw [ho, hd.1] at hy
  obtain ⟨a, ha, hoa⟩ := hd.2 H enc w spare n _ y hy
  obtain ⟨b, hb, hob⟩ := hr H enc w spare n cs (fun g hg => hf g (List.mem_cons_of_mem _ hg)) (by omega)
  refine ⟨(a, b), ⟨(cs.drop off).take d.sz, cs.drop (off + d.sz), ?_, ha, hb⟩, hoa, hob⟩
  rw [← List.drop_drop, List.take_append_drop]
theorem opens_struct {t : TypeId} {fs : Array Field} {α : Type} {d : Kd α} {ok : α → Prop} (ht : P.underlying t = some (.struct fs)) (hc : P.cellsOf t = d.sz) (hf : OpensF P fs.toList 0 d ok) : Opens P t d ok :=
  ⟨hc, fun H enc w spare fuel cs x h => by
    obtain ⟨xs, n, _, _, hlen, hxs, hi⟩ := DataW.trod_struct ht h
    have := hf H enc w spare n cs (fun f hm => by
      obtain ⟨i, hi'⟩ := List.getElem?_of_mem hm
      have hq := hi i f (by simpa using hi')
      have hlt : i < xs.length := by
        have := (List.getElem?_eq_some_iff.1 hi').1
        rw [hxs]
        simpa using this
      rw [List.getElem?_eq_getElem hlt] at hq
      exact ⟨_, hq⟩) (by omega)
    simpa using this⟩
/-- The same over another type of values. -/
theorem opens_iso {t : TypeId} {α β : Type} {d : Kd α} {ok : α → Prop} (f : β → α) (g : α → β) (hfg : ∀ a, f (g a) = a) (h : Opens P t d ok) : Opens P t (Kd.iso d f) (fun b => ok (f b)) :=
  ⟨h.1, fun H enc w spare fuel cs x hx => by
    obtain ⟨a, ha, hok⟩ := h.2 H enc w spare fuel cs x hx
    exact ⟨g a, by show d.K w (f (g a)) cs; rw [hfg]; exact ha, by show ok (f (g a)); rw [hfg]; exact hok⟩⟩
theorem opens_imp {t : TypeId} {α : Type} {d : Kd α} {ok ok' : α → Prop} (h : Opens P t d ok) (hi : ∀ a, ok a → ok' a) : Opens P t d ok' :=
  ⟨h.1, fun H enc w spare fuel cs x hx => by
    obtain ⟨a, ha, hok⟩ := h.2 H enc w spare fuel cs x hx
    exact ⟨a, ha, hi a hok⟩⟩
end Go.Proofs.YtmgeffgcihfpcaaDoor.Opens

namespace Go.Proofs.YtmgeffgcihfpcaaDoor.fnExactContent
open Go.ChangeShapes Go.WideShapes Go.ChangeAt Go.RowKit
open Go.ChangeMaps (open_string shut_string)
open Go.Proofs.YtmgeffgcihfpcaaDoor.Opens Go.Proofs.YtmgeffgcihfpcaaDoor.F Go.Proofs.YtmgeffgcihfpcaaDoorW.PrintWords
set_option linter.unusedVariables false
theorem own : ownKnob Tryd.prog.godebug = none := by kernel_rfl
theorem laidOut : laidOutB Tryd.prog = true := by kernel_rfl
set_option maxHeartbeats 1000000 in
set_option maxRecDepth 100000 in
theorem lifted (os : Os) (started : os.Started) (H : Type) (enc : TypeId × Value → H) :
    ReturnsInHanded {} Tryd.checked os 4 .any (fun w args => (Rows.fnExactContentSpec.pre enc Tryd.prog Tryd.f4 Rows.fnExactContentRow.domain false w args ∧ laidMetH Tryd.prog Rows.fnExactContentRow.laid w) ∧ sizedMet enc Tryd.prog Tryd.f4 (OpenSpec.ofChange Rows.fnExactContentSpec) false w args)
      (Rows.fnExactContentSpec.post enc Tryd.prog Tryd.f4 false true false false) := by
  refine returnsInHanded_of_change_and (C := Tryd.checked) (X := fun w _ => laidMetH Tryd.prog Rows.fnExactContentRow.laid w) (fun _ _ _ hh h => h.of_heap hh) own started (by kernel_rfl) Tryd.func4
    (ChangeSpec.witness_shaped (enc := enc) (C := Tryd.checked) (os := os) (X := fun w _ => laidMetH Tryd.prog Rows.fnExactContentRow.laid w) false (World.laidAll Tryd.prog os Rows.fnExactContentRow.laid) #[.agg #[.slice none 0 0], .string ByteArray.empty] 8 (World.laidAll_os _ _ _)
      (World.shaped_of_ZipB (by kernel_rfl) (by kernel_rfl)) (by kernel_rfl) (by kernel_rfl) (by kernel_rfl)
      (by rw [MakeChecks.laidMetH_plain _ _ _ (by kernel_rfl)]; exact laidMet_laidAll _ (by kernel_rfl) (by kernel_rfl))) ?_
  intro W base args ds gs before hval0 hW hcnd hsz0 hL _
  have hval : ∀ (j : Nat) t v, Tryd.f4.params[j]? = some t → args[j]? = some v → Value.okWide Tryd.prog W .any base t v := hval0
  have hW' := hW
  obtain ⟨p, q, hA0, hV, rfl, hfz, hnd⟩ := hW
  have hA : DataW.TrodAll enc Tryd.prog W 0 (fun _ => true) true Tryd.f4.params.toList args.toList ds p := hA0
  rw [Tryd.params4] at hA hval
  obtain ⟨v0, vs0, d0, ds0, p0, q0, hargs, rfl, rfl, h0, r0⟩ := trodAll_cons hA
  obtain ⟨v1, vs1, d1, ds1, p1, q1, rfl, rfl, rfl, h1, r1⟩ := trodAll_cons r0
  obtain ⟨rfl, rfl, rfl⟩ := trodAll_nil r1
  obtain rfl : args = #[v0, v1] := by cases args; simp_all
  obtain ⟨rfl, rfl⟩ := trodVars_none hV
  obtain ⟨cs0, rfl, hsz0⟩ := okWide_struct Tryd.underlying24 (hval 0 24 v0 rfl rfl)
  have k0 := h0
  have lt0 : ∀ x ∈ p0, x.block < W.heap.size := by obtain ⟨m, hm⟩ := k0; exact DataW.trod_lt m _ _ _ hm
  obtain ⟨fu0, hf0⟩ := h0
  obtain ⟨l0_0, ⟨A0_0, c0_0, hcs0, hc0_0, hr0_0⟩, hw0_0⟩ := (opens_struct Tryd.underlying24 (by kernel_rfl) (opens_last rfl (opens_slice Tryd.underlying22 (by kernel_rfl) (show Opens _ 101 k101 _ from opens_iso (fun x : S101 => (x.f0, x.f1, x.f2)) (fun p => ⟨p.1, p.2.1, p.2.2⟩) (fun _ => rfl) (opens_struct Tryd.underlying101 (by kernel_rfl) (opens_field rfl (opens_string Tryd.underlying9 (by kernel_rfl)) (opens_field rfl (opens_slice Tryd.underlying33 (by kernel_rfl) (opens_int Tryd.underlying5 (by kernel_rfl))) (opens_last rfl (opens_slice Tryd.underlying33 (by kernel_rfl) (opens_int Tryd.underlying5 (by kernel_rfl))))))))))).2 _ _ _ _ _ _ _ hf0
  obtain rfl : cs0 = #[.slice A0_0 l0_0.length c0_0] := by
    cases cs0
    simpa [Value.cells] using hcs0
  obtain ⟨a1, rfl, rfl, rfl, hw1⟩ := open_string Tryd.underlying9 (hval 1 9 v1 rfl rfl) h1
  clear hA0 hval0
  obtain ⟨k, h⟩ := (Pure.FnExactContent : _) l0_0 a1 hw0_0 hw1
  refine (laws_FnExactContent.calls k _ _ l0_0 a1 true W hr0_0 hc0_0 h).mono fun e W' ⟨he, bel⟩ => ?_
  subst he
  exact ⟨_, rfl, _, _, _, [], _, [], hW', trodAll_mk1 (shut_bool Tryd.underlying4 _), (trodAll_cons_mk (Below.trod laidOut (by kernel_rfl) (of_decide_eq_true (by kernel_rfl)) k0 bel lt0) (trodAll_cons_mk (shut_string Tryd.underlying9 hw1) trodAll_mk0)), rfl, bel.frame _, fun h => by cases h⟩
theorem over : Rows.fnExactContentRow.holds Tryd.pinned (OpenSpec.ofChange Rows.fnExactContentSpec) :=
  OpenClaim.holds_of_wide 4 Tryd.f4 rfl rfl rfl rfl rfl rfl rfl ⟨rfl, rfl, rfl, rfl, rfl⟩ rfl rfl rfl rfl rfl (by kernel_rfl) Tryd.func4 (by kernel_rfl)
    (of_decide_eq_true (by kernel_rfl)) (by unfold Func.isWrapper; first | (rw [if_pos (by decide +kernel)]; kernel_rfl) | (rw [if_neg (by decide +kernel)]; exact ⟨rfl, rfl⟩))
    (fun os started H enc _ => lifted os started H enc)
theorem proved : Rows.FnExactContentSaid := over
theorem card : Rows.FnExactContentCardSaid :=
  Claim7.holds_tied_plain_at .later [] [.data, .pinned] true (true, "0d237fb825eb718256397f307b5ffec76eaf7c8950bef828907dadf65337cff5") false over (fun _ h => by cases h) (by kernel_rfl) (fun _ h => by cases h) fnExactContent_row_tie rfl ⟨rfl, rfl⟩ (by kernel_rfl) rfl
    (fun f fn hf hfn => by
      obtain rfl : f = 4 := Option.some.inj ((show Tryd.prog.funcNamed "loop.example/g00138/laws.FnExactContent" = some 4 by kernel_rfl).symm.trans hf) |>.symm
      obtain rfl : fn = Tryd.f4 := (Option.some.inj (Tryd.func4.symm.trans hfn)).symm
      exact ⟨by kernel_rfl, fun j t ht => by
        rw [Tryd.params4] at ht
        have hm : t ∈ [24, 9] := by simpa using Array.mem_of_getElem? ht
        have hall : ([24, 9].all fun u => !Tryd.prog.wantsStandIn u) = true := by kernel_rfl
        exact (show Tryd.prog.wantsStandIn t = false by simpa using List.all_eq_true.1 hall t hm)⟩)
    (by kernel_rfl)
#print axioms card
end Go.Proofs.YtmgeffgcihfpcaaDoor.fnExactContent
namespace Go.Proofs.YtmgeffgcihfpcaaDoor
/-- The row, under a short name, for the claim. -/
theorem fnExactContent_card : Rows.FnExactContentCardSaid := fnExactContent.card
end Go.Proofs.YtmgeffgcihfpcaaDoor
