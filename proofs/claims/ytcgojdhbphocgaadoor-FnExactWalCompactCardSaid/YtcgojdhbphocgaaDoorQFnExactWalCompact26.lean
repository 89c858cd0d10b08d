/- Merged texts below the law FnExactWalCompact: Go functions as Lean functions, their contracts, and plain lemmas. -/
import Derived.Test.YtcgojdhbphocgaaDoorQFnExactWalCompact23
import Derived.Shelf.Abstract
import Derived.Test.YtcgojdhbphocgaaDoorVFnExactWalCompactMore
import Derived.WalkKit
import Derived.Shelf.Strings.SlTrimAscii
import Derived.Test.YtcgojdhbphocgaaDoorVFnExactWalCompactF
namespace Go.Proofs.YtcgojdhbphocgaaDoor.F
open Go.RowKit Go.Proofs.YtcgojdhbphocgaaDoorW.PrintWords Go.Proofs.YtcgojdhbphocgaaDoorW.PrintLast Go.Proofs.YtcgojdhbphocgaaDoorW.PrintMore
set_option linter.unusedVariables false
set_option linter.unusedSimpArgs false
def PredF (g : Nat) (lb : Array Value) (p : ByteArray → Bool) (w : World) : Prop := ∀ w1 : World, Below w.heap.size w w1 → ∀ (s : ByteArray) (v1 v2 : Value), Calls Tryd.prog g (#[.agg #[.string s, v1, v2]] ++ lb) w1 fun e w' => e = .returned (.bool (p s)) ∧ Below w1.heap.size w1 w'
def idxF (p : ByteArray → Bool) : List S55 → Int → Int
  | [], _ => -1
  | x :: t, i => if p x.f0 = true then i else idxF p t (i + 1)
set_option maxHeartbeats 4000000 in
theorem indexFile.calls (g : Nat) (lb : Array Value) (p : ByteArray → Bool) (eg : ∀ args w, (callFunc g args).run Tryd.prog w = .ok (.enter g args) w) (A : Option Addr) (c : Nat) (l : List S55) (w : World) (hr : Kd.C k55 w A l.length l) (hl : l.length ≤ 9223372036854775807) (hp : PredF g lb p w) :
    Calls Tryd.prog 102 #[.slice A l.length c, .func (.func g) #[] lb] w fun e w' => e = .returned (.int .i64 (idxF p l 0)) ∧ Below w.heap.size w w' := by
  have HR0 := Zh hr
  clear hr
  have HP := Zh hp
  clear hp
  have hu55 := Tryd.underlying55
  go_enter Tryd.func102, Tryd.ntmps102
  go_wp2
  go_loopg [5, 8] l.length (fun gg _ v8 w' => ∃ kk : Nat, kk ≤ l.length ∧ l.length - kk ≤ gg ∧ v8 = .int .i64 kk ∧ Aside0 (Below w.heap.size w w') ∧ Aside0 (idxF p (l.drop kk) kk = idxF p l 0))
  case atStart => exact ⟨0, Nat.zero_le _, by omega, rfl, ⟨Below.refl _ _⟩, ⟨rfl⟩⟩
  case round =>
    obtain ⟨kk, hkk, hg, rfl, HB, HA⟩ := hrel
    by_cases hlt : kk < l.length
    · have hltz : (kk : Int) < (l.length : Int) := by omega
      obtain ⟨ad, A1, c1, A2, c2, e, hx0, hx1, hx2, _, _, _, _⟩ := at_T55 HR0.out (kk : Int) (by omega) (by omega)
      cases e
      replace hx0 := (HB.out.cell (Zi w _ hx0)).trans hx0
      replace hx1 := (HB.out.cell (Zi w _ hx1)).trans hx1
      replace hx2 := (HB.out.cell (Zi w _ hx2)).trans hx2
      rw [Int.toNat_natCast] at hx0 hx1 hx2
      have hrd : rd_T55 l (kk : Int) = l[kk] := by simp [rd_T55, List.getD_eq_getElem?_getD, List.getElem?_eq_getElem hlt]
      have hA := HA.out
      rw [List.drop_eq_getElem_cons hlt] at hA
      rw [hrd] at hx0 hx1 hx2
      clear HA hrd
      generalize l[kk] = y at hx0 hx1 hx2 hA
      have hcall := HP.out wr HB.out y.f0 (.slice A1 y.f1.length c1) (.slice A2 y.f2.length c2)
      cases hq : p y.f0 with
      | true =>
        simp only [idxF, hq, if_true] at hA
        rw [hq] at hcall
        have HA := Zh hA
        clear hA
        go_wp2_with (go_at_fn g; refine hcall.mono ?_; rintro e w' ⟨rfl, hb⟩; replace HB := Zh (Zl HB.out hb); clear hb)
        go_ret
        exact ⟨by rw [← HA.out]; rfl, HB.out⟩
      | false =>
        simp only [idxF, hq, Bool.false_eq_true, if_false] at hA
        rw [hq] at hcall
        have HA := Zh hA
        clear hA
        go_wp2_with (go_at_fn g; refine hcall.mono ?_; rintro e w' ⟨rfl, hb⟩; replace HB := Zh (Zl HB.out hb); clear hb)
        go_roundg (l.length - (kk + 1))
        case measure => omega
        case rel => exact ⟨kk + 1, by omega, by omega, by go_num, HB, ⟨by have := HA.out; simpa using this⟩⟩
    have hltz : ¬ (kk : Int) < (l.length : Int) := by omega
    have : kk = l.length := by omega
    subst this
    go_wp2
    go_ret
    refine ⟨?_, HB.out⟩
    rw [← HA.out, List.drop_length]
    rfl
set_option maxHeartbeats 4000000 in
theorem fileOf1.pred (B : Nat) (name : ByteArray) (w : World) (hb : w.cell? ⟨B, 0, none⟩ = some (.string name)) : PredF 103 #[.pointer (some ⟨B, 0, none⟩)] (fun s => s.toList == name.toList) w := by
  intro w1 hB s v1 v2
  have hlt := Nat.lt_of_lt_of_le (Zi w _ hb) hB.size
  have hx := (hB.cell (Zi w _ hb)).trans hb
  clear hb hB
  have hu55 := Tryd.underlying55
  have hlt2 : B < w1.heap.size := hlt
  clear hlt
  go_enter Tryd.func103, Tryd.ntmps103
  go_wp2
  go_ret
  exact ⟨rfl, Zf (Below.refl _ _) _⟩
def impl_fileOf.f (l0_0 : List S55) (a1 : ByteArray) : Option Int := if l0_0.length ≤ 9223372036854775807 then some (idxF (fun s => s.toList == a1.toList) l0_0 0) else none
set_option maxHeartbeats 4000000 in
theorem impl_fileOf.calls (A0_0 : Option Addr) (c0_0 : Nat) (l0_0 : List S55) (a1 : ByteArray) (r : Int) (w : World) (hr0_0 : Kd.C k55 w A0_0 l0_0.length l0_0) (hc0_0 : l0_0.length ≤ c0_0) (h : impl_fileOf.f l0_0 a1 = some r) :
    Calls Tryd.prog 74 #[.agg #[.slice A0_0 l0_0.length c0_0], .string a1] w fun e w' => e = .returned (.int .i64 r) ∧ Below w.heap.size w w' := by
  unfold impl_fileOf.f at h
  split at h
  · rename_i hl
    have h := Option.some.inj h
    subst h
    have HR := Zh hr0_0
    have HL := Zh hl
    clear hr0_0 hl
    have e6 : ∀ args w, (callFunc 102 args).run Tryd.prog w = .ok (.enter 102 args) w := enters_of Tryd.func102 (by kernel_rfl) rfl
    have e7 : ∀ args w, (callFunc 103 args).run Tryd.prog w = .ok (.enter 103 args) w := enters_of Tryd.func103 (by kernel_rfl) rfl
    have hmf : ∀ (fn : Fn) (first cap : Array Value) (w : World), (Instr.makeFunc fn first cap).run Tryd.prog w = .ok (.func fn first cap) w := fun _ _ _ _ => rfl
    have hcall := indexFile.calls 103 #[.pointer (some ⟨w.heap.size + 1, 0, none⟩)] (fun s => s.toList == a1.toList) e7 A0_0 c0_0 l0_0 ((w.alloc (.cells #[.slice A0_0 l0_0.length c0_0] 28)).alloc (.cells #[.string a1] 9)) (Kd.C_alloc (Kd.C_alloc HR.out _) _) HL.out (fileOf1.pred _ _ _ (by simp))
    go_enter Tryd.func74, Tryd.ntmps74
    go_wp2_with (go_at_fn 102; refine hcall.mono ?_; rintro e w' ⟨rfl, hb⟩)
    go_ret
    exact ⟨rfl, Zl (Zf (Zf (Below.refl _ _) _) _) hb⟩
  cases h
end Go.Proofs.YtcgojdhbphocgaaDoor.F

namespace Go.Proofs.YtcgojdhbphocgaaDoor.F
open Go.Proofs.YtcgojdhbphocgaaDoor
open Go.RowKit Go.Proofs.YtcgojdhbphocgaaDoorW.PrintWords Go.Proofs.YtcgojdhbphocgaaDoorW.PrintWords.Kd Go.Proofs.YtcgojdhbphocgaaDoorW.PrintMore.Kd Go.Proofs.YtcgojdhbphocgaaDoorW.PrintLast Go.Proofs.YtcgojdhbphocgaaDoorW.PrintMore
attribute [local go_sem] max2_int min2_int max_two min_two max_three min_three max_four min_four   -- for this text's walks alone
set_option linter.unusedVariables false
set_option linter.unusedSimpArgs false
def impl_copyDisk.l0 : Nat → List (S55) → Int → Int → List (S55) → Option ((List (S55)))
 | 0, _, _, _, _ => none
 | k + 1, x8, x9, x10, x187000 => if x10 < x9 then (if 0 ≤ x10 then (if x10 < (x8.length : Int) then ((some (([] : List Int) : List Int)).bind fun y189 => (if y189.length + ((rd_T55 x8 x10).f1).length < 140737488355328 then ((some (([] : List Int) : List Int)).bind fun y195 => (if y195.length + ((rd_T55 x8 x10).f2).length < 140737488355328 then (if x187000.length < 2199023255552 then (impl_copyDisk.l0 k x8 x9 (wrap64 (x10 + 1)) (x187000 ++ [(⟨(rd_T55 x8 x10).f0, (y189 ++ ((rd_T55 x8 x10).f1)), (y195 ++ ((rd_T55 x8 x10).f2))⟩ : S55)])) else (none)) else (none))) else (none))) else (none)) else (none)) else (some x187000)
def impl_copyDisk.f (k : Nat) (l0_0 : List (S55)) : Option ((List (S55))) := impl_copyDisk.l0 k l0_0 (l0_0.length : Int) 0 ([] : List (S55))
def impl_copyDisk.T5 : Bool × List (List Nat × List Nat) := (true, [([], []), ([0], [0]), ([], []), ([2], [2]), ([], []), ([], []), ([5], [5]), ([4, 6], [4, 6]), ([], []), ([], []), ([9], [9]), ([8, 10, 7], [8, 10]), ([3, 7, 11], [3, 7, 11]), ([12], [12]), ([1, 13, 11], [1, 13]), ([0, 1, 2, 3, 4, 5, 6, 7, 8, 9, 10, 11, 12, 13, 14], []), ([15, 14, 14, 0, 1, 2, 3, 4, 5, 6, 7, 8, 9, 10, 11, 12, 13, 14], [14, 15])])
def impl_copyDisk.B5 : List Nat := [0, 1, 0, 4, 0, 0, 32, 112, 0, 0, 512, 2032, 4092, 8188, 16383, 32767, 65535]
theorem impl_copyDisk.tab5 : rtab .any (opsOf Tryd.f56 5) = impl_copyDisk.T5 := by kernel_rfl
theorem impl_copyDisk.bits5 : waitsOk impl_copyDisk.T5.2 impl_copyDisk.B5 = true := by kernel_rfl
set_option maxHeartbeats 8000000 in
set_option maxRecDepth 100000 in
theorem impl_copyDisk.calls (k : Nat) (A0_0 : Option Addr) (c0_0 : Nat) (l0_0 : List (S55)) (r : List (S55)) (w : World) (hr0_0 : Kd.C k55 w A0_0 l0_0.length l0_0) (hc0_0 : l0_0.length ≤ c0_0) (h : impl_copyDisk.f k l0_0 = some r) :
  Calls Tryd.prog 56 #[.agg #[.slice A0_0 l0_0.length c0_0]] w fun e w' => ∃ v0_ : Value, e = .returned (.agg #[v0_]) ∧ Kd.S k55 55 w' w.heap.size (fun _ => True) v0_ r ∧ Below w.heap.size w w' := by
 have hu28 := Tryd.underlying28
 have hu55 := Tryd.underlying55
 have HR0_0 := Zh hr0_0
 have HC0_0 := Zh hc0_0
 clear hr0_0 hc0_0
 have HB := Zh (Below.refl w.heap.size w)
 have H : (impl_copyDisk.l0 k l0_0 (l0_0.length : Int) 0 ([] : List (S55))) = some r := h
 clear h
 have H' := Zh H
 clear H
 go_enter Tryd.func56, Tryd.ntmps56
 go_wp2_with (first | ((with_reducible refine gate_dst (N := 1) rfl ?_); refine box_event ?hg (N := 1) ?hd (cs := #[.slice A0_0 l0_0.length c0_0]) (t := 28) ?hr ?_; (case hd => rfl); (case hg => rfl); (case hr => first | (go_simp; done) | (go_simp; rfl)); intro gb184 hg w2 hbox hb; have n0_ := Zh (Zl Zs hb); have n1_ := Zh (hbox); have n2_ := Zh ((by rw [hg]; exact (below_size Zs) : w.heap.size ≤ gb184)); have n3_ := Zh ((by rw [hg]; exact (below_size Zs) : w.heap.size ≤ gb184)); clear HB; have HB := n0_; have BK184 := n1_; have GW184 := n2_; have GE184 := n3_; clear n0_ n1_ n2_ n3_; clear hb hbox hg) | ((with_reducible refine gate_dst (N := 2) rfl ?_); refine box_event ?hg (N := 2) ?hd (cs := #[.slice none 0 0]) (t := 28) ?hr ?_; (case hd => rfl); (case hg => rfl); (case hr => first | (go_simp; done) | (go_simp; rfl)); intro gb185 hg w3 hbox hb; have n0_ := Zh (Zm (g := gb184) (o := .cells #[.slice A0_0 l0_0.length c0_0] 28 (0, 0)) Zk hb); have n1_ := Zh (Zl Zs hb); have n2_ := Zh (hbox); have n3_ := Zh ((by rw [hg]; exact (below_size Zs) : w.heap.size ≤ gb185)); have n4_ := Zh ((by rw [hg]; exact (below_size Zs) : w.heap.size ≤ gb185)); have n5_ := Zh ((by rw [hg]; exact Nat.ne_of_lt (blk_lt (g := gb184) (o := .cells #[.slice A0_0 l0_0.length c0_0] 28 (0, 0)) Zk) : gb184 ≠ gb185)); have n6_ := Zh ((by rw [hg]; exact Nat.ne_of_gt (blk_lt (g := gb184) (o := .cells #[.slice A0_0 l0_0.length c0_0] 28 (0, 0)) Zk) : gb185 ≠ gb184)); clear BK184; clear HB; have BK184 := n0_; have HB := n1_; have BK185 := n2_; have GW185 := n3_; have GE185 := n4_; have NB184_185 := n5_; have NB185_184 := n6_; clear n0_ n1_ n2_ n3_ n4_ n5_ n6_; clear hb hbox hg) | ((with_reducible refine gate_dst (N := 3) rfl ?_); refine box_event ?hg (N := 3) ?hd (cs := #[.slice none 0 0]) (t := 28) ?hr ?_; (case hd => rfl); (case hg => rfl); (case hr => first | (go_simp; done) | (go_simp; rfl)); intro gb186 hg w4 hbox hb; have n0_ := Zh (Zm (g := gb184) (o := .cells #[.slice A0_0 l0_0.length c0_0] 28 (0, 0)) Zk hb); have n1_ := Zh (Zm (g := gb185) (o := .cells #[.slice none 0 0] 28 (0, 0)) Zk hb); have n2_ := Zh (Zl Zs hb); have n3_ := Zh (hbox); have n4_ := Zh ((by rw [hg]; exact (below_size Zs) : w.heap.size ≤ gb186)); have n5_ := Zh ((by rw [hg]; exact (below_size Zs) : w.heap.size ≤ gb186)); have n6_ := Zh ((by rw [hg]; exact Nat.ne_of_lt (blk_lt (g := gb184) (o := .cells #[.slice A0_0 l0_0.length c0_0] 28 (0, 0)) Zk) : gb184 ≠ gb186)); have n7_ := Zh ((by rw [hg]; exact Nat.ne_of_gt (blk_lt (g := gb184) (o := .cells #[.slice A0_0 l0_0.length c0_0] 28 (0, 0)) Zk) : gb186 ≠ gb184)); have n8_ := Zh ((by rw [hg]; exact Nat.ne_of_lt (blk_lt (g := gb185) (o := .cells #[.slice none 0 0] 28 (0, 0)) Zk) : gb185 ≠ gb186)); have n9_ := Zh ((by rw [hg]; exact Nat.ne_of_gt (blk_lt (g := gb185) (o := .cells #[.slice none 0 0] 28 (0, 0)) Zk) : gb186 ≠ gb185)); clear BK184; clear BK185; clear HB; have BK184 := n0_; have BK185 := n1_; have HB := n2_; have BK186 := n3_; have GW186 := n4_; have GE186 := n5_; have NB184_186 := n6_; have NB186_184 := n7_; have NB185_186 := n8_; have NB186_185 := n9_; clear n0_ n1_ n2_ n3_ n4_ n5_ n6_ n7_ n8_ n9_; clear hb hbox hg; have hnb5 := NB186_184.out; have hnc5 := NB184_186.out; have hnb6 := NB186_185.out; have hnc6 := NB185_186.out; have hcz7_0 : w4.cell? ⟨gb186, 0, none⟩ = some (.slice none 0 0) := (blk_cell BK186.out 0).trans rfl; have hfz7_0 := Zn BK186.out 0; have hnb8 := NB184_185.out; have hnc8 := NB185_184.out; have hcz9_0 : w4.cell? ⟨gb184, 0, none⟩ = some (.slice A0_0 l0_0.length c0_0) := (blk_cell BK184.out 0).trans rfl; have hfz9_0 := Zn BK184.out 0))
 go_loopg [10] k (fun kq v10 w' => ∃ (x10_1 : Int) (x187000_1 : List (S55)) (u187000 : Value), v10 = .int .i64 x10_1 ∧ Aside0 (impl_copyDisk.l0 kq l0_0 (l0_0.length : Int) x10_1 x187000_1 = some r) ∧ Aside0 (kq ≤ k) ∧ Aside0 (Kd.S k55 55 w' w.heap.size (fun _ => True) u187000 x187000_1) ∧ Aside0 (w'.heap[gb184]? = some (.cells #[(.slice A0_0 l0_0.length c0_0)] 28 (0, 0))) ∧ Aside0 (w'.heap[gb185]? = some (.cells #[(.slice none 0 0)] 28 (0, 0))) ∧ Aside0 (w'.heap[gb186]? = some (.cells #[u187000] 28 (0, 0))) ∧ Aside0 (Below w.heap.size w w'))
 case atStart => exact ⟨(0), (([] : List (S55))), (.slice none 0 0), (by first | rfl | (simp; done) | (simp [*]; done)), H', ⟨Nat.le_refl _⟩, ⟨by first | exact S_nil _ _ _ _ _ | exact N_nil _ _ _ _ _ | exact V_nil _ _ _ _ _ | exact Q_nil _ _ _ _ _ | exact R_nil _ _ _ _ _⟩, ⟨by (with_reducible repeat (first | refine Za ?_ _ | refine Zb ?_ | refine blk_alloc ?_ _)); refine blk_far ?_ NB184_186.out _; (with_reducible repeat (first | refine Za ?_ _ | refine Zb ?_ | refine blk_alloc ?_ _)); exact BK184.out⟩, ⟨by (with_reducible repeat (first | refine Za ?_ _ | refine Zb ?_ | refine blk_alloc ?_ _)); refine blk_far ?_ NB185_186.out _; (with_reducible repeat (first | refine Za ?_ _ | refine Zb ?_ | refine blk_alloc ?_ _)); exact BK185.out⟩, ⟨by (with_reducible repeat (first | refine Za ?_ _ | refine Zb ?_ | refine blk_alloc ?_ _)); refine blk_put (cs := #[.slice none 0 0]) ?_ 0 _ rfl; (with_reducible repeat (first | refine Za ?_ _ | refine Zb ?_ | refine blk_alloc ?_ _)); exact BK186.out⟩, ⟨by repeat (first | (with_reducible first | exact HB.out | apply Zf | apply Zd | apply Ze | refine Zg ?_ GE184.out | refine Zg ?_ GE185.out | refine Zg ?_ GE186.out) | exact HB.out)⟩⟩
 case round =>
  clear H'
  try clear p2
  try clear c5
  try clear c6
  try clear c8
  try clear hcz7_0
  try clear hcz9_0
  try clear hfz7_0
  try clear hfz9_0
  obtain ⟨x10_1, x187000_1, u187000, rfl, HA, HK1, HO_187000, BK184, BK185, BK186, HB⟩ := hrel
  cases gk with
  | zero => exact absurd HA.out (by simp [impl_copyDisk.l0])
  | succ k1 =>
   have H := HA.out
   clear HA
   simp only [impl_copyDisk.l0] at H
   by_cases c10 : x10_1 < (l0_0.length : Int)
   ·
    rw [if_pos c10] at H
    have c10b0 : decide (x10_1 < (l0_0.length : Int)) = true := decide_eq_true c10
    clear c10
    by_cases c11 : 0 ≤ x10_1
    ·
     rw [if_pos c11] at H
     have c11b0 : decide (0 ≤ x10_1) = true := decide_eq_true c11
     clear c11
     by_cases c12 : x10_1 < (l0_0.length : Int)
     ·
      rw [if_pos c12] at H
      have c12b0 : decide (x10_1 < (l0_0.length : Int)) = true := decide_eq_true c12
      clear c12
      obtain ⟨y189, hy189⟩ : ∃ y_ : List Int, y_ = (([] : List Int)) := ⟨_, rfl⟩
      replace H : (if y189.length + ((rd_T55 l0_0 x10_1).f1).length < 140737488355328 then ((some (([] : List Int) : List Int)).bind fun y195 => (if y195.length + ((rd_T55 l0_0 x10_1).f2).length < 140737488355328 then (if x187000_1.length < 2199023255552 then (impl_copyDisk.l0 k1 l0_0 (l0_0.length : Int) (wrap64 (x10_1 + 1)) (x187000_1 ++ [(⟨(rd_T55 l0_0 x10_1).f0, (y189 ++ ((rd_T55 l0_0 x10_1).f1)), (y195 ++ ((rd_T55 l0_0 x10_1).f2))⟩ : S55)])) else (none)) else (none))) else (none)) = some r := by first | (rw [hy189]; with_reducible exact H) | (have H2_ := (Option.bind_some _ _).symm.trans H; rw [hy189]; with_reducible exact H2_) | (have H2_ := (Option.bind_some _ _).symm.trans H; with_reducible exact H2_) | with_reducible exact H | (rw [hy189]; exact H) | exact H
      have Ny189 := Zh hy189
      clear hy189
      by_cases c13 : y189.length + ((rd_T55 l0_0 x10_1).f1).length < 140737488355328
      ·
       rw [if_pos c13] at H
       have LMc13 := Zh c13
       clear c13
       obtain ⟨y192, hy192⟩ : ∃ y_ : List Int, y_ = (y189 ++ ((rd_T55 l0_0 x10_1).f1)) := ⟨_, rfl⟩
       replace H : ((some (([] : List Int) : List Int)).bind fun y195 => (if y195.length + ((rd_T55 l0_0 x10_1).f2).length < 140737488355328 then (if x187000_1.length < 2199023255552 then (impl_copyDisk.l0 k1 l0_0 (l0_0.length : Int) (wrap64 (x10_1 + 1)) (x187000_1 ++ [(⟨(rd_T55 l0_0 x10_1).f0, y192, (y195 ++ ((rd_T55 l0_0 x10_1).f2))⟩ : S55)])) else (none)) else (none))) = some r := by first | (rw [hy192]; with_reducible exact H) | (have H2_ := (Option.bind_some _ _).symm.trans H; rw [hy192]; with_reducible exact H2_) | (have H2_ := (Option.bind_some _ _).symm.trans H; with_reducible exact H2_) | with_reducible exact H | (rw [hy192]; exact H) | exact H
       have Ny192 := Zh hy192
       clear hy192
       obtain ⟨y195, hy195⟩ : ∃ y_ : List Int, y_ = (([] : List Int)) := ⟨_, rfl⟩
       replace H : (if y195.length + ((rd_T55 l0_0 x10_1).f2).length < 140737488355328 then (if x187000_1.length < 2199023255552 then (impl_copyDisk.l0 k1 l0_0 (l0_0.length : Int) (wrap64 (x10_1 + 1)) (x187000_1 ++ [(⟨(rd_T55 l0_0 x10_1).f0, y192, (y195 ++ ((rd_T55 l0_0 x10_1).f2))⟩ : S55)])) else (none)) else (none)) = some r := by first | (rw [hy195]; with_reducible exact H) | (have H2_ := (Option.bind_some _ _).symm.trans H; rw [hy195]; with_reducible exact H2_) | (have H2_ := (Option.bind_some _ _).symm.trans H; with_reducible exact H2_) | with_reducible exact H | (rw [hy195]; exact H) | exact H
       have Ny195 := Zh hy195
       clear hy195
       by_cases c14 : y195.length + ((rd_T55 l0_0 x10_1).f2).length < 140737488355328
       ·
        rw [if_pos c14] at H
        have LMc14 := Zh c14
        clear c14
        obtain ⟨y198, hy198⟩ : ∃ y_ : List Int, y_ = (y195 ++ ((rd_T55 l0_0 x10_1).f2)) := ⟨_, rfl⟩
        replace H : (if x187000_1.length < 2199023255552 then (impl_copyDisk.l0 k1 l0_0 (l0_0.length : Int) (wrap64 (x10_1 + 1)) (x187000_1 ++ [(⟨(rd_T55 l0_0 x10_1).f0, y192, y198⟩ : S55)])) else (none)) = some r := by first | (rw [hy198]; with_reducible exact H) | (have H2_ := (Option.bind_some _ _).symm.trans H; rw [hy198]; with_reducible exact H2_) | (have H2_ := (Option.bind_some _ _).symm.trans H; with_reducible exact H2_) | with_reducible exact H | (rw [hy198]; exact H) | exact H
        have Ny198 := Zh hy198
        clear hy198
        by_cases c15 : x187000_1.length < 2199023255552
        ·
         rw [if_pos c15] at H
         have LMc15 := Zh c15
         clear c15
         obtain ⟨y201, hy201⟩ : ∃ y_ : List (S55), y_ = (x187000_1 ++ [(⟨(rd_T55 l0_0 x10_1).f0, y192, y198⟩ : S55)]) := ⟨_, rfl⟩
         replace H : (impl_copyDisk.l0 k1 l0_0 (l0_0.length : Int) (wrap64 (x10_1 + 1)) y201) = some r := by first | (rw [hy201]; with_reducible exact H) | (have H2_ := (Option.bind_some _ _).symm.trans H; rw [hy201]; with_reducible exact H2_) | (have H2_ := (Option.bind_some _ _).symm.trans H; with_reducible exact H2_) | with_reducible exact H | (rw [hy201]; exact H) | exact H
         have Ny201 := Zh hy201
         clear hy201
         have H' := Zh H
         clear H
         have p187 : 0 ≤ (x10_1 : Int) := Zo
         have q187 : x10_1 < (l0_0.length : Int) := Zo
         obtain ⟨ad187, A187_1, c187_1, A187_2, c187_2, e187, hx187_0, hx187_1, hx187_2, hl187_1, hi187_1, hl187_2, hi187_2⟩ := at_T55 HR0_0.out x10_1 p187 q187
         cases e187
         replace hx187_0 := Zc HB.out hx187_0
         replace hx187_1 := Zc HB.out hx187_1
         replace hx187_2 := Zc HB.out hx187_2
         have HR187_1 := Zh hi187_1
         have HC187_1 := Zh hl187_1
         clear hi187_1 hl187_1
         have HR187_2 := Zh hi187_2
         have HC187_2 := Zh hl187_2
         clear hi187_2 hl187_2
         replace p187 := eq_true p187
         replace q187 := eq_true q187
         try go_wp2_with (first | ((with_reducible refine gate_dst (N := 5) rfl ?_); refine box_event ?hg (N := 5) ?hd (cs := #[.string (⟨#[]⟩ : ByteArray), .slice none 0 0, .slice none 0 0]) (t := 55) ?hr ?_; (case hd => rfl); (case hg => rfl); (case hr => first | (go_simp; done) | (go_simp; rfl)); intro gb188 hg w16 hbox hb; have n0_ := Zh (S_below (S_elderB (by (with_reducible repeat (first | apply S_alloc | apply S_drewN | apply S_drew)); exact HO_187000.out) gb188 (Nat.le_of_eq hg.symm)) hb); have n1_ := Zh (Zm (g := gb184) (o := .cells #[.slice (some ad187) l0_0.length c0_0] 28 (0, 0)) Zk hb); have n2_ := Zh (Zm (g := gb185) (o := .cells #[.slice none 0 0] 28 (0, 0)) Zk hb); have n3_ := Zh (Zm (g := gb186) (o := .cells #[u187000] 28 (0, 0)) Zk hb); have n4_ := Zh (Zl Zs hb); have n5_ := Zh (hbox); have n6_ := Zh ((by rw [hg]; exact (below_size Zs) : w.heap.size ≤ gb188)); have n7_ := Zh ((by rw [hg]; exact (below_size Zs) : w.heap.size ≤ gb188)); have n8_ := Zh ((by rw [hg]; exact Nat.ne_of_lt (blk_lt (g := gb184) (o := .cells #[.slice (some ad187) l0_0.length c0_0] 28 (0, 0)) Zk) : gb184 ≠ gb188)); have n9_ := Zh ((by rw [hg]; exact Nat.ne_of_gt (blk_lt (g := gb184) (o := .cells #[.slice (some ad187) l0_0.length c0_0] 28 (0, 0)) Zk) : gb188 ≠ gb184)); have n10_ := Zh ((by rw [hg]; exact Nat.ne_of_lt (blk_lt (g := gb185) (o := .cells #[.slice none 0 0] 28 (0, 0)) Zk) : gb185 ≠ gb188)); have n11_ := Zh ((by rw [hg]; exact Nat.ne_of_gt (blk_lt (g := gb185) (o := .cells #[.slice none 0 0] 28 (0, 0)) Zk) : gb188 ≠ gb185)); have n12_ := Zh ((by rw [hg]; exact Nat.ne_of_lt (blk_lt (g := gb186) (o := .cells #[u187000] 28 (0, 0)) Zk) : gb186 ≠ gb188)); have n13_ := Zh ((by rw [hg]; exact Nat.ne_of_gt (blk_lt (g := gb186) (o := .cells #[u187000] 28 (0, 0)) Zk) : gb188 ≠ gb186)); clear HO_187000; clear BK184; clear BK185; clear BK186; clear HB; have HO_187000 := n0_; have BK184 := n1_; have BK185 := n2_; have BK186 := n3_; have HB := n4_; have BK188 := n5_; have GW188 := n6_; have GE188 := n7_; have NB184_188 := n8_; have NB188_184 := n9_; have NB185_188 := n10_; have NB188_185 := n11_; have NB186_188 := n12_; have NB188_186 := n13_; clear n0_ n1_ n2_ n3_ n4_ n5_ n6_ n7_ n8_ n9_ n10_ n11_ n12_ n13_; clear hb hbox hg; have hnb17 := NB188_184.out; have hnc17 := NB184_188.out; have hnb18 := NB188_185.out; have hnc18 := NB185_188.out; have hnb19 := NB188_186.out; have hnc19 := NB186_188.out; have hcz20_0 : w16.cell? ⟨gb188, 0, none⟩ = some (.string (⟨#[]⟩ : ByteArray)) := (blk_cell BK188.out 0).trans rfl; have hcz20_1 : w16.cell? ⟨gb188, 1, none⟩ = some (.slice none 0 0) := (blk_cell BK188.out 1).trans rfl; have hcz20_2 : w16.cell? ⟨gb188, 2, none⟩ = some (.slice none 0 0) := (blk_cell BK188.out 2).trans rfl; have hfz20_0 := Zn BK188.out 0; have hfz20_1 := Zn BK188.out 1; have hfz20_2 := Zn BK188.out 2; obtain ⟨Ao21, co21, eo21⟩ := S_slice HO_187000.out; subst eo21))
         have n0_ : Aside0 (Kd.S k55 55 (((w16.setCell ⟨gb188, 0, none⟩ (.string ((rd_T55 l0_0 x10_1).f0))).setCell ⟨gb188, 1, none⟩ (.slice A187_1 ((rd_T55 l0_0 x10_1).f1).length c187_1)).setCell ⟨gb188, 2, none⟩ (.slice A187_2 ((rd_T55 l0_0 x10_1).f2).length c187_2)) w.heap.size (fun k_ => k_ ≠ gb188) (.slice Ao21 x187000_1.length co21) x187000_1) := ⟨by (with_reducible repeat (first | apply S_alloc | apply S_drewN | apply S_drew)); exact S_mono (S_far (p := ⟨gb188, 2, none⟩) (S_far (p := ⟨gb188, 1, none⟩) (S_far (p := ⟨gb188, 0, none⟩) (S_mono HO_187000.out (fun k_ hk => (⟨hk, hk.2⟩ : _ ∧ k_ ≠ gb188))) (fun _ hk => hk.2) (.string ((rd_T55 l0_0 x10_1).f0))) (fun _ hk => hk.2) (.slice A187_1 ((rd_T55 l0_0 x10_1).f1).length c187_1)) (fun _ hk => hk.2) (.slice A187_2 ((rd_T55 l0_0 x10_1).f2).length c187_2)) (fun _ hk => hk.1.2)⟩
         have n1_ : Aside0 ((((w16.setCell ⟨gb188, 0, none⟩ (.string ((rd_T55 l0_0 x10_1).f0))).setCell ⟨gb188, 1, none⟩ (.slice A187_1 ((rd_T55 l0_0 x10_1).f1).length c187_1)).setCell ⟨gb188, 2, none⟩ (.slice A187_2 ((rd_T55 l0_0 x10_1).f2).length c187_2)).heap[gb184]? = some (.cells #[.slice (some ad187) l0_0.length c0_0] 28 (0, 0))) := ⟨by (with_reducible repeat (first | refine Za ?_ _ | refine Zb ?_ | refine blk_alloc ?_ _)); refine blk_far ?_ NB184_188.out _; (with_reducible repeat (first | refine Za ?_ _ | refine Zb ?_ | refine blk_alloc ?_ _)); refine blk_far ?_ NB184_188.out _; (with_reducible repeat (first | refine Za ?_ _ | refine Zb ?_ | refine blk_alloc ?_ _)); refine blk_far ?_ NB184_188.out _; (with_reducible repeat (first | refine Za ?_ _ | refine Zb ?_ | refine blk_alloc ?_ _)); exact BK184.out⟩
         have n2_ : Aside0 ((((w16.setCell ⟨gb188, 0, none⟩ (.string ((rd_T55 l0_0 x10_1).f0))).setCell ⟨gb188, 1, none⟩ (.slice A187_1 ((rd_T55 l0_0 x10_1).f1).length c187_1)).setCell ⟨gb188, 2, none⟩ (.slice A187_2 ((rd_T55 l0_0 x10_1).f2).length c187_2)).heap[gb185]? = some (.cells #[.slice none 0 0] 28 (0, 0))) := ⟨by (with_reducible repeat (first | refine Za ?_ _ | refine Zb ?_ | refine blk_alloc ?_ _)); refine blk_far ?_ NB185_188.out _; (with_reducible repeat (first | refine Za ?_ _ | refine Zb ?_ | refine blk_alloc ?_ _)); refine blk_far ?_ NB185_188.out _; (with_reducible repeat (first | refine Za ?_ _ | refine Zb ?_ | refine blk_alloc ?_ _)); refine blk_far ?_ NB185_188.out _; (with_reducible repeat (first | refine Za ?_ _ | refine Zb ?_ | refine blk_alloc ?_ _)); exact BK185.out⟩
         have n3_ : Aside0 ((((w16.setCell ⟨gb188, 0, none⟩ (.string ((rd_T55 l0_0 x10_1).f0))).setCell ⟨gb188, 1, none⟩ (.slice A187_1 ((rd_T55 l0_0 x10_1).f1).length c187_1)).setCell ⟨gb188, 2, none⟩ (.slice A187_2 ((rd_T55 l0_0 x10_1).f2).length c187_2)).heap[gb186]? = some (.cells #[.slice Ao21 x187000_1.length co21] 28 (0, 0))) := ⟨by (with_reducible repeat (first | refine Za ?_ _ | refine Zb ?_ | refine blk_alloc ?_ _)); refine blk_far ?_ NB186_188.out _; (with_reducible repeat (first | refine Za ?_ _ | refine Zb ?_ | refine blk_alloc ?_ _)); refine blk_far ?_ NB186_188.out _; (with_reducible repeat (first | refine Za ?_ _ | refine Zb ?_ | refine blk_alloc ?_ _)); refine blk_far ?_ NB186_188.out _; (with_reducible repeat (first | refine Za ?_ _ | refine Zb ?_ | refine blk_alloc ?_ _)); exact BK186.out⟩
         have n4_ : Aside0 ((((w16.setCell ⟨gb188, 0, none⟩ (.string ((rd_T55 l0_0 x10_1).f0))).setCell ⟨gb188, 1, none⟩ (.slice A187_1 ((rd_T55 l0_0 x10_1).f1).length c187_1)).setCell ⟨gb188, 2, none⟩ (.slice A187_2 ((rd_T55 l0_0 x10_1).f2).length c187_2)).heap[gb188]? = some (.cells #[.string ((rd_T55 l0_0 x10_1).f0), .slice A187_1 ((rd_T55 l0_0 x10_1).f1).length c187_1, .slice A187_2 ((rd_T55 l0_0 x10_1).f2).length c187_2] 55 (0, 0))) := ⟨by (with_reducible repeat (first | refine Za ?_ _ | refine Zb ?_ | refine blk_alloc ?_ _)); refine blk_put (cs := #[.string ((rd_T55 l0_0 x10_1).f0), .slice A187_1 ((rd_T55 l0_0 x10_1).f1).length c187_1, .slice none 0 0]) ?_ 2 _ rfl; (with_reducible repeat (first | refine Za ?_ _ | refine Zb ?_ | refine blk_alloc ?_ _)); refine blk_put (cs := #[.string ((rd_T55 l0_0 x10_1).f0), .slice none 0 0, .slice none 0 0]) ?_ 1 _ rfl; (with_reducible repeat (first | refine Za ?_ _ | refine Zb ?_ | refine blk_alloc ?_ _)); refine blk_put (cs := #[.string (⟨#[]⟩ : ByteArray), .slice none 0 0, .slice none 0 0]) ?_ 0 _ rfl; (with_reducible repeat (first | refine Za ?_ _ | refine Zb ?_ | refine blk_alloc ?_ _)); exact BK188.out⟩
         have n5_ : Aside0 (Below w.heap.size w (((w16.setCell ⟨gb188, 0, none⟩ (.string ((rd_T55 l0_0 x10_1).f0))).setCell ⟨gb188, 1, none⟩ (.slice A187_1 ((rd_T55 l0_0 x10_1).f1).length c187_1)).setCell ⟨gb188, 2, none⟩ (.slice A187_2 ((rd_T55 l0_0 x10_1).f2).length c187_2))) := ⟨by repeat (first | (with_reducible first | exact HB.out | apply Zf | apply Zd | apply Ze | refine Zg ?_ GE184.out | refine Zg ?_ GE185.out | refine Zg ?_ GE186.out | refine Zg ?_ GE188.out) | exact HB.out)⟩
         (try clear HO_187000)
         (try clear BK184)
         (try clear BK185)
         (try clear BK186)
         (try clear BK188)
         (try clear HB)
         generalize (((w16.setCell ⟨gb188, 0, none⟩ (.string ((rd_T55 l0_0 x10_1).f0))).setCell ⟨gb188, 1, none⟩ (.slice A187_1 ((rd_T55 l0_0 x10_1).f1).length c187_1)).setCell ⟨gb188, 2, none⟩ (.slice A187_2 ((rd_T55 l0_0 x10_1).f2).length c187_2)) = w22 at n0_ n1_ n2_ n3_ n4_ n5_ ⊢
         have HO_187000 := n0_
         have BK184 := n1_
         have BK185 := n2_
         have BK186 := n3_
         have BK188 := n4_
         have HB := n5_
         clear n0_ n1_ n2_ n3_ n4_ n5_
         have n0_ := Zh (S_drew HO_187000.out)
         have n1_ := Zh (Zb BK184.out)
         have n2_ := Zh (Zb BK185.out)
         have n3_ := Zh (Zb BK186.out)
         have n4_ := Zh (Zb BK188.out)
         have n5_ := Zh (Ze HB.out)
         clear HO_187000
         clear BK184
         clear BK185
         clear BK186
         clear BK188
         clear HB
         have HO_187000 := n0_
         have BK184 := n1_
         have BK185 := n2_
         have BK186 := n3_
         have BK188 := n4_
         have HB := n5_
         clear n0_ n1_ n2_ n3_ n4_ n5_
         refine start_ (n := 17) (S := fun w' => w'.cell? ⟨gb186, 0, none⟩ = some (.slice Ao21 x187000_1.length co21) ∧ w'.cell? ⟨gb188, 0, none⟩ = some (.string ((rd_T55 l0_0 x10_1).f0)) ∧ w'.cell? ⟨gb188, 1, none⟩ = some (.slice A187_1 ((rd_T55 l0_0 x10_1).f1).length c187_1) ∧ w'.cell? ⟨gb188, 2, none⟩ = some (.slice A187_2 ((rd_T55 l0_0 x10_1).f2).length c187_2)) (ds := [16]) #[false, false, false, false, false, false, false, false, false, false, false, false, false, false, false, false, false] (by kernel_rfl) rfl rfl ⟨(blk_cell BK186.out 0).trans rfl, (blk_cell BK188.out 0).trans rfl, (blk_cell BK188.out 1).trans rfl, (blk_cell BK188.out 2).trans rfl⟩ (fun hHeld => ?_); refine with_tabW impl_copyDisk.tab5 impl_copyDisk.bits5 (fun HT_ HW_ => ?_)
         generalize w22.drew = w23 at HO_187000 BK184 BK185 BK186 BK188 HB hHeld ⊢
         refine SQ.pu 0 14 HT_ ?_
         refine SQ.pu 2 16 HT_ ?_
         refine SQ.pu 5 19 HT_ ?_
         refine SQ.pu 9 23 HT_ ?_
         refine SQ.tk 1 15 HT_ HW_ hHeld ?_
         refine SQ.tk 3 17 HT_ HW_ hHeld ?_
         refine SQ.tk 6 20 HT_ HW_ hHeld ?_
         refine SQ.tk 10 24 HT_ HW_ hHeld ?_
         refine join_ (σ := Value × Value × Value) 6 #[true, true, true, true, true, true, true, true, true, true, true, false, false, false, false, false, false] (fun s_ => [(18, s_.1), (21, s_.2.1), (22, s_.2.2)]) (fun s_ w' => (w'.cell? ⟨gb186, 0, none⟩ = some (.slice Ao21 x187000_1.length co21) ∧ w'.cell? ⟨gb188, 0, none⟩ = some (.string ((rd_T55 l0_0 x10_1).f0)) ∧ w'.cell? ⟨gb188, 1, none⟩ = some (.slice A187_1 ((rd_T55 l0_0 x10_1).f1).length c187_1) ∧ w'.cell? ⟨gb188, 2, none⟩ = some (.slice A187_2 ((rd_T55 l0_0 x10_1).f2).length c187_2)) ∧ (Kd.R (Kd.int .u8) 5 w' w.heap.size (fun k_ => some k_ ≠ (s_.2.2 : Value).ownBlock) s_.2.1 y192) ∧ (Kd.R (Kd.int .u8) 5 w' w.heap.size (fun k_ => some k_ ≠ (s_.2.1 : Value).ownBlock) s_.2.2 y195) ∧ (Kd.S k55 55 w' w.heap.size (fun k_ => some k_ ≠ (s_.2.1 : Value).ownBlock ∧ some k_ ≠ (s_.2.2 : Value).ownBlock ∧ k_ ≠ gb188) (.slice Ao21 x187000_1.length co21) x187000_1) ∧ (w'.heap[gb184]? = some (.cells #[.slice (some ad187) l0_0.length c0_0] 28 (0, 0))) ∧ (w'.heap[gb185]? = some (.cells #[.slice none 0 0] 28 (0, 0))) ∧ (w'.heap[gb186]? = some (.cells #[.slice Ao21 x187000_1.length co21] 28 (0, 0))) ∧ (w'.heap[gb188]? = some (.cells #[.string ((rd_T55 l0_0 x10_1).f0), .slice A187_1 ((rd_T55 l0_0 x10_1).f1).length c187_1, .slice A187_2 ((rd_T55 l0_0 x10_1).f2).length c187_2] 55 (0, 0))) ∧ (Below w.heap.size w w')) ?_ ?_
         rotate_left
         ·
          intro hCont
          refine two_ (i := 4) (j := 8) (Ni := some 18) (Nj := some 22) #[true, true, true, true, true, true, true, false, false, true, true, false, false, false, false, false, false] #[true, true, true, true, false, true, true, false, true, true, true, false, false, false, false, false, false] rfl rfl rfl rfl (two_of HT_.out (by kernel_rfl)) (by decide) (by decide) (fun K hK => ?_) (fun K hK => ?_)
          ·
           skip
           refine R_lit_step (Kd.int .u8) _ 5 ?hg (N := 18) ?hd (xs := ([] : List Int)) (inner := []) (ok := fun _ => True) (okp := fun _ => True) ?hr ?hp (fun _ hk => hk) trivial (Below.refl _ _) (Nat.le_refl _) (by simp) ?_; (case hd => rfl); (case hg => rfl); (case hr => first | (go_simp; done) | (go_simp; rfl)); (case hp => exact (Reps.none _ _))
           intro v190 w24 ho25 hb hg_ hnew_
           clear hg_ hnew_
           (first | rw [← Ny189.out] at ho25 | (simp only [Int.reduceToNat] at ho25; rw [← Ny189.out] at ho25))
           have n0_ := Zh (S_elder' (by (with_reducible repeat (first | apply S_alloc | apply S_drewN | apply S_drew)); exact HO_187000.out) (R_base ho25) hb)
           have n1_ := Zh (R_lower ho25 (below_size Zs))
           have n2_ := Zh (Zm (g := gb184) (o := .cells #[.slice (some ad187) l0_0.length c0_0] 28 (0, 0)) Zk hb)
           have n3_ := Zh (Zm (g := gb185) (o := .cells #[.slice none 0 0] 28 (0, 0)) Zk hb)
           have n4_ := Zh (Zm (g := gb186) (o := .cells #[.slice Ao21 x187000_1.length co21] 28 (0, 0)) Zk hb)
           have n5_ := Zh (Zm (g := gb188) (o := .cells #[.string ((rd_T55 l0_0 x10_1).f0), .slice A187_1 ((rd_T55 l0_0 x10_1).f1).length c187_1, .slice A187_2 ((rd_T55 l0_0 x10_1).f2).length c187_2] 55 (0, 0)) Zk hb)
           have n6_ := Zh (Zl Zs hb)
           clear HO_187000
           clear BK184
           clear BK185
           clear BK186
           clear BK188
           clear HB
           have HO_187000 := n0_
           have HO191 := n1_
           have BK184 := n2_
           have BK185 := n3_
           have BK186 := n4_
           have BK188 := n5_
           have HB := n6_
           clear n0_ n1_ n2_ n3_ n4_ n5_ n6_
           clear hb ho25
           refine hK.out _ _ ⟨(blk_cell BK186.out 0).trans rfl, (blk_cell BK188.out 0).trans rfl, (blk_cell BK188.out 1).trans rfl, (blk_cell BK188.out 2).trans rfl⟩ (fun hHeld => ?_)
           clear hK K
           refine norm_ (a' := ?_) ?_ ?_
           rotate_left
           ·
            show Act.put _ (some 18) _ = _
            simp only [Act.put, List.setIfInBounds_toArray, List.set_cons_zero, List.set_cons_succ, i64_w, i32_w]
            rfl
           refine two_ (i := 7) (j := 8) (Ni := some 21) (Nj := some 22) #[true, true, true, true, true, true, true, true, false, true, true, false, false, false, false, false, false] #[true, true, true, true, true, true, true, false, true, true, true, false, false, false, false, false, false] rfl rfl rfl rfl (two_of HT_.out (by kernel_rfl)) (by decide) (by decide) (fun K hK => ?_) (fun K hK => ?_)
           ·
            skip
            refine R_append_rows_step (Kd.int .u8) (w0 := w) w.heap.size (by rfl) (.tmp 18) (.tmp 20) 41 5 (.int .u8 0) 1 rfl Tryd.underlying41 info5 rfl (by decide) (by omega) v190 y189 ((rd_T55 l0_0 x10_1).f1) _ _ _ (fun _ => True) (fun _ => False) rfl rfl ?aO ?aR (fun _ _ h => h) (fun _ h => h.elim) ?aF ?aB ?aS ?aL ?_
            (case aR => repeat (first | exact (C_below HR187_1.out HB.out) | (with_reducible refine C_alloc ?_ _) | (with_reducible refine C_drewN ?_ _) | (with_reducible refine C_drew ?_)))
            (case aB => exact Zs)
            (case aF => exact (fun _ _ => trivial))
            (case aO => exact (by (with_reducible repeat (first | apply R_alloc | apply R_drewN | apply R_drew)); exact HO191.out))
            (case aS => exact (below_size Zs))
            (case aL => have := LMc13.out; omega)
            intro v193 w26 ho hb hg hat
            rw [← Ny192.out] at ho
            have n0_ := Zh (S_after (ok := (fun k_ => k_ ≠ gb188)) (by (with_reducible repeat (first | apply S_alloc | apply S_drewN | apply S_drew)); exact HO_187000.out) hg hat)
            have n1_ := Zh (blk_grown (g := gb184) (o := .cells #[.slice (some ad187) l0_0.length c0_0] 28 (0, 0)) Zk hg (R_ne HO191.out BK184.out (by decide)))
            have n2_ := Zh (blk_grown (g := gb185) (o := .cells #[.slice none 0 0] 28 (0, 0)) Zk hg (R_ne HO191.out BK185.out (by decide)))
            have n3_ := Zh (blk_grown (g := gb186) (o := .cells #[.slice Ao21 x187000_1.length co21] 28 (0, 0)) Zk hg (R_ne HO191.out BK186.out (by decide)))
            have n4_ := Zh (blk_grown (g := gb188) (o := .cells #[.string ((rd_T55 l0_0 x10_1).f0), .slice A187_1 ((rd_T55 l0_0 x10_1).f1).length c187_1, .slice A187_2 ((rd_T55 l0_0 x10_1).f2).length c187_2] 55 (0, 0)) Zk hg (R_ne HO191.out BK188.out (by decide)))
            have n5_ := Zh (hb)
            have n6_ := Zh (ho)
            clear HO_187000
            clear BK184
            clear BK185
            clear BK186
            clear BK188
            clear HB
            clear HO191
            have HO_187000 := n0_
            have BK184 := n1_
            have BK185 := n2_
            have BK186 := n3_
            have BK188 := n4_
            have HB := n5_
            have HO194 := n6_
            clear n0_ n1_ n2_ n3_ n4_ n5_ n6_
            clear ho hb hg hat
            refine hK.out _ _ ⟨(blk_cell BK186.out 0).trans rfl, (blk_cell BK188.out 0).trans rfl, (blk_cell BK188.out 1).trans rfl, (blk_cell BK188.out 2).trans rfl⟩ (fun hHeld => ?_)
            clear hK K
            refine norm_ (a' := ?_) ?_ ?_
            rotate_left
            ·
             show Act.put _ (some 21) _ = _
             simp only [Act.put, List.setIfInBounds_toArray, List.set_cons_zero, List.set_cons_succ, i64_w, i32_w]
             rfl
            refine one_ (i := 8) (N := some 22) #[true, true, true, true, true, true, true, true, true, true, true, false, false, false, false, false, false] rfl rfl (one_of HT_.out (by kernel_rfl)) (by decide) (fun K hK => ?_)
            refine R_lit_step (Kd.int .u8) _ 5 ?hg (N := 22) ?hd (xs := ([] : List Int)) (inner := []) (ok := fun _ => True) (okp := fun _ => True) ?hr ?hp (fun _ hk => hk) trivial (Below.refl _ _) (Nat.le_refl _) (by simp) ?_; (case hd => rfl); (case hg => rfl); (case hr => first | (go_simp; done) | (go_simp; rfl)); (case hp => exact (Reps.none _ _))
            intro v196 w27 ho28 hb hg_ hnew_
            clear hg_ hnew_
            (first | rw [← Ny195.out] at ho28 | (simp only [Int.reduceToNat] at ho28; rw [← Ny195.out] at ho28))
            have n0_ := Zh (S_elder' (by (with_reducible repeat (first | apply S_alloc | apply S_drewN | apply S_drew)); exact HO_187000.out) (R_base ho28) hb)
            have n1_ := Zh (R_elder' (by (with_reducible repeat (first | apply R_alloc | apply R_drewN | apply R_drew)); exact HO194.out) (R_base ho28) hb)
            have n2_ := Zh (R_lower (R_new' ho28 (R_lt (by (with_reducible repeat (first | apply R_alloc | apply R_drewN | apply R_drew)); exact HO194.out))) (below_size Zs))
            have n3_ := Zh (Zm (g := gb184) (o := .cells #[.slice (some ad187) l0_0.length c0_0] 28 (0, 0)) Zk hb)
            have n4_ := Zh (Zm (g := gb185) (o := .cells #[.slice none 0 0] 28 (0, 0)) Zk hb)
            have n5_ := Zh (Zm (g := gb186) (o := .cells #[.slice Ao21 x187000_1.length co21] 28 (0, 0)) Zk hb)
            have n6_ := Zh (Zm (g := gb188) (o := .cells #[.string ((rd_T55 l0_0 x10_1).f0), .slice A187_1 ((rd_T55 l0_0 x10_1).f1).length c187_1, .slice A187_2 ((rd_T55 l0_0 x10_1).f2).length c187_2] 55 (0, 0)) Zk hb)
            have n7_ := Zh (Zl Zs hb)
            clear HO_187000
            clear HO194
            clear BK184
            clear BK185
            clear BK186
            clear BK188
            clear HB
            have HO_187000 := n0_
            have HO194 := n1_
            have HO197 := n2_
            have BK184 := n3_
            have BK185 := n4_
            have BK186 := n5_
            have BK188 := n6_
            have HB := n7_
            clear n0_ n1_ n2_ n3_ n4_ n5_ n6_ n7_
            clear hb ho28
            refine hK.out _ _ ⟨(blk_cell BK186.out 0).trans rfl, (blk_cell BK188.out 0).trans rfl, (blk_cell BK188.out 1).trans rfl, (blk_cell BK188.out 2).trans rfl⟩ (fun hHeld => ?_)
            clear hK K
            refine norm_ (a' := ?_) ?_ ?_
            rotate_left
            ·
             show Act.put _ (some 22) _ = _
             simp only [Act.put, List.setIfInBounds_toArray, List.set_cons_zero, List.set_cons_succ, i64_w, i32_w]
             rfl
            exact norm_ (by simp only [putAll, Act.put, List.setIfInBounds_toArray, List.set_cons_zero, List.set_cons_succ]) (hCont (v190, v193, v196) _ ⟨hHeld, (by (with_reducible repeat (first | apply R_alloc | apply R_drewN | apply R_drew)); exact R_mono HO194.out (fun _ hk => hk.2)), (by (with_reducible repeat (first | apply R_alloc | apply R_drewN | apply R_drew)); exact R_mono HO197.out (fun _ hk => hk.2)), (by (with_reducible repeat (first | apply S_alloc | apply S_drewN | apply S_drew)); exact S_mono HO_187000.out (fun _ hk => ⟨hk.1.2, ⟨hk.2, hk.1.1⟩⟩)), Zk, Zk, Zk, Zk, Zs⟩)
           skip
           refine R_lit_step (Kd.int .u8) _ 5 ?hg (N := 22) ?hd (xs := ([] : List Int)) (inner := []) (ok := fun _ => True) (okp := fun _ => True) ?hr ?hp (fun _ hk => hk) trivial (Below.refl _ _) (Nat.le_refl _) (by simp) ?_; (case hd => rfl); (case hg => rfl); (case hr => first | (go_simp; done) | (go_simp; rfl)); (case hp => exact (Reps.none _ _))
           intro v196 w26 ho27 hb hg_ hnew_
           clear hg_ hnew_
           (first | rw [← Ny195.out] at ho27 | (simp only [Int.reduceToNat] at ho27; rw [← Ny195.out] at ho27))
           have n0_ := Zh (S_elder' (by (with_reducible repeat (first | apply S_alloc | apply S_drewN | apply S_drew)); exact HO_187000.out) (R_base ho27) hb)
           have n1_ := Zh (R_elder' (by (with_reducible repeat (first | apply R_alloc | apply R_drewN | apply R_drew)); exact HO191.out) (R_base ho27) hb)
           have n2_ := Zh (R_lower (R_new' ho27 (R_lt (by (with_reducible repeat (first | apply R_alloc | apply R_drewN | apply R_drew)); exact HO191.out))) (below_size Zs))
           have n3_ := Zh (Zm (g := gb184) (o := .cells #[.slice (some ad187) l0_0.length c0_0] 28 (0, 0)) Zk hb)
           have n4_ := Zh (Zm (g := gb185) (o := .cells #[.slice none 0 0] 28 (0, 0)) Zk hb)
           have n5_ := Zh (Zm (g := gb186) (o := .cells #[.slice Ao21 x187000_1.length co21] 28 (0, 0)) Zk hb)
           have n6_ := Zh (Zm (g := gb188) (o := .cells #[.string ((rd_T55 l0_0 x10_1).f0), .slice A187_1 ((rd_T55 l0_0 x10_1).f1).length c187_1, .slice A187_2 ((rd_T55 l0_0 x10_1).f2).length c187_2] 55 (0, 0)) Zk hb)
           have n7_ := Zh (Zl Zs hb)
           clear HO_187000
           clear HO191
           clear BK184
           clear BK185
           clear BK186
           clear BK188
           clear HB
           have HO_187000 := n0_
           have HO191 := n1_
           have HO197 := n2_
           have BK184 := n3_
           have BK185 := n4_
           have BK186 := n5_
           have BK188 := n6_
           have HB := n7_
           clear n0_ n1_ n2_ n3_ n4_ n5_ n6_ n7_
           clear hb ho27
           refine hK.out _ _ ⟨(blk_cell BK186.out 0).trans rfl, (blk_cell BK188.out 0).trans rfl, (blk_cell BK188.out 1).trans rfl, (blk_cell BK188.out 2).trans rfl⟩ (fun hHeld => ?_)
           clear hK K
           refine norm_ (a' := ?_) ?_ ?_
           rotate_left
           ·
            show Act.put _ (some 22) _ = _
            simp only [Act.put, List.setIfInBounds_toArray, List.set_cons_zero, List.set_cons_succ, i64_w, i32_w]
            rfl
           refine one_ (i := 7) (N := some 21) #[true, true, true, true, true, true, true, true, true, true, true, false, false, false, false, false, false] rfl rfl (one_of HT_.out (by kernel_rfl)) (by decide) (fun K hK => ?_)
           refine R_append_rows_step (Kd.int .u8) (w0 := w) w.heap.size (by rfl) (.tmp 18) (.tmp 20) 41 5 (.int .u8 0) 1 rfl Tryd.underlying41 info5 rfl (by decide) (by omega) v190 y189 ((rd_T55 l0_0 x10_1).f1) _ _ _ (fun k_ => some k_ ≠ (v196 : Value).ownBlock) (fun _ => False) rfl rfl ?aO ?aR (fun _ _ h => h) (fun _ h => h.elim) ?aF ?aB ?aS ?aL ?_
           (case aR => repeat (first | exact (C_below HR187_1.out HB.out) | (with_reducible refine C_alloc ?_ _) | (with_reducible refine C_drewN ?_ _) | (with_reducible refine C_drew ?_)))
           (case aB => exact Zs)
           (case aF => exact (fun k_ hk => Kd.fresh' (R_lt (by (with_reducible repeat (first | apply R_alloc | apply R_drewN | apply R_drew)); exact HO197.out)) k_ hk))
           (case aO => exact (by (with_reducible repeat (first | apply R_alloc | apply R_drewN | apply R_drew)); exact R_mono HO191.out (fun _ hk => hk.2)))
           (case aS => exact (below_size Zs))
           (case aL => have := LMc13.out; omega)
           intro v193 w28 ho hb hg hat
           rw [← Ny192.out] at ho
           have n0_ := Zh (S_after (ok := (fun k_ => some k_ ≠ (v196 : Value).ownBlock ∧ k_ ≠ gb188)) (by (with_reducible repeat (first | apply S_alloc | apply S_drewN | apply S_drew)); exact S_mono HO_187000.out (fun _ hk => ⟨⟨hk.2, hk.1.1⟩, hk.1.2⟩)) hg hat)
           have n1_ := Zh (blk_grown (g := gb184) (o := .cells #[.slice (some ad187) l0_0.length c0_0] 28 (0, 0)) Zk hg (R_ne HO191.out BK184.out (by decide)))
           have n2_ := Zh (blk_grown (g := gb185) (o := .cells #[.slice none 0 0] 28 (0, 0)) Zk hg (R_ne HO191.out BK185.out (by decide)))
           have n3_ := Zh (blk_grown (g := gb186) (o := .cells #[.slice Ao21 x187000_1.length co21] 28 (0, 0)) Zk hg (R_ne HO191.out BK186.out (by decide)))
           have n4_ := Zh (blk_grown (g := gb188) (o := .cells #[.string ((rd_T55 l0_0 x10_1).f0), .slice A187_1 ((rd_T55 l0_0 x10_1).f1).length c187_1, .slice A187_2 ((rd_T55 l0_0 x10_1).f2).length c187_2] 55 (0, 0)) Zk hg (R_ne HO191.out BK188.out (by decide)))
           have n5_ := Zh (R_after (ok := (fun _ => True)) (by (with_reducible repeat (first | apply R_alloc | apply R_drewN | apply R_drew)); exact HO197.out) hg hat)
           have n6_ := Zh (hb)
           have n7_ := Zh (ho)
           clear HO_187000
           clear BK184
           clear BK185
           clear BK186
           clear BK188
           clear HO197
           clear HB
           clear HO191
           have HO_187000 := n0_
           have BK184 := n1_
           have BK185 := n2_
           have BK186 := n3_
           have BK188 := n4_
           have HO197 := n5_
           have HB := n6_
           have HO194 := n7_
           clear n0_ n1_ n2_ n3_ n4_ n5_ n6_ n7_
           clear ho hb hg hat
           refine hK.out _ _ ⟨(blk_cell BK186.out 0).trans rfl, (blk_cell BK188.out 0).trans rfl, (blk_cell BK188.out 1).trans rfl, (blk_cell BK188.out 2).trans rfl⟩ (fun hHeld => ?_)
           clear hK K
           refine norm_ (a' := ?_) ?_ ?_
           rotate_left
           ·
            show Act.put _ (some 21) _ = _
            simp only [Act.put, List.setIfInBounds_toArray, List.set_cons_zero, List.set_cons_succ, i64_w, i32_w]
            rfl
           exact norm_ (by simp only [putAll, Act.put, List.setIfInBounds_toArray, List.set_cons_zero, List.set_cons_succ]) (hCont (v190, v193, v196) _ ⟨hHeld, (by (with_reducible repeat (first | apply R_alloc | apply R_drewN | apply R_drew)); exact HO194.out), (by (with_reducible repeat (first | apply R_alloc | apply R_drewN | apply R_drew)); exact R_mono HO197.out (fun _ hk => hk.2)), (by (with_reducible repeat (first | apply S_alloc | apply S_drewN | apply S_drew)); exact S_mono HO_187000.out (fun _ hk => ⟨hk.2, ⟨hk.1.1, hk.1.2⟩⟩)), Zk, Zk, Zk, Zk, Zs⟩)
          skip
          refine R_lit_step (Kd.int .u8) _ 5 ?hg (N := 22) ?hd (xs := ([] : List Int)) (inner := []) (ok := fun _ => True) (okp := fun _ => True) ?hr ?hp (fun _ hk => hk) trivial (Below.refl _ _) (Nat.le_refl _) (by simp) ?_; (case hd => rfl); (case hg => rfl); (case hr => first | (go_simp; done) | (go_simp; rfl)); (case hp => exact (Reps.none _ _))
          intro v196 w24 ho25 hb hg_ hnew_
          clear hg_ hnew_
          (first | rw [← Ny195.out] at ho25 | (simp only [Int.reduceToNat] at ho25; rw [← Ny195.out] at ho25))
          have n0_ := Zh (S_elder' (by (with_reducible repeat (first | apply S_alloc | apply S_drewN | apply S_drew)); exact HO_187000.out) (R_base ho25) hb)
          have n1_ := Zh (R_lower ho25 (below_size Zs))
          have n2_ := Zh (Zm (g := gb184) (o := .cells #[.slice (some ad187) l0_0.length c0_0] 28 (0, 0)) Zk hb)
          have n3_ := Zh (Zm (g := gb185) (o := .cells #[.slice none 0 0] 28 (0, 0)) Zk hb)
          have n4_ := Zh (Zm (g := gb186) (o := .cells #[.slice Ao21 x187000_1.length co21] 28 (0, 0)) Zk hb)
          have n5_ := Zh (Zm (g := gb188) (o := .cells #[.string ((rd_T55 l0_0 x10_1).f0), .slice A187_1 ((rd_T55 l0_0 x10_1).f1).length c187_1, .slice A187_2 ((rd_T55 l0_0 x10_1).f2).length c187_2] 55 (0, 0)) Zk hb)
          have n6_ := Zh (Zl Zs hb)
          clear HO_187000
          clear BK184
          clear BK185
          clear BK186
          clear BK188
          clear HB
          have HO_187000 := n0_
          have HO197 := n1_
          have BK184 := n2_
          have BK185 := n3_
          have BK186 := n4_
          have BK188 := n5_
          have HB := n6_
          clear n0_ n1_ n2_ n3_ n4_ n5_ n6_
          clear hb ho25
          refine hK.out _ _ ⟨(blk_cell BK186.out 0).trans rfl, (blk_cell BK188.out 0).trans rfl, (blk_cell BK188.out 1).trans rfl, (blk_cell BK188.out 2).trans rfl⟩ (fun hHeld => ?_)
          clear hK K
          refine norm_ (a' := ?_) ?_ ?_
          rotate_left
          ·
           show Act.put _ (some 22) _ = _
           simp only [Act.put, List.setIfInBounds_toArray, List.set_cons_zero, List.set_cons_succ, i64_w, i32_w]
           rfl
          refine one_ (i := 4) (N := some 18) #[true, true, true, true, true, true, true, false, true, true, true, false, false, false, false, false, false] rfl rfl (one_of HT_.out (by kernel_rfl)) (by decide) (fun K hK => ?_)
          refine R_lit_step (Kd.int .u8) _ 5 ?hg (N := 18) ?hd (xs := ([] : List Int)) (inner := []) (ok := fun _ => True) (okp := fun _ => True) ?hr ?hp (fun _ hk => hk) trivial (Below.refl _ _) (Nat.le_refl _) (by simp) ?_; (case hd => rfl); (case hg => rfl); (case hr => first | (go_simp; done) | (go_simp; rfl)); (case hp => exact (Reps.none _ _))
          intro v190 w26 ho27 hb hg_ hnew_
          clear hg_ hnew_
          (first | rw [← Ny189.out] at ho27 | (simp only [Int.reduceToNat] at ho27; rw [← Ny189.out] at ho27))
          have n0_ := Zh (S_elder' (by (with_reducible repeat (first | apply S_alloc | apply S_drewN | apply S_drew)); exact HO_187000.out) (R_base ho27) hb)
          have n1_ := Zh (R_elder' (by (with_reducible repeat (first | apply R_alloc | apply R_drewN | apply R_drew)); exact HO197.out) (R_base ho27) hb)
          have n2_ := Zh (R_lower (R_new' ho27 (R_lt (by (with_reducible repeat (first | apply R_alloc | apply R_drewN | apply R_drew)); exact HO197.out))) (below_size Zs))
          have n3_ := Zh (Zm (g := gb184) (o := .cells #[.slice (some ad187) l0_0.length c0_0] 28 (0, 0)) Zk hb)
          have n4_ := Zh (Zm (g := gb185) (o := .cells #[.slice none 0 0] 28 (0, 0)) Zk hb)
          have n5_ := Zh (Zm (g := gb186) (o := .cells #[.slice Ao21 x187000_1.length co21] 28 (0, 0)) Zk hb)
          have n6_ := Zh (Zm (g := gb188) (o := .cells #[.string ((rd_T55 l0_0 x10_1).f0), .slice A187_1 ((rd_T55 l0_0 x10_1).f1).length c187_1, .slice A187_2 ((rd_T55 l0_0 x10_1).f2).length c187_2] 55 (0, 0)) Zk hb)
          have n7_ := Zh (Zl Zs hb)
          clear HO_187000
          clear HO197
          clear BK184
          clear BK185
          clear BK186
          clear BK188
          clear HB
          have HO_187000 := n0_
          have HO197 := n1_
          have HO191 := n2_
          have BK184 := n3_
          have BK185 := n4_
          have BK186 := n5_
          have BK188 := n6_
          have HB := n7_
          clear n0_ n1_ n2_ n3_ n4_ n5_ n6_ n7_
          clear hb ho27
          refine hK.out _ _ ⟨(blk_cell BK186.out 0).trans rfl, (blk_cell BK188.out 0).trans rfl, (blk_cell BK188.out 1).trans rfl, (blk_cell BK188.out 2).trans rfl⟩ (fun hHeld => ?_)
          clear hK K
          refine norm_ (a' := ?_) ?_ ?_
          rotate_left
          ·
           show Act.put _ (some 18) _ = _
           simp only [Act.put, List.setIfInBounds_toArray, List.set_cons_zero, List.set_cons_succ, i64_w, i32_w]
           rfl
          refine one_ (i := 7) (N := some 21) #[true, true, true, true, true, true, true, true, true, true, true, false, false, false, false, false, false] rfl rfl (one_of HT_.out (by kernel_rfl)) (by decide) (fun K hK => ?_)
          refine R_append_rows_step (Kd.int .u8) (w0 := w) w.heap.size (by rfl) (.tmp 18) (.tmp 20) 41 5 (.int .u8 0) 1 rfl Tryd.underlying41 info5 rfl (by decide) (by omega) v190 y189 ((rd_T55 l0_0 x10_1).f1) _ _ _ (fun k_ => some k_ ≠ (v196 : Value).ownBlock) (fun _ => False) rfl rfl ?aO ?aR (fun _ _ h => h) (fun _ h => h.elim) ?aF ?aB ?aS ?aL ?_
          (case aR => repeat (first | exact (C_below HR187_1.out HB.out) | (with_reducible refine C_alloc ?_ _) | (with_reducible refine C_drewN ?_ _) | (with_reducible refine C_drew ?_)))
          (case aB => exact Zs)
          (case aF => exact (fun k_ hk => Kd.fresh' (R_lt (by (with_reducible repeat (first | apply R_alloc | apply R_drewN | apply R_drew)); exact HO197.out)) k_ hk))
          (case aO => exact (by (with_reducible repeat (first | apply R_alloc | apply R_drewN | apply R_drew)); exact R_mono HO191.out (fun _ hk => hk.2)))
          (case aS => exact (below_size Zs))
          (case aL => have := LMc13.out; omega)
          intro v193 w28 ho hb hg hat
          rw [← Ny192.out] at ho
          have n0_ := Zh (S_after (ok := (fun k_ => some k_ ≠ (v196 : Value).ownBlock ∧ k_ ≠ gb188)) (by (with_reducible repeat (first | apply S_alloc | apply S_drewN | apply S_drew)); exact S_mono HO_187000.out (fun _ hk => ⟨⟨hk.1.2, hk.1.1⟩, hk.2⟩)) hg hat)
          have n1_ := Zh (blk_grown (g := gb184) (o := .cells #[.slice (some ad187) l0_0.length c0_0] 28 (0, 0)) Zk hg (R_ne HO191.out BK184.out (by decide)))
          have n2_ := Zh (blk_grown (g := gb185) (o := .cells #[.slice none 0 0] 28 (0, 0)) Zk hg (R_ne HO191.out BK185.out (by decide)))
          have n3_ := Zh (blk_grown (g := gb186) (o := .cells #[.slice Ao21 x187000_1.length co21] 28 (0, 0)) Zk hg (R_ne HO191.out BK186.out (by decide)))
          have n4_ := Zh (blk_grown (g := gb188) (o := .cells #[.string ((rd_T55 l0_0 x10_1).f0), .slice A187_1 ((rd_T55 l0_0 x10_1).f1).length c187_1, .slice A187_2 ((rd_T55 l0_0 x10_1).f2).length c187_2] 55 (0, 0)) Zk hg (R_ne HO191.out BK188.out (by decide)))
          have n5_ := Zh (R_after (ok := (fun _ => True)) (by (with_reducible repeat (first | apply R_alloc | apply R_drewN | apply R_drew)); exact HO197.out) hg hat)
          have n6_ := Zh (hb)
          have n7_ := Zh (ho)
          clear HO_187000
          clear BK184
          clear BK185
          clear BK186
          clear BK188
          clear HO197
          clear HB
          clear HO191
          have HO_187000 := n0_
          have BK184 := n1_
          have BK185 := n2_
          have BK186 := n3_
          have BK188 := n4_
          have HO197 := n5_
          have HB := n6_
          have HO194 := n7_
          clear n0_ n1_ n2_ n3_ n4_ n5_ n6_ n7_
          clear ho hb hg hat
          refine hK.out _ _ ⟨(blk_cell BK186.out 0).trans rfl, (blk_cell BK188.out 0).trans rfl, (blk_cell BK188.out 1).trans rfl, (blk_cell BK188.out 2).trans rfl⟩ (fun hHeld => ?_)
          clear hK K
          refine norm_ (a' := ?_) ?_ ?_
          rotate_left
          ·
           show Act.put _ (some 21) _ = _
           simp only [Act.put, List.setIfInBounds_toArray, List.set_cons_zero, List.set_cons_succ, i64_w, i32_w]
           rfl
          exact norm_ (by simp only [putAll, Act.put, List.setIfInBounds_toArray, List.set_cons_zero, List.set_cons_succ]) (hCont (v190, v193, v196) _ ⟨hHeld, (by (with_reducible repeat (first | apply R_alloc | apply R_drewN | apply R_drew)); exact HO194.out), (by (with_reducible repeat (first | apply R_alloc | apply R_drewN | apply R_drew)); exact R_mono HO197.out (fun _ hk => hk.2)), (by (with_reducible repeat (first | apply S_alloc | apply S_drewN | apply S_drew)); exact S_mono HO_187000.out (fun _ hk => ⟨hk.2, ⟨hk.1.1, hk.1.2⟩⟩)), Zk, Zk, Zk, Zk, Zs⟩)
         rintro ⟨v190, v193, v196⟩ w29 ⟨hS_, h0_, h1_, h2_, h3_, h4_, h5_, h6_, h7_⟩
         have n0_ : Aside0 (Kd.R (Kd.int .u8) 5 w29 w.heap.size (fun k_ => some k_ ≠ (v196 : Value).ownBlock) v193 y192) := ⟨h0_⟩
         have n1_ : Aside0 (Kd.R (Kd.int .u8) 5 w29 w.heap.size (fun k_ => some k_ ≠ (v193 : Value).ownBlock) v196 y195) := ⟨h1_⟩
         have n2_ : Aside0 (Kd.S k55 55 w29 w.heap.size (fun k_ => some k_ ≠ (v193 : Value).ownBlock ∧ some k_ ≠ (v196 : Value).ownBlock ∧ k_ ≠ gb188) (.slice Ao21 x187000_1.length co21) x187000_1) := ⟨h2_⟩
         have n3_ : Aside0 (w29.heap[gb184]? = some (.cells #[.slice (some ad187) l0_0.length c0_0] 28 (0, 0))) := ⟨h3_⟩
         have n4_ : Aside0 (w29.heap[gb185]? = some (.cells #[.slice none 0 0] 28 (0, 0))) := ⟨h4_⟩
         have n5_ : Aside0 (w29.heap[gb186]? = some (.cells #[.slice Ao21 x187000_1.length co21] 28 (0, 0))) := ⟨h5_⟩
         have n6_ : Aside0 (w29.heap[gb188]? = some (.cells #[.string ((rd_T55 l0_0 x10_1).f0), .slice A187_1 ((rd_T55 l0_0 x10_1).f1).length c187_1, .slice A187_2 ((rd_T55 l0_0 x10_1).f2).length c187_2] 55 (0, 0))) := ⟨h6_⟩
         have n7_ : Aside0 (Below w.heap.size w w29) := ⟨h7_⟩
         clear HO_187000
         clear BK184
         clear BK185
         clear BK186
         clear BK188
         clear HB
         clear h0_ h1_ h2_ h3_ h4_ h5_ h6_ h7_
         have HO194 := n0_
         have HO197 := n1_
         have HO_187000 := n2_
         have BK184 := n3_
         have BK185 := n4_
         have BK186 := n5_
         have BK188 := n6_
         have HB := n7_
         clear n0_ n1_ n2_ n3_ n4_ n5_ n6_ n7_
         have hHeld : w29.cell? ⟨gb186, 0, none⟩ = some (.slice Ao21 x187000_1.length co21) ∧ w29.cell? ⟨gb188, 0, none⟩ = some (.string ((rd_T55 l0_0 x10_1).f0)) ∧ w29.cell? ⟨gb188, 1, none⟩ = some (.slice A187_1 ((rd_T55 l0_0 x10_1).f1).length c187_1) ∧ w29.cell? ⟨gb188, 2, none⟩ = some (.slice A187_2 ((rd_T55 l0_0 x10_1).f2).length c187_2) := hS_
         refine norm_ (a' := ?_) ?_ ?_
         rotate_left
         ·
          simp only [putAll, Act.put, List.setIfInBounds_toArray, List.set_cons_zero, List.set_cons_succ]
          rfl
         refine one_ (i := 11) (N := some 25) #[true, true, true, true, true, true, true, true, true, true, true, true, false, false, false, false, false] rfl rfl (one_of HT_.out (by kernel_rfl)) (by decide) (fun K hK => ?_)
         refine R_append_rows_step (Kd.int .u8) (w0 := w) w.heap.size (by rfl) (.tmp 22) (.tmp 24) 41 5 (.int .u8 0) 1 rfl Tryd.underlying41 info5 rfl (by decide) (by omega) v196 y195 ((rd_T55 l0_0 x10_1).f2) _ _ _ (fun k_ => some k_ ≠ (v193 : Value).ownBlock) (fun _ => False) rfl rfl ?aO ?aR (fun _ _ h => h) (fun _ h => h.elim) ?aF ?aB ?aS ?aL ?_
         (case aR => repeat (first | exact (C_below HR187_2.out HB.out) | (with_reducible refine C_alloc ?_ _) | (with_reducible refine C_drewN ?_ _) | (with_reducible refine C_drew ?_)))
         (case aB => exact Zs)
         (case aF => exact (fun k_ hk => Kd.fresh' (R_lt (by (with_reducible repeat (first | apply R_alloc | apply R_drewN | apply R_drew)); exact HO194.out)) k_ hk))
         (case aO => exact (by (with_reducible repeat (first | apply R_alloc | apply R_drewN | apply R_drew)); exact HO197.out))
         (case aS => exact (below_size Zs))
         (case aL => have := LMc14.out; omega)
         intro v199 w30 ho hb hg hat
         rw [← Ny198.out] at ho
         have n0_ := Zh (S_after (ok := (fun k_ => some k_ ≠ (v193 : Value).ownBlock ∧ k_ ≠ gb188)) (by (with_reducible repeat (first | apply S_alloc | apply S_drewN | apply S_drew)); exact S_mono HO_187000.out (fun _ hk => ⟨⟨hk.1, hk.2.2⟩, hk.2.1⟩)) hg hat)
         have n1_ := Zh (blk_grown (g := gb184) (o := .cells #[.slice (some ad187) l0_0.length c0_0] 28 (0, 0)) Zk hg (R_ne HO197.out BK184.out (by decide)))
         have n2_ := Zh (blk_grown (g := gb185) (o := .cells #[.slice none 0 0] 28 (0, 0)) Zk hg (R_ne HO197.out BK185.out (by decide)))
         have n3_ := Zh (blk_grown (g := gb186) (o := .cells #[.slice Ao21 x187000_1.length co21] 28 (0, 0)) Zk hg (R_ne HO197.out BK186.out (by decide)))
         have n4_ := Zh (blk_grown (g := gb188) (o := .cells #[.string ((rd_T55 l0_0 x10_1).f0), .slice A187_1 ((rd_T55 l0_0 x10_1).f1).length c187_1, .slice A187_2 ((rd_T55 l0_0 x10_1).f2).length c187_2] 55 (0, 0)) Zk hg (R_ne HO197.out BK188.out (by decide)))
         have n5_ := Zh (R_after (ok := (fun _ => True)) (by (with_reducible repeat (first | apply R_alloc | apply R_drewN | apply R_drew)); exact R_mono HO194.out (fun _ hk => ⟨trivial, hk⟩)) hg hat)
         have n6_ := Zh (hb)
         have n7_ := Zh (ho)
         clear HO_187000
         clear BK184
         clear BK185
         clear BK186
         clear BK188
         clear HO194
         clear HB
         clear HO197
         have HO_187000 := n0_
         have BK184 := n1_
         have BK185 := n2_
         have BK186 := n3_
         have BK188 := n4_
         have HO194 := n5_
         have HB := n6_
         have HO200 := n7_
         clear n0_ n1_ n2_ n3_ n4_ n5_ n6_ n7_
         clear ho hb hg hat
         obtain ⟨Ao31, co31, eo31⟩ := R_slice HO200.out
         (first | subst eo31 | (injection eo31 with f1_ f2_ f3_; have f4_ := f1_.symm; have f5_ := f3_.symm; clear f1_ f2_ f3_; subst f4_; subst f5_))
         obtain ⟨Ao32, co32, eo32⟩ := R_slice HO194.out
         (first | subst eo32 | (injection eo32 with f1_ f2_ f3_; have f4_ := f1_.symm; have f5_ := f3_.symm; clear f1_ f2_ f3_; subst f4_; subst f5_))
         refine hK.out _ _ ⟨(blk_cell BK186.out 0).trans rfl, (blk_cell BK188.out 0).trans rfl, (blk_cell BK188.out 1).trans rfl, (blk_cell BK188.out 2).trans rfl⟩ (fun hHeld => ?_)
         clear hK K
         refine norm_ (a' := ?_) ?_ ?_
         rotate_left
         ·
          show Act.put _ (some 25) _ = _
          simp only [Act.put, List.setIfInBounds_toArray, List.set_cons_zero, List.set_cons_succ, i64_w, i32_w]
          rfl
         refine SQ.pu 12 26 HT_ ?_
         refine one_ (i := 13) (N := some 27) #[true, true, true, true, true, true, true, true, true, true, true, true, true, true, false, false, false] rfl rfl (one_of HT_.out (by kernel_rfl)) (by decide) (fun K hK => ?_)
         refine value_ (w1 := ?_) (v := ?_) (by rfl) rfl ?_ ?_
         rotate_left 2
         ·
          go_simp
          constructor
          ·
           rfl
          rfl
         refine hK.out _ _ ⟨(blk_cell (blk_alloc BK186.out _) 0).trans rfl, (blk_cell (blk_alloc BK188.out _) 0).trans rfl, (blk_cell (blk_alloc BK188.out _) 1).trans rfl, (blk_cell (blk_alloc BK188.out _) 2).trans rfl⟩ (fun hHeld => ?_)
         clear hK K
         refine norm_ (a' := ?_) ?_ ?_
         rotate_left
         ·
          show Act.put _ (some 27) _ = _
          simp only [Act.put, List.setIfInBounds_toArray, List.set_cons_zero, List.set_cons_succ, i64_w, i32_w]
          rfl
         refine one_ (i := 14) (N := some 28) #[true, true, true, true, true, true, true, true, true, true, true, true, true, true, true, false, false] rfl rfl (one_of HT_.out (by kernel_rfl)) (by decide) (fun K hK => ?_)
         refine S_append_step k55 (w0 := w) w.heap.size (by rfl) (.tmp 15) (.tmp 27) 26 55 (.agg #[(.string ⟨#[]⟩), (.slice none 0 0), (.slice none 0 0)]) 64 rfl Tryd.underlying26 info55 rfl (by decide) (by omega) (.slice Ao21 x187000_1.length co21) x187000_1 (⟨(rd_T55 l0_0 x10_1).f0, y192, y198⟩ : S55) [.string ((rd_T55 l0_0 x10_1).f0), .slice Ao32 y192.length co32, .slice Ao31 y198.length co31] (fun k_ => k_ ≠ gb188) (fun k_ => some k_ = (.slice Ao32 y192.length co32 : Value).ownBlock ∨ some k_ = (.slice Ao31 y198.length co31 : Value).ownBlock) rfl rfl ?aP (fun k_ hk_ => hk_.elim (fun h_ => ((R_mono (ok' := fun k_ => ((fun k_ => k_ ≠ gb188)) k_ ∧ some k_ ≠ (.slice Ao21 x187000_1.length co21 : Value).ownBlock) (R_types (R_apart' (HO194.out) (S_typed HO_187000.out) (by decide)) BK188.out (by decide)) (fun k_ hk => ⟨hk.2, hk.1.2⟩))).1 k_ h_.symm) (fun h_ => ((R_mono (ok' := fun k_ => ((fun k_ => k_ ≠ gb188)) k_ ∧ some k_ ≠ (.slice Ao21 x187000_1.length co21 : Value).ownBlock) (R_types (R_apart' (HO200.out) (S_typed HO_187000.out) (by decide)) BK188.out (by decide)) (fun k_ hk => ⟨hk.2, hk.1.2⟩))).1 k_ h_.symm)) ?aF ?aO ?aB ?aS ?aL ?_
         (case aP => exact k55_mkM _ _ _ (⟨(rd_T55 l0_0 x10_1).f0, y192, y198⟩ : S55) (R_mono (R_tight rfl (R_mono (ok' := fun k_ => ((fun k_ => k_ ≠ gb188)) k_ ∧ some k_ ≠ (.slice Ao21 x187000_1.length co21 : Value).ownBlock) (R_types (R_apart' (HO194.out) (S_typed HO_187000.out) (by decide)) BK188.out (by decide)) (fun k_ hk => ⟨hk.2, hk.1.2⟩))) (fun _ h_ => Or.inl h_)) (R_mono (R_tight rfl (R_mono (ok' := fun k_ => ((fun k_ => k_ ≠ gb188)) k_ ∧ some k_ ≠ (.slice Ao21 x187000_1.length co21 : Value).ownBlock) (R_types (R_apart' (HO200.out) (S_typed HO_187000.out) (by decide)) BK188.out (by decide)) (fun k_ hk => ⟨hk.2, hk.1.2⟩))) (fun _ h_ => Or.inr (h_))) (AP.ne_of (HO194.out) (HO200.out) (by first | exact .inl (fun k_ hk_ => by first | exact hk_ | exact hk_.1 | exact hk_.2 | exact hk_.1.1 | exact hk_.1.2 | exact hk_.2.1 | exact hk_.2.2) | exact .inr (fun k_ hk_ => by first | exact hk_ | exact hk_.1 | exact hk_.2 | exact hk_.1.1 | exact hk_.1.2 | exact hk_.2.1 | exact hk_.2.2))))
         (case aB => exact Zs)
         (case aF => exact (fun k_ hk => Kd.freshB (g := gb188) (o := .cells #[.string ((rd_T55 l0_0 x10_1).f0), .slice A187_1 ((rd_T55 l0_0 x10_1).f1).length c187_1, .slice A187_2 ((rd_T55 l0_0 x10_1).f2).length c187_2] 55 (0, 0)) Zk k_ hk))
         (case aO => exact (by (with_reducible repeat (first | apply S_alloc | apply S_drewN | apply S_drew)); exact S_mono HO_187000.out (fun k_ hk => ⟨hk.1.2, fun e_ => e_.elim (fun h_ => hk.1.1 h_) (fun h_ => hk.2 h_)⟩)))
         (case aS => exact (below_size Zs))
         (case aL => have := LMc15.out; omega)
         intro v202 w33 ho hb hg hat
         rw [← Ny201.out] at ho
         have n0_ := Zh (blk_grown (g := gb184) (o := .cells #[.slice (some ad187) l0_0.length c0_0] 28 (0, 0)) Zk hg (S_ne HO_187000.out BK184.out (by decide)))
         have n1_ := Zh (blk_grown (g := gb185) (o := .cells #[.slice none 0 0] 28 (0, 0)) Zk hg (S_ne HO_187000.out BK185.out (by decide)))
         have n2_ := Zh (blk_grown (g := gb186) (o := .cells #[.slice Ao21 x187000_1.length co21] 28 (0, 0)) Zk hg (S_ne HO_187000.out BK186.out (by decide)))
         have n3_ := Zh (blk_grown (g := gb188) (o := .cells #[.string ((rd_T55 l0_0 x10_1).f0), .slice A187_1 ((rd_T55 l0_0 x10_1).f1).length c187_1, .slice A187_2 ((rd_T55 l0_0 x10_1).f2).length c187_2] 55 (0, 0)) Zk hg (S_away HO_187000.out (fun _ hk => hk.1.2)))
         have n4_ := Zh (hb)
         have n5_ := Zh (ho)
         clear BK184
         clear BK185
         clear BK186
         clear BK188
         clear HB
         clear HO_187000
         clear HO194
         clear HO200
         have BK184 := n0_
         have BK185 := n1_
         have BK186 := n2_
         have BK188 := n3_
         have HB := n4_
         have HO203 := n5_
         clear n0_ n1_ n2_ n3_ n4_ n5_
         clear ho hb hg hat
         obtain ⟨Ao34, co34, eo34⟩ := S_slice HO203.out
         (first | subst eo34 | (injection eo34 with f1_ f2_ f3_; have f4_ := f1_.symm; have f5_ := f3_.symm; clear f1_ f2_ f3_; subst f4_; subst f5_))
         refine hK.out _ _ ⟨(blk_cell BK186.out 0).trans rfl, (blk_cell BK188.out 0).trans rfl, (blk_cell BK188.out 1).trans rfl, (blk_cell BK188.out 2).trans rfl⟩ (fun hHeld => ?_)
         clear hK K
         refine norm_ (a' := ?_) ?_ ?_
         rotate_left
         ·
          show Act.put _ (some 28) _ = _
          simp only [Act.put, List.setIfInBounds_toArray, List.set_cons_zero, List.set_cons_succ, i64_w, i32_w]
          rfl
         refine SQ.pu 15 29 HT_ ?_
         refine last_ (i := 16) (N := none) #[true, true, true, true, true, true, true, true, true, true, true, true, true, true, true, true, true] rfl rfl (one_of HT_.out (by kernel_rfl)) (by decide) (fun K hK => ?_)
         have hs35 : w33.cell? ⟨gb186, 0, none⟩ = some (.slice Ao21 x187000_1.length co21) := (blk_cell BK186.out 0).trans rfl
         have hfs35 := Zn BK186.out 0
         have hns35_0 := NB184_186.out
         have hns35_1 := NB185_186.out
         have hns35_3 := NB188_186.out
         have hms35_0 := NB186_184.out
         have hms35_1 := NB186_185.out
         have hms35_3 := NB186_188.out
         refine skip_ (w1 := ?_) (by rfl) rfl ?_ ?_
         rotate_left
         ·
          go_simp
          rfl
         refine hK.out _ _ ?_
         clear hK K
         refine done_ (done_of HT_.out (by kernel_rfl)) ?_
         try go_wp2
         go_roundg k1
         case measure => have := HK1.out; omega
         case rel => exact ⟨(wrap64 (x10_1 + 1)), (y201), (.slice Ao34 y201.length co34), (by first | rfl | (simp; done) | (simp [*]; done)), H', ⟨by have := HK1.out; omega⟩, ⟨by (with_reducible repeat (first | apply S_alloc | apply S_drewN | apply S_drew)); exact S_mono (S_far (p := ⟨gb186, 0, none⟩) (S_types HO203.out BK186.out (by decide)) (fun _ hk => hk.2) (.slice Ao34 y201.length co34)) (fun _ hk => trivial)⟩, ⟨by (with_reducible repeat (first | refine Za ?_ _ | refine Zb ?_ | refine blk_alloc ?_ _)); refine blk_far ?_ NB184_186.out _; (with_reducible repeat (first | refine Za ?_ _ | refine Zb ?_ | refine blk_alloc ?_ _)); exact BK184.out⟩, ⟨by (with_reducible repeat (first | refine Za ?_ _ | refine Zb ?_ | refine blk_alloc ?_ _)); refine blk_far ?_ NB185_186.out _; (with_reducible repeat (first | refine Za ?_ _ | refine Zb ?_ | refine blk_alloc ?_ _)); exact BK185.out⟩, ⟨by (with_reducible repeat (first | refine Za ?_ _ | refine Zb ?_ | refine blk_alloc ?_ _)); refine blk_put (cs := #[.slice Ao21 x187000_1.length co21]) ?_ 0 _ rfl; (with_reducible repeat (first | refine Za ?_ _ | refine Zb ?_ | refine blk_alloc ?_ _)); exact BK186.out⟩, ⟨by repeat (first | (with_reducible first | exact HB.out | apply Zf | apply Zd | apply Ze | refine Zg ?_ GE184.out | refine Zg ?_ GE185.out | refine Zg ?_ GE186.out | refine Zg ?_ GE188.out) | exact HB.out)⟩⟩
        rw [if_neg c15] at H
        exact absurd H (by simp)
       rw [if_neg c14] at H
       exact absurd H (by simp)
      rw [if_neg c13] at H
      exact absurd H (by simp)
     rw [if_neg c12] at H
     exact absurd H (by simp)
    rw [if_neg c11] at H
    exact absurd H (by simp)
   rw [if_neg c10] at H
   have c10b0 : decide (x10_1 < (l0_0.length : Int)) = false := decide_eq_false c10
   clear c10
   obtain rfl := Option.some.inj H
   have hnb36 := NB186_184.out
   have hnc36 := NB184_186.out
   have hnb37 := NB186_185.out
   have hnc37 := NB185_186.out
   have hcz38_0 : wr.cell? ⟨gb186, 0, none⟩ = some (u187000) := (blk_cell BK186.out 0).trans rfl
   have hfz38_0 := Zn BK186.out 0
   obtain ⟨Ao39, co39, eo39⟩ := S_slice HO_187000.out
   subst eo39
   have hnb40 := NB185_184.out
   have hnc40 := NB184_185.out
   have hcz41_0 : wr.cell? ⟨gb185, 0, none⟩ = some (.slice none 0 0) := (blk_cell BK185.out 0).trans rfl
   have hfz41_0 := Zn BK185.out 0
   go_wp2
   refine Zq (results_cell_row rfl _ _ gb185 28 #[.slice Ao39 x187000_1.length co39] (0, 0) _ rfl (by (with_reducible repeat (first | refine Za ?_ _ | refine Zb ?_ | refine blk_alloc ?_ _)); refine blk_put (cs := #[.slice none 0 0]) ?_ 0 _ rfl; (with_reducible repeat (first | refine Za ?_ _ | refine Zb ?_ | refine blk_alloc ?_ _)); exact BK185.out) Tryd.underlying28 rfl (by kernel_rfl)) rfl ?_
   exact ⟨_, by first | rfl | (simp [errW_none, errW_some] <;> rfl) | (simp [*, errW_none, errW_some] <;> rfl), by (with_reducible repeat (first | apply S_alloc | apply S_drewN | apply S_drew)); exact S_mono (S_far (p := ⟨gb185, 0, none⟩) (S_types HO_187000.out BK185.out (by decide)) (fun _ hk => hk.2) (.slice Ao39 x187000_1.length co39)) (fun _ hk => trivial), by repeat (first | (with_reducible first | exact HB.out | apply Zf | apply Zd | apply Ze | refine Zg ?_ GE184.out | refine Zg ?_ GE185.out | refine Zg ?_ GE186.out) | exact HB.out)⟩
end Go.Proofs.YtcgojdhbphocgaaDoor.F

namespace Go.Proofs.YtcgojdhbphocgaaDoor.SQ
open Go.RowKit Go.Proofs.YtcgojdhbphocgaaDoorW.PrintWords Go.Proofs.YtcgojdhbphocgaaDoorW.PrintLast Go.Proofs.YtcgojdhbphocgaaDoorW.PrintMore
section
variable {P : Program} {md : Region.Mode} {ops : Array Oper} {ds : List Nat} {S : World → Prop} {Q : Exit → Act → World → Prop} {oi : Oper} {v : Value} {fuel : Nat} {l : Array Bool} {a a' : Act} {w : World}
theorem p0 (i N : Nat) (h : wpAnyLast P md ops Q S ds fuel (l.setIfInBounds i true) a' w)
    (hk : anyB md ops l (l.setIfInBounds i true) i = true := by kernel_rfl) (hi : ops[i]? = some oi := by rfl) (hN : oi.dst = some N := by rfl) (hQ : ∀ c a w, Q (.panic c) (a.put oi.dst v) w → Q (.panic c) a w := by exact fun _ _ _ h => h)
    (hw : Region.wanted oi (yielded ops a.tmps) = true := by rfl) (hv : ∀ w', (execOp a.eval oi).run P w' = .ok (.value v) w' := by intro w'; go_simp; with_reducible rfl)
    (ha : a.put (some N) v = a' := by simp only [Act.put, List.setIfInBounds_toArray, List.set_cons_zero, List.set_cons_succ, i64_w, i32_w]; rfl) : wpAnyLast P md ops Q S ds (fuel + 1) l a w :=
  pure_ (l.setIfInBounds i true) hi hN hk hQ (.inl ⟨hw, hv⟩) ha h
theorem o0 (i N : Nat) (h : wpAnyLast P md ops Q S ds fuel (l.setIfInBounds i true) a' w)
    (hk : anyB md ops l (l.setIfInBounds i true) i = true := by kernel_rfl) (hi : ops[i]? = some oi := by rfl) (hN : oi.dst = some N := by rfl) (hQ : ∀ c a w, Q (.panic c) (a.put oi.dst undef) w → Q (.panic c) a w := by exact fun _ _ _ h => h)
    (hw : Region.wanted oi (yielded ops a.tmps) = false := by rfl)
    (ha : a.put (some N) undef = a' := by simp only [Act.put, List.setIfInBounds_toArray, List.set_cons_zero, List.set_cons_succ, i64_w, i32_w]; rfl) : wpAnyLast P md ops Q S ds (fuel + 1) l a w :=
  pure_ (l.setIfInBounds i true) hi hN hk hQ (.inr ⟨hw, rfl⟩) ha h
theorem t0 (i N : Nat) (hS : S w) (h : wpAnyLast P md ops Q S ds fuel (l.setIfInBounds i true) a' w)
    (hk : takeB md ops ds l (l.setIfInBounds i true) i = true := by kernel_rfl) (hi : ops[i]? = some oi := by rfl) (hN : oi.dst = some N := by rfl) (hQ : ∀ c a w, Q (.panic c) (a.put oi.dst v) w → Q (.panic c) a w := by exact fun _ _ _ h => h)
    (hw : Region.wanted oi (yielded ops a.tmps) = true := by rfl) (hv : ∀ w', S w' → (execOp a.eval oi).run P w' = .ok (.value v) w' := by intro w' hs_; go_simp; with_reducible rfl)
    (ha : a.put (some N) v = a' := by simp only [Act.put, List.setIfInBounds_toArray, List.set_cons_zero, List.set_cons_succ, i64_w, i32_w]; rfl) : wpAnyLast P md ops Q S ds (fuel + 1) l a w :=
  take_ (l.setIfInBounds i true) hi hN hk hQ (.inl ⟨hw, hv⟩) hS ha h
end
end Go.Proofs.YtcgojdhbphocgaaDoor.SQ

namespace Go.Proofs.YtcgojdhbphocgaaDoor.F
open Go.RowKit Go.Proofs.YtcgojdhbphocgaaDoorW.PrintWords Go.Proofs.YtcgojdhbphocgaaDoorW.PrintLast Go.Proofs.YtcgojdhbphocgaaDoorW.PrintMore
set_option linter.unusedVariables false
def lays160_ren : Go.Shelf.Ren := ⟨fun | 160 => 107 | 232 => 110 | 231 => 109 | 227 => 111 | 234 => 113 | 233 => 112 | 236 => 115 | 235 => 114 | 228 => 118 | 271 => 121 | 151 => 120 | 197 => 119 | 120 => 125 | 152 => 124 | 260 => 123 | 137 => 127 | 119 => 128 | 224 => 129 | 225 => 130 | 217 => 131 | 266 => 132 | n => n, fun | 9 => 9 | 4 => 4 | 3 => 3 | 5 => 5 | 117 => 113 | 116 => 112 | 0 => 0 | 124 => 116 | 21 => 21 | 105 => 119 | 46 => 107 | 119 => 124 | 139 => 127 | 138 => 126 | n => n, fun | 3 => 1 | 4 => 2 | n => n⟩
theorem lays160 : Go.Proofs.Lays.n160 Tryd.prog lays160_ren where
  mixed := by kernel_rfl
  f119 := Tryd.func128.trans (congrArg some (by kernel_rfl))
  f120 := Tryd.func125.trans (congrArg some (by kernel_rfl))
  f137 := Tryd.func127.trans (congrArg some (by kernel_rfl))
  f151 := Tryd.func120.trans (congrArg some (by kernel_rfl))
  f152 := Tryd.func124.trans (congrArg some (by kernel_rfl))
  f160 := Tryd.func107.trans (congrArg some (by kernel_rfl))
  f197 := Tryd.func119.trans (congrArg some (by kernel_rfl))
  f217 := Tryd.func131.trans (congrArg some (by kernel_rfl))
  f224 := Tryd.func129.trans (congrArg some (by kernel_rfl))
  f225 := Tryd.func130.trans (congrArg some (by kernel_rfl))
  f227 := Tryd.func111.trans (congrArg some (by kernel_rfl))
  f228 := Tryd.func118.trans (congrArg some (by kernel_rfl))
  f231 := Tryd.func109.trans (congrArg some (by kernel_rfl))
  f232 := Tryd.func110.trans (congrArg some (by kernel_rfl))
  f233 := Tryd.func112.trans (congrArg some (by kernel_rfl))
  f234 := Tryd.func113.trans (congrArg some (by kernel_rfl))
  f235 := Tryd.func114.trans (congrArg some (by kernel_rfl))
  f236 := Tryd.func115.trans (congrArg some (by kernel_rfl))
  f260 := Tryd.func123.trans (congrArg some (by kernel_rfl))
  f266 := Tryd.func132.trans (congrArg some (by kernel_rfl))
  f271 := Tryd.func121.trans (congrArg some (by kernel_rfl))
  t0 := Tryd.underlying0
  a0 := Tryd.isAgg0
  z0 := Tryd.sizeOf0
  v0 := Tryd.zeroValue0
  t3 := Tryd.underlying3
  a3 := Tryd.isAgg3
  z3 := Tryd.sizeOf3
  v3 := Tryd.zeroValue3
  t4 := Tryd.underlying4
  a4 := Tryd.isAgg4
  z4 := Tryd.sizeOf4
  v4 := Tryd.zeroValue4
  t5 := Tryd.underlying5
  a5 := Tryd.isAgg5
  z5 := Tryd.sizeOf5
  v5 := Tryd.zeroValue5
  t9 := Tryd.underlying9
  a9 := Tryd.isAgg9
  z9 := Tryd.sizeOf9
  v9 := Tryd.zeroValue9
  t21 := Tryd.underlying21
  a21 := Tryd.isAgg21
  z21 := Tryd.sizeOf21
  v21 := Tryd.zeroValue21
  t46 := Tryd.underlying107
  a46 := Tryd.isAgg107
  z46 := Tryd.sizeOf107
  v46 := Tryd.zeroValue107
  t105 := Tryd.underlying119
  a105 := Tryd.isAgg119
  z105 := Tryd.sizeOf119
  v105 := Tryd.zeroValue119
  t116 := Tryd.underlying112
  a116 := Tryd.isAgg112
  z116 := Tryd.sizeOf112
  t117 := Tryd.underlying113
  a117 := Tryd.isAgg113
  z117 := Tryd.sizeOf113
  v117 := Tryd.zeroValue113
  t119 := Tryd.underlying124
  a119 := Tryd.isAgg124
  z119 := Tryd.sizeOf124
  t124 := Tryd.underlying116
  a124 := Tryd.isAgg116
  z124 := Tryd.sizeOf116
  v124 := Tryd.zeroValue116
  t138 := Tryd.underlying126
  a138 := Tryd.isAgg126
  z138 := Tryd.sizeOf126
  v138 := Tryd.zeroValue126
  t139 := Tryd.underlying127
  a139 := Tryd.isAgg127
  z139 := Tryd.sizeOf127
  v139 := Tryd.zeroValue127
  g3 := by kernel_rfl
  g4 := by kernel_rfl
def trimF.f (s c : ByteArray) : Option ByteArray := if s.size ≤ 9223372036854775807 ∧ c.size < 4294967281 ∧ c.data.toList.all (fun b => decide (b.toNat < 128)) = true then some ⟨(Go.Lib.trimS s.data.toList c.data.toList).toArray⟩ else none
theorem trimF.calls (a0 a1 : ByteArray) (r : ByteArray) (w : World) (h : trimF.f a0 a1 = some r) :
    Calls Tryd.prog 107 #[.string a0, .string a1] w fun e w' => e = .returned (.string r) ∧ Below w.heap.size w w' := by
  unfold trimF.f at h
  split at h
  · rename_i hc
    have h := Option.some.inj h
    subst h
    exact Any.strings_Trim_laid lays160 (by kernel_rfl) a0 a1 w hc.1 hc.2.1 (ascii_of_all hc.2.2)
  cases h
end Go.Proofs.YtcgojdhbphocgaaDoor.F

namespace Go.Proofs.YtcgojdhbphocgaaDoor.F
open Go.RowKit Go.Proofs.YtcgojdhbphocgaaDoorW.PrintWords Go.Proofs.YtcgojdhbphocgaaDoorW.PrintWords.Kd Go.Proofs.YtcgojdhbphocgaaDoorW.PrintMore.Kd Go.Proofs.YtcgojdhbphocgaaDoorW.PrintLast Go.Proofs.YtcgojdhbphocgaaDoorW.PrintMore
attribute [local go_sem] max2_int min2_int max_two min_two max_three min_three max_four min_four   -- for this text's walks alone
set_option linter.unusedVariables false
set_option linter.unusedSimpArgs false
def impl_isFileName.f (a0 : ByteArray) : Option (Bool) := if (a0.size : Int) ≥ 1 then (if (a0.size : Int) ≤ 12 then ((trimF.f a0 (⟨#[97, 98, 99, 100, 101, 102, 103, 104, 105, 106, 107, 108, 109, 110, 111, 112, 113, 114, 115, 116, 117, 118, 119, 120, 121, 122, 48, 49, 50, 51, 52, 53, 54, 55, 56, 57]⟩ : ByteArray)).bind fun t205 => (some (t205.toList == ([] : List UInt8)))) else (some false)) else (some false)
set_option maxHeartbeats 8000000 in
set_option maxRecDepth 100000 in
theorem impl_isFileName.calls (a0 : ByteArray) (r : Bool) (w : World) (h : impl_isFileName.f a0 = some r) :
  Calls Tryd.prog 93 #[.string a0] w fun e w' => e = .returned (.bool r) ∧ Below w.heap.size w w' := by
 have HB := Zh (Below.refl w.heap.size w)
 have H : (if (a0.size : Int) ≥ 1 then (if (a0.size : Int) ≤ 12 then ((trimF.f a0 (⟨#[97, 98, 99, 100, 101, 102, 103, 104, 105, 106, 107, 108, 109, 110, 111, 112, 113, 114, 115, 116, 117, 118, 119, 120, 121, 122, 48, 49, 50, 51, 52, 53, 54, 55, 56, 57]⟩ : ByteArray)).bind fun t205 => (some (t205.toList == ([] : List UInt8)))) else (some false)) else (some false)) = some r := h
 clear h
 by_cases c2 : (a0.size : Int) ≥ 1
 ·
  rw [if_pos c2] at H
  have c2b0 : decide (1 ≤ (a0.size : Int)) = true := decide_eq_true c2
  have c2b1 : decide (1 ≤ a0.size) = true := decide_eq_true (by omega)
  clear c2
  by_cases c3 : (a0.size : Int) ≤ 12
  ·
   rw [if_pos c3] at H
   have c3b0 : decide ((a0.size : Int) ≤ 12) = true := decide_eq_true c3
   have c3b1 : decide (a0.size ≤ 12) = true := decide_eq_true (by omega)
   clear c3
   replace H := Option.bind_eq_some_iff.mp H
   obtain ⟨t205, A40, H⟩ := H
   replace H : (some (t205.toList == ([] : List UInt8))) = some r := H
   have A4 := Zh A40
   clear A40
   obtain rfl := Option.some.inj H
   go_enter Tryd.func93, Tryd.ntmps93
   go_wp2_with (first | (go_at_call 107; (with_reducible refine (trimF.calls a0 (⟨#[97, 98, 99, 100, 101, 102, 103, 104, 105, 106, 107, 108, 109, 110, 111, 112, 113, 114, 115, 116, 117, 118, 119, 120, 121, 122, 48, 49, 50, 51, 52, 53, 54, 55, 56, 57]⟩ : ByteArray) t205 _ A4.out).mono ?_); rintro e w5 ⟨rfl, hb⟩; have n0_ := Zh (Zl Zs hb); clear HB; have HB := n0_; clear n0_; (try clear hb); (try clear hb2); (try clear hk); (try clear hi)))
   go_ret
   exact ⟨by first | rfl | (simp [errW_none, errW_some] <;> rfl) | (simp [*, errW_none, errW_some] <;> rfl), by repeat (first | (with_reducible first | exact HB.out | apply Zf | apply Zd | apply Ze) | exact HB.out)⟩
  rw [if_neg c3] at H
  have c3b0 : decide ((a0.size : Int) ≤ 12) = false := decide_eq_false c3
  have c3b1 : decide (a0.size ≤ 12) = false := decide_eq_false (by omega)
  clear c3
  obtain rfl := Option.some.inj H
  go_enter Tryd.func93, Tryd.ntmps93
  go_wp2
  go_ret
  exact ⟨by first | rfl | (simp [errW_none, errW_some] <;> rfl) | (simp [*, errW_none, errW_some] <;> rfl), by repeat (first | (with_reducible first | exact HB.out | apply Zf | apply Zd | apply Ze) | exact HB.out)⟩
 rw [if_neg c2] at H
 have c2b0 : decide (1 ≤ (a0.size : Int)) = false := decide_eq_false c2
 have c2b1 : decide (1 ≤ a0.size) = false := decide_eq_false (by omega)
 clear c2
 obtain rfl := Option.some.inj H
 go_enter Tryd.func93, Tryd.ntmps93
 go_wp2
 go_ret
 exact ⟨by first | rfl | (simp [errW_none, errW_some] <;> rfl) | (simp [*, errW_none, errW_some] <;> rfl), by repeat (first | (with_reducible first | exact HB.out | apply Zf | apply Zd | apply Ze) | exact HB.out)⟩
end Go.Proofs.YtcgojdhbphocgaaDoor.F

namespace Go.Proofs.YtcgojdhbphocgaaDoor.F
open Go.RowKit Go.Proofs.YtcgojdhbphocgaaDoorW.PrintWords Go.Proofs.YtcgojdhbphocgaaDoorW.PrintLast Go.Proofs.YtcgojdhbphocgaaDoorW.PrintMore
open Go.Proofs.YtcgojdhbphocgaaDoor
set_option linter.unusedVariables false
set_option linter.unusedSimpArgs false
def impl_isDisk.l0 : Nat → List (S55) → Int → Int → List (S55) → Option (Bool)
  | 0, _, _, _, _ => none
  | k + 1, x6, x7, x8, x => if x8 < x7 then (if 0 ≤ x8 then (if x8 < (x6.length : Int) then ((impl_isFileName.f ((rd_T55 x6 x8).f0)).bind fun t151 => (if t151 = true then (if (wrap64 ((((rd_T55 x6 x8).f1).length : Int) + (((rd_T55 x6 x8).f2).length : Int))) > 20000 then (some false) else (if x8 > 0 then (if 0 ≤ (wrap64 (x8 - 1)) then (if (wrap64 (x8 - 1)) < (x.length : Int) then (if ((Op.bytesLess (((rd_T55 x (wrap64 (x8 - 1))).f0).toList) (((rd_T55 x6 x8).f0).toList)) = true) then (impl_isDisk.l0 k x6 x7 (wrap64 (x8 + 1)) x) else (some false)) else (none)) else (none)) else (impl_isDisk.l0 k x6 x7 (wrap64 (x8 + 1)) x))) else (some false))) else (none)) else (none)) else (some (decide ((x.length : Int) ≤ 8)))
def impl_isDisk.f (k : Nat) (l0_0 : List (S55)) : Option (Bool) := impl_isDisk.l0 k l0_0 (l0_0.length : Int) 0 l0_0
set_option maxHeartbeats 8000000 in
set_option maxRecDepth 100000 in
theorem impl_isDisk.calls (k : Nat) (A0_0 : Option Addr) (c0_0 : Nat) (l0_0 : List (S55)) (r : Bool) (w : World) (hr0_0 : Kd.C k55 w A0_0 l0_0.length l0_0) (hc0_0 : l0_0.length ≤ c0_0) (h : impl_isDisk.f k l0_0 = some r) :
    Calls Tryd.prog 72 #[.agg #[.slice A0_0 l0_0.length c0_0]] w fun e w' => e = .returned (.bool r) ∧ Below w.heap.size w w' := by
  have HR := Zh hr0_0
  clear hr0_0 hc0_0
  have ST := Zh (LW.St.start w)
  have hu28 := Tryd.underlying28
  have hu55 := Tryd.underlying55
  have H := Zh (show impl_isDisk.l0 k l0_0 (l0_0.length : Int) 0 l0_0 = some r from h)
  clear h
  go_enter Tryd.func72, Tryd.ntmps72
  go_wp2_with fail
  replace ST := Zh (ST.out.alloc #[.slice A0_0 l0_0.length c0_0] 28 (g := w.heap.size) rfl)
  generalize hW : (w.alloc (.cells #[.slice A0_0 l0_0.length c0_0] 28)) = W at ST ⊢
  clear hW
  go_loopg [8] k (fun kq v8 w' => ∃ (x8 : Int), v8 = .int .i64 x8 ∧ Aside0 (impl_isDisk.l0 kq l0_0 (l0_0.length : Int) x8 l0_0 = some r) ∧ Aside0 (LW.St w w' [LW.box w.heap.size #[.slice A0_0 l0_0.length c0_0] 28]))
  case atStart => exact ⟨0, rfl, H, ST⟩
  case round =>
    clear H ST
    obtain ⟨x8, rfl, HA, ST⟩ := hrel
    cases gk with
    | zero => exact absurd HA.out (by simp [impl_isDisk.l0])
    | succ k1 =>
      have H := HA.out
      clear HA
      simp only [impl_isDisk.l0] at H
      by_cases c8 : x8 < (l0_0.length : Int)
      · rw [if_pos c8] at H
        have q8 := decide_eq_true c8
        by_cases p0 : 0 ≤ x8
        · rw [if_pos p0, if_pos c8] at H
          obtain ⟨t, A7, H⟩ := Option.bind_eq_some_iff.mp H
          replace A7 := Zh A7
          obtain ⟨ad, B1, d1, B2, d2, e, E0, E1, E2, _, _, _, _⟩ := at_T55 HR.out x8 p0 c8
          cases e
          have hx0 := (ST.out.b.cell (Zi w _ E0)).trans E0
          have hx1 := (ST.out.b.cell (Zi w _ E1)).trans E1
          have hx2 := (ST.out.b.cell (Zi w _ E2)).trans E2
          have p1 := eq_true p0
          have p2 := eq_true c8
          clear E0 E1 E2 p0 c8
          go_wp2_with fail
          replace ST := Zh (ST.out.alloc #[.string (rd_T55 l0_0 x8).f0, .slice B1 (rd_T55 l0_0 x8).f1.length d1, .slice B2 (rd_T55 l0_0 x8).f2.length d2] 55 (g := wr.heap.size) rfl)
          clear hx0 hx1 hx2
          cases t with
          | false =>
            rw [if_neg (by decide)] at H
            obtain rfl := Option.some.inj H
            clear H
            replace ST := Zh ST.out.drew
            refine start_ (n := 30) (S := fun w' => w'.cell? ⟨wr.heap.size, 0, none⟩ = some (.string (rd_T55 l0_0 x8).f0) ∧ w'.cell? ⟨wr.heap.size, 1, none⟩ = some (.slice B1 (rd_T55 l0_0 x8).f1.length d1) ∧ w'.cell? ⟨wr.heap.size, 2, none⟩ = some (.slice B2 (rd_T55 l0_0 x8).f2.length d2)) (ds := []) #[false, false, false, false, false, false, false, false, false, false, false, false, false, false, false, false, false, false, false, false, false, false, false, false, false, false, false, false, false, false] (by kernel_rfl) rfl rfl ⟨ST.out.cell 0 rfl 0 rfl, ST.out.cell 0 rfl 1 rfl, ST.out.cell 0 rfl 2 rfl⟩ (fun hHeld => ?_)
            generalize (wr.alloc (.cells #[.string (rd_T55 l0_0 x8).f0, .slice B1 (rd_T55 l0_0 x8).f1.length d1, .slice B2 (rd_T55 l0_0 x8).f2.length d2] 55)).drew = w8 at ST hHeld ⊢
            refine SQ.p0 0 13 ?_
            refine SQ.t0 1 14 hHeld ?_
            refine one_ (i := 2) (N := some 15) #[true, true, true, false, false, false, false, false, false, false, false, false, false, false, false, false, false, false, false, false, false, false, false, false, false, false, false, false, false, false] rfl rfl (by kernel_rfl) (by decide) (fun K hK => ?_)
            refine goes_ Tryd.func93 (by kernel_rfl) rfl #[.string (rd_T55 l0_0 x8).f0] (by rfl) rfl rfl (by (try simp only [List.map_toArray, List.map_cons, List.map_nil]); first | done | rfl) ?_
            with_reducible refine (impl_isFileName.calls (rd_T55 l0_0 x8).f0 _ _ A7.out).mono ?_
            rintro e w9 ⟨rfl, hb⟩
            refine ⟨_, rfl, ?_⟩
            replace ST := Zh (ST.out.step hb)
            clear hb hHeld
            refine hK.out _ _ ⟨ST.out.cell 0 rfl 0 rfl, ST.out.cell 0 rfl 1 rfl, ST.out.cell 0 rfl 2 rfl⟩ (fun hHeld => ?_)
            clear hK K
            refine norm_ (a' := ?_) ?_ ?_
            rotate_left
            · show Act.put _ (some 15) _ = _
              simp only [Act.put, List.setIfInBounds_toArray, List.set_cons_zero, List.set_cons_succ, i64_w, i32_w]
              rfl
            refine SQ.p0 3 16 ?_
            refine SQ.p0 4 17 ?_
            refine SQ.o0 5 18 ?_
            refine SQ.o0 6 19 ?_
            refine SQ.o0 7 20 ?_
            refine SQ.o0 8 21 ?_
            refine SQ.o0 9 22 ?_
            refine SQ.o0 10 23 ?_
            refine SQ.o0 11 24 ?_
            refine SQ.o0 12 25 ?_
            refine SQ.p0 13 26 ?_
            refine SQ.p0 14 27 ?_
            refine SQ.o0 15 28 ?_
            refine SQ.o0 16 29 ?_
            refine SQ.o0 17 30 ?_
            refine SQ.o0 18 31 ?_
            refine SQ.o0 19 32 ?_
            refine SQ.o0 20 33 ?_
            refine SQ.o0 21 34 ?_
            refine SQ.o0 22 35 ?_
            refine SQ.o0 23 36 ?_
            refine SQ.o0 24 37 ?_
            refine SQ.o0 25 38 ?_
            refine SQ.o0 26 39 ?_
            refine SQ.o0 27 40 ?_
            refine SQ.o0 28 41 ?_
            refine SQ.p0 29 42 ?_
            refine done_ (by kernel_rfl) ?_
            clear hHeld
            go_wp2
            go_ret
            exact ⟨rfl, ST.out.b⟩
          | true =>
            rw [if_pos rfl] at H
            by_cases c9 : (wrap64 ((((rd_T55 l0_0 x8).f1).length : Int) + (((rd_T55 l0_0 x8).f2).length : Int))) > 20000
            · rw [if_pos c9] at H
              obtain rfl := Option.some.inj H
              have q9 : decide (20000 < wrap64 ((((rd_T55 l0_0 x8).f1).length : Int) + (((rd_T55 l0_0 x8).f2).length : Int))) = true := decide_eq_true c9
              clear H c9
              replace ST := Zh ST.out.drew
              refine start_ (n := 30) (S := fun w' => w'.cell? ⟨wr.heap.size, 0, none⟩ = some (.string (rd_T55 l0_0 x8).f0) ∧ w'.cell? ⟨wr.heap.size, 1, none⟩ = some (.slice B1 (rd_T55 l0_0 x8).f1.length d1) ∧ w'.cell? ⟨wr.heap.size, 2, none⟩ = some (.slice B2 (rd_T55 l0_0 x8).f2.length d2)) (ds := []) #[false, false, false, false, false, false, false, false, false, false, false, false, false, false, false, false, false, false, false, false, false, false, false, false, false, false, false, false, false, false] (by kernel_rfl) rfl rfl ⟨ST.out.cell 0 rfl 0 rfl, ST.out.cell 0 rfl 1 rfl, ST.out.cell 0 rfl 2 rfl⟩ (fun hHeld => ?_)
              generalize (wr.alloc (.cells #[.string (rd_T55 l0_0 x8).f0, .slice B1 (rd_T55 l0_0 x8).f1.length d1, .slice B2 (rd_T55 l0_0 x8).f2.length d2] 55)).drew = w8 at ST hHeld ⊢
              refine SQ.p0 0 13 ?_
              refine SQ.t0 1 14 hHeld ?_
              refine one_ (i := 2) (N := some 15) #[true, true, true, false, false, false, false, false, false, false, false, false, false, false, false, false, false, false, false, false, false, false, false, false, false, false, false, false, false, false] rfl rfl (by kernel_rfl) (by decide) (fun K hK => ?_)
              refine goes_ Tryd.func93 (by kernel_rfl) rfl #[.string (rd_T55 l0_0 x8).f0] (by rfl) rfl rfl (by (try simp only [List.map_toArray, List.map_cons, List.map_nil]); first | done | rfl) ?_
              with_reducible refine (impl_isFileName.calls (rd_T55 l0_0 x8).f0 _ _ A7.out).mono ?_
              rintro e w9 ⟨rfl, hb⟩
              refine ⟨_, rfl, ?_⟩
              replace ST := Zh (ST.out.step hb)
              clear hb hHeld
              refine hK.out _ _ ⟨ST.out.cell 0 rfl 0 rfl, ST.out.cell 0 rfl 1 rfl, ST.out.cell 0 rfl 2 rfl⟩ (fun hHeld => ?_)
              clear hK K
              refine norm_ (a' := ?_) ?_ ?_
              rotate_left
              · show Act.put _ (some 15) _ = _
                simp only [Act.put, List.setIfInBounds_toArray, List.set_cons_zero, List.set_cons_succ, i64_w, i32_w]
                rfl
              refine SQ.p0 3 16 ?_
              refine SQ.p0 4 17 ?_
              refine SQ.p0 5 18 ?_
              refine SQ.t0 6 19 hHeld ?_
              refine SQ.p0 7 20 ?_
              refine SQ.p0 8 21 ?_
              refine SQ.t0 9 22 hHeld ?_
              refine SQ.p0 10 23 ?_
              refine SQ.p0 11 24 ?_
              refine SQ.p0 12 25 ?_
              refine SQ.p0 13 26 ?_
              refine SQ.p0 14 27 ?_
              refine SQ.o0 15 28 ?_
              refine SQ.o0 16 29 ?_
              refine SQ.o0 17 30 ?_
              refine SQ.o0 18 31 ?_
              refine SQ.o0 19 32 ?_
              refine SQ.o0 20 33 ?_
              refine SQ.o0 21 34 ?_
              refine SQ.o0 22 35 ?_
              refine SQ.o0 23 36 ?_
              refine SQ.o0 24 37 ?_
              refine SQ.o0 25 38 ?_
              refine SQ.o0 26 39 ?_
              refine SQ.o0 27 40 ?_
              refine SQ.o0 28 41 ?_
              refine SQ.p0 29 42 ?_
              refine done_ (by kernel_rfl) ?_
              clear hHeld
              go_wp2
              go_ret
              exact ⟨rfl, ST.out.b⟩
            rw [if_neg c9] at H
            have q9 : decide (20000 < wrap64 ((((rd_T55 l0_0 x8).f1).length : Int) + (((rd_T55 l0_0 x8).f2).length : Int))) = false := decide_eq_false c9
            clear c9
            by_cases c10 : x8 > 0
            · rw [if_pos c10] at H
              have q10 : decide (0 < x8) = true := decide_eq_true c10
              clear c10
              by_cases c11 : 0 ≤ wrap64 (x8 - 1)
              · rw [if_pos c11] at H
                by_cases c12 : wrap64 (x8 - 1) < (l0_0.length : Int)
                · rw [if_pos c12] at H
                  obtain ⟨ad2, B3, d3, B4, d4, e, E0, _, _, _, _, _, _⟩ := at_T55 HR.out (wrap64 (x8 - 1)) c11 c12
                  cases e
                  have HP := Zh E0
                  have p3 := eq_true c11
                  have p4 := eq_true c12
                  clear E0 c11 c12
                  replace ST := Zh ST.out.drew
                  refine start_ (n := 30) (S := fun w' => w'.cell? ⟨wr.heap.size, 0, none⟩ = some (.string (rd_T55 l0_0 x8).f0) ∧ w'.cell? ⟨wr.heap.size, 1, none⟩ = some (.slice B1 (rd_T55 l0_0 x8).f1.length d1) ∧ w'.cell? ⟨wr.heap.size, 2, none⟩ = some (.slice B2 (rd_T55 l0_0 x8).f2.length d2) ∧ w'.cell? ⟨w.heap.size, 0, none⟩ = some (.slice (some ad) l0_0.length c0_0) ∧ w'.cell? (ad.add ((wrap64 (x8 - 1)).toNat * 3)) = some (.string (rd_T55 l0_0 (wrap64 (x8 - 1))).f0)) (ds := []) #[false, false, false, false, false, false, false, false, false, false, false, false, false, false, false, false, false, false, false, false, false, false, false, false, false, false, false, false, false, false] (by kernel_rfl) rfl rfl ⟨ST.out.cell 0 rfl 0 rfl, ST.out.cell 0 rfl 1 rfl, ST.out.cell 0 rfl 2 rfl, ST.out.cell 1 rfl 0 rfl, (ST.out.b.cell (Zi w _ HP.out)).trans HP.out⟩ (fun hHeld => ?_)
                  generalize (wr.alloc (.cells #[.string (rd_T55 l0_0 x8).f0, .slice B1 (rd_T55 l0_0 x8).f1.length d1, .slice B2 (rd_T55 l0_0 x8).f2.length d2] 55)).drew = w8 at ST hHeld ⊢
                  refine SQ.p0 0 13 ?_
                  refine SQ.t0 1 14 hHeld ?_
                  refine one_ (i := 2) (N := some 15) #[true, true, true, false, false, false, false, false, false, false, false, false, false, false, false, false, false, false, false, false, false, false, false, false, false, false, false, false, false, false] rfl rfl (by kernel_rfl) (by decide) (fun K hK => ?_)
                  refine goes_ Tryd.func93 (by kernel_rfl) rfl #[.string (rd_T55 l0_0 x8).f0] (by rfl) rfl rfl (by (try simp only [List.map_toArray, List.map_cons, List.map_nil]); first | done | rfl) ?_
                  with_reducible refine (impl_isFileName.calls (rd_T55 l0_0 x8).f0 _ _ A7.out).mono ?_
                  rintro e w9 ⟨rfl, hb⟩
                  refine ⟨_, rfl, ?_⟩
                  replace ST := Zh (ST.out.step hb)
                  clear hb hHeld
                  refine hK.out _ _ ⟨ST.out.cell 0 rfl 0 rfl, ST.out.cell 0 rfl 1 rfl, ST.out.cell 0 rfl 2 rfl, ST.out.cell 1 rfl 0 rfl, (ST.out.b.cell (Zi w _ HP.out)).trans HP.out⟩ (fun hHeld => ?_)
                  clear hK K
                  refine norm_ (a' := ?_) ?_ ?_
                  rotate_left
                  · show Act.put _ (some 15) _ = _
                    simp only [Act.put, List.setIfInBounds_toArray, List.set_cons_zero, List.set_cons_succ, i64_w, i32_w]
                    rfl
                  refine SQ.p0 3 16 ?_
                  refine SQ.p0 4 17 ?_
                  refine SQ.p0 5 18 ?_
                  refine SQ.t0 6 19 hHeld ?_
                  refine SQ.p0 7 20 ?_
                  refine SQ.p0 8 21 ?_
                  refine SQ.t0 9 22 hHeld ?_
                  refine SQ.p0 10 23 ?_
                  refine SQ.p0 11 24 ?_
                  refine SQ.p0 12 25 ?_
                  refine SQ.p0 13 26 ?_
                  refine SQ.p0 14 27 ?_
                  refine SQ.p0 15 28 ?_
                  refine SQ.p0 16 29 ?_
                  refine SQ.p0 17 30 ?_
                  refine SQ.p0 18 31 ?_
                  refine SQ.t0 19 32 hHeld ?_
                  refine SQ.p0 20 33 ?_
                  refine SQ.p0 21 34 ?_
                  refine SQ.p0 22 35 ?_
                  refine SQ.p0 23 36 ?_
                  refine SQ.t0 24 37 hHeld ?_
                  refine SQ.p0 25 38 ?_
                  refine SQ.t0 26 39 hHeld ?_
                  refine SQ.p0 27 40 ?_
                  refine SQ.p0 28 41 ?_
                  refine SQ.p0 29 42 ?_
                  refine done_ (by kernel_rfl) ?_
                  clear hHeld
                  cases hl : Op.bytesLess (rd_T55 l0_0 (wrap64 (x8 - 1))).f0.toList (rd_T55 l0_0 x8).f0.toList with
                  | true =>
                    rw [if_pos hl] at H
                    have H' := Zh H
                    clear H
                    go_wp2
                    go_roundg k1
                    case measure => omega
                    case rel => exact ⟨_, rfl, H', ⟨ST.out.tail⟩⟩
                  | false =>
                    rw [if_neg (by rw [hl]; decide)] at H
                    obtain rfl := Option.some.inj H
                    clear H
                    go_wp2
                    go_ret
                    exact ⟨rfl, ST.out.b⟩
                rw [if_neg c12] at H; exact absurd H (by simp)
              rw [if_neg c11] at H; exact absurd H (by simp)
            rw [if_neg c10] at H
            have q10 : decide (0 < x8) = false := decide_eq_false c10
            have H' := Zh H
            clear H c10
            replace ST := Zh ST.out.drew
            refine start_ (n := 30) (S := fun w' => w'.cell? ⟨wr.heap.size, 0, none⟩ = some (.string (rd_T55 l0_0 x8).f0) ∧ w'.cell? ⟨wr.heap.size, 1, none⟩ = some (.slice B1 (rd_T55 l0_0 x8).f1.length d1) ∧ w'.cell? ⟨wr.heap.size, 2, none⟩ = some (.slice B2 (rd_T55 l0_0 x8).f2.length d2)) (ds := []) #[false, false, false, false, false, false, false, false, false, false, false, false, false, false, false, false, false, false, false, false, false, false, false, false, false, false, false, false, false, false] (by kernel_rfl) rfl rfl ⟨ST.out.cell 0 rfl 0 rfl, ST.out.cell 0 rfl 1 rfl, ST.out.cell 0 rfl 2 rfl⟩ (fun hHeld => ?_)
            generalize (wr.alloc (.cells #[.string (rd_T55 l0_0 x8).f0, .slice B1 (rd_T55 l0_0 x8).f1.length d1, .slice B2 (rd_T55 l0_0 x8).f2.length d2] 55)).drew = w8 at ST hHeld ⊢
            refine SQ.p0 0 13 ?_
            refine SQ.t0 1 14 hHeld ?_
            refine one_ (i := 2) (N := some 15) #[true, true, true, false, false, false, false, false, false, false, false, false, false, false, false, false, false, false, false, false, false, false, false, false, false, false, false, false, false, false] rfl rfl (by kernel_rfl) (by decide) (fun K hK => ?_)
            refine goes_ Tryd.func93 (by kernel_rfl) rfl #[.string (rd_T55 l0_0 x8).f0] (by rfl) rfl rfl (by (try simp only [List.map_toArray, List.map_cons, List.map_nil]); first | done | rfl) ?_
            with_reducible refine (impl_isFileName.calls (rd_T55 l0_0 x8).f0 _ _ A7.out).mono ?_
            rintro e w9 ⟨rfl, hb⟩
            refine ⟨_, rfl, ?_⟩
            replace ST := Zh (ST.out.step hb)
            clear hb hHeld
            refine hK.out _ _ ⟨ST.out.cell 0 rfl 0 rfl, ST.out.cell 0 rfl 1 rfl, ST.out.cell 0 rfl 2 rfl⟩ (fun hHeld => ?_)
            clear hK K
            refine norm_ (a' := ?_) ?_ ?_
            rotate_left
            · show Act.put _ (some 15) _ = _
              simp only [Act.put, List.setIfInBounds_toArray, List.set_cons_zero, List.set_cons_succ, i64_w, i32_w]
              rfl
            refine SQ.p0 3 16 ?_
            refine SQ.p0 4 17 ?_
            refine SQ.p0 5 18 ?_
            refine SQ.t0 6 19 hHeld ?_
            refine SQ.p0 7 20 ?_
            refine SQ.p0 8 21 ?_
            refine SQ.t0 9 22 hHeld ?_
            refine SQ.p0 10 23 ?_
            refine SQ.p0 11 24 ?_
            refine SQ.p0 12 25 ?_
            refine SQ.p0 13 26 ?_
            refine SQ.p0 14 27 ?_
            refine SQ.p0 15 28 ?_
            refine SQ.p0 16 29 ?_
            refine SQ.p0 17 30 ?_
            refine SQ.o0 18 31 ?_
            refine SQ.o0 19 32 ?_
            refine SQ.o0 20 33 ?_
            refine SQ.o0 21 34 ?_
            refine SQ.o0 22 35 ?_
            refine SQ.o0 23 36 ?_
            refine SQ.o0 24 37 ?_
            refine SQ.o0 25 38 ?_
            refine SQ.o0 26 39 ?_
            refine SQ.o0 27 40 ?_
            refine SQ.p0 28 41 ?_
            refine SQ.p0 29 42 ?_
            refine done_ (by kernel_rfl) ?_
            clear hHeld
            go_wp2
            go_roundg k1
            case measure => omega
            case rel => exact ⟨_, rfl, H', ⟨ST.out.tail⟩⟩
        rw [if_neg p0] at H; exact absurd H (by simp)
      rw [if_neg c8] at H
      have q8 := decide_eq_false c8
      obtain rfl := Option.some.inj H
      have hc0 := ST.out.cell 0 rfl 0 (u := .slice A0_0 l0_0.length c0_0) rfl
      clear H c8
      go_wp2
      go_ret
      exact ⟨rfl, ST.out.b⟩
def impl_appendFile.fin (k : Nat) (l0_0 p : List S55) (a1 : ByteArray) (d : List Int) : Option (List S55 × Bool) := (impl_fileOf.f p a1).bind fun i => if 0 ≤ i then (if i < (p.length : Int) then (if (rd_T55 p i).f2.length + d.length ≤ 140737488355328 then (impl_isDisk.f k (p.set i.toNat ⟨(rd_T55 p i).f0, (rd_T55 p i).f1, (rd_T55 p i).f2 ++ d⟩)).bind fun t => if t = true then some (p.set i.toNat ⟨(rd_T55 p i).f0, (rd_T55 p i).f1, (rd_T55 p i).f2 ++ d⟩, true) else (impl_copyDisk.f k l0_0).bind fun o => some (o, false) else none) else none) else none
def impl_appendFile.f (k : Nat) (l0_0 : List S55) (a1 : ByteArray) (d : List Int) : Option (List S55 × Bool) := (impl_copyDisk.f k l0_0).bind fun o => (impl_isDisk.f k l0_0).bind fun t => if t = true then (impl_isFileName.f a1).bind fun n => if n = true then (impl_fileOf.f o a1).bind fun j => if j < 0 then (if (o.length + 1) * 64 ≤ 140737488355328 then impl_appendFile.fin k l0_0 (insM o ⟨a1, [], []⟩) a1 d else none) else impl_appendFile.fin k l0_0 o a1 d else some (o, false) else some (o, false)
set_option maxHeartbeats 8000000 in
set_option maxRecDepth 100000 in
theorem impl_appendFile.calls (k : Nat) (A0_0 : Option Addr) (c0_0 : Nat) (l0_0 : List S55) (a1 : ByteArray) (A2 : Option Addr) (c2 : Nat) (l2 : List Int) (r1 : List S55) (r2 : Bool) (w : World) (hr0_0 : Kd.C k55 w A0_0 l0_0.length l0_0) (hc0_0 : l0_0.length ≤ c0_0) (hr2 : Kd.C (Kd.int .u8) w A2 l2.length l2) (hc2 : l2.length ≤ c2) (h : impl_appendFile.f k l0_0 a1 l2 = some (r1, r2)) :
    Calls Tryd.prog 61 #[.agg #[.slice A0_0 l0_0.length c0_0], .string a1, .slice A2 l2.length c2] w fun e w' => ∃ v0_ : Value, e = .returned (.tuple #[.agg #[v0_], .bool r2]) ∧ Kd.S k55 55 w' w.heap.size (fun _ => True) v0_ r1 ∧ Below w.heap.size w w' := by
  have HR := Zh hr0_0
  have HC := Zh hc0_0
  have HR2 := Zh hr2
  have HC2 := Zh hc2
  clear hr0_0 hc0_0 hr2 hc2
  have ST := Zh (LW.St.start w)
  have hu28 := Tryd.underlying28
  have hu55 := Tryd.underlying55
  unfold impl_appendFile.f at h
  replace h := Option.bind_eq_some_iff.mp h
  obtain ⟨o, HA1, h⟩ := h
  replace h := Option.bind_eq_some_iff.mp h
  obtain ⟨t, HA2, h⟩ := h
  replace HA1 := Zh HA1
  replace HA2 := Zh HA2
  have H := Zh h
  clear h
  go_enter Tryd.func61, Tryd.ntmps61
  go_wp2_with fail
  replace ST := Zh (ST.out.alloc #[.slice A0_0 l0_0.length c0_0] 28 (g := w.heap.size) rfl)
  replace ST := Zh (ST.out.alloc #[.slice none 0 0] 28 (g := w.heap.size + 1) (by simp))
  with_reducible refine (impl_copyDisk.calls k _ _ l0_0 o _ (Kd.C_below HR.out ST.out.b) HC.out HA1.out).mono ?_
  rintro e w1 ⟨v1, rfl, ho, hb⟩
  obtain ⟨A1, c1, rfl⟩ := Kd.S_slice ho
  replace ST := Zh (ST.out.row hb ho)
  clear hb ho
  have hc1 := ST.out.cell 2 rfl 0 (u := .slice A0_0 l0_0.length c0_0) rfl
  have hl1 := ST.out.lt 2 rfl
  go_wp2_with fail
  replace ST := Zh (ST.out.alloc #[.slice A1 o.length c1] 28 (g := w1.heap.size) rfl)
  with_reducible refine (impl_isDisk.calls k _ _ l0_0 t _ (Kd.C_below HR.out ST.out.b) HC.out HA2.out).mono ?_
  rintro e w3 ⟨rfl, hb⟩
  replace ST := Zh (ST.out.step hb)
  clear hb hc1 hl1
  have h := H.out
  clear H
  by_cases ct : t = true
  · subst ct
    rw [if_pos rfl] at h
    replace h := Option.bind_eq_some_iff.mp h
    obtain ⟨n, HA3, h⟩ := h
    replace HA3 := Zh HA3
    have H := Zh h
    clear h
    go_wp2_with fail
    with_reducible refine (impl_isFileName.calls a1 n _ HA3.out).mono ?_
    rintro e w4 ⟨rfl, hb⟩
    replace ST := Zh (ST.out.step hb)
    clear hb
    have h := H.out
    clear H
    by_cases cn : n = true
    · subst cn
      rw [if_pos rfl] at h
      replace h := Option.bind_eq_some_iff.mp h
      obtain ⟨j, HA4, h⟩ := h
      replace HA4 := Zh HA4
      have H := Zh h
      clear h
      have hc2 := ST.out.cell 0 rfl 0 (u := .slice A1 o.length c1) rfl
      have hl2 := ST.out.lt 0 rfl
      go_wp2_with fail
      with_reducible refine (impl_fileOf.calls _ _ o a1 j _ (ST.out.reads 1 rfl).2.2 (ST.out.reads 1 rfl).2.1 HA4.out).mono ?_
      rintro e w5 ⟨rfl, hb⟩
      replace ST := Zh (ST.out.step hb)
      clear hb hc2 hl2
      have hc2 := ST.out.cell 0 rfl 0 (u := .slice A1 o.length c1) rfl
      have hl2 := ST.out.lt 0 rfl
      have hf2 := ST.out.frozen 0 rfl 0
      have h := H.out
      clear H
      by_cases cj : j < 0
      · rw [if_pos cj] at h
        have cjb : decide (j < 0) = true := decide_eq_true cj
        clear cj
        by_cases cq : (o.length + 1) * 64 ≤ 140737488355328
        · rw [if_pos cq] at h
          have HCQ := Zh cq
          have H := Zh h
          clear h cq
          go_wp2_with fail
          refine (impl_withFile.calls _ (fun _ => False) _ o ⟨a1, [], []⟩ (.slice none 0 0) (.slice none 0 0) w _ ST.out.b (ST.out.own 1 rfl) HCQ.out (k55_mkM _ _ _ (⟨a1, [], []⟩ : S55) (Kd.R_nil _ _ _ _ _) (Kd.R_nil _ _ _ _ _) AP.nil_ne) (fun k hk => hk.elim)).mono ?_
          rintro e w6 ⟨v', rfl, hS, hB6, hK6⟩
          obtain ⟨A6, c6, hv6⟩ := Kd.S_slice hS
          obtain ⟨q, hq⟩ : ∃ q, q = insM o ⟨a1, [], []⟩ := ⟨_, rfl⟩
          rw [← hq] at hS hv6
          subst hv6
          have hST := ST.out.grow 1 rfl (LW.row k55 55 w.heap.size (.slice A6 q.length c6) q _) (fun k hk => by
            rcases hk with a | a | a
            · exact .inl a
            · exact a.elim
            exact .inr a) hS hB6 hK6
          replace ST := Zh hST
          have H2 := Zh (show impl_appendFile.fin k l0_0 q a1 l2 = some (r1, r2) by rw [hq]; exact H.out)
          clear hST hS hB6 hK6 hq hc2 hl2 hf2 H
          have hc2 := ST.out.cell 0 rfl 0 (u := .slice A1 o.length c1) rfl
          have hl2 := ST.out.lt 0 rfl
          have hf2 := ST.out.frozen 0 rfl 0
          go_upto_region 6 with (fail)
          replace ST := Zh (ST.out.set 0 rfl 0 (.slice A6 q.length c6))
          generalize w6.setCell ⟨w1.heap.size, 0, none⟩ (.slice A6 q.length c6) = wY at ST ⊢
          have h := H2.out
          clear H2
          unfold impl_appendFile.fin at h
          replace h := Option.bind_eq_some_iff.mp h
          obtain ⟨i, HA5, h⟩ := h
          replace HA5 := Zh HA5
          by_cases ci : 0 ≤ i
          · rw [if_pos ci] at h
            by_cases cl : i < (q.length : Int)
            · rw [if_pos cl] at h
              by_cases cs : (rd_T55 q i).f2.length + l2.length ≤ 140737488355328
              · rw [if_pos cs] at h
                replace h := Option.bind_eq_some_iff.mp h
                obtain ⟨t2, HA6, h⟩ := h
                replace HA6 := Zh HA6
                have H := Zh h
                have HI0 := Zh ci
                have HIL := Zh cl
                have HSZ := Zh cs
                clear h cs hc2 hl2 hf2
                have p0 := eq_true ci
                have p1 := eq_true cl
                clear ci cl
                obtain ⟨g, cg, hv, _, _, _⟩ := Kd.S_form (ST.out.own 1 rfl) (by have := HI0.out; have := HIL.out; omega)
                injection hv with hv1 hv2 hv3
                subst hv1
                clear hv2 hv3
                replace ST := Zh ST.out.drew
                refine start_ (n := 7) (S := fun w' => w'.cell? ⟨w1.heap.size, 0, none⟩ = some (.slice (some ⟨g, 0, none⟩) q.length c6)) (ds := []) #[false, false, false, false, false, false, false] (by kernel_rfl) rfl rfl (ST.out.cell 0 rfl 0 rfl) (fun hHeld => ?_)
                generalize wY.drew = w8 at ST hHeld ⊢
                refine pure_ (i := 0) (N := some 29) (v := ?_) (a' := ?_) #[true, false, false, false, false, false, false] rfl rfl (by kernel_rfl) (fun _ _ _ h => h) (Or.inl ⟨by rfl, ?_⟩) ?_ ?_
                rotate_left
                · intro w'
                  go_simp
                  with_reducible rfl
                rotate_left
                · simp only [Act.put, List.setIfInBounds_toArray, List.set_cons_zero, List.set_cons_succ, i64_w, i32_w]
                  rfl
                refine pure_ (i := 3) (N := some 32) (v := ?_) (a' := ?_) #[true, false, false, true, false, false, false] rfl rfl (by kernel_rfl) (fun _ _ _ h => h) (Or.inl ⟨by rfl, ?_⟩) ?_ ?_
                rotate_left
                · intro w'
                  go_simp
                  with_reducible rfl
                rotate_left
                · simp only [Act.put, List.setIfInBounds_toArray, List.set_cons_zero, List.set_cons_succ, i64_w, i32_w]
                  rfl
                refine take_ (i := 1) (N := some 30) (v := ?_) (a' := ?_) #[true, true, false, true, false, false, false] rfl rfl (by kernel_rfl) (fun _ _ _ h => h) (Or.inl ⟨by rfl, ?_⟩) hHeld ?_ ?_
                rotate_left
                · rintro w' s0
                  go_simp
                  with_reducible rfl
                rotate_left
                · simp only [Act.put, List.setIfInBounds_toArray, List.set_cons_zero, List.set_cons_succ, i64_w, i32_w]
                  rfl
                refine take_ (i := 2) (N := some 31) (v := ?_) (a' := ?_) #[true, true, true, true, false, false, false] rfl rfl (by kernel_rfl) (fun _ _ _ h => h) (Or.inl ⟨by rfl, ?_⟩) hHeld ?_ ?_
                rotate_left
                · rintro w' s0
                  go_simp
                  with_reducible rfl
                rotate_left
                · simp only [Act.put, List.setIfInBounds_toArray, List.set_cons_zero, List.set_cons_succ, i64_w, i32_w]
                  rfl
                refine one_ (i := 4) (N := some 33) #[true, true, true, true, true, false, false] rfl rfl (by kernel_rfl) (by decide) (fun K hK => ?_)
                refine goes_ Tryd.func74 (by kernel_rfl) rfl #[.agg #[.slice (some ⟨g, 0, none⟩) q.length c6], .string a1] (by rfl) rfl rfl (by (try simp only [List.map_toArray, List.map_cons, List.map_nil]); first | done | rfl) ?_
                with_reducible refine (impl_fileOf.calls _ _ q a1 i _ (ST.out.reads 1 rfl).2.2 (ST.out.reads 1 rfl).2.1 HA5.out).mono ?_
                rintro e w9 ⟨rfl, hb⟩
                refine ⟨_, rfl, ?_⟩
                replace ST := Zh (ST.out.step hb)
                clear hb
                refine hK.out _ _ (ST.out.cell 0 rfl 0 rfl) (fun hHeld => ?_)
                clear hK K
                refine norm_ (a' := ?_) ?_ ?_
                rotate_left
                · show Act.put _ (some 33) _ = _
                  simp only [Act.put, List.setIfInBounds_toArray, List.set_cons_zero, List.set_cons_succ, i64_w, i32_w]
                  rfl
                refine pure_ (i := 5) (N := some 34) (v := ?_) (a' := ?_) #[true, true, true, true, true, true, false] rfl rfl (by kernel_rfl) (fun _ _ _ h => h) (Or.inl ⟨by rfl, ?_⟩) ?_ ?_
                rotate_left
                · intro w'
                  go_simp
                  with_reducible rfl
                rotate_left
                · simp only [Act.put, List.setIfInBounds_toArray, List.set_cons_zero, List.set_cons_succ, i64_w, i32_w]
                  rfl
                refine pure_ (i := 6) (N := some 9) (v := ?_) (a' := ?_) #[true, true, true, true, true, true, true] rfl rfl (by kernel_rfl) (fun _ _ _ h => h) (Or.inl ⟨by rfl, ?_⟩) ?_ ?_
                rotate_left
                · intro w'
                  go_simp
                  with_reducible rfl
                rotate_left
                · simp only [Act.put, List.setIfInBounds_toArray, List.set_cons_zero, List.set_cons_succ, i64_w, i32_w]
                  rfl
                refine done_ (by kernel_rfl) ?_
                clear hHeld
                obtain ⟨u1, u2, ok2, hy0, hy1, hy2, hfz, hR2, hng, hFu, back⟩ := lendLoose ST.out 1 rfl i HI0.out HIL.out
                obtain ⟨B2, d2, rfl⟩ := Kd.R_slice hR2
                have HBK := Zh back
                have HRR := Zh hR2
                have hgl := blk_lt_of hy2
                have hc2 := ST.out.cell 0 rfl 0 (u := .slice (some ⟨g, 0, none⟩) q.length c6) rfl
                have hl2 := ST.out.lt 0 rfl
                have HNG := Zh hng
                have HFU := Zh hFu
                clear back hR2 hng hFu p0 p1
                go_wp2_with (at_builtin; refine Kd.R_append_rows (Kd.int .u8) (w0 := w) w.heap.size rfl _ _ 41 5 (.int .u8 0) 1 rfl Tryd.underlying41 info5 rfl (by decide) (by omega) _ (rd_T55 q i).f2 l2 _ _ _ (fun k => ok2 k ∨ w9.heap.size ≤ k) (fun _ => False) rfl rfl (Kd.R_mono HRR.out (fun k hk => .inl hk)) (Kd.C_below HR2.out ST.out.b) (fun _ _ h => h) (fun _ h => h.elim) (fun k hk => .inr hk) ST.out.b ST.out.b.size (by have := HSZ.out; omega) ?_; intro v1 w10 q1 q2 q3 q4; obtain ⟨A3, c3, rfl⟩ := Kd.R_slice q1; have hgb := q3.block g hgl (fun he => HNG.out g (HRR.out.1 g he.symm) rfl); have hgb8 := q3.block _ hl2 (fun he => LW.Its.disj ST.out.i 1 0 _ _ (by decide) rfl rfl _ (HFU.out _ he.symm) rfl); have hcg : w10.cell? ⟨g, i.toNat * 3 + 2, none⟩ = some (.slice B2 (rd_T55 q i).f2.length d2) := (cell_blk hgb).trans hy2; have hfg : w10.frozen? ⟨g, i.toNat * 3 + 2, none⟩ = false := (frozen_blk hgb).trans hfz; have hc8 : w10.cell? ⟨w1.heap.size, 0, none⟩ = some (.slice (some ⟨g, 0, none⟩) q.length c6) := (cell_blk hgb8).trans hc2; have hg8 : g ≠ w1.heap.size := fun he => LW.Its.disj ST.out.i 1 0 _ _ (by decide) rfl rfl g ((Kd.S_R (ST.out.own 1 rfl)).1 g (by simp [Value.ownBlock])) he; have hg8' := hg8.symm; have Q := Zh (And.intro q1 (And.intro q2 (And.intro q3 q4))); clear q1 q2 q3 q4 hgb hgb8 hc2 hl2 hy0 hy1 hy2 hfz hgl)
                obtain ⟨q1, q2, q3, q4⟩ := Q.out
                rw [List.length_append] at q1 q4
                have hST := HBK.out (.slice A3 ((rd_T55 q i).f2.length + l2.length) c3) w10 ((rd_T55 q i).f2 ++ l2) (fun ok hok => Kd.R_mono (Kd.R_tight rfl q1) (fun k hk => hok k hk.symm)) q2 q3 q4
                clear q1 q2 q3 q4 Q HBK hcg hfg hc8 hg8 hg8' HNG HFU HRR
                obtain ⟨p', hp'⟩ : ∃ p', p' = q.set i.toNat (⟨(rd_T55 q i).f0, (rd_T55 q i).f1, (rd_T55 q i).f2 ++ l2⟩ : S55) := ⟨_, rfl⟩
                have hpl : p'.length = q.length := by rw [hp', List.length_set]
                rw [← hp'] at hST
                replace ST := Zh hST
                have HA7 := Zh (show impl_isDisk.f k p' = some t2 by rw [hp']; exact HA6.out)
                have H3 := Zh (show (if t2 = true then some (p', true) else (impl_copyDisk.f k l0_0).bind fun o => some (o, false)) = some (r1, r2) by rw [hp']; exact H.out)
                clear hST hp' HA6 H
                generalize w10.setCell ⟨g, i.toNat * 3 + 2, none⟩ (.slice A3 ((rd_T55 q i).f2.length + l2.length) c3) = w11 at ST ⊢
                have hcall := impl_isDisk.calls k (some ⟨g, 0, none⟩) c6 p' t2 w11 (ST.out.reads 1 rfl).2.2 (by have := (ST.out.reads 1 rfl).2.1; omega) HA7.out
                rw [hpl] at hcall
                clear hpl
                refine hcall.mono ?_
                rintro e w12 ⟨rfl, hb⟩
                replace ST := Zh (ST.out.step hb)
                clear hb hcall
                have h := H3.out
                clear H3
                by_cases ct2 : t2 = true
                · subst ct2
                  rw [if_pos rfl] at h
                  obtain ⟨rfl, rfl⟩ := Prod.mk.inj (Option.some.inj h)
                  clear h
                  have hc2 := ST.out.cell 0 rfl 0 (u := .slice (some ⟨g, 0, none⟩) q.length c6) rfl
                  have hl2 := ST.out.lt 0 rfl
                  have hc3 := ST.out.cell 2 rfl 0 (u := .slice none 0 0) rfl
                  have hl3 := ST.out.lt 2 rfl
                  have hf3 := ST.out.frozen 2 rfl 0
                  go_wp2_with fail
                  replace ST := Zh (ST.out.set 2 rfl 0 (.slice (some ⟨g, 0, none⟩) q.length c6))
                  refine Zq (results_ct rfl _ _ (w.heap.size + 1) 28 #[.slice (some ⟨g, 0, none⟩) q.length c6] (0, 0) _ rfl (ST.out.blk 2 rfl) Tryd.underlying28 rfl (by kernel_rfl)) rfl ?_
                  exact ⟨_, rfl, Kd.S_mono (ST.out.own 1 rfl) (fun _ _ => trivial), ST.out.b⟩
                rw [if_neg ct2] at h
                obtain rfl : t2 = false := by simpa using ct2
                replace h := Option.bind_eq_some_iff.mp h
                obtain ⟨o2, HAo, h⟩ := h
                obtain ⟨rfl, rfl⟩ := Prod.mk.inj (Option.some.inj h)
                clear h ct2
                replace HAo := Zh HAo
                have hc1 := ST.out.cell 3 rfl 0 (u := .slice A0_0 l0_0.length c0_0) rfl
                have hl1 := ST.out.lt 3 rfl
                go_wp2_with fail
                with_reducible refine (impl_copyDisk.calls k _ _ l0_0 o2 _ (Kd.C_below HR.out ST.out.b) HC.out HAo.out).mono ?_
                rintro e w13 ⟨v9, rfl, ho, hb⟩
                obtain ⟨A9, c9, rfl⟩ := Kd.S_slice ho
                replace ST := Zh (ST.out.row hb ho)
                clear hb ho hc1 hl1
                have hc3 := ST.out.cell 3 rfl 0 (u := .slice none 0 0) rfl
                have hl3 := ST.out.lt 3 rfl
                have hf3 := ST.out.frozen 3 rfl 0
                go_wp2
                replace ST := Zh (ST.out.set 3 rfl 0 (.slice A9 o2.length c9))
                refine Zq (results_ct rfl _ _ (w.heap.size + 1) 28 #[.slice A9 o2.length c9] (0, 0) _ rfl (ST.out.blk 3 rfl) Tryd.underlying28 rfl (by kernel_rfl)) rfl ?_
                exact ⟨_, rfl, Kd.S_mono (ST.out.own 0 rfl) (fun _ _ => trivial), ST.out.b⟩
              rw [if_neg cs] at h; exact absurd h (by simp)
            rw [if_neg cl] at h; exact absurd h (by simp)
          rw [if_neg ci] at h; exact absurd h (by simp)
        rw [if_neg cq] at h; exact absurd h (by simp)
      rw [if_neg cj] at h
      have cjb : decide (j < 0) = false := decide_eq_false cj
      clear cj
      have H2 := Zh h
      clear h
      go_upto_region 6 with (fail)
      generalize hY : w5 = wY at ST hc2 hl2 hf2 ⊢
      clear hY
      have h := H2.out
      clear H2
      unfold impl_appendFile.fin at h
      replace h := Option.bind_eq_some_iff.mp h
      obtain ⟨i, HA5, h⟩ := h
      replace HA5 := Zh HA5
      by_cases ci : 0 ≤ i
      · rw [if_pos ci] at h
        by_cases cl : i < (o.length : Int)
        · rw [if_pos cl] at h
          by_cases cs : (rd_T55 o i).f2.length + l2.length ≤ 140737488355328
          · rw [if_pos cs] at h
            replace h := Option.bind_eq_some_iff.mp h
            obtain ⟨t2, HA6, h⟩ := h
            replace HA6 := Zh HA6
            have H := Zh h
            have HI0 := Zh ci
            have HIL := Zh cl
            have HSZ := Zh cs
            clear h cs hc2 hl2 hf2
            have p0 := eq_true ci
            have p1 := eq_true cl
            clear ci cl
            obtain ⟨g, cg, hv, _, _, _⟩ := Kd.S_form (ST.out.own 1 rfl) (by have := HI0.out; have := HIL.out; omega)
            injection hv with hv1 hv2 hv3
            subst hv1
            clear hv2 hv3
            replace ST := Zh ST.out.drew
            refine start_ (n := 7) (S := fun w' => w'.cell? ⟨w1.heap.size, 0, none⟩ = some (.slice (some ⟨g, 0, none⟩) o.length c1)) (ds := []) #[false, false, false, false, false, false, false] (by kernel_rfl) rfl rfl (ST.out.cell 0 rfl 0 rfl) (fun hHeld => ?_)
            generalize wY.drew = w8 at ST hHeld ⊢
            refine pure_ (i := 0) (N := some 29) (v := ?_) (a' := ?_) #[true, false, false, false, false, false, false] rfl rfl (by kernel_rfl) (fun _ _ _ h => h) (Or.inl ⟨by rfl, ?_⟩) ?_ ?_
            rotate_left
            · intro w'
              go_simp
              with_reducible rfl
            rotate_left
            · simp only [Act.put, List.setIfInBounds_toArray, List.set_cons_zero, List.set_cons_succ, i64_w, i32_w]
              rfl
            refine pure_ (i := 3) (N := some 32) (v := ?_) (a' := ?_) #[true, false, false, true, false, false, false] rfl rfl (by kernel_rfl) (fun _ _ _ h => h) (Or.inl ⟨by rfl, ?_⟩) ?_ ?_
            rotate_left
            · intro w'
              go_simp
              with_reducible rfl
            rotate_left
            · simp only [Act.put, List.setIfInBounds_toArray, List.set_cons_zero, List.set_cons_succ, i64_w, i32_w]
              rfl
            refine take_ (i := 1) (N := some 30) (v := ?_) (a' := ?_) #[true, true, false, true, false, false, false] rfl rfl (by kernel_rfl) (fun _ _ _ h => h) (Or.inl ⟨by rfl, ?_⟩) hHeld ?_ ?_
            rotate_left
            · rintro w' s0
              go_simp
              with_reducible rfl
            rotate_left
            · simp only [Act.put, List.setIfInBounds_toArray, List.set_cons_zero, List.set_cons_succ, i64_w, i32_w]
              rfl
            refine take_ (i := 2) (N := some 31) (v := ?_) (a' := ?_) #[true, true, true, true, false, false, false] rfl rfl (by kernel_rfl) (fun _ _ _ h => h) (Or.inl ⟨by rfl, ?_⟩) hHeld ?_ ?_
            rotate_left
            · rintro w' s0
              go_simp
              with_reducible rfl
            rotate_left
            · simp only [Act.put, List.setIfInBounds_toArray, List.set_cons_zero, List.set_cons_succ, i64_w, i32_w]
              rfl
            refine one_ (i := 4) (N := some 33) #[true, true, true, true, true, false, false] rfl rfl (by kernel_rfl) (by decide) (fun K hK => ?_)
            refine goes_ Tryd.func74 (by kernel_rfl) rfl #[.agg #[.slice (some ⟨g, 0, none⟩) o.length c1], .string a1] (by rfl) rfl rfl (by (try simp only [List.map_toArray, List.map_cons, List.map_nil]); first | done | rfl) ?_
            with_reducible refine (impl_fileOf.calls _ _ o a1 i _ (ST.out.reads 1 rfl).2.2 (ST.out.reads 1 rfl).2.1 HA5.out).mono ?_
            rintro e w9 ⟨rfl, hb⟩
            refine ⟨_, rfl, ?_⟩
            replace ST := Zh (ST.out.step hb)
            clear hb
            refine hK.out _ _ (ST.out.cell 0 rfl 0 rfl) (fun hHeld => ?_)
            clear hK K
            refine norm_ (a' := ?_) ?_ ?_
            rotate_left
            · show Act.put _ (some 33) _ = _
              simp only [Act.put, List.setIfInBounds_toArray, List.set_cons_zero, List.set_cons_succ, i64_w, i32_w]
              rfl
            refine pure_ (i := 5) (N := some 34) (v := ?_) (a' := ?_) #[true, true, true, true, true, true, false] rfl rfl (by kernel_rfl) (fun _ _ _ h => h) (Or.inl ⟨by rfl, ?_⟩) ?_ ?_
            rotate_left
            · intro w'
              go_simp
              with_reducible rfl
            rotate_left
            · simp only [Act.put, List.setIfInBounds_toArray, List.set_cons_zero, List.set_cons_succ, i64_w, i32_w]
              rfl
            refine pure_ (i := 6) (N := some 9) (v := ?_) (a' := ?_) #[true, true, true, true, true, true, true] rfl rfl (by kernel_rfl) (fun _ _ _ h => h) (Or.inl ⟨by rfl, ?_⟩) ?_ ?_
            rotate_left
            · intro w'
              go_simp
              with_reducible rfl
            rotate_left
            · simp only [Act.put, List.setIfInBounds_toArray, List.set_cons_zero, List.set_cons_succ, i64_w, i32_w]
              rfl
            refine done_ (by kernel_rfl) ?_
            clear hHeld
            obtain ⟨u1, u2, ok2, hy0, hy1, hy2, hfz, hR2, hng, hFu, back⟩ := lendLoose ST.out 1 rfl i HI0.out HIL.out
            obtain ⟨B2, d2, rfl⟩ := Kd.R_slice hR2
            have HBK := Zh back
            have HRR := Zh hR2
            have hgl := blk_lt_of hy2
            have hc2 := ST.out.cell 0 rfl 0 (u := .slice (some ⟨g, 0, none⟩) o.length c1) rfl
            have hl2 := ST.out.lt 0 rfl
            have HNG := Zh hng
            have HFU := Zh hFu
            clear back hR2 hng hFu p0 p1
            go_wp2_with (at_builtin; refine Kd.R_append_rows (Kd.int .u8) (w0 := w) w.heap.size rfl _ _ 41 5 (.int .u8 0) 1 rfl Tryd.underlying41 info5 rfl (by decide) (by omega) _ (rd_T55 o i).f2 l2 _ _ _ (fun k => ok2 k ∨ w9.heap.size ≤ k) (fun _ => False) rfl rfl (Kd.R_mono HRR.out (fun k hk => .inl hk)) (Kd.C_below HR2.out ST.out.b) (fun _ _ h => h) (fun _ h => h.elim) (fun k hk => .inr hk) ST.out.b ST.out.b.size (by have := HSZ.out; omega) ?_; intro v1 w10 q1 q2 q3 q4; obtain ⟨A3, c3, rfl⟩ := Kd.R_slice q1; have hgb := q3.block g hgl (fun he => HNG.out g (HRR.out.1 g he.symm) rfl); have hgb8 := q3.block _ hl2 (fun he => LW.Its.disj ST.out.i 1 0 _ _ (by decide) rfl rfl _ (HFU.out _ he.symm) rfl); have hcg : w10.cell? ⟨g, i.toNat * 3 + 2, none⟩ = some (.slice B2 (rd_T55 o i).f2.length d2) := (cell_blk hgb).trans hy2; have hfg : w10.frozen? ⟨g, i.toNat * 3 + 2, none⟩ = false := (frozen_blk hgb).trans hfz; have hc8 : w10.cell? ⟨w1.heap.size, 0, none⟩ = some (.slice (some ⟨g, 0, none⟩) o.length c1) := (cell_blk hgb8).trans hc2; have hg8 : g ≠ w1.heap.size := fun he => LW.Its.disj ST.out.i 1 0 _ _ (by decide) rfl rfl g ((Kd.S_R (ST.out.own 1 rfl)).1 g (by simp [Value.ownBlock])) he; have hg8' := hg8.symm; have Q := Zh (And.intro q1 (And.intro q2 (And.intro q3 q4))); clear q1 q2 q3 q4 hgb hgb8 hc2 hl2 hy0 hy1 hy2 hfz hgl)
            obtain ⟨q1, q2, q3, q4⟩ := Q.out
            rw [List.length_append] at q1 q4
            have hST := HBK.out (.slice A3 ((rd_T55 o i).f2.length + l2.length) c3) w10 ((rd_T55 o i).f2 ++ l2) (fun ok hok => Kd.R_mono (Kd.R_tight rfl q1) (fun k hk => hok k hk.symm)) q2 q3 q4
            clear q1 q2 q3 q4 Q HBK hcg hfg hc8 hg8 hg8' HNG HFU HRR
            obtain ⟨p', hp'⟩ : ∃ p', p' = o.set i.toNat (⟨(rd_T55 o i).f0, (rd_T55 o i).f1, (rd_T55 o i).f2 ++ l2⟩ : S55) := ⟨_, rfl⟩
            have hpl : p'.length = o.length := by rw [hp', List.length_set]
            rw [← hp'] at hST
            replace ST := Zh hST
            have HA7 := Zh (show impl_isDisk.f k p' = some t2 by rw [hp']; exact HA6.out)
            have H3 := Zh (show (if t2 = true then some (p', true) else (impl_copyDisk.f k l0_0).bind fun o => some (o, false)) = some (r1, r2) by rw [hp']; exact H.out)
            clear hST hp' HA6 H
            generalize w10.setCell ⟨g, i.toNat * 3 + 2, none⟩ (.slice A3 ((rd_T55 o i).f2.length + l2.length) c3) = w11 at ST ⊢
            have hcall := impl_isDisk.calls k (some ⟨g, 0, none⟩) c1 p' t2 w11 (ST.out.reads 1 rfl).2.2 (by have := (ST.out.reads 1 rfl).2.1; omega) HA7.out
            rw [hpl] at hcall
            clear hpl
            refine hcall.mono ?_
            rintro e w12 ⟨rfl, hb⟩
            replace ST := Zh (ST.out.step hb)
            clear hb hcall
            have h := H3.out
            clear H3
            by_cases ct2 : t2 = true
            · subst ct2
              rw [if_pos rfl] at h
              obtain ⟨rfl, rfl⟩ := Prod.mk.inj (Option.some.inj h)
              clear h
              have hc2 := ST.out.cell 0 rfl 0 (u := .slice (some ⟨g, 0, none⟩) o.length c1) rfl
              have hl2 := ST.out.lt 0 rfl
              have hc3 := ST.out.cell 2 rfl 0 (u := .slice none 0 0) rfl
              have hl3 := ST.out.lt 2 rfl
              have hf3 := ST.out.frozen 2 rfl 0
              go_wp2_with fail
              replace ST := Zh (ST.out.set 2 rfl 0 (.slice (some ⟨g, 0, none⟩) o.length c1))
              refine Zq (results_ct rfl _ _ (w.heap.size + 1) 28 #[.slice (some ⟨g, 0, none⟩) o.length c1] (0, 0) _ rfl (ST.out.blk 2 rfl) Tryd.underlying28 rfl (by kernel_rfl)) rfl ?_
              exact ⟨_, rfl, Kd.S_mono (ST.out.own 1 rfl) (fun _ _ => trivial), ST.out.b⟩
            rw [if_neg ct2] at h
            obtain rfl : t2 = false := by simpa using ct2
            replace h := Option.bind_eq_some_iff.mp h
            obtain ⟨o2, HAo, h⟩ := h
            obtain ⟨rfl, rfl⟩ := Prod.mk.inj (Option.some.inj h)
            clear h ct2
            replace HAo := Zh HAo
            have hc1 := ST.out.cell 3 rfl 0 (u := .slice A0_0 l0_0.length c0_0) rfl
            have hl1 := ST.out.lt 3 rfl
            go_wp2_with fail
            with_reducible refine (impl_copyDisk.calls k _ _ l0_0 o2 _ (Kd.C_below HR.out ST.out.b) HC.out HAo.out).mono ?_
            rintro e w13 ⟨v9, rfl, ho, hb⟩
            obtain ⟨A9, c9, rfl⟩ := Kd.S_slice ho
            replace ST := Zh (ST.out.row hb ho)
            clear hb ho hc1 hl1
            have hc3 := ST.out.cell 3 rfl 0 (u := .slice none 0 0) rfl
            have hl3 := ST.out.lt 3 rfl
            have hf3 := ST.out.frozen 3 rfl 0
            go_wp2
            replace ST := Zh (ST.out.set 3 rfl 0 (.slice A9 o2.length c9))
            refine Zq (results_ct rfl _ _ (w.heap.size + 1) 28 #[.slice A9 o2.length c9] (0, 0) _ rfl (ST.out.blk 3 rfl) Tryd.underlying28 rfl (by kernel_rfl)) rfl ?_
            exact ⟨_, rfl, Kd.S_mono (ST.out.own 0 rfl) (fun _ _ => trivial), ST.out.b⟩
          rw [if_neg cs] at h; exact absurd h (by simp)
        rw [if_neg cl] at h; exact absurd h (by simp)
      rw [if_neg ci] at h; exact absurd h (by simp)
    rw [if_neg cn] at h
    obtain rfl : n = false := by simpa using cn
    clear cn
    obtain ⟨rfl, rfl⟩ := Prod.mk.inj (Option.some.inj h)
    clear h
    have hc2 := ST.out.cell 0 rfl 0 (u := .slice A1 o.length c1) rfl
    have hl2 := ST.out.lt 0 rfl
    have hc3 := ST.out.cell 2 rfl 0 (u := .slice none 0 0) rfl
    have hl3 := ST.out.lt 2 rfl
    have hf3 := ST.out.frozen 2 rfl 0
    go_wp2_with fail
    replace ST := Zh (ST.out.set 2 rfl 0 (.slice A1 o.length c1))
    refine Zq (results_ct rfl _ _ (w.heap.size + 1) 28 #[.slice A1 o.length c1] (0, 0) _ rfl (ST.out.blk 2 rfl) Tryd.underlying28 rfl (by kernel_rfl)) rfl ?_
    exact ⟨_, rfl, Kd.S_mono (ST.out.own 1 rfl) (fun _ _ => trivial), ST.out.b⟩
  rw [if_neg ct] at h
  obtain rfl : t = false := by simpa using ct
  clear ct
  obtain ⟨rfl, rfl⟩ := Prod.mk.inj (Option.some.inj h)
  clear h
  have hc2 := ST.out.cell 0 rfl 0 (u := .slice A1 o.length c1) rfl
  have hl2 := ST.out.lt 0 rfl
  have hc3 := ST.out.cell 2 rfl 0 (u := .slice none 0 0) rfl
  have hl3 := ST.out.lt 2 rfl
  have hf3 := ST.out.frozen 2 rfl 0
  go_wp2_with fail
  replace ST := Zh (ST.out.set 2 rfl 0 (.slice A1 o.length c1))
  refine Zq (results_ct rfl _ _ (w.heap.size + 1) 28 #[.slice A1 o.length c1] (0, 0) _ rfl (ST.out.blk 2 rfl) Tryd.underlying28 rfl (by kernel_rfl)) rfl ?_
  exact ⟨_, rfl, Kd.S_mono (ST.out.own 1 rfl) (fun _ _ => trivial), ST.out.b⟩
def impl_removeFile.f (k : Nat) (l0_0 : List S55) (a1 : ByteArray) : Option (List S55 × Bool) := (impl_copyDisk.f k l0_0).bind fun o => (impl_fileOf.f l0_0 a1).bind fun i => (impl_isDisk.f k l0_0).bind fun t => if t = true then (if i < 0 then some (o, false) else (if i < (o.length : Int) then some (o.eraseIdx i.toNat, true) else none)) else some (o, false)
set_option maxHeartbeats 8000000 in
set_option maxRecDepth 100000 in
theorem impl_removeFile.calls (k : Nat) (A0_0 : Option Addr) (c0_0 : Nat) (l0_0 : List S55) (a1 : ByteArray) (r1 : List S55) (r2 : Bool) (w : World) (hr0_0 : Kd.C k55 w A0_0 l0_0.length l0_0) (hc0_0 : l0_0.length ≤ c0_0) (h : impl_removeFile.f k l0_0 a1 = some (r1, r2)) :
    Calls Tryd.prog 66 #[.agg #[.slice A0_0 l0_0.length c0_0], .string a1] w fun e w' => ∃ v0_ : Value, e = .returned (.tuple #[.agg #[v0_], .bool r2]) ∧ Kd.S k55 55 w' w.heap.size (fun _ => True) v0_ r1 ∧ Below w.heap.size w w' := by
  have HR := Zh hr0_0
  have HC := Zh hc0_0
  clear hr0_0 hc0_0
  have ST := Zh (LW.St.start w)
  unfold impl_removeFile.f at h
  replace h := Option.bind_eq_some_iff.mp h
  obtain ⟨o, HA1, h⟩ := h
  replace h := Option.bind_eq_some_iff.mp h
  obtain ⟨i, HA2, h⟩ := h
  replace h := Option.bind_eq_some_iff.mp h
  obtain ⟨t, HA3, h⟩ := h
  replace HA1 := Zh HA1
  replace HA2 := Zh HA2
  replace HA3 := Zh HA3
  have H := Zh h
  clear h
  go_enter Tryd.func66, Tryd.ntmps66
  go_wp2_with fail
  replace ST := Zh (ST.out.alloc #[.slice A0_0 l0_0.length c0_0] 28 (g := w.heap.size) rfl)
  replace ST := Zh (ST.out.alloc #[.slice none 0 0] 28 (g := w.heap.size + 1) (by simp))
  with_reducible refine (impl_copyDisk.calls k _ _ l0_0 o _ (Kd.C_below HR.out ST.out.b) HC.out HA1.out).mono ?_
  rintro e w1 ⟨v1, rfl, ho, hb⟩
  obtain ⟨A1, c1, rfl⟩ := Kd.S_slice ho
  replace ST := Zh (ST.out.row hb ho)
  clear hb ho
  have hc1 := ST.out.cell 1 rfl 0 (u := .slice none 0 0) rfl
  have hl1 := ST.out.lt 1 rfl
  have hc2 := ST.out.cell 2 rfl 0 (u := .slice A0_0 l0_0.length c0_0) rfl
  have hl2 := ST.out.lt 2 rfl
  go_wp2_with fail
  replace ST := Zh (ST.out.alloc #[.slice A1 o.length c1] 28 (g := w1.heap.size) rfl)
  with_reducible refine (impl_fileOf.calls _ _ l0_0 a1 i _ (Kd.C_below HR.out ST.out.b) HC.out HA2.out).mono ?_
  rintro e w2 ⟨rfl, hb⟩
  replace ST := Zh (ST.out.step hb)
  clear hb
  clear hc1 hl1 hc2 hl2
  have hc1 := ST.out.cell 0 rfl 0 (u := .slice A1 o.length c1) rfl
  have hl1 := ST.out.lt 0 rfl
  have hc2 := ST.out.cell 3 rfl 0 (u := .slice A0_0 l0_0.length c0_0) rfl
  have hl2 := ST.out.lt 3 rfl
  go_wp2_with fail
  with_reducible refine (impl_isDisk.calls k _ _ l0_0 t _ (Kd.C_below HR.out ST.out.b) HC.out HA3.out).mono ?_
  rintro e w3 ⟨rfl, hb⟩
  replace ST := Zh (ST.out.step hb)
  clear hb
  clear hc1 hl1 hc2 hl2
  have hc1 := ST.out.cell 0 rfl 0 (u := .slice A1 o.length c1) rfl
  have hl1 := ST.out.lt 0 rfl
  have hc2 := ST.out.cell 2 rfl 0 (u := .slice none 0 0) rfl
  have hl2 := ST.out.lt 2 rfl
  have h := H.out
  clear H
  by_cases ct : t = true
  · subst ct
    rw [if_pos rfl] at h
    by_cases ci : i < 0
    · rw [if_pos ci] at h
      obtain ⟨rfl, rfl⟩ := Prod.mk.inj (Option.some.inj h)
      clear h
      have cib : decide (i < 0) = true := decide_eq_true ci
      clear ci
      have hf2 := ST.out.frozen 2 rfl 0
      go_wp2_with fail
      replace ST := Zh (ST.out.set 2 rfl 0 (.slice A1 o.length c1))
      refine Zq (results_ct rfl _ _ (w.heap.size + 1) 28 #[.slice A1 o.length c1] (0, 0) _ rfl (ST.out.blk 2 rfl) Tryd.underlying28 rfl (by kernel_rfl)) rfl ?_
      exact ⟨_, rfl, Kd.S_mono (ST.out.own 1 rfl) (fun _ _ => trivial), ST.out.b⟩
    rw [if_neg ci] at h
    by_cases cj : i < (o.length : Int)
    · rw [if_pos cj] at h
      obtain ⟨rfl, rfl⟩ := Prod.mk.inj (Option.some.inj h)
      clear h
      obtain ⟨n, rfl⟩ := Int.eq_ofNat_of_zero_le (show 0 ≤ i by omega)
      have cib : decide ((n : Int) < 0) = false := decide_eq_false ci
      have hn : n < o.length := by omega
      have hcap := (ST.out.reads 1 rfl).2.1
      obtain ⟨g, cg, hv, _, _, _⟩ := Kd.S_form (ST.out.own 1 rfl) (by omega)
      injection hv with hv1 hv2 hv3
      subst hv1
      have hcc := S_cap (ST.out.own 1 rfl)
      have hb1 : (n : Int) + 1 ≤ 9223372036854775807 := by omega
      clear ci cj hcap hcc hv2 hv3
      go_wp2_with fail
      with_reducible refine (sDelete.calls n _ _ o w _ ST.out.b (ST.out.own 1 rfl) hn).mono ?_
      rintro e w4 ⟨v4, rfl, ho, hb, hk⟩
      clear hc1 hl1 hc2 hl2 cib hb1
      replace ST := Zh (ST.out.writeV 1 rfl ho hb hk)
      obtain ⟨A4, c4, rfl⟩ := Kd.S_slice ho
      clear ho hb hk
      have hc1 := ST.out.cell 0 rfl 0 (u := .slice (some ⟨g, 0, none⟩) o.length c1) rfl
      have hl1 := ST.out.lt 0 rfl
      have hf1 := ST.out.frozen 0 rfl 0
      have hc2 := ST.out.cell 2 rfl 0 (u := .slice none 0 0) rfl
      have hl2 := ST.out.lt 2 rfl
      have hf2 := ST.out.frozen 2 rfl 0
      have hne : (w1.heap.size == w.heap.size + 1) = false := by have := ST.out.ne 0 2 (by decide) rfl rfl; simpa using this
      have hne' : ¬ w1.heap.size = w.heap.size + 1 := ST.out.ne 0 2 (by decide) rfl rfl
      go_wp2_with fail
      replace ST := Zh (ST.out.set 0 rfl 0 (.slice A4 (o.eraseIdx n).length c4))
      replace ST := Zh (ST.out.set 2 rfl 0 (.slice A4 (o.eraseIdx n).length c4))
      refine Zq (results_ct rfl _ _ (w.heap.size + 1) 28 #[.slice A4 (o.eraseIdx n).length c4] (0, 0) _ rfl (ST.out.blk 2 rfl) Tryd.underlying28 rfl (by kernel_rfl)) rfl ?_
      exact ⟨_, rfl, Kd.S_mono (ST.out.own 1 rfl) (fun _ _ => trivial), ST.out.b⟩
    rw [if_neg cj] at h
    exact absurd h (by simp)
  rw [if_neg ct] at h
  obtain rfl : t = false := by simpa using ct
  obtain ⟨rfl, rfl⟩ := Prod.mk.inj (Option.some.inj h)
  clear h ct
  have hf2 := ST.out.frozen 2 rfl 0
  go_wp2_with fail
  replace ST := Zh (ST.out.set 2 rfl 0 (.slice A1 o.length c1))
  refine Zq (results_ct rfl _ _ (w.heap.size + 1) 28 #[.slice A1 o.length c1] (0, 0) _ rfl (ST.out.blk 2 rfl) Tryd.underlying28 rfl (by kernel_rfl)) rfl ?_
  exact ⟨_, rfl, Kd.S_mono (ST.out.own 1 rfl) (fun _ _ => trivial), ST.out.b⟩
end Go.Proofs.YtcgojdhbphocgaaDoor.F

namespace Go.Proofs.YtcgojdhbphocgaaDoor.F
open Go.Proofs.YtcgojdhbphocgaaDoor
open Go.RowKit Go.Proofs.YtcgojdhbphocgaaDoorW.PrintWords Go.Proofs.YtcgojdhbphocgaaDoorW.PrintWords.Kd Go.Proofs.YtcgojdhbphocgaaDoorW.PrintMore.Kd Go.Proofs.YtcgojdhbphocgaaDoorW.PrintLast Go.Proofs.YtcgojdhbphocgaaDoorW.PrintMore
attribute [local go_sem] max2_int min2_int max_two min_two max_three min_three max_four min_four   -- for this text's walks alone
set_option linter.unusedVariables false
set_option linter.unusedSimpArgs false
def impl_File_content.f (a0_0 : ByteArray) (l0_1 : List Int) (l0_2 : List Int) : Option (List Int) := (some (([] : List Int) : List Int)).bind fun y207 => (if y207.length + l0_1.length < 140737488355328 then ((some (y207 ++ l0_1 : List Int)).bind fun y210 => (if y210.length + l0_2.length < 140737488355328 then (some (y210 ++ l0_2)) else (none))) else (none))
def impl_File_content.T1 : Bool × List (List Nat × List Nat) := (true, [([], []), ([], []), ([1], [1]), ([0, 2], [0, 2]), ([], []), ([4], [4]), ([3, 5, 3], [3, 5]), ([6, 6, 0, 1, 2, 3, 4, 5, 6], [6])])
def impl_File_content.B1 : List Nat := [0, 0, 2, 7, 0, 16, 63, 127]
theorem impl_File_content.tab1 : rtab .any (opsOf Tryd.f75 1) = impl_File_content.T1 := by kernel_rfl
theorem impl_File_content.bits1 : waitsOk impl_File_content.T1.2 impl_File_content.B1 = true := by kernel_rfl
set_option maxHeartbeats 8000000 in
set_option maxRecDepth 100000 in
theorem impl_File_content.calls (a0_0 : ByteArray) (A0_1 : Option Addr) (c0_1 : Nat) (l0_1 : List Int) (A0_2 : Option Addr) (c0_2 : Nat) (l0_2 : List Int) (r : List Int) (w : World) (hr0_1 : Kd.C (Kd.int .u8) w A0_1 l0_1.length l0_1) (hc0_1 : l0_1.length ≤ c0_1) (hr0_2 : Kd.C (Kd.int .u8) w A0_2 l0_2.length l0_2) (hc0_2 : l0_2.length ≤ c0_2) (h : impl_File_content.f a0_0 l0_1 l0_2 = some r) :
  Calls Tryd.prog 75 #[.agg #[.string a0_0, .slice A0_1 l0_1.length c0_1, .slice A0_2 l0_2.length c0_2]] w fun e w' => ∃ v0_ : Value, e = .returned (v0_) ∧ Kd.R (Kd.int .u8) 5 w' w.heap.size (fun _ => True) v0_ r ∧ Below w.heap.size w w' := by
 have hu55 := Tryd.underlying55
 have HR0_1 := Zh hr0_1
 have HC0_1 := Zh hc0_1
 clear hr0_1 hc0_1
 have HR0_2 := Zh hr0_2
 have HC0_2 := Zh hc0_2
 clear hr0_2 hc0_2
 have HB := Zh (Below.refl w.heap.size w)
 have H : ((some (([] : List Int) : List Int)).bind fun y207 => (if y207.length + l0_1.length < 140737488355328 then ((some (y207 ++ l0_1 : List Int)).bind fun y210 => (if y210.length + l0_2.length < 140737488355328 then (some (y210 ++ l0_2)) else (none))) else (none))) = some r := h
 clear h
 obtain ⟨y207, hy207⟩ : ∃ y_ : List Int, y_ = (([] : List Int)) := ⟨_, rfl⟩
 replace H : (if y207.length + l0_1.length < 140737488355328 then ((some (y207 ++ l0_1 : List Int)).bind fun y210 => (if y210.length + l0_2.length < 140737488355328 then (some (y210 ++ l0_2)) else (none))) else (none)) = some r := by first | (rw [hy207]; with_reducible exact H) | (have H2_ := (Option.bind_some _ _).symm.trans H; rw [hy207]; with_reducible exact H2_) | (have H2_ := (Option.bind_some _ _).symm.trans H; with_reducible exact H2_) | with_reducible exact H | (rw [hy207]; exact H) | exact H
 have Ny207 := Zh hy207
 clear hy207
 by_cases c2 : y207.length + l0_1.length < 140737488355328
 ·
  rw [if_pos c2] at H
  have LMc2 := Zh c2
  clear c2
  obtain ⟨y210, hy210⟩ : ∃ y_ : List Int, y_ = (y207 ++ l0_1) := ⟨_, rfl⟩
  replace H : (if y210.length + l0_2.length < 140737488355328 then (some (y210 ++ l0_2)) else (none)) = some r := by first | (rw [hy210]; with_reducible exact H) | (have H2_ := (Option.bind_some _ _).symm.trans H; rw [hy210]; with_reducible exact H2_) | (have H2_ := (Option.bind_some _ _).symm.trans H; with_reducible exact H2_) | with_reducible exact H | (rw [hy210]; exact H) | exact H
  have Ny210 := Zh hy210
  clear hy210
  by_cases c3 : y210.length + l0_2.length < 140737488355328
  ·
   rw [if_pos c3] at H
   have LMc3 := Zh c3
   clear c3
   obtain ⟨y213, hy213⟩ : ∃ y_ : List Int, y_ = (y210 ++ l0_2) := ⟨_, rfl⟩
   replace H : (some y213) = some r := by first | (rw [hy213]; with_reducible exact H) | (have H2_ := (Option.bind_some _ _).symm.trans H; rw [hy213]; with_reducible exact H2_) | (have H2_ := (Option.bind_some _ _).symm.trans H; with_reducible exact H2_) | with_reducible exact H | (rw [hy213]; exact H) | exact H
   have Ny213 := Zh hy213
   clear hy213
   obtain rfl := Option.some.inj H
   go_enter Tryd.func75, Tryd.ntmps75
   try go_wp2_with (first | ((with_reducible refine gate_dst (N := 1) rfl ?_); refine box_event ?hg (N := 1) ?hd (cs := #[.string a0_0, .slice A0_1 l0_1.length c0_1, .slice A0_2 l0_2.length c0_2]) (t := 55) ?hr ?_; (case hd => rfl); (case hg => rfl); (case hr => first | (go_simp; done) | (go_simp; rfl)); intro gb206 hg w4 hbox hb; have n0_ := Zh (Zl Zs hb); have n1_ := Zh (hbox); have n2_ := Zh ((by rw [hg]; exact (below_size Zs) : w.heap.size ≤ gb206)); have n3_ := Zh ((by rw [hg]; exact (below_size Zs) : w.heap.size ≤ gb206)); clear HB; have HB := n0_; have BK206 := n1_; have GW206 := n2_; have GE206 := n3_; clear n0_ n1_ n2_ n3_; clear hb hbox hg))
   have n0_ := Zh (Zb BK206.out)
   have n1_ := Zh (Ze HB.out)
   clear BK206
   clear HB
   have BK206 := n0_
   have HB := n1_
   clear n0_ n1_
   refine start_ (n := 8) (S := fun w' => w'.cell? ⟨gb206, 0, none⟩ = some (.string a0_0) ∧ w'.cell? ⟨gb206, 1, none⟩ = some (.slice A0_1 l0_1.length c0_1) ∧ w'.cell? ⟨gb206, 2, none⟩ = some (.slice A0_2 l0_2.length c0_2)) (ds := []) #[false, false, false, false, false, false, false, false] (by kernel_rfl) rfl rfl ⟨(blk_cell BK206.out 0).trans rfl, (blk_cell BK206.out 1).trans rfl, (blk_cell BK206.out 2).trans rfl⟩ (fun hHeld => ?_); refine with_tabW impl_File_content.tab1 impl_File_content.bits1 (fun HT_ HW_ => ?_)
   generalize w4.drew = w5 at BK206 HB hHeld ⊢
   refine SQ.pu 1 4 HT_ ?_
   refine SQ.pu 4 7 HT_ ?_
   refine SQ.tk 2 5 HT_ HW_ hHeld ?_
   refine SQ.tk 5 8 HT_ HW_ hHeld ?_
   refine one_ (i := 0) (N := some 3) #[true, true, true, false, true, true, false, false] rfl rfl (one_of HT_.out (by kernel_rfl)) (by decide) (fun K hK => ?_)
   refine R_lit_step (Kd.int .u8) _ 5 ?hg (N := 3) ?hd (xs := ([] : List Int)) (inner := []) (ok := fun _ => True) (okp := fun _ => True) ?hr ?hp (fun _ hk => hk) trivial (Below.refl _ _) (Nat.le_refl _) (by simp) ?_; (case hd => rfl); (case hg => rfl); (case hr => first | (go_simp; done) | (go_simp; rfl)); (case hp => exact (Reps.none _ _))
   intro v208 w6 ho7 hb hg_ hnew_
   clear hg_ hnew_
   (first | rw [← Ny207.out] at ho7 | (simp only [Int.reduceToNat] at ho7; rw [← Ny207.out] at ho7))
   have n0_ := Zh (R_lower ho7 (below_size Zs))
   have n1_ := Zh (Zm (g := gb206) (o := .cells #[.string a0_0, .slice A0_1 l0_1.length c0_1, .slice A0_2 l0_2.length c0_2] 55 (0, 0)) Zk hb)
   have n2_ := Zh (Zl Zs hb)
   clear BK206
   clear HB
   have HO209 := n0_
   have BK206 := n1_
   have HB := n2_
   clear n0_ n1_ n2_
   clear hb ho7
   refine hK.out _ _ ⟨(blk_cell BK206.out 0).trans rfl, (blk_cell BK206.out 1).trans rfl, (blk_cell BK206.out 2).trans rfl⟩ (fun hHeld => ?_)
   clear hK K
   refine norm_ (a' := ?_) ?_ ?_
   rotate_left
   ·
    show Act.put _ (some 3) _ = _
    simp only [Act.put, List.setIfInBounds_toArray, List.set_cons_zero, List.set_cons_succ, i64_w, i32_w]
    rfl
   refine one_ (i := 3) (N := some 6) #[true, true, true, true, true, true, false, false] rfl rfl (one_of HT_.out (by kernel_rfl)) (by decide) (fun K hK => ?_)
   refine R_append_rows_step (Kd.int .u8) (w0 := w) w.heap.size (by rfl) (.tmp 3) (.tmp 5) 41 5 (.int .u8 0) 1 rfl Tryd.underlying41 info5 rfl (by decide) (by omega) v208 y207 l0_1 _ _ _ (fun _ => True) (fun _ => False) rfl rfl ?aO ?aR (fun _ _ h => h) (fun _ h => h.elim) ?aF ?aB ?aS ?aL ?_
   (case aR => repeat (first | exact (C_below HR0_1.out HB.out) | (with_reducible refine C_alloc ?_ _) | (with_reducible refine C_drewN ?_ _) | (with_reducible refine C_drew ?_)))
   (case aB => exact Zs)
   (case aF => exact (fun _ _ => trivial))
   (case aO => exact (by (with_reducible repeat (first | apply R_alloc | apply R_drewN | apply R_drew)); exact HO209.out))
   (case aS => exact (below_size Zs))
   (case aL => have := LMc2.out; omega)
   intro v211 w8 ho hb hg hat
   rw [← Ny210.out] at ho
   have n0_ := Zh (blk_grown (g := gb206) (o := .cells #[.string a0_0, .slice A0_1 l0_1.length c0_1, .slice A0_2 l0_2.length c0_2] 55 (0, 0)) Zk hg (R_ne HO209.out BK206.out (by decide)))
   have n1_ := Zh (hb)
   have n2_ := Zh (ho)
   clear BK206
   clear HB
   clear HO209
   have BK206 := n0_
   have HB := n1_
   have HO212 := n2_
   clear n0_ n1_ n2_
   clear ho hb hg hat
   refine hK.out _ _ ⟨(blk_cell BK206.out 0).trans rfl, (blk_cell BK206.out 1).trans rfl, (blk_cell BK206.out 2).trans rfl⟩ (fun hHeld => ?_)
   clear hK K
   refine norm_ (a' := ?_) ?_ ?_
   rotate_left
   ·
    show Act.put _ (some 6) _ = _
    simp only [Act.put, List.setIfInBounds_toArray, List.set_cons_zero, List.set_cons_succ, i64_w, i32_w]
    rfl
   refine one_ (i := 6) (N := some 9) #[true, true, true, true, true, true, true, false] rfl rfl (one_of HT_.out (by kernel_rfl)) (by decide) (fun K hK => ?_)
   refine R_append_rows_step (Kd.int .u8) (w0 := w) w.heap.size (by rfl) (.tmp 6) (.tmp 8) 41 5 (.int .u8 0) 1 rfl Tryd.underlying41 info5 rfl (by decide) (by omega) v211 y210 l0_2 _ _ _ (fun _ => True) (fun _ => False) rfl rfl ?aO ?aR (fun _ _ h => h) (fun _ h => h.elim) ?aF ?aB ?aS ?aL ?_
   (case aR => repeat (first | exact (C_below HR0_2.out HB.out) | (with_reducible refine C_alloc ?_ _) | (with_reducible refine C_drewN ?_ _) | (with_reducible refine C_drew ?_)))
   (case aB => exact Zs)
   (case aF => exact (fun _ _ => trivial))
   (case aO => exact (by (with_reducible repeat (first | apply R_alloc | apply R_drewN | apply R_drew)); exact HO212.out))
   (case aS => exact (below_size Zs))
   (case aL => have := LMc3.out; omega)
   intro v214 w9 ho hb hg hat
   rw [← Ny213.out] at ho
   have n0_ := Zh (blk_grown (g := gb206) (o := .cells #[.string a0_0, .slice A0_1 l0_1.length c0_1, .slice A0_2 l0_2.length c0_2] 55 (0, 0)) Zk hg (R_ne HO212.out BK206.out (by decide)))
   have n1_ := Zh (hb)
   have n2_ := Zh (ho)
   clear BK206
   clear HB
   clear HO212
   have BK206 := n0_
   have HB := n1_
   have HO215 := n2_
   clear n0_ n1_ n2_
   clear ho hb hg hat
   refine hK.out _ _ ⟨(blk_cell BK206.out 0).trans rfl, (blk_cell BK206.out 1).trans rfl, (blk_cell BK206.out 2).trans rfl⟩ (fun hHeld => ?_)
   clear hK K
   refine norm_ (a' := ?_) ?_ ?_
   rotate_left
   ·
    show Act.put _ (some 9) _ = _
    simp only [Act.put, List.setIfInBounds_toArray, List.set_cons_zero, List.set_cons_succ, i64_w, i32_w]
    rfl
   refine SQ.pu 7 2 HT_ ?_
   refine done_ (done_of HT_.out (by kernel_rfl)) ?_
   try go_wp2
   go_ret
   exact ⟨_, by first | rfl | (simp [errW_none, errW_some] <;> rfl) | (simp [*, errW_none, errW_some] <;> rfl), by (with_reducible repeat (first | apply R_alloc | apply R_drewN | apply R_drew)); exact HO215.out, by repeat (first | (with_reducible first | exact HB.out | apply Zf | apply Zd | apply Ze | refine Zg ?_ GE206.out) | exact HB.out)⟩
  rw [if_neg c3] at H
  exact absurd H (by simp)
 rw [if_neg c2] at H
 exact absurd H (by simp)
end Go.Proofs.YtcgojdhbphocgaaDoor.F

namespace Go.Proofs.YtcgojdhbphocgaaDoor.F
open Go.RowKit Go.Proofs.YtcgojdhbphocgaaDoorW.PrintWords Go.Proofs.YtcgojdhbphocgaaDoorW.PrintLast Go.Proofs.YtcgojdhbphocgaaDoorW.PrintMore
open Go.Proofs.YtcgojdhbphocgaaDoor
set_option linter.unusedVariables false
set_option linter.unusedSimpArgs false
theorem setFile {w0 w : World} {l : List LW.It} {g n c : Nat} {xs : List S55} {F G : Nat → Prop} {v1 : Value} {ys : List Int} (h : LW.St w0 w l) (q p : Nat) (hn : q ≠ p)
    (hq : l[q]? = some (LW.row k55 55 w0.heap.size (.slice (some ⟨g, 0, none⟩) n c) xs F)) (hp : l[p]? = some (LW.row (Kd.int .u8) 5 w0.heap.size v1 ys G)) (i : Int) (h0 : 0 ≤ i) (h1 : i < n) (a : ByteArray) :
    LW.St w0 (((w.setCell ⟨g, i.toNat * 3, none⟩ (.string a)).setCell ⟨g, i.toNat * 3 + 1, none⟩ v1).setCell ⟨g, i.toNat * 3 + 2, none⟩ (.slice none 0 0))
      ((l.set q (LW.row k55 55 w0.heap.size (.slice (some ⟨g, 0, none⟩) n c) (xs.set i.toNat ⟨a, ys, []⟩) (fun k => F k ∨ G k))).set p LW.gone) := by
  have hS := h.own q hq
  have hR := Kd.S_R (h.own p hp)
  have hd := LW.Its.disj h.i q p _ _ hn hq hp
  have hFg : F g := (Kd.S_R hS).1 g (by simp [Value.ownBlock])
  have hbg := (h.i.all _ (List.mem_of_getElem? hq)).2 g hFg
  have hS2 : Kd.S k55 55 w w0.heap.size (fun k => (F k ∨ G k) ∧ ¬ G k) (.slice (some ⟨g, 0, none⟩) n c) xs := Kd.S_mono hS (fun k hk => ⟨.inl hk, fun h2 => hd k hk h2⟩)
  obtain ⟨oki, cs, hcl, hM, hcc, hfr, hoki, hH⟩ := Kd.S_elem hS2 z55 i h0 h1
  obtain ⟨pp, u1, u2, rfl, hA1, hA2⟩ := k55_openA hM
  have hP := (Kd.S_seg (okg := G) (seg := [.string a, v1, .slice none 0 0]) (j := 0) hH h0 h1 (show 0 + 3 ≤ 3 by decide) (x' := (⟨a, ys, []⟩ : S55)) (k55_mkM _ _ _ (⟨a, ys, []⟩ : S55) hR (Kd.R_nil _ _ _ _ _) AP.nil_ne) (fun k hk => .inr hk) (fun k hk => ⟨.inr hk, fun he => hd k (he ▸ hFg) hk⟩))
  refine h.merge q p hn hq hp (LW.row k55 55 w0.heap.size (.slice (some ⟨g, 0, none⟩) n c) (xs.set i.toNat ⟨a, ys, []⟩) (fun k => F k ∨ G k)) (fun k hk => hk) hP.1 (Zg (Zg (Zg h.b hbg.1) hbg.1) hbg.1) ⟨?_, fun k hk hne => ?_⟩
  · simp [World.setCell]
  have hkg : k ≠ g := fun he => hne (he ▸ hFg)
  rw [Below.heap_setCell _ _ _ k hkg, Below.heap_setCell _ _ _ k hkg, Below.heap_setCell _ _ _ k hkg]
def impl_syncFile.f (k : Nat) (l0_0 : List S55) (a1 : ByteArray) : Option (List S55 × Bool) := (impl_copyDisk.f k l0_0).bind fun o => (impl_fileOf.f l0_0 a1).bind fun i => (impl_isDisk.f k l0_0).bind fun t => if t = true then (if i < 0 then some (o, false) else (if i < (l0_0.length : Int) then (if i < (o.length : Int) then (impl_File_content.f (rd_T55 l0_0 i).f0 (rd_T55 l0_0 i).f1 (rd_T55 l0_0 i).f2).bind fun b => some (o.set i.toNat (⟨a1, b, []⟩ : S55), true) else none) else none)) else some (o, false)
set_option maxHeartbeats 8000000 in
set_option maxRecDepth 100000 in
theorem impl_syncFile.calls (k : Nat) (A0_0 : Option Addr) (c0_0 : Nat) (l0_0 : List S55) (a1 : ByteArray) (r1 : List S55) (r2 : Bool) (w : World) (hr0_0 : Kd.C k55 w A0_0 l0_0.length l0_0) (hc0_0 : l0_0.length ≤ c0_0) (h : impl_syncFile.f k l0_0 a1 = some (r1, r2)) :
    Calls Tryd.prog 45 #[.agg #[.slice A0_0 l0_0.length c0_0], .string a1] w fun e w' => ∃ v0_ : Value, e = .returned (.tuple #[.agg #[v0_], .bool r2]) ∧ Kd.S k55 55 w' w.heap.size (fun _ => True) v0_ r1 ∧ Below w.heap.size w w' := by
  have HR := Zh hr0_0
  have HC := Zh hc0_0
  clear hr0_0 hc0_0
  have ST := Zh (LW.St.start w)
  unfold impl_syncFile.f at h
  replace h := Option.bind_eq_some_iff.mp h
  obtain ⟨o, HA1, h⟩ := h
  replace h := Option.bind_eq_some_iff.mp h
  obtain ⟨i, HA2, h⟩ := h
  replace h := Option.bind_eq_some_iff.mp h
  obtain ⟨t, HA3, h⟩ := h
  replace HA1 := Zh HA1
  replace HA2 := Zh HA2
  replace HA3 := Zh HA3
  have H := Zh h
  clear h
  go_enter Tryd.func45, Tryd.ntmps45
  go_wp2_with fail
  replace ST := Zh (ST.out.alloc #[.slice A0_0 l0_0.length c0_0] 28 (g := w.heap.size) rfl)
  replace ST := Zh (ST.out.alloc #[.slice none 0 0] 28 (g := w.heap.size + 1) (by simp))
  with_reducible refine (impl_copyDisk.calls k _ _ l0_0 o _ (Kd.C_below HR.out ST.out.b) HC.out HA1.out).mono ?_
  rintro e w1 ⟨v1, rfl, ho, hb⟩
  obtain ⟨A1, c1, rfl⟩ := Kd.S_slice ho
  replace ST := Zh (ST.out.row hb ho)
  clear hb ho
  have hc1 := ST.out.cell 1 rfl 0 (u := .slice none 0 0) rfl
  have hl1 := ST.out.lt 1 rfl
  have hc2 := ST.out.cell 2 rfl 0 (u := .slice A0_0 l0_0.length c0_0) rfl
  have hl2 := ST.out.lt 2 rfl
  go_wp2_with fail
  replace ST := Zh (ST.out.alloc #[.slice A1 o.length c1] 28 (g := w1.heap.size) rfl)
  with_reducible refine (impl_fileOf.calls _ _ l0_0 a1 i _ (Kd.C_below HR.out ST.out.b) HC.out HA2.out).mono ?_
  rintro e w2 ⟨rfl, hb⟩
  replace ST := Zh (ST.out.step hb)
  clear hb
  clear hc1 hl1 hc2 hl2
  have hc1 := ST.out.cell 0 rfl 0 (u := .slice A1 o.length c1) rfl
  have hl1 := ST.out.lt 0 rfl
  have hc2 := ST.out.cell 3 rfl 0 (u := .slice A0_0 l0_0.length c0_0) rfl
  have hl2 := ST.out.lt 3 rfl
  go_wp2_with fail
  with_reducible refine (impl_isDisk.calls k _ _ l0_0 t _ (Kd.C_below HR.out ST.out.b) HC.out HA3.out).mono ?_
  rintro e w3 ⟨rfl, hb⟩
  replace ST := Zh (ST.out.step hb)
  clear hb
  clear hc1 hl1 hc2 hl2
  have hc1 := ST.out.cell 0 rfl 0 (u := .slice A1 o.length c1) rfl
  have hl1 := ST.out.lt 0 rfl
  have hc2 := ST.out.cell 2 rfl 0 (u := .slice none 0 0) rfl
  have hl2 := ST.out.lt 2 rfl
  have h := H.out
  clear H
  by_cases ct : t = true
  · subst ct
    rw [if_pos rfl] at h
    by_cases ci : i < 0
    · rw [if_pos ci] at h
      obtain ⟨rfl, rfl⟩ := Prod.mk.inj (Option.some.inj h)
      clear h
      have cib : decide (i < 0) = true := decide_eq_true ci
      clear ci
      have hf2 := ST.out.frozen 2 rfl 0
      go_wp2_with fail
      replace ST := Zh (ST.out.set 2 rfl 0 (.slice A1 o.length c1))
      refine Zq (results_ct rfl _ _ (w.heap.size + 1) 28 #[.slice A1 o.length c1] (0, 0) _ rfl (ST.out.blk 2 rfl) Tryd.underlying28 rfl (by kernel_rfl)) rfl ?_
      exact ⟨_, rfl, Kd.S_mono (ST.out.own 1 rfl) (fun _ _ => trivial), ST.out.b⟩
    rw [if_neg ci] at h
    by_cases cl : i < (l0_0.length : Int)
    · rw [if_pos cl] at h
      by_cases cj : i < (o.length : Int)
      · rw [if_pos cj] at h
        replace h := Option.bind_eq_some_iff.mp h
        obtain ⟨b, HA4, h⟩ := h
        obtain ⟨rfl, rfl⟩ := Prod.mk.inj (Option.some.inj h)
        replace HA4 := Zh HA4
        clear h
        have cib : decide (i < 0) = false := decide_eq_false ci
        have ci0 : 0 ≤ i := by omega
        obtain ⟨g, cg, hv, _, _, _⟩ := Kd.S_form (ST.out.own 1 rfl) (by omega)
        injection hv with hv1 hv2 hv3
        subst hv1
        have HI0 := Zh ci0
        have HIL := Zh cl
        have HIO := Zh cj
        have ci0b := eq_true ci0
        have clb := eq_true cl
        have cjb := eq_true cj
        clear ci cl cj ci0 hv2 hv3
        obtain ⟨ad, B1, d1, B2, d2, e, hx0, hx1, hx2, hl1', hi1, hl2', hi2⟩ := at_T55 HR.out i HI0.out HIL.out
        cases e
        go_wp2_with fail
        clear hc1 hl1 hc2 hl2
        have E0 := Zh hx0
        have E1 := Zh hx1
        have E2 := Zh hx2
        have HI1 := Zh hi1
        have HL1 := Zh hl1'
        have HI2 := Zh hi2
        have HL2 := Zh hl2'
        clear hx0 hx1 hx2 hl1' hi1 hl2' hi2
        replace ST := Zh ST.out.drew
        refine start_ (n := 13) (S := fun w' => w'.cell? ⟨w1.heap.size, 0, none⟩ = some (.slice (some ⟨g, 0, none⟩) o.length c1) ∧ w'.cell? ⟨w.heap.size, 0, none⟩ = some (.slice (some ad) l0_0.length c0_0) ∧ w'.cell? (ad.add (i.toNat * 3)) = some (.string (rd_T55 l0_0 i).f0) ∧ w'.cell? ⟨(ad.add (i.toNat * 3)).block, (ad.add (i.toNat * 3)).off + 1, none⟩ = some (.slice B1 (rd_T55 l0_0 i).f1.length d1) ∧ w'.cell? ⟨(ad.add (i.toNat * 3)).block, (ad.add (i.toNat * 3)).off + 2, none⟩ = some (.slice B2 (rd_T55 l0_0 i).f2.length d2)) (ds := [12]) #[false, false, false, false, false, false, false, false, false, false, false, false, false] (by kernel_rfl) rfl rfl ⟨ST.out.cell 0 rfl 0 rfl, ST.out.cell 3 rfl 0 rfl, (ST.out.b.cell (Zi w _ E0.out)).trans E0.out, (ST.out.b.cell (Zi w _ E1.out)).trans E1.out, (ST.out.b.cell (Zi w _ E2.out)).trans E2.out⟩ (fun hHeld => ?_)
        generalize w3.drew = w4 at ST hHeld ⊢
        refine pure_ (i := 0) (N := some 21) (v := ?_) (a' := ?_) #[true, false, false, false, false, false, false, false, false, false, false, false, false] rfl rfl (by kernel_rfl) (fun _ _ _ h => h) (Or.inl ⟨by rfl, ?_⟩) ?_ ?_
        rotate_left
        · intro w'
          go_simp
          with_reducible rfl
        rotate_left
        · simp only [Act.put, List.setIfInBounds_toArray, List.set_cons_zero, List.set_cons_succ, i64_w, i32_w]
          rfl
        refine pure_ (i := 2) (N := some 23) (v := ?_) (a' := ?_) #[true, false, true, false, false, false, false, false, false, false, false, false, false] rfl rfl (by kernel_rfl) (fun _ _ _ h => h) (Or.inl ⟨by rfl, ?_⟩) ?_ ?_
        rotate_left
        · intro w'
          go_simp
          with_reducible rfl
        rotate_left
        · simp only [Act.put, List.setIfInBounds_toArray, List.set_cons_zero, List.set_cons_succ, i64_w, i32_w]
          rfl
        refine pure_ (i := 3) (N := some 24) (v := ?_) (a' := ?_) #[true, false, true, true, false, false, false, false, false, false, false, false, false] rfl rfl (by kernel_rfl) (fun _ _ _ h => h) (Or.inl ⟨by rfl, ?_⟩) ?_ ?_
        rotate_left
        · intro w'
          go_simp
          with_reducible rfl
        rotate_left
        · simp only [Act.put, List.setIfInBounds_toArray, List.set_cons_zero, List.set_cons_succ, i64_w, i32_w]
          rfl
        refine pure_ (i := 4) (N := some 25) (v := ?_) (a' := ?_) #[true, false, true, true, true, false, false, false, false, false, false, false, false] rfl rfl (by kernel_rfl) (fun _ _ _ h => h) (Or.inl ⟨by rfl, ?_⟩) ?_ ?_
        rotate_left
        · intro w'
          go_simp
          with_reducible rfl
        rotate_left
        · simp only [Act.put, List.setIfInBounds_toArray, List.set_cons_zero, List.set_cons_succ, i64_w, i32_w]
          rfl
        refine pure_ (i := 6) (N := some 27) (v := ?_) (a' := ?_) #[true, false, true, true, true, false, true, false, false, false, false, false, false] rfl rfl (by kernel_rfl) (fun _ _ _ h => h) (Or.inl ⟨by rfl, ?_⟩) ?_ ?_
        rotate_left
        · intro w'
          go_simp
          with_reducible rfl
        rotate_left
        · simp only [Act.put, List.setIfInBounds_toArray, List.set_cons_zero, List.set_cons_succ, i64_w, i32_w]
          rfl
        refine take_ (i := 1) (N := some 22) (v := ?_) (a' := ?_) #[true, true, true, true, true, false, true, false, false, false, false, false, false] rfl rfl (by kernel_rfl) (fun _ _ _ h => h) (Or.inl ⟨by rfl, ?_⟩) hHeld ?_ ?_
        rotate_left
        · rintro w' ⟨s0, s1, s2, s3, s4⟩
          go_simp
          with_reducible rfl
        rotate_left
        · simp only [Act.put, List.setIfInBounds_toArray, List.set_cons_zero, List.set_cons_succ, i64_w, i32_w]
          rfl
        refine take_ (i := 5) (N := some 26) (v := ?_) (a' := ?_) #[true, true, true, true, true, true, true, false, false, false, false, false, false] rfl rfl (by kernel_rfl) (fun _ _ _ h => h) (Or.inl ⟨by rfl, ?_⟩) hHeld ?_ ?_
        rotate_left
        · rintro w' ⟨s0, s1, s2, s3, s4⟩
          go_simp
          with_reducible rfl
        rotate_left
        · simp only [Act.put, List.setIfInBounds_toArray, List.set_cons_zero, List.set_cons_succ, i64_w, i32_w]
          rfl
        refine pure_ (i := 7) (N := some 28) (v := ?_) (a' := ?_) #[true, true, true, true, true, true, true, true, false, false, false, false, false] rfl rfl (by kernel_rfl) (fun _ _ _ h => h) (Or.inl ⟨by rfl, ?_⟩) ?_ ?_
        rotate_left
        · intro w'
          go_simp
          with_reducible rfl
        rotate_left
        · simp only [Act.put, List.setIfInBounds_toArray, List.set_cons_zero, List.set_cons_succ, i64_w, i32_w]
          rfl
        refine take_ (i := 8) (N := some 29) (v := ?_) (a' := ?_) #[true, true, true, true, true, true, true, true, true, false, false, false, false] rfl rfl (by kernel_rfl) (fun _ _ _ h => h) (Or.inl ⟨by rfl, ?_⟩) hHeld ?_ ?_
        rotate_left
        · rintro w' ⟨s0, s1, s2, s3, s4⟩
          go_simp
          with_reducible rfl
        rotate_left
        · simp only [Act.put, List.setIfInBounds_toArray, List.set_cons_zero, List.set_cons_succ, i64_w, i32_w]
          rfl
        refine one_ (i := 9) (N := some 30) #[true, true, true, true, true, true, true, true, true, true, false, false, false] rfl rfl (by kernel_rfl) (by decide) (fun K hK => ?_)
        refine goes_ Tryd.func75 (by kernel_rfl) rfl #[.agg #[.string (rd_T55 l0_0 i).f0, .slice B1 (rd_T55 l0_0 i).f1.length d1, .slice B2 (rd_T55 l0_0 i).f2.length d2]] (by rfl) rfl rfl (by (try simp only [List.map_toArray, List.map_cons, List.map_nil]); first | done | rfl) ?_
        with_reducible refine (impl_File_content.calls (rd_T55 l0_0 i).f0 _ _ (rd_T55 l0_0 i).f1 _ _ (rd_T55 l0_0 i).f2 b _ (Kd.C_below HI1.out ST.out.b) HL1.out (Kd.C_below HI2.out ST.out.b) HL2.out HA4.out).mono ?_
        rintro e w5 ⟨v5, rfl, ho, hb⟩
        refine ⟨_, rfl, ?_⟩
        obtain ⟨A5, c5, rfl⟩ := Kd.R_slice ho
        replace ST := Zh (ST.out.rowR rfl hb ho)
        clear hb ho
        refine hK.out _ _ ⟨ST.out.cell 1 rfl 0 rfl, ST.out.cell 4 rfl 0 rfl, (ST.out.b.cell (Zi w _ E0.out)).trans E0.out, (ST.out.b.cell (Zi w _ E1.out)).trans E1.out, (ST.out.b.cell (Zi w _ E2.out)).trans E2.out⟩ (fun hHeld => ?_)
        clear hK K
        refine norm_ (a' := ?_) ?_ ?_
        rotate_left
        · show Act.put _ (some 30) _ = _
          simp only [Act.put, List.setIfInBounds_toArray, List.set_cons_zero, List.set_cons_succ, i64_w, i32_w]
          rfl
        obtain ⟨oki, cs, hcl, hM, hcc, hfr, hoki, hH⟩ := Kd.S_elem (ST.out.own 2 rfl) z55 i HI0.out HIO.out
        obtain ⟨pp, u1, u2, rfl, hA1, hA2⟩ := k55_openA hM
        have hy0 : w5.cell? ⟨g, i.toNat * 3, none⟩ = some (.string (o.getD i.toNat z55).f0) := hcc 0 _ rfl
        have hy1 : w5.cell? ⟨g, i.toNat * 3 + 1, none⟩ = some u1 := hcc 1 _ rfl
        have hy2 : w5.cell? ⟨g, i.toNat * 3 + 2, none⟩ = some u2 := hcc 2 _ rfl
        have hf0 : w5.frozen? ⟨g, i.toNat * 3, none⟩ = false := hfr 0
        have hf1 : w5.frozen? ⟨g, i.toNat * 3 + 1, none⟩ = false := hfr 1
        have hf2 : w5.frozen? ⟨g, i.toNat * 3 + 2, none⟩ = false := hfr 2
        clear hcl hM hcc hfr hoki hH hA1 hA2
        refine pure_ (i := 10) (N := some 31) (v := ?_) (a' := ?_) #[true, true, true, true, true, true, true, true, true, true, true, false, false] rfl rfl (by kernel_rfl) (fun _ _ _ h => h) (Or.inl ⟨by rfl, ?_⟩) ?_ ?_
        rotate_left
        · intro w'
          go_simp
          with_reducible rfl
        rotate_left
        · simp only [Act.put, List.setIfInBounds_toArray, List.set_cons_zero, List.set_cons_succ, i64_w, i32_w]
          rfl
        refine pure_ (i := 11) (N := some 32) (v := ?_) (a' := ?_) #[true, true, true, true, true, true, true, true, true, true, true, true, false] rfl rfl (by kernel_rfl) (fun _ _ _ h => h) (Or.inl ⟨by rfl, ?_⟩) ?_ ?_
        rotate_left
        · intro w'
          go_simp
          with_reducible rfl
        rotate_left
        · simp only [Act.put, List.setIfInBounds_toArray, List.set_cons_zero, List.set_cons_succ, i64_w, i32_w]
          rfl
        refine last_ (i := 12) (N := none) #[true, true, true, true, true, true, true, true, true, true, true, true, true] rfl rfl (by kernel_rfl) (by decide) (fun K hK => ?_)
        refine skip_ (w1 := ?_) (by rfl) rfl ?_ ?_
        rotate_left
        · go_simp
          rfl
        refine hK.out _ _ ?_
        clear hK K
        refine done_ (by kernel_rfl) ?_
        clear hy0 hy1 hy2 hf0 hf1 hf2 hHeld
        replace ST := Zh (setFile ST.out 2 0 (by decide) rfl rfl i HI0.out HIO.out a1)
        generalize (((w5.setCell ⟨g, i.toNat * 3, none⟩ (.string a1)).setCell ⟨g, i.toNat * 3 + 1, none⟩ (.slice A5 b.length c5)).setCell ⟨g, i.toNat * 3 + 2, none⟩ (.slice none 0 0)) = w6 at ST ⊢
        have hc1 := ST.out.cell 1 rfl 0 (u := .slice (some ⟨g, 0, none⟩) o.length c1) rfl
        have hl1 := ST.out.lt 1 rfl
        have hc2 := ST.out.cell 3 rfl 0 (u := .slice none 0 0) rfl
        have hl2 := ST.out.lt 3 rfl
        have hf2 := ST.out.frozen 3 rfl 0
        go_wp2
        replace ST := Zh (ST.out.set 3 rfl 0 (.slice (some ⟨g, 0, none⟩) o.length c1))
        refine Zq (results_ct rfl _ _ (w.heap.size + 1) 28 #[.slice (some ⟨g, 0, none⟩) o.length c1] (0, 0) _ rfl (ST.out.blk 3 rfl) Tryd.underlying28 rfl (by kernel_rfl)) rfl ?_
        exact ⟨_, rfl, Kd.S_mono (ST.out.own 2 rfl) (fun _ _ => trivial), ST.out.b⟩
      rw [if_neg cj] at h
      exact absurd h (by simp)
    rw [if_neg cl] at h
    exact absurd h (by simp)
  rw [if_neg ct] at h
  obtain rfl : t = false := by simpa using ct
  obtain ⟨rfl, rfl⟩ := Prod.mk.inj (Option.some.inj h)
  clear h ct
  have hf2 := ST.out.frozen 2 rfl 0
  go_wp2_with fail
  replace ST := Zh (ST.out.set 2 rfl 0 (.slice A1 o.length c1))
  refine Zq (results_ct rfl _ _ (w.heap.size + 1) 28 #[.slice A1 o.length c1] (0, 0) _ rfl (ST.out.blk 2 rfl) Tryd.underlying28 rfl (by kernel_rfl)) rfl ?_
  exact ⟨_, rfl, Kd.S_mono (ST.out.own 1 rfl) (fun _ _ => trivial), ST.out.b⟩
theorem run_field28 (v : Value) (w : World) : (Instr.field 28 (.agg #[v]) 0).run Tryd.prog w = .ok v w := by
  simp [Instr.field, go_sem, asAgg, Tryd.underlying28, Tryd.underlying26]
attribute [local go_sem] run_field28
def impl_renameFile.f (k : Nat) (l0_0 : List S55) (a1 a2 : ByteArray) : Option (List S55 × Bool) := (impl_fileOf.f l0_0 a1).bind fun i => (impl_isDisk.f k l0_0).bind fun t => if t = true then (if i < 0 then (impl_copyDisk.f k l0_0).bind fun o => some (o, false) else (impl_isFileName.f a2).bind fun n => if n = true then (if a1.toList = a2.toList then (impl_copyDisk.f k l0_0).bind fun o => some (o, true) else (impl_removeFile.f k l0_0 a1).bind fun p => (impl_removeFile.f k p.1 a2).bind fun q => (impl_copyDisk.f k l0_0).bind fun o => if i < (o.length : Int) then (if (q.1.length + 1) * 64 ≤ 140737488355328 then some (insM q.1 ⟨a2, (rd_T55 o i).f1, (rd_T55 o i).f2⟩, true) else none) else none) else (impl_copyDisk.f k l0_0).bind fun o => some (o, false)) else (impl_copyDisk.f k l0_0).bind fun o => some (o, false)
set_option maxHeartbeats 8000000 in
set_option maxRecDepth 100000 in
theorem impl_renameFile.calls (k : Nat) (A0_0 : Option Addr) (c0_0 : Nat) (l0_0 : List S55) (a1 a2 : ByteArray) (r1 : List S55) (r2 : Bool) (w : World) (hr0_0 : Kd.C k55 w A0_0 l0_0.length l0_0) (hc0_0 : l0_0.length ≤ c0_0) (h : impl_renameFile.f k l0_0 a1 a2 = some (r1, r2)) :
    Calls Tryd.prog 67 #[.agg #[.slice A0_0 l0_0.length c0_0], .string a1, .string a2] w fun e w' => ∃ v0_ : Value, e = .returned (.tuple #[.agg #[v0_], .bool r2]) ∧ Kd.S k55 55 w' w.heap.size (fun _ => True) v0_ r1 ∧ Below w.heap.size w w' := by
  have HR := Zh hr0_0
  have HC := Zh hc0_0
  clear hr0_0 hc0_0
  have ST := Zh (LW.St.start w)
  have hu28 := Tryd.underlying28
  have hu55 := Tryd.underlying55
  unfold impl_renameFile.f at h
  replace h := Option.bind_eq_some_iff.mp h
  obtain ⟨i, HA1, h⟩ := h
  replace h := Option.bind_eq_some_iff.mp h
  obtain ⟨t, HA2, h⟩ := h
  replace HA1 := Zh HA1
  replace HA2 := Zh HA2
  have H := Zh h
  clear h
  go_enter Tryd.func67, Tryd.ntmps67
  go_wp2_with fail
  replace ST := Zh (ST.out.alloc #[.slice A0_0 l0_0.length c0_0] 28 (g := w.heap.size) rfl)
  replace ST := Zh (ST.out.alloc #[.slice none 0 0] 28 (g := w.heap.size + 1) (by simp))
  with_reducible refine (impl_fileOf.calls _ _ l0_0 a1 i _ (Kd.C_below HR.out ST.out.b) HC.out HA1.out).mono ?_
  rintro e w2 ⟨rfl, hb⟩
  replace ST := Zh (ST.out.step hb)
  clear hb
  have hc1 := ST.out.cell 1 rfl 0 (u := .slice A0_0 l0_0.length c0_0) rfl
  have hl1 := ST.out.lt 1 rfl
  go_wp2_with fail
  with_reducible refine (impl_isDisk.calls k _ _ l0_0 t _ (Kd.C_below HR.out ST.out.b) HC.out HA2.out).mono ?_
  rintro e w3 ⟨rfl, hb⟩
  replace ST := Zh (ST.out.step hb)
  clear hb hc1 hl1
  have hc1 := ST.out.cell 1 rfl 0 (u := .slice A0_0 l0_0.length c0_0) rfl
  have hl1 := ST.out.lt 1 rfl
  have h := H.out
  clear H
  by_cases ct : t = true
  · subst ct
    rw [if_pos rfl] at h
    by_cases ci : i < 0
    · rw [if_pos ci] at h
      have cib : decide (i < 0) = true := decide_eq_true ci
      clear ci
      replace h := Option.bind_eq_some_iff.mp h
      obtain ⟨o, HAo, h⟩ := h
      obtain ⟨rfl, rfl⟩ := Prod.mk.inj (Option.some.inj h)
      clear h
      replace HAo := Zh HAo
      go_wp2_with fail
      with_reducible refine (impl_copyDisk.calls k _ _ l0_0 o _ (Kd.C_below HR.out ST.out.b) HC.out HAo.out).mono ?_
      rintro e w9 ⟨v9, rfl, ho, hb⟩
      obtain ⟨A9, c9, rfl⟩ := Kd.S_slice ho
      replace ST := Zh (ST.out.row hb ho)
      clear hb ho hc1 hl1
      have hc2 := ST.out.cell 1 rfl 0 (u := .slice none 0 0) rfl
      have hl2 := ST.out.lt 1 rfl
      have hf2 := ST.out.frozen 1 rfl 0
      go_wp2
      replace ST := Zh (ST.out.set 1 rfl 0 (.slice A9 o.length c9))
      refine Zq (results_ct rfl _ _ (w.heap.size + 1) 28 #[.slice A9 o.length c9] (0, 0) _ rfl (ST.out.blk 1 rfl) Tryd.underlying28 rfl (by kernel_rfl)) rfl ?_
      exact ⟨_, rfl, Kd.S_mono (ST.out.own 0 rfl) (fun _ _ => trivial), ST.out.b⟩
    rw [if_neg ci] at h
    have cib : decide (i < 0) = false := decide_eq_false ci
    have HI0 := Zh (show 0 ≤ i by omega)
    clear ci
    replace h := Option.bind_eq_some_iff.mp h
    obtain ⟨n, HA3, h⟩ := h
    replace HA3 := Zh HA3
    have H := Zh h
    clear h
    go_wp2_with fail
    with_reducible refine (impl_isFileName.calls a2 n _ HA3.out).mono ?_
    rintro e w4 ⟨rfl, hb⟩
    replace ST := Zh (ST.out.step hb)
    clear hb hc1 hl1
    have hc1 := ST.out.cell 1 rfl 0 (u := .slice A0_0 l0_0.length c0_0) rfl
    have hl1 := ST.out.lt 1 rfl
    have h := H.out
    clear H
    by_cases cn : n = true
    · subst cn
      rw [if_pos rfl] at h
      by_cases ce : a1.toList = a2.toList
      · rw [if_pos ce] at h
        have ceb : (a1.toList == a2.toList) = true := beq_iff_eq.mpr ce
        clear ce
        replace h := Option.bind_eq_some_iff.mp h
        obtain ⟨o, HAo, h⟩ := h
        obtain ⟨rfl, rfl⟩ := Prod.mk.inj (Option.some.inj h)
        clear h
        replace HAo := Zh HAo
        go_wp2_with fail
        with_reducible refine (impl_copyDisk.calls k _ _ l0_0 o _ (Kd.C_below HR.out ST.out.b) HC.out HAo.out).mono ?_
        rintro e w9 ⟨v9, rfl, ho, hb⟩
        obtain ⟨A9, c9, rfl⟩ := Kd.S_slice ho
        replace ST := Zh (ST.out.row hb ho)
        clear hb ho hc1 hl1
        have hc2 := ST.out.cell 1 rfl 0 (u := .slice none 0 0) rfl
        have hl2 := ST.out.lt 1 rfl
        have hf2 := ST.out.frozen 1 rfl 0
        go_wp2
        replace ST := Zh (ST.out.set 1 rfl 0 (.slice A9 o.length c9))
        refine Zq (results_ct rfl _ _ (w.heap.size + 1) 28 #[.slice A9 o.length c9] (0, 0) _ rfl (ST.out.blk 1 rfl) Tryd.underlying28 rfl (by kernel_rfl)) rfl ?_
        exact ⟨_, rfl, Kd.S_mono (ST.out.own 0 rfl) (fun _ _ => trivial), ST.out.b⟩
      rw [if_neg ce] at h
      have ceb : (a1.toList == a2.toList) = false := beq_eq_false_iff_ne.mpr ce
      clear ce
      replace h := Option.bind_eq_some_iff.mp h
      obtain ⟨⟨p, pb⟩, HA4, h⟩ := h
      replace h := Option.bind_eq_some_iff.mp h
      obtain ⟨⟨q, qb⟩, HA5, h⟩ := h
      replace h := Option.bind_eq_some_iff.mp h
      obtain ⟨o, HA6, h⟩ := h
      simp only at HA5 h
      replace HA4 := Zh HA4
      replace HA5 := Zh HA5
      replace HA6 := Zh HA6
      by_cases cl : i < (o.length : Int)
      · rw [if_pos cl] at h
        by_cases cq : (q.length + 1) * 64 ≤ 140737488355328
        · rw [if_pos cq] at h
          obtain ⟨rfl, rfl⟩ := Prod.mk.inj (Option.some.inj h)
          have HCL := Zh cl
          have HCQ := Zh cq
          clear h cl cq
          go_wp2_with fail
          with_reducible refine (impl_removeFile.calls k _ _ l0_0 a1 p pb _ (Kd.C_below HR.out ST.out.b) HC.out HA4.out).mono ?_
          rintro e w5 ⟨v5, rfl, ho, hb⟩
          obtain ⟨A5, c5, rfl⟩ := Kd.S_slice ho
          replace ST := Zh (ST.out.row hb ho)
          clear hb ho hc1 hl1
          go_wp2_with fail
          replace ST := Zh (ST.out.alloc #[.slice A5 p.length c5] 28 (g := w5.heap.size) rfl)
          with_reducible refine (impl_removeFile.calls k _ _ p a2 q qb _ (ST.out.reads 1 rfl).2.2 (ST.out.reads 1 rfl).2.1 HA5.out).mono ?_
          rintro e w6 ⟨v6, rfl, ho, hb⟩
          obtain ⟨A6, c6, rfl⟩ := Kd.S_slice ho
          replace ST := Zh (ST.out.row hb ho)
          clear hb ho
          have hc1 := ST.out.cell 4 rfl 0 (u := .slice A0_0 l0_0.length c0_0) rfl
          have hl1 := ST.out.lt 4 rfl
          have hc2 := ST.out.cell 1 rfl 0 (u := .slice A5 p.length c5) rfl
          have hl2 := ST.out.lt 1 rfl
          have hf2 := ST.out.frozen 1 rfl 0
          have hne := ST.out.ne 1 4 (by decide) rfl rfl
          go_wp2_with fail
          replace ST := Zh (ST.out.set 1 rfl 0 (.slice A6 q.length c6))
          generalize (w6.setCell ⟨w5.heap.size, 0, none⟩ (.slice A6 q.length c6)) = w7 at ST ⊢
          with_reducible refine (impl_copyDisk.calls k _ _ l0_0 o _ (Kd.C_below HR.out ST.out.b) HC.out HA6.out).mono ?_
          rintro e w8 ⟨v8, rfl, ho, hb⟩
          obtain ⟨g, cg, rfl, _, _, _⟩ := Kd.S_form ho (by have := HCL.out; have := HI0.out; omega)
          replace ST := Zh (ST.out.row hb ho)
          clear hb ho hc1 hl1 hc2 hl2 hf2 hne
          obtain ⟨oki, cs, hcl, hM, hcc, hfr, hoki, hH⟩ := Kd.S_elem (ST.out.own 0 rfl) z55 i HI0.out HCL.out
          obtain ⟨pp, u1, u2, rfl, hM1, hM2⟩ := k55_openA hM
          obtain ⟨B1, d1, rfl⟩ := Kd.R_slice hM1
          obtain ⟨B2, d2, rfl⟩ := Kd.R_slice hM2
          have hrd : o.getD i.toNat z55 = rd_T55 o i := rfl
          rw [hrd] at hM1 hM2 hcc
          generalize hy : rd_T55 o i = y at hM1 hM2 hcc
          have HY := Zh hy
          clear hy
          have hy0 : w8.cell? ⟨g, i.toNat * 3, none⟩ = some (.string y.f0) := hcc 0 _ rfl
          have hy1 : w8.cell? ⟨g, i.toNat * 3 + 1, none⟩ = some (.slice B1 y.f1.length d1) := hcc 1 _ rfl
          have hy2 : w8.cell? ⟨g, i.toNat * 3 + 2, none⟩ = some (.slice B2 y.f2.length d2) := hcc 2 _ rfl
          have hc1 := ST.out.cell 2 rfl 0 (u := .slice A6 q.length c6) rfl
          have hl1 := ST.out.lt 2 rfl
          have p0 := eq_true HI0.out
          have p1 := eq_true HCL.out
          have K1 := Zh (And.intro hM1 (And.intro hM2 hoki))
          clear hrd hcl hM hcc hfr hoki hH hM1 hM2
          go_wp2_with ((with_reducible refine gate_dst (N := 11) rfl ?_); refine box_event ?hg (N := 11) ?hd (cs := #[.string (⟨#[]⟩ : ByteArray), .slice none 0 0, .slice none 0 0]) (t := 55) ?hr ?_; (case hd => rfl); (case hg => rfl); (case hr => first | (go_simp; done) | (go_simp; rfl)); intro gb hg w10 hbox hb; replace ST := Zh (ST.out.box hg hbox hb); have hd0 := ST.out.cell 0 rfl 0 (u := .string (⟨#[]⟩ : ByteArray)) rfl; have hd1 := ST.out.cell 0 rfl 1 (u := .slice none 0 0) rfl; have hd2 := ST.out.cell 0 rfl 2 (u := .slice none 0 0) rfl; have hg0 := ST.out.frozen 0 rfl 0; have hg1 := ST.out.frozen 0 rfl 1; have hg2 := ST.out.frozen 0 rfl 2; have hgl := ST.out.lt 0 rfl; replace hc1 := ST.out.cell 3 rfl 0 (u := .slice A6 q.length c6) rfl; replace hl1 := ST.out.lt 3 rfl; have hne := ST.out.ne 3 0 (by decide) rfl rfl; have hne' := hne.symm; have HBX := Zh hb; have HGB := Zh (Nat.le_of_eq hg.symm); clear hg hbox hb)
          have hb11 : Below w8.heap.size w8 ((((w10.setCell ⟨gb, 0, none⟩ (.string y.f0)).setCell ⟨gb, 1, none⟩ (.slice B1 y.f1.length d1)).setCell ⟨gb, 2, none⟩ (.slice B2 y.f2.length d2)).setCell ⟨gb, 0, none⟩ (.string a2)) := Zg (Zg (Zg (Zg HBX.out HGB.out) HGB.out) HGB.out) HGB.out
          replace ST := Zh (ST.out.set 0 rfl 0 (.string y.f0))
          replace ST := Zh (ST.out.set 0 rfl 1 (.slice B1 y.f1.length d1))
          replace ST := Zh (ST.out.set 0 rfl 2 (.slice B2 y.f2.length d2))
          replace ST := Zh (ST.out.set 0 rfl 0 (.string a2))
          clear hd0 hd1 hd2 hg0 hg1 hg2 hgl hc1 hl1 hne hne' hy0 hy1 hy2 p0 p1
          generalize ((((w10.setCell ⟨gb, 0, none⟩ (.string y.f0)).setCell ⟨gb, 1, none⟩ (.slice B1 y.f1.length d1)).setCell ⟨gb, 2, none⟩ (.slice B2 y.f2.length d2)).setCell ⟨gb, 0, none⟩ (.string a2)) = w11 at ST hb11 ⊢
          obtain ⟨hM1, hM2, hoki⟩ := K1.out
          refine (impl_withFile.calls _ oki _ q ⟨a2, y.f1, y.f2⟩ (.slice B1 y.f1.length d1) (.slice B2 y.f2.length d2) w w11 ST.out.b (ST.out.own 2 rfl) HCQ.out (k55_mkM w11 _ oki (⟨a2, y.f1, y.f2⟩ : S55) (Kd.R_mono (Kd.R_below hM1 hb11) (fun k hk => hk.1)) (Kd.R_mono (Kd.R_below hM2 hb11) (fun k hk => hk.1)) (fun k h1 h2 => (hM2.1 k h2.symm).2 (hM1.1 k h1.symm).2)) (fun k hk hp => LW.Its.disj ST.out.i 1 2 _ _ (by decide) rfl rfl k (hoki k hk).1 hp)).mono ?_
          rintro e w12 ⟨v', rfl, hS, hB12, hK12⟩
          have hl5 := ST.out.lt 5 rfl
          have b5 := (hK12.2 _ hl5 (fun hp => LW.Its.disj ST.out.i 5 2 _ _ (by decide) rfl rfl _ rfl hp)).trans (ST.out.blk 5 rfl)
          obtain ⟨A12, c12, hv12⟩ := Kd.S_slice hS
          obtain ⟨n12, hn12⟩ : ∃ n12, n12 = (insM q ⟨a2, y.f1, y.f2⟩).length := ⟨_, rfl⟩
          rw [← hn12] at hv12
          subst hv12
          clear hn12
          have FIN := Zh (And.intro hS (And.intro hB12 (And.intro hl5 b5)))
          have K2 := Zh hoki
          have hc5 := (blk_cell b5 0).trans (show _ = some (.slice none 0 0) from rfl)
          have hf5 := Zn b5 0
          have hm5 := blk_lt b5
          clear hS hB12 hK12 hl5 b5 hM1 hM2 hoki K1 hb11
          go_wp2_with fail
          obtain ⟨hS, hB12, hl5, b5⟩ := FIN.out
          have hy := HY.out
          clear HY
          subst hy
          refine Zq (results_ct rfl _ _ (w.heap.size + 1) 28 #[.slice A12 n12 c12] (0, 0) _ rfl (blk_put b5 0 _ rfl) Tryd.underlying28 rfl (by kernel_rfl)) rfl ?_
          refine ⟨_, rfl, Kd.S_mono (Kd.S_far hS (fun k hk => ?_) _) (fun _ _ => trivial), Zg hB12 (Nat.le_succ _)⟩
          show k ≠ w.heap.size + 1
          intro he
          rcases hk with hk | hk | hk
          · exact LW.Its.disj ST.out.i 2 5 _ _ (by decide) rfl rfl k hk he
          · exact LW.Its.disj ST.out.i 1 5 _ _ (by decide) rfl rfl k (K2.out k hk).1 he
          have := hk.1; omega
        rw [if_neg cq] at h; exact absurd h (by simp)
      rw [if_neg cl] at h; exact absurd h (by simp)
    rw [if_neg cn] at h
    obtain rfl : n = false := by simpa using cn
    clear cn
    replace h := Option.bind_eq_some_iff.mp h
    obtain ⟨o, HAo, h⟩ := h
    obtain ⟨rfl, rfl⟩ := Prod.mk.inj (Option.some.inj h)
    clear h
    replace HAo := Zh HAo
    go_wp2_with fail
    with_reducible refine (impl_copyDisk.calls k _ _ l0_0 o _ (Kd.C_below HR.out ST.out.b) HC.out HAo.out).mono ?_
    rintro e w9 ⟨v9, rfl, ho, hb⟩
    obtain ⟨A9, c9, rfl⟩ := Kd.S_slice ho
    replace ST := Zh (ST.out.row hb ho)
    clear hb ho hc1 hl1
    have hc2 := ST.out.cell 1 rfl 0 (u := .slice none 0 0) rfl
    have hl2 := ST.out.lt 1 rfl
    have hf2 := ST.out.frozen 1 rfl 0
    go_wp2
    replace ST := Zh (ST.out.set 1 rfl 0 (.slice A9 o.length c9))
    refine Zq (results_ct rfl _ _ (w.heap.size + 1) 28 #[.slice A9 o.length c9] (0, 0) _ rfl (ST.out.blk 1 rfl) Tryd.underlying28 rfl (by kernel_rfl)) rfl ?_
    exact ⟨_, rfl, Kd.S_mono (ST.out.own 0 rfl) (fun _ _ => trivial), ST.out.b⟩
  rw [if_neg ct] at h
  obtain rfl : t = false := by simpa using ct
  clear ct
  replace h := Option.bind_eq_some_iff.mp h
  obtain ⟨o, HAo, h⟩ := h
  obtain ⟨rfl, rfl⟩ := Prod.mk.inj (Option.some.inj h)
  clear h
  replace HAo := Zh HAo
  go_wp2_with fail
  with_reducible refine (impl_copyDisk.calls k _ _ l0_0 o _ (Kd.C_below HR.out ST.out.b) HC.out HAo.out).mono ?_
  rintro e w9 ⟨v9, rfl, ho, hb⟩
  obtain ⟨A9, c9, rfl⟩ := Kd.S_slice ho
  replace ST := Zh (ST.out.row hb ho)
  clear hb ho hc1 hl1
  have hc2 := ST.out.cell 1 rfl 0 (u := .slice none 0 0) rfl
  have hl2 := ST.out.lt 1 rfl
  have hf2 := ST.out.frozen 1 rfl 0
  go_wp2
  replace ST := Zh (ST.out.set 1 rfl 0 (.slice A9 o.length c9))
  refine Zq (results_ct rfl _ _ (w.heap.size + 1) 28 #[.slice A9 o.length c9] (0, 0) _ rfl (ST.out.blk 1 rfl) Tryd.underlying28 rfl (by kernel_rfl)) rfl ?_
  exact ⟨_, rfl, Kd.S_mono (ST.out.own 0 rfl) (fun _ _ => trivial), ST.out.b⟩
end Go.Proofs.YtcgojdhbphocgaaDoor.F

namespace Go.Proofs.YtcgojdhbphocgaaDoor.F
open Go.RowKit Go.Proofs.YtcgojdhbphocgaaDoorW.PrintWords Go.Proofs.YtcgojdhbphocgaaDoorW.PrintWords.Kd Go.Proofs.YtcgojdhbphocgaaDoorW.PrintMore.Kd Go.Proofs.YtcgojdhbphocgaaDoorW.PrintLast Go.Proofs.YtcgojdhbphocgaaDoorW.PrintMore
attribute [local go_sem] max2_int min2_int max_two min_two max_three min_three max_four min_four   -- for this text's walks alone
set_option linter.unusedVariables false
set_option linter.unusedSimpArgs false
def binary_littleEndian_Uint32.f  (l1 : List Int) : Option (Int) := if 3 < (l1.length : Int) then (if 0 < (l1.length : Int) then (if 1 < (l1.length : Int) then (if 2 < (l1.length : Int) then (some (Go.bits .or .u32 (Go.bits .or .u32 (Go.bits .or .u32 ((rd l1 0) % 4294967296) ((((rd l1 1) % 4294967296) * 256) % 4294967296)) ((((rd l1 2) % 4294967296) * 65536) % 4294967296)) ((((rd l1 3) % 4294967296) * 16777216) % 4294967296))) else (none)) else (none)) else (none)) else (none)
set_option maxHeartbeats 8000000 in
set_option maxRecDepth 100000 in
theorem binary_littleEndian_Uint32.calls  (A1 : Option Addr) (c1 : Nat) (l1 : List Int) (r : Int) (w : World) (hr1 : Kd.C (Kd.int .u8) w A1 l1.length l1) (hc1 : l1.length ≤ c1) (h : binary_littleEndian_Uint32.f l1 = some r) :
  Calls Tryd.prog 105 #[.agg #[], .slice A1 l1.length c1] w fun e w' => e = .returned (.int .u32 r) ∧ Below w.heap.size w w' := by
 have hu94 := Tryd.underlying94
 have HR1 := Zh hr1
 have HC1 := Zh hc1
 clear hr1 hc1
 have HB := Zh (Below.refl w.heap.size w)
 have H : (if 3 < (l1.length : Int) then (if 0 < (l1.length : Int) then (if 1 < (l1.length : Int) then (if 2 < (l1.length : Int) then (some (Go.bits .or .u32 (Go.bits .or .u32 (Go.bits .or .u32 ((rd l1 0) % 4294967296) ((((rd l1 1) % 4294967296) * 256) % 4294967296)) ((((rd l1 2) % 4294967296) * 65536) % 4294967296)) ((((rd l1 3) % 4294967296) * 16777216) % 4294967296))) else (none)) else (none)) else (none)) else (none)) = some r := h
 clear h
 by_cases c3 : 3 < (l1.length : Int)
 ·
  rw [if_pos c3] at H
  have c3b0 : decide (3 < (l1.length : Int)) = true := decide_eq_true c3
  have c3b1 : decide (3 < l1.length) = true := decide_eq_true (by omega)
  clear c3
  by_cases c4 : 0 < (l1.length : Int)
  ·
   rw [if_pos c4] at H
   have c4b0 : decide (0 < (l1.length : Int)) = true := decide_eq_true c4
   have c4b1 : decide (0 < l1.length) = true := decide_eq_true (by omega)
   clear c4
   by_cases c5 : 1 < (l1.length : Int)
   ·
    rw [if_pos c5] at H
    have c5b0 : decide (1 < (l1.length : Int)) = true := decide_eq_true c5
    have c5b1 : decide (1 < l1.length) = true := decide_eq_true (by omega)
    clear c5
    by_cases c6 : 2 < (l1.length : Int)
    ·
     rw [if_pos c6] at H
     have c6b0 : decide (2 < (l1.length : Int)) = true := decide_eq_true c6
     have c6b1 : decide (2 < l1.length) = true := decide_eq_true (by omega)
     clear c6
     obtain rfl := Option.some.inj H
     go_enter Tryd.func105, Tryd.ntmps105
     go_wp2_with (first | ((with_reducible refine gate_dst (N := 2) rfl ?_); refine box_event ?hg (N := 2) ?hd (cs := #[]) (t := 94) ?hr ?_; (case hd => rfl); (case hg => rfl); (case hr => first | (go_simp; done) | (go_simp; rfl)); intro gb354 hg w7 hbox hb; have n0_ := Zh (Zl Zs hb); have n1_ := Zh (hbox); have n2_ := Zh ((by rw [hg]; exact (below_size Zs) : w.heap.size ≤ gb354)); have n3_ := Zh ((by rw [hg]; exact (below_size Zs) : w.heap.size ≤ gb354)); clear HB; have HB := n0_; have BK354 := n1_; have GW354 := n2_; have GE354 := n3_; clear n0_ n1_ n2_ n3_; clear hb hbox hg; have p355 : 0 ≤ (3 : Int) := (by omega); have q355 : 3 < (l1.length : Int) := Zo; obtain ⟨ad355, e355, hx355_0⟩ := Kd.at_int HR1.out 3 p355 q355; cases e355; (try simp only [show (3 : Int).toNat = 3 from rfl, Nat.reduceMul, Nat.reduceEqDiff, Go.Addr.add, ↓reduceIte] at hx355_0); have qi355 : (3 < l1.length) = True := eq_true (by omega); (try rw [show ((3 : Int)).toNat = 3 from rfl] at hx355_0); replace hx355_0 := Zc HB.out hx355_0; replace p355 := eq_true p355; replace q355 := eq_true q355; have p356 : 0 ≤ (0 : Int) := (by omega); have q356 : 0 < (l1.length : Int) := Zo; obtain ⟨ad356, e356, hx356_0⟩ := Kd.at_int HR1.out 0 p356 q356; obtain rfl : ad355 = ad356 := (by injection e356); have qi356 : (0 < l1.length) = True := eq_true (by omega); (try rw [show ((0 : Int)).toNat = 0 from rfl] at hx356_0); (try rw [Addr.add_zero'] at hx356_0); replace hx356_0 := Zc HB.out hx356_0; replace p356 := eq_true p356; replace q356 := eq_true q356; have p357 : 0 ≤ (1 : Int) := (by omega); have q357 : 1 < (l1.length : Int) := Zo; obtain ⟨ad357, e357, hx357_0⟩ := Kd.at_int HR1.out 1 p357 q357; obtain rfl : ad355 = ad357 := (by injection e357); (try simp only [show (1 : Int).toNat = 1 from rfl, Nat.reduceMul, Nat.reduceEqDiff, Go.Addr.add, ↓reduceIte] at hx357_0); have qi357 : (1 < l1.length) = True := eq_true (by omega); (try rw [show ((1 : Int)).toNat = 1 from rfl] at hx357_0); replace hx357_0 := Zc HB.out hx357_0; replace p357 := eq_true p357; replace q357 := eq_true q357; have p358 : 0 ≤ (2 : Int) := (by omega); have q358 : 2 < (l1.length : Int) := Zo; obtain ⟨ad358, e358, hx358_0⟩ := Kd.at_int HR1.out 2 p358 q358; obtain rfl : ad355 = ad358 := (by injection e358); (try simp only [show (2 : Int).toNat = 2 from rfl, Nat.reduceMul, Nat.reduceEqDiff, Go.Addr.add, ↓reduceIte] at hx358_0); have qi358 : (2 < l1.length) = True := eq_true (by omega); (try rw [show ((2 : Int)).toNat = 2 from rfl] at hx358_0); replace hx358_0 := Zc HB.out hx358_0; replace p358 := eq_true p358; replace q358 := eq_true q358; have p359 : 0 ≤ (3 : Int) := (by omega); have q359 : 3 < (l1.length : Int) := Zo; obtain ⟨ad359, e359, hx359_0⟩ := Kd.at_int HR1.out 3 p359 q359; obtain rfl : ad355 = ad359 := (by injection e359); (try simp only [show (3 : Int).toNat = 3 from rfl, Nat.reduceMul, Nat.reduceEqDiff, Go.Addr.add, ↓reduceIte] at hx359_0); have qi359 : (3 < l1.length) = True := eq_true (by omega); (try rw [show ((3 : Int)).toNat = 3 from rfl] at hx359_0); replace hx359_0 := Zc HB.out hx359_0; replace p359 := eq_true p359; replace q359 := eq_true q359))
     repeat (go_quiet (first | ((with_reducible refine gate_dst (N := 2) rfl ?_); refine box_event ?hg (N := 2) ?hd (cs := #[]) (t := 94) ?hr ?_; (case hd => rfl); (case hg => rfl); (case hr => first | (go_simp; done) | (go_simp; rfl)); intro gb354 hg w7 hbox hb; have n0_ := Zh (Zl Zs hb); have n1_ := Zh (hbox); have n2_ := Zh ((by rw [hg]; exact (below_size Zs) : w.heap.size ≤ gb354)); have n3_ := Zh ((by rw [hg]; exact (below_size Zs) : w.heap.size ≤ gb354)); clear HB; have HB := n0_; have BK354 := n1_; have GW354 := n2_; have GE354 := n3_; clear n0_ n1_ n2_ n3_; clear hb hbox hg; have p355 : 0 ≤ (3 : Int) := (by omega); have q355 : 3 < (l1.length : Int) := Zo; obtain ⟨ad355, e355, hx355_0⟩ := Kd.at_int HR1.out 3 p355 q355; cases e355; (try simp only [show (3 : Int).toNat = 3 from rfl, Nat.reduceMul, Nat.reduceEqDiff, Go.Addr.add, ↓reduceIte] at hx355_0); have qi355 : (3 < l1.length) = True := eq_true (by omega); (try rw [show ((3 : Int)).toNat = 3 from rfl] at hx355_0); replace hx355_0 := Zc HB.out hx355_0; replace p355 := eq_true p355; replace q355 := eq_true q355; have p356 : 0 ≤ (0 : Int) := (by omega); have q356 : 0 < (l1.length : Int) := Zo; obtain ⟨ad356, e356, hx356_0⟩ := Kd.at_int HR1.out 0 p356 q356; obtain rfl : ad355 = ad356 := (by injection e356); have qi356 : (0 < l1.length) = True := eq_true (by omega); (try rw [show ((0 : Int)).toNat = 0 from rfl] at hx356_0); (try rw [Addr.add_zero'] at hx356_0); replace hx356_0 := Zc HB.out hx356_0; replace p356 := eq_true p356; replace q356 := eq_true q356; have p357 : 0 ≤ (1 : Int) := (by omega); have q357 : 1 < (l1.length : Int) := Zo; obtain ⟨ad357, e357, hx357_0⟩ := Kd.at_int HR1.out 1 p357 q357; obtain rfl : ad355 = ad357 := (by injection e357); (try simp only [show (1 : Int).toNat = 1 from rfl, Nat.reduceMul, Nat.reduceEqDiff, Go.Addr.add, ↓reduceIte] at hx357_0); have qi357 : (1 < l1.length) = True := eq_true (by omega); (try rw [show ((1 : Int)).toNat = 1 from rfl] at hx357_0); replace hx357_0 := Zc HB.out hx357_0; replace p357 := eq_true p357; replace q357 := eq_true q357; have p358 : 0 ≤ (2 : Int) := (by omega); have q358 : 2 < (l1.length : Int) := Zo; obtain ⟨ad358, e358, hx358_0⟩ := Kd.at_int HR1.out 2 p358 q358; obtain rfl : ad355 = ad358 := (by injection e358); (try simp only [show (2 : Int).toNat = 2 from rfl, Nat.reduceMul, Nat.reduceEqDiff, Go.Addr.add, ↓reduceIte] at hx358_0); have qi358 : (2 < l1.length) = True := eq_true (by omega); (try rw [show ((2 : Int)).toNat = 2 from rfl] at hx358_0); replace hx358_0 := Zc HB.out hx358_0; replace p358 := eq_true p358; replace q358 := eq_true q358; have p359 : 0 ≤ (3 : Int) := (by omega); have q359 : 3 < (l1.length : Int) := Zo; obtain ⟨ad359, e359, hx359_0⟩ := Kd.at_int HR1.out 3 p359 q359; obtain rfl : ad355 = ad359 := (by injection e359); (try simp only [show (3 : Int).toNat = 3 from rfl, Nat.reduceMul, Nat.reduceEqDiff, Go.Addr.add, ↓reduceIte] at hx359_0); have qi359 : (3 < l1.length) = True := eq_true (by omega); (try rw [show ((3 : Int)).toNat = 3 from rfl] at hx359_0); replace hx359_0 := Zc HB.out hx359_0; replace p359 := eq_true p359; replace q359 := eq_true q359)); try go_wp2_with (first | ((with_reducible refine gate_dst (N := 2) rfl ?_); refine box_event ?hg (N := 2) ?hd (cs := #[]) (t := 94) ?hr ?_; (case hd => rfl); (case hg => rfl); (case hr => first | (go_simp; done) | (go_simp; rfl)); intro gb354 hg w7 hbox hb; have n0_ := Zh (Zl Zs hb); have n1_ := Zh (hbox); have n2_ := Zh ((by rw [hg]; exact (below_size Zs) : w.heap.size ≤ gb354)); have n3_ := Zh ((by rw [hg]; exact (below_size Zs) : w.heap.size ≤ gb354)); clear HB; have HB := n0_; have BK354 := n1_; have GW354 := n2_; have GE354 := n3_; clear n0_ n1_ n2_ n3_; clear hb hbox hg; have p355 : 0 ≤ (3 : Int) := (by omega); have q355 : 3 < (l1.length : Int) := Zo; obtain ⟨ad355, e355, hx355_0⟩ := Kd.at_int HR1.out 3 p355 q355; cases e355; (try simp only [show (3 : Int).toNat = 3 from rfl, Nat.reduceMul, Nat.reduceEqDiff, Go.Addr.add, ↓reduceIte] at hx355_0); have qi355 : (3 < l1.length) = True := eq_true (by omega); (try rw [show ((3 : Int)).toNat = 3 from rfl] at hx355_0); replace hx355_0 := Zc HB.out hx355_0; replace p355 := eq_true p355; replace q355 := eq_true q355; have p356 : 0 ≤ (0 : Int) := (by omega); have q356 : 0 < (l1.length : Int) := Zo; obtain ⟨ad356, e356, hx356_0⟩ := Kd.at_int HR1.out 0 p356 q356; obtain rfl : ad355 = ad356 := (by injection e356); have qi356 : (0 < l1.length) = True := eq_true (by omega); (try rw [show ((0 : Int)).toNat = 0 from rfl] at hx356_0); (try rw [Addr.add_zero'] at hx356_0); replace hx356_0 := Zc HB.out hx356_0; replace p356 := eq_true p356; replace q356 := eq_true q356; have p357 : 0 ≤ (1 : Int) := (by omega); have q357 : 1 < (l1.length : Int) := Zo; obtain ⟨ad357, e357, hx357_0⟩ := Kd.at_int HR1.out 1 p357 q357; obtain rfl : ad355 = ad357 := (by injection e357); (try simp only [show (1 : Int).toNat = 1 from rfl, Nat.reduceMul, Nat.reduceEqDiff, Go.Addr.add, ↓reduceIte] at hx357_0); have qi357 : (1 < l1.length) = True := eq_true (by omega); (try rw [show ((1 : Int)).toNat = 1 from rfl] at hx357_0); replace hx357_0 := Zc HB.out hx357_0; replace p357 := eq_true p357; replace q357 := eq_true q357; have p358 : 0 ≤ (2 : Int) := (by omega); have q358 : 2 < (l1.length : Int) := Zo; obtain ⟨ad358, e358, hx358_0⟩ := Kd.at_int HR1.out 2 p358 q358; obtain rfl : ad355 = ad358 := (by injection e358); (try simp only [show (2 : Int).toNat = 2 from rfl, Nat.reduceMul, Nat.reduceEqDiff, Go.Addr.add, ↓reduceIte] at hx358_0); have qi358 : (2 < l1.length) = True := eq_true (by omega); (try rw [show ((2 : Int)).toNat = 2 from rfl] at hx358_0); replace hx358_0 := Zc HB.out hx358_0; replace p358 := eq_true p358; replace q358 := eq_true q358; have p359 : 0 ≤ (3 : Int) := (by omega); have q359 : 3 < (l1.length : Int) := Zo; obtain ⟨ad359, e359, hx359_0⟩ := Kd.at_int HR1.out 3 p359 q359; obtain rfl : ad355 = ad359 := (by injection e359); (try simp only [show (3 : Int).toNat = 3 from rfl, Nat.reduceMul, Nat.reduceEqDiff, Go.Addr.add, ↓reduceIte] at hx359_0); have qi359 : (3 < l1.length) = True := eq_true (by omega); (try rw [show ((3 : Int)).toNat = 3 from rfl] at hx359_0); replace hx359_0 := Zc HB.out hx359_0; replace p359 := eq_true p359; replace q359 := eq_true q359)))
     go_ret
     exact ⟨by first | rfl | (simp [errW_none, errW_some] <;> rfl) | (simp [*, errW_none, errW_some] <;> rfl), by repeat (first | (with_reducible first | exact HB.out | apply Zf | apply Zd | apply Ze | refine Zg ?_ GE354.out) | exact HB.out)⟩
    rw [if_neg c6] at H
    exact absurd H (by simp)
   rw [if_neg c5] at H
   exact absurd H (by simp)
  rw [if_neg c4] at H
  exact absurd H (by simp)
 rw [if_neg c3] at H
 exact absurd H (by simp)
mutual
def impl_scanFrames.l0 : Nat → List Int → List (List Int) → Int → Option ((List (List Int)) × Int)
 | 0, _, _, _ => none
 | k + 1, x0, x4, x5 => if 0 ≤ x5 then (if x5 ≤ (x0.length : Int) then (if ((x0.drop (x5 : Int).toNat).length : Int) < 8 then (some (x4, x5)) else ((binary_littleEndian_Uint32.f (x0.drop (x5 : Int).toNat)).bind fun t364 => (if t364 < 1 then (impl_scanFrames.j1 k x0 x4 x5 (x0.drop (x5 : Int).toNat) t364 true) else (if t364 > 600 then (impl_scanFrames.j1 k x0 x4 x5 (x0.drop (x5 : Int).toNat) t364 true) else (impl_scanFrames.j1 k x0 x4 x5 (x0.drop (x5 : Int).toNat) t364 (decide (((x0.drop (x5 : Int).toNat).length : Int) < (wrap64 (8 + (wrap64 (t364))))))))))) else (none)) else (none)
def impl_scanFrames.j1 : Nat → List Int → List (List Int) → Int → List Int → Int → Bool → Option ((List (List Int)) × Int)
 | 0, _, _, _, _, _, _ => none
 | k + 1, x0, x4, x5, x6, x7, x34 => if x34 = true then (some (x4, x5)) else (if 8 ≤ ((8 + x7) % 4294967296) then (if ((8 + x7) % 4294967296) ≤ (x6.length : Int) then (if 4 ≤ (x6.length : Int) then ((binary_littleEndian_Uint32.f (x6.drop 4)).bind fun t367 => ((impl_crc32.f k ((x6.take (((8 + x7) % 4294967296) : Int).toNat).drop 8)).bind fun t368 => (if t367 = t368 then ((some (([] : List Int) : List Int)).bind fun y369 => (if y369.length + ((x6.take (((8 + x7) % 4294967296) : Int).toNat).drop 8).length < 140737488355328 then (if x4.length < 5864062014805 then (impl_scanFrames.l0 k x0 (x4 ++ [(y369 ++ ((x6.take (((8 + x7) % 4294967296) : Int).toNat).drop 8))]) (wrap64 (x5 + (wrap64 (8 + (wrap64 (x7))))))) else (none)) else (none))) else (some (x4, x5))))) else (none)) else (none)) else (none))
end
def impl_scanFrames.f (k : Nat) (l0 : List Int) : Option ((List (List Int)) × Int) := impl_scanFrames.l0 k l0 (([] : List (List Int))) 0
set_option maxHeartbeats 8000000 in
set_option maxRecDepth 100000 in
theorem impl_scanFrames.calls (k : Nat) (A0 : Option Addr) (c0 : Nat) (l0 : List Int) (r1 : List (List Int)) (r2 : Int) (w : World) (hr0 : Kd.C (Kd.int .u8) w A0 l0.length l0) (hc0 : l0.length ≤ c0) (h : impl_scanFrames.f k l0 = some (r1, r2)) :
  Calls Tryd.prog 81 #[.slice A0 l0.length c0] w fun e w' => ∃ v0_ : Value, e = .returned (.tuple #[v0_, .int .i64 r2]) ∧ Kd.S (Kd.slice 5 (Kd.int .u8)) 41 w' w.heap.size (fun _ => True) v0_ r1 ∧ Below w.heap.size w w' := by
 have hu94 := Tryd.underlying94
 have HR0 := Zh hr0
 have HC0 := Zh hc0
 clear hr0 hc0
 have HB := Zh (Below.refl w.heap.size w)
 have H : (impl_scanFrames.l0 k l0 (([] : List (List Int))) 0) = some (r1, r2) := h
 clear h
 obtain ⟨y360, hy360⟩ : ∃ y_ : List (List Int), y_ = (([] : List (List Int))) := ⟨_, rfl⟩
 replace H : (impl_scanFrames.l0 k l0 y360 0) = some (r1, r2) := by first | (rw [hy360]; with_reducible exact H) | (have H2_ := (Option.bind_some _ _).symm.trans H; rw [hy360]; with_reducible exact H2_) | (have H2_ := (Option.bind_some _ _).symm.trans H; with_reducible exact H2_) | with_reducible exact H | (rw [hy360]; exact H) | exact H
 have Ny360 := Zh hy360
 clear hy360
 have H' := Zh H
 clear H
 go_enter Tryd.func81, Tryd.ntmps81
 go_wp2_with (first | ((with_reducible refine gate_dst (N := 9) rfl ?_); (try (refine gate_guard (by rfl) ?_; dsimp only)); refine S_lit (Kd.slice 5 (Kd.int .u8)) _ 41 ?hg (N := 9) ?hd (xs := ([] : List (List Int))) (inner := []) (ok := fun _ => True) (okp := fun _ => True) ?hr ?hp (fun _ hk => hk) trivial (Below.refl _ _) (Nat.le_refl _) (by simp) ?_; (case hd => rfl); (case hg => rfl); (case hr => first | (go_simp; done) | (go_simp; rfl)); (case hp => exact (Reps.none _ _)); intro v361 w2 ho3 hb hg_ hnew_; clear hg_ hnew_; (first | rw [← Ny360.out] at ho3 | (simp only [Int.reduceToNat] at ho3; rw [← Ny360.out] at ho3)); have n0_ := Zh (S_lower ho3 (below_size Zs)); have n1_ := Zh (Zl Zs hb); clear HB; have HO362 := n0_; have HB := n1_; clear n0_ n1_; clear hb ho3))
 go_loopg [4, 5] k (fun kq v4 v5 w' => ∃ (x4_1 : List (List Int)) (x5_1 : Int), v5 = .int .i64 x5_1 ∧ Aside0 (impl_scanFrames.l0 kq l0 x4_1 x5_1 = some (r1, r2)) ∧ Aside0 (kq ≤ k) ∧ Aside0 (Kd.S (Kd.slice 5 (Kd.int .u8)) 41 w' w.heap.size (fun _ => True) v4 x4_1) ∧ Aside0 (Below w.heap.size w w'))
 case atStart => exact ⟨(y360), (0), (by first | rfl | (simp; done) | (simp [*]; done)), H', ⟨Nat.le_refl _⟩, ⟨by (with_reducible repeat (first | apply S_alloc | apply S_drewN | apply S_drew)); exact HO362.out⟩, ⟨by repeat (first | (with_reducible first | exact HB.out | apply Zf | apply Zd | apply Ze) | exact HB.out)⟩⟩
 case round =>
  clear H'
  try clear p2
  obtain ⟨x4_1, x5_1, rfl, HA, HK1, HO_4, HB⟩ := hrel
  cases gk with
  | zero => exact absurd HA.out (by simp [impl_scanFrames.l0])
  | succ k1 =>
   have H := HA.out
   clear HA
   simp only [impl_scanFrames.l0] at H
   by_cases c4 : 0 ≤ x5_1
   ·
    rw [if_pos c4] at H
    have c4b0 := eq_true c4
    have c4b1 : decide (0 ≤ x5_1) = true := decide_eq_true c4
    clear c4
    by_cases c5 : x5_1 ≤ (l0.length : Int)
    ·
     rw [if_pos c5] at H
     have c5b0 := eq_true c5
     have c5b1 : decide (x5_1 ≤ (l0.length : Int)) = true := decide_eq_true c5
     clear c5
     by_cases c6 : ((l0.drop (x5_1 : Int).toNat).length : Int) < 8
     ·
      rw [if_pos c6] at H
      have c6b0 : decide (((l0.drop (x5_1 : Int).toNat).length : Int) < 8) = true := decide_eq_true c6
      have c6b0x : decide (((l0.length - x5_1.toNat : Nat) : Int) < 8) = true := by have h_ := c6b0; rw [List.length_drop] at h_; exact h_
      have c6b1 : decide ((l0.drop (x5_1 : Int).toNat).length < 8) = true := decide_eq_true (by omega)
      have c6b1x : decide ((l0.length - x5_1.toNat) < 8) = true := by have h_ := c6b1; rw [List.length_drop] at h_; exact h_
      clear c6
      simp only [Option.some.injEq, Prod.mk.injEq] at H
      obtain ⟨rfl, rfl⟩ := H
      obtain ⟨i07, hi07, _, hsz7, _⟩ := info_parts info5
      obtain ⟨A7, hcut7, hA7, hC7⟩ := print_drop_of (P := Tryd.prog) (Value.int .u8) 0 41 5 .i64 Tryd.underlying41 hi07 hsz7 A0 c0 l0 x5_1 (Zo) (Zo) HC0.out
      have HR363 := Zh (C_of_reads (h1 := fun _ => rfl) (hA7 _ (Kd.reads_of_C HR0.out)))
      have HC363 := Zh hC7
      clear hA7 hC7 hi07 hsz7
      go_wp2
      go_ret2
      exact ⟨_, by first | rfl | (simp [errW_none, errW_some] <;> rfl) | (simp [*, errW_none, errW_some] <;> rfl), by (with_reducible repeat (first | apply S_alloc | apply S_drewN | apply S_drew)); exact HO_4.out, by repeat (first | (with_reducible first | exact HB.out | apply Zf | apply Zd | apply Ze) | exact HB.out)⟩
     rw [if_neg c6] at H
     have c6b0 : decide (((l0.drop (x5_1 : Int).toNat).length : Int) < 8) = false := decide_eq_false c6
     have c6b0x : decide (((l0.length - x5_1.toNat : Nat) : Int) < 8) = false := by have h_ := c6b0; rw [List.length_drop] at h_; exact h_
     have c6b1 : decide ((l0.drop (x5_1 : Int).toNat).length < 8) = false := decide_eq_false (by omega)
     have c6b1x : decide ((l0.length - x5_1.toNat) < 8) = false := by have h_ := c6b1; rw [List.length_drop] at h_; exact h_
     clear c6
     replace H := Option.bind_eq_some_iff.mp H
     obtain ⟨t364, A80, H⟩ := H
     replace H : (if t364 < 1 then (impl_scanFrames.j1 k1 l0 x4_1 x5_1 (l0.drop (x5_1 : Int).toNat) t364 true) else (if t364 > 600 then (impl_scanFrames.j1 k1 l0 x4_1 x5_1 (l0.drop (x5_1 : Int).toNat) t364 true) else (impl_scanFrames.j1 k1 l0 x4_1 x5_1 (l0.drop (x5_1 : Int).toNat) t364 (decide (((l0.drop (x5_1 : Int).toNat).length : Int) < (wrap64 (8 + (wrap64 (t364))))))))) = some (r1, r2) := H
     have A8 := Zh A80
     clear A80
     have HC9 := Zh H
     clear H
     obtain ⟨i010, hi010, _, hsz10, _⟩ := info_parts info5
     obtain ⟨A10, hcut10, hA10, hC10⟩ := print_drop_of (P := Tryd.prog) (Value.int .u8) 0 41 5 .i64 Tryd.underlying41 hi010 hsz10 A0 c0 l0 x5_1 (Zo) (Zo) HC0.out
     have HR363 := Zh (C_of_reads (h1 := fun _ => rfl) (hA10 _ (Kd.reads_of_C HR0.out)))
     have HC363 := Zh hC10
     clear hA10 hC10 hi010 hsz10
     go_upto_region 7 with (first | ((with_reducible refine gate_callee (f := 105) rfl ?_); refine goesL_ (some 20) rfl rfl Tryd.func105 (by kernel_rfl) rfl #[.agg #[], .slice A10 (l0.drop (x5_1 : Int).toNat).length (c0 - x5_1.toNat)] rfl (by (try simp only [List.map_toArray, List.map_cons, List.map_nil]); first | done | (rw [show (l0.drop (x5_1 : Int).toNat).length = (l0.length - x5_1.toNat) from List.length_drop] <;> rfl) | rfl | (simp only [List.length_drop, List.length_take]; rfl)) ?_; (with_reducible refine (binary_littleEndian_Uint32.calls  _ _ (l0.drop (x5_1 : Int).toNat) t364 _ ?side1 ?side2 A8.out).mono ?_); (case side1 => repeat (first | exact (C_below HR363.out HB.out) | (with_reducible refine C_alloc ?_ _) | (with_reducible refine C_drewN ?_ _) | (with_reducible refine C_drew ?_))); (case side2 => exact HC363.out); rintro e w11 ⟨rfl, hb⟩; refine ⟨_, rfl, ?_⟩; have n0_ := Zh (S_below (by (with_reducible repeat (first | apply S_alloc | apply S_drewN | apply S_drew)); exact HO_4.out) hb); have n1_ := Zh (Zl Zs hb); clear HO_4; clear HB; have HO_4 := n0_; have HB := n1_; clear n0_ n1_; (try clear hb); (try clear hb2); (try clear hk); (try clear hi)))
     (try simp only [Act.put, List.setIfInBounds_toArray, List.set_cons_zero, List.set_cons_succ])
     go_cut [34] (fun v34 wc => ∃ (kq : Nat) (x34_8 : Bool), v34 = .bool x34_8 ∧ Aside0 (impl_scanFrames.j1 kq l0 x4_1 x5_1 (l0.drop (x5_1 : Int).toNat) t364 x34_8 = some (r1, r2)) ∧ Aside0 (kq ≤ k1) ∧ Aside0 (Kd.S (Kd.slice 5 (Kd.int .u8)) 41 wc w.heap.size (fun _ => True) u4 x4_1) ∧ Aside0 (Below w.heap.size w wc))
     case first =>
      have H := HC9.out
      clear HC9
      by_cases c12 : t364 < 1
      ·
       rw [if_pos c12] at H
       have c12b0 : decide (t364 < 1) = true := decide_eq_true c12
       clear c12
       (first | rw [c12b0] | (simp only [i64_w, i32_w]; rw [c12b0]) | skip)
       have H' := Zh H
       clear H
       go_wp2
       go_meet
       case rel => exact ⟨_, (true), (by first | rfl | (simp; done) | (simp [*]; done)), H', ⟨by have := HK1.out; first | omega | exact Nat.le_refl _⟩, ⟨by (with_reducible repeat (first | apply S_alloc | apply S_drewN | apply S_drew)); exact HO_4.out⟩, ⟨by repeat (first | (with_reducible first | exact HB.out | apply Zf | apply Zd | apply Ze) | exact HB.out)⟩⟩
      rw [if_neg c12] at H
      have c12b0 : decide (t364 < 1) = false := decide_eq_false c12
      clear c12
      (first | rw [c12b0] | (simp only [i64_w, i32_w]; rw [c12b0]) | skip)
      by_cases c13 : t364 > 600
      ·
       rw [if_pos c13] at H
       have c13b0 : decide (600 < t364) = true := decide_eq_true c13
       clear c13
       have H' := Zh H
       clear H
       go_wp2
       go_meet
       case rel => exact ⟨_, (true), (by first | rfl | (simp; done) | (simp [*]; done)), H', ⟨by have := HK1.out; first | omega | exact Nat.le_refl _⟩, ⟨by (with_reducible repeat (first | apply S_alloc | apply S_drewN | apply S_drew)); exact HO_4.out⟩, ⟨by repeat (first | (with_reducible first | exact HB.out | apply Zf | apply Zd | apply Ze) | exact HB.out)⟩⟩
      rw [if_neg c13] at H
      have c13b0 : decide (600 < t364) = false := decide_eq_false c13
      clear c13
      have H' := Zh H
      clear H
      go_wp2
      go_meet
      case rel => exact ⟨_, (decide (((l0.drop (x5_1 : Int).toNat).length : Int) < (wrap64 (8 + (wrap64 (t364)))))), (by first | rfl | (simp; done) | (simp [*]; done)), H', ⟨by have := HK1.out; first | omega | exact Nat.le_refl _⟩, ⟨by (with_reducible repeat (first | apply S_alloc | apply S_drewN | apply S_drew)); exact HO_4.out⟩, ⟨by repeat (first | (with_reducible first | exact HB.out | apply Zf | apply Zd | apply Ze) | exact HB.out)⟩⟩
     case rest =>
      clear HC9
      try clear c1
      try clear p2
      try clear c4
      try clear c4b0
      try clear c4b1
      try clear c5
      try clear c5b0
      try clear c5b1
      try clear c6
      try clear c6b0
      try clear c6b1
      try clear p6
      try clear c8
      try clear c10
      try clear c12
      try clear c12b0
      try clear c13
      try clear c13b0
      try clear p2
      obtain ⟨kq, x34_8, rfl, HA, HJ8, HO_4, HB⟩ := hcut
      cases kq with
      | zero => exact absurd HA.out (by simp [impl_scanFrames.j1])
      | succ kj8 =>
       have H := HA.out
       clear HA
       simp only [impl_scanFrames.j1] at H
       by_cases c14 : x34_8 = true
       ·
        subst c14
        have H1 : (some (x4_1, x5_1)) = some (r1, r2) := by rw [if_pos rfl] at H; exact H
        clear H
        have H := H1
        clear H1
        simp only [Option.some.injEq, Prod.mk.injEq] at H
        obtain ⟨rfl, rfl⟩ := H
        go_wp2
        go_ret2
        exact ⟨_, by first | rfl | (simp [errW_none, errW_some] <;> rfl) | (simp [*, errW_none, errW_some] <;> rfl), by (with_reducible repeat (first | apply S_alloc | apply S_drewN | apply S_drew)); exact HO_4.out, by repeat (first | (with_reducible first | exact HB.out | apply Zf | apply Zd | apply Ze) | exact HB.out)⟩
       replace c14 := Bool.eq_false_iff.mpr c14
       subst c14
       have H1 : (if 8 ≤ ((8 + t364) % 4294967296) then (if ((8 + t364) % 4294967296) ≤ ((l0.drop (x5_1 : Int).toNat).length : Int) then (if 4 ≤ ((l0.drop (x5_1 : Int).toNat).length : Int) then ((binary_littleEndian_Uint32.f ((l0.drop (x5_1 : Int).toNat).drop 4)).bind fun t367 => ((impl_crc32.f kj8 (((l0.drop (x5_1 : Int).toNat).take (((8 + t364) % 4294967296) : Int).toNat).drop 8)).bind fun t368 => (if t367 = t368 then ((some (([] : List Int) : List Int)).bind fun y369 => (if y369.length + (((l0.drop (x5_1 : Int).toNat).take (((8 + t364) % 4294967296) : Int).toNat).drop 8).length < 140737488355328 then (if x4_1.length < 5864062014805 then (impl_scanFrames.l0 kj8 l0 (x4_1 ++ [(y369 ++ (((l0.drop (x5_1 : Int).toNat).take (((8 + t364) % 4294967296) : Int).toNat).drop 8))]) (wrap64 (x5_1 + (wrap64 (8 + (wrap64 (t364))))))) else (none)) else (none))) else (some (x4_1, x5_1))))) else (none)) else (none)) else (none)) = some (r1, r2) := by rw [if_neg (show ¬ (false = true) by decide)] at H; exact H
       clear H
       have H := H1
       clear H1
       by_cases c15 : 8 ≤ ((8 + t364) % 4294967296)
       ·
        rw [if_pos c15] at H
        have c15b0 := eq_true c15
        have c15b1 : decide (8 ≤ ((8 + t364) % 4294967296)) = true := decide_eq_true c15
        by_cases c16 : ((8 + t364) % 4294967296) ≤ ((l0.drop (x5_1 : Int).toNat).length : Int)
        ·
         rw [if_pos c16] at H
         have c16b0 := eq_true c16
         have c16b0x := eq_true (show ((8 + t364) % 4294967296) ≤ ((l0.length - x5_1.toNat : Nat) : Int) from by have h_ := c16; rw [List.length_drop] at h_; exact h_)
         have c16b1 : decide (((8 + t364) % 4294967296) ≤ ((l0.drop (x5_1 : Int).toNat).length : Int)) = true := decide_eq_true c16
         have c16b1x : decide (((8 + t364) % 4294967296) ≤ ((l0.length - x5_1.toNat : Nat) : Int)) = true := by have h_ := c16b1; rw [List.length_drop] at h_; exact h_
         by_cases c17 : 4 ≤ ((l0.drop (x5_1 : Int).toNat).length : Int)
         ·
          rw [if_pos c17] at H
          have c17b0 := eq_true c17
          have c17b0x := eq_true (show 4 ≤ ((l0.length - x5_1.toNat : Nat) : Int) from by have h_ := c17; rw [List.length_drop] at h_; exact h_)
          have c17b1 : decide (4 ≤ ((l0.drop (x5_1 : Int).toNat).length : Int)) = true := decide_eq_true c17
          have c17b1x : decide (4 ≤ ((l0.length - x5_1.toNat : Nat) : Int)) = true := by have h_ := c17b1; rw [List.length_drop] at h_; exact h_
          clear c17
          replace H := Option.bind_eq_some_iff.mp H
          obtain ⟨t367, A180, H⟩ := H
          replace H : ((impl_crc32.f kj8 (((l0.drop (x5_1 : Int).toNat).take (((8 + t364) % 4294967296) : Int).toNat).drop 8)).bind fun t368 => (if t367 = t368 then ((some (([] : List Int) : List Int)).bind fun y369 => (if y369.length + (((l0.drop (x5_1 : Int).toNat).take (((8 + t364) % 4294967296) : Int).toNat).drop 8).length < 140737488355328 then (if x4_1.length < 5864062014805 then (impl_scanFrames.l0 kj8 l0 (x4_1 ++ [(y369 ++ (((l0.drop (x5_1 : Int).toNat).take (((8 + t364) % 4294967296) : Int).toNat).drop 8))]) (wrap64 (x5_1 + (wrap64 (8 + (wrap64 (t364))))))) else (none)) else (none))) else (some (x4_1, x5_1)))) = some (r1, r2) := H
          have A18 := Zh A180
          clear A180
          replace H := Option.bind_eq_some_iff.mp H
          obtain ⟨t368, A190, H⟩ := H
          replace H : (if t367 = t368 then ((some (([] : List Int) : List Int)).bind fun y369 => (if y369.length + (((l0.drop (x5_1 : Int).toNat).take (((8 + t364) % 4294967296) : Int).toNat).drop 8).length < 140737488355328 then (if x4_1.length < 5864062014805 then (impl_scanFrames.l0 kj8 l0 (x4_1 ++ [(y369 ++ (((l0.drop (x5_1 : Int).toNat).take (((8 + t364) % 4294967296) : Int).toNat).drop 8))]) (wrap64 (x5_1 + (wrap64 (8 + (wrap64 (t364))))))) else (none)) else (none))) else (some (x4_1, x5_1))) = some (r1, r2) := H
          have A19 := Zh A190
          clear A190
          by_cases c20 : t367 = t368
          ·
           rw [if_pos c20] at H
           have c20b0 : (t367 == t368) = true := beq_iff_eq.mpr c20
           have c20b1 : (t367 != t368) = false := bne_eq_false_iff_eq.mpr c20
           clear c20
           obtain ⟨y369, hy369⟩ : ∃ y_ : List Int, y_ = (([] : List Int)) := ⟨_, rfl⟩
           replace H : (if y369.length + (((l0.drop (x5_1 : Int).toNat).take (((8 + t364) % 4294967296) : Int).toNat).drop 8).length < 140737488355328 then (if x4_1.length < 5864062014805 then (impl_scanFrames.l0 kj8 l0 (x4_1 ++ [(y369 ++ (((l0.drop (x5_1 : Int).toNat).take (((8 + t364) % 4294967296) : Int).toNat).drop 8))]) (wrap64 (x5_1 + (wrap64 (8 + (wrap64 (t364))))))) else (none)) else (none)) = some (r1, r2) := by first | (rw [hy369]; with_reducible exact H) | (have H2_ := (Option.bind_some _ _).symm.trans H; rw [hy369]; with_reducible exact H2_) | (have H2_ := (Option.bind_some _ _).symm.trans H; with_reducible exact H2_) | with_reducible exact H | (rw [hy369]; exact H) | exact H
           have Ny369 := Zh hy369
           clear hy369
           by_cases c21 : y369.length + (((l0.drop (x5_1 : Int).toNat).take (((8 + t364) % 4294967296) : Int).toNat).drop 8).length < 140737488355328
           ·
            rw [if_pos c21] at H
            have LMc21 := Zh c21
            clear c21
            obtain ⟨y372, hy372⟩ : ∃ y_ : List Int, y_ = (y369 ++ (((l0.drop (x5_1 : Int).toNat).take (((8 + t364) % 4294967296) : Int).toNat).drop 8)) := ⟨_, rfl⟩
            replace H : (if x4_1.length < 5864062014805 then (impl_scanFrames.l0 kj8 l0 (x4_1 ++ [y372]) (wrap64 (x5_1 + (wrap64 (8 + (wrap64 (t364))))))) else (none)) = some (r1, r2) := by first | (rw [hy372]; with_reducible exact H) | (have H2_ := (Option.bind_some _ _).symm.trans H; rw [hy372]; with_reducible exact H2_) | (have H2_ := (Option.bind_some _ _).symm.trans H; with_reducible exact H2_) | with_reducible exact H | (rw [hy372]; exact H) | exact H
            have Ny372 := Zh hy372
            clear hy372
            by_cases c22 : x4_1.length < 5864062014805
            ·
             rw [if_pos c22] at H
             have LMc22 := Zh c22
             clear c22
             obtain ⟨y375, hy375⟩ : ∃ y_ : List (List Int), y_ = (x4_1 ++ [y372]) := ⟨_, rfl⟩
             replace H : (impl_scanFrames.l0 kj8 l0 y375 (wrap64 (x5_1 + (wrap64 (8 + (wrap64 (t364))))))) = some (r1, r2) := by first | (rw [hy375]; with_reducible exact H) | (have H2_ := (Option.bind_some _ _).symm.trans H; rw [hy375]; with_reducible exact H2_) | (have H2_ := (Option.bind_some _ _).symm.trans H; with_reducible exact H2_) | with_reducible exact H | (rw [hy375]; exact H) | exact H
             have Ny375 := Zh hy375
             clear hy375
             have H' := Zh H
             clear H
             obtain ⟨i023, hi023, _, hsz23, _⟩ := info_parts info5
             obtain ⟨A23, hcut23, hA23, hC23⟩ := print_mid_of (P := Tryd.prog) (Value.int .u8) 0 41 5 .i64 .u32 Tryd.underlying41 hi023 hsz23 A10 (c0 - x5_1.toNat) (l0.drop (x5_1 : Int).toNat) 8 ((8 + t364) % 4294967296) (by omega) (by first | omega | exact Zo) (Zo) HC363.out
             have HR365 := Zh (C_of_reads (h1 := fun _ => rfl) (hA23 _ (Kd.reads_of_C HR363.out)))
             have HC365 := Zh hC23
             clear hA23 hC23 hi023 hsz23
             try simp only [List.length_drop] at hcut23
             try go_wp2
             have n0_ := Zh (S_drew HO_4.out)
             have n1_ := Zh (Ze HB.out)
             clear HO_4
             clear HB
             have HO_4 := n0_
             have HB := n1_
             clear n0_ n1_
             obtain ⟨i025, hi025, _, hsz25, _⟩ := info_parts info5
             obtain ⟨A25, hcut25, hA25, hC25⟩ := print_drop_of (P := Tryd.prog) (Value.int .u8) 0 41 5 .i64 Tryd.underlying41 hi025 hsz25 A10 (c0 - x5_1.toNat) (l0.drop (x5_1 : Int).toNat) 4 (by omega) (Zo) HC363.out
             have HR366 := Zh (C_of_reads (h1 := fun _ => rfl) (hA25 _ (Kd.reads_of_C HR363.out)))
             have HC366 := Zh hC25
             clear hA25 hC25 hi025 hsz25
             try simp only [List.length_drop] at hcut25
             refine start_ (n := 7) (S := fun w' => True) (ds := []) #[false, false, false, false, false, false, false] (by kernel_rfl) rfl rfl trivial (fun hHeld => ?_)
             generalize wc.drew = w24 at HO_4 HB HR366 hHeld ⊢
             refine pure_ (i := 1) (N := some 42) (v := ?_) (a' := ?_) #[false, true, false, false, false, false, false] rfl rfl (by kernel_rfl) (fun _ _ _ h => h) (Or.inl ⟨by rfl, ?_⟩) ?_ ?_
             rotate_left
             ·
              intro w'
              go_simp
              with_reducible rfl
             rotate_left
             ·
              simp only [Act.put, List.setIfInBounds_toArray, List.set_cons_zero, List.set_cons_succ, i64_w, i32_w]
              rfl
             refine pure_ (i := 2) (N := some 43) (v := ?_) (a' := ?_) #[false, true, true, false, false, false, false] rfl rfl (by kernel_rfl) (fun _ _ _ h => h) (Or.inl ⟨by rfl, ?_⟩) ?_ ?_
             rotate_left
             ·
              intro w'
              go_simp
              with_reducible rfl
             rotate_left
             ·
              simp only [Act.put, List.setIfInBounds_toArray, List.set_cons_zero, List.set_cons_succ, i64_w, i32_w]
              rfl
             refine pure_ (i := 4) (N := some 45) (v := ?_) (a' := ?_) #[false, true, true, false, true, false, false] rfl rfl (by kernel_rfl) (fun _ _ _ h => h) (Or.inl ⟨by rfl, ?_⟩) ?_ ?_
             rotate_left
             ·
              intro w'
              go_simp
              with_reducible rfl
             rotate_left
             ·
              simp only [Act.put, List.setIfInBounds_toArray, List.set_cons_zero, List.set_cons_succ, i64_w, i32_w]
              rfl
             refine take_ (i := 0) (N := some 41) (v := ?_) (a' := ?_) #[true, true, true, false, true, false, false] rfl rfl (by kernel_rfl) (fun _ _ _ h => h) (Or.inl ⟨by rfl, ?_⟩) hHeld ?_ ?_
             rotate_left
             ·
              intro w' _
              go_simp
              with_reducible rfl
             rotate_left
             ·
              simp only [Act.put, List.setIfInBounds_toArray, List.set_cons_zero, List.set_cons_succ, i64_w, i32_w]
              rfl
             refine one_ (i := 3) (N := some 44) #[true, true, true, true, true, false, false] rfl rfl (by kernel_rfl) (by decide) (fun K hK => ?_)
             refine goes_ Tryd.func105 (by kernel_rfl) rfl #[.agg #[], .slice A25 ((l0.drop (x5_1 : Int).toNat).drop 4).length ((c0 - x5_1.toNat) - 4)] (by rfl) rfl rfl (by (try simp only [List.map_toArray, List.map_cons, List.map_nil]); first | done | (rw [show ((l0.drop (x5_1 : Int).toNat).drop 4).length = ((l0.drop (x5_1 : Int).toNat).length - 4) from List.length_drop] <;> rfl) | rfl | (simp only [List.length_drop, List.length_take]; rfl)) ?_
             with_reducible refine (binary_littleEndian_Uint32.calls  _ _ ((l0.drop (x5_1 : Int).toNat).drop 4) t367 _ ?side1 ?side2 A18.out).mono ?_
             (case side1 => repeat (first | exact (C_below HR366.out HB.out) | (with_reducible refine C_alloc ?_ _) | (with_reducible refine C_drewN ?_ _) | (with_reducible refine C_drew ?_)))
             (case side2 => exact HC366.out)
             rintro e w26 ⟨rfl, hb⟩
             refine ⟨_, rfl, ?_⟩
             have n0_ := Zh (S_below (by (with_reducible repeat (first | apply S_alloc | apply S_drewN | apply S_drew)); exact HO_4.out) hb)
             have n1_ := Zh (Zl Zs hb)
             clear HO_4
             clear HB
             have HO_4 := n0_
             have HB := n1_
             clear n0_ n1_
             (try clear hb)
             (try clear hb2)
             (try clear hk)
             (try clear hi)
             refine hK.out _ _ trivial (fun hHeld => ?_)
             clear hK K
             refine norm_ (a' := ?_) ?_ ?_
             rotate_left
             ·
              show Act.put _ (some 44) _ = _
              simp only [Act.put, List.setIfInBounds_toArray, List.set_cons_zero, List.set_cons_succ, i64_w, i32_w]
              rfl
             refine one_ (i := 5) (N := some 46) #[true, true, true, true, true, true, false] rfl rfl (by kernel_rfl) (by decide) (fun K hK => ?_)
             refine goes_ Tryd.func92 (by kernel_rfl) rfl #[.slice A23 (((l0.drop (x5_1 : Int).toNat).take (((8 + t364) % 4294967296) : Int).toNat).drop 8).length ((c0 - x5_1.toNat) - 8)] (by rfl) rfl rfl (by (try simp only [List.map_toArray, List.map_cons, List.map_nil]); first | done | (rw [show (((l0.drop (x5_1 : Int).toNat).take (((8 + t364) % 4294967296) : Int).toNat).drop 8).length = (((8 + t364) % 4294967296).toNat - 8) from (by rw [List.length_drop, List.length_take]; have h_ : (((8 + t364) % 4294967296) : Int) ≤ ((l0.drop (x5_1 : Int).toNat).length : Int) := Zo; omega)] <;> rfl) | rfl | (simp only [List.length_drop, List.length_take]; rfl)) ?_
             with_reducible refine (impl_crc32.calls kj8 _ _ (((l0.drop (x5_1 : Int).toNat).take (((8 + t364) % 4294967296) : Int).toNat).drop 8) t368 _ ?side1 ?side2 A19.out).mono ?_
             (case side1 => repeat (first | exact (C_below HR365.out HB.out) | (with_reducible refine C_alloc ?_ _) | (with_reducible refine C_drewN ?_ _) | (with_reducible refine C_drew ?_)))
             (case side2 => exact HC365.out)
             rintro e w' ⟨rfl, ⟨nd, rfl⟩⟩
             refine ⟨_, rfl, ?_⟩
             refine hK.out _ _ trivial (fun hHeld => ?_)
             clear hK K
             refine norm_ (a' := ?_) ?_ ?_
             rotate_left
             ·
              show Act.put _ (some 46) _ = _
              simp only [Act.put, List.setIfInBounds_toArray, List.set_cons_zero, List.set_cons_succ, i64_w, i32_w]
              rfl
             refine pure_ (i := 6) (N := some 47) (v := ?_) (a' := ?_) #[true, true, true, true, true, true, true] rfl rfl (by kernel_rfl) (fun _ _ _ h => h) (Or.inl ⟨by rfl, ?_⟩) ?_ ?_
             rotate_left
             ·
              intro w'
              go_simp
              with_reducible rfl
             rotate_left
             ·
              simp only [Act.put, List.setIfInBounds_toArray, List.set_cons_zero, List.set_cons_succ, i64_w, i32_w]
              rfl
             refine done_ (by kernel_rfl) ?_
             try go_wp2_with (first | ((with_reducible refine gate_dst (N := 51) rfl ?_); (try (refine gate_guard (by rfl) ?_; dsimp only)); refine R_lit (Kd.int .u8) _ 5 ?hg (N := 51) ?hd (xs := ([] : List Int)) (inner := []) (ok := fun _ => True) (okp := fun _ => True) ?hr ?hp (fun _ hk => hk) trivial (Below.refl _ _) (Nat.le_refl _) (by simp) ?_; (case hd => rfl); (case hg => rfl); (case hr => first | (go_simp; done) | (go_simp; rfl)); (case hp => exact (Reps.none _ _)); intro v370 w27 ho28 hb hg_ hnew_; clear hg_ hnew_; (first | rw [← Ny369.out] at ho28 | (simp only [Int.reduceToNat] at ho28; rw [← Ny369.out] at ho28)); have n0_ := Zh (S_elder' (by (with_reducible repeat (first | apply S_alloc | apply S_drewN | apply S_drew)); exact HO_4.out) (R_base ho28) hb); have n1_ := Zh (R_lower ho28 (below_size Zs)); have n2_ := Zh (Zl Zs hb); clear HO_4; clear HB; have HO_4 := n0_; have HO371 := n1_; have HB := n2_; clear n0_ n1_ n2_; clear hb ho28) | ((with_reducible refine gate_builtin (b := .append) (xs := #[.tmp 51, .tmp 52]) rfl ?_); (try (refine gate_guard (by rfl) ?_; dsimp only)); at_builtin; refine R_append_rows (Kd.int .u8) (w0 := w) w.heap.size rfl (.tmp 51) (.tmp 52) 41 5 (.int .u8 0) 1 rfl Tryd.underlying41 info5 rfl (by decide) (by omega) v370 y369 (((l0.drop (x5_1 : Int).toNat).take (((8 + t364) % 4294967296) : Int).toNat).drop 8) _ _ _ (fun _ => True) (fun _ => False) rfl rfl ?aO ?aR (fun _ _ h => h) (fun _ h => h.elim) ?aF ?aB ?aS ?aL ?_; (case aR => first | ((conv => arg 5; rw [← show (((l0.drop (x5_1 : Int).toNat).take (((8 + t364) % 4294967296) : Int).toNat).drop 8).length = (((8 + t364) % 4294967296).toNat - 8) from (by rw [List.length_drop, List.length_take]; have h_ : (((8 + t364) % 4294967296) : Int) ≤ ((l0.drop (x5_1 : Int).toNat).length : Int) := Zo; omega)]); (repeat (first | exact (C_below HR365.out HB.out) | (with_reducible refine C_alloc ?_ _) | (with_reducible refine C_drewN ?_ _) | (with_reducible refine C_drew ?_)))) | (rw [← show (((l0.drop (x5_1 : Int).toNat).take (((8 + t364) % 4294967296) : Int).toNat).drop 8).length = (((8 + t364) % 4294967296).toNat - 8) from (by rw [List.length_drop, List.length_take]; have h_ : (((8 + t364) % 4294967296) : Int) ≤ ((l0.drop (x5_1 : Int).toNat).length : Int) := Zo; omega)]; repeat (first | exact (C_below HR365.out HB.out) | (with_reducible refine C_alloc ?_ _) | (with_reducible refine C_drewN ?_ _) | (with_reducible refine C_drew ?_))) | (repeat (first | exact (C_below HR365.out HB.out) | (with_reducible refine C_alloc ?_ _) | (with_reducible refine C_drewN ?_ _) | (with_reducible refine C_drew ?_)))); (case aB => exact Zs); (case aF => exact (fun _ _ => trivial)); (case aO => exact (by (with_reducible repeat (first | apply R_alloc | apply R_drewN | apply R_drew)); exact HO371.out)); (case aS => exact (below_size Zs)); (case aL => have := LMc21.out; have hlx_ := (show (((l0.drop (x5_1 : Int).toNat).take (((8 + t364) % 4294967296) : Int).toNat).drop 8).length = (((8 + t364) % 4294967296).toNat - 8) from (by rw [List.length_drop, List.length_take]; have h_ : (((8 + t364) % 4294967296) : Int) ≤ ((l0.drop (x5_1 : Int).toNat).length : Int) := Zo; omega)); omega); intro v373 w29 ho hb hg hat; rw [← Ny372.out] at ho; have n0_ := Zh (S_after (ok := (fun _ => True)) (by (with_reducible repeat (first | apply S_alloc | apply S_drewN | apply S_drew)); exact HO_4.out) hg hat); have n1_ := Zh (hb); have n2_ := Zh (ho); clear HO_4; clear HB; clear HO371; have HO_4 := n0_; have HB := n1_; have HO374 := n2_; clear n0_ n1_ n2_; clear ho hb hg hat; obtain ⟨Ao31, co31, eo31⟩ := R_slice HO374.out; subst eo31) | ((with_reducible refine gate_builtin (b := .append) (xs := #[.tmp 50, .tmp 54]) rfl ?_); (try (refine gate_guard (by rfl) ?_; dsimp only)); at_builtin; refine S_append (Kd.slice 5 (Kd.int .u8)) (w0 := w) w.heap.size rfl (.tmp 50) (.tmp 54) 36 41 (.slice none 0 0) 24 rfl Tryd.underlying36 info41 rfl (by decide) (by omega) u4 x4_1 y372 [.slice Ao31 y372.length co31] (fun _ => True) (fun k_ => some k_ = (.slice Ao31 y372.length co31 : Value).ownBlock) rfl rfl ?aP (fun k_ hk_ => ((R_mono (ok' := fun k_ => ((fun _ => True)) k_ ∧ some k_ ≠ (u4 : Value).ownBlock) (R_apart' (HO374.out) (S_typed HO_4.out) (by decide)) (fun k_ hk => ⟨trivial, hk.2⟩))).1 k_ hk_.symm) ?aF ?aO ?aB ?aS ?aL ?_; (case aP => exact M_row (R_mono (R_tight rfl (R_mono (ok' := fun k_ => ((fun _ => True)) k_ ∧ some k_ ≠ (u4 : Value).ownBlock) (R_apart' (HO374.out) (S_typed HO_4.out) (by decide)) (fun k_ hk => ⟨trivial, hk.2⟩))) (fun _ h_ => h_))); (case aB => exact Zs); (case aF => exact (fun _ _ => trivial)); (case aO => exact (by (with_reducible repeat (first | apply S_alloc | apply S_drewN | apply S_drew)); exact S_mono HO_4.out (fun k_ hk => ⟨trivial, fun e_ => hk.2 e_⟩))); (case aS => exact (below_size Zs)); (case aL => have := LMc22.out; omega); intro v376 w30 ho hb hg hat; rw [← Ny375.out] at ho; have n0_ := Zh (hb); have n1_ := Zh (ho); clear HB; clear HO_4; clear HO374; have HB := n0_; have HO377 := n1_; clear n0_ n1_; clear ho hb hg hat))
             go_roundg kj8
             case measure => have := HK1.out; have := HJ8.out; omega
             case rel => exact ⟨(y375), (wrap64 (x5_1 + (wrap64 (8 + (wrap64 (t364)))))), (by first | rfl | (simp; done) | (simp [*]; done)), H', ⟨by have := HK1.out; have := HJ8.out; omega⟩, ⟨by (with_reducible repeat (first | apply S_alloc | apply S_drewN | apply S_drew)); exact HO377.out⟩, ⟨by repeat (first | (with_reducible first | exact HB.out | apply Zf | apply Zd | apply Ze) | exact HB.out)⟩⟩
            rw [if_neg c22] at H
            exact absurd H (by simp)
           rw [if_neg c21] at H
           exact absurd H (by simp)
          rw [if_neg c20] at H
          have c20b0 : (t367 == t368) = false := beq_eq_false_iff_ne.mpr c20
          have c20b1 : (t367 != t368) = true := bne_iff_ne.mpr c20
          simp only [Option.some.injEq, Prod.mk.injEq] at H
          obtain ⟨rfl, rfl⟩ := H
          obtain ⟨i032, hi032, _, hsz32, _⟩ := info_parts info5
          obtain ⟨A32, hcut32, hA32, hC32⟩ := print_mid_of (P := Tryd.prog) (Value.int .u8) 0 41 5 .i64 .u32 Tryd.underlying41 hi032 hsz32 A10 (c0 - x5_1.toNat) (l0.drop (x5_1 : Int).toNat) 8 ((8 + t364) % 4294967296) (by omega) (by first | omega | exact Zo) (Zo) HC363.out
          have HR365 := Zh (C_of_reads (h1 := fun _ => rfl) (hA32 _ (Kd.reads_of_C HR363.out)))
          have HC365 := Zh hC32
          clear hA32 hC32 hi032 hsz32
          try simp only [List.length_drop] at hcut32
          try go_wp2
          have n0_ := Zh (S_drew HO_4.out)
          have n1_ := Zh (Ze HB.out)
          clear HO_4
          clear HB
          have HO_4 := n0_
          have HB := n1_
          clear n0_ n1_
          obtain ⟨i034, hi034, _, hsz34, _⟩ := info_parts info5
          obtain ⟨A34, hcut34, hA34, hC34⟩ := print_drop_of (P := Tryd.prog) (Value.int .u8) 0 41 5 .i64 Tryd.underlying41 hi034 hsz34 A10 (c0 - x5_1.toNat) (l0.drop (x5_1 : Int).toNat) 4 (by omega) (Zo) HC363.out
          have HR366 := Zh (C_of_reads (h1 := fun _ => rfl) (hA34 _ (Kd.reads_of_C HR363.out)))
          have HC366 := Zh hC34
          clear hA34 hC34 hi034 hsz34
          try simp only [List.length_drop] at hcut34
          refine start_ (n := 7) (S := fun w' => True) (ds := []) #[false, false, false, false, false, false, false] (by kernel_rfl) rfl rfl trivial (fun hHeld => ?_)
          generalize wc.drew = w33 at HO_4 HB HR366 hHeld ⊢
          refine pure_ (i := 1) (N := some 42) (v := ?_) (a' := ?_) #[false, true, false, false, false, false, false] rfl rfl (by kernel_rfl) (fun _ _ _ h => h) (Or.inl ⟨by rfl, ?_⟩) ?_ ?_
          rotate_left
          ·
           intro w'
           go_simp
           with_reducible rfl
          rotate_left
          ·
           simp only [Act.put, List.setIfInBounds_toArray, List.set_cons_zero, List.set_cons_succ, i64_w, i32_w]
           rfl
          refine pure_ (i := 2) (N := some 43) (v := ?_) (a' := ?_) #[false, true, true, false, false, false, false] rfl rfl (by kernel_rfl) (fun _ _ _ h => h) (Or.inl ⟨by rfl, ?_⟩) ?_ ?_
          rotate_left
          ·
           intro w'
           go_simp
           with_reducible rfl
          rotate_left
          ·
           simp only [Act.put, List.setIfInBounds_toArray, List.set_cons_zero, List.set_cons_succ, i64_w, i32_w]
           rfl
          refine pure_ (i := 4) (N := some 45) (v := ?_) (a' := ?_) #[false, true, true, false, true, false, false] rfl rfl (by kernel_rfl) (fun _ _ _ h => h) (Or.inl ⟨by rfl, ?_⟩) ?_ ?_
          rotate_left
          ·
           intro w'
           go_simp
           with_reducible rfl
          rotate_left
          ·
           simp only [Act.put, List.setIfInBounds_toArray, List.set_cons_zero, List.set_cons_succ, i64_w, i32_w]
           rfl
          refine take_ (i := 0) (N := some 41) (v := ?_) (a' := ?_) #[true, true, true, false, true, false, false] rfl rfl (by kernel_rfl) (fun _ _ _ h => h) (Or.inl ⟨by rfl, ?_⟩) hHeld ?_ ?_
          rotate_left
          ·
           intro w' _
           go_simp
           with_reducible rfl
          rotate_left
          ·
           simp only [Act.put, List.setIfInBounds_toArray, List.set_cons_zero, List.set_cons_succ, i64_w, i32_w]
           rfl
          refine one_ (i := 3) (N := some 44) #[true, true, true, true, true, false, false] rfl rfl (by kernel_rfl) (by decide) (fun K hK => ?_)
          refine goes_ Tryd.func105 (by kernel_rfl) rfl #[.agg #[], .slice A34 ((l0.drop (x5_1 : Int).toNat).drop 4).length ((c0 - x5_1.toNat) - 4)] (by rfl) rfl rfl (by (try simp only [List.map_toArray, List.map_cons, List.map_nil]); first | done | (rw [show ((l0.drop (x5_1 : Int).toNat).drop 4).length = ((l0.drop (x5_1 : Int).toNat).length - 4) from List.length_drop] <;> rfl) | rfl | (simp only [List.length_drop, List.length_take]; rfl)) ?_
          with_reducible refine (binary_littleEndian_Uint32.calls  _ _ ((l0.drop (x5_1 : Int).toNat).drop 4) t367 _ ?side1 ?side2 A18.out).mono ?_
          (case side1 => repeat (first | exact (C_below HR366.out HB.out) | (with_reducible refine C_alloc ?_ _) | (with_reducible refine C_drewN ?_ _) | (with_reducible refine C_drew ?_)))
          (case side2 => exact HC366.out)
          rintro e w35 ⟨rfl, hb⟩
          refine ⟨_, rfl, ?_⟩
          have n0_ := Zh (S_below (by (with_reducible repeat (first | apply S_alloc | apply S_drewN | apply S_drew)); exact HO_4.out) hb)
          have n1_ := Zh (Zl Zs hb)
          clear HO_4
          clear HB
          have HO_4 := n0_
          have HB := n1_
          clear n0_ n1_
          (try clear hb)
          (try clear hb2)
          (try clear hk)
          (try clear hi)
          refine hK.out _ _ trivial (fun hHeld => ?_)
          clear hK K
          refine norm_ (a' := ?_) ?_ ?_
          rotate_left
          ·
           show Act.put _ (some 44) _ = _
           simp only [Act.put, List.setIfInBounds_toArray, List.set_cons_zero, List.set_cons_succ, i64_w, i32_w]
           rfl
          refine one_ (i := 5) (N := some 46) #[true, true, true, true, true, true, false] rfl rfl (by kernel_rfl) (by decide) (fun K hK => ?_)
          refine goes_ Tryd.func92 (by kernel_rfl) rfl #[.slice A32 (((l0.drop (x5_1 : Int).toNat).take (((8 + t364) % 4294967296) : Int).toNat).drop 8).length ((c0 - x5_1.toNat) - 8)] (by rfl) rfl rfl (by (try simp only [List.map_toArray, List.map_cons, List.map_nil]); first | done | (rw [show (((l0.drop (x5_1 : Int).toNat).take (((8 + t364) % 4294967296) : Int).toNat).drop 8).length = (((8 + t364) % 4294967296).toNat - 8) from (by rw [List.length_drop, List.length_take]; have h_ : (((8 + t364) % 4294967296) : Int) ≤ ((l0.drop (x5_1 : Int).toNat).length : Int) := Zo; omega)] <;> rfl) | rfl | (simp only [List.length_drop, List.length_take]; rfl)) ?_
          with_reducible refine (impl_crc32.calls kj8 _ _ (((l0.drop (x5_1 : Int).toNat).take (((8 + t364) % 4294967296) : Int).toNat).drop 8) t368 _ ?side1 ?side2 A19.out).mono ?_
          (case side1 => repeat (first | exact (C_below HR365.out HB.out) | (with_reducible refine C_alloc ?_ _) | (with_reducible refine C_drewN ?_ _) | (with_reducible refine C_drew ?_)))
          (case side2 => exact HC365.out)
          rintro e w' ⟨rfl, ⟨nd, rfl⟩⟩
          refine ⟨_, rfl, ?_⟩
          refine hK.out _ _ trivial (fun hHeld => ?_)
          clear hK K
          refine norm_ (a' := ?_) ?_ ?_
          rotate_left
          ·
           show Act.put _ (some 46) _ = _
           simp only [Act.put, List.setIfInBounds_toArray, List.set_cons_zero, List.set_cons_succ, i64_w, i32_w]
           rfl
          refine pure_ (i := 6) (N := some 47) (v := ?_) (a' := ?_) #[true, true, true, true, true, true, true] rfl rfl (by kernel_rfl) (fun _ _ _ h => h) (Or.inl ⟨by rfl, ?_⟩) ?_ ?_
          rotate_left
          ·
           intro w'
           go_simp
           with_reducible rfl
          rotate_left
          ·
           simp only [Act.put, List.setIfInBounds_toArray, List.set_cons_zero, List.set_cons_succ, i64_w, i32_w]
           rfl
          refine done_ (by kernel_rfl) ?_
          try go_wp2
          go_ret2
          exact ⟨_, by first | rfl | (simp [errW_none, errW_some] <;> rfl) | (simp [*, errW_none, errW_some] <;> rfl), by (with_reducible repeat (first | apply S_alloc | apply S_drewN | apply S_drew)); exact HO_4.out, by repeat (first | (with_reducible first | exact HB.out | apply Zf | apply Zd | apply Ze) | exact HB.out)⟩
         rw [if_neg c17] at H
         exact absurd H (by simp)
        rw [if_neg c16] at H
        exact absurd H (by simp)
       rw [if_neg c15] at H
       exact absurd H (by simp)
    rw [if_neg c5] at H
    exact absurd H (by simp)
   rw [if_neg c4] at H
   exact absurd H (by simp)
def bytes_Equal.f (l0 : List Int) (l1 : List Int) : Option (Bool) := some ((strOfNums l0).toList == (strOfNums l1).toList)
set_option maxHeartbeats 8000000 in
set_option maxRecDepth 100000 in
theorem bytes_Equal.calls (A0 : Option Addr) (c0 : Nat) (l0 : List Int) (A1 : Option Addr) (c1 : Nat) (l1 : List Int) (r : Bool) (w : World) (hr0 : Kd.C (Kd.int .u8) w A0 l0.length l0) (hc0 : l0.length ≤ c0) (hr1 : Kd.C (Kd.int .u8) w A1 l1.length l1) (hc1 : l1.length ≤ c1) (h : bytes_Equal.f l0 l1 = some r) :
  Calls Tryd.prog 106 #[.slice A0 l0.length c0, .slice A1 l1.length c1] w fun e w' => e = .returned (.bool r) ∧ Drawn0 w w' := by
 have HR0 := Zh hr0
 have HC0 := Zh hc0
 clear hr0 hc0
 have HR1 := Zh hr1
 have HC1 := Zh hc1
 clear hr1 hc1
 have H : (some ((strOfNums l0).toList == (strOfNums l1).toList)) = some r := h
 clear h
 obtain rfl := Option.some.inj H
 have hcv3 := C_string (P := Tryd.prog) (A := A0) (c := c0) Tryd.underlying41 Tryd.underlying5 Tryd.underlying9 HR0.out
 have hcv4 := fun (nq_ : Nat) => C_string (P := Tryd.prog) (A := A0) (c := c0) Tryd.underlying41 Tryd.underlying5 Tryd.underlying9 (C_drewN HR0.out nq_)
 have hcv5 := C_string (P := Tryd.prog) (A := A1) (c := c1) Tryd.underlying41 Tryd.underlying5 Tryd.underlying9 HR1.out
 have hcv6 := fun (nq_ : Nat) => C_string (P := Tryd.prog) (A := A1) (c := c1) Tryd.underlying41 Tryd.underlying5 Tryd.underlying9 (C_drewN HR1.out nq_)
 go_enter Tryd.func106, Tryd.ntmps106
 go_wp2
 go_ret
 exact ⟨by first | rfl | (simp; done) | (simp [*]; done), by repeat (first | exact Drawn0.refl _ | apply Drawn0.step)⟩
end Go.Proofs.YtcgojdhbphocgaaDoor.F

namespace Go.Proofs.YtcgojdhbphocgaaDoor.F
open Go.Proofs.YtcgojdhbphocgaaDoor
open Go.RowKit Go.Proofs.YtcgojdhbphocgaaDoorW.PrintWords Go.Proofs.YtcgojdhbphocgaaDoorW.PrintWords.Kd Go.Proofs.YtcgojdhbphocgaaDoorW.PrintMore.Kd Go.Proofs.YtcgojdhbphocgaaDoorW.PrintLast Go.Proofs.YtcgojdhbphocgaaDoorW.PrintMore
attribute [local go_sem] max2_int min2_int max_two min_two max_three min_three max_four min_four   -- for this text's walks alone
set_option linter.unusedVariables false
set_option linter.unusedSimpArgs false
def impl_beginsFrame.j0 : Nat → List Int → Int → Bool → Option (Bool)
 | 0, _, _, _ => none
 | k + 1, x0, x3, x41 => if x41 = true then (some false) else (if 8 ≤ (wrap64 (8 + x3)) then (if (wrap64 (8 + x3)) ≤ (x0.length : Int) then ((impl_frame.f k ((x0.take ((wrap64 (8 + x3)) : Int).toNat).drop 8)).bind fun t400 => (if 0 ≤ (wrap64 (8 + x3)) then ((bytes_Equal.f t400 (x0.take ((wrap64 (8 + x3)) : Int).toNat)).bind fun t404 => (some t404)) else (none))) else (none)) else (none))
def impl_beginsFrame.f (k : Nat) (l0 : List Int) : Option (Bool) := if (l0.length : Int) < 8 then (some false) else (if 0 < (l0.length : Int) then (if 1 < (l0.length : Int) then (if 2 < (l0.length : Int) then (if (rd l0 2) = 0 then (if 3 < (l0.length : Int) then (if (rd l0 3) = 0 then (if (Go.bits .or .i64 (wrap64 (rd l0 0)) (wrap64 ((wrap64 (rd l0 1)) * 256))) < 1 then (impl_beginsFrame.j0 k l0 (Go.bits .or .i64 (wrap64 (rd l0 0)) (wrap64 ((wrap64 (rd l0 1)) * 256))) true) else (if (Go.bits .or .i64 (wrap64 (rd l0 0)) (wrap64 ((wrap64 (rd l0 1)) * 256))) > 600 then (impl_beginsFrame.j0 k l0 (Go.bits .or .i64 (wrap64 (rd l0 0)) (wrap64 ((wrap64 (rd l0 1)) * 256))) true) else (impl_beginsFrame.j0 k l0 (Go.bits .or .i64 (wrap64 (rd l0 0)) (wrap64 ((wrap64 (rd l0 1)) * 256))) (decide ((l0.length : Int) < (wrap64 (8 + (Go.bits .or .i64 (wrap64 (rd l0 0)) (wrap64 ((wrap64 (rd l0 1)) * 256)))))))))) else (impl_beginsFrame.j0 k l0 (Go.bits .or .i64 (wrap64 (rd l0 0)) (wrap64 ((wrap64 (rd l0 1)) * 256))) true)) else (none)) else (impl_beginsFrame.j0 k l0 (Go.bits .or .i64 (wrap64 (rd l0 0)) (wrap64 ((wrap64 (rd l0 1)) * 256))) true)) else (none)) else (none)) else (none))
def impl_beginsFrame.T3 : Bool × List (List Nat × List Nat) := (true, [([], []), ([0], [0]), ([1], [1]), ([2], [2]), ([], []), ([4], [4]), ([5], [5]), ([6], [6]), ([7], [7]), ([3, 8], [3, 8]), ([9, 0, 1, 2, 3, 4, 5, 6, 7, 8, 9], [9])])
def impl_beginsFrame.B3 : List Nat := [0, 1, 3, 7, 0, 16, 48, 112, 240, 511, 1023]
theorem impl_beginsFrame.tab3 : rtab .any (opsOf Tryd.f82 3) = impl_beginsFrame.T3 := by kernel_rfl
theorem impl_beginsFrame.bits3 : waitsOk impl_beginsFrame.T3.2 impl_beginsFrame.B3 = true := by kernel_rfl
def impl_beginsFrame.T6 : Bool × List (List Nat × List Nat) := (true, [([], []), ([], []), ([1], [1]), ([0, 2], [0, 2]), ([3], [3]), ([], []), ([], []), ([6], [6]), ([5, 7], [5, 7]), ([4, 8, 4], [4, 8]), ([9, 9, 0, 1, 2, 3, 4, 5, 6, 7, 8, 9], [9])])
def impl_beginsFrame.B6 : List Nat := [0, 0, 2, 7, 15, 0, 0, 64, 224, 511, 1023]
theorem impl_beginsFrame.tab6 : rtab .any (opsOf Tryd.f82 6) = impl_beginsFrame.T6 := by kernel_rfl
theorem impl_beginsFrame.bits6 : waitsOk impl_beginsFrame.T6.2 impl_beginsFrame.B6 = true := by kernel_rfl
set_option maxHeartbeats 8000000 in
set_option maxRecDepth 100000 in
theorem impl_beginsFrame.calls (k : Nat) (A0 : Option Addr) (c0 : Nat) (l0 : List Int) (r : Bool) (w : World) (hr0 : Kd.C (Kd.int .u8) w A0 l0.length l0) (hc0 : l0.length ≤ c0) (h : impl_beginsFrame.f k l0 = some r) :
  Calls Tryd.prog 82 #[.slice A0 l0.length c0] w fun e w' => e = .returned (.bool r) ∧ Below w.heap.size w w' := by
 have HR0 := Zh hr0
 have HC0 := Zh hc0
 clear hr0 hc0
 have HB := Zh (Below.refl w.heap.size w)
 have H : (if (l0.length : Int) < 8 then (some false) else (if 0 < (l0.length : Int) then (if 1 < (l0.length : Int) then (if 2 < (l0.length : Int) then (if (rd l0 2) = 0 then (if 3 < (l0.length : Int) then (if (rd l0 3) = 0 then (if (Go.bits .or .i64 (wrap64 (rd l0 0)) (wrap64 ((wrap64 (rd l0 1)) * 256))) < 1 then (impl_beginsFrame.j0 k l0 (Go.bits .or .i64 (wrap64 (rd l0 0)) (wrap64 ((wrap64 (rd l0 1)) * 256))) true) else (if (Go.bits .or .i64 (wrap64 (rd l0 0)) (wrap64 ((wrap64 (rd l0 1)) * 256))) > 600 then (impl_beginsFrame.j0 k l0 (Go.bits .or .i64 (wrap64 (rd l0 0)) (wrap64 ((wrap64 (rd l0 1)) * 256))) true) else (impl_beginsFrame.j0 k l0 (Go.bits .or .i64 (wrap64 (rd l0 0)) (wrap64 ((wrap64 (rd l0 1)) * 256))) (decide ((l0.length : Int) < (wrap64 (8 + (Go.bits .or .i64 (wrap64 (rd l0 0)) (wrap64 ((wrap64 (rd l0 1)) * 256)))))))))) else (impl_beginsFrame.j0 k l0 (Go.bits .or .i64 (wrap64 (rd l0 0)) (wrap64 ((wrap64 (rd l0 1)) * 256))) true)) else (none)) else (impl_beginsFrame.j0 k l0 (Go.bits .or .i64 (wrap64 (rd l0 0)) (wrap64 ((wrap64 (rd l0 1)) * 256))) true)) else (none)) else (none)) else (none))) = some r := h
 clear h
 by_cases c2 : (l0.length : Int) < 8
 ·
  rw [if_pos c2] at H
  have c2b0 : decide ((l0.length : Int) < 8) = true := decide_eq_true c2
  have c2b1 : decide (l0.length < 8) = true := decide_eq_true (by omega)
  clear c2
  obtain rfl := Option.some.inj H
  go_enter Tryd.func82, Tryd.ntmps82
  go_wp2
  go_ret
  exact ⟨by first | rfl | (simp [errW_none, errW_some] <;> rfl) | (simp [*, errW_none, errW_some] <;> rfl), by repeat (first | (with_reducible first | exact HB.out | apply Zf | apply Zd | apply Ze) | exact HB.out)⟩
 rw [if_neg c2] at H
 have c2b0 : decide ((l0.length : Int) < 8) = false := decide_eq_false c2
 have c2b1 : decide (l0.length < 8) = false := decide_eq_false (by omega)
 clear c2
 by_cases c3 : 0 < (l0.length : Int)
 ·
  rw [if_pos c3] at H
  have c3b0 : decide (0 < (l0.length : Int)) = true := decide_eq_true c3
  have c3b1 : decide (0 < l0.length) = true := decide_eq_true (by omega)
  clear c3
  by_cases c4 : 1 < (l0.length : Int)
  ·
   rw [if_pos c4] at H
   have c4b0 : decide (1 < (l0.length : Int)) = true := decide_eq_true c4
   have c4b1 : decide (1 < l0.length) = true := decide_eq_true (by omega)
   clear c4
   have HC5 := Zh H
   clear H
   go_enter Tryd.func82, Tryd.ntmps82
   try go_wp2
   have n0_ := Zh (Ze HB.out)
   clear HB
   have HB := n0_
   clear n0_
   have p395 : 0 ≤ (0 : Int) := (by omega)
   have q395 : 0 < (l0.length : Int) := Zo
   obtain ⟨ad395, e395, hx395_0⟩ := Kd.at_int HR0.out 0 p395 q395
   have hw395_0 := hx395_0
   (try rw [show ((0 : Int)).toNat = 0 from rfl] at hw395_0)
   (try rw [show 0 * 1 = 0 from rfl] at hw395_0)
   (try rw [Addr.add_zero'] at hw395_0)
   cases e395
   have qi395 : (0 < l0.length) = True := eq_true (by omega)
   (try rw [show ((0 : Int)).toNat = 0 from rfl] at hx395_0)
   (try rw [Addr.add_zero'] at hx395_0)
   replace hx395_0 := Zc HB.out hx395_0
   replace p395 := eq_true p395
   replace q395 := eq_true q395
   have p396 : 0 ≤ (1 : Int) := (by omega)
   have q396 : 1 < (l0.length : Int) := Zo
   obtain ⟨ad396, e396, hx396_0⟩ := Kd.at_int HR0.out 1 p396 q396
   have hw396_0 := hx396_0
   (try rw [show ((1 : Int)).toNat = 1 from rfl] at hw396_0)
   (try rw [show 1 * 1 = 1 from rfl] at hw396_0)
   (try simp only [Nat.reduceMul, Nat.reduceEqDiff, Go.Addr.add, ↓reduceIte] at hw396_0)
   obtain rfl : ad395 = ad396 := (by injection e396)
   (try simp only [show (1 : Int).toNat = 1 from rfl, Nat.reduceMul, Nat.reduceEqDiff, Go.Addr.add, ↓reduceIte] at hx396_0)
   have qi396 : (1 < l0.length) = True := eq_true (by omega)
   (try rw [show ((1 : Int)).toNat = 1 from rfl] at hx396_0)
   replace hx396_0 := Zc HB.out hx396_0
   replace p396 := eq_true p396
   replace q396 := eq_true q396
   refine start_ (n := 11) (S := fun w' => w'.cell? ad395 = some (.int .u8 (rd l0 0)) ∧ w'.cell? ⟨ad395.block, ad395.off + 1, none⟩ = some (.int .u8 (rd l0 1))) (ds := []) #[false, false, false, false, false, false, false, false, false, false, false] (by kernel_rfl) rfl rfl ⟨((HB.out.cell (Zi w _ hw395_0)).trans hw395_0), ((HB.out.cell (Zi w _ hw396_0)).trans hw396_0)⟩ (fun hHeld => ?_); refine with_tabW impl_beginsFrame.tab3 impl_beginsFrame.bits3 (fun HT_ HW_ => ?_)
   generalize w.drew = w6 at HB hx395_0 hx396_0 hHeld ⊢
   refine SQ.pu 0 7 HT_ ?_
   refine SQ.pu 1 8 HT_ ?_
   refine SQ.pu 4 11 HT_ ?_
   refine SQ.pu 5 12 HT_ ?_
   refine SQ.tk 2 9 HT_ HW_ hHeld ?_
   refine SQ.pu 3 10 HT_ ?_
   refine SQ.tk 6 13 HT_ HW_ hHeld ?_
   refine SQ.pu 7 14 HT_ ?_
   refine SQ.pu 8 15 HT_ ?_
   refine SQ.pu 9 16 HT_ ?_
   refine SQ.pu 10 3 HT_ ?_
   refine done_ (done_of HT_.out (by kernel_rfl)) ?_
   go_upto_region 4 with (fail)
   go_cut [41] (fun v41 wc => ∃ (kq : Nat) (x41_4 : Bool), v41 = .bool x41_4 ∧ Aside0 (impl_beginsFrame.j0 kq l0 (Go.bits .or .i64 (wrap64 (rd l0 0)) (wrap64 ((wrap64 (rd l0 1)) * 256))) x41_4 = some r) ∧ Aside0 (kq ≤ k) ∧ Aside0 (Below w.heap.size w wc))
   case first =>
    have H := HC5.out
    clear HC5
    by_cases c7 : 2 < (l0.length : Int)
    ·
     rw [if_pos c7] at H
     have c7b0 : decide (2 < (l0.length : Int)) = true := decide_eq_true c7
     have c7b1 : decide (2 < l0.length) = true := decide_eq_true (by omega)
     clear c7
     (first | rw [c7b0] | (simp only [i64_w, i32_w]; rw [c7b0]) | skip)
     by_cases c8 : (rd l0 2) = 0
     ·
      rw [if_pos c8] at H
      have c8b0 : ((rd l0 2) == 0) = true := beq_iff_eq.mpr c8
      have c8b1 : ((rd l0 2) != 0) = false := bne_eq_false_iff_eq.mpr c8
      clear c8
      by_cases c9 : 3 < (l0.length : Int)
      ·
       rw [if_pos c9] at H
       have c9b0 : decide (3 < (l0.length : Int)) = true := decide_eq_true c9
       have c9b1 : decide (3 < l0.length) = true := decide_eq_true (by omega)
       clear c9
       by_cases c10 : (rd l0 3) = 0
       ·
        rw [if_pos c10] at H
        have c10b0 : ((rd l0 3) == 0) = true := beq_iff_eq.mpr c10
        have c10b1 : ((rd l0 3) != 0) = false := bne_eq_false_iff_eq.mpr c10
        clear c10
        by_cases c11 : (Go.bits .or .i64 (wrap64 (rd l0 0)) (wrap64 ((wrap64 (rd l0 1)) * 256))) < 1
        ·
         rw [if_pos c11] at H
         have c11b0 : decide ((Go.bits .or .i64 (wrap64 (rd l0 0)) (wrap64 ((wrap64 (rd l0 1)) * 256))) < 1) = true := decide_eq_true c11
         clear c11
         have H' := Zh H
         clear H
         have p397 : 0 ≤ (2 : Int) := (by omega)
         have q397 : 2 < (l0.length : Int) := Zo
         obtain ⟨ad397, e397, hx397_0⟩ := Kd.at_int HR0.out 2 p397 q397
         obtain rfl : ad395 = ad397 := (by injection e397)
         (try simp only [show (2 : Int).toNat = 2 from rfl, Nat.reduceMul, Nat.reduceEqDiff, Go.Addr.add, ↓reduceIte] at hx397_0)
         have qi397 : (2 < l0.length) = True := eq_true (by omega)
         (try rw [show ((2 : Int)).toNat = 2 from rfl] at hx397_0)
         replace hx397_0 := Zc HB.out hx397_0
         replace p397 := eq_true p397
         replace q397 := eq_true q397
         have p398 : 0 ≤ (3 : Int) := (by omega)
         have q398 : 3 < (l0.length : Int) := Zo
         obtain ⟨ad398, e398, hx398_0⟩ := Kd.at_int HR0.out 3 p398 q398
         obtain rfl : ad395 = ad398 := (by injection e398)
         (try simp only [show (3 : Int).toNat = 3 from rfl, Nat.reduceMul, Nat.reduceEqDiff, Go.Addr.add, ↓reduceIte] at hx398_0)
         have qi398 : (3 < l0.length) = True := eq_true (by omega)
         (try rw [show ((3 : Int)).toNat = 3 from rfl] at hx398_0)
         replace hx398_0 := Zc HB.out hx398_0
         replace p398 := eq_true p398
         replace q398 := eq_true q398
         go_wp2
         go_meet
         case rel => exact ⟨_, (true), (by first | rfl | (simp; done) | (simp [*]; done)), H', ⟨by first | omega | exact Nat.le_refl _⟩, ⟨by repeat (first | (with_reducible first | exact HB.out | apply Zf | apply Zd | apply Ze) | exact HB.out)⟩⟩
        rw [if_neg c11] at H
        have c11b0 : decide ((Go.bits .or .i64 (wrap64 (rd l0 0)) (wrap64 ((wrap64 (rd l0 1)) * 256))) < 1) = false := decide_eq_false c11
        clear c11
        by_cases c12 : (Go.bits .or .i64 (wrap64 (rd l0 0)) (wrap64 ((wrap64 (rd l0 1)) * 256))) > 600
        ·
         rw [if_pos c12] at H
         have c12b0 : decide (600 < (Go.bits .or .i64 (wrap64 (rd l0 0)) (wrap64 ((wrap64 (rd l0 1)) * 256)))) = true := decide_eq_true c12
         clear c12
         have H' := Zh H
         clear H
         have p397 : 0 ≤ (2 : Int) := (by omega)
         have q397 : 2 < (l0.length : Int) := Zo
         obtain ⟨ad397, e397, hx397_0⟩ := Kd.at_int HR0.out 2 p397 q397
         obtain rfl : ad395 = ad397 := (by injection e397)
         (try simp only [show (2 : Int).toNat = 2 from rfl, Nat.reduceMul, Nat.reduceEqDiff, Go.Addr.add, ↓reduceIte] at hx397_0)
         have qi397 : (2 < l0.length) = True := eq_true (by omega)
         (try rw [show ((2 : Int)).toNat = 2 from rfl] at hx397_0)
         replace hx397_0 := Zc HB.out hx397_0
         replace p397 := eq_true p397
         replace q397 := eq_true q397
         have p398 : 0 ≤ (3 : Int) := (by omega)
         have q398 : 3 < (l0.length : Int) := Zo
         obtain ⟨ad398, e398, hx398_0⟩ := Kd.at_int HR0.out 3 p398 q398
         obtain rfl : ad395 = ad398 := (by injection e398)
         (try simp only [show (3 : Int).toNat = 3 from rfl, Nat.reduceMul, Nat.reduceEqDiff, Go.Addr.add, ↓reduceIte] at hx398_0)
         have qi398 : (3 < l0.length) = True := eq_true (by omega)
         (try rw [show ((3 : Int)).toNat = 3 from rfl] at hx398_0)
         replace hx398_0 := Zc HB.out hx398_0
         replace p398 := eq_true p398
         replace q398 := eq_true q398
         go_wp2
         go_meet
         case rel => exact ⟨_, (true), (by first | rfl | (simp; done) | (simp [*]; done)), H', ⟨by first | omega | exact Nat.le_refl _⟩, ⟨by repeat (first | (with_reducible first | exact HB.out | apply Zf | apply Zd | apply Ze) | exact HB.out)⟩⟩
        rw [if_neg c12] at H
        have c12b0 : decide (600 < (Go.bits .or .i64 (wrap64 (rd l0 0)) (wrap64 ((wrap64 (rd l0 1)) * 256)))) = false := decide_eq_false c12
        clear c12
        have H' := Zh H
        clear H
        have p397 : 0 ≤ (2 : Int) := (by omega)
        have q397 : 2 < (l0.length : Int) := Zo
        obtain ⟨ad397, e397, hx397_0⟩ := Kd.at_int HR0.out 2 p397 q397
        obtain rfl : ad395 = ad397 := (by injection e397)
        (try simp only [show (2 : Int).toNat = 2 from rfl, Nat.reduceMul, Nat.reduceEqDiff, Go.Addr.add, ↓reduceIte] at hx397_0)
        have qi397 : (2 < l0.length) = True := eq_true (by omega)
        (try rw [show ((2 : Int)).toNat = 2 from rfl] at hx397_0)
        replace hx397_0 := Zc HB.out hx397_0
        replace p397 := eq_true p397
        replace q397 := eq_true q397
        have p398 : 0 ≤ (3 : Int) := (by omega)
        have q398 : 3 < (l0.length : Int) := Zo
        obtain ⟨ad398, e398, hx398_0⟩ := Kd.at_int HR0.out 3 p398 q398
        obtain rfl : ad395 = ad398 := (by injection e398)
        (try simp only [show (3 : Int).toNat = 3 from rfl, Nat.reduceMul, Nat.reduceEqDiff, Go.Addr.add, ↓reduceIte] at hx398_0)
        have qi398 : (3 < l0.length) = True := eq_true (by omega)
        (try rw [show ((3 : Int)).toNat = 3 from rfl] at hx398_0)
        replace hx398_0 := Zc HB.out hx398_0
        replace p398 := eq_true p398
        replace q398 := eq_true q398
        go_wp2
        go_meet
        case rel => exact ⟨_, (decide ((l0.length : Int) < (wrap64 (8 + (Go.bits .or .i64 (wrap64 (rd l0 0)) (wrap64 ((wrap64 (rd l0 1)) * 256))))))), (by first | rfl | (simp; done) | (simp [*]; done)), H', ⟨by first | omega | exact Nat.le_refl _⟩, ⟨by repeat (first | (with_reducible first | exact HB.out | apply Zf | apply Zd | apply Ze) | exact HB.out)⟩⟩
       rw [if_neg c10] at H
       have c10b0 : ((rd l0 3) == 0) = false := beq_eq_false_iff_ne.mpr c10
       have c10b1 : ((rd l0 3) != 0) = true := bne_iff_ne.mpr c10
       have H' := Zh H
       clear H
       have p397 : 0 ≤ (2 : Int) := (by omega)
       have q397 : 2 < (l0.length : Int) := Zo
       obtain ⟨ad397, e397, hx397_0⟩ := Kd.at_int HR0.out 2 p397 q397
       obtain rfl : ad395 = ad397 := (by injection e397)
       (try simp only [show (2 : Int).toNat = 2 from rfl, Nat.reduceMul, Nat.reduceEqDiff, Go.Addr.add, ↓reduceIte] at hx397_0)
       have qi397 : (2 < l0.length) = True := eq_true (by omega)
       (try rw [show ((2 : Int)).toNat = 2 from rfl] at hx397_0)
       replace hx397_0 := Zc HB.out hx397_0
       replace p397 := eq_true p397
       replace q397 := eq_true q397
       have p398 : 0 ≤ (3 : Int) := (by omega)
       have q398 : 3 < (l0.length : Int) := Zo
       obtain ⟨ad398, e398, hx398_0⟩ := Kd.at_int HR0.out 3 p398 q398
       obtain rfl : ad395 = ad398 := (by injection e398)
       (try simp only [show (3 : Int).toNat = 3 from rfl, Nat.reduceMul, Nat.reduceEqDiff, Go.Addr.add, ↓reduceIte] at hx398_0)
       have qi398 : (3 < l0.length) = True := eq_true (by omega)
       (try rw [show ((3 : Int)).toNat = 3 from rfl] at hx398_0)
       replace hx398_0 := Zc HB.out hx398_0
       replace p398 := eq_true p398
       replace q398 := eq_true q398
       go_wp2
       go_meet
       case rel => exact ⟨_, (true), (by first | rfl | (simp; done) | (simp [*]; done)), H', ⟨by first | omega | exact Nat.le_refl _⟩, ⟨by repeat (first | (with_reducible first | exact HB.out | apply Zf | apply Zd | apply Ze) | exact HB.out)⟩⟩
      rw [if_neg c9] at H
      exact absurd H (by simp)
     rw [if_neg c8] at H
     have c8b0 : ((rd l0 2) == 0) = false := beq_eq_false_iff_ne.mpr c8
     have c8b1 : ((rd l0 2) != 0) = true := bne_iff_ne.mpr c8
     have H' := Zh H
     clear H
     have p397 : 0 ≤ (2 : Int) := (by omega)
     have q397 : 2 < (l0.length : Int) := Zo
     obtain ⟨ad397, e397, hx397_0⟩ := Kd.at_int HR0.out 2 p397 q397
     obtain rfl : ad395 = ad397 := (by injection e397)
     (try simp only [show (2 : Int).toNat = 2 from rfl, Nat.reduceMul, Nat.reduceEqDiff, Go.Addr.add, ↓reduceIte] at hx397_0)
     have qi397 : (2 < l0.length) = True := eq_true (by omega)
     (try rw [show ((2 : Int)).toNat = 2 from rfl] at hx397_0)
     replace hx397_0 := Zc HB.out hx397_0
     replace p397 := eq_true p397
     replace q397 := eq_true q397
     go_wp2
     go_meet
     case rel => exact ⟨_, (true), (by first | rfl | (simp; done) | (simp [*]; done)), H', ⟨by first | omega | exact Nat.le_refl _⟩, ⟨by repeat (first | (with_reducible first | exact HB.out | apply Zf | apply Zd | apply Ze) | exact HB.out)⟩⟩
    rw [if_neg c7] at H
    exact absurd H (by simp)
   case rest =>
    clear HC5
    try clear c1
    try clear c2
    try clear c2b0
    try clear c2b1
    try clear p2
    try clear c3
    try clear c3b0
    try clear c3b1
    try clear p3
    try clear q3
    try clear hx3
    try clear qi3
    try clear c4
    try clear c4b0
    try clear c4b1
    try clear p6
    try clear c7
    try clear c7b0
    try clear c7b1
    try clear c8
    try clear c8b0
    try clear c8b1
    try clear c9
    try clear c9b0
    try clear c9b1
    try clear c10
    try clear c10b0
    try clear c10b1
    try clear c11
    try clear c11b0
    try clear c12
    try clear c12b0
    try clear hx395_0
    try clear hx396_0
    try clear hx397_0
    try clear hx398_0
    try clear p395
    try clear p396
    try clear p397
    try clear p398
    try clear q395
    try clear q396
    try clear q397
    try clear q398
    obtain ⟨kq, x41_4, rfl, HA, HJ4, HB⟩ := hcut
    cases kq with
    | zero => exact absurd HA.out (by simp [impl_beginsFrame.j0])
    | succ kj4 =>
     have H := HA.out
     clear HA
     simp only [impl_beginsFrame.j0] at H
     by_cases c13 : x41_4 = true
     ·
      subst c13
      have H1 : (some false) = some r := by rw [if_pos rfl] at H; exact H
      clear H
      have H := H1
      clear H1
      obtain rfl := Option.some.inj H
      go_wp2
      go_ret
      exact ⟨by first | rfl | (simp [errW_none, errW_some] <;> rfl) | (simp [*, errW_none, errW_some] <;> rfl), by repeat (first | (with_reducible first | exact HB.out | apply Zf | apply Zd | apply Ze) | exact HB.out)⟩
     replace c13 := Bool.eq_false_iff.mpr c13
     subst c13
     have H1 : (if 8 ≤ (wrap64 (8 + (Go.bits .or .i64 (wrap64 (rd l0 0)) (wrap64 ((wrap64 (rd l0 1)) * 256))))) then (if (wrap64 (8 + (Go.bits .or .i64 (wrap64 (rd l0 0)) (wrap64 ((wrap64 (rd l0 1)) * 256))))) ≤ (l0.length : Int) then ((impl_frame.f kj4 ((l0.take ((wrap64 (8 + (Go.bits .or .i64 (wrap64 (rd l0 0)) (wrap64 ((wrap64 (rd l0 1)) * 256))))) : Int).toNat).drop 8)).bind fun t400 => (if 0 ≤ (wrap64 (8 + (Go.bits .or .i64 (wrap64 (rd l0 0)) (wrap64 ((wrap64 (rd l0 1)) * 256))))) then ((bytes_Equal.f t400 (l0.take ((wrap64 (8 + (Go.bits .or .i64 (wrap64 (rd l0 0)) (wrap64 ((wrap64 (rd l0 1)) * 256))))) : Int).toNat)).bind fun t404 => (some t404)) else (none))) else (none)) else (none)) = some r := by rw [if_neg (show ¬ (false = true) by decide)] at H; exact H
     clear H
     have H := H1
     clear H1
     by_cases c14 : 8 ≤ (wrap64 (8 + (Go.bits .or .i64 (wrap64 (rd l0 0)) (wrap64 ((wrap64 (rd l0 1)) * 256)))))
     ·
      rw [if_pos c14] at H
      have c14b0 := eq_true c14
      have c14b1 : decide (8 ≤ (wrap64 (8 + (Go.bits .or .i64 (wrap64 (rd l0 0)) (wrap64 ((wrap64 (rd l0 1)) * 256)))))) = true := decide_eq_true c14
      by_cases c15 : (wrap64 (8 + (Go.bits .or .i64 (wrap64 (rd l0 0)) (wrap64 ((wrap64 (rd l0 1)) * 256))))) ≤ (l0.length : Int)
      ·
       rw [if_pos c15] at H
       have c15b0 := eq_true c15
       have c15b1 : decide ((wrap64 (8 + (Go.bits .or .i64 (wrap64 (rd l0 0)) (wrap64 ((wrap64 (rd l0 1)) * 256))))) ≤ (l0.length : Int)) = true := decide_eq_true c15
       replace H := Option.bind_eq_some_iff.mp H
       obtain ⟨t400, A160, H⟩ := H
       replace H : (if 0 ≤ (wrap64 (8 + (Go.bits .or .i64 (wrap64 (rd l0 0)) (wrap64 ((wrap64 (rd l0 1)) * 256))))) then ((bytes_Equal.f t400 (l0.take ((wrap64 (8 + (Go.bits .or .i64 (wrap64 (rd l0 0)) (wrap64 ((wrap64 (rd l0 1)) * 256))))) : Int).toNat)).bind fun t404 => (some t404)) else (none)) = some r := H
       have A16 := Zh A160
       clear A160
       obtain ⟨ji17, hji17⟩ : ∃ j_ : Int, (wrap64 (8 + (Go.bits .or .i64 (wrap64 (rd l0 0)) (wrap64 ((wrap64 (rd l0 1)) * 256))))) = j_ := ⟨_, rfl⟩
       replace H : (if 0 ≤ (ji17) then ((bytes_Equal.f t400 (l0.take ((ji17) : Int).toNat)).bind fun t404 => (some t404)) else (none)) = some r := by first | (rw [hji17] at H; exact H) | (simp only [hji17] at H ⊢; exact H)
       (try rw [hji17] at c14b0)
       (try rw [hji17] at c14b1)
       (try rw [hji17] at c14)
       (try rw [hji17] at c15b0)
       (try rw [hji17] at c15b1)
       (try rw [hji17] at c15)
       (try rw [hji17] at A16)
       have hji17w : (IntKind.i64.wrap (8 + (Go.bits .or .i64 (wrap64 (rd l0 0)) (wrap64 ((wrap64 (rd l0 1)) * 256))))) = ji17 := (i64_w _).trans hji17
       by_cases c18 : 0 ≤ (ji17)
       ·
        rw [if_pos c18] at H
        have c18b0 := eq_true c18
        have c18b1 : decide (0 ≤ (ji17)) = true := decide_eq_true c18
        clear c18
        have c19b0 := eq_true (Zo : (ji17) ≤ (l0.length : Int))
        replace H := Option.bind_eq_some_iff.mp H
        obtain ⟨t404, A200, H⟩ := H
        replace H : (some t404) = some r := H
        have A20 := Zh A200
        clear A200
        obtain rfl := Option.some.inj H
        try go_wp2
        have n0_ := Zh (Ze HB.out)
        clear HB
        have HB := n0_
        clear n0_
        obtain ⟨i022, hi022, _, hsz22, _⟩ := info_parts info5
        obtain ⟨A22, hcut22, hA22, hC22⟩ := print_mid_of (P := Tryd.prog) (Value.int .u8) 0 41 5 .i64 .i64 Tryd.underlying41 hi022 hsz22 (some ad395) c0 l0 8 (ji17) (by omega) (by first | omega | exact Zo) (Zo) HC0.out
        have HR399 := Zh (C_of_reads (h1 := fun _ => rfl) (hA22 _ (Kd.reads_of_C HR0.out)))
        have HC399 := Zh hC22
        clear hA22 hC22 hi022 hsz22
        obtain ⟨i023, hi023, _, hsz23, _⟩ := info_parts info5
        obtain ⟨hcut23, hA23, hC23⟩ := print_take_of (P := Tryd.prog) (Value.int .u8) 0 41 5 .i64 Tryd.underlying41 hi023 hsz23 (some ad395) c0 l0 (ji17) (Zo) (Zo) HC0.out
        have HR403 := Zh (C_of_reads (h1 := fun _ => rfl) (hA23 _ (Kd.reads_of_C HR0.out)))
        have HC403 := Zh hC23
        clear hA23 hC23 hi023 hsz23
        refine start_ (n := 11) (S := fun w' => True) (ds := []) #[false, false, false, false, false, false, false, false, false, false, false] (by kernel_rfl) rfl rfl trivial (fun hHeld => ?_); refine with_tabW impl_beginsFrame.tab6 impl_beginsFrame.bits6 (fun HT_ HW_ => ?_)
        generalize wc.drew = w21 at HB HR399 HR403 hHeld ⊢
        refine SQ.pu 0 42 HT_ ?_
        refine SQ.pu 1 43 HT_ ?_
        refine SQ.pu 2 44 HT_ ?_
        refine SQ.pu 3 45 HT_ ?_
        refine SQ.pu 5 47 HT_ ?_
        refine SQ.pu 6 48 HT_ ?_
        refine SQ.pu 7 49 HT_ ?_
        refine SQ.pu 8 50 HT_ ?_
        refine one_ (i := 4) (N := some 46) #[true, true, true, true, true, true, true, true, true, false, false] rfl rfl (one_of HT_.out (by kernel_rfl)) (by decide) (fun K hK => ?_)
        refine goes_ Tryd.func60 (by kernel_rfl) rfl #[.slice A22 ((l0.take ((ji17) : Int).toNat).drop 8).length (c0 - 8)] (by rfl) rfl rfl (by (try simp only [List.map_toArray, List.map_cons, List.map_nil]); first | done | (rw [show ((l0.take ((ji17) : Int).toNat).drop 8).length = ((ji17).toNat - 8) from (by rw [List.length_drop, List.length_take]; have h_ : ((ji17) : Int) ≤ (l0.length : Int) := Zo; omega)] <;> rfl) | (simp only [hji17]; rfl) | rfl | (simp only [List.length_drop, List.length_take]; rfl)) ?_
        with_reducible refine (impl_frame.calls kj4 _ _ ((l0.take ((ji17) : Int).toNat).drop 8) t400 _ ?side1 ?side2 A16.out).mono ?_
        (case side1 => repeat (first | exact (C_below HR399.out HB.out) | (with_reducible refine C_alloc ?_ _) | (with_reducible refine C_drewN ?_ _) | (with_reducible refine C_drew ?_)))
        (case side2 => exact HC399.out)
        rintro e w24 ⟨v401, rfl, ho0, hb⟩
        refine ⟨_, rfl, ?_⟩
        have n0_ := Zh (R_lower ho0 (below_size Zs))
        have n1_ := Zh (Zl Zs hb)
        clear HB
        have HO402 := n0_
        have HB := n1_
        clear n0_ n1_
        (try clear hb)
        (try clear hb2)
        (try clear hk)
        (try clear hi)
        (try clear ho0)
        obtain ⟨Ao25, co25, eo25⟩ := R_slice HO402.out
        (first | subst eo25 | (injection eo25 with f1_ f2_ f3_; have f4_ := f1_.symm; have f5_ := f3_.symm; clear f1_ f2_ f3_; subst f4_; subst f5_))
        refine hK.out _ _ trivial (fun hHeld => ?_)
        clear hK K
        refine norm_ (a' := ?_) ?_ ?_
        rotate_left
        ·
         show Act.put _ (some 46) _ = _
         simp only [Act.put, List.setIfInBounds_toArray, List.set_cons_zero, List.set_cons_succ, i64_w, i32_w]
         rfl
        refine one_ (i := 9) (N := some 51) #[true, true, true, true, true, true, true, true, true, true, false] rfl rfl (one_of HT_.out (by kernel_rfl)) (by decide) (fun K hK => ?_)
        refine goes_ Tryd.func106 (by kernel_rfl) rfl #[.slice Ao25 t400.length co25, .slice (some ad395) (l0.take ((ji17) : Int).toNat).length c0] (by rfl) rfl rfl (by (try simp only [List.map_toArray, List.map_cons, List.map_nil]); first | done | (rw [show (l0.take ((ji17) : Int).toNat).length = (ji17).toNat from (by rw [List.length_take]; have h_ : ((ji17) : Int) ≤ (l0.length : Int) := Zo; omega)] <;> rfl) | (simp only [hji17]; rfl) | rfl | (simp only [List.length_drop, List.length_take]; rfl)) ?_
        with_reducible refine (bytes_Equal.calls _ _ t400 _ _ (l0.take ((ji17) : Int).toNat) t404 _ ?side1 ?side2 ?side3 ?side4 A20.out).mono ?_
        (case side1 => repeat (first | exact (R_reads' HO402.out).2.2 | (with_reducible refine C_alloc ?_ _) | (with_reducible refine C_drewN ?_ _) | (with_reducible refine C_drew ?_)))
        (case side2 => exact (R_reads' HO402.out).2.1)
        (case side3 => repeat (first | exact (C_below HR403.out HB.out) | (with_reducible refine C_alloc ?_ _) | (with_reducible refine C_drewN ?_ _) | (with_reducible refine C_drew ?_)))
        (case side4 => exact HC403.out)
        rintro e w' ⟨rfl, ⟨nd, rfl⟩⟩
        refine ⟨_, rfl, ?_⟩
        refine hK.out _ _ trivial (fun hHeld => ?_)
        clear hK K
        refine norm_ (a' := ?_) ?_ ?_
        rotate_left
        ·
         show Act.put _ (some 51) _ = _
         simp only [Act.put, List.setIfInBounds_toArray, List.set_cons_zero, List.set_cons_succ, i64_w, i32_w]
         rfl
        refine SQ.pu 10 2 HT_ ?_
        refine done_ (done_of HT_.out (by kernel_rfl)) ?_
        try go_wp2
        go_ret
        exact ⟨by first | rfl | (simp [errW_none, errW_some] <;> rfl) | (simp only [← hji17]; first | rfl | (simp [errW_none, errW_some] <;> rfl)) | (simp [*, errW_none, errW_some] <;> rfl), by repeat (first | (with_reducible first | exact HB.out | apply Zf | apply Zd | apply Ze) | exact HB.out)⟩
       rw [if_neg c18] at H
       exact absurd H (by simp)
      rw [if_neg c15] at H
      exact absurd H (by simp)
     rw [if_neg c14] at H
     exact absurd H (by simp)
  rw [if_neg c4] at H
  exact absurd H (by simp)
 rw [if_neg c3] at H
 exact absurd H (by simp)
end Go.Proofs.YtcgojdhbphocgaaDoor.F
