/- Merged texts below the law FnCrash: Go functions as Lean functions, their contracts, and plain lemmas. -/
import Derived.Test.YtmgeffgcihfpcaaDoorQFnCrash23
import Derived.Shelf.Abstract
import Derived.Test.YtmgeffgcihfpcaaDoorVFnCrashTab
import Derived.Test.YtmgeffgcihfpcaaDoorVFnCrashMore
import Derived.WalkKit
import Derived.Shelf.Strings.SlTrimAscii
import Derived.Test.YtmgeffgcihfpcaaDoorQFnCrash13
import Derived.Test.YtmgeffgcihfpcaaDoorVFnCrashF
import Derived.Deep.DeepCutAuto
import Derived.Deep.CutBlock
import Derived.BigQuiet
namespace Go.Proofs.YtmgeffgcihfpcaaDoor.F
open Go.RowKit Go.Proofs.YtmgeffgcihfpcaaDoorW.PrintWords Go.Proofs.YtmgeffgcihfpcaaDoorW.PrintLast Go.Proofs.YtmgeffgcihfpcaaDoorW.PrintMore
set_option linter.unusedVariables false
set_option linter.unusedSimpArgs false
def PredF (g : Nat) (lb : Array Value) (p : ByteArray → Bool) (w : World) : Prop := ∀ w1 : World, Below w.heap.size w w1 → ∀ (s : ByteArray) (v1 v2 : Value), Calls Tryd.prog g (#[.agg #[.string s, v1, v2]] ++ lb) w1 fun e w' => e = .returned (.bool (p s)) ∧ Below w1.heap.size w1 w'
def idxF (p : ByteArray → Bool) : List S74 → Int → Int
  | [], _ => -1
  | x :: t, i => if p x.f0 = true then i else idxF p t (i + 1)
set_option maxHeartbeats 4000000 in
theorem indexFile.calls (g : Nat) (lb : Array Value) (p : ByteArray → Bool) (eg : ∀ args w, (callFunc g args).run Tryd.prog w = .ok (.enter g args) w) (A : Option Addr) (c : Nat) (l : List S74) (w : World) (hr : Kd.C k74 w A l.length l) (hl : l.length ≤ 9223372036854775807) (hp : PredF g lb p w) :
    Calls Tryd.prog 94 #[.slice A l.length c, .func (.func g) #[] lb] w fun e w' => e = .returned (.int .i64 (idxF p l 0)) ∧ Below w.heap.size w w' := by
  have HR0 := Zh hr
  clear hr
  have HP := Zh hp
  clear hp
  have hu74 := Tryd.underlying74
  go_enter Tryd.func94, Tryd.ntmps94
  go_wp2
  go_loopg [5, 8] l.length (fun gg _ v8 w' => ∃ kk : Nat, kk ≤ l.length ∧ l.length - kk ≤ gg ∧ v8 = .int .i64 kk ∧ Aside0 (Below w.heap.size w w') ∧ Aside0 (idxF p (l.drop kk) kk = idxF p l 0))
  case atStart => exact ⟨0, Nat.zero_le _, by omega, rfl, ⟨Below.refl _ _⟩, ⟨rfl⟩⟩
  case round =>
    obtain ⟨kk, hkk, hg, rfl, HB, HA⟩ := hrel
    by_cases hlt : kk < l.length
    · have hltz : (kk : Int) < (l.length : Int) := by omega
      obtain ⟨ad, A1, c1, A2, c2, e, hx0, hx1, hx2, _, _, _, _⟩ := at_T74 HR0.out (kk : Int) (by omega) (by omega)
      cases e
      replace hx0 := (HB.out.cell (Zi w _ hx0)).trans hx0
      replace hx1 := (HB.out.cell (Zi w _ hx1)).trans hx1
      replace hx2 := (HB.out.cell (Zi w _ hx2)).trans hx2
      rw [Int.toNat_natCast] at hx0 hx1 hx2
      have hrd : rd_T74 l (kk : Int) = l[kk] := by simp [rd_T74, List.getD_eq_getElem?_getD, List.getElem?_eq_getElem hlt]
      have hA := HA.out
      rw [List.drop_eq_getElem_cons hlt] at hA
      rw [hrd] at hx0 hx1 hx2
      clear HA hrd
      generalize l[kk] = y at hx0 hx1 hx2 hA
      have hcall := HP.out wr HB.out y.f0 (.slice A1 y.f1.length c1) (.slice A2 y.f2.length c2)
      cases hq : p y.f0 with
      | true =>
        simp only [idxF, hq, if_true] at hA
        rw [hq] at hcall
        have HA := Zh hA
        clear hA
        go_wp2_with (go_at_fn g; refine hcall.mono ?_; rintro e w' ⟨rfl, hb⟩; replace HB := Zh (Zl HB.out hb); clear hb)
        go_ret
        exact ⟨by rw [← HA.out]; rfl, HB.out⟩
      | false =>
        simp only [idxF, hq, Bool.false_eq_true, if_false] at hA
        rw [hq] at hcall
        have HA := Zh hA
        clear hA
        go_wp2_with (go_at_fn g; refine hcall.mono ?_; rintro e w' ⟨rfl, hb⟩; replace HB := Zh (Zl HB.out hb); clear hb)
        go_roundg (l.length - (kk + 1))
        case measure => omega
        case rel => exact ⟨kk + 1, by omega, by omega, by go_num, HB, ⟨by have := HA.out; simpa using this⟩⟩
    have hltz : ¬ (kk : Int) < (l.length : Int) := by omega
    have : kk = l.length := by omega
    subst this
    go_wp2
    go_ret
    refine ⟨?_, HB.out⟩
    rw [← HA.out, List.drop_length]
    rfl
set_option maxHeartbeats 4000000 in
theorem fileOf1.pred (B : Nat) (name : ByteArray) (w : World) (hb : w.cell? ⟨B, 0, none⟩ = some (.string name)) : PredF 95 #[.pointer (some ⟨B, 0, none⟩)] (fun s => s.toList == name.toList) w := by
  intro w1 hB s v1 v2
  have hlt := Nat.lt_of_lt_of_le (Zi w _ hb) hB.size
  have hx := (hB.cell (Zi w _ hb)).trans hb
  clear hb hB
  have hu74 := Tryd.underlying74
  have hlt2 : B < w1.heap.size := hlt
  clear hlt
  go_enter Tryd.func95, Tryd.ntmps95
  go_wp2
  go_ret
  exact ⟨rfl, Zf (Below.refl _ _) _⟩
def impl_fileOf.f (l0_0 : List S74) (a1 : ByteArray) : Option Int := if l0_0.length ≤ 9223372036854775807 then some (idxF (fun s => s.toList == a1.toList) l0_0 0) else none
set_option maxHeartbeats 4000000 in
theorem impl_fileOf.calls (A0_0 : Option Addr) (c0_0 : Nat) (l0_0 : List S74) (a1 : ByteArray) (r : Int) (w : World) (hr0_0 : Kd.C k74 w A0_0 l0_0.length l0_0) (hc0_0 : l0_0.length ≤ c0_0) (h : impl_fileOf.f l0_0 a1 = some r) :
    Calls Tryd.prog 63 #[.agg #[.slice A0_0 l0_0.length c0_0], .string a1] w fun e w' => e = .returned (.int .i64 r) ∧ Below w.heap.size w w' := by
  unfold impl_fileOf.f at h
  split at h
  · rename_i hl
    have h := Option.some.inj h
    subst h
    have HR := Zh hr0_0
    have HL := Zh hl
    clear hr0_0 hl
    have e6 : ∀ args w, (callFunc 94 args).run Tryd.prog w = .ok (.enter 94 args) w := enters_of Tryd.func94 (by kernel_rfl) rfl
    have e7 : ∀ args w, (callFunc 95 args).run Tryd.prog w = .ok (.enter 95 args) w := enters_of Tryd.func95 (by kernel_rfl) rfl
    have hmf : ∀ (fn : Fn) (first cap : Array Value) (w : World), (Instr.makeFunc fn first cap).run Tryd.prog w = .ok (.func fn first cap) w := fun _ _ _ _ => rfl
    have hcall := indexFile.calls 95 #[.pointer (some ⟨w.heap.size + 1, 0, none⟩)] (fun s => s.toList == a1.toList) e7 A0_0 c0_0 l0_0 ((w.alloc (.cells #[.slice A0_0 l0_0.length c0_0] 29)).alloc (.cells #[.string a1] 9)) (Kd.C_alloc (Kd.C_alloc HR.out _) _) HL.out (fileOf1.pred _ _ _ (by simp))
    go_enter Tryd.func63, Tryd.ntmps63
    go_wp2_with (go_at_fn 94; refine hcall.mono ?_; rintro e w' ⟨rfl, hb⟩)
    go_ret
    exact ⟨rfl, Zl (Zf (Zf (Below.refl _ _) _) _) hb⟩
  cases h
end Go.Proofs.YtmgeffgcihfpcaaDoor.F

namespace Go.Proofs.YtmgeffgcihfpcaaDoor.SQ
open Go.RowKit Go.Proofs.YtmgeffgcihfpcaaDoorW.PrintWords Go.Proofs.YtmgeffgcihfpcaaDoorW.PrintLast Go.Proofs.YtmgeffgcihfpcaaDoorW.PrintMore
section
variable {P : Program} {md : Region.Mode} {ops : Array Oper} {ds : List Nat} {S : World → Prop} {Q : Exit → Act → World → Prop} {oi : Oper} {v : Value} {fuel : Nat} {l : Array Bool} {a a' : Act} {w : World} {T : Bool × List (List Nat × List Nat)} {B : List Nat}
theorem pu (i N : Nat) (hT : Aside0 (rtab md ops = T)) (h : wpAnyLast P md ops Q S ds fuel (l.setIfInBounds i true) a' w)
    (hk : anyT T l.toList (l.setIfInBounds i true).toList i = true := by kernel_rfl) (hi : ops[i]? = some oi := by rfl) (hN : oi.dst = some N := by rfl) (hQ : ∀ c a w, Q (.panic c) (a.put oi.dst v) w → Q (.panic c) a w := by exact fun _ _ _ h => h)
    (hw : Region.wanted oi (yielded ops a.tmps) = true := by rfl) (hv : ∀ w', (execOp a.eval oi).run P w' = .ok (.value v) w' := by intro w'; go_simp; with_reducible rfl)
    (ha : a.put (some N) v = a' := by simp only [Act.put, List.setIfInBounds_toArray, List.set_cons_zero, List.set_cons_succ, i64_w, i32_w]; rfl) : wpAnyLast P md ops Q S ds (fuel + 1) l a w :=
  pure_ (l.setIfInBounds i true) hi hN (any_of hT.out hk) hQ (.inl ⟨hw, hv⟩) ha h
theorem of (i N : Nat) (hT : Aside0 (rtab md ops = T)) (h : wpAnyLast P md ops Q S ds fuel (l.setIfInBounds i true) a' w)
    (hk : anyT T l.toList (l.setIfInBounds i true).toList i = true := by kernel_rfl) (hi : ops[i]? = some oi := by rfl) (hN : oi.dst = some N := by rfl) (hQ : ∀ c a w, Q (.panic c) (a.put oi.dst undef) w → Q (.panic c) a w := by exact fun _ _ _ h => h)
    (hw : Region.wanted oi (yielded ops a.tmps) = false := by rfl)
    (ha : a.put (some N) undef = a' := by simp only [Act.put, List.setIfInBounds_toArray, List.set_cons_zero, List.set_cons_succ, i64_w, i32_w]; rfl) : wpAnyLast P md ops Q S ds (fuel + 1) l a w :=
  pure_ (l.setIfInBounds i true) hi hN (any_of hT.out hk) hQ (.inr ⟨hw, rfl⟩) ha h
theorem tk (i N : Nat) (hT : Aside0 (rtab md ops = T)) (hB : Aside0 (waitsOk T.2 B = true)) (hS : S w) (h : wpAnyLast P md ops Q S ds fuel (l.setIfInBounds i true) a' w)
    (hk : takeW T B ds l.toList (l.setIfInBounds i true).toList i = true := by kernel_rfl) (hi : ops[i]? = some oi := by rfl) (hN : oi.dst = some N := by rfl) (hQ : ∀ c a w, Q (.panic c) (a.put oi.dst v) w → Q (.panic c) a w := by exact fun _ _ _ h => h)
    (hw : Region.wanted oi (yielded ops a.tmps) = true := by rfl) (hv : ∀ w', S w' → (execOp a.eval oi).run P w' = .ok (.value v) w' := by intro w' hs_; go_simp; with_reducible rfl)
    (ha : a.put (some N) v = a' := by simp only [Act.put, List.setIfInBounds_toArray, List.set_cons_zero, List.set_cons_succ, i64_w, i32_w]; rfl) : wpAnyLast P md ops Q S ds (fuel + 1) l a w :=
  take_ (l.setIfInBounds i true) hi hN (take_ofW hT.out hB.out hk) hQ (.inl ⟨hw, hv⟩) hS ha h
end
end Go.Proofs.YtmgeffgcihfpcaaDoor.SQ

namespace Go.Proofs.YtmgeffgcihfpcaaDoor.F
open Go.Proofs.YtmgeffgcihfpcaaDoor
open Go.RowKit Go.Proofs.YtmgeffgcihfpcaaDoorW.PrintWords Go.Proofs.YtmgeffgcihfpcaaDoorW.PrintWords.Kd Go.Proofs.YtmgeffgcihfpcaaDoorW.PrintMore.Kd Go.Proofs.YtmgeffgcihfpcaaDoorW.PrintLast Go.Proofs.YtmgeffgcihfpcaaDoorW.PrintMore
attribute [local go_sem] max2_int min2_int max_two min_two max_three min_three max_four min_four   -- for this text's walks alone
set_option linter.unusedVariables false
set_option linter.unusedSimpArgs false
def impl_copyDisk.l0 : Nat → List (S74) → Int → Int → List (S74) → Option ((List (S74)))
 | 0, _, _, _, _ => none
 | k + 1, x8, x9, x10, x231000 => if x10 < x9 then (if 0 ≤ x10 then (if x10 < (x8.length : Int) then ((some (([] : List Int) : List Int)).bind fun y233 => (if y233.length + ((rd_T74 x8 x10).f1).length < 140737488355328 then ((some (([] : List Int) : List Int)).bind fun y239 => (if y239.length + ((rd_T74 x8 x10).f2).length < 140737488355328 then (if x231000.length < 2199023255552 then (impl_copyDisk.l0 k x8 x9 (wrap64 (x10 + 1)) (x231000 ++ [(⟨(rd_T74 x8 x10).f0, (y233 ++ ((rd_T74 x8 x10).f1)), (y239 ++ ((rd_T74 x8 x10).f2))⟩ : S74)])) else (none)) else (none))) else (none))) else (none)) else (none)) else (some x231000)
def impl_copyDisk.f (k : Nat) (l0_0 : List (S74)) : Option ((List (S74))) := impl_copyDisk.l0 k l0_0 (l0_0.length : Int) 0 ([] : List (S74))
def impl_copyDisk.T5 : Bool × List (List Nat × List Nat) := (true, [([], []), ([0], [0]), ([], []), ([2], [2]), ([], []), ([], []), ([5], [5]), ([4, 6], [4, 6]), ([], []), ([], []), ([9], [9]), ([8, 10, 7], [8, 10]), ([3, 7, 11], [3, 7, 11]), ([12], [12]), ([1, 13, 11], [1, 13]), ([0, 1, 2, 3, 4, 5, 6, 7, 8, 9, 10, 11, 12, 13, 14], []), ([15, 14, 14, 0, 1, 2, 3, 4, 5, 6, 7, 8, 9, 10, 11, 12, 13, 14], [14, 15])])
def impl_copyDisk.B5 : List Nat := [0, 1, 0, 4, 0, 0, 32, 112, 0, 0, 512, 2032, 4092, 8188, 16383, 32767, 65535]
theorem impl_copyDisk.tab5 : rtab .any (opsOf Tryd.f76 5) = impl_copyDisk.T5 := by kernel_rfl
theorem impl_copyDisk.bits5 : waitsOk impl_copyDisk.T5.2 impl_copyDisk.B5 = true := by kernel_rfl
set_option maxHeartbeats 8000000 in
set_option maxRecDepth 100000 in
theorem impl_copyDisk.calls (k : Nat) (A0_0 : Option Addr) (c0_0 : Nat) (l0_0 : List (S74)) (r : List (S74)) (w : World) (hr0_0 : Kd.C k74 w A0_0 l0_0.length l0_0) (hc0_0 : l0_0.length ≤ c0_0) (h : impl_copyDisk.f k l0_0 = some r) :
  Calls Tryd.prog 76 #[.agg #[.slice A0_0 l0_0.length c0_0]] w fun e w' => ∃ v0_ : Value, e = .returned (.agg #[v0_]) ∧ Kd.S k74 74 w' w.heap.size (fun _ => True) v0_ r ∧ Below w.heap.size w w' := by
 have hu29 := Tryd.underlying29
 have hu74 := Tryd.underlying74
 have HR0_0 := Zh hr0_0
 have HC0_0 := Zh hc0_0
 clear hr0_0 hc0_0
 have HB := Zh (Below.refl w.heap.size w)
 have H : (impl_copyDisk.l0 k l0_0 (l0_0.length : Int) 0 ([] : List (S74))) = some r := h
 clear h
 have H' := Zh H
 clear H
 go_enter Tryd.func76, Tryd.ntmps76
 go_wp2_with (first | ((with_reducible refine gate_dst (N := 1) rfl ?_); refine box_event ?hg (N := 1) ?hd (cs := #[.slice A0_0 l0_0.length c0_0]) (t := 29) ?hr ?_; (case hd => rfl); (case hg => rfl); (case hr => first | (go_simp; done) | (go_simp; rfl)); intro gb228 hg w2 hbox hb; have BK228 := Zh (hbox); have GW228 := Zh ((by rw [hg]; exact (below_size Zs) : w.heap.size ≤ gb228)); have GE228 := Zh ((by rw [hg]; exact (below_size Zs) : w.heap.size ≤ gb228)); replace HB := Zh (Zl Zs hb); clear hb hbox hg) | ((with_reducible refine gate_dst (N := 2) rfl ?_); refine box_event ?hg (N := 2) ?hd (cs := #[.slice none 0 0]) (t := 29) ?hr ?_; (case hd => rfl); (case hg => rfl); (case hr => first | (go_simp; done) | (go_simp; rfl)); intro gb229 hg w3 hbox hb; have BK229 := Zh (hbox); have GW229 := Zh ((by rw [hg]; exact (below_size Zs) : w.heap.size ≤ gb229)); have GE229 := Zh ((by rw [hg]; exact (below_size Zs) : w.heap.size ≤ gb229)); replace HB := Zh (Zl Zs hb); have NB228_229 := Zh ((by rw [hg]; exact Nat.ne_of_lt (blk_lt (g := gb228) (o := .cells #[.slice A0_0 l0_0.length c0_0] 29 (0, 0)) Zk) : gb228 ≠ gb229)); have NB229_228 := Zh ((by rw [hg]; exact Nat.ne_of_gt (blk_lt (g := gb228) (o := .cells #[.slice A0_0 l0_0.length c0_0] 29 (0, 0)) Zk) : gb229 ≠ gb228)); replace BK228 := Zh (Zm (g := gb228) (o := .cells #[.slice A0_0 l0_0.length c0_0] 29 (0, 0)) Zk hb); clear hb hbox hg) | ((with_reducible refine gate_dst (N := 3) rfl ?_); refine box_event ?hg (N := 3) ?hd (cs := #[.slice none 0 0]) (t := 29) ?hr ?_; (case hd => rfl); (case hg => rfl); (case hr => first | (go_simp; done) | (go_simp; rfl)); intro gb230 hg w4 hbox hb; have BK230 := Zh (hbox); have GW230 := Zh ((by rw [hg]; exact (below_size Zs) : w.heap.size ≤ gb230)); have GE230 := Zh ((by rw [hg]; exact (below_size Zs) : w.heap.size ≤ gb230)); replace HB := Zh (Zl Zs hb); have NB228_230 := Zh ((by rw [hg]; exact Nat.ne_of_lt (blk_lt (g := gb228) (o := .cells #[.slice A0_0 l0_0.length c0_0] 29 (0, 0)) Zk) : gb228 ≠ gb230)); have NB230_228 := Zh ((by rw [hg]; exact Nat.ne_of_gt (blk_lt (g := gb228) (o := .cells #[.slice A0_0 l0_0.length c0_0] 29 (0, 0)) Zk) : gb230 ≠ gb228)); replace BK228 := Zh (Zm (g := gb228) (o := .cells #[.slice A0_0 l0_0.length c0_0] 29 (0, 0)) Zk hb); have NB229_230 := Zh ((by rw [hg]; exact Nat.ne_of_lt (blk_lt (g := gb229) (o := .cells #[.slice none 0 0] 29 (0, 0)) Zk) : gb229 ≠ gb230)); have NB230_229 := Zh ((by rw [hg]; exact Nat.ne_of_gt (blk_lt (g := gb229) (o := .cells #[.slice none 0 0] 29 (0, 0)) Zk) : gb230 ≠ gb229)); replace BK229 := Zh (Zm (g := gb229) (o := .cells #[.slice none 0 0] 29 (0, 0)) Zk hb); clear hb hbox hg; have hnb5 := NB230_228.out; have hnc5 := NB228_230.out; have hnb6 := NB230_229.out; have hnc6 := NB229_230.out; have hcz7_0 : w4.cell? ⟨gb230, 0, none⟩ = some (.slice none 0 0) := (blk_cell BK230.out 0).trans rfl; have hfz7_0 := Zn BK230.out 0; have hnb8 := NB228_229.out; have hnc8 := NB229_228.out; have hcz9_0 : w4.cell? ⟨gb228, 0, none⟩ = some (.slice A0_0 l0_0.length c0_0) := (blk_cell BK228.out 0).trans rfl; have hfz9_0 := Zn BK228.out 0))
 go_loopg [10] k (fun kq v10 w' => ∃ (x10_1 : Int) (x231000_1 : List (S74)) (u231000 : Value), v10 = .int .i64 x10_1 ∧ Aside0 (impl_copyDisk.l0 kq l0_0 (l0_0.length : Int) x10_1 x231000_1 = some r) ∧ Aside0 (kq ≤ k) ∧ Aside0 (Kd.S k74 74 w' w.heap.size (fun _ => True) u231000 x231000_1) ∧ Aside0 (w'.heap[gb228]? = some (.cells #[(.slice A0_0 l0_0.length c0_0)] 29 (0, 0))) ∧ Aside0 (w'.heap[gb229]? = some (.cells #[(.slice none 0 0)] 29 (0, 0))) ∧ Aside0 (w'.heap[gb230]? = some (.cells #[u231000] 29 (0, 0))) ∧ Aside0 (Below w.heap.size w w'))
 case atStart => exact ⟨(0), (([] : List (S74))), (.slice none 0 0), (by first | rfl | (simp; done) | (simp [*]; done)), H', ⟨Nat.le_refl _⟩, ⟨by first | exact S_nil _ _ _ _ _ | exact N_nil _ _ _ _ _ | exact V_nil _ _ _ _ _ | exact Q_nil _ _ _ _ _ | exact R_nil _ _ _ _ _⟩, ⟨by (with_reducible repeat (first | refine Za ?_ _ | refine Zb ?_ | refine blk_alloc ?_ _)); refine blk_far ?_ NB228_230.out _; (with_reducible repeat (first | refine Za ?_ _ | refine Zb ?_ | refine blk_alloc ?_ _)); exact BK228.out⟩, ⟨by (with_reducible repeat (first | refine Za ?_ _ | refine Zb ?_ | refine blk_alloc ?_ _)); refine blk_far ?_ NB229_230.out _; (with_reducible repeat (first | refine Za ?_ _ | refine Zb ?_ | refine blk_alloc ?_ _)); exact BK229.out⟩, ⟨by (with_reducible repeat (first | refine Za ?_ _ | refine Zb ?_ | refine blk_alloc ?_ _)); refine blk_put (cs := #[.slice none 0 0]) ?_ 0 _ rfl; (with_reducible repeat (first | refine Za ?_ _ | refine Zb ?_ | refine blk_alloc ?_ _)); exact BK230.out⟩, ⟨Zs⟩⟩
 case round =>
  clear H'
  try clear p2
  try clear c5
  try clear c6
  try clear c7
  try clear c8
  try clear hcz7_0
  try clear hcz9_0
  try clear hfz7_0
  try clear hfz9_0
  obtain ⟨x10_1, x231000_1, u231000, rfl, HA, HK1, HO_231000, BK228, BK229, BK230, HB⟩ := hrel
  cases gk with
  | zero => exact absurd HA.out (by simp [impl_copyDisk.l0])
  | succ k1 =>
   have H := HA.out
   clear HA
   simp only [impl_copyDisk.l0] at H
   by_cases c10 : x10_1 < (l0_0.length : Int)
   ·
    rw [if_pos c10] at H
    have c10b0 : decide (x10_1 < (l0_0.length : Int)) = true := decide_eq_true c10
    clear c10
    by_cases c11 : 0 ≤ x10_1
    ·
     rw [if_pos c11] at H
     have c11b0 : decide (0 ≤ x10_1) = true := decide_eq_true c11
     clear c11
     by_cases c12 : x10_1 < (l0_0.length : Int)
     ·
      rw [if_pos c12] at H
      have c12b0 : decide (x10_1 < (l0_0.length : Int)) = true := decide_eq_true c12
      clear c12
      obtain ⟨y233, hy233⟩ : ∃ y_ : List Int, y_ = (([] : List Int)) := ⟨_, rfl⟩
      replace H : (if y233.length + ((rd_T74 l0_0 x10_1).f1).length < 140737488355328 then ((some (([] : List Int) : List Int)).bind fun y239 => (if y239.length + ((rd_T74 l0_0 x10_1).f2).length < 140737488355328 then (if x231000_1.length < 2199023255552 then (impl_copyDisk.l0 k1 l0_0 (l0_0.length : Int) (wrap64 (x10_1 + 1)) (x231000_1 ++ [(⟨(rd_T74 l0_0 x10_1).f0, (y233 ++ ((rd_T74 l0_0 x10_1).f1)), (y239 ++ ((rd_T74 l0_0 x10_1).f2))⟩ : S74)])) else (none)) else (none))) else (none)) = some r := by first | (rw [hy233]; with_reducible exact H) | (have H2_ := (Option.bind_some _ _).symm.trans H; rw [hy233]; with_reducible exact H2_) | (have H2_ := (Option.bind_some _ _).symm.trans H; with_reducible exact H2_) | with_reducible exact H | (rw [hy233]; exact H) | exact H
      have Ny233 := Zh hy233
      clear hy233
      by_cases c13 : y233.length + ((rd_T74 l0_0 x10_1).f1).length < 140737488355328
      ·
       rw [if_pos c13] at H
       have LMc13 := Zh c13
       clear c13
       obtain ⟨y236, hy236⟩ : ∃ y_ : List Int, y_ = (y233 ++ ((rd_T74 l0_0 x10_1).f1)) := ⟨_, rfl⟩
       replace H : ((some (([] : List Int) : List Int)).bind fun y239 => (if y239.length + ((rd_T74 l0_0 x10_1).f2).length < 140737488355328 then (if x231000_1.length < 2199023255552 then (impl_copyDisk.l0 k1 l0_0 (l0_0.length : Int) (wrap64 (x10_1 + 1)) (x231000_1 ++ [(⟨(rd_T74 l0_0 x10_1).f0, y236, (y239 ++ ((rd_T74 l0_0 x10_1).f2))⟩ : S74)])) else (none)) else (none))) = some r := by first | (rw [hy236]; with_reducible exact H) | (have H2_ := (Option.bind_some _ _).symm.trans H; rw [hy236]; with_reducible exact H2_) | (have H2_ := (Option.bind_some _ _).symm.trans H; with_reducible exact H2_) | with_reducible exact H | (rw [hy236]; exact H) | exact H
       have Ny236 := Zh hy236
       clear hy236
       obtain ⟨y239, hy239⟩ : ∃ y_ : List Int, y_ = (([] : List Int)) := ⟨_, rfl⟩
       replace H : (if y239.length + ((rd_T74 l0_0 x10_1).f2).length < 140737488355328 then (if x231000_1.length < 2199023255552 then (impl_copyDisk.l0 k1 l0_0 (l0_0.length : Int) (wrap64 (x10_1 + 1)) (x231000_1 ++ [(⟨(rd_T74 l0_0 x10_1).f0, y236, (y239 ++ ((rd_T74 l0_0 x10_1).f2))⟩ : S74)])) else (none)) else (none)) = some r := by first | (rw [hy239]; with_reducible exact H) | (have H2_ := (Option.bind_some _ _).symm.trans H; rw [hy239]; with_reducible exact H2_) | (have H2_ := (Option.bind_some _ _).symm.trans H; with_reducible exact H2_) | with_reducible exact H | (rw [hy239]; exact H) | exact H
       have Ny239 := Zh hy239
       clear hy239
       by_cases c14 : y239.length + ((rd_T74 l0_0 x10_1).f2).length < 140737488355328
       ·
        rw [if_pos c14] at H
        have LMc14 := Zh c14
        clear c14
        obtain ⟨y242, hy242⟩ : ∃ y_ : List Int, y_ = (y239 ++ ((rd_T74 l0_0 x10_1).f2)) := ⟨_, rfl⟩
        replace H : (if x231000_1.length < 2199023255552 then (impl_copyDisk.l0 k1 l0_0 (l0_0.length : Int) (wrap64 (x10_1 + 1)) (x231000_1 ++ [(⟨(rd_T74 l0_0 x10_1).f0, y236, y242⟩ : S74)])) else (none)) = some r := by first | (rw [hy242]; with_reducible exact H) | (have H2_ := (Option.bind_some _ _).symm.trans H; rw [hy242]; with_reducible exact H2_) | (have H2_ := (Option.bind_some _ _).symm.trans H; with_reducible exact H2_) | with_reducible exact H | (rw [hy242]; exact H) | exact H
        have Ny242 := Zh hy242
        clear hy242
        by_cases c15 : x231000_1.length < 2199023255552
        ·
         rw [if_pos c15] at H
         have LMc15 := Zh c15
         clear c15
         obtain ⟨y245, hy245⟩ : ∃ y_ : List (S74), y_ = (x231000_1 ++ [(⟨(rd_T74 l0_0 x10_1).f0, y236, y242⟩ : S74)]) := ⟨_, rfl⟩
         replace H : (impl_copyDisk.l0 k1 l0_0 (l0_0.length : Int) (wrap64 (x10_1 + 1)) y245) = some r := by first | (rw [hy245]; with_reducible exact H) | (have H2_ := (Option.bind_some _ _).symm.trans H; rw [hy245]; with_reducible exact H2_) | (have H2_ := (Option.bind_some _ _).symm.trans H; with_reducible exact H2_) | with_reducible exact H | (rw [hy245]; exact H) | exact H
         have Ny245 := Zh hy245
         clear hy245
         have H' := Zh H
         clear H
         have p231 : 0 ≤ (x10_1 : Int) := Zo
         have q231 : x10_1 < (l0_0.length : Int) := Zo
         obtain ⟨ad231, A231_1, c231_1, A231_2, c231_2, e231, hx231_0, hx231_1, hx231_2, hl231_1, hi231_1, hl231_2, hi231_2⟩ := at_T74 HR0_0.out x10_1 p231 q231
         cases e231
         replace hx231_0 := Zc HB.out hx231_0
         replace hx231_1 := Zc HB.out hx231_1
         replace hx231_2 := Zc HB.out hx231_2
         have HR231_1 := Zh hi231_1
         have HC231_1 := Zh hl231_1
         clear hi231_1 hl231_1
         have HR231_2 := Zh hi231_2
         have HC231_2 := Zh hl231_2
         clear hi231_2 hl231_2
         replace p231 := eq_true p231
         replace q231 := eq_true q231
         try go_wp2_with (first | ((with_reducible refine gate_dst (N := 5) rfl ?_); refine box_event ?hg (N := 5) ?hd (cs := #[.string (⟨#[]⟩ : ByteArray), .slice none 0 0, .slice none 0 0]) (t := 74) ?hr ?_; (case hd => rfl); (case hg => rfl); (case hr => first | (go_simp; done) | (go_simp; rfl)); intro gb232 hg w16 hbox hb; replace HO_231000 := Zh (S_below (S_elderB (ZS HO_231000.out) gb232 (Nat.le_of_eq hg.symm)) hb); have BK232 := Zh (hbox); have GW232 := Zh ((by rw [hg]; exact (below_size Zs) : w.heap.size ≤ gb232)); have GE232 := Zh ((by rw [hg]; exact (below_size Zs) : w.heap.size ≤ gb232)); replace HB := Zh (Zl Zs hb); have NB228_232 := Zh ((by rw [hg]; exact Nat.ne_of_lt (blk_lt (g := gb228) (o := .cells #[.slice (some ad231) l0_0.length c0_0] 29 (0, 0)) Zk) : gb228 ≠ gb232)); have NB232_228 := Zh ((by rw [hg]; exact Nat.ne_of_gt (blk_lt (g := gb228) (o := .cells #[.slice (some ad231) l0_0.length c0_0] 29 (0, 0)) Zk) : gb232 ≠ gb228)); replace BK228 := Zh (Zm (g := gb228) (o := .cells #[.slice (some ad231) l0_0.length c0_0] 29 (0, 0)) Zk hb); have NB229_232 := Zh ((by rw [hg]; exact Nat.ne_of_lt (blk_lt (g := gb229) (o := .cells #[.slice none 0 0] 29 (0, 0)) Zk) : gb229 ≠ gb232)); have NB232_229 := Zh ((by rw [hg]; exact Nat.ne_of_gt (blk_lt (g := gb229) (o := .cells #[.slice none 0 0] 29 (0, 0)) Zk) : gb232 ≠ gb229)); replace BK229 := Zh (Zm (g := gb229) (o := .cells #[.slice none 0 0] 29 (0, 0)) Zk hb); have NB230_232 := Zh ((by rw [hg]; exact Nat.ne_of_lt (blk_lt (g := gb230) (o := .cells #[u231000] 29 (0, 0)) Zk) : gb230 ≠ gb232)); have NB232_230 := Zh ((by rw [hg]; exact Nat.ne_of_gt (blk_lt (g := gb230) (o := .cells #[u231000] 29 (0, 0)) Zk) : gb232 ≠ gb230)); replace BK230 := Zh (Zm (g := gb230) (o := .cells #[u231000] 29 (0, 0)) Zk hb); clear hb hbox hg; have hnb17 := NB232_228.out; have hnc17 := NB228_232.out; have hnb18 := NB232_229.out; have hnc18 := NB229_232.out; have hnb19 := NB232_230.out; have hnc19 := NB230_232.out; have hcz20_0 : w16.cell? ⟨gb232, 0, none⟩ = some (.string (⟨#[]⟩ : ByteArray)) := (blk_cell BK232.out 0).trans rfl; have hcz20_1 : w16.cell? ⟨gb232, 1, none⟩ = some (.slice none 0 0) := (blk_cell BK232.out 1).trans rfl; have hcz20_2 : w16.cell? ⟨gb232, 2, none⟩ = some (.slice none 0 0) := (blk_cell BK232.out 2).trans rfl; have hfz20_0 := Zn BK232.out 0; have hfz20_1 := Zn BK232.out 1; have hfz20_2 := Zn BK232.out 2; obtain ⟨Ao21, co21, eo21⟩ := S_slice HO_231000.out; subst eo21))
         have n0_ : Aside0 (Kd.S k74 74 (((w16.setCell ⟨gb232, 0, none⟩ (.string ((rd_T74 l0_0 x10_1).f0))).setCell ⟨gb232, 1, none⟩ (.slice A231_1 ((rd_T74 l0_0 x10_1).f1).length c231_1)).setCell ⟨gb232, 2, none⟩ (.slice A231_2 ((rd_T74 l0_0 x10_1).f2).length c231_2)) w.heap.size (fun k_ => k_ ≠ gb232) (.slice Ao21 x231000_1.length co21) x231000_1) := ⟨ZS (S_mono (S_far (p := ⟨gb232, 2, none⟩) (S_far (p := ⟨gb232, 1, none⟩) (S_far (p := ⟨gb232, 0, none⟩) (S_mono HO_231000.out (fun k_ hk => (⟨hk, hk.2⟩ : _ ∧ k_ ≠ gb232))) (fun _ hk => hk.2) (.string ((rd_T74 l0_0 x10_1).f0))) (fun _ hk => hk.2) (.slice A231_1 ((rd_T74 l0_0 x10_1).f1).length c231_1)) (fun _ hk => hk.2) (.slice A231_2 ((rd_T74 l0_0 x10_1).f2).length c231_2)) (fun _ hk => hk.1.2))⟩
         have n1_ : Aside0 ((((w16.setCell ⟨gb232, 0, none⟩ (.string ((rd_T74 l0_0 x10_1).f0))).setCell ⟨gb232, 1, none⟩ (.slice A231_1 ((rd_T74 l0_0 x10_1).f1).length c231_1)).setCell ⟨gb232, 2, none⟩ (.slice A231_2 ((rd_T74 l0_0 x10_1).f2).length c231_2)).heap[gb228]? = some (.cells #[.slice (some ad231) l0_0.length c0_0] 29 (0, 0))) := ⟨by (with_reducible repeat (first | refine Za ?_ _ | refine Zb ?_ | refine blk_alloc ?_ _)); refine blk_far ?_ NB228_232.out _; (with_reducible repeat (first | refine Za ?_ _ | refine Zb ?_ | refine blk_alloc ?_ _)); refine blk_far ?_ NB228_232.out _; (with_reducible repeat (first | refine Za ?_ _ | refine Zb ?_ | refine blk_alloc ?_ _)); refine blk_far ?_ NB228_232.out _; (with_reducible repeat (first | refine Za ?_ _ | refine Zb ?_ | refine blk_alloc ?_ _)); exact BK228.out⟩
         have n2_ : Aside0 ((((w16.setCell ⟨gb232, 0, none⟩ (.string ((rd_T74 l0_0 x10_1).f0))).setCell ⟨gb232, 1, none⟩ (.slice A231_1 ((rd_T74 l0_0 x10_1).f1).length c231_1)).setCell ⟨gb232, 2, none⟩ (.slice A231_2 ((rd_T74 l0_0 x10_1).f2).length c231_2)).heap[gb229]? = some (.cells #[.slice none 0 0] 29 (0, 0))) := ⟨by (with_reducible repeat (first | refine Za ?_ _ | refine Zb ?_ | refine blk_alloc ?_ _)); refine blk_far ?_ NB229_232.out _; (with_reducible repeat (first | refine Za ?_ _ | refine Zb ?_ | refine blk_alloc ?_ _)); refine blk_far ?_ NB229_232.out _; (with_reducible repeat (first | refine Za ?_ _ | refine Zb ?_ | refine blk_alloc ?_ _)); refine blk_far ?_ NB229_232.out _; (with_reducible repeat (first | refine Za ?_ _ | refine Zb ?_ | refine blk_alloc ?_ _)); exact BK229.out⟩
         have n3_ : Aside0 ((((w16.setCell ⟨gb232, 0, none⟩ (.string ((rd_T74 l0_0 x10_1).f0))).setCell ⟨gb232, 1, none⟩ (.slice A231_1 ((rd_T74 l0_0 x10_1).f1).length c231_1)).setCell ⟨gb232, 2, none⟩ (.slice A231_2 ((rd_T74 l0_0 x10_1).f2).length c231_2)).heap[gb230]? = some (.cells #[.slice Ao21 x231000_1.length co21] 29 (0, 0))) := ⟨by (with_reducible repeat (first | refine Za ?_ _ | refine Zb ?_ | refine blk_alloc ?_ _)); refine blk_far ?_ NB230_232.out _; (with_reducible repeat (first | refine Za ?_ _ | refine Zb ?_ | refine blk_alloc ?_ _)); refine blk_far ?_ NB230_232.out _; (with_reducible repeat (first | refine Za ?_ _ | refine Zb ?_ | refine blk_alloc ?_ _)); refine blk_far ?_ NB230_232.out _; (with_reducible repeat (first | refine Za ?_ _ | refine Zb ?_ | refine blk_alloc ?_ _)); exact BK230.out⟩
         have n4_ : Aside0 ((((w16.setCell ⟨gb232, 0, none⟩ (.string ((rd_T74 l0_0 x10_1).f0))).setCell ⟨gb232, 1, none⟩ (.slice A231_1 ((rd_T74 l0_0 x10_1).f1).length c231_1)).setCell ⟨gb232, 2, none⟩ (.slice A231_2 ((rd_T74 l0_0 x10_1).f2).length c231_2)).heap[gb232]? = some (.cells #[.string ((rd_T74 l0_0 x10_1).f0), .slice A231_1 ((rd_T74 l0_0 x10_1).f1).length c231_1, .slice A231_2 ((rd_T74 l0_0 x10_1).f2).length c231_2] 74 (0, 0))) := ⟨by (with_reducible repeat (first | refine Za ?_ _ | refine Zb ?_ | refine blk_alloc ?_ _)); refine blk_put (cs := #[.string ((rd_T74 l0_0 x10_1).f0), .slice A231_1 ((rd_T74 l0_0 x10_1).f1).length c231_1, .slice none 0 0]) ?_ 2 _ rfl; (with_reducible repeat (first | refine Za ?_ _ | refine Zb ?_ | refine blk_alloc ?_ _)); refine blk_put (cs := #[.string ((rd_T74 l0_0 x10_1).f0), .slice none 0 0, .slice none 0 0]) ?_ 1 _ rfl; (with_reducible repeat (first | refine Za ?_ _ | refine Zb ?_ | refine blk_alloc ?_ _)); refine blk_put (cs := #[.string (⟨#[]⟩ : ByteArray), .slice none 0 0, .slice none 0 0]) ?_ 0 _ rfl; (with_reducible repeat (first | refine Za ?_ _ | refine Zb ?_ | refine blk_alloc ?_ _)); exact BK232.out⟩
         have n5_ : Aside0 (Below w.heap.size w (((w16.setCell ⟨gb232, 0, none⟩ (.string ((rd_T74 l0_0 x10_1).f0))).setCell ⟨gb232, 1, none⟩ (.slice A231_1 ((rd_T74 l0_0 x10_1).f1).length c231_1)).setCell ⟨gb232, 2, none⟩ (.slice A231_2 ((rd_T74 l0_0 x10_1).f2).length c231_2))) := ⟨Zs⟩
         (try clear HO_231000)
         (try clear BK228)
         (try clear BK229)
         (try clear BK230)
         (try clear BK232)
         (try clear HB)
         generalize (((w16.setCell ⟨gb232, 0, none⟩ (.string ((rd_T74 l0_0 x10_1).f0))).setCell ⟨gb232, 1, none⟩ (.slice A231_1 ((rd_T74 l0_0 x10_1).f1).length c231_1)).setCell ⟨gb232, 2, none⟩ (.slice A231_2 ((rd_T74 l0_0 x10_1).f2).length c231_2)) = w22 at n0_ n1_ n2_ n3_ n4_ n5_ ⊢
         have HO_231000 := n0_
         have BK228 := n1_
         have BK229 := n2_
         have BK230 := n3_
         have BK232 := n4_
         have HB := n5_
         clear n0_ n1_ n2_ n3_ n4_ n5_
         replace HO_231000 := Zh (S_drew HO_231000.out)
         replace BK228 := Zh (Zb BK228.out)
         replace BK229 := Zh (Zb BK229.out)
         replace BK230 := Zh (Zb BK230.out)
         replace BK232 := Zh (Zb BK232.out)
         replace HB := Zh (Ze HB.out)
         refine start_ (n := 17) (S := fun w' => w'.cell? ⟨gb230, 0, none⟩ = some (.slice Ao21 x231000_1.length co21) ∧ w'.cell? ⟨gb232, 0, none⟩ = some (.string ((rd_T74 l0_0 x10_1).f0)) ∧ w'.cell? ⟨gb232, 1, none⟩ = some (.slice A231_1 ((rd_T74 l0_0 x10_1).f1).length c231_1) ∧ w'.cell? ⟨gb232, 2, none⟩ = some (.slice A231_2 ((rd_T74 l0_0 x10_1).f2).length c231_2)) (ds := [16]) #[false, false, false, false, false, false, false, false, false, false, false, false, false, false, false, false, false] (by kernel_rfl) rfl rfl ⟨(blk_cell BK230.out 0).trans rfl, (blk_cell BK232.out 0).trans rfl, (blk_cell BK232.out 1).trans rfl, (blk_cell BK232.out 2).trans rfl⟩ (fun hHeld => ?_); refine with_tabW impl_copyDisk.tab5 impl_copyDisk.bits5 (fun HT_ HW_ => ?_)
         generalize w22.drew = w23 at HO_231000 BK228 BK229 BK230 BK232 HB hHeld ⊢
         refine SQ.pu 0 14 HT_ ?_
         refine SQ.pu 2 16 HT_ ?_
         refine SQ.pu 5 19 HT_ ?_
         refine SQ.pu 9 23 HT_ ?_
         refine SQ.tk 1 15 HT_ HW_ hHeld ?_
         refine SQ.tk 3 17 HT_ HW_ hHeld ?_
         refine SQ.tk 6 20 HT_ HW_ hHeld ?_
         refine SQ.tk 10 24 HT_ HW_ hHeld ?_
         refine join_ (σ := Value × Value × Value) 6 #[true, true, true, true, true, true, true, true, true, true, true, false, false, false, false, false, false] (fun s_ => [(18, s_.1), (21, s_.2.1), (22, s_.2.2)]) (fun s_ w' => (w'.cell? ⟨gb230, 0, none⟩ = some (.slice Ao21 x231000_1.length co21) ∧ w'.cell? ⟨gb232, 0, none⟩ = some (.string ((rd_T74 l0_0 x10_1).f0)) ∧ w'.cell? ⟨gb232, 1, none⟩ = some (.slice A231_1 ((rd_T74 l0_0 x10_1).f1).length c231_1) ∧ w'.cell? ⟨gb232, 2, none⟩ = some (.slice A231_2 ((rd_T74 l0_0 x10_1).f2).length c231_2)) ∧ (Kd.R (Kd.int .u8) 5 w' w.heap.size (fun k_ => some k_ ≠ (s_.2.2 : Value).ownBlock) s_.2.1 y236) ∧ (Kd.R (Kd.int .u8) 5 w' w.heap.size (fun k_ => some k_ ≠ (s_.2.1 : Value).ownBlock) s_.2.2 y239) ∧ (Kd.S k74 74 w' w.heap.size (fun k_ => some k_ ≠ (s_.2.1 : Value).ownBlock ∧ some k_ ≠ (s_.2.2 : Value).ownBlock ∧ k_ ≠ gb232) (.slice Ao21 x231000_1.length co21) x231000_1) ∧ (w'.heap[gb228]? = some (.cells #[.slice (some ad231) l0_0.length c0_0] 29 (0, 0))) ∧ (w'.heap[gb229]? = some (.cells #[.slice none 0 0] 29 (0, 0))) ∧ (w'.heap[gb230]? = some (.cells #[.slice Ao21 x231000_1.length co21] 29 (0, 0))) ∧ (w'.heap[gb232]? = some (.cells #[.string ((rd_T74 l0_0 x10_1).f0), .slice A231_1 ((rd_T74 l0_0 x10_1).f1).length c231_1, .slice A231_2 ((rd_T74 l0_0 x10_1).f2).length c231_2] 74 (0, 0))) ∧ (Below w.heap.size w w')) ?_ ?_
         rotate_left
         ·
          intro hCont
          refine two_ (i := 4) (j := 8) (Ni := some 18) (Nj := some 22) #[true, true, true, true, true, true, true, false, false, true, true, false, false, false, false, false, false] #[true, true, true, true, false, true, true, false, true, true, true, false, false, false, false, false, false] rfl rfl rfl rfl (two_of HT_.out (by kernel_rfl)) (by decide) (by decide) (fun K hK => ?_) (fun K hK => ?_)
          ·
           skip
           refine R_lit_step (Kd.int .u8) _ 5 ?hg (N := 18) ?hd (xs := ([] : List Int)) (inner := []) (ok := fun _ => True) (okp := fun _ => True) ?hr ?hp (fun _ hk => hk) trivial (Below.refl _ _) (Nat.le_refl _) (by simp) ?_; (case hd => rfl); (case hg => rfl); (case hr => first | (go_simp; done) | (go_simp; rfl)); (case hp => exact (Reps.none _ _))
           intro v234 w24 ho25 hb hg_ hnew_
           clear hg_ hnew_
           (first | rw [← Ny233.out] at ho25 | (simp only [Int.reduceToNat] at ho25; rw [← Ny233.out] at ho25))
           replace HO_231000 := Zh (S_elder' (ZS HO_231000.out) (R_base ho25) hb)
           have HO235 := Zh (R_lower ho25 (below_size Zs))
           replace BK228 := Zh (Zm (g := gb228) (o := .cells #[.slice (some ad231) l0_0.length c0_0] 29 (0, 0)) Zk hb)
           replace BK229 := Zh (Zm (g := gb229) (o := .cells #[.slice none 0 0] 29 (0, 0)) Zk hb)
           replace BK230 := Zh (Zm (g := gb230) (o := .cells #[.slice Ao21 x231000_1.length co21] 29 (0, 0)) Zk hb)
           replace BK232 := Zh (Zm (g := gb232) (o := .cells #[.string ((rd_T74 l0_0 x10_1).f0), .slice A231_1 ((rd_T74 l0_0 x10_1).f1).length c231_1, .slice A231_2 ((rd_T74 l0_0 x10_1).f2).length c231_2] 74 (0, 0)) Zk hb)
           replace HB := Zh (Zl Zs hb)
           clear hb ho25
           refine hK.out _ _ ⟨(blk_cell BK230.out 0).trans rfl, (blk_cell BK232.out 0).trans rfl, (blk_cell BK232.out 1).trans rfl, (blk_cell BK232.out 2).trans rfl⟩ (fun hHeld => ?_)
           clear hK K
           refine norm_ (a' := ?_) ?_ ?_
           rotate_left
           ·
            show Act.put _ (some 18) _ = _
            simp only [Act.put, List.setIfInBounds_toArray, List.set_cons_zero, List.set_cons_succ, i64_w, i32_w]
            rfl
           refine two_ (i := 7) (j := 8) (Ni := some 21) (Nj := some 22) #[true, true, true, true, true, true, true, true, false, true, true, false, false, false, false, false, false] #[true, true, true, true, true, true, true, false, true, true, true, false, false, false, false, false, false] rfl rfl rfl rfl (two_of HT_.out (by kernel_rfl)) (by decide) (by decide) (fun K hK => ?_) (fun K hK => ?_)
           ·
            skip
            refine R_append_rows_step (Kd.int .u8) (w0 := w) w.heap.size (by rfl) (.tmp 18) (.tmp 20) 33 5 (.int .u8 0) 1 rfl Tryd.underlying33 info5 rfl (by decide) (by omega) v234 y233 ((rd_T74 l0_0 x10_1).f1) _ _ _ (fun _ => True) (fun _ => False) rfl rfl ?aO ?aR (fun _ _ h => h) (fun _ h => h.elim) ?aF ?aB ?aS ?aL ?_
            (case aR => repeat (first | exact (C_below HR231_1.out HB.out) | (with_reducible refine C_alloc ?_ _) | (with_reducible refine C_drewN ?_ _) | (with_reducible refine C_drew ?_)))
            (case aB => exact Zs)
            (case aF => exact (fun _ _ => trivial))
            (case aO => exact (ZR HO235.out))
            (case aS => exact (below_size Zs))
            (case aL => have := LMc13.out; omega)
            intro v237 w26 ho hb hg hat
            rw [← Ny236.out] at ho
            have n0_ := Zh (S_after (ok := (fun k_ => k_ ≠ gb232)) (ZS HO_231000.out) hg hat)
            have n1_ := Zh (blk_grown (g := gb228) (o := .cells #[.slice (some ad231) l0_0.length c0_0] 29 (0, 0)) Zk hg (R_ne HO235.out BK228.out (by decide)))
            have n2_ := Zh (blk_grown (g := gb229) (o := .cells #[.slice none 0 0] 29 (0, 0)) Zk hg (R_ne HO235.out BK229.out (by decide)))
            have n3_ := Zh (blk_grown (g := gb230) (o := .cells #[.slice Ao21 x231000_1.length co21] 29 (0, 0)) Zk hg (R_ne HO235.out BK230.out (by decide)))
            have n4_ := Zh (blk_grown (g := gb232) (o := .cells #[.string ((rd_T74 l0_0 x10_1).f0), .slice A231_1 ((rd_T74 l0_0 x10_1).f1).length c231_1, .slice A231_2 ((rd_T74 l0_0 x10_1).f2).length c231_2] 74 (0, 0)) Zk hg (R_ne HO235.out BK232.out (by decide)))
            have n5_ := Zh (hb)
            have n6_ := Zh (ho)
            clear HO_231000
            clear BK228
            clear BK229
            clear BK230
            clear BK232
            clear HB
            clear HO235
            have HO_231000 := n0_
            have BK228 := n1_
            have BK229 := n2_
            have BK230 := n3_
            have BK232 := n4_
            have HB := n5_
            have HO238 := n6_
            clear n0_ n1_ n2_ n3_ n4_ n5_ n6_
            clear ho hb hg hat
            refine hK.out _ _ ⟨(blk_cell BK230.out 0).trans rfl, (blk_cell BK232.out 0).trans rfl, (blk_cell BK232.out 1).trans rfl, (blk_cell BK232.out 2).trans rfl⟩ (fun hHeld => ?_)
            clear hK K
            refine norm_ (a' := ?_) ?_ ?_
            rotate_left
            ·
             show Act.put _ (some 21) _ = _
             simp only [Act.put, List.setIfInBounds_toArray, List.set_cons_zero, List.set_cons_succ, i64_w, i32_w]
             rfl
            refine one_ (i := 8) (N := some 22) #[true, true, true, true, true, true, true, true, true, true, true, false, false, false, false, false, false] rfl rfl (one_of HT_.out (by kernel_rfl)) (by decide) (fun K hK => ?_)
            refine R_lit_step (Kd.int .u8) _ 5 ?hg (N := 22) ?hd (xs := ([] : List Int)) (inner := []) (ok := fun _ => True) (okp := fun _ => True) ?hr ?hp (fun _ hk => hk) trivial (Below.refl _ _) (Nat.le_refl _) (by simp) ?_; (case hd => rfl); (case hg => rfl); (case hr => first | (go_simp; done) | (go_simp; rfl)); (case hp => exact (Reps.none _ _))
            intro v240 w27 ho28 hb hg_ hnew_
            clear hg_ hnew_
            (first | rw [← Ny239.out] at ho28 | (simp only [Int.reduceToNat] at ho28; rw [← Ny239.out] at ho28))
            replace HO_231000 := Zh (S_elder' (ZS HO_231000.out) (R_base ho28) hb)
            have HO241 := Zh (R_lower (R_new' ho28 (R_lt (ZR HO238.out))) (below_size Zs))
            replace HO238 := Zh (R_elder' (ZR HO238.out) (R_base ho28) hb)
            replace BK228 := Zh (Zm (g := gb228) (o := .cells #[.slice (some ad231) l0_0.length c0_0] 29 (0, 0)) Zk hb)
            replace BK229 := Zh (Zm (g := gb229) (o := .cells #[.slice none 0 0] 29 (0, 0)) Zk hb)
            replace BK230 := Zh (Zm (g := gb230) (o := .cells #[.slice Ao21 x231000_1.length co21] 29 (0, 0)) Zk hb)
            replace BK232 := Zh (Zm (g := gb232) (o := .cells #[.string ((rd_T74 l0_0 x10_1).f0), .slice A231_1 ((rd_T74 l0_0 x10_1).f1).length c231_1, .slice A231_2 ((rd_T74 l0_0 x10_1).f2).length c231_2] 74 (0, 0)) Zk hb)
            replace HB := Zh (Zl Zs hb)
            clear hb ho28
            refine hK.out _ _ ⟨(blk_cell BK230.out 0).trans rfl, (blk_cell BK232.out 0).trans rfl, (blk_cell BK232.out 1).trans rfl, (blk_cell BK232.out 2).trans rfl⟩ (fun hHeld => ?_)
            clear hK K
            refine norm_ (a' := ?_) ?_ ?_
            rotate_left
            ·
             show Act.put _ (some 22) _ = _
             simp only [Act.put, List.setIfInBounds_toArray, List.set_cons_zero, List.set_cons_succ, i64_w, i32_w]
             rfl
            exact norm_ (by simp only [putAll, Act.put, List.setIfInBounds_toArray, List.set_cons_zero, List.set_cons_succ]) (hCont (v234, v237, v240) _ ⟨hHeld, (ZR (R_mono HO238.out (fun _ hk => hk.2))), (ZR (R_mono HO241.out (fun _ hk => hk.2))), (ZS (S_mono HO_231000.out (fun _ hk => ⟨hk.1.2, ⟨hk.2, hk.1.1⟩⟩))), Zk, Zk, Zk, Zk, Zs⟩)
           skip
           refine R_lit_step (Kd.int .u8) _ 5 ?hg (N := 22) ?hd (xs := ([] : List Int)) (inner := []) (ok := fun _ => True) (okp := fun _ => True) ?hr ?hp (fun _ hk => hk) trivial (Below.refl _ _) (Nat.le_refl _) (by simp) ?_; (case hd => rfl); (case hg => rfl); (case hr => first | (go_simp; done) | (go_simp; rfl)); (case hp => exact (Reps.none _ _))
           intro v240 w26 ho27 hb hg_ hnew_
           clear hg_ hnew_
           (first | rw [← Ny239.out] at ho27 | (simp only [Int.reduceToNat] at ho27; rw [← Ny239.out] at ho27))
           replace HO_231000 := Zh (S_elder' (ZS HO_231000.out) (R_base ho27) hb)
           have HO241 := Zh (R_lower (R_new' ho27 (R_lt (ZR HO235.out))) (below_size Zs))
           replace HO235 := Zh (R_elder' (ZR HO235.out) (R_base ho27) hb)
           replace BK228 := Zh (Zm (g := gb228) (o := .cells #[.slice (some ad231) l0_0.length c0_0] 29 (0, 0)) Zk hb)
           replace BK229 := Zh (Zm (g := gb229) (o := .cells #[.slice none 0 0] 29 (0, 0)) Zk hb)
           replace BK230 := Zh (Zm (g := gb230) (o := .cells #[.slice Ao21 x231000_1.length co21] 29 (0, 0)) Zk hb)
           replace BK232 := Zh (Zm (g := gb232) (o := .cells #[.string ((rd_T74 l0_0 x10_1).f0), .slice A231_1 ((rd_T74 l0_0 x10_1).f1).length c231_1, .slice A231_2 ((rd_T74 l0_0 x10_1).f2).length c231_2] 74 (0, 0)) Zk hb)
           replace HB := Zh (Zl Zs hb)
           clear hb ho27
           refine hK.out _ _ ⟨(blk_cell BK230.out 0).trans rfl, (blk_cell BK232.out 0).trans rfl, (blk_cell BK232.out 1).trans rfl, (blk_cell BK232.out 2).trans rfl⟩ (fun hHeld => ?_)
           clear hK K
           refine norm_ (a' := ?_) ?_ ?_
           rotate_left
           ·
            show Act.put _ (some 22) _ = _
            simp only [Act.put, List.setIfInBounds_toArray, List.set_cons_zero, List.set_cons_succ, i64_w, i32_w]
            rfl
           refine one_ (i := 7) (N := some 21) #[true, true, true, true, true, true, true, true, true, true, true, false, false, false, false, false, false] rfl rfl (one_of HT_.out (by kernel_rfl)) (by decide) (fun K hK => ?_)
           refine R_append_rows_step (Kd.int .u8) (w0 := w) w.heap.size (by rfl) (.tmp 18) (.tmp 20) 33 5 (.int .u8 0) 1 rfl Tryd.underlying33 info5 rfl (by decide) (by omega) v234 y233 ((rd_T74 l0_0 x10_1).f1) _ _ _ (fun k_ => some k_ ≠ (v240 : Value).ownBlock) (fun _ => False) rfl rfl ?aO ?aR (fun _ _ h => h) (fun _ h => h.elim) ?aF ?aB ?aS ?aL ?_
           (case aR => repeat (first | exact (C_below HR231_1.out HB.out) | (with_reducible refine C_alloc ?_ _) | (with_reducible refine C_drewN ?_ _) | (with_reducible refine C_drew ?_)))
           (case aB => exact Zs)
           (case aF => exact (fun k_ hk => Kd.fresh' (R_lt (ZR HO241.out)) k_ hk))
           (case aO => exact (ZR (R_mono HO235.out (fun _ hk => hk.2))))
           (case aS => exact (below_size Zs))
           (case aL => have := LMc13.out; omega)
           intro v237 w28 ho hb hg hat
           rw [← Ny236.out] at ho
           have n0_ := Zh (S_after (ok := (fun k_ => some k_ ≠ (v240 : Value).ownBlock ∧ k_ ≠ gb232)) (ZS (S_mono HO_231000.out (fun _ hk => ⟨⟨hk.2, hk.1.1⟩, hk.1.2⟩))) hg hat)
           have n1_ := Zh (blk_grown (g := gb228) (o := .cells #[.slice (some ad231) l0_0.length c0_0] 29 (0, 0)) Zk hg (R_ne HO235.out BK228.out (by decide)))
           have n2_ := Zh (blk_grown (g := gb229) (o := .cells #[.slice none 0 0] 29 (0, 0)) Zk hg (R_ne HO235.out BK229.out (by decide)))
           have n3_ := Zh (blk_grown (g := gb230) (o := .cells #[.slice Ao21 x231000_1.length co21] 29 (0, 0)) Zk hg (R_ne HO235.out BK230.out (by decide)))
           have n4_ := Zh (blk_grown (g := gb232) (o := .cells #[.string ((rd_T74 l0_0 x10_1).f0), .slice A231_1 ((rd_T74 l0_0 x10_1).f1).length c231_1, .slice A231_2 ((rd_T74 l0_0 x10_1).f2).length c231_2] 74 (0, 0)) Zk hg (R_ne HO235.out BK232.out (by decide)))
           have n5_ := Zh (R_after (ok := (fun _ => True)) (ZR HO241.out) hg hat)
           have n6_ := Zh (hb)
           have n7_ := Zh (ho)
           clear HO_231000
           clear BK228
           clear BK229
           clear BK230
           clear BK232
           clear HO241
           clear HB
           clear HO235
           have HO_231000 := n0_
           have BK228 := n1_
           have BK229 := n2_
           have BK230 := n3_
           have BK232 := n4_
           have HO241 := n5_
           have HB := n6_
           have HO238 := n7_
           clear n0_ n1_ n2_ n3_ n4_ n5_ n6_ n7_
           clear ho hb hg hat
           refine hK.out _ _ ⟨(blk_cell BK230.out 0).trans rfl, (blk_cell BK232.out 0).trans rfl, (blk_cell BK232.out 1).trans rfl, (blk_cell BK232.out 2).trans rfl⟩ (fun hHeld => ?_)
           clear hK K
           refine norm_ (a' := ?_) ?_ ?_
           rotate_left
           ·
            show Act.put _ (some 21) _ = _
            simp only [Act.put, List.setIfInBounds_toArray, List.set_cons_zero, List.set_cons_succ, i64_w, i32_w]
            rfl
           exact norm_ (by simp only [putAll, Act.put, List.setIfInBounds_toArray, List.set_cons_zero, List.set_cons_succ]) (hCont (v234, v237, v240) _ ⟨hHeld, (ZR HO238.out), (ZR (R_mono HO241.out (fun _ hk => hk.2))), (ZS (S_mono HO_231000.out (fun _ hk => ⟨hk.2, ⟨hk.1.1, hk.1.2⟩⟩))), Zk, Zk, Zk, Zk, Zs⟩)
          skip
          refine R_lit_step (Kd.int .u8) _ 5 ?hg (N := 22) ?hd (xs := ([] : List Int)) (inner := []) (ok := fun _ => True) (okp := fun _ => True) ?hr ?hp (fun _ hk => hk) trivial (Below.refl _ _) (Nat.le_refl _) (by simp) ?_; (case hd => rfl); (case hg => rfl); (case hr => first | (go_simp; done) | (go_simp; rfl)); (case hp => exact (Reps.none _ _))
          intro v240 w24 ho25 hb hg_ hnew_
          clear hg_ hnew_
          (first | rw [← Ny239.out] at ho25 | (simp only [Int.reduceToNat] at ho25; rw [← Ny239.out] at ho25))
          replace HO_231000 := Zh (S_elder' (ZS HO_231000.out) (R_base ho25) hb)
          have HO241 := Zh (R_lower ho25 (below_size Zs))
          replace BK228 := Zh (Zm (g := gb228) (o := .cells #[.slice (some ad231) l0_0.length c0_0] 29 (0, 0)) Zk hb)
          replace BK229 := Zh (Zm (g := gb229) (o := .cells #[.slice none 0 0] 29 (0, 0)) Zk hb)
          replace BK230 := Zh (Zm (g := gb230) (o := .cells #[.slice Ao21 x231000_1.length co21] 29 (0, 0)) Zk hb)
          replace BK232 := Zh (Zm (g := gb232) (o := .cells #[.string ((rd_T74 l0_0 x10_1).f0), .slice A231_1 ((rd_T74 l0_0 x10_1).f1).length c231_1, .slice A231_2 ((rd_T74 l0_0 x10_1).f2).length c231_2] 74 (0, 0)) Zk hb)
          replace HB := Zh (Zl Zs hb)
          clear hb ho25
          refine hK.out _ _ ⟨(blk_cell BK230.out 0).trans rfl, (blk_cell BK232.out 0).trans rfl, (blk_cell BK232.out 1).trans rfl, (blk_cell BK232.out 2).trans rfl⟩ (fun hHeld => ?_)
          clear hK K
          refine norm_ (a' := ?_) ?_ ?_
          rotate_left
          ·
           show Act.put _ (some 22) _ = _
           simp only [Act.put, List.setIfInBounds_toArray, List.set_cons_zero, List.set_cons_succ, i64_w, i32_w]
           rfl
          refine one_ (i := 4) (N := some 18) #[true, true, true, true, true, true, true, false, true, true, true, false, false, false, false, false, false] rfl rfl (one_of HT_.out (by kernel_rfl)) (by decide) (fun K hK => ?_)
          refine R_lit_step (Kd.int .u8) _ 5 ?hg (N := 18) ?hd (xs := ([] : List Int)) (inner := []) (ok := fun _ => True) (okp := fun _ => True) ?hr ?hp (fun _ hk => hk) trivial (Below.refl _ _) (Nat.le_refl _) (by simp) ?_; (case hd => rfl); (case hg => rfl); (case hr => first | (go_simp; done) | (go_simp; rfl)); (case hp => exact (Reps.none _ _))
          intro v234 w26 ho27 hb hg_ hnew_
          clear hg_ hnew_
          (first | rw [← Ny233.out] at ho27 | (simp only [Int.reduceToNat] at ho27; rw [← Ny233.out] at ho27))
          replace HO_231000 := Zh (S_elder' (ZS HO_231000.out) (R_base ho27) hb)
          have HO235 := Zh (R_lower (R_new' ho27 (R_lt (ZR HO241.out))) (below_size Zs))
          replace HO241 := Zh (R_elder' (ZR HO241.out) (R_base ho27) hb)
          replace BK228 := Zh (Zm (g := gb228) (o := .cells #[.slice (some ad231) l0_0.length c0_0] 29 (0, 0)) Zk hb)
          replace BK229 := Zh (Zm (g := gb229) (o := .cells #[.slice none 0 0] 29 (0, 0)) Zk hb)
          replace BK230 := Zh (Zm (g := gb230) (o := .cells #[.slice Ao21 x231000_1.length co21] 29 (0, 0)) Zk hb)
          replace BK232 := Zh (Zm (g := gb232) (o := .cells #[.string ((rd_T74 l0_0 x10_1).f0), .slice A231_1 ((rd_T74 l0_0 x10_1).f1).length c231_1, .slice A231_2 ((rd_T74 l0_0 x10_1).f2).length c231_2] 74 (0, 0)) Zk hb)
          replace HB := Zh (Zl Zs hb)
          clear hb ho27
          refine hK.out _ _ ⟨(blk_cell BK230.out 0).trans rfl, (blk_cell BK232.out 0).trans rfl, (blk_cell BK232.out 1).trans rfl, (blk_cell BK232.out 2).trans rfl⟩ (fun hHeld => ?_)
          clear hK K
          refine norm_ (a' := ?_) ?_ ?_
          rotate_left
          ·
           show Act.put _ (some 18) _ = _
           simp only [Act.put, List.setIfInBounds_toArray, List.set_cons_zero, List.set_cons_succ, i64_w, i32_w]
           rfl
          refine one_ (i := 7) (N := some 21) #[true, true, true, true, true, true, true, true, true, true, true, false, false, false, false, false, false] rfl rfl (one_of HT_.out (by kernel_rfl)) (by decide) (fun K hK => ?_)
          refine R_append_rows_step (Kd.int .u8) (w0 := w) w.heap.size (by rfl) (.tmp 18) (.tmp 20) 33 5 (.int .u8 0) 1 rfl Tryd.underlying33 info5 rfl (by decide) (by omega) v234 y233 ((rd_T74 l0_0 x10_1).f1) _ _ _ (fun k_ => some k_ ≠ (v240 : Value).ownBlock) (fun _ => False) rfl rfl ?aO ?aR (fun _ _ h => h) (fun _ h => h.elim) ?aF ?aB ?aS ?aL ?_
          (case aR => repeat (first | exact (C_below HR231_1.out HB.out) | (with_reducible refine C_alloc ?_ _) | (with_reducible refine C_drewN ?_ _) | (with_reducible refine C_drew ?_)))
          (case aB => exact Zs)
          (case aF => exact (fun k_ hk => Kd.fresh' (R_lt (ZR HO241.out)) k_ hk))
          (case aO => exact (ZR (R_mono HO235.out (fun _ hk => hk.2))))
          (case aS => exact (below_size Zs))
          (case aL => have := LMc13.out; omega)
          intro v237 w28 ho hb hg hat
          rw [← Ny236.out] at ho
          have n0_ := Zh (S_after (ok := (fun k_ => some k_ ≠ (v240 : Value).ownBlock ∧ k_ ≠ gb232)) (ZS (S_mono HO_231000.out (fun _ hk => ⟨⟨hk.1.2, hk.1.1⟩, hk.2⟩))) hg hat)
          have n1_ := Zh (blk_grown (g := gb228) (o := .cells #[.slice (some ad231) l0_0.length c0_0] 29 (0, 0)) Zk hg (R_ne HO235.out BK228.out (by decide)))
          have n2_ := Zh (blk_grown (g := gb229) (o := .cells #[.slice none 0 0] 29 (0, 0)) Zk hg (R_ne HO235.out BK229.out (by decide)))
          have n3_ := Zh (blk_grown (g := gb230) (o := .cells #[.slice Ao21 x231000_1.length co21] 29 (0, 0)) Zk hg (R_ne HO235.out BK230.out (by decide)))
          have n4_ := Zh (blk_grown (g := gb232) (o := .cells #[.string ((rd_T74 l0_0 x10_1).f0), .slice A231_1 ((rd_T74 l0_0 x10_1).f1).length c231_1, .slice A231_2 ((rd_T74 l0_0 x10_1).f2).length c231_2] 74 (0, 0)) Zk hg (R_ne HO235.out BK232.out (by decide)))
          have n5_ := Zh (R_after (ok := (fun _ => True)) (ZR HO241.out) hg hat)
          have n6_ := Zh (hb)
          have n7_ := Zh (ho)
          clear HO_231000
          clear BK228
          clear BK229
          clear BK230
          clear BK232
          clear HO241
          clear HB
          clear HO235
          have HO_231000 := n0_
          have BK228 := n1_
          have BK229 := n2_
          have BK230 := n3_
          have BK232 := n4_
          have HO241 := n5_
          have HB := n6_
          have HO238 := n7_
          clear n0_ n1_ n2_ n3_ n4_ n5_ n6_ n7_
          clear ho hb hg hat
          refine hK.out _ _ ⟨(blk_cell BK230.out 0).trans rfl, (blk_cell BK232.out 0).trans rfl, (blk_cell BK232.out 1).trans rfl, (blk_cell BK232.out 2).trans rfl⟩ (fun hHeld => ?_)
          clear hK K
          refine norm_ (a' := ?_) ?_ ?_
          rotate_left
          ·
           show Act.put _ (some 21) _ = _
           simp only [Act.put, List.setIfInBounds_toArray, List.set_cons_zero, List.set_cons_succ, i64_w, i32_w]
           rfl
          exact norm_ (by simp only [putAll, Act.put, List.setIfInBounds_toArray, List.set_cons_zero, List.set_cons_succ]) (hCont (v234, v237, v240) _ ⟨hHeld, (ZR HO238.out), (ZR (R_mono HO241.out (fun _ hk => hk.2))), (ZS (S_mono HO_231000.out (fun _ hk => ⟨hk.2, ⟨hk.1.1, hk.1.2⟩⟩))), Zk, Zk, Zk, Zk, Zs⟩)
         rintro ⟨v234, v237, v240⟩ w29 ⟨hS_, h0_, h1_, h2_, h3_, h4_, h5_, h6_, h7_⟩
         have n0_ : Aside0 (Kd.R (Kd.int .u8) 5 w29 w.heap.size (fun k_ => some k_ ≠ (v240 : Value).ownBlock) v237 y236) := ⟨h0_⟩
         have n1_ : Aside0 (Kd.R (Kd.int .u8) 5 w29 w.heap.size (fun k_ => some k_ ≠ (v237 : Value).ownBlock) v240 y239) := ⟨h1_⟩
         have n2_ : Aside0 (Kd.S k74 74 w29 w.heap.size (fun k_ => some k_ ≠ (v237 : Value).ownBlock ∧ some k_ ≠ (v240 : Value).ownBlock ∧ k_ ≠ gb232) (.slice Ao21 x231000_1.length co21) x231000_1) := ⟨h2_⟩
         have n3_ : Aside0 (w29.heap[gb228]? = some (.cells #[.slice (some ad231) l0_0.length c0_0] 29 (0, 0))) := ⟨h3_⟩
         have n4_ : Aside0 (w29.heap[gb229]? = some (.cells #[.slice none 0 0] 29 (0, 0))) := ⟨h4_⟩
         have n5_ : Aside0 (w29.heap[gb230]? = some (.cells #[.slice Ao21 x231000_1.length co21] 29 (0, 0))) := ⟨h5_⟩
         have n6_ : Aside0 (w29.heap[gb232]? = some (.cells #[.string ((rd_T74 l0_0 x10_1).f0), .slice A231_1 ((rd_T74 l0_0 x10_1).f1).length c231_1, .slice A231_2 ((rd_T74 l0_0 x10_1).f2).length c231_2] 74 (0, 0))) := ⟨h6_⟩
         have n7_ : Aside0 (Below w.heap.size w w29) := ⟨h7_⟩
         clear HO_231000
         clear BK228
         clear BK229
         clear BK230
         clear BK232
         clear HB
         clear h0_ h1_ h2_ h3_ h4_ h5_ h6_ h7_
         have HO238 := n0_
         have HO241 := n1_
         have HO_231000 := n2_
         have BK228 := n3_
         have BK229 := n4_
         have BK230 := n5_
         have BK232 := n6_
         have HB := n7_
         clear n0_ n1_ n2_ n3_ n4_ n5_ n6_ n7_
         have hHeld : w29.cell? ⟨gb230, 0, none⟩ = some (.slice Ao21 x231000_1.length co21) ∧ w29.cell? ⟨gb232, 0, none⟩ = some (.string ((rd_T74 l0_0 x10_1).f0)) ∧ w29.cell? ⟨gb232, 1, none⟩ = some (.slice A231_1 ((rd_T74 l0_0 x10_1).f1).length c231_1) ∧ w29.cell? ⟨gb232, 2, none⟩ = some (.slice A231_2 ((rd_T74 l0_0 x10_1).f2).length c231_2) := hS_
         refine norm_ (a' := ?_) ?_ ?_
         rotate_left
         ·
          simp only [putAll, Act.put, List.setIfInBounds_toArray, List.set_cons_zero, List.set_cons_succ]
          rfl
         refine one_ (i := 11) (N := some 25) #[true, true, true, true, true, true, true, true, true, true, true, true, false, false, false, false, false] rfl rfl (one_of HT_.out (by kernel_rfl)) (by decide) (fun K hK => ?_)
         refine R_append_rows_step (Kd.int .u8) (w0 := w) w.heap.size (by rfl) (.tmp 22) (.tmp 24) 33 5 (.int .u8 0) 1 rfl Tryd.underlying33 info5 rfl (by decide) (by omega) v240 y239 ((rd_T74 l0_0 x10_1).f2) _ _ _ (fun k_ => some k_ ≠ (v237 : Value).ownBlock) (fun _ => False) rfl rfl ?aO ?aR (fun _ _ h => h) (fun _ h => h.elim) ?aF ?aB ?aS ?aL ?_
         (case aR => repeat (first | exact (C_below HR231_2.out HB.out) | (with_reducible refine C_alloc ?_ _) | (with_reducible refine C_drewN ?_ _) | (with_reducible refine C_drew ?_)))
         (case aB => exact Zs)
         (case aF => exact (fun k_ hk => Kd.fresh' (R_lt (ZR HO238.out)) k_ hk))
         (case aO => exact (ZR HO241.out))
         (case aS => exact (below_size Zs))
         (case aL => have := LMc14.out; omega)
         intro v243 w30 ho hb hg hat
         rw [← Ny242.out] at ho
         have n0_ := Zh (S_after (ok := (fun k_ => some k_ ≠ (v237 : Value).ownBlock ∧ k_ ≠ gb232)) (ZS (S_mono HO_231000.out (fun _ hk => ⟨⟨hk.1, hk.2.2⟩, hk.2.1⟩))) hg hat)
         have n1_ := Zh (blk_grown (g := gb228) (o := .cells #[.slice (some ad231) l0_0.length c0_0] 29 (0, 0)) Zk hg (R_ne HO241.out BK228.out (by decide)))
         have n2_ := Zh (blk_grown (g := gb229) (o := .cells #[.slice none 0 0] 29 (0, 0)) Zk hg (R_ne HO241.out BK229.out (by decide)))
         have n3_ := Zh (blk_grown (g := gb230) (o := .cells #[.slice Ao21 x231000_1.length co21] 29 (0, 0)) Zk hg (R_ne HO241.out BK230.out (by decide)))
         have n4_ := Zh (blk_grown (g := gb232) (o := .cells #[.string ((rd_T74 l0_0 x10_1).f0), .slice A231_1 ((rd_T74 l0_0 x10_1).f1).length c231_1, .slice A231_2 ((rd_T74 l0_0 x10_1).f2).length c231_2] 74 (0, 0)) Zk hg (R_ne HO241.out BK232.out (by decide)))
         have n5_ := Zh (R_after (ok := (fun _ => True)) (ZR (R_mono HO238.out (fun _ hk => ⟨trivial, hk⟩))) hg hat)
         have n6_ := Zh (hb)
         have n7_ := Zh (ho)
         clear HO_231000
         clear BK228
         clear BK229
         clear BK230
         clear BK232
         clear HO238
         clear HB
         clear HO241
         have HO_231000 := n0_
         have BK228 := n1_
         have BK229 := n2_
         have BK230 := n3_
         have BK232 := n4_
         have HO238 := n5_
         have HB := n6_
         have HO244 := n7_
         clear n0_ n1_ n2_ n3_ n4_ n5_ n6_ n7_
         clear ho hb hg hat
         obtain ⟨Ao31, co31, eo31⟩ := R_slice HO244.out
         (first | subst eo31 | (injection eo31 with f1_ f2_ f3_; have f4_ := f1_.symm; have f5_ := f3_.symm; clear f1_ f2_ f3_; subst f4_; subst f5_))
         obtain ⟨Ao32, co32, eo32⟩ := R_slice HO238.out
         (first | subst eo32 | (injection eo32 with f1_ f2_ f3_; have f4_ := f1_.symm; have f5_ := f3_.symm; clear f1_ f2_ f3_; subst f4_; subst f5_))
         refine hK.out _ _ ⟨(blk_cell BK230.out 0).trans rfl, (blk_cell BK232.out 0).trans rfl, (blk_cell BK232.out 1).trans rfl, (blk_cell BK232.out 2).trans rfl⟩ (fun hHeld => ?_)
         clear hK K
         refine norm_ (a' := ?_) ?_ ?_
         rotate_left
         ·
          show Act.put _ (some 25) _ = _
          simp only [Act.put, List.setIfInBounds_toArray, List.set_cons_zero, List.set_cons_succ, i64_w, i32_w]
          rfl
         refine SQ.pu 12 26 HT_ ?_
         refine one_ (i := 13) (N := some 27) #[true, true, true, true, true, true, true, true, true, true, true, true, true, true, false, false, false] rfl rfl (one_of HT_.out (by kernel_rfl)) (by decide) (fun K hK => ?_)
         refine value_ (w1 := ?_) (v := ?_) (by rfl) rfl ?_ ?_
         rotate_left 2
         ·
          go_simp
          constructor
          ·
           rfl
          rfl
         refine hK.out _ _ ⟨(blk_cell (blk_alloc BK230.out _) 0).trans rfl, (blk_cell (blk_alloc BK232.out _) 0).trans rfl, (blk_cell (blk_alloc BK232.out _) 1).trans rfl, (blk_cell (blk_alloc BK232.out _) 2).trans rfl⟩ (fun hHeld => ?_)
         clear hK K
         refine norm_ (a' := ?_) ?_ ?_
         rotate_left
         ·
          show Act.put _ (some 27) _ = _
          simp only [Act.put, List.setIfInBounds_toArray, List.set_cons_zero, List.set_cons_succ, i64_w, i32_w]
          rfl
         refine one_ (i := 14) (N := some 28) #[true, true, true, true, true, true, true, true, true, true, true, true, true, true, true, false, false] rfl rfl (one_of HT_.out (by kernel_rfl)) (by decide) (fun K hK => ?_)
         refine S_append_step k74 (w0 := w) w.heap.size (by rfl) (.tmp 15) (.tmp 27) 27 74 (.agg #[(.string ⟨#[]⟩), (.slice none 0 0), (.slice none 0 0)]) 64 rfl Tryd.underlying27 info74 rfl (by decide) (by omega) (.slice Ao21 x231000_1.length co21) x231000_1 (⟨(rd_T74 l0_0 x10_1).f0, y236, y242⟩ : S74) [.string ((rd_T74 l0_0 x10_1).f0), .slice Ao32 y236.length co32, .slice Ao31 y242.length co31] (fun k_ => k_ ≠ gb232) (fun k_ => some k_ = (.slice Ao32 y236.length co32 : Value).ownBlock ∨ some k_ = (.slice Ao31 y242.length co31 : Value).ownBlock) rfl rfl ?aP (fun k_ hk_ => hk_.elim (fun h_ => ((R_mono (ok' := fun k_ => ((fun k_ => k_ ≠ gb232)) k_ ∧ some k_ ≠ (.slice Ao21 x231000_1.length co21 : Value).ownBlock) (R_types (R_apart' (HO238.out) (S_typed HO_231000.out) (by decide)) BK232.out (by decide)) (fun k_ hk => ⟨hk.2, hk.1.2⟩))).1 k_ h_.symm) (fun h_ => ((R_mono (ok' := fun k_ => ((fun k_ => k_ ≠ gb232)) k_ ∧ some k_ ≠ (.slice Ao21 x231000_1.length co21 : Value).ownBlock) (R_types (R_apart' (HO244.out) (S_typed HO_231000.out) (by decide)) BK232.out (by decide)) (fun k_ hk => ⟨hk.2, hk.1.2⟩))).1 k_ h_.symm)) ?aF ?aO ?aB ?aS ?aL ?_
         (case aP => exact k74_mkM _ _ _ (⟨(rd_T74 l0_0 x10_1).f0, y236, y242⟩ : S74) (R_mono (R_tight rfl (R_mono (ok' := fun k_ => ((fun k_ => k_ ≠ gb232)) k_ ∧ some k_ ≠ (.slice Ao21 x231000_1.length co21 : Value).ownBlock) (R_types (R_apart' (HO238.out) (S_typed HO_231000.out) (by decide)) BK232.out (by decide)) (fun k_ hk => ⟨hk.2, hk.1.2⟩))) (fun _ h_ => Or.inl h_)) (R_mono (R_tight rfl (R_mono (ok' := fun k_ => ((fun k_ => k_ ≠ gb232)) k_ ∧ some k_ ≠ (.slice Ao21 x231000_1.length co21 : Value).ownBlock) (R_types (R_apart' (HO244.out) (S_typed HO_231000.out) (by decide)) BK232.out (by decide)) (fun k_ hk => ⟨hk.2, hk.1.2⟩))) (fun _ h_ => Or.inr (h_))) (AP.ne_of (HO238.out) (HO244.out) (by first | exact .inl (fun k_ hk_ => by first | exact hk_ | exact hk_.1 | exact hk_.2 | exact hk_.1.1 | exact hk_.1.2 | exact hk_.2.1 | exact hk_.2.2) | exact .inr (fun k_ hk_ => by first | exact hk_ | exact hk_.1 | exact hk_.2 | exact hk_.1.1 | exact hk_.1.2 | exact hk_.2.1 | exact hk_.2.2))))
         (case aB => exact Zs)
         (case aF => exact (fun k_ hk => Kd.freshB (g := gb232) (o := .cells #[.string ((rd_T74 l0_0 x10_1).f0), .slice A231_1 ((rd_T74 l0_0 x10_1).f1).length c231_1, .slice A231_2 ((rd_T74 l0_0 x10_1).f2).length c231_2] 74 (0, 0)) Zk k_ hk))
         (case aO => exact (ZS (S_mono HO_231000.out (fun k_ hk => ⟨hk.1.2, fun e_ => e_.elim (fun h_ => hk.1.1 h_) (fun h_ => hk.2 h_)⟩))))
         (case aS => exact (below_size Zs))
         (case aL => have := LMc15.out; omega)
         intro v246 w33 ho hb hg hat
         rw [← Ny245.out] at ho
         have n0_ := Zh (blk_grown (g := gb228) (o := .cells #[.slice (some ad231) l0_0.length c0_0] 29 (0, 0)) Zk hg (S_ne HO_231000.out BK228.out (by decide)))
         have n1_ := Zh (blk_grown (g := gb229) (o := .cells #[.slice none 0 0] 29 (0, 0)) Zk hg (S_ne HO_231000.out BK229.out (by decide)))
         have n2_ := Zh (blk_grown (g := gb230) (o := .cells #[.slice Ao21 x231000_1.length co21] 29 (0, 0)) Zk hg (S_ne HO_231000.out BK230.out (by decide)))
         have n3_ := Zh (blk_grown (g := gb232) (o := .cells #[.string ((rd_T74 l0_0 x10_1).f0), .slice A231_1 ((rd_T74 l0_0 x10_1).f1).length c231_1, .slice A231_2 ((rd_T74 l0_0 x10_1).f2).length c231_2] 74 (0, 0)) Zk hg (S_away HO_231000.out (fun _ hk => hk.1.2)))
         have n4_ := Zh (hb)
         have n5_ := Zh (ho)
         clear BK228
         clear BK229
         clear BK230
         clear BK232
         clear HB
         clear HO_231000
         clear HO238
         clear HO244
         have BK228 := n0_
         have BK229 := n1_
         have BK230 := n2_
         have BK232 := n3_
         have HB := n4_
         have HO247 := n5_
         clear n0_ n1_ n2_ n3_ n4_ n5_
         clear ho hb hg hat
         obtain ⟨Ao34, co34, eo34⟩ := S_slice HO247.out
         (first | subst eo34 | (injection eo34 with f1_ f2_ f3_; have f4_ := f1_.symm; have f5_ := f3_.symm; clear f1_ f2_ f3_; subst f4_; subst f5_))
         refine hK.out _ _ ⟨(blk_cell BK230.out 0).trans rfl, (blk_cell BK232.out 0).trans rfl, (blk_cell BK232.out 1).trans rfl, (blk_cell BK232.out 2).trans rfl⟩ (fun hHeld => ?_)
         clear hK K
         refine norm_ (a' := ?_) ?_ ?_
         rotate_left
         ·
          show Act.put _ (some 28) _ = _
          simp only [Act.put, List.setIfInBounds_toArray, List.set_cons_zero, List.set_cons_succ, i64_w, i32_w]
          rfl
         refine SQ.pu 15 29 HT_ ?_
         refine last_ (i := 16) (N := none) #[true, true, true, true, true, true, true, true, true, true, true, true, true, true, true, true, true] rfl rfl (one_of HT_.out (by kernel_rfl)) (by decide) (fun K hK => ?_)
         have hs35 : w33.cell? ⟨gb230, 0, none⟩ = some (.slice Ao21 x231000_1.length co21) := (blk_cell BK230.out 0).trans rfl
         have hfs35 := Zn BK230.out 0
         have hns35_0 := NB228_230.out
         have hns35_1 := NB229_230.out
         have hns35_3 := NB232_230.out
         have hms35_0 := NB230_228.out
         have hms35_1 := NB230_229.out
         have hms35_3 := NB230_232.out
         refine skip_ (w1 := ?_) (by rfl) rfl ?_ ?_
         rotate_left
         ·
          go_simp
          rfl
         refine hK.out _ _ ?_
         clear hK K
         refine done_ (done_of HT_.out (by kernel_rfl)) ?_
         try go_wp2
         go_roundg k1
         case measure => have := HK1.out; omega
         case rel => exact ⟨(wrap64 (x10_1 + 1)), (y245), (.slice Ao34 y245.length co34), (by first | rfl | (simp; done) | (simp [*]; done)), H', ⟨by have := HK1.out; omega⟩, ⟨ZS (S_mono (S_far (p := ⟨gb230, 0, none⟩) (S_types HO247.out BK230.out (by decide)) (fun _ hk => hk.2) (.slice Ao34 y245.length co34)) (fun _ hk => trivial))⟩, ⟨by (with_reducible repeat (first | refine Za ?_ _ | refine Zb ?_ | refine blk_alloc ?_ _)); refine blk_far ?_ NB228_230.out _; (with_reducible repeat (first | refine Za ?_ _ | refine Zb ?_ | refine blk_alloc ?_ _)); exact BK228.out⟩, ⟨by (with_reducible repeat (first | refine Za ?_ _ | refine Zb ?_ | refine blk_alloc ?_ _)); refine blk_far ?_ NB229_230.out _; (with_reducible repeat (first | refine Za ?_ _ | refine Zb ?_ | refine blk_alloc ?_ _)); exact BK229.out⟩, ⟨by (with_reducible repeat (first | refine Za ?_ _ | refine Zb ?_ | refine blk_alloc ?_ _)); refine blk_put (cs := #[.slice Ao21 x231000_1.length co21]) ?_ 0 _ rfl; (with_reducible repeat (first | refine Za ?_ _ | refine Zb ?_ | refine blk_alloc ?_ _)); exact BK230.out⟩, ⟨Zs⟩⟩
        rw [if_neg c15] at H
        exact absurd H (by simp)
       rw [if_neg c14] at H
       exact absurd H (by simp)
      rw [if_neg c13] at H
      exact absurd H (by simp)
     rw [if_neg c12] at H
     exact absurd H (by simp)
    rw [if_neg c11] at H
    exact absurd H (by simp)
   rw [if_neg c10] at H
   have c10b0 : decide (x10_1 < (l0_0.length : Int)) = false := decide_eq_false c10
   clear c10
   obtain rfl := Option.some.inj H
   have hnb36 := NB230_228.out
   have hnc36 := NB228_230.out
   have hnb37 := NB230_229.out
   have hnc37 := NB229_230.out
   have hcz38_0 : wr.cell? ⟨gb230, 0, none⟩ = some (u231000) := (blk_cell BK230.out 0).trans rfl
   have hfz38_0 := Zn BK230.out 0
   obtain ⟨Ao39, co39, eo39⟩ := S_slice HO_231000.out
   subst eo39
   have hnb40 := NB229_228.out
   have hnc40 := NB228_229.out
   have hcz41_0 : wr.cell? ⟨gb229, 0, none⟩ = some (.slice none 0 0) := (blk_cell BK229.out 0).trans rfl
   have hfz41_0 := Zn BK229.out 0
   go_wp2
   refine Zq (results_cell_row rfl _ _ gb229 29 #[.slice Ao39 x231000_1.length co39] (0, 0) _ rfl (by (with_reducible repeat (first | refine Za ?_ _ | refine Zb ?_ | refine blk_alloc ?_ _)); refine blk_put (cs := #[.slice none 0 0]) ?_ 0 _ rfl; (with_reducible repeat (first | refine Za ?_ _ | refine Zb ?_ | refine blk_alloc ?_ _)); exact BK229.out) Tryd.underlying29 rfl (by kernel_rfl)) rfl ?_
   exact ⟨_, ZE, ZS (S_mono (S_far (p := ⟨gb229, 0, none⟩) (S_types HO_231000.out BK229.out (by decide)) (fun _ hk => hk.2) (.slice Ao39 x231000_1.length co39)) (fun _ hk => trivial)), Zs⟩
end Go.Proofs.YtmgeffgcihfpcaaDoor.F

namespace Go.Proofs.YtmgeffgcihfpcaaDoor.F
open Go.RowKit Go.Proofs.YtmgeffgcihfpcaaDoorW.PrintWords Go.Proofs.YtmgeffgcihfpcaaDoorW.PrintLast Go.Proofs.YtmgeffgcihfpcaaDoorW.PrintMore
set_option linter.unusedVariables false
def lays160_ren : Go.Shelf.Ren := ⟨fun | 160 => 104 | 232 => 110 | 231 => 109 | 227 => 111 | 234 => 113 | 233 => 112 | 236 => 115 | 235 => 114 | 228 => 118 | 271 => 121 | 151 => 120 | 197 => 119 | 120 => 125 | 152 => 124 | 260 => 123 | 137 => 127 | 119 => 128 | 224 => 129 | 225 => 130 | 217 => 131 | 266 => 132 | n => n, fun | 9 => 9 | 4 => 4 | 3 => 3 | 5 => 5 | 117 => 122 | 116 => 121 | 0 => 0 | 124 => 125 | 21 => 21 | 105 => 129 | 46 => 127 | 119 => 134 | 139 => 137 | 138 => 136 | n => n, fun | 3 => 0 | 4 => 1 | n => n⟩
theorem lays160 : Go.Proofs.Lays.n160 Tryd.prog lays160_ren where
  mixed := by kernel_rfl
  f119 := Tryd.func128.trans (congrArg some (by kernel_rfl))
  f120 := Tryd.func125.trans (congrArg some (by kernel_rfl))
  f137 := Tryd.func127.trans (congrArg some (by kernel_rfl))
  f151 := Tryd.func120.trans (congrArg some (by kernel_rfl))
  f152 := Tryd.func124.trans (congrArg some (by kernel_rfl))
  f160 := Tryd.func104.trans (congrArg some (by kernel_rfl))
  f197 := Tryd.func119.trans (congrArg some (by kernel_rfl))
  f217 := Tryd.func131.trans (congrArg some (by kernel_rfl))
  f224 := Tryd.func129.trans (congrArg some (by kernel_rfl))
  f225 := Tryd.func130.trans (congrArg some (by kernel_rfl))
  f227 := Tryd.func111.trans (congrArg some (by kernel_rfl))
  f228 := Tryd.func118.trans (congrArg some (by kernel_rfl))
  f231 := Tryd.func109.trans (congrArg some (by kernel_rfl))
  f232 := Tryd.func110.trans (congrArg some (by kernel_rfl))
  f233 := Tryd.func112.trans (congrArg some (by kernel_rfl))
  f234 := Tryd.func113.trans (congrArg some (by kernel_rfl))
  f235 := Tryd.func114.trans (congrArg some (by kernel_rfl))
  f236 := Tryd.func115.trans (congrArg some (by kernel_rfl))
  f260 := Tryd.func123.trans (congrArg some (by kernel_rfl))
  f266 := Tryd.func132.trans (congrArg some (by kernel_rfl))
  f271 := Tryd.func121.trans (congrArg some (by kernel_rfl))
  t0 := Tryd.underlying0
  a0 := Tryd.isAgg0
  z0 := Tryd.sizeOf0
  v0 := Tryd.zeroValue0
  t3 := Tryd.underlying3
  a3 := Tryd.isAgg3
  z3 := Tryd.sizeOf3
  v3 := Tryd.zeroValue3
  t4 := Tryd.underlying4
  a4 := Tryd.isAgg4
  z4 := Tryd.sizeOf4
  v4 := Tryd.zeroValue4
  t5 := Tryd.underlying5
  a5 := Tryd.isAgg5
  z5 := Tryd.sizeOf5
  v5 := Tryd.zeroValue5
  t9 := Tryd.underlying9
  a9 := Tryd.isAgg9
  z9 := Tryd.sizeOf9
  v9 := Tryd.zeroValue9
  t21 := Tryd.underlying21
  a21 := Tryd.isAgg21
  z21 := Tryd.sizeOf21
  v21 := Tryd.zeroValue21
  t46 := Tryd.underlying127
  a46 := Tryd.isAgg127
  z46 := Tryd.sizeOf127
  v46 := Tryd.zeroValue127
  t105 := Tryd.underlying129
  a105 := Tryd.isAgg129
  z105 := Tryd.sizeOf129
  v105 := Tryd.zeroValue129
  t116 := Tryd.underlying121
  a116 := Tryd.isAgg121
  z116 := Tryd.sizeOf121
  t117 := Tryd.underlying122
  a117 := Tryd.isAgg122
  z117 := Tryd.sizeOf122
  v117 := Tryd.zeroValue122
  t119 := Tryd.underlying134
  a119 := Tryd.isAgg134
  z119 := Tryd.sizeOf134
  t124 := Tryd.underlying125
  a124 := Tryd.isAgg125
  z124 := Tryd.sizeOf125
  v124 := Tryd.zeroValue125
  t138 := Tryd.underlying136
  a138 := Tryd.isAgg136
  z138 := Tryd.sizeOf136
  v138 := Tryd.zeroValue136
  t139 := Tryd.underlying137
  a139 := Tryd.isAgg137
  z139 := Tryd.sizeOf137
  v139 := Tryd.zeroValue137
  g3 := by kernel_rfl
  g4 := by kernel_rfl
def trimF.f (s c : ByteArray) : Option ByteArray := if s.size ≤ 9223372036854775807 ∧ c.size < 4294967281 ∧ c.data.toList.all (fun b => decide (b.toNat < 128)) = true then some ⟨(Go.Lib.trimS s.data.toList c.data.toList).toArray⟩ else none
theorem trimF.calls (a0 a1 : ByteArray) (r : ByteArray) (w : World) (h : trimF.f a0 a1 = some r) :
    Calls Tryd.prog 104 #[.string a0, .string a1] w fun e w' => e = .returned (.string r) ∧ Below w.heap.size w w' := by
  unfold trimF.f at h
  split at h
  · rename_i hc
    have h := Option.some.inj h
    subst h
    exact Any.strings_Trim_laid lays160 (by kernel_rfl) a0 a1 w hc.1 hc.2.1 (ascii_of_all hc.2.2)
  cases h
end Go.Proofs.YtmgeffgcihfpcaaDoor.F

namespace Go.Proofs.YtmgeffgcihfpcaaDoor.F
open Go.RowKit Go.Proofs.YtmgeffgcihfpcaaDoorW.PrintWords Go.Proofs.YtmgeffgcihfpcaaDoorW.PrintWords.Kd Go.Proofs.YtmgeffgcihfpcaaDoorW.PrintMore.Kd Go.Proofs.YtmgeffgcihfpcaaDoorW.PrintLast Go.Proofs.YtmgeffgcihfpcaaDoorW.PrintMore
attribute [local go_sem] max2_int min2_int max_two min_two max_three min_three max_four min_four   -- for this text's walks alone
set_option linter.unusedVariables false
set_option linter.unusedSimpArgs false
def impl_isFileName.f (a0 : ByteArray) : Option (Bool) := if (a0.size : Int) ≥ 1 then (if (a0.size : Int) ≤ 12 then ((trimF.f a0 (⟨#[97, 98, 99, 100, 101, 102, 103, 104, 105, 106, 107, 108, 109, 110, 111, 112, 113, 114, 115, 116, 117, 118, 119, 120, 121, 122, 48, 49, 50, 51, 52, 53, 54, 55, 56, 57]⟩ : ByteArray)).bind fun t142 => (some (t142.toList == ([] : List UInt8)))) else (some false)) else (some false)
set_option maxHeartbeats 8000000 in
set_option maxRecDepth 100000 in
theorem impl_isFileName.calls (a0 : ByteArray) (r : Bool) (w : World) (h : impl_isFileName.f a0 = some r) :
  Calls Tryd.prog 91 #[.string a0] w fun e w' => e = .returned (.bool r) ∧ Below w.heap.size w w' := by
 have HB := Zh (Below.refl w.heap.size w)
 have H : (if (a0.size : Int) ≥ 1 then (if (a0.size : Int) ≤ 12 then ((trimF.f a0 (⟨#[97, 98, 99, 100, 101, 102, 103, 104, 105, 106, 107, 108, 109, 110, 111, 112, 113, 114, 115, 116, 117, 118, 119, 120, 121, 122, 48, 49, 50, 51, 52, 53, 54, 55, 56, 57]⟩ : ByteArray)).bind fun t142 => (some (t142.toList == ([] : List UInt8)))) else (some false)) else (some false)) = some r := h
 clear h
 by_cases c2 : (a0.size : Int) ≥ 1
 ·
  rw [if_pos c2] at H
  have c2b0 : decide (1 ≤ (a0.size : Int)) = true := decide_eq_true c2
  have c2b1 : decide (1 ≤ a0.size) = true := decide_eq_true (by omega)
  clear c2
  by_cases c3 : (a0.size : Int) ≤ 12
  ·
   rw [if_pos c3] at H
   have c3b0 : decide ((a0.size : Int) ≤ 12) = true := decide_eq_true c3
   have c3b1 : decide (a0.size ≤ 12) = true := decide_eq_true (by omega)
   clear c3
   replace H := Option.bind_eq_some_iff.mp H
   obtain ⟨t142, A40, H⟩ := H
   replace H : (some (t142.toList == ([] : List UInt8))) = some r := H
   have A4 := Zh A40
   clear A40
   obtain rfl := Option.some.inj H
   go_enter Tryd.func91, Tryd.ntmps91
   go_wp2_with (first | (go_at_call 104; (with_reducible refine (trimF.calls a0 (⟨#[97, 98, 99, 100, 101, 102, 103, 104, 105, 106, 107, 108, 109, 110, 111, 112, 113, 114, 115, 116, 117, 118, 119, 120, 121, 122, 48, 49, 50, 51, 52, 53, 54, 55, 56, 57]⟩ : ByteArray) t142 _ A4.out).mono ?_); rintro e w5 ⟨rfl, hb⟩; replace HB := Zh (Zl Zs hb); (try clear hb); (try clear hb2); (try clear hk); (try clear hi)))
   go_ret
   exact ⟨ZE, Zs⟩
  rw [if_neg c3] at H
  have c3b0 : decide ((a0.size : Int) ≤ 12) = false := decide_eq_false c3
  have c3b1 : decide (a0.size ≤ 12) = false := decide_eq_false (by omega)
  clear c3
  obtain rfl := Option.some.inj H
  go_enter Tryd.func91, Tryd.ntmps91
  go_wp2
  go_ret
  exact ⟨ZE, Zs⟩
 rw [if_neg c2] at H
 have c2b0 : decide (1 ≤ (a0.size : Int)) = false := decide_eq_false c2
 have c2b1 : decide (1 ≤ a0.size) = false := decide_eq_false (by omega)
 clear c2
 obtain rfl := Option.some.inj H
 go_enter Tryd.func91, Tryd.ntmps91
 go_wp2
 go_ret
 exact ⟨ZE, Zs⟩
end Go.Proofs.YtmgeffgcihfpcaaDoor.F

namespace Go.Proofs.YtmgeffgcihfpcaaDoor.F
open Go.RowKit Go.Proofs.YtmgeffgcihfpcaaDoorW.PrintWords Go.Proofs.YtmgeffgcihfpcaaDoorW.PrintLast Go.Proofs.YtmgeffgcihfpcaaDoorW.PrintMore
open Go.Proofs.YtmgeffgcihfpcaaDoor
set_option linter.unusedVariables false
set_option linter.unusedSimpArgs false
def impl_isDisk.l0 : Nat → List (S74) → Int → Int → List (S74) → Option (Bool)
  | 0, _, _, _, _ => none
  | k + 1, x6, x7, x8, x => if x8 < x7 then (if 0 ≤ x8 then (if x8 < (x6.length : Int) then ((impl_isFileName.f ((rd_T74 x6 x8).f0)).bind fun t151 => (if t151 = true then (if (wrap64 ((((rd_T74 x6 x8).f1).length : Int) + (((rd_T74 x6 x8).f2).length : Int))) > 20000 then (some false) else (if x8 > 0 then (if 0 ≤ (wrap64 (x8 - 1)) then (if (wrap64 (x8 - 1)) < (x.length : Int) then (if ((Op.bytesLess (((rd_T74 x (wrap64 (x8 - 1))).f0).toList) (((rd_T74 x6 x8).f0).toList)) = true) then (impl_isDisk.l0 k x6 x7 (wrap64 (x8 + 1)) x) else (some false)) else (none)) else (none)) else (impl_isDisk.l0 k x6 x7 (wrap64 (x8 + 1)) x))) else (some false))) else (none)) else (none)) else (some (decide ((x.length : Int) ≤ 8)))
def impl_isDisk.f (k : Nat) (l0_0 : List (S74)) : Option (Bool) := impl_isDisk.l0 k l0_0 (l0_0.length : Int) 0 l0_0
set_option maxHeartbeats 8000000 in
set_option maxRecDepth 100000 in
theorem impl_isDisk.calls (k : Nat) (A0_0 : Option Addr) (c0_0 : Nat) (l0_0 : List (S74)) (r : Bool) (w : World) (hr0_0 : Kd.C k74 w A0_0 l0_0.length l0_0) (hc0_0 : l0_0.length ≤ c0_0) (h : impl_isDisk.f k l0_0 = some r) :
    Calls Tryd.prog 59 #[.agg #[.slice A0_0 l0_0.length c0_0]] w fun e w' => e = .returned (.bool r) ∧ Below w.heap.size w w' := by
  have HR := Zh hr0_0
  clear hr0_0 hc0_0
  have ST := Zh (LW.St.start w)
  have hu29 := Tryd.underlying29
  have hu74 := Tryd.underlying74
  have H := Zh (show impl_isDisk.l0 k l0_0 (l0_0.length : Int) 0 l0_0 = some r from h)
  clear h
  go_enter Tryd.func59, Tryd.ntmps59
  go_wp2_with fail
  replace ST := Zh (ST.out.alloc #[.slice A0_0 l0_0.length c0_0] 29 (g := w.heap.size) rfl)
  generalize hW : (w.alloc (.cells #[.slice A0_0 l0_0.length c0_0] 29)) = W at ST ⊢
  clear hW
  go_loopg [8] k (fun kq v8 w' => ∃ (x8 : Int), v8 = .int .i64 x8 ∧ Aside0 (impl_isDisk.l0 kq l0_0 (l0_0.length : Int) x8 l0_0 = some r) ∧ Aside0 (LW.St w w' [LW.box w.heap.size #[.slice A0_0 l0_0.length c0_0] 29]))
  case atStart => exact ⟨0, rfl, H, ST⟩
  case round =>
    clear H ST
    obtain ⟨x8, rfl, HA, ST⟩ := hrel
    cases gk with
    | zero => exact absurd HA.out (by simp [impl_isDisk.l0])
    | succ k1 =>
      have H := HA.out
      clear HA
      simp only [impl_isDisk.l0] at H
      by_cases c8 : x8 < (l0_0.length : Int)
      · rw [if_pos c8] at H
        have q8 := decide_eq_true c8
        by_cases p0 : 0 ≤ x8
        · rw [if_pos p0, if_pos c8] at H
          obtain ⟨t, A7, H⟩ := Option.bind_eq_some_iff.mp H
          replace A7 := Zh A7
          obtain ⟨ad, B1, d1, B2, d2, e, E0, E1, E2, _, _, _, _⟩ := at_T74 HR.out x8 p0 c8
          cases e
          have hx0 := (ST.out.b.cell (Zi w _ E0)).trans E0
          have hx1 := (ST.out.b.cell (Zi w _ E1)).trans E1
          have hx2 := (ST.out.b.cell (Zi w _ E2)).trans E2
          have p1 := eq_true p0
          have p2 := eq_true c8
          clear E0 E1 E2 p0 c8
          go_wp2_with fail
          replace ST := Zh (ST.out.alloc #[.string (rd_T74 l0_0 x8).f0, .slice B1 (rd_T74 l0_0 x8).f1.length d1, .slice B2 (rd_T74 l0_0 x8).f2.length d2] 74 (g := wr.heap.size) rfl)
          clear hx0 hx1 hx2
          cases t with
          | false =>
            rw [if_neg (by decide)] at H
            obtain rfl := Option.some.inj H
            clear H
            replace ST := Zh ST.out.drew
            refine start_ (n := 30) (S := fun w' => w'.cell? ⟨wr.heap.size, 0, none⟩ = some (.string (rd_T74 l0_0 x8).f0) ∧ w'.cell? ⟨wr.heap.size, 1, none⟩ = some (.slice B1 (rd_T74 l0_0 x8).f1.length d1) ∧ w'.cell? ⟨wr.heap.size, 2, none⟩ = some (.slice B2 (rd_T74 l0_0 x8).f2.length d2)) (ds := []) #[false, false, false, false, false, false, false, false, false, false, false, false, false, false, false, false, false, false, false, false, false, false, false, false, false, false, false, false, false, false] (by kernel_rfl) rfl rfl ⟨ST.out.cell 0 rfl 0 rfl, ST.out.cell 0 rfl 1 rfl, ST.out.cell 0 rfl 2 rfl⟩ (fun hHeld => ?_)
            generalize (wr.alloc (.cells #[.string (rd_T74 l0_0 x8).f0, .slice B1 (rd_T74 l0_0 x8).f1.length d1, .slice B2 (rd_T74 l0_0 x8).f2.length d2] 74)).drew = w8 at ST hHeld ⊢
            refine SQ.p0 0 13 ?_
            refine SQ.t0 1 14 hHeld ?_
            refine one_ (i := 2) (N := some 15) #[true, true, true, false, false, false, false, false, false, false, false, false, false, false, false, false, false, false, false, false, false, false, false, false, false, false, false, false, false, false] rfl rfl (by kernel_rfl) (by decide) (fun K hK => ?_)
            refine goes_ Tryd.func91 (by kernel_rfl) rfl #[.string (rd_T74 l0_0 x8).f0] (by rfl) rfl rfl (by (try simp only [List.map_toArray, List.map_cons, List.map_nil]); first | done | rfl) ?_
            with_reducible refine (impl_isFileName.calls (rd_T74 l0_0 x8).f0 _ _ A7.out).mono ?_
            rintro e w9 ⟨rfl, hb⟩
            refine ⟨_, rfl, ?_⟩
            replace ST := Zh (ST.out.step hb)
            clear hb hHeld
            refine hK.out _ _ ⟨ST.out.cell 0 rfl 0 rfl, ST.out.cell 0 rfl 1 rfl, ST.out.cell 0 rfl 2 rfl⟩ (fun hHeld => ?_)
            clear hK K
            refine norm_ (a' := ?_) ?_ ?_
            rotate_left
            · show Act.put _ (some 15) _ = _
              simp only [Act.put, List.setIfInBounds_toArray, List.set_cons_zero, List.set_cons_succ, i64_w, i32_w]
              rfl
            refine SQ.p0 3 16 ?_
            refine SQ.p0 4 17 ?_
            refine SQ.o0 5 18 ?_
            refine SQ.o0 6 19 ?_
            refine SQ.o0 7 20 ?_
            refine SQ.o0 8 21 ?_
            refine SQ.o0 9 22 ?_
            refine SQ.o0 10 23 ?_
            refine SQ.o0 11 24 ?_
            refine SQ.o0 12 25 ?_
            refine SQ.p0 13 26 ?_
            refine SQ.p0 14 27 ?_
            refine SQ.o0 15 28 ?_
            refine SQ.o0 16 29 ?_
            refine SQ.o0 17 30 ?_
            refine SQ.o0 18 31 ?_
            refine SQ.o0 19 32 ?_
            refine SQ.o0 20 33 ?_
            refine SQ.o0 21 34 ?_
            refine SQ.o0 22 35 ?_
            refine SQ.o0 23 36 ?_
            refine SQ.o0 24 37 ?_
            refine SQ.o0 25 38 ?_
            refine SQ.o0 26 39 ?_
            refine SQ.o0 27 40 ?_
            refine SQ.o0 28 41 ?_
            refine SQ.p0 29 42 ?_
            refine done_ (by kernel_rfl) ?_
            clear hHeld
            go_wp2
            go_ret
            exact ⟨rfl, ST.out.b⟩
          | true =>
            rw [if_pos rfl] at H
            by_cases c9 : (wrap64 ((((rd_T74 l0_0 x8).f1).length : Int) + (((rd_T74 l0_0 x8).f2).length : Int))) > 20000
            · rw [if_pos c9] at H
              obtain rfl := Option.some.inj H
              have q9 : decide (20000 < wrap64 ((((rd_T74 l0_0 x8).f1).length : Int) + (((rd_T74 l0_0 x8).f2).length : Int))) = true := decide_eq_true c9
              clear H c9
              replace ST := Zh ST.out.drew
              refine start_ (n := 30) (S := fun w' => w'.cell? ⟨wr.heap.size, 0, none⟩ = some (.string (rd_T74 l0_0 x8).f0) ∧ w'.cell? ⟨wr.heap.size, 1, none⟩ = some (.slice B1 (rd_T74 l0_0 x8).f1.length d1) ∧ w'.cell? ⟨wr.heap.size, 2, none⟩ = some (.slice B2 (rd_T74 l0_0 x8).f2.length d2)) (ds := []) #[false, false, false, false, false, false, false, false, false, false, false, false, false, false, false, false, false, false, false, false, false, false, false, false, false, false, false, false, false, false] (by kernel_rfl) rfl rfl ⟨ST.out.cell 0 rfl 0 rfl, ST.out.cell 0 rfl 1 rfl, ST.out.cell 0 rfl 2 rfl⟩ (fun hHeld => ?_)
              generalize (wr.alloc (.cells #[.string (rd_T74 l0_0 x8).f0, .slice B1 (rd_T74 l0_0 x8).f1.length d1, .slice B2 (rd_T74 l0_0 x8).f2.length d2] 74)).drew = w8 at ST hHeld ⊢
              refine SQ.p0 0 13 ?_
              refine SQ.t0 1 14 hHeld ?_
              refine one_ (i := 2) (N := some 15) #[true, true, true, false, false, false, false, false, false, false, false, false, false, false, false, false, false, false, false, false, false, false, false, false, false, false, false, false, false, false] rfl rfl (by kernel_rfl) (by decide) (fun K hK => ?_)
              refine goes_ Tryd.func91 (by kernel_rfl) rfl #[.string (rd_T74 l0_0 x8).f0] (by rfl) rfl rfl (by (try simp only [List.map_toArray, List.map_cons, List.map_nil]); first | done | rfl) ?_
              with_reducible refine (impl_isFileName.calls (rd_T74 l0_0 x8).f0 _ _ A7.out).mono ?_
              rintro e w9 ⟨rfl, hb⟩
              refine ⟨_, rfl, ?_⟩
              replace ST := Zh (ST.out.step hb)
              clear hb hHeld
              refine hK.out _ _ ⟨ST.out.cell 0 rfl 0 rfl, ST.out.cell 0 rfl 1 rfl, ST.out.cell 0 rfl 2 rfl⟩ (fun hHeld => ?_)
              clear hK K
              refine norm_ (a' := ?_) ?_ ?_
              rotate_left
              · show Act.put _ (some 15) _ = _
                simp only [Act.put, List.setIfInBounds_toArray, List.set_cons_zero, List.set_cons_succ, i64_w, i32_w]
                rfl
              refine SQ.p0 3 16 ?_
              refine SQ.p0 4 17 ?_
              refine SQ.p0 5 18 ?_
              refine SQ.t0 6 19 hHeld ?_
              refine SQ.p0 7 20 ?_
              refine SQ.p0 8 21 ?_
              refine SQ.t0 9 22 hHeld ?_
              refine SQ.p0 10 23 ?_
              refine SQ.p0 11 24 ?_
              refine SQ.p0 12 25 ?_
              refine SQ.p0 13 26 ?_
              refine SQ.p0 14 27 ?_
              refine SQ.o0 15 28 ?_
              refine SQ.o0 16 29 ?_
              refine SQ.o0 17 30 ?_
              refine SQ.o0 18 31 ?_
              refine SQ.o0 19 32 ?_
              refine SQ.o0 20 33 ?_
              refine SQ.o0 21 34 ?_
              refine SQ.o0 22 35 ?_
              refine SQ.o0 23 36 ?_
              refine SQ.o0 24 37 ?_
              refine SQ.o0 25 38 ?_
              refine SQ.o0 26 39 ?_
              refine SQ.o0 27 40 ?_
              refine SQ.o0 28 41 ?_
              refine SQ.p0 29 42 ?_
              refine done_ (by kernel_rfl) ?_
              clear hHeld
              go_wp2
              go_ret
              exact ⟨rfl, ST.out.b⟩
            rw [if_neg c9] at H
            have q9 : decide (20000 < wrap64 ((((rd_T74 l0_0 x8).f1).length : Int) + (((rd_T74 l0_0 x8).f2).length : Int))) = false := decide_eq_false c9
            clear c9
            by_cases c10 : x8 > 0
            · rw [if_pos c10] at H
              have q10 : decide (0 < x8) = true := decide_eq_true c10
              clear c10
              by_cases c11 : 0 ≤ wrap64 (x8 - 1)
              · rw [if_pos c11] at H
                by_cases c12 : wrap64 (x8 - 1) < (l0_0.length : Int)
                · rw [if_pos c12] at H
                  obtain ⟨ad2, B3, d3, B4, d4, e, E0, _, _, _, _, _, _⟩ := at_T74 HR.out (wrap64 (x8 - 1)) c11 c12
                  cases e
                  have HP := Zh E0
                  have p3 := eq_true c11
                  have p4 := eq_true c12
                  clear E0 c11 c12
                  replace ST := Zh ST.out.drew
                  refine start_ (n := 30) (S := fun w' => w'.cell? ⟨wr.heap.size, 0, none⟩ = some (.string (rd_T74 l0_0 x8).f0) ∧ w'.cell? ⟨wr.heap.size, 1, none⟩ = some (.slice B1 (rd_T74 l0_0 x8).f1.length d1) ∧ w'.cell? ⟨wr.heap.size, 2, none⟩ = some (.slice B2 (rd_T74 l0_0 x8).f2.length d2) ∧ w'.cell? ⟨w.heap.size, 0, none⟩ = some (.slice (some ad) l0_0.length c0_0) ∧ w'.cell? (ad.add ((wrap64 (x8 - 1)).toNat * 3)) = some (.string (rd_T74 l0_0 (wrap64 (x8 - 1))).f0)) (ds := []) #[false, false, false, false, false, false, false, false, false, false, false, false, false, false, false, false, false, false, false, false, false, false, false, false, false, false, false, false, false, false] (by kernel_rfl) rfl rfl ⟨ST.out.cell 0 rfl 0 rfl, ST.out.cell 0 rfl 1 rfl, ST.out.cell 0 rfl 2 rfl, ST.out.cell 1 rfl 0 rfl, (ST.out.b.cell (Zi w _ HP.out)).trans HP.out⟩ (fun hHeld => ?_)
                  generalize (wr.alloc (.cells #[.string (rd_T74 l0_0 x8).f0, .slice B1 (rd_T74 l0_0 x8).f1.length d1, .slice B2 (rd_T74 l0_0 x8).f2.length d2] 74)).drew = w8 at ST hHeld ⊢
                  refine SQ.p0 0 13 ?_
                  refine SQ.t0 1 14 hHeld ?_
                  refine one_ (i := 2) (N := some 15) #[true, true, true, false, false, false, false, false, false, false, false, false, false, false, false, false, false, false, false, false, false, false, false, false, false, false, false, false, false, false] rfl rfl (by kernel_rfl) (by decide) (fun K hK => ?_)
                  refine goes_ Tryd.func91 (by kernel_rfl) rfl #[.string (rd_T74 l0_0 x8).f0] (by rfl) rfl rfl (by (try simp only [List.map_toArray, List.map_cons, List.map_nil]); first | done | rfl) ?_
                  with_reducible refine (impl_isFileName.calls (rd_T74 l0_0 x8).f0 _ _ A7.out).mono ?_
                  rintro e w9 ⟨rfl, hb⟩
                  refine ⟨_, rfl, ?_⟩
                  replace ST := Zh (ST.out.step hb)
                  clear hb hHeld
                  refine hK.out _ _ ⟨ST.out.cell 0 rfl 0 rfl, ST.out.cell 0 rfl 1 rfl, ST.out.cell 0 rfl 2 rfl, ST.out.cell 1 rfl 0 rfl, (ST.out.b.cell (Zi w _ HP.out)).trans HP.out⟩ (fun hHeld => ?_)
                  clear hK K
                  refine norm_ (a' := ?_) ?_ ?_
                  rotate_left
                  · show Act.put _ (some 15) _ = _
                    simp only [Act.put, List.setIfInBounds_toArray, List.set_cons_zero, List.set_cons_succ, i64_w, i32_w]
                    rfl
                  refine SQ.p0 3 16 ?_
                  refine SQ.p0 4 17 ?_
                  refine SQ.p0 5 18 ?_
                  refine SQ.t0 6 19 hHeld ?_
                  refine SQ.p0 7 20 ?_
                  refine SQ.p0 8 21 ?_
                  refine SQ.t0 9 22 hHeld ?_
                  refine SQ.p0 10 23 ?_
                  refine SQ.p0 11 24 ?_
                  refine SQ.p0 12 25 ?_
                  refine SQ.p0 13 26 ?_
                  refine SQ.p0 14 27 ?_
                  refine SQ.p0 15 28 ?_
                  refine SQ.p0 16 29 ?_
                  refine SQ.p0 17 30 ?_
                  refine SQ.p0 18 31 ?_
                  refine SQ.t0 19 32 hHeld ?_
                  refine SQ.p0 20 33 ?_
                  refine SQ.p0 21 34 ?_
                  refine SQ.p0 22 35 ?_
                  refine SQ.p0 23 36 ?_
                  refine SQ.t0 24 37 hHeld ?_
                  refine SQ.p0 25 38 ?_
                  refine SQ.t0 26 39 hHeld ?_
                  refine SQ.p0 27 40 ?_
                  refine SQ.p0 28 41 ?_
                  refine SQ.p0 29 42 ?_
                  refine done_ (by kernel_rfl) ?_
                  clear hHeld
                  cases hl : Op.bytesLess (rd_T74 l0_0 (wrap64 (x8 - 1))).f0.toList (rd_T74 l0_0 x8).f0.toList with
                  | true =>
                    rw [if_pos hl] at H
                    have H' := Zh H
                    clear H
                    go_wp2
                    go_roundg k1
                    case measure => omega
                    case rel => exact ⟨_, rfl, H', ⟨ST.out.tail⟩⟩
                  | false =>
                    rw [if_neg (by rw [hl]; decide)] at H
                    obtain rfl := Option.some.inj H
                    clear H
                    go_wp2
                    go_ret
                    exact ⟨rfl, ST.out.b⟩
                rw [if_neg c12] at H; exact absurd H (by simp)
              rw [if_neg c11] at H; exact absurd H (by simp)
            rw [if_neg c10] at H
            have q10 : decide (0 < x8) = false := decide_eq_false c10
            have H' := Zh H
            clear H c10
            replace ST := Zh ST.out.drew
            refine start_ (n := 30) (S := fun w' => w'.cell? ⟨wr.heap.size, 0, none⟩ = some (.string (rd_T74 l0_0 x8).f0) ∧ w'.cell? ⟨wr.heap.size, 1, none⟩ = some (.slice B1 (rd_T74 l0_0 x8).f1.length d1) ∧ w'.cell? ⟨wr.heap.size, 2, none⟩ = some (.slice B2 (rd_T74 l0_0 x8).f2.length d2)) (ds := []) #[false, false, false, false, false, false, false, false, false, false, false, false, false, false, false, false, false, false, false, false, false, false, false, false, false, false, false, false, false, false] (by kernel_rfl) rfl rfl ⟨ST.out.cell 0 rfl 0 rfl, ST.out.cell 0 rfl 1 rfl, ST.out.cell 0 rfl 2 rfl⟩ (fun hHeld => ?_)
            generalize (wr.alloc (.cells #[.string (rd_T74 l0_0 x8).f0, .slice B1 (rd_T74 l0_0 x8).f1.length d1, .slice B2 (rd_T74 l0_0 x8).f2.length d2] 74)).drew = w8 at ST hHeld ⊢
            refine SQ.p0 0 13 ?_
            refine SQ.t0 1 14 hHeld ?_
            refine one_ (i := 2) (N := some 15) #[true, true, true, false, false, false, false, false, false, false, false, false, false, false, false, false, false, false, false, false, false, false, false, false, false, false, false, false, false, false] rfl rfl (by kernel_rfl) (by decide) (fun K hK => ?_)
            refine goes_ Tryd.func91 (by kernel_rfl) rfl #[.string (rd_T74 l0_0 x8).f0] (by rfl) rfl rfl (by (try simp only [List.map_toArray, List.map_cons, List.map_nil]); first | done | rfl) ?_
            with_reducible refine (impl_isFileName.calls (rd_T74 l0_0 x8).f0 _ _ A7.out).mono ?_
            rintro e w9 ⟨rfl, hb⟩
            refine ⟨_, rfl, ?_⟩
            replace ST := Zh (ST.out.step hb)
            clear hb hHeld
            refine hK.out _ _ ⟨ST.out.cell 0 rfl 0 rfl, ST.out.cell 0 rfl 1 rfl, ST.out.cell 0 rfl 2 rfl⟩ (fun hHeld => ?_)
            clear hK K
            refine norm_ (a' := ?_) ?_ ?_
            rotate_left
            · show Act.put _ (some 15) _ = _
              simp only [Act.put, List.setIfInBounds_toArray, List.set_cons_zero, List.set_cons_succ, i64_w, i32_w]
              rfl
            refine SQ.p0 3 16 ?_
            refine SQ.p0 4 17 ?_
            refine SQ.p0 5 18 ?_
            refine SQ.t0 6 19 hHeld ?_
            refine SQ.p0 7 20 ?_
            refine SQ.p0 8 21 ?_
            refine SQ.t0 9 22 hHeld ?_
            refine SQ.p0 10 23 ?_
            refine SQ.p0 11 24 ?_
            refine SQ.p0 12 25 ?_
            refine SQ.p0 13 26 ?_
            refine SQ.p0 14 27 ?_
            refine SQ.p0 15 28 ?_
            refine SQ.p0 16 29 ?_
            refine SQ.p0 17 30 ?_
            refine SQ.o0 18 31 ?_
            refine SQ.o0 19 32 ?_
            refine SQ.o0 20 33 ?_
            refine SQ.o0 21 34 ?_
            refine SQ.o0 22 35 ?_
            refine SQ.o0 23 36 ?_
            refine SQ.o0 24 37 ?_
            refine SQ.o0 25 38 ?_
            refine SQ.o0 26 39 ?_
            refine SQ.o0 27 40 ?_
            refine SQ.p0 28 41 ?_
            refine SQ.p0 29 42 ?_
            refine done_ (by kernel_rfl) ?_
            clear hHeld
            go_wp2
            go_roundg k1
            case measure => omega
            case rel => exact ⟨_, rfl, H', ⟨ST.out.tail⟩⟩
        rw [if_neg p0] at H; exact absurd H (by simp)
      rw [if_neg c8] at H
      have q8 := decide_eq_false c8
      obtain rfl := Option.some.inj H
      have hc0 := ST.out.cell 0 rfl 0 (u := .slice A0_0 l0_0.length c0_0) rfl
      clear H c8
      go_wp2
      go_ret
      exact ⟨rfl, ST.out.b⟩
def impl_appendFile.fin (k : Nat) (l0_0 p : List S74) (a1 : ByteArray) (d : List Int) : Option (List S74 × Bool) := (impl_fileOf.f p a1).bind fun i => if 0 ≤ i then (if i < (p.length : Int) then (if (rd_T74 p i).f2.length + d.length ≤ 140737488355328 then (impl_isDisk.f k (p.set i.toNat ⟨(rd_T74 p i).f0, (rd_T74 p i).f1, (rd_T74 p i).f2 ++ d⟩)).bind fun t => if t = true then some (p.set i.toNat ⟨(rd_T74 p i).f0, (rd_T74 p i).f1, (rd_T74 p i).f2 ++ d⟩, true) else (impl_copyDisk.f k l0_0).bind fun o => some (o, false) else none) else none) else none
def impl_appendFile.f (k : Nat) (l0_0 : List S74) (a1 : ByteArray) (d : List Int) : Option (List S74 × Bool) := (impl_copyDisk.f k l0_0).bind fun o => (impl_isDisk.f k l0_0).bind fun t => if t = true then (impl_isFileName.f a1).bind fun n => if n = true then (impl_fileOf.f o a1).bind fun j => if j < 0 then (if (o.length + 1) * 64 ≤ 140737488355328 then impl_appendFile.fin k l0_0 (insM o ⟨a1, [], []⟩) a1 d else none) else impl_appendFile.fin k l0_0 o a1 d else some (o, false) else some (o, false)
set_option maxHeartbeats 8000000 in
set_option maxRecDepth 100000 in
theorem impl_appendFile.calls (k : Nat) (A0_0 : Option Addr) (c0_0 : Nat) (l0_0 : List S74) (a1 : ByteArray) (A2 : Option Addr) (c2 : Nat) (l2 : List Int) (r1 : List S74) (r2 : Bool) (w : World) (hr0_0 : Kd.C k74 w A0_0 l0_0.length l0_0) (hc0_0 : l0_0.length ≤ c0_0) (hr2 : Kd.C (Kd.int .u8) w A2 l2.length l2) (hc2 : l2.length ≤ c2) (h : impl_appendFile.f k l0_0 a1 l2 = some (r1, r2)) :
    Calls Tryd.prog 78 #[.agg #[.slice A0_0 l0_0.length c0_0], .string a1, .slice A2 l2.length c2] w fun e w' => ∃ v0_ : Value, e = .returned (.tuple #[.agg #[v0_], .bool r2]) ∧ Kd.S k74 74 w' w.heap.size (fun _ => True) v0_ r1 ∧ Below w.heap.size w w' := by
  have HR := Zh hr0_0
  have HC := Zh hc0_0
  have HR2 := Zh hr2
  have HC2 := Zh hc2
  clear hr0_0 hc0_0 hr2 hc2
  have ST := Zh (LW.St.start w)
  have hu29 := Tryd.underlying29
  have hu74 := Tryd.underlying74
  unfold impl_appendFile.f at h
  replace h := Option.bind_eq_some_iff.mp h
  obtain ⟨o, HA1, h⟩ := h
  replace h := Option.bind_eq_some_iff.mp h
  obtain ⟨t, HA2, h⟩ := h
  replace HA1 := Zh HA1
  replace HA2 := Zh HA2
  have H := Zh h
  clear h
  go_enter Tryd.func78, Tryd.ntmps78
  go_wp2_with fail
  replace ST := Zh (ST.out.alloc #[.slice A0_0 l0_0.length c0_0] 29 (g := w.heap.size) rfl)
  replace ST := Zh (ST.out.alloc #[.slice none 0 0] 29 (g := w.heap.size + 1) (by simp))
  with_reducible refine (impl_copyDisk.calls k _ _ l0_0 o _ (Kd.C_below HR.out ST.out.b) HC.out HA1.out).mono ?_
  rintro e w1 ⟨v1, rfl, ho, hb⟩
  obtain ⟨A1, c1, rfl⟩ := Kd.S_slice ho
  replace ST := Zh (ST.out.row hb ho)
  clear hb ho
  have hc1 := ST.out.cell 2 rfl 0 (u := .slice A0_0 l0_0.length c0_0) rfl
  have hl1 := ST.out.lt 2 rfl
  go_wp2_with fail
  replace ST := Zh (ST.out.alloc #[.slice A1 o.length c1] 29 (g := w1.heap.size) rfl)
  with_reducible refine (impl_isDisk.calls k _ _ l0_0 t _ (Kd.C_below HR.out ST.out.b) HC.out HA2.out).mono ?_
  rintro e w3 ⟨rfl, hb⟩
  replace ST := Zh (ST.out.step hb)
  clear hb hc1 hl1
  have h := H.out
  clear H
  by_cases ct : t = true
  · subst ct
    rw [if_pos rfl] at h
    replace h := Option.bind_eq_some_iff.mp h
    obtain ⟨n, HA3, h⟩ := h
    replace HA3 := Zh HA3
    have H := Zh h
    clear h
    go_wp2_with fail
    with_reducible refine (impl_isFileName.calls a1 n _ HA3.out).mono ?_
    rintro e w4 ⟨rfl, hb⟩
    replace ST := Zh (ST.out.step hb)
    clear hb
    have h := H.out
    clear H
    by_cases cn : n = true
    · subst cn
      rw [if_pos rfl] at h
      replace h := Option.bind_eq_some_iff.mp h
      obtain ⟨j, HA4, h⟩ := h
      replace HA4 := Zh HA4
      have H := Zh h
      clear h
      have hc2 := ST.out.cell 0 rfl 0 (u := .slice A1 o.length c1) rfl
      have hl2 := ST.out.lt 0 rfl
      go_wp2_with fail
      with_reducible refine (impl_fileOf.calls _ _ o a1 j _ (ST.out.reads 1 rfl).2.2 (ST.out.reads 1 rfl).2.1 HA4.out).mono ?_
      rintro e w5 ⟨rfl, hb⟩
      replace ST := Zh (ST.out.step hb)
      clear hb hc2 hl2
      have hc2 := ST.out.cell 0 rfl 0 (u := .slice A1 o.length c1) rfl
      have hl2 := ST.out.lt 0 rfl
      have hf2 := ST.out.frozen 0 rfl 0
      have h := H.out
      clear H
      by_cases cj : j < 0
      · rw [if_pos cj] at h
        have cjb : decide (j < 0) = true := decide_eq_true cj
        clear cj
        by_cases cq : (o.length + 1) * 64 ≤ 140737488355328
        · rw [if_pos cq] at h
          have HCQ := Zh cq
          have H := Zh h
          clear h cq
          go_wp2_with fail
          refine (impl_withFile.calls _ (fun _ => False) _ o ⟨a1, [], []⟩ (.slice none 0 0) (.slice none 0 0) w _ ST.out.b (ST.out.own 1 rfl) HCQ.out (k74_mkM _ _ _ (⟨a1, [], []⟩ : S74) (Kd.R_nil _ _ _ _ _) (Kd.R_nil _ _ _ _ _) AP.nil_ne) (fun k hk => hk.elim)).mono ?_
          rintro e w6 ⟨v', rfl, hS, hB6, hK6⟩
          obtain ⟨A6, c6, hv6⟩ := Kd.S_slice hS
          obtain ⟨q, hq⟩ : ∃ q, q = insM o ⟨a1, [], []⟩ := ⟨_, rfl⟩
          rw [← hq] at hS hv6
          subst hv6
          have hST := ST.out.grow 1 rfl (LW.row k74 74 w.heap.size (.slice A6 q.length c6) q _) (fun k hk => by
            rcases hk with a | a | a
            · exact .inl a
            · exact a.elim
            exact .inr a) hS hB6 hK6
          replace ST := Zh hST
          have H2 := Zh (show impl_appendFile.fin k l0_0 q a1 l2 = some (r1, r2) by rw [hq]; exact H.out)
          clear hST hS hB6 hK6 hq hc2 hl2 hf2 H
          have hc2 := ST.out.cell 0 rfl 0 (u := .slice A1 o.length c1) rfl
          have hl2 := ST.out.lt 0 rfl
          have hf2 := ST.out.frozen 0 rfl 0
          go_upto_region 6 with (fail)
          replace ST := Zh (ST.out.set 0 rfl 0 (.slice A6 q.length c6))
          generalize w6.setCell ⟨w1.heap.size, 0, none⟩ (.slice A6 q.length c6) = wY at ST ⊢
          have h := H2.out
          clear H2
          unfold impl_appendFile.fin at h
          replace h := Option.bind_eq_some_iff.mp h
          obtain ⟨i, HA5, h⟩ := h
          replace HA5 := Zh HA5
          by_cases ci : 0 ≤ i
          · rw [if_pos ci] at h
            by_cases cl : i < (q.length : Int)
            · rw [if_pos cl] at h
              by_cases cs : (rd_T74 q i).f2.length + l2.length ≤ 140737488355328
              · rw [if_pos cs] at h
                replace h := Option.bind_eq_some_iff.mp h
                obtain ⟨t2, HA6, h⟩ := h
                replace HA6 := Zh HA6
                have H := Zh h
                have HI0 := Zh ci
                have HIL := Zh cl
                have HSZ := Zh cs
                clear h cs hc2 hl2 hf2
                have p0 := eq_true ci
                have p1 := eq_true cl
                clear ci cl
                obtain ⟨g, cg, hv, _, _, _⟩ := Kd.S_form (ST.out.own 1 rfl) (by have := HI0.out; have := HIL.out; omega)
                injection hv with hv1 hv2 hv3
                subst hv1
                clear hv2 hv3
                replace ST := Zh ST.out.drew
                refine start_ (n := 7) (S := fun w' => w'.cell? ⟨w1.heap.size, 0, none⟩ = some (.slice (some ⟨g, 0, none⟩) q.length c6)) (ds := []) #[false, false, false, false, false, false, false] (by kernel_rfl) rfl rfl (ST.out.cell 0 rfl 0 rfl) (fun hHeld => ?_)
                generalize wY.drew = w8 at ST hHeld ⊢
                refine pure_ (i := 0) (N := some 29) (v := ?_) (a' := ?_) #[true, false, false, false, false, false, false] rfl rfl (by kernel_rfl) (fun _ _ _ h => h) (Or.inl ⟨by rfl, ?_⟩) ?_ ?_
                rotate_left
                · intro w'
                  go_simp
                  with_reducible rfl
                rotate_left
                · simp only [Act.put, List.setIfInBounds_toArray, List.set_cons_zero, List.set_cons_succ, i64_w, i32_w]
                  rfl
                refine pure_ (i := 3) (N := some 32) (v := ?_) (a' := ?_) #[true, false, false, true, false, false, false] rfl rfl (by kernel_rfl) (fun _ _ _ h => h) (Or.inl ⟨by rfl, ?_⟩) ?_ ?_
                rotate_left
                · intro w'
                  go_simp
                  with_reducible rfl
                rotate_left
                · simp only [Act.put, List.setIfInBounds_toArray, List.set_cons_zero, List.set_cons_succ, i64_w, i32_w]
                  rfl
                refine take_ (i := 1) (N := some 30) (v := ?_) (a' := ?_) #[true, true, false, true, false, false, false] rfl rfl (by kernel_rfl) (fun _ _ _ h => h) (Or.inl ⟨by rfl, ?_⟩) hHeld ?_ ?_
                rotate_left
                · rintro w' s0
                  go_simp
                  with_reducible rfl
                rotate_left
                · simp only [Act.put, List.setIfInBounds_toArray, List.set_cons_zero, List.set_cons_succ, i64_w, i32_w]
                  rfl
                refine take_ (i := 2) (N := some 31) (v := ?_) (a' := ?_) #[true, true, true, true, false, false, false] rfl rfl (by kernel_rfl) (fun _ _ _ h => h) (Or.inl ⟨by rfl, ?_⟩) hHeld ?_ ?_
                rotate_left
                · rintro w' s0
                  go_simp
                  with_reducible rfl
                rotate_left
                · simp only [Act.put, List.setIfInBounds_toArray, List.set_cons_zero, List.set_cons_succ, i64_w, i32_w]
                  rfl
                refine one_ (i := 4) (N := some 33) #[true, true, true, true, true, false, false] rfl rfl (by kernel_rfl) (by decide) (fun K hK => ?_)
                refine goes_ Tryd.func63 (by kernel_rfl) rfl #[.agg #[.slice (some ⟨g, 0, none⟩) q.length c6], .string a1] (by rfl) rfl rfl (by (try simp only [List.map_toArray, List.map_cons, List.map_nil]); first | done | rfl) ?_
                with_reducible refine (impl_fileOf.calls _ _ q a1 i _ (ST.out.reads 1 rfl).2.2 (ST.out.reads 1 rfl).2.1 HA5.out).mono ?_
                rintro e w9 ⟨rfl, hb⟩
                refine ⟨_, rfl, ?_⟩
                replace ST := Zh (ST.out.step hb)
                clear hb
                refine hK.out _ _ (ST.out.cell 0 rfl 0 rfl) (fun hHeld => ?_)
                clear hK K
                refine norm_ (a' := ?_) ?_ ?_
                rotate_left
                · show Act.put _ (some 33) _ = _
                  simp only [Act.put, List.setIfInBounds_toArray, List.set_cons_zero, List.set_cons_succ, i64_w, i32_w]
                  rfl
                refine pure_ (i := 5) (N := some 34) (v := ?_) (a' := ?_) #[true, true, true, true, true, true, false] rfl rfl (by kernel_rfl) (fun _ _ _ h => h) (Or.inl ⟨by rfl, ?_⟩) ?_ ?_
                rotate_left
                · intro w'
                  go_simp
                  with_reducible rfl
                rotate_left
                · simp only [Act.put, List.setIfInBounds_toArray, List.set_cons_zero, List.set_cons_succ, i64_w, i32_w]
                  rfl
                refine pure_ (i := 6) (N := some 9) (v := ?_) (a' := ?_) #[true, true, true, true, true, true, true] rfl rfl (by kernel_rfl) (fun _ _ _ h => h) (Or.inl ⟨by rfl, ?_⟩) ?_ ?_
                rotate_left
                · intro w'
                  go_simp
                  with_reducible rfl
                rotate_left
                · simp only [Act.put, List.setIfInBounds_toArray, List.set_cons_zero, List.set_cons_succ, i64_w, i32_w]
                  rfl
                refine done_ (by kernel_rfl) ?_
                clear hHeld
                obtain ⟨u1, u2, ok2, hy0, hy1, hy2, hfz, hR2, hng, hFu, back⟩ := lendLoose ST.out 1 rfl i HI0.out HIL.out
                obtain ⟨B2, d2, rfl⟩ := Kd.R_slice hR2
                have HBK := Zh back
                have HRR := Zh hR2
                have hgl := blk_lt_of hy2
                have hc2 := ST.out.cell 0 rfl 0 (u := .slice (some ⟨g, 0, none⟩) q.length c6) rfl
                have hl2 := ST.out.lt 0 rfl
                have HNG := Zh hng
                have HFU := Zh hFu
                clear back hR2 hng hFu p0 p1
                go_wp2_with (at_builtin; refine Kd.R_append_rows (Kd.int .u8) (w0 := w) w.heap.size rfl _ _ 33 5 (.int .u8 0) 1 rfl Tryd.underlying33 info5 rfl (by decide) (by omega) _ (rd_T74 q i).f2 l2 _ _ _ (fun k => ok2 k ∨ w9.heap.size ≤ k) (fun _ => False) rfl rfl (Kd.R_mono HRR.out (fun k hk => .inl hk)) (Kd.C_below HR2.out ST.out.b) (fun _ _ h => h) (fun _ h => h.elim) (fun k hk => .inr hk) ST.out.b ST.out.b.size (by have := HSZ.out; omega) ?_; intro v1 w10 q1 q2 q3 q4; obtain ⟨A3, c3, rfl⟩ := Kd.R_slice q1; have hgb := q3.block g hgl (fun he => HNG.out g (HRR.out.1 g he.symm) rfl); have hgb8 := q3.block _ hl2 (fun he => LW.Its.disj ST.out.i 1 0 _ _ (by decide) rfl rfl _ (HFU.out _ he.symm) rfl); have hcg : w10.cell? ⟨g, i.toNat * 3 + 2, none⟩ = some (.slice B2 (rd_T74 q i).f2.length d2) := (cell_blk hgb).trans hy2; have hfg : w10.frozen? ⟨g, i.toNat * 3 + 2, none⟩ = false := (frozen_blk hgb).trans hfz; have hc8 : w10.cell? ⟨w1.heap.size, 0, none⟩ = some (.slice (some ⟨g, 0, none⟩) q.length c6) := (cell_blk hgb8).trans hc2; have hg8 : g ≠ w1.heap.size := fun he => LW.Its.disj ST.out.i 1 0 _ _ (by decide) rfl rfl g ((Kd.S_R (ST.out.own 1 rfl)).1 g (by simp [Value.ownBlock])) he; have hg8' := hg8.symm; have Q := Zh (And.intro q1 (And.intro q2 (And.intro q3 q4))); clear q1 q2 q3 q4 hgb hgb8 hc2 hl2 hy0 hy1 hy2 hfz hgl)
                obtain ⟨q1, q2, q3, q4⟩ := Q.out
                rw [List.length_append] at q1 q4
                have hST := HBK.out (.slice A3 ((rd_T74 q i).f2.length + l2.length) c3) w10 ((rd_T74 q i).f2 ++ l2) (fun ok hok => Kd.R_mono (Kd.R_tight rfl q1) (fun k hk => hok k hk.symm)) q2 q3 q4
                clear q1 q2 q3 q4 Q HBK hcg hfg hc8 hg8 hg8' HNG HFU HRR
                obtain ⟨p', hp'⟩ : ∃ p', p' = q.set i.toNat (⟨(rd_T74 q i).f0, (rd_T74 q i).f1, (rd_T74 q i).f2 ++ l2⟩ : S74) := ⟨_, rfl⟩
                have hpl : p'.length = q.length := by rw [hp', List.length_set]
                rw [← hp'] at hST
                replace ST := Zh hST
                have HA7 := Zh (show impl_isDisk.f k p' = some t2 by rw [hp']; exact HA6.out)
                have H3 := Zh (show (if t2 = true then some (p', true) else (impl_copyDisk.f k l0_0).bind fun o => some (o, false)) = some (r1, r2) by rw [hp']; exact H.out)
                clear hST hp' HA6 H
                generalize w10.setCell ⟨g, i.toNat * 3 + 2, none⟩ (.slice A3 ((rd_T74 q i).f2.length + l2.length) c3) = w11 at ST ⊢
                have hcall := impl_isDisk.calls k (some ⟨g, 0, none⟩) c6 p' t2 w11 (ST.out.reads 1 rfl).2.2 (by have := (ST.out.reads 1 rfl).2.1; omega) HA7.out
                rw [hpl] at hcall
                clear hpl
                refine hcall.mono ?_
                rintro e w12 ⟨rfl, hb⟩
                replace ST := Zh (ST.out.step hb)
                clear hb hcall
                have h := H3.out
                clear H3
                by_cases ct2 : t2 = true
                · subst ct2
                  rw [if_pos rfl] at h
                  obtain ⟨rfl, rfl⟩ := Prod.mk.inj (Option.some.inj h)
                  clear h
                  have hc2 := ST.out.cell 0 rfl 0 (u := .slice (some ⟨g, 0, none⟩) q.length c6) rfl
                  have hl2 := ST.out.lt 0 rfl
                  have hc3 := ST.out.cell 2 rfl 0 (u := .slice none 0 0) rfl
                  have hl3 := ST.out.lt 2 rfl
                  have hf3 := ST.out.frozen 2 rfl 0
                  go_wp2_with fail
                  replace ST := Zh (ST.out.set 2 rfl 0 (.slice (some ⟨g, 0, none⟩) q.length c6))
                  refine Zq (results_ct rfl _ _ (w.heap.size + 1) 29 #[.slice (some ⟨g, 0, none⟩) q.length c6] (0, 0) _ rfl (ST.out.blk 2 rfl) Tryd.underlying29 rfl (by kernel_rfl)) rfl ?_
                  exact ⟨_, rfl, Kd.S_mono (ST.out.own 1 rfl) (fun _ _ => trivial), ST.out.b⟩
                rw [if_neg ct2] at h
                obtain rfl : t2 = false := by simpa using ct2
                replace h := Option.bind_eq_some_iff.mp h
                obtain ⟨o2, HAo, h⟩ := h
                obtain ⟨rfl, rfl⟩ := Prod.mk.inj (Option.some.inj h)
                clear h ct2
                replace HAo := Zh HAo
                have hc1 := ST.out.cell 3 rfl 0 (u := .slice A0_0 l0_0.length c0_0) rfl
                have hl1 := ST.out.lt 3 rfl
                go_wp2_with fail
                with_reducible refine (impl_copyDisk.calls k _ _ l0_0 o2 _ (Kd.C_below HR.out ST.out.b) HC.out HAo.out).mono ?_
                rintro e w13 ⟨v9, rfl, ho, hb⟩
                obtain ⟨A9, c9, rfl⟩ := Kd.S_slice ho
                replace ST := Zh (ST.out.row hb ho)
                clear hb ho hc1 hl1
                have hc3 := ST.out.cell 3 rfl 0 (u := .slice none 0 0) rfl
                have hl3 := ST.out.lt 3 rfl
                have hf3 := ST.out.frozen 3 rfl 0
                go_wp2
                replace ST := Zh (ST.out.set 3 rfl 0 (.slice A9 o2.length c9))
                refine Zq (results_ct rfl _ _ (w.heap.size + 1) 29 #[.slice A9 o2.length c9] (0, 0) _ rfl (ST.out.blk 3 rfl) Tryd.underlying29 rfl (by kernel_rfl)) rfl ?_
                exact ⟨_, rfl, Kd.S_mono (ST.out.own 0 rfl) (fun _ _ => trivial), ST.out.b⟩
              rw [if_neg cs] at h; exact absurd h (by simp)
            rw [if_neg cl] at h; exact absurd h (by simp)
          rw [if_neg ci] at h; exact absurd h (by simp)
        rw [if_neg cq] at h; exact absurd h (by simp)
      rw [if_neg cj] at h
      have cjb : decide (j < 0) = false := decide_eq_false cj
      clear cj
      have H2 := Zh h
      clear h
      go_upto_region 6 with (fail)
      generalize hY : w5 = wY at ST hc2 hl2 hf2 ⊢
      clear hY
      have h := H2.out
      clear H2
      unfold impl_appendFile.fin at h
      replace h := Option.bind_eq_some_iff.mp h
      obtain ⟨i, HA5, h⟩ := h
      replace HA5 := Zh HA5
      by_cases ci : 0 ≤ i
      · rw [if_pos ci] at h
        by_cases cl : i < (o.length : Int)
        · rw [if_pos cl] at h
          by_cases cs : (rd_T74 o i).f2.length + l2.length ≤ 140737488355328
          · rw [if_pos cs] at h
            replace h := Option.bind_eq_some_iff.mp h
            obtain ⟨t2, HA6, h⟩ := h
            replace HA6 := Zh HA6
            have H := Zh h
            have HI0 := Zh ci
            have HIL := Zh cl
            have HSZ := Zh cs
            clear h cs hc2 hl2 hf2
            have p0 := eq_true ci
            have p1 := eq_true cl
            clear ci cl
            obtain ⟨g, cg, hv, _, _, _⟩ := Kd.S_form (ST.out.own 1 rfl) (by have := HI0.out; have := HIL.out; omega)
            injection hv with hv1 hv2 hv3
            subst hv1
            clear hv2 hv3
            replace ST := Zh ST.out.drew
            refine start_ (n := 7) (S := fun w' => w'.cell? ⟨w1.heap.size, 0, none⟩ = some (.slice (some ⟨g, 0, none⟩) o.length c1)) (ds := []) #[false, false, false, false, false, false, false] (by kernel_rfl) rfl rfl (ST.out.cell 0 rfl 0 rfl) (fun hHeld => ?_)
            generalize wY.drew = w8 at ST hHeld ⊢
            refine pure_ (i := 0) (N := some 29) (v := ?_) (a' := ?_) #[true, false, false, false, false, false, false] rfl rfl (by kernel_rfl) (fun _ _ _ h => h) (Or.inl ⟨by rfl, ?_⟩) ?_ ?_
            rotate_left
            · intro w'
              go_simp
              with_reducible rfl
            rotate_left
            · simp only [Act.put, List.setIfInBounds_toArray, List.set_cons_zero, List.set_cons_succ, i64_w, i32_w]
              rfl
            refine pure_ (i := 3) (N := some 32) (v := ?_) (a' := ?_) #[true, false, false, true, false, false, false] rfl rfl (by kernel_rfl) (fun _ _ _ h => h) (Or.inl ⟨by rfl, ?_⟩) ?_ ?_
            rotate_left
            · intro w'
              go_simp
              with_reducible rfl
            rotate_left
            · simp only [Act.put, List.setIfInBounds_toArray, List.set_cons_zero, List.set_cons_succ, i64_w, i32_w]
              rfl
            refine take_ (i := 1) (N := some 30) (v := ?_) (a' := ?_) #[true, true, false, true, false, false, false] rfl rfl (by kernel_rfl) (fun _ _ _ h => h) (Or.inl ⟨by rfl, ?_⟩) hHeld ?_ ?_
            rotate_left
            · rintro w' s0
              go_simp
              with_reducible rfl
            rotate_left
            · simp only [Act.put, List.setIfInBounds_toArray, List.set_cons_zero, List.set_cons_succ, i64_w, i32_w]
              rfl
            refine take_ (i := 2) (N := some 31) (v := ?_) (a' := ?_) #[true, true, true, true, false, false, false] rfl rfl (by kernel_rfl) (fun _ _ _ h => h) (Or.inl ⟨by rfl, ?_⟩) hHeld ?_ ?_
            rotate_left
            · rintro w' s0
              go_simp
              with_reducible rfl
            rotate_left
            · simp only [Act.put, List.setIfInBounds_toArray, List.set_cons_zero, List.set_cons_succ, i64_w, i32_w]
              rfl
            refine one_ (i := 4) (N := some 33) #[true, true, true, true, true, false, false] rfl rfl (by kernel_rfl) (by decide) (fun K hK => ?_)
            refine goes_ Tryd.func63 (by kernel_rfl) rfl #[.agg #[.slice (some ⟨g, 0, none⟩) o.length c1], .string a1] (by rfl) rfl rfl (by (try simp only [List.map_toArray, List.map_cons, List.map_nil]); first | done | rfl) ?_
            with_reducible refine (impl_fileOf.calls _ _ o a1 i _ (ST.out.reads 1 rfl).2.2 (ST.out.reads 1 rfl).2.1 HA5.out).mono ?_
            rintro e w9 ⟨rfl, hb⟩
            refine ⟨_, rfl, ?_⟩
            replace ST := Zh (ST.out.step hb)
            clear hb
            refine hK.out _ _ (ST.out.cell 0 rfl 0 rfl) (fun hHeld => ?_)
            clear hK K
            refine norm_ (a' := ?_) ?_ ?_
            rotate_left
            · show Act.put _ (some 33) _ = _
              simp only [Act.put, List.setIfInBounds_toArray, List.set_cons_zero, List.set_cons_succ, i64_w, i32_w]
              rfl
            refine pure_ (i := 5) (N := some 34) (v := ?_) (a' := ?_) #[true, true, true, true, true, true, false] rfl rfl (by kernel_rfl) (fun _ _ _ h => h) (Or.inl ⟨by rfl, ?_⟩) ?_ ?_
            rotate_left
            · intro w'
              go_simp
              with_reducible rfl
            rotate_left
            · simp only [Act.put, List.setIfInBounds_toArray, List.set_cons_zero, List.set_cons_succ, i64_w, i32_w]
              rfl
            refine pure_ (i := 6) (N := some 9) (v := ?_) (a' := ?_) #[true, true, true, true, true, true, true] rfl rfl (by kernel_rfl) (fun _ _ _ h => h) (Or.inl ⟨by rfl, ?_⟩) ?_ ?_
            rotate_left
            · intro w'
              go_simp
              with_reducible rfl
            rotate_left
            · simp only [Act.put, List.setIfInBounds_toArray, List.set_cons_zero, List.set_cons_succ, i64_w, i32_w]
              rfl
            refine done_ (by kernel_rfl) ?_
            clear hHeld
            obtain ⟨u1, u2, ok2, hy0, hy1, hy2, hfz, hR2, hng, hFu, back⟩ := lendLoose ST.out 1 rfl i HI0.out HIL.out
            obtain ⟨B2, d2, rfl⟩ := Kd.R_slice hR2
            have HBK := Zh back
            have HRR := Zh hR2
            have hgl := blk_lt_of hy2
            have hc2 := ST.out.cell 0 rfl 0 (u := .slice (some ⟨g, 0, none⟩) o.length c1) rfl
            have hl2 := ST.out.lt 0 rfl
            have HNG := Zh hng
            have HFU := Zh hFu
            clear back hR2 hng hFu p0 p1
            go_wp2_with (at_builtin; refine Kd.R_append_rows (Kd.int .u8) (w0 := w) w.heap.size rfl _ _ 33 5 (.int .u8 0) 1 rfl Tryd.underlying33 info5 rfl (by decide) (by omega) _ (rd_T74 o i).f2 l2 _ _ _ (fun k => ok2 k ∨ w9.heap.size ≤ k) (fun _ => False) rfl rfl (Kd.R_mono HRR.out (fun k hk => .inl hk)) (Kd.C_below HR2.out ST.out.b) (fun _ _ h => h) (fun _ h => h.elim) (fun k hk => .inr hk) ST.out.b ST.out.b.size (by have := HSZ.out; omega) ?_; intro v1 w10 q1 q2 q3 q4; obtain ⟨A3, c3, rfl⟩ := Kd.R_slice q1; have hgb := q3.block g hgl (fun he => HNG.out g (HRR.out.1 g he.symm) rfl); have hgb8 := q3.block _ hl2 (fun he => LW.Its.disj ST.out.i 1 0 _ _ (by decide) rfl rfl _ (HFU.out _ he.symm) rfl); have hcg : w10.cell? ⟨g, i.toNat * 3 + 2, none⟩ = some (.slice B2 (rd_T74 o i).f2.length d2) := (cell_blk hgb).trans hy2; have hfg : w10.frozen? ⟨g, i.toNat * 3 + 2, none⟩ = false := (frozen_blk hgb).trans hfz; have hc8 : w10.cell? ⟨w1.heap.size, 0, none⟩ = some (.slice (some ⟨g, 0, none⟩) o.length c1) := (cell_blk hgb8).trans hc2; have hg8 : g ≠ w1.heap.size := fun he => LW.Its.disj ST.out.i 1 0 _ _ (by decide) rfl rfl g ((Kd.S_R (ST.out.own 1 rfl)).1 g (by simp [Value.ownBlock])) he; have hg8' := hg8.symm; have Q := Zh (And.intro q1 (And.intro q2 (And.intro q3 q4))); clear q1 q2 q3 q4 hgb hgb8 hc2 hl2 hy0 hy1 hy2 hfz hgl)
            obtain ⟨q1, q2, q3, q4⟩ := Q.out
            rw [List.length_append] at q1 q4
            have hST := HBK.out (.slice A3 ((rd_T74 o i).f2.length + l2.length) c3) w10 ((rd_T74 o i).f2 ++ l2) (fun ok hok => Kd.R_mono (Kd.R_tight rfl q1) (fun k hk => hok k hk.symm)) q2 q3 q4
            clear q1 q2 q3 q4 Q HBK hcg hfg hc8 hg8 hg8' HNG HFU HRR
            obtain ⟨p', hp'⟩ : ∃ p', p' = o.set i.toNat (⟨(rd_T74 o i).f0, (rd_T74 o i).f1, (rd_T74 o i).f2 ++ l2⟩ : S74) := ⟨_, rfl⟩
            have hpl : p'.length = o.length := by rw [hp', List.length_set]
            rw [← hp'] at hST
            replace ST := Zh hST
            have HA7 := Zh (show impl_isDisk.f k p' = some t2 by rw [hp']; exact HA6.out)
            have H3 := Zh (show (if t2 = true then some (p', true) else (impl_copyDisk.f k l0_0).bind fun o => some (o, false)) = some (r1, r2) by rw [hp']; exact H.out)
            clear hST hp' HA6 H
            generalize w10.setCell ⟨g, i.toNat * 3 + 2, none⟩ (.slice A3 ((rd_T74 o i).f2.length + l2.length) c3) = w11 at ST ⊢
            have hcall := impl_isDisk.calls k (some ⟨g, 0, none⟩) c1 p' t2 w11 (ST.out.reads 1 rfl).2.2 (by have := (ST.out.reads 1 rfl).2.1; omega) HA7.out
            rw [hpl] at hcall
            clear hpl
            refine hcall.mono ?_
            rintro e w12 ⟨rfl, hb⟩
            replace ST := Zh (ST.out.step hb)
            clear hb hcall
            have h := H3.out
            clear H3
            by_cases ct2 : t2 = true
            · subst ct2
              rw [if_pos rfl] at h
              obtain ⟨rfl, rfl⟩ := Prod.mk.inj (Option.some.inj h)
              clear h
              have hc2 := ST.out.cell 0 rfl 0 (u := .slice (some ⟨g, 0, none⟩) o.length c1) rfl
              have hl2 := ST.out.lt 0 rfl
              have hc3 := ST.out.cell 2 rfl 0 (u := .slice none 0 0) rfl
              have hl3 := ST.out.lt 2 rfl
              have hf3 := ST.out.frozen 2 rfl 0
              go_wp2_with fail
              replace ST := Zh (ST.out.set 2 rfl 0 (.slice (some ⟨g, 0, none⟩) o.length c1))
              refine Zq (results_ct rfl _ _ (w.heap.size + 1) 29 #[.slice (some ⟨g, 0, none⟩) o.length c1] (0, 0) _ rfl (ST.out.blk 2 rfl) Tryd.underlying29 rfl (by kernel_rfl)) rfl ?_
              exact ⟨_, rfl, Kd.S_mono (ST.out.own 1 rfl) (fun _ _ => trivial), ST.out.b⟩
            rw [if_neg ct2] at h
            obtain rfl : t2 = false := by simpa using ct2
            replace h := Option.bind_eq_some_iff.mp h
            obtain ⟨o2, HAo, h⟩ := h
            obtain ⟨rfl, rfl⟩ := Prod.mk.inj (Option.some.inj h)
            clear h ct2
            replace HAo := Zh HAo
            have hc1 := ST.out.cell 3 rfl 0 (u := .slice A0_0 l0_0.length c0_0) rfl
            have hl1 := ST.out.lt 3 rfl
            go_wp2_with fail
            with_reducible refine (impl_copyDisk.calls k _ _ l0_0 o2 _ (Kd.C_below HR.out ST.out.b) HC.out HAo.out).mono ?_
            rintro e w13 ⟨v9, rfl, ho, hb⟩
            obtain ⟨A9, c9, rfl⟩ := Kd.S_slice ho
            replace ST := Zh (ST.out.row hb ho)
            clear hb ho hc1 hl1
            have hc3 := ST.out.cell 3 rfl 0 (u := .slice none 0 0) rfl
            have hl3 := ST.out.lt 3 rfl
            have hf3 := ST.out.frozen 3 rfl 0
            go_wp2
            replace ST := Zh (ST.out.set 3 rfl 0 (.slice A9 o2.length c9))
            refine Zq (results_ct rfl _ _ (w.heap.size + 1) 29 #[.slice A9 o2.length c9] (0, 0) _ rfl (ST.out.blk 3 rfl) Tryd.underlying29 rfl (by kernel_rfl)) rfl ?_
            exact ⟨_, rfl, Kd.S_mono (ST.out.own 0 rfl) (fun _ _ => trivial), ST.out.b⟩
          rw [if_neg cs] at h; exact absurd h (by simp)
        rw [if_neg cl] at h; exact absurd h (by simp)
      rw [if_neg ci] at h; exact absurd h (by simp)
    rw [if_neg cn] at h
    obtain rfl : n = false := by simpa using cn
    clear cn
    obtain ⟨rfl, rfl⟩ := Prod.mk.inj (Option.some.inj h)
    clear h
    have hc2 := ST.out.cell 0 rfl 0 (u := .slice A1 o.length c1) rfl
    have hl2 := ST.out.lt 0 rfl
    have hc3 := ST.out.cell 2 rfl 0 (u := .slice none 0 0) rfl
    have hl3 := ST.out.lt 2 rfl
    have hf3 := ST.out.frozen 2 rfl 0
    go_wp2_with fail
    replace ST := Zh (ST.out.set 2 rfl 0 (.slice A1 o.length c1))
    refine Zq (results_ct rfl _ _ (w.heap.size + 1) 29 #[.slice A1 o.length c1] (0, 0) _ rfl (ST.out.blk 2 rfl) Tryd.underlying29 rfl (by kernel_rfl)) rfl ?_
    exact ⟨_, rfl, Kd.S_mono (ST.out.own 1 rfl) (fun _ _ => trivial), ST.out.b⟩
  rw [if_neg ct] at h
  obtain rfl : t = false := by simpa using ct
  clear ct
  obtain ⟨rfl, rfl⟩ := Prod.mk.inj (Option.some.inj h)
  clear h
  have hc2 := ST.out.cell 0 rfl 0 (u := .slice A1 o.length c1) rfl
  have hl2 := ST.out.lt 0 rfl
  have hc3 := ST.out.cell 2 rfl 0 (u := .slice none 0 0) rfl
  have hl3 := ST.out.lt 2 rfl
  have hf3 := ST.out.frozen 2 rfl 0
  go_wp2_with fail
  replace ST := Zh (ST.out.set 2 rfl 0 (.slice A1 o.length c1))
  refine Zq (results_ct rfl _ _ (w.heap.size + 1) 29 #[.slice A1 o.length c1] (0, 0) _ rfl (ST.out.blk 2 rfl) Tryd.underlying29 rfl (by kernel_rfl)) rfl ?_
  exact ⟨_, rfl, Kd.S_mono (ST.out.own 1 rfl) (fun _ _ => trivial), ST.out.b⟩
end Go.Proofs.YtmgeffgcihfpcaaDoor.F

namespace Go.Proofs.YtmgeffgcihfpcaaDoor.F
open Go.Proofs.YtmgeffgcihfpcaaDoor
open Go.RowKit Go.Proofs.YtmgeffgcihfpcaaDoorW.PrintWords Go.Proofs.YtmgeffgcihfpcaaDoorW.PrintWords.Kd Go.Proofs.YtmgeffgcihfpcaaDoorW.PrintMore.Kd Go.Proofs.YtmgeffgcihfpcaaDoorW.PrintLast Go.Proofs.YtmgeffgcihfpcaaDoorW.PrintMore
attribute [local go_sem] max2_int min2_int max_two min_two max_three min_three max_four min_four   -- for this text's walks alone
set_option linter.unusedVariables false
set_option linter.unusedSimpArgs false
def impl_File_content.f (a0_0 : ByteArray) (l0_1 : List Int) (l0_2 : List Int) : Option (List Int) := (some (([] : List Int) : List Int)).bind fun y197 => (if y197.length + l0_1.length < 140737488355328 then ((some (y197 ++ l0_1 : List Int)).bind fun y200 => (if y200.length + l0_2.length < 140737488355328 then (some (y200 ++ l0_2)) else (none))) else (none))
def impl_File_content.T1 : Bool × List (List Nat × List Nat) := (true, [([], []), ([], []), ([1], [1]), ([0, 2], [0, 2]), ([], []), ([4], [4]), ([3, 5, 3], [3, 5]), ([6, 6, 0, 1, 2, 3, 4, 5, 6], [6])])
def impl_File_content.B1 : List Nat := [0, 0, 2, 7, 0, 16, 63, 127]
theorem impl_File_content.tab1 : rtab .any (opsOf Tryd.f64 1) = impl_File_content.T1 := by kernel_rfl
theorem impl_File_content.bits1 : waitsOk impl_File_content.T1.2 impl_File_content.B1 = true := by kernel_rfl
set_option maxHeartbeats 8000000 in
set_option maxRecDepth 100000 in
theorem impl_File_content.calls (a0_0 : ByteArray) (A0_1 : Option Addr) (c0_1 : Nat) (l0_1 : List Int) (A0_2 : Option Addr) (c0_2 : Nat) (l0_2 : List Int) (r : List Int) (w : World) (hr0_1 : Kd.C (Kd.int .u8) w A0_1 l0_1.length l0_1) (hc0_1 : l0_1.length ≤ c0_1) (hr0_2 : Kd.C (Kd.int .u8) w A0_2 l0_2.length l0_2) (hc0_2 : l0_2.length ≤ c0_2) (h : impl_File_content.f a0_0 l0_1 l0_2 = some r) :
  Calls Tryd.prog 64 #[.agg #[.string a0_0, .slice A0_1 l0_1.length c0_1, .slice A0_2 l0_2.length c0_2]] w fun e w' => ∃ v0_ : Value, e = .returned (v0_) ∧ Kd.R (Kd.int .u8) 5 w' w.heap.size (fun _ => True) v0_ r ∧ Below w.heap.size w w' := by
 have hu74 := Tryd.underlying74
 have HR0_1 := Zh hr0_1
 have HC0_1 := Zh hc0_1
 clear hr0_1 hc0_1
 have HR0_2 := Zh hr0_2
 have HC0_2 := Zh hc0_2
 clear hr0_2 hc0_2
 have HB := Zh (Below.refl w.heap.size w)
 have H : ((some (([] : List Int) : List Int)).bind fun y197 => (if y197.length + l0_1.length < 140737488355328 then ((some (y197 ++ l0_1 : List Int)).bind fun y200 => (if y200.length + l0_2.length < 140737488355328 then (some (y200 ++ l0_2)) else (none))) else (none))) = some r := h
 clear h
 obtain ⟨y197, hy197⟩ : ∃ y_ : List Int, y_ = (([] : List Int)) := ⟨_, rfl⟩
 replace H : (if y197.length + l0_1.length < 140737488355328 then ((some (y197 ++ l0_1 : List Int)).bind fun y200 => (if y200.length + l0_2.length < 140737488355328 then (some (y200 ++ l0_2)) else (none))) else (none)) = some r := by first | (rw [hy197]; with_reducible exact H) | (have H2_ := (Option.bind_some _ _).symm.trans H; rw [hy197]; with_reducible exact H2_) | (have H2_ := (Option.bind_some _ _).symm.trans H; with_reducible exact H2_) | with_reducible exact H | (rw [hy197]; exact H) | exact H
 have Ny197 := Zh hy197
 clear hy197
 by_cases c2 : y197.length + l0_1.length < 140737488355328
 ·
  rw [if_pos c2] at H
  have LMc2 := Zh c2
  clear c2
  obtain ⟨y200, hy200⟩ : ∃ y_ : List Int, y_ = (y197 ++ l0_1) := ⟨_, rfl⟩
  replace H : (if y200.length + l0_2.length < 140737488355328 then (some (y200 ++ l0_2)) else (none)) = some r := by first | (rw [hy200]; with_reducible exact H) | (have H2_ := (Option.bind_some _ _).symm.trans H; rw [hy200]; with_reducible exact H2_) | (have H2_ := (Option.bind_some _ _).symm.trans H; with_reducible exact H2_) | with_reducible exact H | (rw [hy200]; exact H) | exact H
  have Ny200 := Zh hy200
  clear hy200
  by_cases c3 : y200.length + l0_2.length < 140737488355328
  ·
   rw [if_pos c3] at H
   have LMc3 := Zh c3
   clear c3
   obtain ⟨y203, hy203⟩ : ∃ y_ : List Int, y_ = (y200 ++ l0_2) := ⟨_, rfl⟩
   replace H : (some y203) = some r := by first | (rw [hy203]; with_reducible exact H) | (have H2_ := (Option.bind_some _ _).symm.trans H; rw [hy203]; with_reducible exact H2_) | (have H2_ := (Option.bind_some _ _).symm.trans H; with_reducible exact H2_) | with_reducible exact H | (rw [hy203]; exact H) | exact H
   have Ny203 := Zh hy203
   clear hy203
   obtain rfl := Option.some.inj H
   go_enter Tryd.func64, Tryd.ntmps64
   try go_wp2_with (first | ((with_reducible refine gate_dst (N := 1) rfl ?_); refine box_event ?hg (N := 1) ?hd (cs := #[.string a0_0, .slice A0_1 l0_1.length c0_1, .slice A0_2 l0_2.length c0_2]) (t := 74) ?hr ?_; (case hd => rfl); (case hg => rfl); (case hr => first | (go_simp; done) | (go_simp; rfl)); intro gb196 hg w4 hbox hb; have BK196 := Zh (hbox); have GW196 := Zh ((by rw [hg]; exact (below_size Zs) : w.heap.size ≤ gb196)); have GE196 := Zh ((by rw [hg]; exact (below_size Zs) : w.heap.size ≤ gb196)); replace HB := Zh (Zl Zs hb); clear hb hbox hg))
   replace BK196 := Zh (Zb BK196.out)
   replace HB := Zh (Ze HB.out)
   refine start_ (n := 8) (S := fun w' => w'.cell? ⟨gb196, 0, none⟩ = some (.string a0_0) ∧ w'.cell? ⟨gb196, 1, none⟩ = some (.slice A0_1 l0_1.length c0_1) ∧ w'.cell? ⟨gb196, 2, none⟩ = some (.slice A0_2 l0_2.length c0_2)) (ds := []) #[false, false, false, false, false, false, false, false] (by kernel_rfl) rfl rfl ⟨(blk_cell BK196.out 0).trans rfl, (blk_cell BK196.out 1).trans rfl, (blk_cell BK196.out 2).trans rfl⟩ (fun hHeld => ?_); refine with_tabW impl_File_content.tab1 impl_File_content.bits1 (fun HT_ HW_ => ?_)
   generalize w4.drew = w5 at BK196 HB hHeld ⊢
   refine SQ.pu 1 4 HT_ ?_
   refine SQ.pu 4 7 HT_ ?_
   refine SQ.tk 2 5 HT_ HW_ hHeld ?_
   refine SQ.tk 5 8 HT_ HW_ hHeld ?_
   refine one_ (i := 0) (N := some 3) #[true, true, true, false, true, true, false, false] rfl rfl (one_of HT_.out (by kernel_rfl)) (by decide) (fun K hK => ?_)
   refine R_lit_step (Kd.int .u8) _ 5 ?hg (N := 3) ?hd (xs := ([] : List Int)) (inner := []) (ok := fun _ => True) (okp := fun _ => True) ?hr ?hp (fun _ hk => hk) trivial (Below.refl _ _) (Nat.le_refl _) (by simp) ?_; (case hd => rfl); (case hg => rfl); (case hr => first | (go_simp; done) | (go_simp; rfl)); (case hp => exact (Reps.none _ _))
   intro v198 w6 ho7 hb hg_ hnew_
   clear hg_ hnew_
   (first | rw [← Ny197.out] at ho7 | (simp only [Int.reduceToNat] at ho7; rw [← Ny197.out] at ho7))
   have HO199 := Zh (R_lower ho7 (below_size Zs))
   replace BK196 := Zh (Zm (g := gb196) (o := .cells #[.string a0_0, .slice A0_1 l0_1.length c0_1, .slice A0_2 l0_2.length c0_2] 74 (0, 0)) Zk hb)
   replace HB := Zh (Zl Zs hb)
   clear hb ho7
   refine hK.out _ _ ⟨(blk_cell BK196.out 0).trans rfl, (blk_cell BK196.out 1).trans rfl, (blk_cell BK196.out 2).trans rfl⟩ (fun hHeld => ?_)
   clear hK K
   refine norm_ (a' := ?_) ?_ ?_
   rotate_left
   ·
    show Act.put _ (some 3) _ = _
    simp only [Act.put, List.setIfInBounds_toArray, List.set_cons_zero, List.set_cons_succ, i64_w, i32_w]
    rfl
   refine one_ (i := 3) (N := some 6) #[true, true, true, true, true, true, false, false] rfl rfl (one_of HT_.out (by kernel_rfl)) (by decide) (fun K hK => ?_)
   refine R_append_rows_step (Kd.int .u8) (w0 := w) w.heap.size (by rfl) (.tmp 3) (.tmp 5) 33 5 (.int .u8 0) 1 rfl Tryd.underlying33 info5 rfl (by decide) (by omega) v198 y197 l0_1 _ _ _ (fun _ => True) (fun _ => False) rfl rfl ?aO ?aR (fun _ _ h => h) (fun _ h => h.elim) ?aF ?aB ?aS ?aL ?_
   (case aR => repeat (first | exact (C_below HR0_1.out HB.out) | (with_reducible refine C_alloc ?_ _) | (with_reducible refine C_drewN ?_ _) | (with_reducible refine C_drew ?_)))
   (case aB => exact Zs)
   (case aF => exact (fun _ _ => trivial))
   (case aO => exact (ZR HO199.out))
   (case aS => exact (below_size Zs))
   (case aL => have := LMc2.out; omega)
   intro v201 w8 ho hb hg hat
   rw [← Ny200.out] at ho
   have n0_ := Zh (blk_grown (g := gb196) (o := .cells #[.string a0_0, .slice A0_1 l0_1.length c0_1, .slice A0_2 l0_2.length c0_2] 74 (0, 0)) Zk hg (R_ne HO199.out BK196.out (by decide)))
   have n1_ := Zh (hb)
   have n2_ := Zh (ho)
   clear BK196
   clear HB
   clear HO199
   have BK196 := n0_
   have HB := n1_
   have HO202 := n2_
   clear n0_ n1_ n2_
   clear ho hb hg hat
   refine hK.out _ _ ⟨(blk_cell BK196.out 0).trans rfl, (blk_cell BK196.out 1).trans rfl, (blk_cell BK196.out 2).trans rfl⟩ (fun hHeld => ?_)
   clear hK K
   refine norm_ (a' := ?_) ?_ ?_
   rotate_left
   ·
    show Act.put _ (some 6) _ = _
    simp only [Act.put, List.setIfInBounds_toArray, List.set_cons_zero, List.set_cons_succ, i64_w, i32_w]
    rfl
   refine one_ (i := 6) (N := some 9) #[true, true, true, true, true, true, true, false] rfl rfl (one_of HT_.out (by kernel_rfl)) (by decide) (fun K hK => ?_)
   refine R_append_rows_step (Kd.int .u8) (w0 := w) w.heap.size (by rfl) (.tmp 6) (.tmp 8) 33 5 (.int .u8 0) 1 rfl Tryd.underlying33 info5 rfl (by decide) (by omega) v201 y200 l0_2 _ _ _ (fun _ => True) (fun _ => False) rfl rfl ?aO ?aR (fun _ _ h => h) (fun _ h => h.elim) ?aF ?aB ?aS ?aL ?_
   (case aR => repeat (first | exact (C_below HR0_2.out HB.out) | (with_reducible refine C_alloc ?_ _) | (with_reducible refine C_drewN ?_ _) | (with_reducible refine C_drew ?_)))
   (case aB => exact Zs)
   (case aF => exact (fun _ _ => trivial))
   (case aO => exact (ZR HO202.out))
   (case aS => exact (below_size Zs))
   (case aL => have := LMc3.out; omega)
   intro v204 w9 ho hb hg hat
   rw [← Ny203.out] at ho
   have n0_ := Zh (blk_grown (g := gb196) (o := .cells #[.string a0_0, .slice A0_1 l0_1.length c0_1, .slice A0_2 l0_2.length c0_2] 74 (0, 0)) Zk hg (R_ne HO202.out BK196.out (by decide)))
   have n1_ := Zh (hb)
   have n2_ := Zh (ho)
   clear BK196
   clear HB
   clear HO202
   have BK196 := n0_
   have HB := n1_
   have HO205 := n2_
   clear n0_ n1_ n2_
   clear ho hb hg hat
   refine hK.out _ _ ⟨(blk_cell BK196.out 0).trans rfl, (blk_cell BK196.out 1).trans rfl, (blk_cell BK196.out 2).trans rfl⟩ (fun hHeld => ?_)
   clear hK K
   refine norm_ (a' := ?_) ?_ ?_
   rotate_left
   ·
    show Act.put _ (some 9) _ = _
    simp only [Act.put, List.setIfInBounds_toArray, List.set_cons_zero, List.set_cons_succ, i64_w, i32_w]
    rfl
   refine SQ.pu 7 2 HT_ ?_
   refine done_ (done_of HT_.out (by kernel_rfl)) ?_
   try go_wp2
   go_ret
   exact ⟨_, ZE, ZR HO205.out, Zs⟩
  rw [if_neg c3] at H
  exact absurd H (by simp)
 rw [if_neg c2] at H
 exact absurd H (by simp)
end Go.Proofs.YtmgeffgcihfpcaaDoor.F

namespace Go.Proofs.YtmgeffgcihfpcaaDoor.F
open Go.RowKit Go.Proofs.YtmgeffgcihfpcaaDoorW.PrintWords Go.Proofs.YtmgeffgcihfpcaaDoorW.PrintLast Go.Proofs.YtmgeffgcihfpcaaDoorW.PrintMore
open Go.Proofs.YtmgeffgcihfpcaaDoor
set_option linter.unusedVariables false
set_option linter.unusedSimpArgs false
theorem setFile {w0 w : World} {l : List LW.It} {g n c : Nat} {xs : List S74} {F G : Nat → Prop} {v1 : Value} {ys : List Int} (h : LW.St w0 w l) (q p : Nat) (hn : q ≠ p)
    (hq : l[q]? = some (LW.row k74 74 w0.heap.size (.slice (some ⟨g, 0, none⟩) n c) xs F)) (hp : l[p]? = some (LW.row (Kd.int .u8) 5 w0.heap.size v1 ys G)) (i : Int) (h0 : 0 ≤ i) (h1 : i < n) (a : ByteArray) :
    LW.St w0 (((w.setCell ⟨g, i.toNat * 3, none⟩ (.string a)).setCell ⟨g, i.toNat * 3 + 1, none⟩ v1).setCell ⟨g, i.toNat * 3 + 2, none⟩ (.slice none 0 0))
      ((l.set q (LW.row k74 74 w0.heap.size (.slice (some ⟨g, 0, none⟩) n c) (xs.set i.toNat ⟨a, ys, []⟩) (fun k => F k ∨ G k))).set p LW.gone) := by
  have hS := h.own q hq
  have hR := Kd.S_R (h.own p hp)
  have hd := LW.Its.disj h.i q p _ _ hn hq hp
  have hFg : F g := (Kd.S_R hS).1 g (by simp [Value.ownBlock])
  have hbg := (h.i.all _ (List.mem_of_getElem? hq)).2 g hFg
  have hS2 : Kd.S k74 74 w w0.heap.size (fun k => (F k ∨ G k) ∧ ¬ G k) (.slice (some ⟨g, 0, none⟩) n c) xs := Kd.S_mono hS (fun k hk => ⟨.inl hk, fun h2 => hd k hk h2⟩)
  obtain ⟨oki, cs, hcl, hM, hcc, hfr, hoki, hH⟩ := Kd.S_elem hS2 z74 i h0 h1
  obtain ⟨pp, u1, u2, rfl, hA1, hA2⟩ := k74_openA hM
  have hP := (Kd.S_seg (okg := G) (seg := [.string a, v1, .slice none 0 0]) (j := 0) hH h0 h1 (show 0 + 3 ≤ 3 by decide) (x' := (⟨a, ys, []⟩ : S74)) (k74_mkM _ _ _ (⟨a, ys, []⟩ : S74) hR (Kd.R_nil _ _ _ _ _) AP.nil_ne) (fun k hk => .inr hk) (fun k hk => ⟨.inr hk, fun he => hd k (he ▸ hFg) hk⟩))
  refine h.merge q p hn hq hp (LW.row k74 74 w0.heap.size (.slice (some ⟨g, 0, none⟩) n c) (xs.set i.toNat ⟨a, ys, []⟩) (fun k => F k ∨ G k)) (fun k hk => hk) hP.1 (Zg (Zg (Zg h.b hbg.1) hbg.1) hbg.1) ⟨?_, fun k hk hne => ?_⟩
  · simp [World.setCell]
  have hkg : k ≠ g := fun he => hne (he ▸ hFg)
  rw [Below.heap_setCell _ _ _ k hkg, Below.heap_setCell _ _ _ k hkg, Below.heap_setCell _ _ _ k hkg]
def impl_syncFile.f (k : Nat) (l0_0 : List S74) (a1 : ByteArray) : Option (List S74 × Bool) := (impl_copyDisk.f k l0_0).bind fun o => (impl_fileOf.f l0_0 a1).bind fun i => (impl_isDisk.f k l0_0).bind fun t => if t = true then (if i < 0 then some (o, false) else (if i < (l0_0.length : Int) then (if i < (o.length : Int) then (impl_File_content.f (rd_T74 l0_0 i).f0 (rd_T74 l0_0 i).f1 (rd_T74 l0_0 i).f2).bind fun b => some (o.set i.toNat (⟨a1, b, []⟩ : S74), true) else none) else none)) else some (o, false)
set_option maxHeartbeats 8000000 in
set_option maxRecDepth 100000 in
theorem impl_syncFile.calls (k : Nat) (A0_0 : Option Addr) (c0_0 : Nat) (l0_0 : List S74) (a1 : ByteArray) (r1 : List S74) (r2 : Bool) (w : World) (hr0_0 : Kd.C k74 w A0_0 l0_0.length l0_0) (hc0_0 : l0_0.length ≤ c0_0) (h : impl_syncFile.f k l0_0 a1 = some (r1, r2)) :
    Calls Tryd.prog 71 #[.agg #[.slice A0_0 l0_0.length c0_0], .string a1] w fun e w' => ∃ v0_ : Value, e = .returned (.tuple #[.agg #[v0_], .bool r2]) ∧ Kd.S k74 74 w' w.heap.size (fun _ => True) v0_ r1 ∧ Below w.heap.size w w' := by
  have HR := Zh hr0_0
  have HC := Zh hc0_0
  clear hr0_0 hc0_0
  have ST := Zh (LW.St.start w)
  unfold impl_syncFile.f at h
  replace h := Option.bind_eq_some_iff.mp h
  obtain ⟨o, HA1, h⟩ := h
  replace h := Option.bind_eq_some_iff.mp h
  obtain ⟨i, HA2, h⟩ := h
  replace h := Option.bind_eq_some_iff.mp h
  obtain ⟨t, HA3, h⟩ := h
  replace HA1 := Zh HA1
  replace HA2 := Zh HA2
  replace HA3 := Zh HA3
  have H := Zh h
  clear h
  go_enter Tryd.func71, Tryd.ntmps71
  go_wp2_with fail
  replace ST := Zh (ST.out.alloc #[.slice A0_0 l0_0.length c0_0] 29 (g := w.heap.size) rfl)
  replace ST := Zh (ST.out.alloc #[.slice none 0 0] 29 (g := w.heap.size + 1) (by simp))
  with_reducible refine (impl_copyDisk.calls k _ _ l0_0 o _ (Kd.C_below HR.out ST.out.b) HC.out HA1.out).mono ?_
  rintro e w1 ⟨v1, rfl, ho, hb⟩
  obtain ⟨A1, c1, rfl⟩ := Kd.S_slice ho
  replace ST := Zh (ST.out.row hb ho)
  clear hb ho
  have hc1 := ST.out.cell 1 rfl 0 (u := .slice none 0 0) rfl
  have hl1 := ST.out.lt 1 rfl
  have hc2 := ST.out.cell 2 rfl 0 (u := .slice A0_0 l0_0.length c0_0) rfl
  have hl2 := ST.out.lt 2 rfl
  go_wp2_with fail
  replace ST := Zh (ST.out.alloc #[.slice A1 o.length c1] 29 (g := w1.heap.size) rfl)
  with_reducible refine (impl_fileOf.calls _ _ l0_0 a1 i _ (Kd.C_below HR.out ST.out.b) HC.out HA2.out).mono ?_
  rintro e w2 ⟨rfl, hb⟩
  replace ST := Zh (ST.out.step hb)
  clear hb
  clear hc1 hl1 hc2 hl2
  have hc1 := ST.out.cell 0 rfl 0 (u := .slice A1 o.length c1) rfl
  have hl1 := ST.out.lt 0 rfl
  have hc2 := ST.out.cell 3 rfl 0 (u := .slice A0_0 l0_0.length c0_0) rfl
  have hl2 := ST.out.lt 3 rfl
  go_wp2_with fail
  with_reducible refine (impl_isDisk.calls k _ _ l0_0 t _ (Kd.C_below HR.out ST.out.b) HC.out HA3.out).mono ?_
  rintro e w3 ⟨rfl, hb⟩
  replace ST := Zh (ST.out.step hb)
  clear hb
  clear hc1 hl1 hc2 hl2
  have hc1 := ST.out.cell 0 rfl 0 (u := .slice A1 o.length c1) rfl
  have hl1 := ST.out.lt 0 rfl
  have hc2 := ST.out.cell 2 rfl 0 (u := .slice none 0 0) rfl
  have hl2 := ST.out.lt 2 rfl
  have h := H.out
  clear H
  by_cases ct : t = true
  · subst ct
    rw [if_pos rfl] at h
    by_cases ci : i < 0
    · rw [if_pos ci] at h
      obtain ⟨rfl, rfl⟩ := Prod.mk.inj (Option.some.inj h)
      clear h
      have cib : decide (i < 0) = true := decide_eq_true ci
      clear ci
      have hf2 := ST.out.frozen 2 rfl 0
      go_wp2_with fail
      replace ST := Zh (ST.out.set 2 rfl 0 (.slice A1 o.length c1))
      refine Zq (results_ct rfl _ _ (w.heap.size + 1) 29 #[.slice A1 o.length c1] (0, 0) _ rfl (ST.out.blk 2 rfl) Tryd.underlying29 rfl (by kernel_rfl)) rfl ?_
      exact ⟨_, rfl, Kd.S_mono (ST.out.own 1 rfl) (fun _ _ => trivial), ST.out.b⟩
    rw [if_neg ci] at h
    by_cases cl : i < (l0_0.length : Int)
    · rw [if_pos cl] at h
      by_cases cj : i < (o.length : Int)
      · rw [if_pos cj] at h
        replace h := Option.bind_eq_some_iff.mp h
        obtain ⟨b, HA4, h⟩ := h
        obtain ⟨rfl, rfl⟩ := Prod.mk.inj (Option.some.inj h)
        replace HA4 := Zh HA4
        clear h
        have cib : decide (i < 0) = false := decide_eq_false ci
        have ci0 : 0 ≤ i := by omega
        obtain ⟨g, cg, hv, _, _, _⟩ := Kd.S_form (ST.out.own 1 rfl) (by omega)
        injection hv with hv1 hv2 hv3
        subst hv1
        have HI0 := Zh ci0
        have HIL := Zh cl
        have HIO := Zh cj
        have ci0b := eq_true ci0
        have clb := eq_true cl
        have cjb := eq_true cj
        clear ci cl cj ci0 hv2 hv3
        obtain ⟨ad, B1, d1, B2, d2, e, hx0, hx1, hx2, hl1', hi1, hl2', hi2⟩ := at_T74 HR.out i HI0.out HIL.out
        cases e
        go_wp2_with fail
        clear hc1 hl1 hc2 hl2
        have E0 := Zh hx0
        have E1 := Zh hx1
        have E2 := Zh hx2
        have HI1 := Zh hi1
        have HL1 := Zh hl1'
        have HI2 := Zh hi2
        have HL2 := Zh hl2'
        clear hx0 hx1 hx2 hl1' hi1 hl2' hi2
        replace ST := Zh ST.out.drew
        refine start_ (n := 13) (S := fun w' => w'.cell? ⟨w1.heap.size, 0, none⟩ = some (.slice (some ⟨g, 0, none⟩) o.length c1) ∧ w'.cell? ⟨w.heap.size, 0, none⟩ = some (.slice (some ad) l0_0.length c0_0) ∧ w'.cell? (ad.add (i.toNat * 3)) = some (.string (rd_T74 l0_0 i).f0) ∧ w'.cell? ⟨(ad.add (i.toNat * 3)).block, (ad.add (i.toNat * 3)).off + 1, none⟩ = some (.slice B1 (rd_T74 l0_0 i).f1.length d1) ∧ w'.cell? ⟨(ad.add (i.toNat * 3)).block, (ad.add (i.toNat * 3)).off + 2, none⟩ = some (.slice B2 (rd_T74 l0_0 i).f2.length d2)) (ds := [12]) #[false, false, false, false, false, false, false, false, false, false, false, false, false] (by kernel_rfl) rfl rfl ⟨ST.out.cell 0 rfl 0 rfl, ST.out.cell 3 rfl 0 rfl, (ST.out.b.cell (Zi w _ E0.out)).trans E0.out, (ST.out.b.cell (Zi w _ E1.out)).trans E1.out, (ST.out.b.cell (Zi w _ E2.out)).trans E2.out⟩ (fun hHeld => ?_)
        generalize w3.drew = w4 at ST hHeld ⊢
        refine pure_ (i := 0) (N := some 21) (v := ?_) (a' := ?_) #[true, false, false, false, false, false, false, false, false, false, false, false, false] rfl rfl (by kernel_rfl) (fun _ _ _ h => h) (Or.inl ⟨by rfl, ?_⟩) ?_ ?_
        rotate_left
        · intro w'
          go_simp
          with_reducible rfl
        rotate_left
        · simp only [Act.put, List.setIfInBounds_toArray, List.set_cons_zero, List.set_cons_succ, i64_w, i32_w]
          rfl
        refine pure_ (i := 2) (N := some 23) (v := ?_) (a' := ?_) #[true, false, true, false, false, false, false, false, false, false, false, false, false] rfl rfl (by kernel_rfl) (fun _ _ _ h => h) (Or.inl ⟨by rfl, ?_⟩) ?_ ?_
        rotate_left
        · intro w'
          go_simp
          with_reducible rfl
        rotate_left
        · simp only [Act.put, List.setIfInBounds_toArray, List.set_cons_zero, List.set_cons_succ, i64_w, i32_w]
          rfl
        refine pure_ (i := 3) (N := some 24) (v := ?_) (a' := ?_) #[true, false, true, true, false, false, false, false, false, false, false, false, false] rfl rfl (by kernel_rfl) (fun _ _ _ h => h) (Or.inl ⟨by rfl, ?_⟩) ?_ ?_
        rotate_left
        · intro w'
          go_simp
          with_reducible rfl
        rotate_left
        · simp only [Act.put, List.setIfInBounds_toArray, List.set_cons_zero, List.set_cons_succ, i64_w, i32_w]
          rfl
        refine pure_ (i := 4) (N := some 25) (v := ?_) (a' := ?_) #[true, false, true, true, true, false, false, false, false, false, false, false, false] rfl rfl (by kernel_rfl) (fun _ _ _ h => h) (Or.inl ⟨by rfl, ?_⟩) ?_ ?_
        rotate_left
        · intro w'
          go_simp
          with_reducible rfl
        rotate_left
        · simp only [Act.put, List.setIfInBounds_toArray, List.set_cons_zero, List.set_cons_succ, i64_w, i32_w]
          rfl
        refine pure_ (i := 6) (N := some 27) (v := ?_) (a' := ?_) #[true, false, true, true, true, false, true, false, false, false, false, false, false] rfl rfl (by kernel_rfl) (fun _ _ _ h => h) (Or.inl ⟨by rfl, ?_⟩) ?_ ?_
        rotate_left
        · intro w'
          go_simp
          with_reducible rfl
        rotate_left
        · simp only [Act.put, List.setIfInBounds_toArray, List.set_cons_zero, List.set_cons_succ, i64_w, i32_w]
          rfl
        refine take_ (i := 1) (N := some 22) (v := ?_) (a' := ?_) #[true, true, true, true, true, false, true, false, false, false, false, false, false] rfl rfl (by kernel_rfl) (fun _ _ _ h => h) (Or.inl ⟨by rfl, ?_⟩) hHeld ?_ ?_
        rotate_left
        · rintro w' ⟨s0, s1, s2, s3, s4⟩
          go_simp
          with_reducible rfl
        rotate_left
        · simp only [Act.put, List.setIfInBounds_toArray, List.set_cons_zero, List.set_cons_succ, i64_w, i32_w]
          rfl
        refine take_ (i := 5) (N := some 26) (v := ?_) (a' := ?_) #[true, true, true, true, true, true, true, false, false, false, false, false, false] rfl rfl (by kernel_rfl) (fun _ _ _ h => h) (Or.inl ⟨by rfl, ?_⟩) hHeld ?_ ?_
        rotate_left
        · rintro w' ⟨s0, s1, s2, s3, s4⟩
          go_simp
          with_reducible rfl
        rotate_left
        · simp only [Act.put, List.setIfInBounds_toArray, List.set_cons_zero, List.set_cons_succ, i64_w, i32_w]
          rfl
        refine pure_ (i := 7) (N := some 28) (v := ?_) (a' := ?_) #[true, true, true, true, true, true, true, true, false, false, false, false, false] rfl rfl (by kernel_rfl) (fun _ _ _ h => h) (Or.inl ⟨by rfl, ?_⟩) ?_ ?_
        rotate_left
        · intro w'
          go_simp
          with_reducible rfl
        rotate_left
        · simp only [Act.put, List.setIfInBounds_toArray, List.set_cons_zero, List.set_cons_succ, i64_w, i32_w]
          rfl
        refine take_ (i := 8) (N := some 29) (v := ?_) (a' := ?_) #[true, true, true, true, true, true, true, true, true, false, false, false, false] rfl rfl (by kernel_rfl) (fun _ _ _ h => h) (Or.inl ⟨by rfl, ?_⟩) hHeld ?_ ?_
        rotate_left
        · rintro w' ⟨s0, s1, s2, s3, s4⟩
          go_simp
          with_reducible rfl
        rotate_left
        · simp only [Act.put, List.setIfInBounds_toArray, List.set_cons_zero, List.set_cons_succ, i64_w, i32_w]
          rfl
        refine one_ (i := 9) (N := some 30) #[true, true, true, true, true, true, true, true, true, true, false, false, false] rfl rfl (by kernel_rfl) (by decide) (fun K hK => ?_)
        refine goes_ Tryd.func64 (by kernel_rfl) rfl #[.agg #[.string (rd_T74 l0_0 i).f0, .slice B1 (rd_T74 l0_0 i).f1.length d1, .slice B2 (rd_T74 l0_0 i).f2.length d2]] (by rfl) rfl rfl (by (try simp only [List.map_toArray, List.map_cons, List.map_nil]); first | done | rfl) ?_
        with_reducible refine (impl_File_content.calls (rd_T74 l0_0 i).f0 _ _ (rd_T74 l0_0 i).f1 _ _ (rd_T74 l0_0 i).f2 b _ (Kd.C_below HI1.out ST.out.b) HL1.out (Kd.C_below HI2.out ST.out.b) HL2.out HA4.out).mono ?_
        rintro e w5 ⟨v5, rfl, ho, hb⟩
        refine ⟨_, rfl, ?_⟩
        obtain ⟨A5, c5, rfl⟩ := Kd.R_slice ho
        replace ST := Zh (ST.out.rowR rfl hb ho)
        clear hb ho
        refine hK.out _ _ ⟨ST.out.cell 1 rfl 0 rfl, ST.out.cell 4 rfl 0 rfl, (ST.out.b.cell (Zi w _ E0.out)).trans E0.out, (ST.out.b.cell (Zi w _ E1.out)).trans E1.out, (ST.out.b.cell (Zi w _ E2.out)).trans E2.out⟩ (fun hHeld => ?_)
        clear hK K
        refine norm_ (a' := ?_) ?_ ?_
        rotate_left
        · show Act.put _ (some 30) _ = _
          simp only [Act.put, List.setIfInBounds_toArray, List.set_cons_zero, List.set_cons_succ, i64_w, i32_w]
          rfl
        obtain ⟨oki, cs, hcl, hM, hcc, hfr, hoki, hH⟩ := Kd.S_elem (ST.out.own 2 rfl) z74 i HI0.out HIO.out
        obtain ⟨pp, u1, u2, rfl, hA1, hA2⟩ := k74_openA hM
        have hy0 : w5.cell? ⟨g, i.toNat * 3, none⟩ = some (.string (o.getD i.toNat z74).f0) := hcc 0 _ rfl
        have hy1 : w5.cell? ⟨g, i.toNat * 3 + 1, none⟩ = some u1 := hcc 1 _ rfl
        have hy2 : w5.cell? ⟨g, i.toNat * 3 + 2, none⟩ = some u2 := hcc 2 _ rfl
        have hf0 : w5.frozen? ⟨g, i.toNat * 3, none⟩ = false := hfr 0
        have hf1 : w5.frozen? ⟨g, i.toNat * 3 + 1, none⟩ = false := hfr 1
        have hf2 : w5.frozen? ⟨g, i.toNat * 3 + 2, none⟩ = false := hfr 2
        clear hcl hM hcc hfr hoki hH hA1 hA2
        refine pure_ (i := 10) (N := some 31) (v := ?_) (a' := ?_) #[true, true, true, true, true, true, true, true, true, true, true, false, false] rfl rfl (by kernel_rfl) (fun _ _ _ h => h) (Or.inl ⟨by rfl, ?_⟩) ?_ ?_
        rotate_left
        · intro w'
          go_simp
          with_reducible rfl
        rotate_left
        · simp only [Act.put, List.setIfInBounds_toArray, List.set_cons_zero, List.set_cons_succ, i64_w, i32_w]
          rfl
        refine pure_ (i := 11) (N := some 32) (v := ?_) (a' := ?_) #[true, true, true, true, true, true, true, true, true, true, true, true, false] rfl rfl (by kernel_rfl) (fun _ _ _ h => h) (Or.inl ⟨by rfl, ?_⟩) ?_ ?_
        rotate_left
        · intro w'
          go_simp
          with_reducible rfl
        rotate_left
        · simp only [Act.put, List.setIfInBounds_toArray, List.set_cons_zero, List.set_cons_succ, i64_w, i32_w]
          rfl
        refine last_ (i := 12) (N := none) #[true, true, true, true, true, true, true, true, true, true, true, true, true] rfl rfl (by kernel_rfl) (by decide) (fun K hK => ?_)
        refine skip_ (w1 := ?_) (by rfl) rfl ?_ ?_
        rotate_left
        · go_simp
          rfl
        refine hK.out _ _ ?_
        clear hK K
        refine done_ (by kernel_rfl) ?_
        clear hy0 hy1 hy2 hf0 hf1 hf2 hHeld
        replace ST := Zh (setFile ST.out 2 0 (by decide) rfl rfl i HI0.out HIO.out a1)
        generalize (((w5.setCell ⟨g, i.toNat * 3, none⟩ (.string a1)).setCell ⟨g, i.toNat * 3 + 1, none⟩ (.slice A5 b.length c5)).setCell ⟨g, i.toNat * 3 + 2, none⟩ (.slice none 0 0)) = w6 at ST ⊢
        have hc1 := ST.out.cell 1 rfl 0 (u := .slice (some ⟨g, 0, none⟩) o.length c1) rfl
        have hl1 := ST.out.lt 1 rfl
        have hc2 := ST.out.cell 3 rfl 0 (u := .slice none 0 0) rfl
        have hl2 := ST.out.lt 3 rfl
        have hf2 := ST.out.frozen 3 rfl 0
        go_wp2
        replace ST := Zh (ST.out.set 3 rfl 0 (.slice (some ⟨g, 0, none⟩) o.length c1))
        refine Zq (results_ct rfl _ _ (w.heap.size + 1) 29 #[.slice (some ⟨g, 0, none⟩) o.length c1] (0, 0) _ rfl (ST.out.blk 3 rfl) Tryd.underlying29 rfl (by kernel_rfl)) rfl ?_
        exact ⟨_, rfl, Kd.S_mono (ST.out.own 2 rfl) (fun _ _ => trivial), ST.out.b⟩
      rw [if_neg cj] at h
      exact absurd h (by simp)
    rw [if_neg cl] at h
    exact absurd h (by simp)
  rw [if_neg ct] at h
  obtain rfl : t = false := by simpa using ct
  obtain ⟨rfl, rfl⟩ := Prod.mk.inj (Option.some.inj h)
  clear h ct
  have hf2 := ST.out.frozen 2 rfl 0
  go_wp2_with fail
  replace ST := Zh (ST.out.set 2 rfl 0 (.slice A1 o.length c1))
  refine Zq (results_ct rfl _ _ (w.heap.size + 1) 29 #[.slice A1 o.length c1] (0, 0) _ rfl (ST.out.blk 2 rfl) Tryd.underlying29 rfl (by kernel_rfl)) rfl ?_
  exact ⟨_, rfl, Kd.S_mono (ST.out.own 1 rfl) (fun _ _ => trivial), ST.out.b⟩
theorem setFileC {A : Option Addr} {cA m : Nat} {w0 w : World} {l : List LW.It} {g n c : Nat} {xs : List S74} {F G : Nat → Prop} {ys : List Int} (h : LW.St w0 w l) (q p : Nat) (hn : q ≠ p)
    (hq : l[q]? = some (LW.row k74 74 w0.heap.size (.slice (some ⟨g, 0, none⟩) n c) xs F)) (hp : l[p]? = some (LW.row (Kd.int .u8) 5 w0.heap.size (.slice A ys.length cA) ys G)) (i : Int) (h0 : 0 ≤ i) (h1 : i < n) (a : ByteArray) (hm : m ≤ ys.length) :
    LW.St w0 (((w.setCell ⟨g, i.toNat * 3, none⟩ (.string a)).setCell ⟨g, i.toNat * 3 + 1, none⟩ (.slice A m m)).setCell ⟨g, i.toNat * 3 + 2, none⟩ (.slice none 0 0))
      ((l.set q (LW.row k74c 74 w0.heap.size (.slice (some ⟨g, 0, none⟩) n c) (xs.set i.toNat ⟨a, ys.take m, []⟩) (fun k => F k ∨ G k))).set p LW.gone) := by
  have hS := h.own q hq
  have hR := Kd.R_take (Kd.S_R (h.own p hp)) hm
  have hcA := (Kd.S_reads' (h.own p hp)).2.1
  have hd := LW.Its.disj h.i q p _ _ hn hq hp
  have hFg : F g := (Kd.S_R hS).1 g (by simp [Value.ownBlock])
  have hbg := (h.i.all _ (List.mem_of_getElem? hq)).2 g hFg
  have hS2 : Kd.S k74c 74 w w0.heap.size (fun k => (F k ∨ G k) ∧ ¬ G k) (.slice (some ⟨g, 0, none⟩) n c) xs := Kd.S_mono (S_c hS) (fun k hk => ⟨.inl hk, fun h2 => hd k hk h2⟩)
  obtain ⟨oki, cs, hcl, hM, hcc, hfr, hoki, hH⟩ := Kd.S_elem hS2 z74 i h0 h1
  obtain ⟨pp, v1, v2, u1, u2, rfl, hc1, hc2, hA1, hA2⟩ := k74c_openA hM
  have hP := (Kd.S_seg (okg := G) (seg := [.string a, .slice A m m, .slice none 0 0]) (j := 0) hH h0 h1 (show 0 + 3 ≤ 3 by decide) (x' := (⟨a, ys.take m, []⟩ : S74)) (k74c_mkM _ _ _ (⟨a, ys.take m, []⟩ : S74) (u1 := .slice A m cA) (u2 := .slice none 0 0) ⟨A, m, m, cA, rfl, rfl, Nat.le_refl _, by omega⟩ ⟨none, 0, 0, 0, rfl, rfl, Nat.le_refl _, Nat.le_refl _⟩ hR (Kd.R_nil _ _ _ _ _) AP.nil_ne) (fun k hk => .inr hk) (fun k hk => ⟨.inr hk, fun he => hd k (he ▸ hFg) hk⟩))
  refine h.merge q p hn hq hp (LW.row k74c 74 w0.heap.size (.slice (some ⟨g, 0, none⟩) n c) (xs.set i.toNat ⟨a, ys.take m, []⟩) (fun k => F k ∨ G k)) (fun k hk => hk) hP.1 (Zg (Zg (Zg h.b hbg.1) hbg.1) hbg.1) ⟨?_, fun k hk hne => ?_⟩
  · simp [World.setCell]
  have hkg : k ≠ g := fun he => hne (he ▸ hFg)
  rw [Below.heap_setCell _ _ _ k hkg, Below.heap_setCell _ _ _ k hkg, Below.heap_setCell _ _ _ k hkg]
def impl_cutFile.f (k : Nat) (l0_0 : List S74) (a1 : ByteArray) (a2 : Int) : Option (List S74 × Bool) := (impl_copyDisk.f k l0_0).bind fun o => (impl_fileOf.f l0_0 a1).bind fun i => (impl_isDisk.f k l0_0).bind fun t => if t = true then (if i < 0 then some (o, false) else (if i < (l0_0.length : Int) then (if i < (o.length : Int) then (impl_File_content.f (rd_T74 l0_0 i).f0 (rd_T74 l0_0 i).f1 (rd_T74 l0_0 i).f2).bind fun b => if a2 < 0 then some (o, false) else (if a2 > (b.length : Int) then some (o, false) else some (o.set i.toNat (⟨a1, b.take a2.toNat, []⟩ : S74), true)) else none) else none)) else some (o, false)
set_option maxHeartbeats 8000000 in
set_option maxRecDepth 100000 in
theorem impl_cutFile.calls (k : Nat) (A0_0 : Option Addr) (c0_0 : Nat) (l0_0 : List S74) (a1 : ByteArray) (a2 : Int) (r1 : List S74) (r2 : Bool) (w : World) (hr0_0 : Kd.C k74 w A0_0 l0_0.length l0_0) (hc0_0 : l0_0.length ≤ c0_0) (h : impl_cutFile.f k l0_0 a1 a2 = some (r1, r2)) :
    Calls Tryd.prog 73 #[.agg #[.slice A0_0 l0_0.length c0_0], .string a1, .int .i64 a2] w fun e w' => ∃ v0_ : Value, e = .returned (.tuple #[.agg #[v0_], .bool r2]) ∧ Kd.S k74c 74 w' w.heap.size (fun _ => True) v0_ r1 ∧ Below w.heap.size w w' := by
  have HR := Zh hr0_0
  have HC := Zh hc0_0
  clear hr0_0 hc0_0
  have ST := Zh (LW.St.start w)
  unfold impl_cutFile.f at h
  replace h := Option.bind_eq_some_iff.mp h
  obtain ⟨o, HA1, h⟩ := h
  replace h := Option.bind_eq_some_iff.mp h
  obtain ⟨i, HA2, h⟩ := h
  replace h := Option.bind_eq_some_iff.mp h
  obtain ⟨t, HA3, h⟩ := h
  replace HA1 := Zh HA1
  replace HA2 := Zh HA2
  replace HA3 := Zh HA3
  have H := Zh h
  clear h
  go_enter Tryd.func73, Tryd.ntmps73
  go_wp2_with fail
  replace ST := Zh (ST.out.alloc #[.slice A0_0 l0_0.length c0_0] 29 (g := w.heap.size) rfl)
  replace ST := Zh (ST.out.alloc #[.slice none 0 0] 29 (g := w.heap.size + 1) (by simp))
  with_reducible refine (impl_copyDisk.calls k _ _ l0_0 o _ (Kd.C_below HR.out ST.out.b) HC.out HA1.out).mono ?_
  rintro e w1 ⟨v1, rfl, ho, hb⟩
  obtain ⟨A1, c1, rfl⟩ := Kd.S_slice ho
  replace ST := Zh (ST.out.row hb ho)
  clear hb ho
  have hc1 := ST.out.cell 1 rfl 0 (u := .slice none 0 0) rfl
  have hl1 := ST.out.lt 1 rfl
  have hc2 := ST.out.cell 2 rfl 0 (u := .slice A0_0 l0_0.length c0_0) rfl
  have hl2 := ST.out.lt 2 rfl
  go_wp2_with fail
  replace ST := Zh (ST.out.alloc #[.slice A1 o.length c1] 29 (g := w1.heap.size) rfl)
  with_reducible refine (impl_fileOf.calls _ _ l0_0 a1 i _ (Kd.C_below HR.out ST.out.b) HC.out HA2.out).mono ?_
  rintro e w2 ⟨rfl, hb⟩
  replace ST := Zh (ST.out.step hb)
  clear hb
  clear hc1 hl1 hc2 hl2
  have hc1 := ST.out.cell 0 rfl 0 (u := .slice A1 o.length c1) rfl
  have hl1 := ST.out.lt 0 rfl
  have hc2 := ST.out.cell 3 rfl 0 (u := .slice A0_0 l0_0.length c0_0) rfl
  have hl2 := ST.out.lt 3 rfl
  go_wp2_with fail
  with_reducible refine (impl_isDisk.calls k _ _ l0_0 t _ (Kd.C_below HR.out ST.out.b) HC.out HA3.out).mono ?_
  rintro e w3 ⟨rfl, hb⟩
  replace ST := Zh (ST.out.step hb)
  clear hb
  clear hc1 hl1 hc2 hl2
  have hc1 := ST.out.cell 0 rfl 0 (u := .slice A1 o.length c1) rfl
  have hl1 := ST.out.lt 0 rfl
  have hc2 := ST.out.cell 2 rfl 0 (u := .slice none 0 0) rfl
  have hl2 := ST.out.lt 2 rfl
  have h := H.out
  clear H
  by_cases ct : t = true
  · subst ct
    rw [if_pos rfl] at h
    by_cases ci : i < 0
    · rw [if_pos ci] at h
      obtain ⟨rfl, rfl⟩ := Prod.mk.inj (Option.some.inj h)
      clear h
      have cib : decide (i < 0) = true := decide_eq_true ci
      clear ci
      have hf2 := ST.out.frozen 2 rfl 0
      go_wp2_with fail
      replace ST := Zh (ST.out.set 2 rfl 0 (.slice A1 o.length c1))
      refine Zq (results_ct rfl _ _ (w.heap.size + 1) 29 #[.slice A1 o.length c1] (0, 0) _ rfl (ST.out.blk 2 rfl) Tryd.underlying29 rfl (by kernel_rfl)) rfl ?_
      exact ⟨_, rfl, Kd.S_mono (S_c (ST.out.own 1 rfl)) (fun _ _ => trivial), ST.out.b⟩
    rw [if_neg ci] at h
    by_cases cl : i < (l0_0.length : Int)
    · rw [if_pos cl] at h
      by_cases cj : i < (o.length : Int)
      · rw [if_pos cj] at h
        replace h := Option.bind_eq_some_iff.mp h
        obtain ⟨b, HA4, h⟩ := h
        replace HA4 := Zh HA4
        have H := Zh h
        clear h
        have cib : decide (i < 0) = false := decide_eq_false ci
        have ci0 : 0 ≤ i := by omega
        obtain ⟨g, cg, hv, _, _, _⟩ := Kd.S_form (ST.out.own 1 rfl) (by omega)
        injection hv with hv1 hv2 hv3
        subst hv1
        have HI0 := Zh ci0
        have HIL := Zh cl
        have HIO := Zh cj
        have ci0b := eq_true ci0
        have clb := eq_true cl
        have cjb := eq_true cj
        clear ci cl cj ci0 hv2 hv3
        obtain ⟨ad, B1, d1, B2, d2, e, hx0, hx1, hx2, hl1', hi1, hl2', hi2⟩ := at_T74 HR.out i HI0.out HIL.out
        cases e
        replace hx0 := (ST.out.b.cell (Zi w _ hx0)).trans hx0
        replace hx1 := (ST.out.b.cell (Zi w _ hx1)).trans hx1
        replace hx2 := (ST.out.b.cell (Zi w _ hx2)).trans hx2
        clear hc2 hl2
        have hc2 := ST.out.cell 3 rfl 0 (u := .slice (some ad) l0_0.length c0_0) rfl
        have hl2 := ST.out.lt 3 rfl
        go_wp2_with fail
        clear hc1 hl1 hc2 hl2
        have HI1 := Zh hi1
        have HL1 := Zh hl1'
        have HI2 := Zh hi2
        have HL2 := Zh hl2'
        clear hx0 hx1 hx2 hl1' hi1 hl2' hi2
        with_reducible refine (impl_File_content.calls (rd_T74 l0_0 i).f0 _ _ (rd_T74 l0_0 i).f1 _ _ (rd_T74 l0_0 i).f2 b _ (Kd.C_below HI1.out ST.out.b) HL1.out (Kd.C_below HI2.out ST.out.b) HL2.out HA4.out).mono ?_
        rintro e w5 ⟨v5, rfl, ho, hb⟩
        obtain ⟨A5, c5, rfl⟩ := Kd.R_slice ho
        replace ST := Zh (ST.out.rowR rfl hb ho)
        clear hb ho
        have hc1 := ST.out.cell 1 rfl 0 (u := .slice (some ⟨g, 0, none⟩) o.length c1) rfl
        have hl1 := ST.out.lt 1 rfl
        have hc2 := ST.out.cell 3 rfl 0 (u := .slice none 0 0) rfl
        have hl2 := ST.out.lt 3 rfl
        have hf2 := ST.out.frozen 3 rfl 0
        have h := H.out
        clear H
        by_cases d1 : a2 < 0
        · rw [if_pos d1] at h
          obtain ⟨rfl, rfl⟩ := Prod.mk.inj (Option.some.inj h)
          clear h
          have d1b : decide (a2 < 0) = true := decide_eq_true d1
          clear d1
          go_wp2
          replace ST := Zh (ST.out.set 3 rfl 0 (.slice (some ⟨g, 0, none⟩) o.length c1))
          refine Zq (results_ct rfl _ _ (w.heap.size + 1) 29 #[.slice (some ⟨g, 0, none⟩) o.length c1] (0, 0) _ rfl (ST.out.blk 3 rfl) Tryd.underlying29 rfl (by kernel_rfl)) rfl ?_
          exact ⟨_, rfl, Kd.S_mono (S_c (ST.out.own 2 rfl)) (fun _ _ => trivial), ST.out.b⟩
        rw [if_neg d1] at h
        have d1b : decide (a2 < 0) = false := decide_eq_false d1
        by_cases d2 : a2 > (b.length : Int)
        · rw [if_pos d2] at h
          obtain ⟨rfl, rfl⟩ := Prod.mk.inj (Option.some.inj h)
          clear h
          have d2b : decide (a2 > (b.length : Int)) = true := decide_eq_true d2
          clear d1 d2
          go_wp2
          replace ST := Zh (ST.out.set 3 rfl 0 (.slice (some ⟨g, 0, none⟩) o.length c1))
          refine Zq (results_ct rfl _ _ (w.heap.size + 1) 29 #[.slice (some ⟨g, 0, none⟩) o.length c1] (0, 0) _ rfl (ST.out.blk 3 rfl) Tryd.underlying29 rfl (by kernel_rfl)) rfl ?_
          exact ⟨_, rfl, Kd.S_mono (S_c (ST.out.own 2 rfl)) (fun _ _ => trivial), ST.out.b⟩
        rw [if_neg d2] at h
        obtain ⟨rfl, rfl⟩ := Prod.mk.inj (Option.some.inj h)
        clear h
        have d2b : decide (a2 > (b.length : Int)) = false := decide_eq_false d2
        obtain ⟨m, rfl⟩ := Int.eq_ofNat_of_zero_le (show 0 ≤ a2 by omega)
        have hm : m ≤ b.length := by omega
        have hm5 : m ≤ c5 := by have := (ST.out.reads 0 rfl).2.1; omega
        have HM := Zh hm
        clear d1 d2
        go_wp2_with fail
        clear hc1 hl1 hc2 hl2 hf2
        replace ST := Zh ST.out.drew
        refine start_ (n := 11) (S := fun w' => w'.cell? ⟨w1.heap.size, 0, none⟩ = some (.slice (some ⟨g, 0, none⟩) o.length c1)) (ds := [10]) #[false, false, false, false, false, false, false, false, false, false, false] (by kernel_rfl) rfl rfl (ST.out.cell 1 rfl 0 rfl) (fun hHeld => ?_)
        generalize w5.drew = w6 at ST hHeld ⊢
        refine pure_ (i := 0) (N := some 39) (v := ?_) (a' := ?_) #[true, false, false, false, false, false, false, false, false, false, false] rfl rfl (by kernel_rfl) (fun _ _ _ h => h) (Or.inl ⟨by rfl, ?_⟩) ?_ ?_
        rotate_left
        · intro w'
          go_simp
          with_reducible rfl
        rotate_left
        · simp only [Act.put, List.setIfInBounds_toArray, List.set_cons_zero, List.set_cons_succ, i64_w, i32_w]
          rfl
        refine pure_ (i := 2) (N := some 41) (v := ?_) (a' := ?_) #[true, false, true, false, false, false, false, false, false, false, false] rfl rfl (by kernel_rfl) (fun _ _ _ h => h) (Or.inl ⟨by rfl, ?_⟩) ?_ ?_
        rotate_left
        · intro w'
          go_simp
          with_reducible rfl
        rotate_left
        · simp only [Act.put, List.setIfInBounds_toArray, List.set_cons_zero, List.set_cons_succ, i64_w, i32_w]
          rfl
        refine pure_ (i := 3) (N := some 42) (v := ?_) (a' := ?_) #[true, false, true, true, false, false, false, false, false, false, false] rfl rfl (by kernel_rfl) (fun _ _ _ h => h) (Or.inl ⟨by rfl, ?_⟩) ?_ ?_
        rotate_left
        · intro w'
          go_simp
          with_reducible rfl
        rotate_left
        · simp only [Act.put, List.setIfInBounds_toArray, List.set_cons_zero, List.set_cons_succ, i64_w, i32_w]
          rfl
        refine pure_ (i := 4) (N := some 43) (v := ?_) (a' := ?_) #[true, false, true, true, true, false, false, false, false, false, false] rfl rfl (by kernel_rfl) (fun _ _ _ h => h) (Or.inl ⟨by rfl, ?_⟩) ?_ ?_
        rotate_left
        · intro w'
          go_simp
          with_reducible rfl
        rotate_left
        · simp only [Act.put, List.setIfInBounds_toArray, List.set_cons_zero, List.set_cons_succ, i64_w, i32_w]
          rfl
        refine pure_ (i := 5) (N := some 44) (v := ?_) (a' := ?_) #[true, false, true, true, true, true, false, false, false, false, false] rfl rfl (by kernel_rfl) (fun _ _ _ h => h) (Or.inl ⟨by rfl, ?_⟩) ?_ ?_
        rotate_left
        · intro w'
          go_simp
          with_reducible rfl
        rotate_left
        · simp only [Act.put, List.setIfInBounds_toArray, List.set_cons_zero, List.set_cons_succ, i64_w, i32_w]
          rfl
        refine pure_ (i := 6) (N := some 45) (v := ?_) (a' := ?_) #[true, false, true, true, true, true, true, false, false, false, false] rfl rfl (by kernel_rfl) (fun _ _ _ h => h) (Or.inl ⟨by rfl, ?_⟩) ?_ ?_
        rotate_left
        · intro w'
          go_simp
          with_reducible rfl
        rotate_left
        · simp only [Act.put, List.setIfInBounds_toArray, List.set_cons_zero, List.set_cons_succ, i64_w, i32_w]
          rfl
        refine take_ (i := 1) (N := some 40) (v := ?_) (a' := ?_) #[true, true, true, true, true, true, true, false, false, false, false] rfl rfl (by kernel_rfl) (fun _ _ _ h => h) (Or.inl ⟨by rfl, ?_⟩) hHeld ?_ ?_
        rotate_left
        · rintro w' s0
          go_simp
          with_reducible rfl
        rotate_left
        · simp only [Act.put, List.setIfInBounds_toArray, List.set_cons_zero, List.set_cons_succ, i64_w, i32_w]
          rfl
        refine pure_ (i := 7) (N := some 46) (v := ?_) (a' := ?_) #[true, true, true, true, true, true, true, true, false, false, false] rfl rfl (by kernel_rfl) (fun _ _ _ h => h) (Or.inl ⟨by rfl, ?_⟩) ?_ ?_
        rotate_left
        · intro w'
          go_simp
          with_reducible rfl
        rotate_left
        · simp only [Act.put, List.setIfInBounds_toArray, List.set_cons_zero, List.set_cons_succ, i64_w, i32_w]
          rfl
        obtain ⟨oki, cs, hcl, hM, hcc, hfr, hoki, hH⟩ := Kd.S_elem (ST.out.own 2 rfl) z74 i HI0.out HIO.out
        obtain ⟨pp, u1, u2, rfl, hA1, hA2⟩ := k74_openA hM
        have hy0 : w6.cell? ⟨g, i.toNat * 3, none⟩ = some (.string (o.getD i.toNat z74).f0) := hcc 0 _ rfl
        have hy1 : w6.cell? ⟨g, i.toNat * 3 + 1, none⟩ = some u1 := hcc 1 _ rfl
        have hy2 : w6.cell? ⟨g, i.toNat * 3 + 2, none⟩ = some u2 := hcc 2 _ rfl
        have hf0 : w6.frozen? ⟨g, i.toNat * 3, none⟩ = false := hfr 0
        have hf1 : w6.frozen? ⟨g, i.toNat * 3 + 1, none⟩ = false := hfr 1
        have hf2 : w6.frozen? ⟨g, i.toNat * 3 + 2, none⟩ = false := hfr 2
        clear hcl hM hcc hfr hoki hH hA1 hA2
        refine pure_ (i := 8) (N := some 47) (v := ?_) (a' := ?_) #[true, true, true, true, true, true, true, true, true, false, false] rfl rfl (by kernel_rfl) (fun _ _ _ h => h) (Or.inl ⟨by rfl, ?_⟩) ?_ ?_
        rotate_left
        · intro w'
          go_simp
          with_reducible rfl
        rotate_left
        · simp only [Act.put, List.setIfInBounds_toArray, List.set_cons_zero, List.set_cons_succ, i64_w, i32_w]
          rfl
        refine pure_ (i := 9) (N := some 48) (v := ?_) (a' := ?_) #[true, true, true, true, true, true, true, true, true, true, false] rfl rfl (by kernel_rfl) (fun _ _ _ h => h) (Or.inl ⟨by rfl, ?_⟩) ?_ ?_
        rotate_left
        · intro w'
          go_simp
          with_reducible rfl
        rotate_left
        · simp only [Act.put, List.setIfInBounds_toArray, List.set_cons_zero, List.set_cons_succ, i64_w, i32_w]
          rfl
        refine last_ (i := 10) (N := none) #[true, true, true, true, true, true, true, true, true, true, true] rfl rfl (by kernel_rfl) (by decide) (fun K hK => ?_)
        refine skip_ (w1 := ?_) (by rfl) rfl ?_ ?_
        rotate_left
        · go_simp
          rfl
        refine hK.out _ _ ?_
        clear hK K
        refine done_ (by kernel_rfl) ?_
        clear hy0 hy1 hy2 hf0 hf1 hf2 hHeld
        replace ST := Zh (setFileC (m := m) ST.out 2 0 (by decide) rfl rfl i HI0.out HIO.out a1 HM.out)
        generalize (((w6.setCell ⟨g, i.toNat * 3, none⟩ (.string a1)).setCell ⟨g, i.toNat * 3 + 1, none⟩ (.slice A5 m m)).setCell ⟨g, i.toNat * 3 + 2, none⟩ (.slice none 0 0)) = w7 at ST ⊢
        have hc1 := ST.out.cell 1 rfl 0 (u := .slice (some ⟨g, 0, none⟩) o.length c1) rfl
        have hl1 := ST.out.lt 1 rfl
        have hc2 := ST.out.cell 3 rfl 0 (u := .slice none 0 0) rfl
        have hl2 := ST.out.lt 3 rfl
        have hf2 := ST.out.frozen 3 rfl 0
        go_wp2
        replace ST := Zh (ST.out.set 3 rfl 0 (.slice (some ⟨g, 0, none⟩) o.length c1))
        refine Zq (results_ct rfl _ _ (w.heap.size + 1) 29 #[.slice (some ⟨g, 0, none⟩) o.length c1] (0, 0) _ rfl (ST.out.blk 3 rfl) Tryd.underlying29 rfl (by kernel_rfl)) rfl ?_
        exact ⟨_, rfl, Kd.S_mono (ST.out.own 2 rfl) (fun _ _ => trivial), ST.out.b⟩
      rw [if_neg cj] at h
      exact absurd h (by simp)
    rw [if_neg cl] at h
    exact absurd h (by simp)
  rw [if_neg ct] at h
  obtain rfl : t = false := by simpa using ct
  obtain ⟨rfl, rfl⟩ := Prod.mk.inj (Option.some.inj h)
  clear h ct
  have hf2 := ST.out.frozen 2 rfl 0
  go_wp2_with fail
  replace ST := Zh (ST.out.set 2 rfl 0 (.slice A1 o.length c1))
  refine Zq (results_ct rfl _ _ (w.heap.size + 1) 29 #[.slice A1 o.length c1] (0, 0) _ rfl (ST.out.blk 2 rfl) Tryd.underlying29 rfl (by kernel_rfl)) rfl ?_
  exact ⟨_, rfl, Kd.S_mono (S_c (ST.out.own 1 rfl)) (fun _ _ => trivial), ST.out.b⟩
def impl_removeFile.f (k : Nat) (l0_0 : List S74) (a1 : ByteArray) : Option (List S74 × Bool) := (impl_copyDisk.f k l0_0).bind fun o => (impl_fileOf.f l0_0 a1).bind fun i => (impl_isDisk.f k l0_0).bind fun t => if t = true then (if i < 0 then some (o, false) else (if i < (o.length : Int) then some (o.eraseIdx i.toNat, true) else none)) else some (o, false)
set_option maxHeartbeats 8000000 in
set_option maxRecDepth 100000 in
theorem impl_removeFile.calls (k : Nat) (A0_0 : Option Addr) (c0_0 : Nat) (l0_0 : List S74) (a1 : ByteArray) (r1 : List S74) (r2 : Bool) (w : World) (hr0_0 : Kd.C k74 w A0_0 l0_0.length l0_0) (hc0_0 : l0_0.length ≤ c0_0) (h : impl_removeFile.f k l0_0 a1 = some (r1, r2)) :
    Calls Tryd.prog 68 #[.agg #[.slice A0_0 l0_0.length c0_0], .string a1] w fun e w' => ∃ v0_ : Value, e = .returned (.tuple #[.agg #[v0_], .bool r2]) ∧ Kd.S k74 74 w' w.heap.size (fun _ => True) v0_ r1 ∧ Below w.heap.size w w' := by
  have HR := Zh hr0_0
  have HC := Zh hc0_0
  clear hr0_0 hc0_0
  have ST := Zh (LW.St.start w)
  unfold impl_removeFile.f at h
  replace h := Option.bind_eq_some_iff.mp h
  obtain ⟨o, HA1, h⟩ := h
  replace h := Option.bind_eq_some_iff.mp h
  obtain ⟨i, HA2, h⟩ := h
  replace h := Option.bind_eq_some_iff.mp h
  obtain ⟨t, HA3, h⟩ := h
  replace HA1 := Zh HA1
  replace HA2 := Zh HA2
  replace HA3 := Zh HA3
  have H := Zh h
  clear h
  go_enter Tryd.func68, Tryd.ntmps68
  go_wp2_with fail
  replace ST := Zh (ST.out.alloc #[.slice A0_0 l0_0.length c0_0] 29 (g := w.heap.size) rfl)
  replace ST := Zh (ST.out.alloc #[.slice none 0 0] 29 (g := w.heap.size + 1) (by simp))
  with_reducible refine (impl_copyDisk.calls k _ _ l0_0 o _ (Kd.C_below HR.out ST.out.b) HC.out HA1.out).mono ?_
  rintro e w1 ⟨v1, rfl, ho, hb⟩
  obtain ⟨A1, c1, rfl⟩ := Kd.S_slice ho
  replace ST := Zh (ST.out.row hb ho)
  clear hb ho
  have hc1 := ST.out.cell 1 rfl 0 (u := .slice none 0 0) rfl
  have hl1 := ST.out.lt 1 rfl
  have hc2 := ST.out.cell 2 rfl 0 (u := .slice A0_0 l0_0.length c0_0) rfl
  have hl2 := ST.out.lt 2 rfl
  go_wp2_with fail
  replace ST := Zh (ST.out.alloc #[.slice A1 o.length c1] 29 (g := w1.heap.size) rfl)
  with_reducible refine (impl_fileOf.calls _ _ l0_0 a1 i _ (Kd.C_below HR.out ST.out.b) HC.out HA2.out).mono ?_
  rintro e w2 ⟨rfl, hb⟩
  replace ST := Zh (ST.out.step hb)
  clear hb
  clear hc1 hl1 hc2 hl2
  have hc1 := ST.out.cell 0 rfl 0 (u := .slice A1 o.length c1) rfl
  have hl1 := ST.out.lt 0 rfl
  have hc2 := ST.out.cell 3 rfl 0 (u := .slice A0_0 l0_0.length c0_0) rfl
  have hl2 := ST.out.lt 3 rfl
  go_wp2_with fail
  with_reducible refine (impl_isDisk.calls k _ _ l0_0 t _ (Kd.C_below HR.out ST.out.b) HC.out HA3.out).mono ?_
  rintro e w3 ⟨rfl, hb⟩
  replace ST := Zh (ST.out.step hb)
  clear hb
  clear hc1 hl1 hc2 hl2
  have hc1 := ST.out.cell 0 rfl 0 (u := .slice A1 o.length c1) rfl
  have hl1 := ST.out.lt 0 rfl
  have hc2 := ST.out.cell 2 rfl 0 (u := .slice none 0 0) rfl
  have hl2 := ST.out.lt 2 rfl
  have h := H.out
  clear H
  by_cases ct : t = true
  · subst ct
    rw [if_pos rfl] at h
    by_cases ci : i < 0
    · rw [if_pos ci] at h
      obtain ⟨rfl, rfl⟩ := Prod.mk.inj (Option.some.inj h)
      clear h
      have cib : decide (i < 0) = true := decide_eq_true ci
      clear ci
      have hf2 := ST.out.frozen 2 rfl 0
      go_wp2_with fail
      replace ST := Zh (ST.out.set 2 rfl 0 (.slice A1 o.length c1))
      refine Zq (results_ct rfl _ _ (w.heap.size + 1) 29 #[.slice A1 o.length c1] (0, 0) _ rfl (ST.out.blk 2 rfl) Tryd.underlying29 rfl (by kernel_rfl)) rfl ?_
      exact ⟨_, rfl, Kd.S_mono (ST.out.own 1 rfl) (fun _ _ => trivial), ST.out.b⟩
    rw [if_neg ci] at h
    by_cases cj : i < (o.length : Int)
    · rw [if_pos cj] at h
      obtain ⟨rfl, rfl⟩ := Prod.mk.inj (Option.some.inj h)
      clear h
      obtain ⟨n, rfl⟩ := Int.eq_ofNat_of_zero_le (show 0 ≤ i by omega)
      have cib : decide ((n : Int) < 0) = false := decide_eq_false ci
      have hn : n < o.length := by omega
      have hcap := (ST.out.reads 1 rfl).2.1
      obtain ⟨g, cg, hv, _, _, _⟩ := Kd.S_form (ST.out.own 1 rfl) (by omega)
      injection hv with hv1 hv2 hv3
      subst hv1
      have hcc := S_cap (ST.out.own 1 rfl)
      have hb1 : (n : Int) + 1 ≤ 9223372036854775807 := by omega
      clear ci cj hcap hcc hv2 hv3
      go_wp2_with fail
      with_reducible refine (sDelete.calls n _ _ o w _ ST.out.b (ST.out.own 1 rfl) hn).mono ?_
      rintro e w4 ⟨v4, rfl, ho, hb, hk⟩
      clear hc1 hl1 hc2 hl2 cib hb1
      replace ST := Zh (ST.out.writeV 1 rfl ho hb hk)
      obtain ⟨A4, c4, rfl⟩ := Kd.S_slice ho
      clear ho hb hk
      have hc1 := ST.out.cell 0 rfl 0 (u := .slice (some ⟨g, 0, none⟩) o.length c1) rfl
      have hl1 := ST.out.lt 0 rfl
      have hf1 := ST.out.frozen 0 rfl 0
      have hc2 := ST.out.cell 2 rfl 0 (u := .slice none 0 0) rfl
      have hl2 := ST.out.lt 2 rfl
      have hf2 := ST.out.frozen 2 rfl 0
      have hne : (w1.heap.size == w.heap.size + 1) = false := by have := ST.out.ne 0 2 (by decide) rfl rfl; simpa using this
      have hne' : ¬ w1.heap.size = w.heap.size + 1 := ST.out.ne 0 2 (by decide) rfl rfl
      go_wp2_with fail
      replace ST := Zh (ST.out.set 0 rfl 0 (.slice A4 (o.eraseIdx n).length c4))
      replace ST := Zh (ST.out.set 2 rfl 0 (.slice A4 (o.eraseIdx n).length c4))
      refine Zq (results_ct rfl _ _ (w.heap.size + 1) 29 #[.slice A4 (o.eraseIdx n).length c4] (0, 0) _ rfl (ST.out.blk 2 rfl) Tryd.underlying29 rfl (by kernel_rfl)) rfl ?_
      exact ⟨_, rfl, Kd.S_mono (ST.out.own 1 rfl) (fun _ _ => trivial), ST.out.b⟩
    rw [if_neg cj] at h
    exact absurd h (by simp)
  rw [if_neg ct] at h
  obtain rfl : t = false := by simpa using ct
  obtain ⟨rfl, rfl⟩ := Prod.mk.inj (Option.some.inj h)
  clear h ct
  have hf2 := ST.out.frozen 2 rfl 0
  go_wp2_with fail
  replace ST := Zh (ST.out.set 2 rfl 0 (.slice A1 o.length c1))
  refine Zq (results_ct rfl _ _ (w.heap.size + 1) 29 #[.slice A1 o.length c1] (0, 0) _ rfl (ST.out.blk 2 rfl) Tryd.underlying29 rfl (by kernel_rfl)) rfl ?_
  exact ⟨_, rfl, Kd.S_mono (ST.out.own 1 rfl) (fun _ _ => trivial), ST.out.b⟩
theorem run_field29 (v : Value) (w : World) : (Instr.field 29 (.agg #[v]) 0).run Tryd.prog w = .ok v w := by
  simp [Instr.field, go_sem, asAgg, Tryd.underlying29, Tryd.underlying27]
attribute [local go_sem] run_field29
def impl_renameFile.f (k : Nat) (l0_0 : List S74) (a1 a2 : ByteArray) : Option (List S74 × Bool) := (impl_fileOf.f l0_0 a1).bind fun i => (impl_isDisk.f k l0_0).bind fun t => if t = true then (if i < 0 then (impl_copyDisk.f k l0_0).bind fun o => some (o, false) else (impl_isFileName.f a2).bind fun n => if n = true then (if a1.toList = a2.toList then (impl_copyDisk.f k l0_0).bind fun o => some (o, true) else (impl_removeFile.f k l0_0 a1).bind fun p => (impl_removeFile.f k p.1 a2).bind fun q => (impl_copyDisk.f k l0_0).bind fun o => if i < (o.length : Int) then (if (q.1.length + 1) * 64 ≤ 140737488355328 then some (insM q.1 ⟨a2, (rd_T74 o i).f1, (rd_T74 o i).f2⟩, true) else none) else none) else (impl_copyDisk.f k l0_0).bind fun o => some (o, false)) else (impl_copyDisk.f k l0_0).bind fun o => some (o, false)
set_option maxHeartbeats 8000000 in
set_option maxRecDepth 100000 in
theorem impl_renameFile.calls (k : Nat) (A0_0 : Option Addr) (c0_0 : Nat) (l0_0 : List S74) (a1 a2 : ByteArray) (r1 : List S74) (r2 : Bool) (w : World) (hr0_0 : Kd.C k74 w A0_0 l0_0.length l0_0) (hc0_0 : l0_0.length ≤ c0_0) (h : impl_renameFile.f k l0_0 a1 a2 = some (r1, r2)) :
    Calls Tryd.prog 79 #[.agg #[.slice A0_0 l0_0.length c0_0], .string a1, .string a2] w fun e w' => ∃ v0_ : Value, e = .returned (.tuple #[.agg #[v0_], .bool r2]) ∧ Kd.S k74 74 w' w.heap.size (fun _ => True) v0_ r1 ∧ Below w.heap.size w w' := by
  have HR := Zh hr0_0
  have HC := Zh hc0_0
  clear hr0_0 hc0_0
  have ST := Zh (LW.St.start w)
  have hu29 := Tryd.underlying29
  have hu74 := Tryd.underlying74
  unfold impl_renameFile.f at h
  replace h := Option.bind_eq_some_iff.mp h
  obtain ⟨i, HA1, h⟩ := h
  replace h := Option.bind_eq_some_iff.mp h
  obtain ⟨t, HA2, h⟩ := h
  replace HA1 := Zh HA1
  replace HA2 := Zh HA2
  have H := Zh h
  clear h
  go_enter Tryd.func79, Tryd.ntmps79
  go_wp2_with fail
  replace ST := Zh (ST.out.alloc #[.slice A0_0 l0_0.length c0_0] 29 (g := w.heap.size) rfl)
  replace ST := Zh (ST.out.alloc #[.slice none 0 0] 29 (g := w.heap.size + 1) (by simp))
  with_reducible refine (impl_fileOf.calls _ _ l0_0 a1 i _ (Kd.C_below HR.out ST.out.b) HC.out HA1.out).mono ?_
  rintro e w2 ⟨rfl, hb⟩
  replace ST := Zh (ST.out.step hb)
  clear hb
  have hc1 := ST.out.cell 1 rfl 0 (u := .slice A0_0 l0_0.length c0_0) rfl
  have hl1 := ST.out.lt 1 rfl
  go_wp2_with fail
  with_reducible refine (impl_isDisk.calls k _ _ l0_0 t _ (Kd.C_below HR.out ST.out.b) HC.out HA2.out).mono ?_
  rintro e w3 ⟨rfl, hb⟩
  replace ST := Zh (ST.out.step hb)
  clear hb hc1 hl1
  have hc1 := ST.out.cell 1 rfl 0 (u := .slice A0_0 l0_0.length c0_0) rfl
  have hl1 := ST.out.lt 1 rfl
  have h := H.out
  clear H
  by_cases ct : t = true
  · subst ct
    rw [if_pos rfl] at h
    by_cases ci : i < 0
    · rw [if_pos ci] at h
      have cib : decide (i < 0) = true := decide_eq_true ci
      clear ci
      replace h := Option.bind_eq_some_iff.mp h
      obtain ⟨o, HAo, h⟩ := h
      obtain ⟨rfl, rfl⟩ := Prod.mk.inj (Option.some.inj h)
      clear h
      replace HAo := Zh HAo
      go_wp2_with fail
      with_reducible refine (impl_copyDisk.calls k _ _ l0_0 o _ (Kd.C_below HR.out ST.out.b) HC.out HAo.out).mono ?_
      rintro e w9 ⟨v9, rfl, ho, hb⟩
      obtain ⟨A9, c9, rfl⟩ := Kd.S_slice ho
      replace ST := Zh (ST.out.row hb ho)
      clear hb ho hc1 hl1
      have hc2 := ST.out.cell 1 rfl 0 (u := .slice none 0 0) rfl
      have hl2 := ST.out.lt 1 rfl
      have hf2 := ST.out.frozen 1 rfl 0
      go_wp2
      replace ST := Zh (ST.out.set 1 rfl 0 (.slice A9 o.length c9))
      refine Zq (results_ct rfl _ _ (w.heap.size + 1) 29 #[.slice A9 o.length c9] (0, 0) _ rfl (ST.out.blk 1 rfl) Tryd.underlying29 rfl (by kernel_rfl)) rfl ?_
      exact ⟨_, rfl, Kd.S_mono (ST.out.own 0 rfl) (fun _ _ => trivial), ST.out.b⟩
    rw [if_neg ci] at h
    have cib : decide (i < 0) = false := decide_eq_false ci
    have HI0 := Zh (show 0 ≤ i by omega)
    clear ci
    replace h := Option.bind_eq_some_iff.mp h
    obtain ⟨n, HA3, h⟩ := h
    replace HA3 := Zh HA3
    have H := Zh h
    clear h
    go_wp2_with fail
    with_reducible refine (impl_isFileName.calls a2 n _ HA3.out).mono ?_
    rintro e w4 ⟨rfl, hb⟩
    replace ST := Zh (ST.out.step hb)
    clear hb hc1 hl1
    have hc1 := ST.out.cell 1 rfl 0 (u := .slice A0_0 l0_0.length c0_0) rfl
    have hl1 := ST.out.lt 1 rfl
    have h := H.out
    clear H
    by_cases cn : n = true
    · subst cn
      rw [if_pos rfl] at h
      by_cases ce : a1.toList = a2.toList
      · rw [if_pos ce] at h
        have ceb : (a1.toList == a2.toList) = true := beq_iff_eq.mpr ce
        clear ce
        replace h := Option.bind_eq_some_iff.mp h
        obtain ⟨o, HAo, h⟩ := h
        obtain ⟨rfl, rfl⟩ := Prod.mk.inj (Option.some.inj h)
        clear h
        replace HAo := Zh HAo
        go_wp2_with fail
        with_reducible refine (impl_copyDisk.calls k _ _ l0_0 o _ (Kd.C_below HR.out ST.out.b) HC.out HAo.out).mono ?_
        rintro e w9 ⟨v9, rfl, ho, hb⟩
        obtain ⟨A9, c9, rfl⟩ := Kd.S_slice ho
        replace ST := Zh (ST.out.row hb ho)
        clear hb ho hc1 hl1
        have hc2 := ST.out.cell 1 rfl 0 (u := .slice none 0 0) rfl
        have hl2 := ST.out.lt 1 rfl
        have hf2 := ST.out.frozen 1 rfl 0
        go_wp2
        replace ST := Zh (ST.out.set 1 rfl 0 (.slice A9 o.length c9))
        refine Zq (results_ct rfl _ _ (w.heap.size + 1) 29 #[.slice A9 o.length c9] (0, 0) _ rfl (ST.out.blk 1 rfl) Tryd.underlying29 rfl (by kernel_rfl)) rfl ?_
        exact ⟨_, rfl, Kd.S_mono (ST.out.own 0 rfl) (fun _ _ => trivial), ST.out.b⟩
      rw [if_neg ce] at h
      have ceb : (a1.toList == a2.toList) = false := beq_eq_false_iff_ne.mpr ce
      clear ce
      replace h := Option.bind_eq_some_iff.mp h
      obtain ⟨⟨p, pb⟩, HA4, h⟩ := h
      replace h := Option.bind_eq_some_iff.mp h
      obtain ⟨⟨q, qb⟩, HA5, h⟩ := h
      replace h := Option.bind_eq_some_iff.mp h
      obtain ⟨o, HA6, h⟩ := h
      simp only at HA5 h
      replace HA4 := Zh HA4
      replace HA5 := Zh HA5
      replace HA6 := Zh HA6
      by_cases cl : i < (o.length : Int)
      · rw [if_pos cl] at h
        by_cases cq : (q.length + 1) * 64 ≤ 140737488355328
        · rw [if_pos cq] at h
          obtain ⟨rfl, rfl⟩ := Prod.mk.inj (Option.some.inj h)
          have HCL := Zh cl
          have HCQ := Zh cq
          clear h cl cq
          go_wp2_with fail
          with_reducible refine (impl_removeFile.calls k _ _ l0_0 a1 p pb _ (Kd.C_below HR.out ST.out.b) HC.out HA4.out).mono ?_
          rintro e w5 ⟨v5, rfl, ho, hb⟩
          obtain ⟨A5, c5, rfl⟩ := Kd.S_slice ho
          replace ST := Zh (ST.out.row hb ho)
          clear hb ho hc1 hl1
          go_wp2_with fail
          replace ST := Zh (ST.out.alloc #[.slice A5 p.length c5] 29 (g := w5.heap.size) rfl)
          with_reducible refine (impl_removeFile.calls k _ _ p a2 q qb _ (ST.out.reads 1 rfl).2.2 (ST.out.reads 1 rfl).2.1 HA5.out).mono ?_
          rintro e w6 ⟨v6, rfl, ho, hb⟩
          obtain ⟨A6, c6, rfl⟩ := Kd.S_slice ho
          replace ST := Zh (ST.out.row hb ho)
          clear hb ho
          have hc1 := ST.out.cell 4 rfl 0 (u := .slice A0_0 l0_0.length c0_0) rfl
          have hl1 := ST.out.lt 4 rfl
          have hc2 := ST.out.cell 1 rfl 0 (u := .slice A5 p.length c5) rfl
          have hl2 := ST.out.lt 1 rfl
          have hf2 := ST.out.frozen 1 rfl 0
          have hne := ST.out.ne 1 4 (by decide) rfl rfl
          go_wp2_with fail
          replace ST := Zh (ST.out.set 1 rfl 0 (.slice A6 q.length c6))
          generalize (w6.setCell ⟨w5.heap.size, 0, none⟩ (.slice A6 q.length c6)) = w7 at ST ⊢
          with_reducible refine (impl_copyDisk.calls k _ _ l0_0 o _ (Kd.C_below HR.out ST.out.b) HC.out HA6.out).mono ?_
          rintro e w8 ⟨v8, rfl, ho, hb⟩
          obtain ⟨g, cg, rfl, _, _, _⟩ := Kd.S_form ho (by have := HCL.out; have := HI0.out; omega)
          replace ST := Zh (ST.out.row hb ho)
          clear hb ho hc1 hl1 hc2 hl2 hf2 hne
          obtain ⟨oki, cs, hcl, hM, hcc, hfr, hoki, hH⟩ := Kd.S_elem (ST.out.own 0 rfl) z74 i HI0.out HCL.out
          obtain ⟨pp, u1, u2, rfl, hM1, hM2⟩ := k74_openA hM
          obtain ⟨B1, d1, rfl⟩ := Kd.R_slice hM1
          obtain ⟨B2, d2, rfl⟩ := Kd.R_slice hM2
          have hrd : o.getD i.toNat z74 = rd_T74 o i := rfl
          rw [hrd] at hM1 hM2 hcc
          generalize hy : rd_T74 o i = y at hM1 hM2 hcc
          have HY := Zh hy
          clear hy
          have hy0 : w8.cell? ⟨g, i.toNat * 3, none⟩ = some (.string y.f0) := hcc 0 _ rfl
          have hy1 : w8.cell? ⟨g, i.toNat * 3 + 1, none⟩ = some (.slice B1 y.f1.length d1) := hcc 1 _ rfl
          have hy2 : w8.cell? ⟨g, i.toNat * 3 + 2, none⟩ = some (.slice B2 y.f2.length d2) := hcc 2 _ rfl
          have hc1 := ST.out.cell 2 rfl 0 (u := .slice A6 q.length c6) rfl
          have hl1 := ST.out.lt 2 rfl
          have p0 := eq_true HI0.out
          have p1 := eq_true HCL.out
          have K1 := Zh (And.intro hM1 (And.intro hM2 hoki))
          clear hrd hcl hM hcc hfr hoki hH hM1 hM2
          go_wp2_with ((with_reducible refine gate_dst (N := 11) rfl ?_); refine box_event ?hg (N := 11) ?hd (cs := #[.string (⟨#[]⟩ : ByteArray), .slice none 0 0, .slice none 0 0]) (t := 74) ?hr ?_; (case hd => rfl); (case hg => rfl); (case hr => first | (go_simp; done) | (go_simp; rfl)); intro gb hg w10 hbox hb; replace ST := Zh (ST.out.box hg hbox hb); have hd0 := ST.out.cell 0 rfl 0 (u := .string (⟨#[]⟩ : ByteArray)) rfl; have hd1 := ST.out.cell 0 rfl 1 (u := .slice none 0 0) rfl; have hd2 := ST.out.cell 0 rfl 2 (u := .slice none 0 0) rfl; have hg0 := ST.out.frozen 0 rfl 0; have hg1 := ST.out.frozen 0 rfl 1; have hg2 := ST.out.frozen 0 rfl 2; have hgl := ST.out.lt 0 rfl; replace hc1 := ST.out.cell 3 rfl 0 (u := .slice A6 q.length c6) rfl; replace hl1 := ST.out.lt 3 rfl; have hne := ST.out.ne 3 0 (by decide) rfl rfl; have hne' := hne.symm; have HBX := Zh hb; have HGB := Zh (Nat.le_of_eq hg.symm); clear hg hbox hb)
          have hb11 : Below w8.heap.size w8 ((((w10.setCell ⟨gb, 0, none⟩ (.string y.f0)).setCell ⟨gb, 1, none⟩ (.slice B1 y.f1.length d1)).setCell ⟨gb, 2, none⟩ (.slice B2 y.f2.length d2)).setCell ⟨gb, 0, none⟩ (.string a2)) := Zg (Zg (Zg (Zg HBX.out HGB.out) HGB.out) HGB.out) HGB.out
          replace ST := Zh (ST.out.set 0 rfl 0 (.string y.f0))
          replace ST := Zh (ST.out.set 0 rfl 1 (.slice B1 y.f1.length d1))
          replace ST := Zh (ST.out.set 0 rfl 2 (.slice B2 y.f2.length d2))
          replace ST := Zh (ST.out.set 0 rfl 0 (.string a2))
          clear hd0 hd1 hd2 hg0 hg1 hg2 hgl hc1 hl1 hne hne' hy0 hy1 hy2 p0 p1
          generalize ((((w10.setCell ⟨gb, 0, none⟩ (.string y.f0)).setCell ⟨gb, 1, none⟩ (.slice B1 y.f1.length d1)).setCell ⟨gb, 2, none⟩ (.slice B2 y.f2.length d2)).setCell ⟨gb, 0, none⟩ (.string a2)) = w11 at ST hb11 ⊢
          obtain ⟨hM1, hM2, hoki⟩ := K1.out
          refine (impl_withFile.calls _ oki _ q ⟨a2, y.f1, y.f2⟩ (.slice B1 y.f1.length d1) (.slice B2 y.f2.length d2) w w11 ST.out.b (ST.out.own 2 rfl) HCQ.out (k74_mkM w11 _ oki (⟨a2, y.f1, y.f2⟩ : S74) (Kd.R_mono (Kd.R_below hM1 hb11) (fun k hk => hk.1)) (Kd.R_mono (Kd.R_below hM2 hb11) (fun k hk => hk.1)) (fun k h1 h2 => (hM2.1 k h2.symm).2 (hM1.1 k h1.symm).2)) (fun k hk hp => LW.Its.disj ST.out.i 1 2 _ _ (by decide) rfl rfl k (hoki k hk).1 hp)).mono ?_
          rintro e w12 ⟨v', rfl, hS, hB12, hK12⟩
          have hl5 := ST.out.lt 5 rfl
          have b5 := (hK12.2 _ hl5 (fun hp => LW.Its.disj ST.out.i 5 2 _ _ (by decide) rfl rfl _ rfl hp)).trans (ST.out.blk 5 rfl)
          obtain ⟨A12, c12, hv12⟩ := Kd.S_slice hS
          obtain ⟨n12, hn12⟩ : ∃ n12, n12 = (insM q ⟨a2, y.f1, y.f2⟩).length := ⟨_, rfl⟩
          rw [← hn12] at hv12
          subst hv12
          clear hn12
          have FIN := Zh (And.intro hS (And.intro hB12 (And.intro hl5 b5)))
          have K2 := Zh hoki
          have hc5 := (blk_cell b5 0).trans (show _ = some (.slice none 0 0) from rfl)
          have hf5 := Zn b5 0
          have hm5 := blk_lt b5
          clear hS hB12 hK12 hl5 b5 hM1 hM2 hoki K1 hb11
          go_wp2_with fail
          obtain ⟨hS, hB12, hl5, b5⟩ := FIN.out
          have hy := HY.out
          clear HY
          subst hy
          refine Zq (results_ct rfl _ _ (w.heap.size + 1) 29 #[.slice A12 n12 c12] (0, 0) _ rfl (blk_put b5 0 _ rfl) Tryd.underlying29 rfl (by kernel_rfl)) rfl ?_
          refine ⟨_, rfl, Kd.S_mono (Kd.S_far hS (fun k hk => ?_) _) (fun _ _ => trivial), Zg hB12 (Nat.le_succ _)⟩
          show k ≠ w.heap.size + 1
          intro he
          rcases hk with hk | hk | hk
          · exact LW.Its.disj ST.out.i 2 5 _ _ (by decide) rfl rfl k hk he
          · exact LW.Its.disj ST.out.i 1 5 _ _ (by decide) rfl rfl k (K2.out k hk).1 he
          have := hk.1; omega
        rw [if_neg cq] at h; exact absurd h (by simp)
      rw [if_neg cl] at h; exact absurd h (by simp)
    rw [if_neg cn] at h
    obtain rfl : n = false := by simpa using cn
    clear cn
    replace h := Option.bind_eq_some_iff.mp h
    obtain ⟨o, HAo, h⟩ := h
    obtain ⟨rfl, rfl⟩ := Prod.mk.inj (Option.some.inj h)
    clear h
    replace HAo := Zh HAo
    go_wp2_with fail
    with_reducible refine (impl_copyDisk.calls k _ _ l0_0 o _ (Kd.C_below HR.out ST.out.b) HC.out HAo.out).mono ?_
    rintro e w9 ⟨v9, rfl, ho, hb⟩
    obtain ⟨A9, c9, rfl⟩ := Kd.S_slice ho
    replace ST := Zh (ST.out.row hb ho)
    clear hb ho hc1 hl1
    have hc2 := ST.out.cell 1 rfl 0 (u := .slice none 0 0) rfl
    have hl2 := ST.out.lt 1 rfl
    have hf2 := ST.out.frozen 1 rfl 0
    go_wp2
    replace ST := Zh (ST.out.set 1 rfl 0 (.slice A9 o.length c9))
    refine Zq (results_ct rfl _ _ (w.heap.size + 1) 29 #[.slice A9 o.length c9] (0, 0) _ rfl (ST.out.blk 1 rfl) Tryd.underlying29 rfl (by kernel_rfl)) rfl ?_
    exact ⟨_, rfl, Kd.S_mono (ST.out.own 0 rfl) (fun _ _ => trivial), ST.out.b⟩
  rw [if_neg ct] at h
  obtain rfl : t = false := by simpa using ct
  clear ct
  replace h := Option.bind_eq_some_iff.mp h
  obtain ⟨o, HAo, h⟩ := h
  obtain ⟨rfl, rfl⟩ := Prod.mk.inj (Option.some.inj h)
  clear h
  replace HAo := Zh HAo
  go_wp2_with fail
  with_reducible refine (impl_copyDisk.calls k _ _ l0_0 o _ (Kd.C_below HR.out ST.out.b) HC.out HAo.out).mono ?_
  rintro e w9 ⟨v9, rfl, ho, hb⟩
  obtain ⟨A9, c9, rfl⟩ := Kd.S_slice ho
  replace ST := Zh (ST.out.row hb ho)
  clear hb ho hc1 hl1
  have hc2 := ST.out.cell 1 rfl 0 (u := .slice none 0 0) rfl
  have hl2 := ST.out.lt 1 rfl
  have hf2 := ST.out.frozen 1 rfl 0
  go_wp2
  replace ST := Zh (ST.out.set 1 rfl 0 (.slice A9 o.length c9))
  refine Zq (results_ct rfl _ _ (w.heap.size + 1) 29 #[.slice A9 o.length c9] (0, 0) _ rfl (ST.out.blk 1 rfl) Tryd.underlying29 rfl (by kernel_rfl)) rfl ?_
  exact ⟨_, rfl, Kd.S_mono (ST.out.own 0 rfl) (fun _ _ => trivial), ST.out.b⟩
def impl_PlayDisk.step (k : Nat) (d : List S74) (x : List S71) (i : Int) : Option (List S74 × Bool) := if (rd_T71 x i).f0 = 0 then impl_appendFile.f k d (rd_T71 x i).f1 (rd_T71 x i).f3 else if (rd_T71 x i).f0 = 1 then impl_syncFile.f k d (rd_T71 x i).f1 else if (rd_T71 x i).f0 = 2 then impl_cutFile.f k d (rd_T71 x i).f1 (rd_T71 x i).f4 else if (rd_T71 x i).f0 = 3 then impl_renameFile.f k d (rd_T71 x i).f1 (rd_T71 x i).f2 else if (rd_T71 x i).f0 = 4 then impl_removeFile.f k d (rd_T71 x i).f1 else some (d, false)
def impl_PlayDisk.l0 : Nat → List S71 → List S74 → List Bool → Int → Option (List S74 × List Bool)
  | 0, _, _, _, _ => none
  | k + 1, x, d, t, i => if i < (x.length : Int) then (if 0 ≤ i then (impl_PlayDisk.step k d x i).bind fun q => (if t.length < 140737488355328 then impl_PlayDisk.l0 k x q.1 (t ++ [q.2]) (wrap64 (i + 1)) else none) else none) else some (d, t)
def impl_PlayDisk.f (k : Nat) (l : List S74) (x : List S71) : Option (List S74 × List Bool) := (impl_isDisk.f k l).bind fun t => if t = true then (if (x.length : Int) > 200 then some ([], []) else (impl_copyDisk.f k l).bind fun o => impl_PlayDisk.l0 k x o [] 0) else some ([], [])
set_option maxHeartbeats 16000000 in
set_option maxRecDepth 100000 in
theorem impl_PlayDisk.calls (k : Nat) (A0_0 : Option Addr) (c0_0 : Nat) (l0_0 : List (S74)) (A1 : Option Addr) (c1 : Nat) (l1 : List (S71)) (r1 : List (S74)) (r2 : List Bool) (w : World) (hr0_0 : Kd.C k74 w A0_0 l0_0.length l0_0) (hc0_0 : l0_0.length ≤ c0_0) (hr1 : Kd.C k71 w A1 l1.length l1) (hc1 : l1.length ≤ c1) (h : impl_PlayDisk.f k l0_0 l1 = some (r1, r2)) :
    Calls Tryd.prog 45 #[.agg #[.slice A0_0 l0_0.length c0_0], .slice A1 l1.length c1] w fun e w' => ∃ v0_ v1_ : Value, e = .returned (.tuple #[.agg #[v0_], v1_]) ∧ Kd.S k74c 74 w' w.heap.size (fun k_ => some k_ ≠ v1_.ownBlock) v0_ r1 ∧ Kd.R Kd.bool 4 w' w.heap.size (fun _ => True) v1_ r2 ∧ Below w.heap.size w w' := by
  have HR := Zh hr0_0
  have HC := Zh hc0_0
  have HR1 := Zh hr1
  clear hr0_0 hc0_0 hr1 hc1
  have ST := Zh (LW.St.start w)
  have hu29 := Tryd.underlying29
  have hu71 := Tryd.underlying71
  unfold impl_PlayDisk.f at h
  replace h := Option.bind_eq_some_iff.mp h
  obtain ⟨tt, HA1, h⟩ := h
  replace HA1 := Zh HA1
  have H := Zh h
  clear h
  go_enter Tryd.func45, Tryd.ntmps45
  go_wp2_with fail
  replace ST := Zh (ST.out.alloc #[.slice A0_0 l0_0.length c0_0] 29 (g := w.heap.size) rfl)
  replace ST := Zh (ST.out.alloc #[.slice none 0 0] 29 (g := w.heap.size + 1) (by simp))
  with_reducible refine (impl_isDisk.calls k _ _ l0_0 tt _ (Kd.C_below HR.out ST.out.b) HC.out HA1.out).mono ?_
  rintro e w1 ⟨rfl, hb⟩
  replace ST := Zh (ST.out.step hb)
  clear hb
  have h := H.out
  clear H
  have hbad : ∀ c : Bool, c = c := fun _ => rfl
  have hc0 := ST.out.cell 1 rfl 0 (u := .slice A0_0 l0_0.length c0_0) rfl
  have hl0 := ST.out.lt 1 rfl
  have hc3 := ST.out.cell 0 rfl 0 (u := .slice none 0 0) rfl
  have hl3 := ST.out.lt 0 rfl
  have hf3 := ST.out.frozen 0 rfl 0
  cases tt with
  | false =>
    rw [if_neg (by decide)] at h
    obtain ⟨rfl, rfl⟩ := Prod.mk.inj (Option.some.inj h)
    clear h
    go_wp2_with fail
    replace ST := Zh (ST.out.set 0 rfl 0 (.slice none 0 0))
    refine Zq (results_ct rfl _ _ (w.heap.size + 1) 29 #[.slice none 0 0] (0, 0) _ rfl (ST.out.blk 0 rfl) Tryd.underlying29 rfl (by kernel_rfl)) rfl ?_
    exact ⟨_, _, rfl, Kd.S_nil _ _ _ _ _, Kd.R_nil _ _ _ _ _, ST.out.b⟩
  | true =>
    rw [if_pos rfl] at h
    by_cases c2 : (l1.length : Int) > 200
    · rw [if_pos c2] at h
      obtain ⟨rfl, rfl⟩ := Prod.mk.inj (Option.some.inj h)
      have q2 : decide (200 < (l1.length : Int)) = true := decide_eq_true c2
      have q3 : decide (200 < l1.length) = true := decide_eq_true (by omega)
      clear h c2
      go_wp2_with fail
      replace ST := Zh (ST.out.set 0 rfl 0 (.slice none 0 0))
      refine Zq (results_ct rfl _ _ (w.heap.size + 1) 29 #[.slice none 0 0] (0, 0) _ rfl (ST.out.blk 0 rfl) Tryd.underlying29 rfl (by kernel_rfl)) rfl ?_
      exact ⟨_, _, rfl, Kd.S_nil _ _ _ _ _, Kd.R_nil _ _ _ _ _, ST.out.b⟩
    rw [if_neg c2] at h
    have q2 : decide (200 < (l1.length : Int)) = false := decide_eq_false c2
    have q3 : decide (200 < l1.length) = false := decide_eq_false (by omega)
    replace h := Option.bind_eq_some_iff.mp h
    obtain ⟨o, HA2, h⟩ := h
    replace HA2 := Zh HA2
    have H := Zh h
    clear h c2
    go_wp2_with fail
    with_reducible refine (impl_copyDisk.calls k _ _ l0_0 o _ (Kd.C_below HR.out ST.out.b) HC.out HA2.out).mono ?_
    rintro e w2 ⟨v2, rfl, ho, hb⟩
    obtain ⟨Ao, co, rfl⟩ := Kd.S_slice ho
    replace ST := Zh (ST.out.row hb (S_c ho))
    clear hb ho hc0 hl0 hc3 hl3 hf3 q2 q3
    have hc0 := ST.out.cell 2 rfl 0 (u := .slice A0_0 l0_0.length c0_0) rfl
    have hl0 := ST.out.lt 2 rfl
    have hf0 := ST.out.frozen 2 rfl 0
    go_wp2_with fail
    replace ST := Zh (ST.out.set 2 rfl 0 (.slice Ao o.length co))
    replace ST := Zh (ST.out.rowR (d := Kd.bool) (e := 4) (xs := []) rfl (Zf (Below.refl _ _) (.cells #[] 4)) (R_emptyB _))
    replace ST := Zh (ST.out.sel [0, 1, 3, 2] (by decide))
    rw [LW.setCell_size] at ST
    clear hc0 hl0 hf0
    generalize hW : (w2.setCell ⟨w.heap.size, 0, none⟩ (.slice Ao o.length co)).alloc (.cells #[] 4) = W at ST ⊢
    clear hW
    go_loopg [6, 24] k (fun kq va vb w' => ∃ (d : List S74) (t : List Bool) (i : Int) (Fd Ft : Nat → Prop) (Ad : Option Addr) (cd : Nat) (At : Option Addr) (ct : Nat), va = .slice At t.length ct ∧ vb = .int .i64 i ∧ Aside0 (impl_PlayDisk.l0 kq l1 d t i = some (r1, r2)) ∧ Aside0 (LW.St w w' [LW.row Kd.bool 4 w.heap.size (.slice At t.length ct) t Ft, LW.row k74c 74 w.heap.size (.slice Ad d.length cd) d Fd, LW.box w.heap.size #[.slice Ad d.length cd] 29, LW.box (w.heap.size + 1) #[.slice none 0 0] 29]))
    case atStart => exact ⟨o, [], 0, _, _, Ao, co, some ⟨w2.heap.size, 0, none⟩, 0, rfl, rfl, H, ST⟩
    case round =>
      clear ST H
      obtain ⟨d, t, i, Fd, Ft, Ad, cd, At, ct, rfl, rfl, HA, ST⟩ := hrel
      cases gk with
      | zero => exact absurd HA.out (by simp [impl_PlayDisk.l0])
      | succ k1 =>
        have h := HA.out
        clear HA
        simp only [impl_PlayDisk.l0] at h
        by_cases c3 : i < (l1.length : Int)
        · rw [if_pos c3] at h
          by_cases c4 : 0 ≤ i
          · rw [if_pos c4] at h
            obtain ⟨⟨d', okk⟩, HS, h⟩ := Option.bind_eq_some_iff.mp h
            by_cases c5 : t.length < 140737488355328
            · rw [if_pos c5] at h
              have H' := Zh h
              have HSZ := Zh c5
              clear h c5
              obtain ⟨ad, A3, c3_, e, E0, E1, E2, E3, E4, g3l, g3⟩ := at_T71 HR1.out i c4 c3
              cases e
              have HI3 := Zh g3
              have HL3 := Zh g3l
              have hx0 := (ST.out.b.cell (Zi w _ E0)).trans E0
              have hx1 := (ST.out.b.cell (Zi w _ E1)).trans E1
              have hx2 := (ST.out.b.cell (Zi w _ E2)).trans E2
              have hx3 := (ST.out.b.cell (Zi w _ E3)).trans E3
              have hx4 := (ST.out.b.cell (Zi w _ E4)).trans E4
              have q3 := decide_eq_true c3
              have p3 := eq_true c3
              have p4 := eq_true c4
              clear E0 E1 E2 E3 E4 g3l g3 c3 c4
              simp only [impl_PlayDisk.step] at HS
              go_upto_block 2 with fail
              replace ST := Zh (ST.out.alloc #[.int .i64 (rd_T71 l1 i).f0, .string (rd_T71 l1 i).f1, .string (rd_T71 l1 i).f2, .slice A3 (rd_T71 l1 i).f3.length c3_, .int .i64 (rd_T71 l1 i).f4] 71 (g := wr.heap.size) rfl)
              generalize wr.alloc (.cells #[.int .i64 (rd_T71 l1 i).f0, .string (rd_T71 l1 i).f1, .string (rd_T71 l1 i).f2, .slice A3 (rd_T71 l1 i).f3.length c3_, .int .i64 (rd_T71 l1 i).f4] 71) = w4 at ST ⊢
              clear hx0 hx1 hx2 hx3 hx4
              have hx0 := ST.out.cell 0 rfl 0 (u := .int .i64 (rd_T71 l1 i).f0) rfl
              have hx1 := ST.out.cell 0 rfl 1 (u := .string (rd_T71 l1 i).f1) rfl
              have hx2 := ST.out.cell 0 rfl 2 (u := .string (rd_T71 l1 i).f2) rfl
              have hx3 := ST.out.cell 0 rfl 3 (u := .slice A3 (rd_T71 l1 i).f3.length c3_) rfl
              have hx4 := ST.out.cell 0 rfl 4 (u := .int .i64 (rd_T71 l1 i).f4) rfl
              have hl0 := ST.out.lt 0 rfl
              have hc0 := ST.out.cell 3 rfl 0 (u := .slice Ad d.length cd) rfl
              have hl1 := ST.out.lt 3 rfl
              go_cut [9] (fun vk wc => ∃ (Ad : Option Addr) (cd : Nat) (Fd Ft : Nat → Prop), vk = .bool okk ∧ Aside0 (LW.St w wc [LW.row Kd.bool 4 w.heap.size (.slice At t.length ct) t Ft, LW.row k74c 74 w.heap.size (.slice Ad d'.length cd) d' Fd, LW.box w.heap.size #[.slice Ad d'.length cd] 29, LW.box (w.heap.size + 1) #[.slice none 0 0] 29]))
              case first =>
                by_cases g0 : (rd_T71 l1 i).f0 = 0
                · rw [if_pos g0] at HS
                  replace HS := Zh HS
                  have n0 : ((rd_T71 l1 i).f0 == 0) = true := beq_iff_eq.mpr g0
                  clear g0
                  go_wp2_with fail
                  with_reducible refine (impl_appendFile.calls k1 _ _ d (rd_T71 l1 i).f1 _ _ (rd_T71 l1 i).f3 d' okk _ (k74c_C (ST.out.reads 2 rfl).2.2) (ST.out.reads 2 rfl).2.1 (Kd.C_below HI3.out ST.out.b) HL3.out HS.out).mono ?_
                  rintro e w5 ⟨v5, rfl, ho, hb⟩
                  obtain ⟨A5, c5, rfl⟩ := Kd.S_slice ho
                  replace ST := Zh (ST.out.row hb (S_c ho))
                  clear hb ho hx0 hx1 hx2 hx3 hx4 hl0 hc0 hl1
                  have hc0 := ST.out.cell 4 rfl 0 (u := .slice Ad d.length cd) rfl
                  have hl0 := ST.out.lt 4 rfl
                  have hf0 := ST.out.frozen 4 rfl 0
                  go_wp2
                  replace ST := Zh ((ST.out.set 4 rfl 0 (.slice A5 d'.length c5)).sel [2, 0, 4, 5] (by decide))
                  go_meet
                  case rel => exact ⟨A5, c5, _, _, rfl, ST⟩
                have n0 : ((rd_T71 l1 i).f0 == 0) = false := by rw [beq_eq_false_iff_ne]; exact g0
                by_cases g1 : (rd_T71 l1 i).f0 = 1
                · rw [if_neg g0, if_pos g1] at HS
                  replace HS := Zh HS
                  have n1 : ((rd_T71 l1 i).f0 == 1) = true := beq_iff_eq.mpr g1
                  clear g0 g1
                  go_wp2_with fail
                  with_reducible refine (impl_syncFile.calls k1 _ _ d (rd_T71 l1 i).f1 d' okk _ (k74c_C (ST.out.reads 2 rfl).2.2) (ST.out.reads 2 rfl).2.1 HS.out).mono ?_
                  rintro e w5 ⟨v5, rfl, ho, hb⟩
                  obtain ⟨A5, c5, rfl⟩ := Kd.S_slice ho
                  replace ST := Zh (ST.out.row hb (S_c ho))
                  clear hb ho hx0 hx1 hx2 hx3 hx4 hl0 hc0 hl1
                  have hc0 := ST.out.cell 4 rfl 0 (u := .slice Ad d.length cd) rfl
                  have hl0 := ST.out.lt 4 rfl
                  have hf0 := ST.out.frozen 4 rfl 0
                  go_wp2
                  replace ST := Zh ((ST.out.set 4 rfl 0 (.slice A5 d'.length c5)).sel [2, 0, 4, 5] (by decide))
                  go_meet
                  case rel => exact ⟨A5, c5, _, _, rfl, ST⟩
                have n1 : ((rd_T71 l1 i).f0 == 1) = false := by rw [beq_eq_false_iff_ne]; exact g1
                by_cases g2 : (rd_T71 l1 i).f0 = 2
                · rw [if_neg g0, if_neg g1, if_pos g2] at HS
                  replace HS := Zh HS
                  have n2 : ((rd_T71 l1 i).f0 == 2) = true := beq_iff_eq.mpr g2
                  clear g0 g1 g2
                  go_wp2_with fail
                  with_reducible refine (impl_cutFile.calls k1 _ _ d (rd_T71 l1 i).f1 (rd_T71 l1 i).f4 d' okk _ (k74c_C (ST.out.reads 2 rfl).2.2) (ST.out.reads 2 rfl).2.1 HS.out).mono ?_
                  rintro e w5 ⟨v5, rfl, ho, hb⟩
                  obtain ⟨A5, c5, rfl⟩ := Kd.S_slice ho
                  replace ST := Zh (ST.out.row hb ho)
                  clear hb ho hx0 hx1 hx2 hx3 hx4 hl0 hc0 hl1
                  have hc0 := ST.out.cell 4 rfl 0 (u := .slice Ad d.length cd) rfl
                  have hl0 := ST.out.lt 4 rfl
                  have hf0 := ST.out.frozen 4 rfl 0
                  go_wp2
                  replace ST := Zh ((ST.out.set 4 rfl 0 (.slice A5 d'.length c5)).sel [2, 0, 4, 5] (by decide))
                  go_meet
                  case rel => exact ⟨A5, c5, _, _, rfl, ST⟩
                have n2 : ((rd_T71 l1 i).f0 == 2) = false := by rw [beq_eq_false_iff_ne]; exact g2
                by_cases g3 : (rd_T71 l1 i).f0 = 3
                · rw [if_neg g0, if_neg g1, if_neg g2, if_pos g3] at HS
                  replace HS := Zh HS
                  have n3 : ((rd_T71 l1 i).f0 == 3) = true := beq_iff_eq.mpr g3
                  clear g0 g1 g2 g3
                  go_wp2_with fail
                  with_reducible refine (impl_renameFile.calls k1 _ _ d (rd_T71 l1 i).f1 (rd_T71 l1 i).f2 d' okk _ (k74c_C (ST.out.reads 2 rfl).2.2) (ST.out.reads 2 rfl).2.1 HS.out).mono ?_
                  rintro e w5 ⟨v5, rfl, ho, hb⟩
                  obtain ⟨A5, c5, rfl⟩ := Kd.S_slice ho
                  replace ST := Zh (ST.out.row hb (S_c ho))
                  clear hb ho hx0 hx1 hx2 hx3 hx4 hl0 hc0 hl1
                  have hc0 := ST.out.cell 4 rfl 0 (u := .slice Ad d.length cd) rfl
                  have hl0 := ST.out.lt 4 rfl
                  have hf0 := ST.out.frozen 4 rfl 0
                  go_wp2
                  replace ST := Zh ((ST.out.set 4 rfl 0 (.slice A5 d'.length c5)).sel [2, 0, 4, 5] (by decide))
                  go_meet
                  case rel => exact ⟨A5, c5, _, _, rfl, ST⟩
                have n3 : ((rd_T71 l1 i).f0 == 3) = false := by rw [beq_eq_false_iff_ne]; exact g3
                by_cases g4 : (rd_T71 l1 i).f0 = 4
                · rw [if_neg g0, if_neg g1, if_neg g2, if_neg g3, if_pos g4] at HS
                  replace HS := Zh HS
                  have n4 : ((rd_T71 l1 i).f0 == 4) = true := beq_iff_eq.mpr g4
                  clear g0 g1 g2 g3 g4
                  go_wp2_with fail
                  with_reducible refine (impl_removeFile.calls k1 _ _ d (rd_T71 l1 i).f1 d' okk _ (k74c_C (ST.out.reads 2 rfl).2.2) (ST.out.reads 2 rfl).2.1 HS.out).mono ?_
                  rintro e w5 ⟨v5, rfl, ho, hb⟩
                  obtain ⟨A5, c5, rfl⟩ := Kd.S_slice ho
                  replace ST := Zh (ST.out.row hb (S_c ho))
                  clear hb ho hx0 hx1 hx2 hx3 hx4 hl0 hc0 hl1
                  have hc0 := ST.out.cell 4 rfl 0 (u := .slice Ad d.length cd) rfl
                  have hl0 := ST.out.lt 4 rfl
                  have hf0 := ST.out.frozen 4 rfl 0
                  go_wp2
                  replace ST := Zh ((ST.out.set 4 rfl 0 (.slice A5 d'.length c5)).sel [2, 0, 4, 5] (by decide))
                  go_meet
                  case rel => exact ⟨A5, c5, _, _, rfl, ST⟩
                have n4 : ((rd_T71 l1 i).f0 == 4) = false := by rw [beq_eq_false_iff_ne]; exact g4
                rw [if_neg g0, if_neg g1, if_neg g2, if_neg g3, if_neg g4] at HS
                obtain ⟨rfl, rfl⟩ := Prod.mk.inj (Option.some.inj HS)
                clear HS g0 g1 g2 g3 g4
                go_wp2
                replace ST := Zh (ST.out.sel [1, 2, 3, 4] (by decide))
                go_meet
                case rel => exact ⟨_, _, _, _, rfl, ST⟩
              case rest =>
              clear ST hx0 hx1 hx2 hx3 hx4 hl0 hc0 hl1 HS p3 p4 q3
              obtain ⟨Ad, cd, Fd, Ft, rfl, ST⟩ := hcut
              go_wp2_with ((with_reducible refine gate_builtin (b := .append) (xs := #[.tmp 81, .tmp 83]) rfl ?_); at_builtin; refine Kd.R_append Kd.bool (w0 := w) w.heap.size rfl (.tmp 81) (.tmp 83) 57 4 (.bool false) 1 rfl Tryd.underlying57 (by kernel_rfl) rfl (by decide) (by omega) (.slice At t.length ct) t okk [.bool okk] (fun k => Ft k ∨ wc.heap.size ≤ k) (fun _ => False) rfl rfl rfl (fun _ h => h.elim) (fun k hk => .inr hk) (Kd.R_mono (Kd.S_R (ST.out.own 0 rfl)) (fun k hk => .inl hk)) ST.out.b ST.out.b.size (by have := HSZ.out; omega) ?_; intro v1 w6 s1 s2 s3 s4; obtain ⟨A8, c8, hv⟩ := Kd.R_slice s1; rw [List.length_append] at hv; subst hv; have Q := Zh (And.intro s1 (And.intro s2 s3)); clear s1 s2 s3 s4)
              obtain ⟨s1, s2, s3⟩ := Q.out
              have hST := ST.out.grow 0 rfl (LW.row Kd.bool 4 w.heap.size (.slice A8 (t.length + 1) c8) (t ++ [okk]) (fun k => Ft k ∨ (wc.heap.size ≤ k ∧ k < w6.heap.size))) (fun k hk => hk) (LW.S_flat rfl (Kd.R_mono (Kd.R_tight rfl s1) (fun k hk => (s1.1 k hk.symm).elim .inl (fun a => .inr ⟨a, Kd.R_lt s1 k hk.symm⟩)))) s2 ⟨s3.size, fun k hk hn => s3.block k hk (fun he => hn ((Kd.S_R (ST.out.own 0 rfl)).1 k he.symm))⟩
              clear s1 s2 s3 Q
              go_roundg k1
              case measure => omega
              case rel => exact ⟨_, t ++ [okk], _, _, _, Ad, cd, A8, c8, by rw [List.length_append]; rfl, rfl, H', ⟨by rw [List.length_append]; exact hST⟩⟩
            rw [if_neg c5] at h; exact absurd h (by simp)
          rw [if_neg c4] at h; exact absurd h (by simp)
        rw [if_neg c3] at h
        obtain ⟨rfl, rfl⟩ := Prod.mk.inj (Option.some.inj h)
        have q3 := decide_eq_false c3
        clear h c3
        have hc0 := ST.out.cell 2 rfl 0 (u := .slice Ad d.length cd) rfl
        have hl0 := ST.out.lt 2 rfl
        have hc1 := ST.out.cell 3 rfl 0 (u := .slice none 0 0) rfl
        have hl1 := ST.out.lt 3 rfl
        have hf1 := ST.out.frozen 3 rfl 0
        have hne := ST.out.ne 2 3 (by decide) rfl rfl
        have hne' := hne.symm
        go_wp2_with fail
        replace ST := Zh (ST.out.set 3 rfl 0 (.slice Ad d.length cd))
        refine Zq (results_ct rfl _ _ (w.heap.size + 1) 29 #[.slice Ad d.length cd] (0, 0) _ rfl (ST.out.blk 3 rfl) Tryd.underlying29 rfl (by kernel_rfl)) rfl ?_
        have hd := LW.Its.disj ST.out.i 1 0 _ _ (by decide) rfl rfl
        exact ⟨_, _, rfl, Kd.S_mono (ST.out.own 1 rfl) (fun k hk he => hd k hk ((Kd.S_R (ST.out.own 0 rfl)).1 k he.symm)), Kd.R_mono (Kd.S_R (ST.out.own 0 rfl)) (fun _ _ => trivial), ST.out.b⟩
end Go.Proofs.YtmgeffgcihfpcaaDoor.F

namespace Go.Proofs.YtmgeffgcihfpcaaDoor.F
open Go.RowKit Go.Proofs.YtmgeffgcihfpcaaDoorW.PrintWords Go.Proofs.YtmgeffgcihfpcaaDoorW.PrintWords.Kd Go.Proofs.YtmgeffgcihfpcaaDoorW.PrintMore.Kd Go.Proofs.YtmgeffgcihfpcaaDoorW.PrintLast Go.Proofs.YtmgeffgcihfpcaaDoorW.PrintMore
attribute [local go_sem] max2_int min2_int max_two min_two max_three min_three max_four min_four   -- for this text's walks alone
set_option linter.unusedVariables false
set_option linter.unusedSimpArgs false
def spec_l03Find.l0 : Nat → ByteArray → Int → List (S74) → Option (Int)
 | 0, _, _, _ => none
 | k + 1, x1, x5, x173000 => if x5 < (x173000.length : Int) then (if 0 ≤ x5 then (if ((rd_T74 x173000 x5).f0).toList = x1.toList then (some x5) else (spec_l03Find.l0 k x1 (wrap64 (x5 + 1)) x173000)) else (none)) else (some (-1))
def spec_l03Find.f (k : Nat) (l0_0 : List (S74)) (a1 : ByteArray) : Option (Int) := spec_l03Find.l0 k a1 0 l0_0
set_option maxHeartbeats 8000000 in
set_option maxRecDepth 100000 in
theorem spec_l03Find.calls (k : Nat) (A0_0 : Option Addr) (c0_0 : Nat) (l0_0 : List (S74)) (a1 : ByteArray) (r : Int) (w : World) (hr0_0 : Kd.C k74 w A0_0 l0_0.length l0_0) (hc0_0 : l0_0.length ≤ c0_0) (h : spec_l03Find.f k l0_0 a1 = some r) :
  Calls Tryd.prog 61 #[.agg #[.slice A0_0 l0_0.length c0_0], .string a1] w fun e w' => e = .returned (.int .i64 r) ∧ Below w.heap.size w w' := by
 have hu29 := Tryd.underlying29
 have HR0_0 := Zh hr0_0
 have HC0_0 := Zh hc0_0
 clear hr0_0 hc0_0
 have HB := Zh (Below.refl w.heap.size w)
 have H : (spec_l03Find.l0 k a1 0 l0_0) = some r := h
 clear h
 have H' := Zh H
 clear H
 go_enter Tryd.func61, Tryd.ntmps61
 go_wp2_with (first | ((with_reducible refine gate_dst (N := 2) rfl ?_); refine box_event ?hg (N := 2) ?hd (cs := #[.slice A0_0 l0_0.length c0_0]) (t := 29) ?hr ?_; (case hd => rfl); (case hg => rfl); (case hr => first | (go_simp; done) | (go_simp; rfl)); intro gb172 hg w3 hbox hb; have BK172 := Zh (hbox); have GW172 := Zh ((by rw [hg]; exact (below_size Zs) : w.heap.size ≤ gb172)); have GE172 := Zh ((by rw [hg]; exact (below_size Zs) : w.heap.size ≤ gb172)); replace HB := Zh (Zl Zs hb); clear hb hbox hg))
 go_loopg [5] k (fun kq v5 w' => ∃ (x5_1 : Int), v5 = .int .i64 x5_1 ∧ Aside0 (spec_l03Find.l0 kq a1 x5_1 l0_0 = some r) ∧ Aside0 (kq ≤ k) ∧ Aside0 (w'.heap[gb172]? = some (.cells #[(.slice A0_0 l0_0.length c0_0)] 29 (0, 0))) ∧ Aside0 (Below w.heap.size w w'))
 case atStart => exact ⟨(0), (by first | rfl | (simp; done) | (simp [*]; done)), H', ⟨Nat.le_refl _⟩, ⟨Zk⟩, ⟨Zs⟩⟩
 case round =>
  clear H'
  try clear p2
  obtain ⟨x5_1, rfl, HA, HK1, BK172, HB⟩ := hrel
  cases gk with
  | zero => exact absurd HA.out (by simp [spec_l03Find.l0])
  | succ k1 =>
   have H := HA.out
   clear HA
   simp only [spec_l03Find.l0] at H
   by_cases c4 : x5_1 < (l0_0.length : Int)
   ·
    rw [if_pos c4] at H
    have c4b0 : decide (x5_1 < (l0_0.length : Int)) = true := decide_eq_true c4
    clear c4
    by_cases c5 : 0 ≤ x5_1
    ·
     rw [if_pos c5] at H
     have c5b0 : decide (0 ≤ x5_1) = true := decide_eq_true c5
     clear c5
     by_cases c6 : ((rd_T74 l0_0 x5_1).f0).toList = a1.toList
     ·
      rw [if_pos c6] at H
      have c6b0 : (((rd_T74 l0_0 x5_1).f0).toList == a1.toList) = true := beq_iff_eq.mpr c6
      have c6b1 : (((rd_T74 l0_0 x5_1).f0).toList != a1.toList) = false := bne_eq_false_iff_eq.mpr c6
      clear c6
      obtain rfl := Option.some.inj H
      have hcz7_0 : wr.cell? ⟨gb172, 0, none⟩ = some (.slice A0_0 l0_0.length c0_0) := (blk_cell BK172.out 0).trans rfl
      have hfz7_0 := Zn BK172.out 0
      have p173 : 0 ≤ (x5_1 : Int) := Zo
      have q173 : x5_1 < (l0_0.length : Int) := Zo
      obtain ⟨ad173, A173_1, c173_1, A173_2, c173_2, e173, hx173_0, hx173_1, hx173_2, hl173_1, hi173_1, hl173_2, hi173_2⟩ := at_T74 HR0_0.out x5_1 p173 q173
      cases e173
      replace hx173_0 := Zc HB.out hx173_0
      replace hx173_1 := Zc HB.out hx173_1
      replace hx173_2 := Zc HB.out hx173_2
      have HR173_1 := Zh hi173_1
      have HC173_1 := Zh hl173_1
      clear hi173_1 hl173_1
      have HR173_2 := Zh hi173_2
      have HC173_2 := Zh hl173_2
      clear hi173_2 hl173_2
      replace p173 := eq_true p173
      replace q173 := eq_true q173
      go_wp2
      go_ret
      exact ⟨ZE, Zs⟩
     rw [if_neg c6] at H
     have c6b0 : (((rd_T74 l0_0 x5_1).f0).toList == a1.toList) = false := beq_eq_false_iff_ne.mpr c6
     have c6b1 : (((rd_T74 l0_0 x5_1).f0).toList != a1.toList) = true := bne_iff_ne.mpr c6
     have H' := Zh H
     clear H
     have hcz8_0 : wr.cell? ⟨gb172, 0, none⟩ = some (.slice A0_0 l0_0.length c0_0) := (blk_cell BK172.out 0).trans rfl
     have hfz8_0 := Zn BK172.out 0
     have p173 : 0 ≤ (x5_1 : Int) := Zo
     have q173 : x5_1 < (l0_0.length : Int) := Zo
     obtain ⟨ad173, A173_1, c173_1, A173_2, c173_2, e173, hx173_0, hx173_1, hx173_2, hl173_1, hi173_1, hl173_2, hi173_2⟩ := at_T74 HR0_0.out x5_1 p173 q173
     cases e173
     replace hx173_0 := Zc HB.out hx173_0
     replace hx173_1 := Zc HB.out hx173_1
     replace hx173_2 := Zc HB.out hx173_2
     have HR173_1 := Zh hi173_1
     have HC173_1 := Zh hl173_1
     clear hi173_1 hl173_1
     have HR173_2 := Zh hi173_2
     have HC173_2 := Zh hl173_2
     clear hi173_2 hl173_2
     replace p173 := eq_true p173
     replace q173 := eq_true q173
     go_wp2
     go_roundg k1
     case measure => have := HK1.out; omega
     case rel => exact ⟨(wrap64 (x5_1 + 1)), (by first | rfl | (simp; done) | (simp [*]; done)), H', ⟨by have := HK1.out; omega⟩, ⟨Zk⟩, ⟨Zs⟩⟩
    rw [if_neg c5] at H
    exact absurd H (by simp)
   rw [if_neg c4] at H
   have c4b0 : decide (x5_1 < (l0_0.length : Int)) = false := decide_eq_false c4
   clear c4
   obtain rfl := Option.some.inj H
   have hcz9_0 : wr.cell? ⟨gb172, 0, none⟩ = some (.slice A0_0 l0_0.length c0_0) := (blk_cell BK172.out 0).trans rfl
   have hfz9_0 := Zn BK172.out 0
   go_wp2
   go_ret
   exact ⟨ZE, Zs⟩
def spec_l01In.f (a0 : Int) (a1 : Int) (a2 : Int) : Option (Bool) := if a1 ≤ a0 then (some (decide (a0 ≤ a2))) else (some false)
set_option maxHeartbeats 8000000 in
set_option maxRecDepth 100000 in
theorem spec_l01In.calls (a0 : Int) (a1 : Int) (a2 : Int) (r : Bool) (w : World) (h : spec_l01In.f a0 a1 a2 = some r) :
  Calls Tryd.prog 72 #[.int .i64 a0, .int .i64 a1, .int .i64 a2] w fun e w' => e = .returned (.bool r) ∧ Drawn0 w w' := by
 have H : (if a1 ≤ a0 then (some (decide (a0 ≤ a2))) else (some false)) = some r := h
 clear h
 by_cases c4 : a1 ≤ a0
 ·
  rw [if_pos c4] at H
  have c4b0 : decide (a1 ≤ a0) = true := decide_eq_true c4
  clear c4
  obtain rfl := Option.some.inj H
  go_enter Tryd.func72, Tryd.ntmps72
  go_wp2
  go_ret
  exact ⟨by first | rfl | (simp; done) | (simp [*]; done), by repeat (first | exact Drawn0.refl _ | apply Drawn0.step)⟩
 rw [if_neg c4] at H
 have c4b0 : decide (a1 ≤ a0) = false := decide_eq_false c4
 clear c4
 obtain rfl := Option.some.inj H
 go_enter Tryd.func72, Tryd.ntmps72
 go_wp2
 go_ret
 exact ⟨by first | rfl | (simp; done) | (simp [*]; done), by repeat (first | exact Drawn0.refl _ | apply Drawn0.step)⟩
def spec_l01Name.l0 : Nat → ByteArray → Int → Option (Bool)
 | 0, _, _ => none
 | k + 1, x0, x3 => if x3 < (x0.size : Int) then (if 0 ≤ x3 then (if (bt x0 x3) ≥ 97 then (if ((bt x0 x3) ≤ 122) then (spec_l01Name.l0 k x0 (wrap64 (x3 + 1))) else (if (bt x0 x3) ≥ 48 then (if ((bt x0 x3) ≤ 57) then (spec_l01Name.l0 k x0 (wrap64 (x3 + 1))) else (some false)) else (some false))) else (if (bt x0 x3) ≥ 48 then (if ((bt x0 x3) ≤ 57) then (spec_l01Name.l0 k x0 (wrap64 (x3 + 1))) else (some false)) else (some false))) else (none)) else ((spec_l01In.f (x0.size : Int) 1 12).bind fun t108 => (some t108))
def spec_l01Name.f (k : Nat) (a0 : ByteArray) : Option (Bool) := spec_l01Name.l0 k a0 0
set_option maxHeartbeats 8000000 in
set_option maxRecDepth 100000 in
theorem spec_l01Name.calls (k : Nat) (a0 : ByteArray) (r : Bool) (w : World) (h : spec_l01Name.f k a0 = some r) :
  Calls Tryd.prog 57 #[.string a0] w fun e w' => e = .returned (.bool r) ∧ Drawn0 w w' := by
 have H : (spec_l01Name.l0 k a0 0) = some r := h
 clear h
 have H' := Zh H
 clear H
 go_enter Tryd.func57, Tryd.ntmps57
 go_wp2
 go_loopg [3] k (fun kq v3 w' => ∃ (x3_1 : Int), v3 = .int .i64 x3_1 ∧ Aside0 (spec_l01Name.l0 kq a0 x3_1 = some r) ∧ Aside0 (kq ≤ k) ∧ Drawn0 w w')
 case atStart => exact ⟨(0), (by first | rfl | (simp; done) | (simp [*]; done)), H', ⟨Nat.le_refl _⟩, by repeat (first | exact Drawn0.refl _ | apply Drawn0.step)⟩
 case round =>
  clear H'
  obtain ⟨x3_1, rfl, HA, HK1, ⟨m1, rfl⟩⟩ := hrel
  cases gk with
  | zero => exact absurd HA.out (by simp [spec_l01Name.l0])
  | succ k1 =>
   have H := HA.out
   clear HA
   simp only [spec_l01Name.l0] at H
   by_cases c2 : x3_1 < (a0.size : Int)
   ·
    rw [if_pos c2] at H
    have c2b0 : decide (x3_1 < (a0.size : Int)) = true := decide_eq_true c2
    clear c2
    by_cases c3 : 0 ≤ x3_1
    ·
     rw [if_pos c3] at H
     have c3b0 : decide (0 ≤ x3_1) = true := decide_eq_true c3
     clear c3
     by_cases c5 : (bt a0 x3_1) ≥ 97
     ·
      rw [if_pos c5] at H
      have c5b0 : decide (97 ≤ (bt a0 x3_1)) = true := decide_eq_true c5
      clear c5
      by_cases c6 : ((bt a0 x3_1) ≤ 122)
      ·
       rw [if_pos c6] at H
       have c6b0 : decide ((bt a0 x3_1) ≤ 122) = true := decide_eq_true c6
       clear c6
       have H' := Zh H
       clear H
       have p4 : 0 ≤ (x3_1 : Int) := Zo
       have q4 : x3_1 < (a0.size : Int) := Zo
       have hx4 := bt_at a0 x3_1
       replace p4 := eq_true p4
       replace q4 := eq_true q4
       go_wp2
       go_roundg k1
       case measure => have := HK1.out; omega
       case rel => exact ⟨(wrap64 (x3_1 + 1)), (by first | rfl | (simp; done) | (simp [*]; done)), H', ⟨by have := HK1.out; omega⟩, by repeat (first | exact Drawn0.refl _ | apply Drawn0.step)⟩
      rw [if_neg c6] at H
      have c6b0 : decide ((bt a0 x3_1) ≤ 122) = false := decide_eq_false c6
      clear c6
      by_cases c7 : (bt a0 x3_1) ≥ 48
      ·
       rw [if_pos c7] at H
       have c7b0 : decide (48 ≤ (bt a0 x3_1)) = true := decide_eq_true c7
       clear c7
       by_cases c8 : ((bt a0 x3_1) ≤ 57)
       ·
        rw [if_pos c8] at H
        have c8b0 : decide ((bt a0 x3_1) ≤ 57) = true := decide_eq_true c8
        clear c8
        have H' := Zh H
        clear H
        have p4 : 0 ≤ (x3_1 : Int) := Zo
        have q4 : x3_1 < (a0.size : Int) := Zo
        have hx4 := bt_at a0 x3_1
        replace p4 := eq_true p4
        replace q4 := eq_true q4
        go_wp2
        go_roundg k1
        case measure => have := HK1.out; omega
        case rel => exact ⟨(wrap64 (x3_1 + 1)), (by first | rfl | (simp; done) | (simp [*]; done)), H', ⟨by have := HK1.out; omega⟩, by repeat (first | exact Drawn0.refl _ | apply Drawn0.step)⟩
       rw [if_neg c8] at H
       have c8b0 : decide ((bt a0 x3_1) ≤ 57) = false := decide_eq_false c8
       clear c8
       obtain rfl := Option.some.inj H
       have p4 : 0 ≤ (x3_1 : Int) := Zo
       have q4 : x3_1 < (a0.size : Int) := Zo
       have hx4 := bt_at a0 x3_1
       replace p4 := eq_true p4
       replace q4 := eq_true q4
       go_wp2
       go_ret
       exact ⟨by first | rfl | (simp; done) | (simp [*]; done), by repeat (first | exact Drawn0.refl _ | apply Drawn0.step)⟩
      rw [if_neg c7] at H
      have c7b0 : decide (48 ≤ (bt a0 x3_1)) = false := decide_eq_false c7
      clear c7
      obtain rfl := Option.some.inj H
      have p4 : 0 ≤ (x3_1 : Int) := Zo
      have q4 : x3_1 < (a0.size : Int) := Zo
      have hx4 := bt_at a0 x3_1
      replace p4 := eq_true p4
      replace q4 := eq_true q4
      go_wp2
      go_ret
      exact ⟨by first | rfl | (simp; done) | (simp [*]; done), by repeat (first | exact Drawn0.refl _ | apply Drawn0.step)⟩
     rw [if_neg c5] at H
     have c5b0 : decide (97 ≤ (bt a0 x3_1)) = false := decide_eq_false c5
     clear c5
     by_cases c9 : (bt a0 x3_1) ≥ 48
     ·
      rw [if_pos c9] at H
      have c9b0 : decide (48 ≤ (bt a0 x3_1)) = true := decide_eq_true c9
      clear c9
      by_cases c10 : ((bt a0 x3_1) ≤ 57)
      ·
       rw [if_pos c10] at H
       have c10b0 : decide ((bt a0 x3_1) ≤ 57) = true := decide_eq_true c10
       clear c10
       have H' := Zh H
       clear H
       have p4 : 0 ≤ (x3_1 : Int) := Zo
       have q4 : x3_1 < (a0.size : Int) := Zo
       have hx4 := bt_at a0 x3_1
       replace p4 := eq_true p4
       replace q4 := eq_true q4
       go_wp2
       go_roundg k1
       case measure => have := HK1.out; omega
       case rel => exact ⟨(wrap64 (x3_1 + 1)), (by first | rfl | (simp; done) | (simp [*]; done)), H', ⟨by have := HK1.out; omega⟩, by repeat (first | exact Drawn0.refl _ | apply Drawn0.step)⟩
      rw [if_neg c10] at H
      have c10b0 : decide ((bt a0 x3_1) ≤ 57) = false := decide_eq_false c10
      clear c10
      obtain rfl := Option.some.inj H
      have p4 : 0 ≤ (x3_1 : Int) := Zo
      have q4 : x3_1 < (a0.size : Int) := Zo
      have hx4 := bt_at a0 x3_1
      replace p4 := eq_true p4
      replace q4 := eq_true q4
      go_wp2
      go_ret
      exact ⟨by first | rfl | (simp; done) | (simp [*]; done), by repeat (first | exact Drawn0.refl _ | apply Drawn0.step)⟩
     rw [if_neg c9] at H
     have c9b0 : decide (48 ≤ (bt a0 x3_1)) = false := decide_eq_false c9
     clear c9
     obtain rfl := Option.some.inj H
     have p4 : 0 ≤ (x3_1 : Int) := Zo
     have q4 : x3_1 < (a0.size : Int) := Zo
     have hx4 := bt_at a0 x3_1
     replace p4 := eq_true p4
     replace q4 := eq_true q4
     go_wp2
     go_ret
     exact ⟨by first | rfl | (simp; done) | (simp [*]; done), by repeat (first | exact Drawn0.refl _ | apply Drawn0.step)⟩
    rw [if_neg c3] at H
    exact absurd H (by simp)
   rw [if_neg c2] at H
   have c2b0 : decide (x3_1 < (a0.size : Int)) = false := decide_eq_false c2
   clear c2
   replace H := Option.bind_eq_some_iff.mp H
   obtain ⟨t108, A110, H⟩ := H
   replace H : (some t108) = some r := H
   have A11 := Zh A110
   clear A110
   obtain rfl := Option.some.inj H
   go_wp2_with (first | ((with_reducible refine gate_callee (f := 72) rfl ?_); refine ZG (some 32) Tryd.func72 #[.int .i64 (a0.size : Int), .int .i64 1, .int .i64 12] rfl ?_; (with_reducible refine (spec_l01In.calls (a0.size : Int) 1 12 t108 _ A11.out).mono ?_); rintro e w' ⟨rfl, ⟨nd, rfl⟩⟩; refine ⟨_, rfl, ?_⟩))
   go_ret
   exact ⟨by first | rfl | (simp; done) | (simp [*]; done), by repeat (first | exact Drawn0.refl _ | apply Drawn0.step)⟩
end Go.Proofs.YtmgeffgcihfpcaaDoor.F

namespace Go.Proofs.YtmgeffgcihfpcaaDoor.F
open Go.RowKit Go.Proofs.YtmgeffgcihfpcaaDoorW.PrintWords Go.Proofs.YtmgeffgcihfpcaaDoorW.PrintLast Go.Proofs.YtmgeffgcihfpcaaDoorW.PrintMore
open Go.Proofs.YtmgeffgcihfpcaaDoor
set_option linter.unusedVariables false
set_option linter.unusedSimpArgs false
def spec_DiskOk.l0 : Nat → Int → List (S74) → Option (Bool)
  | 0, _, _ => none
  | k + 1, x3, x => if x3 < (x.length : Int) then (if 0 ≤ x3 then ((spec_l01Name.f k ((rd_T74 x x3).f0)).bind fun t112 => (if t112 = true then (if (((rd_T74 x x3).f1).length : Int) > 20000 then (some false) else (if (((rd_T74 x x3).f2).length : Int) > (wrap64 (20000 - (((rd_T74 x x3).f1).length : Int))) then (some false) else (if x3 > 0 then (if 0 ≤ (wrap64 (x3 - 1)) then (if (wrap64 (x3 - 1)) < (x.length : Int) then (if ((Op.bytesLess (((rd_T74 x (wrap64 (x3 - 1))).f0).toList) (((rd_T74 x x3).f0).toList)) = true) then (spec_DiskOk.l0 k (wrap64 (x3 + 1)) x) else (some false)) else (none)) else (none)) else (spec_DiskOk.l0 k (wrap64 (x3 + 1)) x)))) else (some false))) else (none)) else (some true)
def spec_DiskOk.f (k : Nat) (l0_0 : List (S74)) : Option (Bool) := if (l0_0.length : Int) > 8 then (some false) else (spec_DiskOk.l0 k 0 l0_0)
set_option maxHeartbeats 8000000 in
set_option maxRecDepth 100000 in
theorem spec_DiskOk.calls (k : Nat) (A0_0 : Option Addr) (c0_0 : Nat) (l0_0 : List (S74)) (r : Bool) (w : World) (hr0_0 : Kd.C k74 w A0_0 l0_0.length l0_0) (hc0_0 : l0_0.length ≤ c0_0) (h : spec_DiskOk.f k l0_0 = some r) :
    Calls Tryd.prog 15 #[.agg #[.slice A0_0 l0_0.length c0_0]] w fun e w' => e = .returned (.bool r) ∧ Below w.heap.size w w' := by
  have HR := Zh hr0_0
  clear hr0_0 hc0_0
  have ST := Zh (LW.St.start w)
  have hu29 := Tryd.underlying29
  have hu74 := Tryd.underlying74
  unfold spec_DiskOk.f at h
  by_cases c1 : (l0_0.length : Int) > 8
  · rw [if_pos c1] at h
    obtain rfl := Option.some.inj h
    have q1 : decide (8 < (l0_0.length : Int)) = true := decide_eq_true c1
    have q2 : decide (8 < l0_0.length) = true := decide_eq_true (by omega)
    clear h c1
    go_enter Tryd.func15, Tryd.ntmps15
    go_wp2
    go_ret
    exact ⟨rfl, (ST.out.alloc _ _ rfl).b⟩
  rw [if_neg c1] at h
  have q1 : decide (8 < (l0_0.length : Int)) = false := decide_eq_false c1
  have q2 : decide (8 < l0_0.length) = false := decide_eq_false (by omega)
  have H := Zh h
  clear h c1
  go_enter Tryd.func15, Tryd.ntmps15
  go_wp2_with fail
  replace ST := Zh (ST.out.alloc #[.slice A0_0 l0_0.length c0_0] 29 (g := w.heap.size) rfl)
  generalize hW : (w.alloc (.cells #[.slice A0_0 l0_0.length c0_0] 29)) = W at ST ⊢
  clear hW q1 q2
  go_loopg [3] k (fun kq v3 w' => ∃ (x3 : Int), v3 = .int .i64 x3 ∧ Aside0 (spec_DiskOk.l0 kq x3 l0_0 = some r) ∧ Aside0 (LW.St w w' [LW.box w.heap.size #[.slice A0_0 l0_0.length c0_0] 29]))
  case atStart => exact ⟨0, rfl, H, ST⟩
  case round =>
    clear H ST
    obtain ⟨x3, rfl, HA, ST⟩ := hrel
    cases gk with
    | zero => exact absurd HA.out (by simp [spec_DiskOk.l0])
    | succ k1 =>
      have H := HA.out
      clear HA
      simp only [spec_DiskOk.l0] at H
      have hc0 := ST.out.cell 0 rfl 0 (u := .slice A0_0 l0_0.length c0_0) rfl
      have hl0 := ST.out.lt 0 rfl
      by_cases c8 : x3 < (l0_0.length : Int)
      · rw [if_pos c8] at H
        have q8 := decide_eq_true c8
        by_cases p0 : 0 ≤ x3
        · rw [if_pos p0] at H
          obtain ⟨t, A7, H⟩ := Option.bind_eq_some_iff.mp H
          obtain ⟨ad, B1, d1, B2, d2, e, E0, E1, E2, _, _, _, _⟩ := at_T74 HR.out x3 p0 c8
          cases e
          have hx0 := (ST.out.b.cell (Zi w _ E0)).trans E0
          have hx1 := (ST.out.b.cell (Zi w _ E1)).trans E1
          have hx2 := (ST.out.b.cell (Zi w _ E2)).trans E2
          have hcall : ∀ w' : World, Calls Tryd.prog 57 #[.string (rd_T74 l0_0 x3).f0] w' fun e w'' => e = .returned (.bool t) ∧ ∃ m, w'' = w'.drewN m := fun w' => (spec_l01Name.calls k1 (rd_T74 l0_0 x3).f0 t w' A7).mono (fun _ _ h => ⟨h.1, h.2.out⟩)
          have p1 := eq_true p0
          have p2 := eq_true c8
          clear E0 E1 E2 p0 c8 A7
          go_wp2_with fail
          replace ST := Zh (ST.out.alloc #[.string (rd_T74 l0_0 x3).f0, .slice B1 (rd_T74 l0_0 x3).f1.length d1, .slice B2 (rd_T74 l0_0 x3).f2.length d2] 74 (g := wr.heap.size) rfl)
          generalize (wr.alloc (.cells #[.string (rd_T74 l0_0 x3).f0, .slice B1 (rd_T74 l0_0 x3).f1.length d1, .slice B2 (rd_T74 l0_0 x3).f2.length d2] 74)) = w4 at ST ⊢
          clear hx0 hx1 hx2 hc0 hl0
          have hc0 := ST.out.cell 1 rfl 0 (u := .slice (some ad) l0_0.length c0_0) rfl
          have hc1 := ST.out.cell 0 rfl 0 (u := .string (rd_T74 l0_0 x3).f0) rfl
          have hc2 := ST.out.cell 0 rfl 1 (u := .slice B1 (rd_T74 l0_0 x3).f1.length d1) rfl
          have hc3 := ST.out.cell 0 rfl 2 (u := .slice B2 (rd_T74 l0_0 x3).f2.length d2) rfl
          cases t with
          | false =>
            rw [if_neg (by decide)] at H
            obtain rfl := Option.some.inj H
            clear H
            go_quiet (first | (go_at_call 57; exact Calls.quiet_of (hcall _)))
            go_wp2
            go_ret
            exact ⟨rfl, (ST.out.drewN _).b⟩
          | true =>
            rw [if_pos rfl] at H
            by_cases c9 : (((rd_T74 l0_0 x3).f1).length : Int) > 20000
            · rw [if_pos c9] at H
              obtain rfl := Option.some.inj H
              have q9 : decide (20000 < ((rd_T74 l0_0 x3).f1.length : Int)) = true := decide_eq_true c9
              have q9n : decide (20000 < (rd_T74 l0_0 x3).f1.length) = true := decide_eq_true (by omega)
              clear H c9
              go_quiet (first | (go_at_call 57; exact Calls.quiet_of (hcall _)))
              go_wp2
              go_ret
              exact ⟨rfl, (ST.out.drewN _).b⟩
            rw [if_neg c9] at H
            have q9 : decide (20000 < ((rd_T74 l0_0 x3).f1.length : Int)) = false := decide_eq_false c9
            have q9n : decide (20000 < (rd_T74 l0_0 x3).f1.length) = false := decide_eq_false (by omega)
            clear c9
            by_cases c10 : (((rd_T74 l0_0 x3).f2).length : Int) > (wrap64 (20000 - (((rd_T74 l0_0 x3).f1).length : Int)))
            · rw [if_pos c10] at H
              obtain rfl := Option.some.inj H
              have q10 : decide (wrap64 (20000 - ((rd_T74 l0_0 x3).f1.length : Int)) < ((rd_T74 l0_0 x3).f2.length : Int)) = true := decide_eq_true c10
              clear H c10
              go_quiet (first | (go_at_call 57; exact Calls.quiet_of (hcall _)))
              go_wp2
              go_ret
              exact ⟨rfl, (ST.out.drewN _).b⟩
            rw [if_neg c10] at H
            have q10 : decide (wrap64 (20000 - ((rd_T74 l0_0 x3).f1.length : Int)) < ((rd_T74 l0_0 x3).f2.length : Int)) = false := decide_eq_false c10
            clear c10
            by_cases c11 : x3 > 0
            · rw [if_pos c11] at H
              have q11 : decide (0 < x3) = true := decide_eq_true c11
              clear c11
              by_cases c12 : 0 ≤ wrap64 (x3 - 1)
              · rw [if_pos c12] at H
                by_cases c13 : wrap64 (x3 - 1) < (l0_0.length : Int)
                · rw [if_pos c13] at H
                  obtain ⟨ad2, B3, d3, B4, d4, e, E0, _, _, _, _, _, _⟩ := at_T74 HR.out (wrap64 (x3 - 1)) c12 c13
                  cases e
                  have hx0 := (ST.out.b.cell (Zi w _ E0)).trans E0
                  have p3 := eq_true c12
                  have p4 := eq_true c13
                  clear E0 c12 c13
                  go_quiet (first | (go_at_call 57; exact Calls.quiet_of (hcall _)))
                  cases hl : Op.bytesLess (rd_T74 l0_0 (wrap64 (x3 - 1))).f0.toList (rd_T74 l0_0 x3).f0.toList with
                  | true =>
                    rw [if_pos hl] at H
                    have H' := Zh H
                    clear H
                    go_wp2
                    go_roundg k1
                    case measure => omega
                    case rel => exact ⟨_, rfl, H', ⟨(ST.out.drewN _).tail⟩⟩
                  | false =>
                    rw [if_neg (by rw [hl]; decide)] at H
                    obtain rfl := Option.some.inj H
                    clear H
                    go_wp2
                    go_ret
                    exact ⟨rfl, (ST.out.drewN _).b⟩
                rw [if_neg c13] at H; exact absurd H (by simp)
              rw [if_neg c12] at H; exact absurd H (by simp)
            rw [if_neg c11] at H
            have q11 : decide (0 < x3) = false := decide_eq_false c11
            have H' := Zh H
            clear H c11
            go_quiet (first | (go_at_call 57; exact Calls.quiet_of (hcall _)))
            go_wp2
            go_roundg k1
            case measure => omega
            case rel => exact ⟨_, rfl, H', ⟨(ST.out.drewN _).tail⟩⟩
        rw [if_neg p0] at H; exact absurd H (by simp)
      rw [if_neg c8] at H
      have q8 := decide_eq_false c8
      obtain rfl := Option.some.inj H
      clear H c8
      go_wp2
      go_ret
      exact ⟨rfl, ST.out.b⟩
end Go.Proofs.YtmgeffgcihfpcaaDoor.F

namespace Go.Proofs.YtmgeffgcihfpcaaDoor.F
open Go.RowKit Go.Proofs.YtmgeffgcihfpcaaDoorW.PrintWords Go.Proofs.YtmgeffgcihfpcaaDoorW.PrintWords.Kd Go.Proofs.YtmgeffgcihfpcaaDoorW.PrintMore.Kd Go.Proofs.YtmgeffgcihfpcaaDoorW.PrintLast Go.Proofs.YtmgeffgcihfpcaaDoorW.PrintMore
attribute [local go_sem] max2_int min2_int max_two min_two max_three min_three max_four min_four   -- for this text's walks alone
set_option linter.unusedVariables false
set_option linter.unusedSimpArgs false
def spec_l01Bytes.l0 : Nat → List Int → List Int → Int → Option (List Int)
 | 0, _, _, _ => none
 | k + 1, x0, x3, x4 => if x4 < (x0.length : Int) then (if 0 ≤ x4 then (if x3.length < 140737488355328 then (spec_l01Bytes.l0 k x0 (x3 ++ [rd x0 x4]) (wrap64 (x4 + 1))) else (none)) else (none)) else (some x3)
def spec_l01Bytes.f (k : Nat) (l0 : List Int) : Option (List Int) := spec_l01Bytes.l0 k l0 (([] : List Int)) 0
set_option maxHeartbeats 8000000 in
set_option maxRecDepth 100000 in
theorem spec_l01Bytes.calls (k : Nat) (A0 : Option Addr) (c0 : Nat) (l0 : List Int) (r : List Int) (w : World) (hr0 : Kd.C (Kd.int .u8) w A0 l0.length l0) (hc0 : l0.length ≤ c0) (h : spec_l01Bytes.f k l0 = some r) :
  Calls Tryd.prog 93 #[.slice A0 l0.length c0] w fun e w' => ∃ v0_ : Value, e = .returned (v0_) ∧ Kd.R (Kd.int .u8) 5 w' w.heap.size (fun _ => True) v0_ r ∧ Below w.heap.size w w' := by
 have HR0 := Zh hr0
 have HC0 := Zh hc0
 clear hr0 hc0
 have HB := Zh (Below.refl w.heap.size w)
 have H : (spec_l01Bytes.l0 k l0 (([] : List Int)) 0) = some r := h
 clear h
 obtain ⟨y174, hy174⟩ : ∃ y_ : List Int, y_ = (([] : List Int)) := ⟨_, rfl⟩
 replace H : (spec_l01Bytes.l0 k l0 y174 0) = some r := by first | (rw [hy174]; with_reducible exact H) | (have H2_ := (Option.bind_some _ _).symm.trans H; rw [hy174]; with_reducible exact H2_) | (have H2_ := (Option.bind_some _ _).symm.trans H; with_reducible exact H2_) | with_reducible exact H | (rw [hy174]; exact H) | exact H
 have Ny174 := Zh hy174
 clear hy174
 have H' := Zh H
 clear H
 go_enter Tryd.func93, Tryd.ntmps93
 go_wp2_with (first | ((with_reducible refine gate_dst (N := 5) rfl ?_); refine R_lit (Kd.int .u8) _ 5 ?hg (N := 5) ?hd (xs := ([] : List Int)) (inner := []) (ok := fun _ => True) (okp := fun _ => True) ?hr ?hp (fun _ hk => hk) trivial (Below.refl _ _) (Nat.le_refl _) (by simp) ?_; (case hd => rfl); (case hg => rfl); (case hr => first | (go_simp; done) | (go_simp; rfl)); (case hp => exact (Reps.none _ _)); intro v175 w2 ho3 hb hg_ hnew_; clear hg_ hnew_; (first | rw [← Ny174.out] at ho3 | (simp only [Int.reduceToNat] at ho3; rw [← Ny174.out] at ho3)); have HO176 := Zh (R_lower ho3 (below_size Zs)); replace HB := Zh (Zl Zs hb); clear hb ho3))
 go_loopg [3, 4] k (fun kq v3 v4 w' => ∃ (x3_1 : List Int) (x4_1 : Int), v4 = .int .i64 x4_1 ∧ Aside0 (spec_l01Bytes.l0 kq l0 x3_1 x4_1 = some r) ∧ Aside0 (kq ≤ k) ∧ Aside0 (Kd.R (Kd.int .u8) 5 w' w.heap.size (fun _ => True) v3 x3_1) ∧ Aside0 (Below w.heap.size w w'))
 case atStart => exact ⟨(y174), (0), (by first | rfl | (simp; done) | (simp [*]; done)), H', ⟨Nat.le_refl _⟩, ⟨ZR HO176.out⟩, ⟨Zs⟩⟩
 case round =>
  clear H'
  try clear p2
  obtain ⟨x3_1, x4_1, rfl, HA, HK1, HO_3, HB⟩ := hrel
  cases gk with
  | zero => exact absurd HA.out (by simp [spec_l01Bytes.l0])
  | succ k1 =>
   have H := HA.out
   clear HA
   simp only [spec_l01Bytes.l0] at H
   by_cases c4 : x4_1 < (l0.length : Int)
   ·
    rw [if_pos c4] at H
    have c4b0 : decide (x4_1 < (l0.length : Int)) = true := decide_eq_true c4
    clear c4
    by_cases c5 : 0 ≤ x4_1
    ·
     rw [if_pos c5] at H
     have c5b0 : decide (0 ≤ x4_1) = true := decide_eq_true c5
     clear c5
     by_cases c6 : x3_1.length < 140737488355328
     ·
      rw [if_pos c6] at H
      have LMc6 := Zh c6
      clear c6
      obtain ⟨y178, hy178⟩ : ∃ y_ : List Int, y_ = (x3_1 ++ [rd l0 x4_1]) := ⟨_, rfl⟩
      replace H : (spec_l01Bytes.l0 k1 l0 y178 (wrap64 (x4_1 + 1))) = some r := by first | (rw [hy178]; with_reducible exact H) | (have H2_ := (Option.bind_some _ _).symm.trans H; rw [hy178]; with_reducible exact H2_) | (have H2_ := (Option.bind_some _ _).symm.trans H; with_reducible exact H2_) | with_reducible exact H | (rw [hy178]; exact H) | exact H
      have Ny178 := Zh hy178
      clear hy178
      have H' := Zh H
      clear H
      have p177 : 0 ≤ (x4_1 : Int) := Zo
      have q177 : x4_1 < (l0.length : Int) := Zo
      obtain ⟨ad177, e177, hx177_0⟩ := Kd.at_int HR0.out x4_1 p177 q177
      cases e177
      replace hx177_0 := Zc HB.out hx177_0
      replace p177 := eq_true p177
      replace q177 := eq_true q177
      go_wp2_with (first | ((with_reducible refine gate_builtin (b := .append) (xs := #[.tmp 12, .tmp 17]) rfl ?_); at_builtin; refine R_append (Kd.int .u8) (w0 := w) w.heap.size rfl (.tmp 12) (.tmp 17) 33 5 (.int .u8 0) 1 rfl Tryd.underlying33 info5 rfl (by decide) (by omega) u3 x3_1 (rd l0 x4_1) [.int .u8 (rd l0 x4_1)] (fun _ => True) (fun _ => False) rfl rfl ?aP (fun _ hk => hk.elim) ?aF ?aO ?aB ?aS ?aL ?_; (case aP => exact rfl); (case aB => exact Zs); (case aF => exact (fun _ _ => trivial)); (case aO => exact (ZR HO_3.out)); (case aS => exact (below_size Zs)); (case aL => have := LMc6.out; omega); intro v179 w7 ho hb hg hat; rw [← Ny178.out] at ho; have n0_ := Zh (hb); have n1_ := Zh (ho); clear HB; clear HO_3; have HB := n0_; have HO180 := n1_; clear n0_ n1_; clear ho hb hg hat))
      go_roundg k1
      case measure => have := HK1.out; omega
      case rel => exact ⟨(y178), (wrap64 (x4_1 + 1)), (by first | rfl | (simp; done) | (simp [*]; done)), H', ⟨by have := HK1.out; omega⟩, ⟨ZR HO180.out⟩, ⟨Zs⟩⟩
     rw [if_neg c6] at H
     exact absurd H (by simp)
    rw [if_neg c5] at H
    exact absurd H (by simp)
   rw [if_neg c4] at H
   have c4b0 : decide (x4_1 < (l0.length : Int)) = false := decide_eq_false c4
   clear c4
   obtain rfl := Option.some.inj H
   go_wp2
   go_ret
   exact ⟨_, ZE, ZR HO_3.out, Zs⟩
def spec_l01Join.l0 : Nat → List Int → List Int → Int → Option (List Int)
 | 0, _, _, _ => none
 | k + 1, x1, x5, x6 => if x6 < (x1.length : Int) then (if 0 ≤ x6 then (if x5.length < 140737488355328 then (spec_l01Join.l0 k x1 (x5 ++ [rd x1 x6]) (wrap64 (x6 + 1))) else (none)) else (none)) else (some x5)
def spec_l01Join.f (k : Nat) (l0 : List Int) (l1 : List Int) : Option (List Int) := (spec_l01Bytes.f k l0).bind fun t181 => (spec_l01Join.l0 k l1 t181 0)
set_option maxHeartbeats 8000000 in
set_option maxRecDepth 100000 in
theorem spec_l01Join.calls (k : Nat) (A0 : Option Addr) (c0 : Nat) (l0 : List Int) (A1 : Option Addr) (c1 : Nat) (l1 : List Int) (r : List Int) (w : World) (hr0 : Kd.C (Kd.int .u8) w A0 l0.length l0) (hc0 : l0.length ≤ c0) (hr1 : Kd.C (Kd.int .u8) w A1 l1.length l1) (hc1 : l1.length ≤ c1) (h : spec_l01Join.f k l0 l1 = some r) :
  Calls Tryd.prog 62 #[.slice A0 l0.length c0, .slice A1 l1.length c1] w fun e w' => ∃ v0_ : Value, e = .returned (v0_) ∧ Kd.R (Kd.int .u8) 5 w' w.heap.size (fun _ => True) v0_ r ∧ Below w.heap.size w w' := by
 have HR0 := Zh hr0
 have HC0 := Zh hc0
 clear hr0 hc0
 have HR1 := Zh hr1
 have HC1 := Zh hc1
 clear hr1 hc1
 have HB := Zh (Below.refl w.heap.size w)
 have H : ((spec_l01Bytes.f k l0).bind fun t181 => (spec_l01Join.l0 k l1 t181 0)) = some r := h
 clear h
 replace H := Option.bind_eq_some_iff.mp H
 obtain ⟨t181, A30, H⟩ := H
 replace H : (spec_l01Join.l0 k l1 t181 0) = some r := H
 have A3 := Zh A30
 clear A30
 have H' := Zh H
 clear H
 go_enter Tryd.func62, Tryd.ntmps62
 go_wp2_with (first | ((with_reducible refine gate_callee (f := 93) rfl ?_); refine ZG (some 8) Tryd.func93 #[.slice A0 l0.length c0] rfl ?_; (with_reducible refine (spec_l01Bytes.calls k _ _ l0 t181 _ ?side1 ?side2 A3.out).mono ?_); (case side1 => repeat (first | exact HR0.out | (with_reducible refine C_alloc ?_ _) | (with_reducible refine C_drewN ?_ _) | (with_reducible refine C_drew ?_))); (case side2 => exact HC0.out); rintro e w4 ⟨v182, rfl, ho0, hb⟩; refine ⟨_, rfl, ?_⟩; have HO183 := Zh (R_lower ho0 (below_size Zs)); replace HB := Zh (Zl Zs hb); (try clear hb); (try clear hb2); (try clear hk); (try clear hi); (try clear ho0)))
 go_loopg [5, 6] k (fun kq v5 v6 w' => ∃ (x5_1 : List Int) (x6_1 : Int), v6 = .int .i64 x6_1 ∧ Aside0 (spec_l01Join.l0 kq l1 x5_1 x6_1 = some r) ∧ Aside0 (kq ≤ k) ∧ Aside0 (Kd.R (Kd.int .u8) 5 w' w.heap.size (fun _ => True) v5 x5_1) ∧ Aside0 (Below w.heap.size w w'))
 case atStart => exact ⟨(t181), (0), (by first | rfl | (simp; done) | (simp [*]; done)), H', ⟨Nat.le_refl _⟩, ⟨ZR HO183.out⟩, ⟨Zs⟩⟩
 case round =>
  clear H'
  try clear c1
  try clear p2
  obtain ⟨x5_1, x6_1, rfl, HA, HK1, HO_5, HB⟩ := hrel
  cases gk with
  | zero => exact absurd HA.out (by simp [spec_l01Join.l0])
  | succ k1 =>
   have H := HA.out
   clear HA
   simp only [spec_l01Join.l0] at H
   by_cases c5 : x6_1 < (l1.length : Int)
   ·
    rw [if_pos c5] at H
    have c5b0 : decide (x6_1 < (l1.length : Int)) = true := decide_eq_true c5
    clear c5
    by_cases c6 : 0 ≤ x6_1
    ·
     rw [if_pos c6] at H
     have c6b0 : decide (0 ≤ x6_1) = true := decide_eq_true c6
     clear c6
     by_cases c7 : x5_1.length < 140737488355328
     ·
      rw [if_pos c7] at H
      have LMc7 := Zh c7
      clear c7
      obtain ⟨y185, hy185⟩ : ∃ y_ : List Int, y_ = (x5_1 ++ [rd l1 x6_1]) := ⟨_, rfl⟩
      replace H : (spec_l01Join.l0 k1 l1 y185 (wrap64 (x6_1 + 1))) = some r := by first | (rw [hy185]; with_reducible exact H) | (have H2_ := (Option.bind_some _ _).symm.trans H; rw [hy185]; with_reducible exact H2_) | (have H2_ := (Option.bind_some _ _).symm.trans H; with_reducible exact H2_) | with_reducible exact H | (rw [hy185]; exact H) | exact H
      have Ny185 := Zh hy185
      clear hy185
      have H' := Zh H
      clear H
      have p184 : 0 ≤ (x6_1 : Int) := Zo
      have q184 : x6_1 < (l1.length : Int) := Zo
      obtain ⟨ad184, e184, hx184_0⟩ := Kd.at_int HR1.out x6_1 p184 q184
      cases e184
      replace hx184_0 := Zc HB.out hx184_0
      replace p184 := eq_true p184
      replace q184 := eq_true q184
      go_wp2_with (first | ((with_reducible refine gate_builtin (b := .append) (xs := #[.tmp 15, .tmp 20]) rfl ?_); at_builtin; refine R_append (Kd.int .u8) (w0 := w) w.heap.size rfl (.tmp 15) (.tmp 20) 33 5 (.int .u8 0) 1 rfl Tryd.underlying33 info5 rfl (by decide) (by omega) u5 x5_1 (rd l1 x6_1) [.int .u8 (rd l1 x6_1)] (fun _ => True) (fun _ => False) rfl rfl ?aP (fun _ hk => hk.elim) ?aF ?aO ?aB ?aS ?aL ?_; (case aP => exact rfl); (case aB => exact Zs); (case aF => exact (fun _ _ => trivial)); (case aO => exact (ZR HO_5.out)); (case aS => exact (below_size Zs)); (case aL => have := LMc7.out; omega); intro v186 w8 ho hb hg hat; rw [← Ny185.out] at ho; have n0_ := Zh (hb); have n1_ := Zh (ho); clear HB; clear HO_5; have HB := n0_; have HO187 := n1_; clear n0_ n1_; clear ho hb hg hat))
      go_roundg k1
      case measure => have := HK1.out; omega
      case rel => exact ⟨(y185), (wrap64 (x6_1 + 1)), (by first | rfl | (simp; done) | (simp [*]; done)), H', ⟨by have := HK1.out; omega⟩, ⟨ZR HO187.out⟩, ⟨Zs⟩⟩
     rw [if_neg c7] at H
     exact absurd H (by simp)
    rw [if_neg c6] at H
    exact absurd H (by simp)
   rw [if_neg c5] at H
   have c5b0 : decide (x6_1 < (l1.length : Int)) = false := decide_eq_false c5
   clear c5
   obtain rfl := Option.some.inj H
   go_wp2
   go_ret
   exact ⟨_, ZE, ZR HO_5.out, Zs⟩
end Go.Proofs.YtmgeffgcihfpcaaDoor.F

namespace Go.Proofs.YtmgeffgcihfpcaaDoor.F
open Go.RowKit Go.Proofs.YtmgeffgcihfpcaaDoorW.PrintWords Go.Proofs.YtmgeffgcihfpcaaDoorW.PrintLast Go.Proofs.YtmgeffgcihfpcaaDoorW.PrintMore
open Go.Proofs.YtmgeffgcihfpcaaDoor
set_option linter.unusedVariables false
set_option linter.unusedSimpArgs false
theorem St_app2 {w0 w : World} {l : List LW.It} {v v1 v2 : Value} {xs : List S74} {y1 y2 : List Int} {F G1 G2 : Nat → Prop} (h : LW.St w0 w l) (q p1 p2 : Nat) (n1 : q ≠ p1) (n2 : q ≠ p2) (n3 : p1 ≠ p2) (hq : l[q]? = some (LW.row k74 74 w0.heap.size v xs F)) (hp1 : l[p1]? = some (LW.row (Kd.int .u8) 5 w0.heap.size v1 y1 G1)) (hp2 : l[p2]? = some (LW.row (Kd.int .u8) 5 w0.heap.size v2 y2 G2)) (s : ByteArray) :
    Kd.S k74 74 w w0.heap.size (fun k => (F k ∨ G1 k ∨ G2 k ∨ w.heap.size ≤ k) ∧ ¬ (G1 k ∨ G2 k)) v xs ∧ k74.M w w0.heap.size (fun k => G1 k ∨ G2 k) (⟨s, y1, y2⟩ : S74) [.string s, v1, v2] ∧ (∀ k, G1 k ∨ G2 k → (F k ∨ G1 k ∨ G2 k ∨ w.heap.size ≤ k) ∧ some k ≠ v.ownBlock) ∧
      ∀ (v' : Value) (w1 : World), Kd.S k74 74 w1 w0.heap.size (fun k => F k ∨ G1 k ∨ G2 k ∨ w.heap.size ≤ k) v' (xs ++ [(⟨s, y1, y2⟩ : S74)]) → Below w0.heap.size w0 w1 → w.grownBy w1 v.ownBlock →
        LW.St w0 w1 (((l.set p1 LW.gone).set p2 LW.gone).set q (LW.row k74 74 w0.heap.size v' (xs ++ [(⟨s, y1, y2⟩ : S74)]) (fun k => (F k ∨ G1 k ∨ G2 k) ∨ (w.heap.size ≤ k ∧ k < w1.heap.size)))) := by
  have hS := h.own q hq
  have hR1 := Kd.S_R (h.own p1 hp1)
  have hR2 := Kd.S_R (h.own p2 hp2)
  have d1 := LW.Its.disj h.i q p1 _ _ n1 hq hp1
  have d2 := LW.Its.disj h.i q p2 _ _ n2 hq hp2
  have d3 := LW.Its.disj h.i p1 p2 _ _ n3 hp1 hp2
  have own : ∀ k, v.ownBlock = some k → F k := (Kd.S_R hS).1
  refine ⟨Kd.S_mono hS (fun k hk => ⟨.inl hk, fun hg => hg.elim (d1 k hk) (d2 k hk)⟩), k74_mkM _ _ _ (⟨s, y1, y2⟩ : S74) (Kd.R_mono hR1 (fun k hk => .inl hk)) (Kd.R_mono hR2 (fun k hk => .inr hk)) (fun k a b => d3 k (hR1.1 k a.symm) (hR2.1 k b.symm)), fun k hk => ⟨hk.elim (fun a => .inr (.inl a)) (fun a => .inr (.inr (.inl a))), fun he => hk.elim (d1 k (own k he.symm)) (d2 k (own k he.symm))⟩, fun v' w1 hS' hB hg => ?_⟩
  have lq : ∀ {x : LW.It} {m : Nat}, q ≠ m → (l.set m x)[q]? = l[q]? := fun hm => List.getElem?_set_ne hm.symm
  have m1 := h.merge q p1 n1 hq hp1 (LW.row k74 74 w0.heap.size v xs (fun k => F k ∨ G1 k)) (fun k hk => hk) (Kd.S_mono hS (fun k hk => .inl hk)) h.b ⟨Nat.le_refl _, fun k _ _ => rfl⟩
  have hql : q < l.length := (List.getElem?_eq_some_iff.1 hq).1
  have hq1 : ((l.set q (LW.row k74 74 w0.heap.size v xs (fun k => F k ∨ G1 k))).set p1 LW.gone)[q]? = some (LW.row k74 74 w0.heap.size v xs (fun k => F k ∨ G1 k)) := by
    rw [List.getElem?_set_ne n1.symm, List.getElem?_set_self hql]
  have hp2' : ((l.set q (LW.row k74 74 w0.heap.size v xs (fun k => F k ∨ G1 k))).set p1 LW.gone)[p2]? = some (LW.row (Kd.int .u8) 5 w0.heap.size v2 y2 G2) := by
    rw [List.getElem?_set_ne n3, List.getElem?_set_ne n2, hp2]
  have m2 := m1.merge q p2 n2 hq1 hp2' (LW.row k74 74 w0.heap.size v xs (fun k => F k ∨ G1 k ∨ G2 k)) (fun k hk => by rcases hk with a | a | a; exact .inl (.inl a); exact .inl (.inr a); exact .inr a) (Kd.S_mono hS (fun k hk => .inl hk)) h.b ⟨Nat.le_refl _, fun k _ _ => rfl⟩
  have hq2 : ((((l.set q (LW.row k74 74 w0.heap.size v xs (fun k => F k ∨ G1 k))).set p1 LW.gone).set q (LW.row k74 74 w0.heap.size v xs (fun k => F k ∨ G1 k ∨ G2 k))).set p2 LW.gone)[q]? = some (LW.row k74 74 w0.heap.size v xs (fun k => F k ∨ G1 k ∨ G2 k)) := by
    rw [List.getElem?_set_ne n2.symm, List.getElem?_set_self (by simpa using hql)]
  have m3 := m2.grow q hq2 (LW.row k74 74 w0.heap.size v' (xs ++ [(⟨s, y1, y2⟩ : S74)]) (fun k => (F k ∨ G1 k ∨ G2 k) ∨ (w.heap.size ≤ k ∧ k < w1.heap.size))) (fun k hk => hk) (Kd.S_mono (Kd.S_bound hS') (fun k hk => by
    rcases hk.1 with a | a | a | a
    · exact .inl (.inl a)
    · exact .inl (.inr (.inl a))
    · exact .inl (.inr (.inr a))
    exact .inr ⟨a, hk.2.2.1⟩)) hB ⟨hg.size, fun k hk hn => hg.block k hk (fun he => hn (.inl (own k he.symm)))⟩
  have e : ((((l.set q (LW.row k74 74 w0.heap.size v xs (fun k => F k ∨ G1 k))).set p1 LW.gone).set q (LW.row k74 74 w0.heap.size v xs (fun k => F k ∨ G1 k ∨ G2 k))).set p2 LW.gone).set q (LW.row k74 74 w0.heap.size v' (xs ++ [(⟨s, y1, y2⟩ : S74)]) (fun k => (F k ∨ G1 k ∨ G2 k) ∨ (w.heap.size ≤ k ∧ k < w1.heap.size))) = ((l.set p1 LW.gone).set p2 LW.gone).set q (LW.row k74 74 w0.heap.size v' (xs ++ [(⟨s, y1, y2⟩ : S74)]) (fun k => (F k ∨ G1 k ∨ G2 k) ∨ (w.heap.size ≤ k ∧ k < w1.heap.size))) := by
    apply List.ext_getElem?
    intro m
    by_cases e0 : q = m
    · subst e0
      rw [List.getElem?_set_self (by simpa using hql), List.getElem?_set_self (by simpa using hql)]
    rw [List.getElem?_set_ne e0, List.getElem?_set_ne e0]
    by_cases e2 : p2 = m
    · subst e2
      by_cases hm : p2 < l.length
      · rw [List.getElem?_set_self (by simpa using hm), List.getElem?_set_self (by simpa using hm)]
      rw [List.getElem?_eq_none (by simpa using Nat.le_of_not_lt hm), List.getElem?_eq_none (by simpa using Nat.le_of_not_lt hm)]
    rw [List.getElem?_set_ne e2, List.getElem?_set_ne e2, List.getElem?_set_ne e0]
    by_cases e1 : p1 = m
    · subst e1
      by_cases hm : p1 < l.length
      · rw [List.getElem?_set_self (by simpa using hm), List.getElem?_set_self (by simpa using hm)]
      rw [List.getElem?_eq_none (by simpa using Nat.le_of_not_lt hm), List.getElem?_eq_none (by simpa using Nat.le_of_not_lt hm)]
    rw [List.getElem?_set_ne e1, List.getElem?_set_ne e1, List.getElem?_set_ne e0]
  rw [e] at m3
  exact m3
def spec_l03Copy.l0 : Nat → Int → List (S74) → List (S74) → Option ((List (S74)))
  | 0, _, _, _ => none
  | k + 1, x4, x, y => if x4 < (x.length : Int) then (if 0 ≤ x4 then ((spec_l01Bytes.f k ((rd_T74 x x4).f1)).bind fun t270 => ((spec_l01Bytes.f k ((rd_T74 x x4).f2)).bind fun t273 => (if y.length < 2199023255552 then (spec_l03Copy.l0 k (wrap64 (x4 + 1)) x (y ++ [(⟨(rd_T74 x x4).f0, t270, t273⟩ : S74)])) else (none)))) else (none)) else (some y)
def spec_l03Copy.f (k : Nat) (l0_0 : List (S74)) : Option ((List (S74))) := spec_l03Copy.l0 k 0 l0_0 ([] : List (S74))
set_option maxHeartbeats 8000000 in
set_option maxRecDepth 100000 in
theorem spec_l03Copy.calls (k : Nat) (A0_0 : Option Addr) (c0_0 : Nat) (l0_0 : List (S74)) (r : List (S74)) (w : World) (hr0_0 : Kd.C k74 w A0_0 l0_0.length l0_0) (hc0_0 : l0_0.length ≤ c0_0) (h : spec_l03Copy.f k l0_0 = some r) :
    Calls Tryd.prog 66 #[.agg #[.slice A0_0 l0_0.length c0_0]] w fun e w' => ∃ v0_ : Value, e = .returned (.agg #[v0_]) ∧ Kd.S k74 74 w' w.heap.size (fun _ => True) v0_ r ∧ Below w.heap.size w w' := by
  have HR := Zh hr0_0
  clear hr0_0 hc0_0
  have ST := Zh (LW.St.start w)
  have hu29 := Tryd.underlying29
  have hu74 := Tryd.underlying74
  have H := Zh (show spec_l03Copy.l0 k 0 l0_0 [] = some r from h)
  clear h
  go_enter Tryd.func66, Tryd.ntmps66
  go_wp2_with fail
  replace ST := Zh (ST.out.alloc #[.slice A0_0 l0_0.length c0_0] 29 (g := w.heap.size) rfl)
  replace ST := Zh (ST.out.alloc #[.slice none 0 0] 29 (g := w.heap.size + 1) (by simp))
  replace ST := Zh (ST.out.alloc #[.slice none 0 0] 29 (g := w.heap.size + 2) (by simp))
  replace ST := Zh (ST.out.row (d := k74) (e := 74) (xs := []) (Below.refl _ _) (Kd.S_nil _ _ _ _ (fun _ => True)))
  generalize hW : (((w.alloc (.cells #[.slice A0_0 l0_0.length c0_0] 29)).alloc (.cells #[.slice none 0 0] 29)).alloc (.cells #[.slice none 0 0] 29)) = W at ST ⊢
  clear hW
  go_loopg [4] k (fun kq vv w' => ∃ (x4 : Int) (y : List S74) (F : Nat → Prop) (Ao : Option Addr) (co : Nat), vv = .int .i64 x4 ∧ Aside0 (spec_l03Copy.l0 kq x4 l0_0 y = some r) ∧ Aside0 (LW.St w w' [LW.row k74 74 w.heap.size (.slice Ao y.length co) y F, LW.box (w.heap.size + 2) #[.slice Ao y.length co] 29, LW.box (w.heap.size + 1) #[.slice none 0 0] 29, LW.box w.heap.size #[.slice A0_0 l0_0.length c0_0] 29]))
  case atStart => exact ⟨0, [], _, none, 0, rfl, H, ST⟩
  case round =>
    clear H ST
    obtain ⟨x4, y, F, Ao, co, rfl, HA, ST⟩ := hrel
    cases gk with
    | zero => exact absurd HA.out (by simp [spec_l03Copy.l0])
    | succ k1 =>
      have H := HA.out
      clear HA
      simp only [spec_l03Copy.l0, Option.bind_some] at H
      have hc0 := ST.out.cell 3 rfl 0 (u := .slice A0_0 l0_0.length c0_0) rfl
      have hl0 := ST.out.lt 3 rfl
      by_cases c8 : x4 < (l0_0.length : Int)
      · rw [if_pos c8] at H
        have q8 := decide_eq_true c8
        by_cases p0 : 0 ≤ x4
        · rw [if_pos p0] at H
          obtain ⟨b1, HT1, H⟩ := Option.bind_eq_some_iff.mp H
          obtain ⟨b2, HT2, H⟩ := Option.bind_eq_some_iff.mp H
          replace HT1 := Zh HT1
          replace HT2 := Zh HT2
          by_cases cm : y.length < 2199023255552
          · rw [if_pos cm] at H
            have HLM := Zh cm
            have H' := Zh H
            clear H cm
            obtain ⟨ad, B1, d1, B2, d2, e, E0, E1, E2, g1, g2, g3, g4⟩ := at_T74 HR.out x4 p0 c8
            cases e
            have hx0 := (ST.out.b.cell (Zi w _ E0)).trans E0
            have hx1 := (ST.out.b.cell (Zi w _ E1)).trans E1
            have hx2 := (ST.out.b.cell (Zi w _ E2)).trans E2
            have HR1 := Zh g2
            have HR2 := Zh g4
            have HC1 := Zh g1
            have HC2 := Zh g3
            have p1 := eq_true p0
            have p2 := eq_true c8
            clear E0 E1 E2 p0 c8 g1 g2 g3 g4
            go_wp2_with fail
            replace ST := Zh (ST.out.alloc #[.string (rd_T74 l0_0 x4).f0, .slice B1 (rd_T74 l0_0 x4).f1.length d1, .slice B2 (rd_T74 l0_0 x4).f2.length d2] 74 (g := wr.heap.size) rfl)
            clear hx0 hx1 hx2 hc0 hl0
            replace ST := Zh ST.out.drew
            refine start_ (n := 15) (S := fun w' => w'.cell? ⟨w.heap.size + 2, 0, none⟩ = some (.slice Ao y.length co) ∧ w'.cell? ⟨wr.heap.size, 0, none⟩ = some (.string (rd_T74 l0_0 x4).f0) ∧ w'.cell? ⟨wr.heap.size, 1, none⟩ = some (.slice B1 (rd_T74 l0_0 x4).f1.length d1) ∧ w'.cell? ⟨wr.heap.size, 2, none⟩ = some (.slice B2 (rd_T74 l0_0 x4).f2.length d2)) (ds := [12, 14]) #[false, false, false, false, false, false, false, false, false, false, false, false, false, false, false] (by kernel_rfl) rfl rfl ⟨ST.out.cell 2 rfl 0 rfl, ST.out.cell 0 rfl 0 rfl, ST.out.cell 0 rfl 1 rfl, ST.out.cell 0 rfl 2 rfl⟩ (fun hHeld => ?_)
            generalize (wr.alloc (.cells #[.string (rd_T74 l0_0 x4).f0, .slice B1 (rd_T74 l0_0 x4).f1.length d1, .slice B2 (rd_T74 l0_0 x4).f2.length d2] 74)).drew = w8 at ST hHeld ⊢
            refine SQ.p0 0 19 ?_
            refine SQ.p0 2 21 ?_
            refine SQ.p0 4 23 ?_
            refine SQ.p0 7 26 ?_
            refine SQ.t0 1 20 hHeld ?_
            refine SQ.t0 3 22 hHeld ?_
            refine SQ.t0 5 24 hHeld ?_
            refine SQ.t0 8 27 hHeld ?_
            refine one_ (i := 6) (N := some 25) #[true, true, true, true, true, true, true, true, true, false, false, false, false, false, false] rfl rfl (by kernel_rfl) (by decide) (fun K hK => ?_)
            refine goes_ Tryd.func93 (by kernel_rfl) rfl #[.slice B1 (rd_T74 l0_0 x4).f1.length d1] (by rfl) rfl rfl (by (try simp only [List.map_toArray, List.map_cons, List.map_nil]); first | done | rfl) ?_
            with_reducible refine (spec_l01Bytes.calls k1 _ _ (rd_T74 l0_0 x4).f1 b1 _ (Kd.C_below HR1.out ST.out.b) HC1.out HT1.out).mono ?_
            rintro e w9 ⟨v1, rfl, q1, q2⟩
            refine ⟨_, rfl, ?_⟩
            obtain ⟨A5, c5, rfl⟩ := Kd.R_slice q1
            replace ST := Zh (ST.out.rowR rfl q2 q1)
            clear q1 q2 hHeld
            refine hK.out _ _ ⟨ST.out.cell 3 rfl 0 rfl, ST.out.cell 1 rfl 0 rfl, ST.out.cell 1 rfl 1 rfl, ST.out.cell 1 rfl 2 rfl⟩ (fun hHeld => ?_)
            clear hK K
            refine norm_ (a' := ?_) ?_ ?_
            rotate_left
            · show Act.put _ (some 25) _ = _
              simp only [Act.put, List.setIfInBounds_toArray, List.set_cons_zero, List.set_cons_succ, i64_w, i32_w]
              rfl
            refine one_ (i := 9) (N := some 28) #[true, true, true, true, true, true, true, true, true, true, false, false, false, false, false] rfl rfl (by kernel_rfl) (by decide) (fun K hK => ?_)
            refine goes_ Tryd.func93 (by kernel_rfl) rfl #[.slice B2 (rd_T74 l0_0 x4).f2.length d2] (by rfl) rfl rfl (by (try simp only [List.map_toArray, List.map_cons, List.map_nil]); first | done | rfl) ?_
            with_reducible refine (spec_l01Bytes.calls k1 _ _ (rd_T74 l0_0 x4).f2 b2 _ (Kd.C_below HR2.out ST.out.b) HC2.out HT2.out).mono ?_
            rintro e w10 ⟨v1, rfl, q1, q2⟩
            refine ⟨_, rfl, ?_⟩
            obtain ⟨A6, c6, rfl⟩ := Kd.R_slice q1
            replace ST := Zh (ST.out.rowR rfl q2 q1)
            clear q1 q2 hHeld
            refine hK.out _ _ ⟨ST.out.cell 4 rfl 0 rfl, ST.out.cell 2 rfl 0 rfl, ST.out.cell 2 rfl 1 rfl, ST.out.cell 2 rfl 2 rfl⟩ (fun hHeld => ?_)
            clear hK K
            refine norm_ (a' := ?_) ?_ ?_
            rotate_left
            · show Act.put _ (some 28) _ = _
              simp only [Act.put, List.setIfInBounds_toArray, List.set_cons_zero, List.set_cons_succ, i64_w, i32_w]
              rfl
            refine SQ.p0 10 29 ?_
            refine one_ (i := 11) (N := some 30) #[true, true, true, true, true, true, true, true, true, true, true, true, false, false, false] rfl rfl (by kernel_rfl) (by decide) (fun K hK => ?_)
            refine value_ (w1 := ?_) (v := ?_) (by rfl) rfl ?_ ?_
            rotate_left 2
            · go_simp
              constructor
              · rfl
              rfl
            refine hK.out _ _ ⟨(World.cell?_alloc_lt _ _ _ (Zi _ _ hHeld.1)).trans hHeld.1, (World.cell?_alloc_lt _ _ _ (Zi _ _ hHeld.2.1)).trans hHeld.2.1, (World.cell?_alloc_lt _ _ _ (Zi _ _ hHeld.2.2.1)).trans hHeld.2.2.1, (World.cell?_alloc_lt _ _ _ (Zi _ _ hHeld.2.2.2)).trans hHeld.2.2.2⟩ (fun hHeld => ?_)
            clear hK K
            refine norm_ (a' := ?_) ?_ ?_
            rotate_left
            · show Act.put _ (some 30) _ = _
              simp only [Act.put, List.setIfInBounds_toArray, List.set_cons_zero, List.set_cons_succ, i64_w, i32_w]
              rfl
            obtain ⟨a1, a2, a3, a4⟩ := St_app2 ST.out 3 1 0 (by decide) (by decide) (by decide) rfl rfl rfl (rd_T74 l0_0 x4).f0
            have HB4 := Zh a4
            clear a4
            refine last_ (i := 12) (N := some 31) #[true, true, true, true, true, true, true, true, true, true, true, true, true, false, false] rfl rfl (by kernel_rfl) (by decide) (fun K hK => ?_)
            refine Kd.S_append_step k74 (w0 := w) w.heap.size (by rfl) (.tmp 20) (.tmp 30) 27 74 (.agg #[(.string ⟨#[]⟩), (.slice none 0 0), (.slice none 0 0)]) 64 rfl Tryd.underlying27 info74 rfl (by decide) (by omega) (.slice Ao y.length co) y (⟨(rd_T74 l0_0 x4).f0, b1, b2⟩ : S74) [.string (rd_T74 l0_0 x4).f0, .slice A5 b1.length c5, .slice A6 b2.length c6] _ _ (by rfl) (by rfl) a2 a3 (fun k hk => .inr (.inr (.inr hk))) a1 ST.out.b ST.out.b.size (by have := HLM.out; omega) ?_
            intro v1 w2 q1 q2 q3 _
            obtain ⟨A3, c3, hv⟩ := Kd.S_slice q1
            rw [List.length_append] at hv
            subst hv
            have ST2 := Zh (HB4.out _ w2 q1 q2 q3)
            have hs1 := ST2.out.cell 4 rfl 0 (u := .slice Ao y.length co) rfl
            have hf1 := ST2.out.frozen 4 rfl 0
            have hl1 := ST2.out.lt 4 rfl
            clear q1 q2 q3 hHeld a1 a2 a3
            refine hK.out _ _ ?_
            clear hK K
            refine norm_ (a' := ?_) ?_ ?_
            rotate_left
            · show Act.put _ (some 31) _ = _
              simp only [Act.put, List.setIfInBounds_toArray, List.set_cons_zero, List.set_cons_succ, i64_w, i32_w]
              rfl
            refine SQ.p0 13 32 ?_
            refine last_ (i := 14) (N := none) #[true, true, true, true, true, true, true, true, true, true, true, true, true, true, true] rfl rfl (by kernel_rfl) (by decide) (fun K hK => ?_)
            refine skip_ (w1 := ?_) (by rfl) rfl ?_ ?_
            rotate_left
            · go_simp
              rfl
            refine hK.out _ _ ?_
            clear hK K
            refine done_ (by kernel_rfl) ?_
            go_wp2
            replace ST := Zh (ST2.out.set 4 rfl 0 (.slice A3 (y.length + 1) c3)).tail.tail.tail
            go_roundg k1
            case measure => omega
            case rel => exact ⟨_, _, _, A3, c3, rfl, H', by rw [List.length_append]; exact ST⟩
          rw [if_neg cm] at H; exact absurd H (by simp)
        rw [if_neg p0] at H; exact absurd H (by simp)
      rw [if_neg c8] at H
      have q8 := decide_eq_false c8
      obtain rfl := Option.some.inj H
      clear H c8
      have hc4 := ST.out.cell 1 rfl 0 (u := .slice Ao y.length co) rfl
      have hc6 := ST.out.cell 2 rfl 0 (u := .slice none 0 0) rfl
      have hl6 := ST.out.lt 2 rfl
      have hf6 := ST.out.frozen 2 rfl 0
      go_wp2
      replace ST := Zh (ST.out.set 2 rfl 0 (.slice Ao y.length co))
      refine Zq (results_cell_row rfl _ _ (w.heap.size + 1) 29 #[.slice Ao y.length co] (0, 0) _ rfl (ST.out.blk 2 rfl) Tryd.underlying29 rfl (by kernel_rfl)) rfl ?_
      exact ⟨_, rfl, Kd.S_mono (ST.out.own 0 rfl) (fun _ _ => trivial), ST.out.b⟩
end Go.Proofs.YtmgeffgcihfpcaaDoor.F
