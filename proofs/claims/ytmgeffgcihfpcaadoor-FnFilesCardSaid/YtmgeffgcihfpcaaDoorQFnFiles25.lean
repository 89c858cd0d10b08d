/- Merged texts below the law FnFiles: Go functions as Lean functions, their contracts, and plain lemmas. -/
import Derived.Test.YtmgeffgcihfpcaaDoorQFnFiles23
import Derived.Shelf.Abstract
import Derived.Test.YtmgeffgcihfpcaaDoorVFnFilesTab
import Derived.Test.YtmgeffgcihfpcaaDoorVFnFilesMore
import Derived.WalkKit
import Derived.Shelf.Strings.SlTrimAscii
import Derived.Test.YtmgeffgcihfpcaaDoorQFnFiles13
import Derived.Test.YtmgeffgcihfpcaaDoorVFnFilesF
namespace Go.Proofs.YtmgeffgcihfpcaaDoor.F
open Go.RowKit Go.Proofs.YtmgeffgcihfpcaaDoorW.PrintWords Go.Proofs.YtmgeffgcihfpcaaDoorW.PrintLast Go.Proofs.YtmgeffgcihfpcaaDoorW.PrintMore
set_option linter.unusedVariables false
set_option linter.unusedSimpArgs false
def PredF (g : Nat) (lb : Array Value) (p : ByteArray → Bool) (w : World) : Prop := ∀ w1 : World, Below w.heap.size w w1 → ∀ (s : ByteArray) (v1 v2 : Value), Calls Tryd.prog g (#[.agg #[.string s, v1, v2]] ++ lb) w1 fun e w' => e = .returned (.bool (p s)) ∧ Below w1.heap.size w1 w'
def idxF (p : ByteArray → Bool) : List S74 → Int → Int
  | [], _ => -1
  | x :: t, i => if p x.f0 = true then i else idxF p t (i + 1)
set_option maxHeartbeats 4000000 in
theorem indexFile.calls (g : Nat) (lb : Array Value) (p : ByteArray → Bool) (eg : ∀ args w, (callFunc g args).run Tryd.prog w = .ok (.enter g args) w) (A : Option Addr) (c : Nat) (l : List S74) (w : World) (hr : Kd.C k74 w A l.length l) (hl : l.length ≤ 9223372036854775807) (hp : PredF g lb p w) :
    Calls Tryd.prog 94 #[.slice A l.length c, .func (.func g) #[] lb] w fun e w' => e = .returned (.int .i64 (idxF p l 0)) ∧ Below w.heap.size w w' := by
  have HR0 := Zh hr
  clear hr
  have HP := Zh hp
  clear hp
  have hu74 := Tryd.underlying74
  go_enter Tryd.func94, Tryd.ntmps94
  go_wp2
  go_loopg [5, 8] l.length (fun gg _ v8 w' => ∃ kk : Nat, kk ≤ l.length ∧ l.length - kk ≤ gg ∧ v8 = .int .i64 kk ∧ Aside0 (Below w.heap.size w w') ∧ Aside0 (idxF p (l.drop kk) kk = idxF p l 0))
  case atStart => exact ⟨0, Nat.zero_le _, by omega, rfl, ⟨Below.refl _ _⟩, ⟨rfl⟩⟩
  case round =>
    obtain ⟨kk, hkk, hg, rfl, HB, HA⟩ := hrel
    by_cases hlt : kk < l.length
    · have hltz : (kk : Int) < (l.length : Int) := by omega
      obtain ⟨ad, A1, c1, A2, c2, e, hx0, hx1, hx2, _, _, _, _⟩ := at_T74 HR0.out (kk : Int) (by omega) (by omega)
      cases e
      replace hx0 := (HB.out.cell (Zi w _ hx0)).trans hx0
      replace hx1 := (HB.out.cell (Zi w _ hx1)).trans hx1
      replace hx2 := (HB.out.cell (Zi w _ hx2)).trans hx2
      rw [Int.toNat_natCast] at hx0 hx1 hx2
      have hrd : rd_T74 l (kk : Int) = l[kk] := by simp [rd_T74, List.getD_eq_getElem?_getD, List.getElem?_eq_getElem hlt]
      have hA := HA.out
      rw [List.drop_eq_getElem_cons hlt] at hA
      rw [hrd] at hx0 hx1 hx2
      clear HA hrd
      generalize l[kk] = y at hx0 hx1 hx2 hA
      have hcall := HP.out wr HB.out y.f0 (.slice A1 y.f1.length c1) (.slice A2 y.f2.length c2)
      cases hq : p y.f0 with
      | true =>
        simp only [idxF, hq, if_true] at hA
        rw [hq] at hcall
        have HA := Zh hA
        clear hA
        go_wp2_with (go_at_fn g; refine hcall.mono ?_; rintro e w' ⟨rfl, hb⟩; replace HB := Zh (Zl HB.out hb); clear hb)
        go_ret
        exact ⟨by rw [← HA.out]; rfl, HB.out⟩
      | false =>
        simp only [idxF, hq, Bool.false_eq_true, if_false] at hA
        rw [hq] at hcall
        have HA := Zh hA
        clear hA
        go_wp2_with (go_at_fn g; refine hcall.mono ?_; rintro e w' ⟨rfl, hb⟩; replace HB := Zh (Zl HB.out hb); clear hb)
        go_roundg (l.length - (kk + 1))
        case measure => omega
        case rel => exact ⟨kk + 1, by omega, by omega, by go_num, HB, ⟨by have := HA.out; simpa using this⟩⟩
    have hltz : ¬ (kk : Int) < (l.length : Int) := by omega
    have : kk = l.length := by omega
    subst this
    go_wp2
    go_ret
    refine ⟨?_, HB.out⟩
    rw [← HA.out, List.drop_length]
    rfl
set_option maxHeartbeats 4000000 in
theorem fileOf1.pred (B : Nat) (name : ByteArray) (w : World) (hb : w.cell? ⟨B, 0, none⟩ = some (.string name)) : PredF 95 #[.pointer (some ⟨B, 0, none⟩)] (fun s => s.toList == name.toList) w := by
  intro w1 hB s v1 v2
  have hlt := Nat.lt_of_lt_of_le (Zi w _ hb) hB.size
  have hx := (hB.cell (Zi w _ hb)).trans hb
  clear hb hB
  have hu74 := Tryd.underlying74
  have hlt2 : B < w1.heap.size := hlt
  clear hlt
  go_enter Tryd.func95, Tryd.ntmps95
  go_wp2
  go_ret
  exact ⟨rfl, Zf (Below.refl _ _) _⟩
def impl_fileOf.f (l0_0 : List S74) (a1 : ByteArray) : Option Int := if l0_0.length ≤ 9223372036854775807 then some (idxF (fun s => s.toList == a1.toList) l0_0 0) else none
set_option maxHeartbeats 4000000 in
theorem impl_fileOf.calls (A0_0 : Option Addr) (c0_0 : Nat) (l0_0 : List S74) (a1 : ByteArray) (r : Int) (w : World) (hr0_0 : Kd.C k74 w A0_0 l0_0.length l0_0) (hc0_0 : l0_0.length ≤ c0_0) (h : impl_fileOf.f l0_0 a1 = some r) :
    Calls Tryd.prog 63 #[.agg #[.slice A0_0 l0_0.length c0_0], .string a1] w fun e w' => e = .returned (.int .i64 r) ∧ Below w.heap.size w w' := by
  unfold impl_fileOf.f at h
  split at h
  · rename_i hl
    have h := Option.some.inj h
    subst h
    have HR := Zh hr0_0
    have HL := Zh hl
    clear hr0_0 hl
    have e6 : ∀ args w, (callFunc 94 args).run Tryd.prog w = .ok (.enter 94 args) w := enters_of Tryd.func94 (by kernel_rfl) rfl
    have e7 : ∀ args w, (callFunc 95 args).run Tryd.prog w = .ok (.enter 95 args) w := enters_of Tryd.func95 (by kernel_rfl) rfl
    have hmf : ∀ (fn : Fn) (first cap : Array Value) (w : World), (Instr.makeFunc fn first cap).run Tryd.prog w = .ok (.func fn first cap) w := fun _ _ _ _ => rfl
    have hcall := indexFile.calls 95 #[.pointer (some ⟨w.heap.size + 1, 0, none⟩)] (fun s => s.toList == a1.toList) e7 A0_0 c0_0 l0_0 ((w.alloc (.cells #[.slice A0_0 l0_0.length c0_0] 29)).alloc (.cells #[.string a1] 9)) (Kd.C_alloc (Kd.C_alloc HR.out _) _) HL.out (fileOf1.pred _ _ _ (by simp))
    go_enter Tryd.func63, Tryd.ntmps63
    go_wp2_with (go_at_fn 94; refine hcall.mono ?_; rintro e w' ⟨rfl, hb⟩)
    go_ret
    exact ⟨rfl, Zl (Zf (Zf (Below.refl _ _) _) _) hb⟩
  cases h
end Go.Proofs.YtmgeffgcihfpcaaDoor.F

namespace Go.Proofs.YtmgeffgcihfpcaaDoor.SQ
open Go.RowKit Go.Proofs.YtmgeffgcihfpcaaDoorW.PrintWords Go.Proofs.YtmgeffgcihfpcaaDoorW.PrintLast Go.Proofs.YtmgeffgcihfpcaaDoorW.PrintMore
section
variable {P : Program} {md : Region.Mode} {ops : Array Oper} {ds : List Nat} {S : World → Prop} {Q : Exit → Act → World → Prop} {oi : Oper} {v : Value} {fuel : Nat} {l : Array Bool} {a a' : Act} {w : World} {T : Bool × List (List Nat × List Nat)} {B : List Nat}
theorem pu (i N : Nat) (hT : Aside0 (rtab md ops = T)) (h : wpAnyLast P md ops Q S ds fuel (l.setIfInBounds i true) a' w)
    (hk : anyT T l.toList (l.setIfInBounds i true).toList i = true := by kernel_rfl) (hi : ops[i]? = some oi := by rfl) (hN : oi.dst = some N := by rfl) (hQ : ∀ c a w, Q (.panic c) (a.put oi.dst v) w → Q (.panic c) a w := by exact fun _ _ _ h => h)
    (hw : Region.wanted oi (yielded ops a.tmps) = true := by rfl) (hv : ∀ w', (execOp a.eval oi).run P w' = .ok (.value v) w' := by intro w'; go_simp; with_reducible rfl)
    (ha : a.put (some N) v = a' := by simp only [Act.put, List.setIfInBounds_toArray, List.set_cons_zero, List.set_cons_succ, i64_w, i32_w]; rfl) : wpAnyLast P md ops Q S ds (fuel + 1) l a w :=
  pure_ (l.setIfInBounds i true) hi hN (any_of hT.out hk) hQ (.inl ⟨hw, hv⟩) ha h
theorem of (i N : Nat) (hT : Aside0 (rtab md ops = T)) (h : wpAnyLast P md ops Q S ds fuel (l.setIfInBounds i true) a' w)
    (hk : anyT T l.toList (l.setIfInBounds i true).toList i = true := by kernel_rfl) (hi : ops[i]? = some oi := by rfl) (hN : oi.dst = some N := by rfl) (hQ : ∀ c a w, Q (.panic c) (a.put oi.dst undef) w → Q (.panic c) a w := by exact fun _ _ _ h => h)
    (hw : Region.wanted oi (yielded ops a.tmps) = false := by rfl)
    (ha : a.put (some N) undef = a' := by simp only [Act.put, List.setIfInBounds_toArray, List.set_cons_zero, List.set_cons_succ, i64_w, i32_w]; rfl) : wpAnyLast P md ops Q S ds (fuel + 1) l a w :=
  pure_ (l.setIfInBounds i true) hi hN (any_of hT.out hk) hQ (.inr ⟨hw, rfl⟩) ha h
theorem tk (i N : Nat) (hT : Aside0 (rtab md ops = T)) (hB : Aside0 (waitsOk T.2 B = true)) (hS : S w) (h : wpAnyLast P md ops Q S ds fuel (l.setIfInBounds i true) a' w)
    (hk : takeW T B ds l.toList (l.setIfInBounds i true).toList i = true := by kernel_rfl) (hi : ops[i]? = some oi := by rfl) (hN : oi.dst = some N := by rfl) (hQ : ∀ c a w, Q (.panic c) (a.put oi.dst v) w → Q (.panic c) a w := by exact fun _ _ _ h => h)
    (hw : Region.wanted oi (yielded ops a.tmps) = true := by rfl) (hv : ∀ w', S w' → (execOp a.eval oi).run P w' = .ok (.value v) w' := by intro w' hs_; go_simp; with_reducible rfl)
    (ha : a.put (some N) v = a' := by simp only [Act.put, List.setIfInBounds_toArray, List.set_cons_zero, List.set_cons_succ, i64_w, i32_w]; rfl) : wpAnyLast P md ops Q S ds (fuel + 1) l a w :=
  take_ (l.setIfInBounds i true) hi hN (take_ofW hT.out hB.out hk) hQ (.inl ⟨hw, hv⟩) hS ha h
end
end Go.Proofs.YtmgeffgcihfpcaaDoor.SQ

namespace Go.Proofs.YtmgeffgcihfpcaaDoor.F
open Go.Proofs.YtmgeffgcihfpcaaDoor
open Go.RowKit Go.Proofs.YtmgeffgcihfpcaaDoorW.PrintWords Go.Proofs.YtmgeffgcihfpcaaDoorW.PrintWords.Kd Go.Proofs.YtmgeffgcihfpcaaDoorW.PrintMore.Kd Go.Proofs.YtmgeffgcihfpcaaDoorW.PrintLast Go.Proofs.YtmgeffgcihfpcaaDoorW.PrintMore
attribute [local go_sem] max2_int min2_int max_two min_two max_three min_three max_four min_four   -- for this text's walks alone
set_option linter.unusedVariables false
set_option linter.unusedSimpArgs false
def impl_copyDisk.l0 : Nat → List (S74) → Int → Int → List (S74) → Option ((List (S74)))
 | 0, _, _, _, _ => none
 | k + 1, x8, x9, x10, x231000 => if x10 < x9 then (if 0 ≤ x10 then (if x10 < (x8.length : Int) then ((some (([] : List Int) : List Int)).bind fun y233 => (if y233.length + ((rd_T74 x8 x10).f1).length < 140737488355328 then ((some (([] : List Int) : List Int)).bind fun y239 => (if y239.length + ((rd_T74 x8 x10).f2).length < 140737488355328 then (if x231000.length < 2199023255552 then (impl_copyDisk.l0 k x8 x9 (wrap64 (x10 + 1)) (x231000 ++ [(⟨(rd_T74 x8 x10).f0, (y233 ++ ((rd_T74 x8 x10).f1)), (y239 ++ ((rd_T74 x8 x10).f2))⟩ : S74)])) else (none)) else (none))) else (none))) else (none)) else (none)) else (some x231000)
def impl_copyDisk.f (k : Nat) (l0_0 : List (S74)) : Option ((List (S74))) := impl_copyDisk.l0 k l0_0 (l0_0.length : Int) 0 ([] : List (S74))
def impl_copyDisk.T5 : Bool × List (List Nat × List Nat) := (true, [([], []), ([0], [0]), ([], []), ([2], [2]), ([], []), ([], []), ([5], [5]), ([4, 6], [4, 6]), ([], []), ([], []), ([9], [9]), ([8, 10, 7], [8, 10]), ([3, 7, 11], [3, 7, 11]), ([12], [12]), ([1, 13, 11], [1, 13]), ([0, 1, 2, 3, 4, 5, 6, 7, 8, 9, 10, 11, 12, 13, 14], []), ([15, 14, 14, 0, 1, 2, 3, 4, 5, 6, 7, 8, 9, 10, 11, 12, 13, 14], [14, 15])])
def impl_copyDisk.B5 : List Nat := [0, 1, 0, 4, 0, 0, 32, 112, 0, 0, 512, 2032, 4092, 8188, 16383, 32767, 65535]
theorem impl_copyDisk.tab5 : rtab .any (opsOf Tryd.f76 5) = impl_copyDisk.T5 := by kernel_rfl
theorem impl_copyDisk.bits5 : waitsOk impl_copyDisk.T5.2 impl_copyDisk.B5 = true := by kernel_rfl
set_option maxHeartbeats 8000000 in
set_option maxRecDepth 100000 in
theorem impl_copyDisk.calls (k : Nat) (A0_0 : Option Addr) (c0_0 : Nat) (l0_0 : List (S74)) (r : List (S74)) (w : World) (hr0_0 : Kd.C k74 w A0_0 l0_0.length l0_0) (hc0_0 : l0_0.length ≤ c0_0) (h : impl_copyDisk.f k l0_0 = some r) :
  Calls Tryd.prog 76 #[.agg #[.slice A0_0 l0_0.length c0_0]] w fun e w' => ∃ v0_ : Value, e = .returned (.agg #[v0_]) ∧ Kd.S k74 74 w' w.heap.size (fun _ => True) v0_ r ∧ Below w.heap.size w w' := by
 have hu29 := Tryd.underlying29
 have hu74 := Tryd.underlying74
 have HR0_0 := Zh hr0_0
 have HC0_0 := Zh hc0_0
 clear hr0_0 hc0_0
 have HB := Zh (Below.refl w.heap.size w)
 have H : (impl_copyDisk.l0 k l0_0 (l0_0.length : Int) 0 ([] : List (S74))) = some r := h
 clear h
 have H' := Zh H
 clear H
 go_enter Tryd.func76, Tryd.ntmps76
 go_wp2_with (first | ((with_reducible refine gate_dst (N := 1) rfl ?_); refine box_event ?hg (N := 1) ?hd (cs := #[.slice A0_0 l0_0.length c0_0]) (t := 29) ?hr ?_; (case hd => rfl); (case hg => rfl); (case hr => first | (go_simp; done) | (go_simp; rfl)); intro gb228 hg w2 hbox hb; have BK228 := Zh (hbox); have GW228 := Zh ((by rw [hg]; exact (below_size Zs) : w.heap.size ≤ gb228)); have GE228 := Zh ((by rw [hg]; exact (below_size Zs) : w.heap.size ≤ gb228)); replace HB := Zh (Zl Zs hb); clear hb hbox hg) | ((with_reducible refine gate_dst (N := 2) rfl ?_); refine box_event ?hg (N := 2) ?hd (cs := #[.slice none 0 0]) (t := 29) ?hr ?_; (case hd => rfl); (case hg => rfl); (case hr => first | (go_simp; done) | (go_simp; rfl)); intro gb229 hg w3 hbox hb; have BK229 := Zh (hbox); have GW229 := Zh ((by rw [hg]; exact (below_size Zs) : w.heap.size ≤ gb229)); have GE229 := Zh ((by rw [hg]; exact (below_size Zs) : w.heap.size ≤ gb229)); replace HB := Zh (Zl Zs hb); have NB228_229 := Zh ((by rw [hg]; exact Nat.ne_of_lt (blk_lt (g := gb228) (o := .cells #[.slice A0_0 l0_0.length c0_0] 29 (0, 0)) Zk) : gb228 ≠ gb229)); have NB229_228 := Zh ((by rw [hg]; exact Nat.ne_of_gt (blk_lt (g := gb228) (o := .cells #[.slice A0_0 l0_0.length c0_0] 29 (0, 0)) Zk) : gb229 ≠ gb228)); replace BK228 := Zh (Zm (g := gb228) (o := .cells #[.slice A0_0 l0_0.length c0_0] 29 (0, 0)) Zk hb); clear hb hbox hg) | ((with_reducible refine gate_dst (N := 3) rfl ?_); refine box_event ?hg (N := 3) ?hd (cs := #[.slice none 0 0]) (t := 29) ?hr ?_; (case hd => rfl); (case hg => rfl); (case hr => first | (go_simp; done) | (go_simp; rfl)); intro gb230 hg w4 hbox hb; have BK230 := Zh (hbox); have GW230 := Zh ((by rw [hg]; exact (below_size Zs) : w.heap.size ≤ gb230)); have GE230 := Zh ((by rw [hg]; exact (below_size Zs) : w.heap.size ≤ gb230)); replace HB := Zh (Zl Zs hb); have NB228_230 := Zh ((by rw [hg]; exact Nat.ne_of_lt (blk_lt (g := gb228) (o := .cells #[.slice A0_0 l0_0.length c0_0] 29 (0, 0)) Zk) : gb228 ≠ gb230)); have NB230_228 := Zh ((by rw [hg]; exact Nat.ne_of_gt (blk_lt (g := gb228) (o := .cells #[.slice A0_0 l0_0.length c0_0] 29 (0, 0)) Zk) : gb230 ≠ gb228)); replace BK228 := Zh (Zm (g := gb228) (o := .cells #[.slice A0_0 l0_0.length c0_0] 29 (0, 0)) Zk hb); have NB229_230 := Zh ((by rw [hg]; exact Nat.ne_of_lt (blk_lt (g := gb229) (o := .cells #[.slice none 0 0] 29 (0, 0)) Zk) : gb229 ≠ gb230)); have NB230_229 := Zh ((by rw [hg]; exact Nat.ne_of_gt (blk_lt (g := gb229) (o := .cells #[.slice none 0 0] 29 (0, 0)) Zk) : gb230 ≠ gb229)); replace BK229 := Zh (Zm (g := gb229) (o := .cells #[.slice none 0 0] 29 (0, 0)) Zk hb); clear hb hbox hg; have hnb5 := NB230_228.out; have hnc5 := NB228_230.out; have hnb6 := NB230_229.out; have hnc6 := NB229_230.out; have hcz7_0 : w4.cell? ⟨gb230, 0, none⟩ = some (.slice none 0 0) := (blk_cell BK230.out 0).trans rfl; have hfz7_0 := Zn BK230.out 0; have hnb8 := NB228_229.out; have hnc8 := NB229_228.out; have hcz9_0 : w4.cell? ⟨gb228, 0, none⟩ = some (.slice A0_0 l0_0.length c0_0) := (blk_cell BK228.out 0).trans rfl; have hfz9_0 := Zn BK228.out 0))
 go_loopg [10] k (fun kq v10 w' => ∃ (x10_1 : Int) (x231000_1 : List (S74)) (u231000 : Value), v10 = .int .i64 x10_1 ∧ Aside0 (impl_copyDisk.l0 kq l0_0 (l0_0.length : Int) x10_1 x231000_1 = some r) ∧ Aside0 (kq ≤ k) ∧ Aside0 (Kd.S k74 74 w' w.heap.size (fun _ => True) u231000 x231000_1) ∧ Aside0 (w'.heap[gb228]? = some (.cells #[(.slice A0_0 l0_0.length c0_0)] 29 (0, 0))) ∧ Aside0 (w'.heap[gb229]? = some (.cells #[(.slice none 0 0)] 29 (0, 0))) ∧ Aside0 (w'.heap[gb230]? = some (.cells #[u231000] 29 (0, 0))) ∧ Aside0 (Below w.heap.size w w'))
 case atStart => exact ⟨(0), (([] : List (S74))), (.slice none 0 0), (by first | rfl | (simp; done) | (simp [*]; done)), H', ⟨Nat.le_refl _⟩, ⟨by first | exact S_nil _ _ _ _ _ | exact N_nil _ _ _ _ _ | exact V_nil _ _ _ _ _ | exact Q_nil _ _ _ _ _ | exact R_nil _ _ _ _ _⟩, ⟨by (with_reducible repeat (first | refine Za ?_ _ | refine Zb ?_ | refine blk_alloc ?_ _)); refine blk_far ?_ NB228_230.out _; (with_reducible repeat (first | refine Za ?_ _ | refine Zb ?_ | refine blk_alloc ?_ _)); exact BK228.out⟩, ⟨by (with_reducible repeat (first | refine Za ?_ _ | refine Zb ?_ | refine blk_alloc ?_ _)); refine blk_far ?_ NB229_230.out _; (with_reducible repeat (first | refine Za ?_ _ | refine Zb ?_ | refine blk_alloc ?_ _)); exact BK229.out⟩, ⟨by (with_reducible repeat (first | refine Za ?_ _ | refine Zb ?_ | refine blk_alloc ?_ _)); refine blk_put (cs := #[.slice none 0 0]) ?_ 0 _ rfl; (with_reducible repeat (first | refine Za ?_ _ | refine Zb ?_ | refine blk_alloc ?_ _)); exact BK230.out⟩, ⟨Zs⟩⟩
 case round =>
  clear H'
  try clear p2
  try clear c5
  try clear c6
  try clear c7
  try clear c8
  try clear hcz7_0
  try clear hcz9_0
  try clear hfz7_0
  try clear hfz9_0
  obtain ⟨x10_1, x231000_1, u231000, rfl, HA, HK1, HO_231000, BK228, BK229, BK230, HB⟩ := hrel
  cases gk with
  | zero => exact absurd HA.out (by simp [impl_copyDisk.l0])
  | succ k1 =>
   have H := HA.out
   clear HA
   simp only [impl_copyDisk.l0] at H
   by_cases c10 : x10_1 < (l0_0.length : Int)
   ·
    rw [if_pos c10] at H
    have c10b0 : decide (x10_1 < (l0_0.length : Int)) = true := decide_eq_true c10
    clear c10
    by_cases c11 : 0 ≤ x10_1
    ·
     rw [if_pos c11] at H
     have c11b0 : decide (0 ≤ x10_1) = true := decide_eq_true c11
     clear c11
     by_cases c12 : x10_1 < (l0_0.length : Int)
     ·
      rw [if_pos c12] at H
      have c12b0 : decide (x10_1 < (l0_0.length : Int)) = true := decide_eq_true c12
      clear c12
      obtain ⟨y233, hy233⟩ : ∃ y_ : List Int, y_ = (([] : List Int)) := ⟨_, rfl⟩
      replace H : (if y233.length + ((rd_T74 l0_0 x10_1).f1).length < 140737488355328 then ((some (([] : List Int) : List Int)).bind fun y239 => (if y239.length + ((rd_T74 l0_0 x10_1).f2).length < 140737488355328 then (if x231000_1.length < 2199023255552 then (impl_copyDisk.l0 k1 l0_0 (l0_0.length : Int) (wrap64 (x10_1 + 1)) (x231000_1 ++ [(⟨(rd_T74 l0_0 x10_1).f0, (y233 ++ ((rd_T74 l0_0 x10_1).f1)), (y239 ++ ((rd_T74 l0_0 x10_1).f2))⟩ : S74)])) else (none)) else (none))) else (none)) = some r := by first | (rw [hy233]; with_reducible exact H) | (have H2_ := (Option.bind_some _ _).symm.trans H; rw [hy233]; with_reducible exact H2_) | (have H2_ := (Option.bind_some _ _).symm.trans H; with_reducible exact H2_) | with_reducible exact H | (rw [hy233]; exact H) | exact H
      have Ny233 := Zh hy233
      clear hy233
      by_cases c13 : y233.length + ((rd_T74 l0_0 x10_1).f1).length < 140737488355328
      ·
       rw [if_pos c13] at H
       have LMc13 := Zh c13
       clear c13
       obtain ⟨y236, hy236⟩ : ∃ y_ : List Int, y_ = (y233 ++ ((rd_T74 l0_0 x10_1).f1)) := ⟨_, rfl⟩
       replace H : ((some (([] : List Int) : List Int)).bind fun y239 => (if y239.length + ((rd_T74 l0_0 x10_1).f2).length < 140737488355328 then (if x231000_1.length < 2199023255552 then (impl_copyDisk.l0 k1 l0_0 (l0_0.length : Int) (wrap64 (x10_1 + 1)) (x231000_1 ++ [(⟨(rd_T74 l0_0 x10_1).f0, y236, (y239 ++ ((rd_T74 l0_0 x10_1).f2))⟩ : S74)])) else (none)) else (none))) = some r := by first | (rw [hy236]; with_reducible exact H) | (have H2_ := (Option.bind_some _ _).symm.trans H; rw [hy236]; with_reducible exact H2_) | (have H2_ := (Option.bind_some _ _).symm.trans H; with_reducible exact H2_) | with_reducible exact H | (rw [hy236]; exact H) | exact H
       have Ny236 := Zh hy236
       clear hy236
       obtain ⟨y239, hy239⟩ : ∃ y_ : List Int, y_ = (([] : List Int)) := ⟨_, rfl⟩
       replace H : (if y239.length + ((rd_T74 l0_0 x10_1).f2).length < 140737488355328 then (if x231000_1.length < 2199023255552 then (impl_copyDisk.l0 k1 l0_0 (l0_0.length : Int) (wrap64 (x10_1 + 1)) (x231000_1 ++ [(⟨(rd_T74 l0_0 x10_1).f0, y236, (y239 ++ ((rd_T74 l0_0 x10_1).f2))⟩ : S74)])) else (none)) else (none)) = some r := by first | (rw [hy239]; with_reducible exact H) | (have H2_ := (Option.bind_some _ _).symm.trans H; rw [hy239]; with_reducible exact H2_) | (have H2_ := (Option.bind_some _ _).symm.trans H; with_reducible exact H2_) | with_reducible exact H | (rw [hy239]; exact H) | exact H
       have Ny239 := Zh hy239
       clear hy239
       by_cases c14 : y239.length + ((rd_T74 l0_0 x10_1).f2).length < 140737488355328
       ·
        rw [if_pos c14] at H
        have LMc14 := Zh c14
        clear c14
        obtain ⟨y242, hy242⟩ : ∃ y_ : List Int, y_ = (y239 ++ ((rd_T74 l0_0 x10_1).f2)) := ⟨_, rfl⟩
        replace H : (if x231000_1.length < 2199023255552 then (impl_copyDisk.l0 k1 l0_0 (l0_0.length : Int) (wrap64 (x10_1 + 1)) (x231000_1 ++ [(⟨(rd_T74 l0_0 x10_1).f0, y236, y242⟩ : S74)])) else (none)) = some r := by first | (rw [hy242]; with_reducible exact H) | (have H2_ := (Option.bind_some _ _).symm.trans H; rw [hy242]; with_reducible exact H2_) | (have H2_ := (Option.bind_some _ _).symm.trans H; with_reducible exact H2_) | with_reducible exact H | (rw [hy242]; exact H) | exact H
        have Ny242 := Zh hy242
        clear hy242
        by_cases c15 : x231000_1.length < 2199023255552
        ·
         rw [if_pos c15] at H
         have LMc15 := Zh c15
         clear c15
         obtain ⟨y245, hy245⟩ : ∃ y_ : List (S74), y_ = (x231000_1 ++ [(⟨(rd_T74 l0_0 x10_1).f0, y236, y242⟩ : S74)]) := ⟨_, rfl⟩
         replace H : (impl_copyDisk.l0 k1 l0_0 (l0_0.length : Int) (wrap64 (x10_1 + 1)) y245) = some r := by first | (rw [hy245]; with_reducible exact H) | (have H2_ := (Option.bind_some _ _).symm.trans H; rw [hy245]; with_reducible exact H2_) | (have H2_ := (Option.bind_some _ _).symm.trans H; with_reducible exact H2_) | with_reducible exact H | (rw [hy245]; exact H) | exact H
         have Ny245 := Zh hy245
         clear hy245
         have H' := Zh H
         clear H
         have p231 : 0 ≤ (x10_1 : Int) := Zo
         have q231 : x10_1 < (l0_0.length : Int) := Zo
         obtain ⟨ad231, A231_1, c231_1, A231_2, c231_2, e231, hx231_0, hx231_1, hx231_2, hl231_1, hi231_1, hl231_2, hi231_2⟩ := at_T74 HR0_0.out x10_1 p231 q231
         cases e231
         replace hx231_0 := Zc HB.out hx231_0
         replace hx231_1 := Zc HB.out hx231_1
         replace hx231_2 := Zc HB.out hx231_2
         have HR231_1 := Zh hi231_1
         have HC231_1 := Zh hl231_1
         clear hi231_1 hl231_1
         have HR231_2 := Zh hi231_2
         have HC231_2 := Zh hl231_2
         clear hi231_2 hl231_2
         replace p231 := eq_true p231
         replace q231 := eq_true q231
         try go_wp2_with (first | ((with_reducible refine gate_dst (N := 5) rfl ?_); refine box_event ?hg (N := 5) ?hd (cs := #[.string (⟨#[]⟩ : ByteArray), .slice none 0 0, .slice none 0 0]) (t := 74) ?hr ?_; (case hd => rfl); (case hg => rfl); (case hr => first | (go_simp; done) | (go_simp; rfl)); intro gb232 hg w16 hbox hb; replace HO_231000 := Zh (S_below (S_elderB (ZS HO_231000.out) gb232 (Nat.le_of_eq hg.symm)) hb); have BK232 := Zh (hbox); have GW232 := Zh ((by rw [hg]; exact (below_size Zs) : w.heap.size ≤ gb232)); have GE232 := Zh ((by rw [hg]; exact (below_size Zs) : w.heap.size ≤ gb232)); replace HB := Zh (Zl Zs hb); have NB228_232 := Zh ((by rw [hg]; exact Nat.ne_of_lt (blk_lt (g := gb228) (o := .cells #[.slice (some ad231) l0_0.length c0_0] 29 (0, 0)) Zk) : gb228 ≠ gb232)); have NB232_228 := Zh ((by rw [hg]; exact Nat.ne_of_gt (blk_lt (g := gb228) (o := .cells #[.slice (some ad231) l0_0.length c0_0] 29 (0, 0)) Zk) : gb232 ≠ gb228)); replace BK228 := Zh (Zm (g := gb228) (o := .cells #[.slice (some ad231) l0_0.length c0_0] 29 (0, 0)) Zk hb); have NB229_232 := Zh ((by rw [hg]; exact Nat.ne_of_lt (blk_lt (g := gb229) (o := .cells #[.slice none 0 0] 29 (0, 0)) Zk) : gb229 ≠ gb232)); have NB232_229 := Zh ((by rw [hg]; exact Nat.ne_of_gt (blk_lt (g := gb229) (o := .cells #[.slice none 0 0] 29 (0, 0)) Zk) : gb232 ≠ gb229)); replace BK229 := Zh (Zm (g := gb229) (o := .cells #[.slice none 0 0] 29 (0, 0)) Zk hb); have NB230_232 := Zh ((by rw [hg]; exact Nat.ne_of_lt (blk_lt (g := gb230) (o := .cells #[u231000] 29 (0, 0)) Zk) : gb230 ≠ gb232)); have NB232_230 := Zh ((by rw [hg]; exact Nat.ne_of_gt (blk_lt (g := gb230) (o := .cells #[u231000] 29 (0, 0)) Zk) : gb232 ≠ gb230)); replace BK230 := Zh (Zm (g := gb230) (o := .cells #[u231000] 29 (0, 0)) Zk hb); clear hb hbox hg; have hnb17 := NB232_228.out; have hnc17 := NB228_232.out; have hnb18 := NB232_229.out; have hnc18 := NB229_232.out; have hnb19 := NB232_230.out; have hnc19 := NB230_232.out; have hcz20_0 : w16.cell? ⟨gb232, 0, none⟩ = some (.string (⟨#[]⟩ : ByteArray)) := (blk_cell BK232.out 0).trans rfl; have hcz20_1 : w16.cell? ⟨gb232, 1, none⟩ = some (.slice none 0 0) := (blk_cell BK232.out 1).trans rfl; have hcz20_2 : w16.cell? ⟨gb232, 2, none⟩ = some (.slice none 0 0) := (blk_cell BK232.out 2).trans rfl; have hfz20_0 := Zn BK232.out 0; have hfz20_1 := Zn BK232.out 1; have hfz20_2 := Zn BK232.out 2; obtain ⟨Ao21, co21, eo21⟩ := S_slice HO_231000.out; subst eo21))
         have n0_ : Aside0 (Kd.S k74 74 (((w16.setCell ⟨gb232, 0, none⟩ (.string ((rd_T74 l0_0 x10_1).f0))).setCell ⟨gb232, 1, none⟩ (.slice A231_1 ((rd_T74 l0_0 x10_1).f1).length c231_1)).setCell ⟨gb232, 2, none⟩ (.slice A231_2 ((rd_T74 l0_0 x10_1).f2).length c231_2)) w.heap.size (fun k_ => k_ ≠ gb232) (.slice Ao21 x231000_1.length co21) x231000_1) := ⟨ZS (S_mono (S_far (p := ⟨gb232, 2, none⟩) (S_far (p := ⟨gb232, 1, none⟩) (S_far (p := ⟨gb232, 0, none⟩) (S_mono HO_231000.out (fun k_ hk => (⟨hk, hk.2⟩ : _ ∧ k_ ≠ gb232))) (fun _ hk => hk.2) (.string ((rd_T74 l0_0 x10_1).f0))) (fun _ hk => hk.2) (.slice A231_1 ((rd_T74 l0_0 x10_1).f1).length c231_1)) (fun _ hk => hk.2) (.slice A231_2 ((rd_T74 l0_0 x10_1).f2).length c231_2)) (fun _ hk => hk.1.2))⟩
         have n1_ : Aside0 ((((w16.setCell ⟨gb232, 0, none⟩ (.string ((rd_T74 l0_0 x10_1).f0))).setCell ⟨gb232, 1, none⟩ (.slice A231_1 ((rd_T74 l0_0 x10_1).f1).length c231_1)).setCell ⟨gb232, 2, none⟩ (.slice A231_2 ((rd_T74 l0_0 x10_1).f2).length c231_2)).heap[gb228]? = some (.cells #[.slice (some ad231) l0_0.length c0_0] 29 (0, 0))) := ⟨by (with_reducible repeat (first | refine Za ?_ _ | refine Zb ?_ | refine blk_alloc ?_ _)); refine blk_far ?_ NB228_232.out _; (with_reducible repeat (first | refine Za ?_ _ | refine Zb ?_ | refine blk_alloc ?_ _)); refine blk_far ?_ NB228_232.out _; (with_reducible repeat (first | refine Za ?_ _ | refine Zb ?_ | refine blk_alloc ?_ _)); refine blk_far ?_ NB228_232.out _; (with_reducible repeat (first | refine Za ?_ _ | refine Zb ?_ | refine blk_alloc ?_ _)); exact BK228.out⟩
         have n2_ : Aside0 ((((w16.setCell ⟨gb232, 0, none⟩ (.string ((rd_T74 l0_0 x10_1).f0))).setCell ⟨gb232, 1, none⟩ (.slice A231_1 ((rd_T74 l0_0 x10_1).f1).length c231_1)).setCell ⟨gb232, 2, none⟩ (.slice A231_2 ((rd_T74 l0_0 x10_1).f2).length c231_2)).heap[gb229]? = some (.cells #[.slice none 0 0] 29 (0, 0))) := ⟨by (with_reducible repeat (first | refine Za ?_ _ | refine Zb ?_ | refine blk_alloc ?_ _)); refine blk_far ?_ NB229_232.out _; (with_reducible repeat (first | refine Za ?_ _ | refine Zb ?_ | refine blk_alloc ?_ _)); refine blk_far ?_ NB229_232.out _; (with_reducible repeat (first | refine Za ?_ _ | refine Zb ?_ | refine blk_alloc ?_ _)); refine blk_far ?_ NB229_232.out _; (with_reducible repeat (first | refine Za ?_ _ | refine Zb ?_ | refine blk_alloc ?_ _)); exact BK229.out⟩
         have n3_ : Aside0 ((((w16.setCell ⟨gb232, 0, none⟩ (.string ((rd_T74 l0_0 x10_1).f0))).setCell ⟨gb232, 1, none⟩ (.slice A231_1 ((rd_T74 l0_0 x10_1).f1).length c231_1)).setCell ⟨gb232, 2, none⟩ (.slice A231_2 ((rd_T74 l0_0 x10_1).f2).length c231_2)).heap[gb230]? = some (.cells #[.slice Ao21 x231000_1.length co21] 29 (0, 0))) := ⟨by (with_reducible repeat (first | refine Za ?_ _ | refine Zb ?_ | refine blk_alloc ?_ _)); refine blk_far ?_ NB230_232.out _; (with_reducible repeat (first | refine Za ?_ _ | refine Zb ?_ | refine blk_alloc ?_ _)); refine blk_far ?_ NB230_232.out _; (with_reducible repeat (first | refine Za ?_ _ | refine Zb ?_ | refine blk_alloc ?_ _)); refine blk_far ?_ NB230_232.out _; (with_reducible repeat (first | refine Za ?_ _ | refine Zb ?_ | refine blk_alloc ?_ _)); exact BK230.out⟩
         have n4_ : Aside0 ((((w16.setCell ⟨gb232, 0, none⟩ (.string ((rd_T74 l0_0 x10_1).f0))).setCell ⟨gb232, 1, none⟩ (.slice A231_1 ((rd_T74 l0_0 x10_1).f1).length c231_1)).setCell ⟨gb232, 2, none⟩ (.slice A231_2 ((rd_T74 l0_0 x10_1).f2).length c231_2)).heap[gb232]? = some (.cells #[.string ((rd_T74 l0_0 x10_1).f0), .slice A231_1 ((rd_T74 l0_0 x10_1).f1).length c231_1, .slice A231_2 ((rd_T74 l0_0 x10_1).f2).length c231_2] 74 (0, 0))) := ⟨by (with_reducible repeat (first | refine Za ?_ _ | refine Zb ?_ | refine blk_alloc ?_ _)); refine blk_put (cs := #[.string ((rd_T74 l0_0 x10_1).f0), .slice A231_1 ((rd_T74 l0_0 x10_1).f1).length c231_1, .slice none 0 0]) ?_ 2 _ rfl; (with_reducible repeat (first | refine Za ?_ _ | refine Zb ?_ | refine blk_alloc ?_ _)); refine blk_put (cs := #[.string ((rd_T74 l0_0 x10_1).f0), .slice none 0 0, .slice none 0 0]) ?_ 1 _ rfl; (with_reducible repeat (first | refine Za ?_ _ | refine Zb ?_ | refine blk_alloc ?_ _)); refine blk_put (cs := #[.string (⟨#[]⟩ : ByteArray), .slice none 0 0, .slice none 0 0]) ?_ 0 _ rfl; (with_reducible repeat (first | refine Za ?_ _ | refine Zb ?_ | refine blk_alloc ?_ _)); exact BK232.out⟩
         have n5_ : Aside0 (Below w.heap.size w (((w16.setCell ⟨gb232, 0, none⟩ (.string ((rd_T74 l0_0 x10_1).f0))).setCell ⟨gb232, 1, none⟩ (.slice A231_1 ((rd_T74 l0_0 x10_1).f1).length c231_1)).setCell ⟨gb232, 2, none⟩ (.slice A231_2 ((rd_T74 l0_0 x10_1).f2).length c231_2))) := ⟨Zs⟩
         (try clear HO_231000)
         (try clear BK228)
         (try clear BK229)
         (try clear BK230)
         (try clear BK232)
         (try clear HB)
         generalize (((w16.setCell ⟨gb232, 0, none⟩ (.string ((rd_T74 l0_0 x10_1).f0))).setCell ⟨gb232, 1, none⟩ (.slice A231_1 ((rd_T74 l0_0 x10_1).f1).length c231_1)).setCell ⟨gb232, 2, none⟩ (.slice A231_2 ((rd_T74 l0_0 x10_1).f2).length c231_2)) = w22 at n0_ n1_ n2_ n3_ n4_ n5_ ⊢
         have HO_231000 := n0_
         have BK228 := n1_
         have BK229 := n2_
         have BK230 := n3_
         have BK232 := n4_
         have HB := n5_
         clear n0_ n1_ n2_ n3_ n4_ n5_
         replace HO_231000 := Zh (S_drew HO_231000.out)
         replace BK228 := Zh (Zb BK228.out)
         replace BK229 := Zh (Zb BK229.out)
         replace BK230 := Zh (Zb BK230.out)
         replace BK232 := Zh (Zb BK232.out)
         replace HB := Zh (Ze HB.out)
         refine start_ (n := 17) (S := fun w' => w'.cell? ⟨gb230, 0, none⟩ = some (.slice Ao21 x231000_1.length co21) ∧ w'.cell? ⟨gb232, 0, none⟩ = some (.string ((rd_T74 l0_0 x10_1).f0)) ∧ w'.cell? ⟨gb232, 1, none⟩ = some (.slice A231_1 ((rd_T74 l0_0 x10_1).f1).length c231_1) ∧ w'.cell? ⟨gb232, 2, none⟩ = some (.slice A231_2 ((rd_T74 l0_0 x10_1).f2).length c231_2)) (ds := [16]) #[false, false, false, false, false, false, false, false, false, false, false, false, false, false, false, false, false] (by kernel_rfl) rfl rfl ⟨(blk_cell BK230.out 0).trans rfl, (blk_cell BK232.out 0).trans rfl, (blk_cell BK232.out 1).trans rfl, (blk_cell BK232.out 2).trans rfl⟩ (fun hHeld => ?_); refine with_tabW impl_copyDisk.tab5 impl_copyDisk.bits5 (fun HT_ HW_ => ?_)
         generalize w22.drew = w23 at HO_231000 BK228 BK229 BK230 BK232 HB hHeld ⊢
         refine SQ.pu 0 14 HT_ ?_
         refine SQ.pu 2 16 HT_ ?_
         refine SQ.pu 5 19 HT_ ?_
         refine SQ.pu 9 23 HT_ ?_
         refine SQ.tk 1 15 HT_ HW_ hHeld ?_
         refine SQ.tk 3 17 HT_ HW_ hHeld ?_
         refine SQ.tk 6 20 HT_ HW_ hHeld ?_
         refine SQ.tk 10 24 HT_ HW_ hHeld ?_
         refine join_ (σ := Value × Value × Value) 6 #[true, true, true, true, true, true, true, true, true, true, true, false, false, false, false, false, false] (fun s_ => [(18, s_.1), (21, s_.2.1), (22, s_.2.2)]) (fun s_ w' => (w'.cell? ⟨gb230, 0, none⟩ = some (.slice Ao21 x231000_1.length co21) ∧ w'.cell? ⟨gb232, 0, none⟩ = some (.string ((rd_T74 l0_0 x10_1).f0)) ∧ w'.cell? ⟨gb232, 1, none⟩ = some (.slice A231_1 ((rd_T74 l0_0 x10_1).f1).length c231_1) ∧ w'.cell? ⟨gb232, 2, none⟩ = some (.slice A231_2 ((rd_T74 l0_0 x10_1).f2).length c231_2)) ∧ (Kd.R (Kd.int .u8) 5 w' w.heap.size (fun k_ => some k_ ≠ (s_.2.2 : Value).ownBlock) s_.2.1 y236) ∧ (Kd.R (Kd.int .u8) 5 w' w.heap.size (fun k_ => some k_ ≠ (s_.2.1 : Value).ownBlock) s_.2.2 y239) ∧ (Kd.S k74 74 w' w.heap.size (fun k_ => some k_ ≠ (s_.2.1 : Value).ownBlock ∧ some k_ ≠ (s_.2.2 : Value).ownBlock ∧ k_ ≠ gb232) (.slice Ao21 x231000_1.length co21) x231000_1) ∧ (w'.heap[gb228]? = some (.cells #[.slice (some ad231) l0_0.length c0_0] 29 (0, 0))) ∧ (w'.heap[gb229]? = some (.cells #[.slice none 0 0] 29 (0, 0))) ∧ (w'.heap[gb230]? = some (.cells #[.slice Ao21 x231000_1.length co21] 29 (0, 0))) ∧ (w'.heap[gb232]? = some (.cells #[.string ((rd_T74 l0_0 x10_1).f0), .slice A231_1 ((rd_T74 l0_0 x10_1).f1).length c231_1, .slice A231_2 ((rd_T74 l0_0 x10_1).f2).length c231_2] 74 (0, 0))) ∧ (Below w.heap.size w w')) ?_ ?_
         rotate_left
         ·
          intro hCont
          refine two_ (i := 4) (j := 8) (Ni := some 18) (Nj := some 22) #[true, true, true, true, true, true, true, false, false, true, true, false, false, false, false, false, false] #[true, true, true, true, false, true, true, false, true, true, true, false, false, false, false, false, false] rfl rfl rfl rfl (two_of HT_.out (by kernel_rfl)) (by decide) (by decide) (fun K hK => ?_) (fun K hK => ?_)
          ·
           skip
           refine R_lit_step (Kd.int .u8) _ 5 ?hg (N := 18) ?hd (xs := ([] : List Int)) (inner := []) (ok := fun _ => True) (okp := fun _ => True) ?hr ?hp (fun _ hk => hk) trivial (Below.refl _ _) (Nat.le_refl _) (by simp) ?_; (case hd => rfl); (case hg => rfl); (case hr => first | (go_simp; done) | (go_simp; rfl)); (case hp => exact (Reps.none _ _))
           intro v234 w24 ho25 hb hg_ hnew_
           clear hg_ hnew_
           (first | rw [← Ny233.out] at ho25 | (simp only [Int.reduceToNat] at ho25; rw [← Ny233.out] at ho25))
           replace HO_231000 := Zh (S_elder' (ZS HO_231000.out) (R_base ho25) hb)
           have HO235 := Zh (R_lower ho25 (below_size Zs))
           replace BK228 := Zh (Zm (g := gb228) (o := .cells #[.slice (some ad231) l0_0.length c0_0] 29 (0, 0)) Zk hb)
           replace BK229 := Zh (Zm (g := gb229) (o := .cells #[.slice none 0 0] 29 (0, 0)) Zk hb)
           replace BK230 := Zh (Zm (g := gb230) (o := .cells #[.slice Ao21 x231000_1.length co21] 29 (0, 0)) Zk hb)
           replace BK232 := Zh (Zm (g := gb232) (o := .cells #[.string ((rd_T74 l0_0 x10_1).f0), .slice A231_1 ((rd_T74 l0_0 x10_1).f1).length c231_1, .slice A231_2 ((rd_T74 l0_0 x10_1).f2).length c231_2] 74 (0, 0)) Zk hb)
           replace HB := Zh (Zl Zs hb)
           clear hb ho25
           refine hK.out _ _ ⟨(blk_cell BK230.out 0).trans rfl, (blk_cell BK232.out 0).trans rfl, (blk_cell BK232.out 1).trans rfl, (blk_cell BK232.out 2).trans rfl⟩ (fun hHeld => ?_)
           clear hK K
           refine norm_ (a' := ?_) ?_ ?_
           rotate_left
           ·
            show Act.put _ (some 18) _ = _
            simp only [Act.put, List.setIfInBounds_toArray, List.set_cons_zero, List.set_cons_succ, i64_w, i32_w]
            rfl
           refine two_ (i := 7) (j := 8) (Ni := some 21) (Nj := some 22) #[true, true, true, true, true, true, true, true, false, true, true, false, false, false, false, false, false] #[true, true, true, true, true, true, true, false, true, true, true, false, false, false, false, false, false] rfl rfl rfl rfl (two_of HT_.out (by kernel_rfl)) (by decide) (by decide) (fun K hK => ?_) (fun K hK => ?_)
           ·
            skip
            refine R_append_rows_step (Kd.int .u8) (w0 := w) w.heap.size (by rfl) (.tmp 18) (.tmp 20) 33 5 (.int .u8 0) 1 rfl Tryd.underlying33 info5 rfl (by decide) (by omega) v234 y233 ((rd_T74 l0_0 x10_1).f1) _ _ _ (fun _ => True) (fun _ => False) rfl rfl ?aO ?aR (fun _ _ h => h) (fun _ h => h.elim) ?aF ?aB ?aS ?aL ?_
            (case aR => repeat (first | exact (C_below HR231_1.out HB.out) | (with_reducible refine C_alloc ?_ _) | (with_reducible refine C_drewN ?_ _) | (with_reducible refine C_drew ?_)))
            (case aB => exact Zs)
            (case aF => exact (fun _ _ => trivial))
            (case aO => exact (ZR HO235.out))
            (case aS => exact (below_size Zs))
            (case aL => have := LMc13.out; omega)
            intro v237 w26 ho hb hg hat
            rw [← Ny236.out] at ho
            have n0_ := Zh (S_after (ok := (fun k_ => k_ ≠ gb232)) (ZS HO_231000.out) hg hat)
            have n1_ := Zh (blk_grown (g := gb228) (o := .cells #[.slice (some ad231) l0_0.length c0_0] 29 (0, 0)) Zk hg (R_ne HO235.out BK228.out (by decide)))
            have n2_ := Zh (blk_grown (g := gb229) (o := .cells #[.slice none 0 0] 29 (0, 0)) Zk hg (R_ne HO235.out BK229.out (by decide)))
            have n3_ := Zh (blk_grown (g := gb230) (o := .cells #[.slice Ao21 x231000_1.length co21] 29 (0, 0)) Zk hg (R_ne HO235.out BK230.out (by decide)))
            have n4_ := Zh (blk_grown (g := gb232) (o := .cells #[.string ((rd_T74 l0_0 x10_1).f0), .slice A231_1 ((rd_T74 l0_0 x10_1).f1).length c231_1, .slice A231_2 ((rd_T74 l0_0 x10_1).f2).length c231_2] 74 (0, 0)) Zk hg (R_ne HO235.out BK232.out (by decide)))
            have n5_ := Zh (hb)
            have n6_ := Zh (ho)
            clear HO_231000
            clear BK228
            clear BK229
            clear BK230
            clear BK232
            clear HB
            clear HO235
            have HO_231000 := n0_
            have BK228 := n1_
            have BK229 := n2_
            have BK230 := n3_
            have BK232 := n4_
            have HB := n5_
            have HO238 := n6_
            clear n0_ n1_ n2_ n3_ n4_ n5_ n6_
            clear ho hb hg hat
            refine hK.out _ _ ⟨(blk_cell BK230.out 0).trans rfl, (blk_cell BK232.out 0).trans rfl, (blk_cell BK232.out 1).trans rfl, (blk_cell BK232.out 2).trans rfl⟩ (fun hHeld => ?_)
            clear hK K
            refine norm_ (a' := ?_) ?_ ?_
            rotate_left
            ·
             show Act.put _ (some 21) _ = _
             simp only [Act.put, List.setIfInBounds_toArray, List.set_cons_zero, List.set_cons_succ, i64_w, i32_w]
             rfl
            refine one_ (i := 8) (N := some 22) #[true, true, true, true, true, true, true, true, true, true, true, false, false, false, false, false, false] rfl rfl (one_of HT_.out (by kernel_rfl)) (by decide) (fun K hK => ?_)
            refine R_lit_step (Kd.int .u8) _ 5 ?hg (N := 22) ?hd (xs := ([] : List Int)) (inner := []) (ok := fun _ => True) (okp := fun _ => True) ?hr ?hp (fun _ hk => hk) trivial (Below.refl _ _) (Nat.le_refl _) (by simp) ?_; (case hd => rfl); (case hg => rfl); (case hr => first | (go_simp; done) | (go_simp; rfl)); (case hp => exact (Reps.none _ _))
            intro v240 w27 ho28 hb hg_ hnew_
            clear hg_ hnew_
            (first | rw [← Ny239.out] at ho28 | (simp only [Int.reduceToNat] at ho28; rw [← Ny239.out] at ho28))
            replace HO_231000 := Zh (S_elder' (ZS HO_231000.out) (R_base ho28) hb)
            have HO241 := Zh (R_lower (R_new' ho28 (R_lt (ZR HO238.out))) (below_size Zs))
            replace HO238 := Zh (R_elder' (ZR HO238.out) (R_base ho28) hb)
            replace BK228 := Zh (Zm (g := gb228) (o := .cells #[.slice (some ad231) l0_0.length c0_0] 29 (0, 0)) Zk hb)
            replace BK229 := Zh (Zm (g := gb229) (o := .cells #[.slice none 0 0] 29 (0, 0)) Zk hb)
            replace BK230 := Zh (Zm (g := gb230) (o := .cells #[.slice Ao21 x231000_1.length co21] 29 (0, 0)) Zk hb)
            replace BK232 := Zh (Zm (g := gb232) (o := .cells #[.string ((rd_T74 l0_0 x10_1).f0), .slice A231_1 ((rd_T74 l0_0 x10_1).f1).length c231_1, .slice A231_2 ((rd_T74 l0_0 x10_1).f2).length c231_2] 74 (0, 0)) Zk hb)
            replace HB := Zh (Zl Zs hb)
            clear hb ho28
            refine hK.out _ _ ⟨(blk_cell BK230.out 0).trans rfl, (blk_cell BK232.out 0).trans rfl, (blk_cell BK232.out 1).trans rfl, (blk_cell BK232.out 2).trans rfl⟩ (fun hHeld => ?_)
            clear hK K
            refine norm_ (a' := ?_) ?_ ?_
            rotate_left
            ·
             show Act.put _ (some 22) _ = _
             simp only [Act.put, List.setIfInBounds_toArray, List.set_cons_zero, List.set_cons_succ, i64_w, i32_w]
             rfl
            exact norm_ (by simp only [putAll, Act.put, List.setIfInBounds_toArray, List.set_cons_zero, List.set_cons_succ]) (hCont (v234, v237, v240) _ ⟨hHeld, (ZR (R_mono HO238.out (fun _ hk => hk.2))), (ZR (R_mono HO241.out (fun _ hk => hk.2))), (ZS (S_mono HO_231000.out (fun _ hk => ⟨hk.1.2, ⟨hk.2, hk.1.1⟩⟩))), Zk, Zk, Zk, Zk, Zs⟩)
           skip
           refine R_lit_step (Kd.int .u8) _ 5 ?hg (N := 22) ?hd (xs := ([] : List Int)) (inner := []) (ok := fun _ => True) (okp := fun _ => True) ?hr ?hp (fun _ hk => hk) trivial (Below.refl _ _) (Nat.le_refl _) (by simp) ?_; (case hd => rfl); (case hg => rfl); (case hr => first | (go_simp; done) | (go_simp; rfl)); (case hp => exact (Reps.none _ _))
           intro v240 w26 ho27 hb hg_ hnew_
           clear hg_ hnew_
           (first | rw [← Ny239.out] at ho27 | (simp only [Int.reduceToNat] at ho27; rw [← Ny239.out] at ho27))
           replace HO_231000 := Zh (S_elder' (ZS HO_231000.out) (R_base ho27) hb)
           have HO241 := Zh (R_lower (R_new' ho27 (R_lt (ZR HO235.out))) (below_size Zs))
           replace HO235 := Zh (R_elder' (ZR HO235.out) (R_base ho27) hb)
           replace BK228 := Zh (Zm (g := gb228) (o := .cells #[.slice (some ad231) l0_0.length c0_0] 29 (0, 0)) Zk hb)
           replace BK229 := Zh (Zm (g := gb229) (o := .cells #[.slice none 0 0] 29 (0, 0)) Zk hb)
           replace BK230 := Zh (Zm (g := gb230) (o := .cells #[.slice Ao21 x231000_1.length co21] 29 (0, 0)) Zk hb)
           replace BK232 := Zh (Zm (g := gb232) (o := .cells #[.string ((rd_T74 l0_0 x10_1).f0), .slice A231_1 ((rd_T74 l0_0 x10_1).f1).length c231_1, .slice A231_2 ((rd_T74 l0_0 x10_1).f2).length c231_2] 74 (0, 0)) Zk hb)
           replace HB := Zh (Zl Zs hb)
           clear hb ho27
           refine hK.out _ _ ⟨(blk_cell BK230.out 0).trans rfl, (blk_cell BK232.out 0).trans rfl, (blk_cell BK232.out 1).trans rfl, (blk_cell BK232.out 2).trans rfl⟩ (fun hHeld => ?_)
           clear hK K
           refine norm_ (a' := ?_) ?_ ?_
           rotate_left
           ·
            show Act.put _ (some 22) _ = _
            simp only [Act.put, List.setIfInBounds_toArray, List.set_cons_zero, List.set_cons_succ, i64_w, i32_w]
            rfl
           refine one_ (i := 7) (N := some 21) #[true, true, true, true, true, true, true, true, true, true, true, false, false, false, false, false, false] rfl rfl (one_of HT_.out (by kernel_rfl)) (by decide) (fun K hK => ?_)
           refine R_append_rows_step (Kd.int .u8) (w0 := w) w.heap.size (by rfl) (.tmp 18) (.tmp 20) 33 5 (.int .u8 0) 1 rfl Tryd.underlying33 info5 rfl (by decide) (by omega) v234 y233 ((rd_T74 l0_0 x10_1).f1) _ _ _ (fun k_ => some k_ ≠ (v240 : Value).ownBlock) (fun _ => False) rfl rfl ?aO ?aR (fun _ _ h => h) (fun _ h => h.elim) ?aF ?aB ?aS ?aL ?_
           (case aR => repeat (first | exact (C_below HR231_1.out HB.out) | (with_reducible refine C_alloc ?_ _) | (with_reducible refine C_drewN ?_ _) | (with_reducible refine C_drew ?_)))
           (case aB => exact Zs)
           (case aF => exact (fun k_ hk => Kd.fresh' (R_lt (ZR HO241.out)) k_ hk))
           (case aO => exact (ZR (R_mono HO235.out (fun _ hk => hk.2))))
           (case aS => exact (below_size Zs))
           (case aL => have := LMc13.out; omega)
           intro v237 w28 ho hb hg hat
           rw [← Ny236.out] at ho
           have n0_ := Zh (S_after (ok := (fun k_ => some k_ ≠ (v240 : Value).ownBlock ∧ k_ ≠ gb232)) (ZS (S_mono HO_231000.out (fun _ hk => ⟨⟨hk.2, hk.1.1⟩, hk.1.2⟩))) hg hat)
           have n1_ := Zh (blk_grown (g := gb228) (o := .cells #[.slice (some ad231) l0_0.length c0_0] 29 (0, 0)) Zk hg (R_ne HO235.out BK228.out (by decide)))
           have n2_ := Zh (blk_grown (g := gb229) (o := .cells #[.slice none 0 0] 29 (0, 0)) Zk hg (R_ne HO235.out BK229.out (by decide)))
           have n3_ := Zh (blk_grown (g := gb230) (o := .cells #[.slice Ao21 x231000_1.length co21] 29 (0, 0)) Zk hg (R_ne HO235.out BK230.out (by decide)))
           have n4_ := Zh (blk_grown (g := gb232) (o := .cells #[.string ((rd_T74 l0_0 x10_1).f0), .slice A231_1 ((rd_T74 l0_0 x10_1).f1).length c231_1, .slice A231_2 ((rd_T74 l0_0 x10_1).f2).length c231_2] 74 (0, 0)) Zk hg (R_ne HO235.out BK232.out (by decide)))
           have n5_ := Zh (R_after (ok := (fun _ => True)) (ZR HO241.out) hg hat)
           have n6_ := Zh (hb)
           have n7_ := Zh (ho)
           clear HO_231000
           clear BK228
           clear BK229
           clear BK230
           clear BK232
           clear HO241
           clear HB
           clear HO235
           have HO_231000 := n0_
           have BK228 := n1_
           have BK229 := n2_
           have BK230 := n3_
           have BK232 := n4_
           have HO241 := n5_
           have HB := n6_
           have HO238 := n7_
           clear n0_ n1_ n2_ n3_ n4_ n5_ n6_ n7_
           clear ho hb hg hat
           refine hK.out _ _ ⟨(blk_cell BK230.out 0).trans rfl, (blk_cell BK232.out 0).trans rfl, (blk_cell BK232.out 1).trans rfl, (blk_cell BK232.out 2).trans rfl⟩ (fun hHeld => ?_)
           clear hK K
           refine norm_ (a' := ?_) ?_ ?_
           rotate_left
           ·
            show Act.put _ (some 21) _ = _
            simp only [Act.put, List.setIfInBounds_toArray, List.set_cons_zero, List.set_cons_succ, i64_w, i32_w]
            rfl
           exact norm_ (by simp only [putAll, Act.put, List.setIfInBounds_toArray, List.set_cons_zero, List.set_cons_succ]) (hCont (v234, v237, v240) _ ⟨hHeld, (ZR HO238.out), (ZR (R_mono HO241.out (fun _ hk => hk.2))), (ZS (S_mono HO_231000.out (fun _ hk => ⟨hk.2, ⟨hk.1.1, hk.1.2⟩⟩))), Zk, Zk, Zk, Zk, Zs⟩)
          skip
          refine R_lit_step (Kd.int .u8) _ 5 ?hg (N := 22) ?hd (xs := ([] : List Int)) (inner := []) (ok := fun _ => True) (okp := fun _ => True) ?hr ?hp (fun _ hk => hk) trivial (Below.refl _ _) (Nat.le_refl _) (by simp) ?_; (case hd => rfl); (case hg => rfl); (case hr => first | (go_simp; done) | (go_simp; rfl)); (case hp => exact (Reps.none _ _))
          intro v240 w24 ho25 hb hg_ hnew_
          clear hg_ hnew_
          (first | rw [← Ny239.out] at ho25 | (simp only [Int.reduceToNat] at ho25; rw [← Ny239.out] at ho25))
          replace HO_231000 := Zh (S_elder' (ZS HO_231000.out) (R_base ho25) hb)
          have HO241 := Zh (R_lower ho25 (below_size Zs))
          replace BK228 := Zh (Zm (g := gb228) (o := .cells #[.slice (some ad231) l0_0.length c0_0] 29 (0, 0)) Zk hb)
          replace BK229 := Zh (Zm (g := gb229) (o := .cells #[.slice none 0 0] 29 (0, 0)) Zk hb)
          replace BK230 := Zh (Zm (g := gb230) (o := .cells #[.slice Ao21 x231000_1.length co21] 29 (0, 0)) Zk hb)
          replace BK232 := Zh (Zm (g := gb232) (o := .cells #[.string ((rd_T74 l0_0 x10_1).f0), .slice A231_1 ((rd_T74 l0_0 x10_1).f1).length c231_1, .slice A231_2 ((rd_T74 l0_0 x10_1).f2).length c231_2] 74 (0, 0)) Zk hb)
          replace HB := Zh (Zl Zs hb)
          clear hb ho25
          refine hK.out _ _ ⟨(blk_cell BK230.out 0).trans rfl, (blk_cell BK232.out 0).trans rfl, (blk_cell BK232.out 1).trans rfl, (blk_cell BK232.out 2).trans rfl⟩ (fun hHeld => ?_)
          clear hK K
          refine norm_ (a' := ?_) ?_ ?_
          rotate_left
          ·
           show Act.put _ (some 22) _ = _
           simp only [Act.put, List.setIfInBounds_toArray, List.set_cons_zero, List.set_cons_succ, i64_w, i32_w]
           rfl
          refine one_ (i := 4) (N := some 18) #[true, true, true, true, true, true, true, false, true, true, true, false, false, false, false, false, false] rfl rfl (one_of HT_.out (by kernel_rfl)) (by decide) (fun K hK => ?_)
          refine R_lit_step (Kd.int .u8) _ 5 ?hg (N := 18) ?hd (xs := ([] : List Int)) (inner := []) (ok := fun _ => True) (okp := fun _ => True) ?hr ?hp (fun _ hk => hk) trivial (Below.refl _ _) (Nat.le_refl _) (by simp) ?_; (case hd => rfl); (case hg => rfl); (case hr => first | (go_simp; done) | (go_simp; rfl)); (case hp => exact (Reps.none _ _))
          intro v234 w26 ho27 hb hg_ hnew_
          clear hg_ hnew_
          (first | rw [← Ny233.out] at ho27 | (simp only [Int.reduceToNat] at ho27; rw [← Ny233.out] at ho27))
          replace HO_231000 := Zh (S_elder' (ZS HO_231000.out) (R_base ho27) hb)
          have HO235 := Zh (R_lower (R_new' ho27 (R_lt (ZR HO241.out))) (below_size Zs))
          replace HO241 := Zh (R_elder' (ZR HO241.out) (R_base ho27) hb)
          replace BK228 := Zh (Zm (g := gb228) (o := .cells #[.slice (some ad231) l0_0.length c0_0] 29 (0, 0)) Zk hb)
          replace BK229 := Zh (Zm (g := gb229) (o := .cells #[.slice none 0 0] 29 (0, 0)) Zk hb)
          replace BK230 := Zh (Zm (g := gb230) (o := .cells #[.slice Ao21 x231000_1.length co21] 29 (0, 0)) Zk hb)
          replace BK232 := Zh (Zm (g := gb232) (o := .cells #[.string ((rd_T74 l0_0 x10_1).f0), .slice A231_1 ((rd_T74 l0_0 x10_1).f1).length c231_1, .slice A231_2 ((rd_T74 l0_0 x10_1).f2).length c231_2] 74 (0, 0)) Zk hb)
          replace HB := Zh (Zl Zs hb)
          clear hb ho27
          refine hK.out _ _ ⟨(blk_cell BK230.out 0).trans rfl, (blk_cell BK232.out 0).trans rfl, (blk_cell BK232.out 1).trans rfl, (blk_cell BK232.out 2).trans rfl⟩ (fun hHeld => ?_)
          clear hK K
          refine norm_ (a' := ?_) ?_ ?_
          rotate_left
          ·
           show Act.put _ (some 18) _ = _
           simp only [Act.put, List.setIfInBounds_toArray, List.set_cons_zero, List.set_cons_succ, i64_w, i32_w]
           rfl
          refine one_ (i := 7) (N := some 21) #[true, true, true, true, true, true, true, true, true, true, true, false, false, false, false, false, false] rfl rfl (one_of HT_.out (by kernel_rfl)) (by decide) (fun K hK => ?_)
          refine R_append_rows_step (Kd.int .u8) (w0 := w) w.heap.size (by rfl) (.tmp 18) (.tmp 20) 33 5 (.int .u8 0) 1 rfl Tryd.underlying33 info5 rfl (by decide) (by omega) v234 y233 ((rd_T74 l0_0 x10_1).f1) _ _ _ (fun k_ => some k_ ≠ (v240 : Value).ownBlock) (fun _ => False) rfl rfl ?aO ?aR (fun _ _ h => h) (fun _ h => h.elim) ?aF ?aB ?aS ?aL ?_
          (case aR => repeat (first | exact (C_below HR231_1.out HB.out) | (with_reducible refine C_alloc ?_ _) | (with_reducible refine C_drewN ?_ _) | (with_reducible refine C_drew ?_)))
          (case aB => exact Zs)
          (case aF => exact (fun k_ hk => Kd.fresh' (R_lt (ZR HO241.out)) k_ hk))
          (case aO => exact (ZR (R_mono HO235.out (fun _ hk => hk.2))))
          (case aS => exact (below_size Zs))
          (case aL => have := LMc13.out; omega)
          intro v237 w28 ho hb hg hat
          rw [← Ny236.out] at ho
          have n0_ := Zh (S_after (ok := (fun k_ => some k_ ≠ (v240 : Value).ownBlock ∧ k_ ≠ gb232)) (ZS (S_mono HO_231000.out (fun _ hk => ⟨⟨hk.1.2, hk.1.1⟩, hk.2⟩))) hg hat)
          have n1_ := Zh (blk_grown (g := gb228) (o := .cells #[.slice (some ad231) l0_0.length c0_0] 29 (0, 0)) Zk hg (R_ne HO235.out BK228.out (by decide)))
          have n2_ := Zh (blk_grown (g := gb229) (o := .cells #[.slice none 0 0] 29 (0, 0)) Zk hg (R_ne HO235.out BK229.out (by decide)))
          have n3_ := Zh (blk_grown (g := gb230) (o := .cells #[.slice Ao21 x231000_1.length co21] 29 (0, 0)) Zk hg (R_ne HO235.out BK230.out (by decide)))
          have n4_ := Zh (blk_grown (g := gb232) (o := .cells #[.string ((rd_T74 l0_0 x10_1).f0), .slice A231_1 ((rd_T74 l0_0 x10_1).f1).length c231_1, .slice A231_2 ((rd_T74 l0_0 x10_1).f2).length c231_2] 74 (0, 0)) Zk hg (R_ne HO235.out BK232.out (by decide)))
          have n5_ := Zh (R_after (ok := (fun _ => True)) (ZR HO241.out) hg hat)
          have n6_ := Zh (hb)
          have n7_ := Zh (ho)
          clear HO_231000
          clear BK228
          clear BK229
          clear BK230
          clear BK232
          clear HO241
          clear HB
          clear HO235
          have HO_231000 := n0_
          have BK228 := n1_
          have BK229 := n2_
          have BK230 := n3_
          have BK232 := n4_
          have HO241 := n5_
          have HB := n6_
          have HO238 := n7_
          clear n0_ n1_ n2_ n3_ n4_ n5_ n6_ n7_
          clear ho hb hg hat
          refine hK.out _ _ ⟨(blk_cell BK230.out 0).trans rfl, (blk_cell BK232.out 0).trans rfl, (blk_cell BK232.out 1).trans rfl, (blk_cell BK232.out 2).trans rfl⟩ (fun hHeld => ?_)
          clear hK K
          refine norm_ (a' := ?_) ?_ ?_
          rotate_left
          ·
           show Act.put _ (some 21) _ = _
           simp only [Act.put, List.setIfInBounds_toArray, List.set_cons_zero, List.set_cons_succ, i64_w, i32_w]
           rfl
          exact norm_ (by simp only [putAll, Act.put, List.setIfInBounds_toArray, List.set_cons_zero, List.set_cons_succ]) (hCont (v234, v237, v240) _ ⟨hHeld, (ZR HO238.out), (ZR (R_mono HO241.out (fun _ hk => hk.2))), (ZS (S_mono HO_231000.out (fun _ hk => ⟨hk.2, ⟨hk.1.1, hk.1.2⟩⟩))), Zk, Zk, Zk, Zk, Zs⟩)
         rintro ⟨v234, v237, v240⟩ w29 ⟨hS_, h0_, h1_, h2_, h3_, h4_, h5_, h6_, h7_⟩
         have n0_ : Aside0 (Kd.R (Kd.int .u8) 5 w29 w.heap.size (fun k_ => some k_ ≠ (v240 : Value).ownBlock) v237 y236) := ⟨h0_⟩
         have n1_ : Aside0 (Kd.R (Kd.int .u8) 5 w29 w.heap.size (fun k_ => some k_ ≠ (v237 : Value).ownBlock) v240 y239) := ⟨h1_⟩
         have n2_ : Aside0 (Kd.S k74 74 w29 w.heap.size (fun k_ => some k_ ≠ (v237 : Value).ownBlock ∧ some k_ ≠ (v240 : Value).ownBlock ∧ k_ ≠ gb232) (.slice Ao21 x231000_1.length co21) x231000_1) := ⟨h2_⟩
         have n3_ : Aside0 (w29.heap[gb228]? = some (.cells #[.slice (some ad231) l0_0.length c0_0] 29 (0, 0))) := ⟨h3_⟩
         have n4_ : Aside0 (w29.heap[gb229]? = some (.cells #[.slice none 0 0] 29 (0, 0))) := ⟨h4_⟩
         have n5_ : Aside0 (w29.heap[gb230]? = some (.cells #[.slice Ao21 x231000_1.length co21] 29 (0, 0))) := ⟨h5_⟩
         have n6_ : Aside0 (w29.heap[gb232]? = some (.cells #[.string ((rd_T74 l0_0 x10_1).f0), .slice A231_1 ((rd_T74 l0_0 x10_1).f1).length c231_1, .slice A231_2 ((rd_T74 l0_0 x10_1).f2).length c231_2] 74 (0, 0))) := ⟨h6_⟩
         have n7_ : Aside0 (Below w.heap.size w w29) := ⟨h7_⟩
         clear HO_231000
         clear BK228
         clear BK229
         clear BK230
         clear BK232
         clear HB
         clear h0_ h1_ h2_ h3_ h4_ h5_ h6_ h7_
         have HO238 := n0_
         have HO241 := n1_
         have HO_231000 := n2_
         have BK228 := n3_
         have BK229 := n4_
         have BK230 := n5_
         have BK232 := n6_
         have HB := n7_
         clear n0_ n1_ n2_ n3_ n4_ n5_ n6_ n7_
         have hHeld : w29.cell? ⟨gb230, 0, none⟩ = some (.slice Ao21 x231000_1.length co21) ∧ w29.cell? ⟨gb232, 0, none⟩ = some (.string ((rd_T74 l0_0 x10_1).f0)) ∧ w29.cell? ⟨gb232, 1, none⟩ = some (.slice A231_1 ((rd_T74 l0_0 x10_1).f1).length c231_1) ∧ w29.cell? ⟨gb232, 2, none⟩ = some (.slice A231_2 ((rd_T74 l0_0 x10_1).f2).length c231_2) := hS_
         refine norm_ (a' := ?_) ?_ ?_
         rotate_left
         ·
          simp only [putAll, Act.put, List.setIfInBounds_toArray, List.set_cons_zero, List.set_cons_succ]
          rfl
         refine one_ (i := 11) (N := some 25) #[true, true, true, true, true, true, true, true, true, true, true, true, false, false, false, false, false] rfl rfl (one_of HT_.out (by kernel_rfl)) (by decide) (fun K hK => ?_)
         refine R_append_rows_step (Kd.int .u8) (w0 := w) w.heap.size (by rfl) (.tmp 22) (.tmp 24) 33 5 (.int .u8 0) 1 rfl Tryd.underlying33 info5 rfl (by decide) (by omega) v240 y239 ((rd_T74 l0_0 x10_1).f2) _ _ _ (fun k_ => some k_ ≠ (v237 : Value).ownBlock) (fun _ => False) rfl rfl ?aO ?aR (fun _ _ h => h) (fun _ h => h.elim) ?aF ?aB ?aS ?aL ?_
         (case aR => repeat (first | exact (C_below HR231_2.out HB.out) | (with_reducible refine C_alloc ?_ _) | (with_reducible refine C_drewN ?_ _) | (with_reducible refine C_drew ?_)))
         (case aB => exact Zs)
         (case aF => exact (fun k_ hk => Kd.fresh' (R_lt (ZR HO238.out)) k_ hk))
         (case aO => exact (ZR HO241.out))
         (case aS => exact (below_size Zs))
         (case aL => have := LMc14.out; omega)
         intro v243 w30 ho hb hg hat
         rw [← Ny242.out] at ho
         have n0_ := Zh (S_after (ok := (fun k_ => some k_ ≠ (v237 : Value).ownBlock ∧ k_ ≠ gb232)) (ZS (S_mono HO_231000.out (fun _ hk => ⟨⟨hk.1, hk.2.2⟩, hk.2.1⟩))) hg hat)
         have n1_ := Zh (blk_grown (g := gb228) (o := .cells #[.slice (some ad231) l0_0.length c0_0] 29 (0, 0)) Zk hg (R_ne HO241.out BK228.out (by decide)))
         have n2_ := Zh (blk_grown (g := gb229) (o := .cells #[.slice none 0 0] 29 (0, 0)) Zk hg (R_ne HO241.out BK229.out (by decide)))
         have n3_ := Zh (blk_grown (g := gb230) (o := .cells #[.slice Ao21 x231000_1.length co21] 29 (0, 0)) Zk hg (R_ne HO241.out BK230.out (by decide)))
         have n4_ := Zh (blk_grown (g := gb232) (o := .cells #[.string ((rd_T74 l0_0 x10_1).f0), .slice A231_1 ((rd_T74 l0_0 x10_1).f1).length c231_1, .slice A231_2 ((rd_T74 l0_0 x10_1).f2).length c231_2] 74 (0, 0)) Zk hg (R_ne HO241.out BK232.out (by decide)))
         have n5_ := Zh (R_after (ok := (fun _ => True)) (ZR (R_mono HO238.out (fun _ hk => ⟨trivial, hk⟩))) hg hat)
         have n6_ := Zh (hb)
         have n7_ := Zh (ho)
         clear HO_231000
         clear BK228
         clear BK229
         clear BK230
         clear BK232
         clear HO238
         clear HB
         clear HO241
         have HO_231000 := n0_
         have BK228 := n1_
         have BK229 := n2_
         have BK230 := n3_
         have BK232 := n4_
         have HO238 := n5_
         have HB := n6_
         have HO244 := n7_
         clear n0_ n1_ n2_ n3_ n4_ n5_ n6_ n7_
         clear ho hb hg hat
         obtain ⟨Ao31, co31, eo31⟩ := R_slice HO244.out
         (first | subst eo31 | (injection eo31 with f1_ f2_ f3_; have f4_ := f1_.symm; have f5_ := f3_.symm; clear f1_ f2_ f3_; subst f4_; subst f5_))
         obtain ⟨Ao32, co32, eo32⟩ := R_slice HO238.out
         (first | subst eo32 | (injection eo32 with f1_ f2_ f3_; have f4_ := f1_.symm; have f5_ := f3_.symm; clear f1_ f2_ f3_; subst f4_; subst f5_))
         refine hK.out _ _ ⟨(blk_cell BK230.out 0).trans rfl, (blk_cell BK232.out 0).trans rfl, (blk_cell BK232.out 1).trans rfl, (blk_cell BK232.out 2).trans rfl⟩ (fun hHeld => ?_)
         clear hK K
         refine norm_ (a' := ?_) ?_ ?_
         rotate_left
         ·
          show Act.put _ (some 25) _ = _
          simp only [Act.put, List.setIfInBounds_toArray, List.set_cons_zero, List.set_cons_succ, i64_w, i32_w]
          rfl
         refine SQ.pu 12 26 HT_ ?_
         refine one_ (i := 13) (N := some 27) #[true, true, true, true, true, true, true, true, true, true, true, true, true, true, false, false, false] rfl rfl (one_of HT_.out (by kernel_rfl)) (by decide) (fun K hK => ?_)
         refine value_ (w1 := ?_) (v := ?_) (by rfl) rfl ?_ ?_
         rotate_left 2
         ·
          go_simp
          constructor
          ·
           rfl
          rfl
         refine hK.out _ _ ⟨(blk_cell (blk_alloc BK230.out _) 0).trans rfl, (blk_cell (blk_alloc BK232.out _) 0).trans rfl, (blk_cell (blk_alloc BK232.out _) 1).trans rfl, (blk_cell (blk_alloc BK232.out _) 2).trans rfl⟩ (fun hHeld => ?_)
         clear hK K
         refine norm_ (a' := ?_) ?_ ?_
         rotate_left
         ·
          show Act.put _ (some 27) _ = _
          simp only [Act.put, List.setIfInBounds_toArray, List.set_cons_zero, List.set_cons_succ, i64_w, i32_w]
          rfl
         refine one_ (i := 14) (N := some 28) #[true, true, true, true, true, true, true, true, true, true, true, true, true, true, true, false, false] rfl rfl (one_of HT_.out (by kernel_rfl)) (by decide) (fun K hK => ?_)
         refine S_append_step k74 (w0 := w) w.heap.size (by rfl) (.tmp 15) (.tmp 27) 27 74 (.agg #[(.string ⟨#[]⟩), (.slice none 0 0), (.slice none 0 0)]) 64 rfl Tryd.underlying27 info74 rfl (by decide) (by omega) (.slice Ao21 x231000_1.length co21) x231000_1 (⟨(rd_T74 l0_0 x10_1).f0, y236, y242⟩ : S74) [.string ((rd_T74 l0_0 x10_1).f0), .slice Ao32 y236.length co32, .slice Ao31 y242.length co31] (fun k_ => k_ ≠ gb232) (fun k_ => some k_ = (.slice Ao32 y236.length co32 : Value).ownBlock ∨ some k_ = (.slice Ao31 y242.length co31 : Value).ownBlock) rfl rfl ?aP (fun k_ hk_ => hk_.elim (fun h_ => ((R_mono (ok' := fun k_ => ((fun k_ => k_ ≠ gb232)) k_ ∧ some k_ ≠ (.slice Ao21 x231000_1.length co21 : Value).ownBlock) (R_types (R_apart' (HO238.out) (S_typed HO_231000.out) (by decide)) BK232.out (by decide)) (fun k_ hk => ⟨hk.2, hk.1.2⟩))).1 k_ h_.symm) (fun h_ => ((R_mono (ok' := fun k_ => ((fun k_ => k_ ≠ gb232)) k_ ∧ some k_ ≠ (.slice Ao21 x231000_1.length co21 : Value).ownBlock) (R_types (R_apart' (HO244.out) (S_typed HO_231000.out) (by decide)) BK232.out (by decide)) (fun k_ hk => ⟨hk.2, hk.1.2⟩))).1 k_ h_.symm)) ?aF ?aO ?aB ?aS ?aL ?_
         (case aP => exact k74_mkM _ _ _ (⟨(rd_T74 l0_0 x10_1).f0, y236, y242⟩ : S74) (R_mono (R_tight rfl (R_mono (ok' := fun k_ => ((fun k_ => k_ ≠ gb232)) k_ ∧ some k_ ≠ (.slice Ao21 x231000_1.length co21 : Value).ownBlock) (R_types (R_apart' (HO238.out) (S_typed HO_231000.out) (by decide)) BK232.out (by decide)) (fun k_ hk => ⟨hk.2, hk.1.2⟩))) (fun _ h_ => Or.inl h_)) (R_mono (R_tight rfl (R_mono (ok' := fun k_ => ((fun k_ => k_ ≠ gb232)) k_ ∧ some k_ ≠ (.slice Ao21 x231000_1.length co21 : Value).ownBlock) (R_types (R_apart' (HO244.out) (S_typed HO_231000.out) (by decide)) BK232.out (by decide)) (fun k_ hk => ⟨hk.2, hk.1.2⟩))) (fun _ h_ => Or.inr (h_))) (AP.ne_of (HO238.out) (HO244.out) (by first | exact .inl (fun k_ hk_ => by first | exact hk_ | exact hk_.1 | exact hk_.2 | exact hk_.1.1 | exact hk_.1.2 | exact hk_.2.1 | exact hk_.2.2) | exact .inr (fun k_ hk_ => by first | exact hk_ | exact hk_.1 | exact hk_.2 | exact hk_.1.1 | exact hk_.1.2 | exact hk_.2.1 | exact hk_.2.2))))
         (case aB => exact Zs)
         (case aF => exact (fun k_ hk => Kd.freshB (g := gb232) (o := .cells #[.string ((rd_T74 l0_0 x10_1).f0), .slice A231_1 ((rd_T74 l0_0 x10_1).f1).length c231_1, .slice A231_2 ((rd_T74 l0_0 x10_1).f2).length c231_2] 74 (0, 0)) Zk k_ hk))
         (case aO => exact (ZS (S_mono HO_231000.out (fun k_ hk => ⟨hk.1.2, fun e_ => e_.elim (fun h_ => hk.1.1 h_) (fun h_ => hk.2 h_)⟩))))
         (case aS => exact (below_size Zs))
         (case aL => have := LMc15.out; omega)
         intro v246 w33 ho hb hg hat
         rw [← Ny245.out] at ho
         have n0_ := Zh (blk_grown (g := gb228) (o := .cells #[.slice (some ad231) l0_0.length c0_0] 29 (0, 0)) Zk hg (S_ne HO_231000.out BK228.out (by decide)))
         have n1_ := Zh (blk_grown (g := gb229) (o := .cells #[.slice none 0 0] 29 (0, 0)) Zk hg (S_ne HO_231000.out BK229.out (by decide)))
         have n2_ := Zh (blk_grown (g := gb230) (o := .cells #[.slice Ao21 x231000_1.length co21] 29 (0, 0)) Zk hg (S_ne HO_231000.out BK230.out (by decide)))
         have n3_ := Zh (blk_grown (g := gb232) (o := .cells #[.string ((rd_T74 l0_0 x10_1).f0), .slice A231_1 ((rd_T74 l0_0 x10_1).f1).length c231_1, .slice A231_2 ((rd_T74 l0_0 x10_1).f2).length c231_2] 74 (0, 0)) Zk hg (S_away HO_231000.out (fun _ hk => hk.1.2)))
         have n4_ := Zh (hb)
         have n5_ := Zh (ho)
         clear BK228
         clear BK229
         clear BK230
         clear BK232
         clear HB
         clear HO_231000
         clear HO238
         clear HO244
         have BK228 := n0_
         have BK229 := n1_
         have BK230 := n2_
         have BK232 := n3_
         have HB := n4_
         have HO247 := n5_
         clear n0_ n1_ n2_ n3_ n4_ n5_
         clear ho hb hg hat
         obtain ⟨Ao34, co34, eo34⟩ := S_slice HO247.out
         (first | subst eo34 | (injection eo34 with f1_ f2_ f3_; have f4_ := f1_.symm; have f5_ := f3_.symm; clear f1_ f2_ f3_; subst f4_; subst f5_))
         refine hK.out _ _ ⟨(blk_cell BK230.out 0).trans rfl, (blk_cell BK232.out 0).trans rfl, (blk_cell BK232.out 1).trans rfl, (blk_cell BK232.out 2).trans rfl⟩ (fun hHeld => ?_)
         clear hK K
         refine norm_ (a' := ?_) ?_ ?_
         rotate_left
         ·
          show Act.put _ (some 28) _ = _
          simp only [Act.put, List.setIfInBounds_toArray, List.set_cons_zero, List.set_cons_succ, i64_w, i32_w]
          rfl
         refine SQ.pu 15 29 HT_ ?_
         refine last_ (i := 16) (N := none) #[true, true, true, true, true, true, true, true, true, true, true, true, true, true, true, true, true] rfl rfl (one_of HT_.out (by kernel_rfl)) (by decide) (fun K hK => ?_)
         have hs35 : w33.cell? ⟨gb230, 0, none⟩ = some (.slice Ao21 x231000_1.length co21) := (blk_cell BK230.out 0).trans rfl
         have hfs35 := Zn BK230.out 0
         have hns35_0 := NB228_230.out
         have hns35_1 := NB229_230.out
         have hns35_3 := NB232_230.out
         have hms35_0 := NB230_228.out
         have hms35_1 := NB230_229.out
         have hms35_3 := NB230_232.out
         refine skip_ (w1 := ?_) (by rfl) rfl ?_ ?_
         rotate_left
         ·
          go_simp
          rfl
         refine hK.out _ _ ?_
         clear hK K
         refine done_ (done_of HT_.out (by kernel_rfl)) ?_
         try go_wp2
         go_roundg k1
         case measure => have := HK1.out; omega
         case rel => exact ⟨(wrap64 (x10_1 + 1)), (y245), (.slice Ao34 y245.length co34), (by first | rfl | (simp; done) | (simp [*]; done)), H', ⟨by have := HK1.out; omega⟩, ⟨ZS (S_mono (S_far (p := ⟨gb230, 0, none⟩) (S_types HO247.out BK230.out (by decide)) (fun _ hk => hk.2) (.slice Ao34 y245.length co34)) (fun _ hk => trivial))⟩, ⟨by (with_reducible repeat (first | refine Za ?_ _ | refine Zb ?_ | refine blk_alloc ?_ _)); refine blk_far ?_ NB228_230.out _; (with_reducible repeat (first | refine Za ?_ _ | refine Zb ?_ | refine blk_alloc ?_ _)); exact BK228.out⟩, ⟨by (with_reducible repeat (first | refine Za ?_ _ | refine Zb ?_ | refine blk_alloc ?_ _)); refine blk_far ?_ NB229_230.out _; (with_reducible repeat (first | refine Za ?_ _ | refine Zb ?_ | refine blk_alloc ?_ _)); exact BK229.out⟩, ⟨by (with_reducible repeat (first | refine Za ?_ _ | refine Zb ?_ | refine blk_alloc ?_ _)); refine blk_put (cs := #[.slice Ao21 x231000_1.length co21]) ?_ 0 _ rfl; (with_reducible repeat (first | refine Za ?_ _ | refine Zb ?_ | refine blk_alloc ?_ _)); exact BK230.out⟩, ⟨Zs⟩⟩
        rw [if_neg c15] at H
        exact absurd H (by simp)
       rw [if_neg c14] at H
       exact absurd H (by simp)
      rw [if_neg c13] at H
      exact absurd H (by simp)
     rw [if_neg c12] at H
     exact absurd H (by simp)
    rw [if_neg c11] at H
    exact absurd H (by simp)
   rw [if_neg c10] at H
   have c10b0 : decide (x10_1 < (l0_0.length : Int)) = false := decide_eq_false c10
   clear c10
   obtain rfl := Option.some.inj H
   have hnb36 := NB230_228.out
   have hnc36 := NB228_230.out
   have hnb37 := NB230_229.out
   have hnc37 := NB229_230.out
   have hcz38_0 : wr.cell? ⟨gb230, 0, none⟩ = some (u231000) := (blk_cell BK230.out 0).trans rfl
   have hfz38_0 := Zn BK230.out 0
   obtain ⟨Ao39, co39, eo39⟩ := S_slice HO_231000.out
   subst eo39
   have hnb40 := NB229_228.out
   have hnc40 := NB228_229.out
   have hcz41_0 : wr.cell? ⟨gb229, 0, none⟩ = some (.slice none 0 0) := (blk_cell BK229.out 0).trans rfl
   have hfz41_0 := Zn BK229.out 0
   go_wp2
   refine Zq (results_cell_row rfl _ _ gb229 29 #[.slice Ao39 x231000_1.length co39] (0, 0) _ rfl (by (with_reducible repeat (first | refine Za ?_ _ | refine Zb ?_ | refine blk_alloc ?_ _)); refine blk_put (cs := #[.slice none 0 0]) ?_ 0 _ rfl; (with_reducible repeat (first | refine Za ?_ _ | refine Zb ?_ | refine blk_alloc ?_ _)); exact BK229.out) Tryd.underlying29 rfl (by kernel_rfl)) rfl ?_
   exact ⟨_, ZE, ZS (S_mono (S_far (p := ⟨gb229, 0, none⟩) (S_types HO_231000.out BK229.out (by decide)) (fun _ hk => hk.2) (.slice Ao39 x231000_1.length co39)) (fun _ hk => trivial)), Zs⟩
end Go.Proofs.YtmgeffgcihfpcaaDoor.F

namespace Go.Proofs.YtmgeffgcihfpcaaDoor.F
open Go.RowKit Go.Proofs.YtmgeffgcihfpcaaDoorW.PrintWords Go.Proofs.YtmgeffgcihfpcaaDoorW.PrintLast Go.Proofs.YtmgeffgcihfpcaaDoorW.PrintMore
set_option linter.unusedVariables false
def lays160_ren : Go.Shelf.Ren := ⟨fun | 160 => 104 | 232 => 110 | 231 => 109 | 227 => 111 | 234 => 113 | 233 => 112 | 236 => 115 | 235 => 114 | 228 => 118 | 271 => 121 | 151 => 120 | 197 => 119 | 120 => 125 | 152 => 124 | 260 => 123 | 137 => 127 | 119 => 128 | 224 => 129 | 225 => 130 | 217 => 131 | 266 => 132 | n => n, fun | 9 => 9 | 4 => 4 | 3 => 3 | 5 => 5 | 117 => 122 | 116 => 121 | 0 => 0 | 124 => 125 | 21 => 21 | 105 => 129 | 46 => 127 | 119 => 134 | 139 => 137 | 138 => 136 | n => n, fun | 3 => 0 | 4 => 1 | n => n⟩
theorem lays160 : Go.Proofs.Lays.n160 Tryd.prog lays160_ren where
  mixed := by kernel_rfl
  f119 := Tryd.func128.trans (congrArg some (by kernel_rfl))
  f120 := Tryd.func125.trans (congrArg some (by kernel_rfl))
  f137 := Tryd.func127.trans (congrArg some (by kernel_rfl))
  f151 := Tryd.func120.trans (congrArg some (by kernel_rfl))
  f152 := Tryd.func124.trans (congrArg some (by kernel_rfl))
  f160 := Tryd.func104.trans (congrArg some (by kernel_rfl))
  f197 := Tryd.func119.trans (congrArg some (by kernel_rfl))
  f217 := Tryd.func131.trans (congrArg some (by kernel_rfl))
  f224 := Tryd.func129.trans (congrArg some (by kernel_rfl))
  f225 := Tryd.func130.trans (congrArg some (by kernel_rfl))
  f227 := Tryd.func111.trans (congrArg some (by kernel_rfl))
  f228 := Tryd.func118.trans (congrArg some (by kernel_rfl))
  f231 := Tryd.func109.trans (congrArg some (by kernel_rfl))
  f232 := Tryd.func110.trans (congrArg some (by kernel_rfl))
  f233 := Tryd.func112.trans (congrArg some (by kernel_rfl))
  f234 := Tryd.func113.trans (congrArg some (by kernel_rfl))
  f235 := Tryd.func114.trans (congrArg some (by kernel_rfl))
  f236 := Tryd.func115.trans (congrArg some (by kernel_rfl))
  f260 := Tryd.func123.trans (congrArg some (by kernel_rfl))
  f266 := Tryd.func132.trans (congrArg some (by kernel_rfl))
  f271 := Tryd.func121.trans (congrArg some (by kernel_rfl))
  t0 := Tryd.underlying0
  a0 := Tryd.isAgg0
  z0 := Tryd.sizeOf0
  v0 := Tryd.zeroValue0
  t3 := Tryd.underlying3
  a3 := Tryd.isAgg3
  z3 := Tryd.sizeOf3
  v3 := Tryd.zeroValue3
  t4 := Tryd.underlying4
  a4 := Tryd.isAgg4
  z4 := Tryd.sizeOf4
  v4 := Tryd.zeroValue4
  t5 := Tryd.underlying5
  a5 := Tryd.isAgg5
  z5 := Tryd.sizeOf5
  v5 := Tryd.zeroValue5
  t9 := Tryd.underlying9
  a9 := Tryd.isAgg9
  z9 := Tryd.sizeOf9
  v9 := Tryd.zeroValue9
  t21 := Tryd.underlying21
  a21 := Tryd.isAgg21
  z21 := Tryd.sizeOf21
  v21 := Tryd.zeroValue21
  t46 := Tryd.underlying127
  a46 := Tryd.isAgg127
  z46 := Tryd.sizeOf127
  v46 := Tryd.zeroValue127
  t105 := Tryd.underlying129
  a105 := Tryd.isAgg129
  z105 := Tryd.sizeOf129
  v105 := Tryd.zeroValue129
  t116 := Tryd.underlying121
  a116 := Tryd.isAgg121
  z116 := Tryd.sizeOf121
  t117 := Tryd.underlying122
  a117 := Tryd.isAgg122
  z117 := Tryd.sizeOf122
  v117 := Tryd.zeroValue122
  t119 := Tryd.underlying134
  a119 := Tryd.isAgg134
  z119 := Tryd.sizeOf134
  t124 := Tryd.underlying125
  a124 := Tryd.isAgg125
  z124 := Tryd.sizeOf125
  v124 := Tryd.zeroValue125
  t138 := Tryd.underlying136
  a138 := Tryd.isAgg136
  z138 := Tryd.sizeOf136
  v138 := Tryd.zeroValue136
  t139 := Tryd.underlying137
  a139 := Tryd.isAgg137
  z139 := Tryd.sizeOf137
  v139 := Tryd.zeroValue137
  g3 := by kernel_rfl
  g4 := by kernel_rfl
def trimF.f (s c : ByteArray) : Option ByteArray := if s.size ≤ 9223372036854775807 ∧ c.size < 4294967281 ∧ c.data.toList.all (fun b => decide (b.toNat < 128)) = true then some ⟨(Go.Lib.trimS s.data.toList c.data.toList).toArray⟩ else none
theorem trimF.calls (a0 a1 : ByteArray) (r : ByteArray) (w : World) (h : trimF.f a0 a1 = some r) :
    Calls Tryd.prog 104 #[.string a0, .string a1] w fun e w' => e = .returned (.string r) ∧ Below w.heap.size w w' := by
  unfold trimF.f at h
  split at h
  · rename_i hc
    have h := Option.some.inj h
    subst h
    exact Any.strings_Trim_laid lays160 (by kernel_rfl) a0 a1 w hc.1 hc.2.1 (ascii_of_all hc.2.2)
  cases h
end Go.Proofs.YtmgeffgcihfpcaaDoor.F

namespace Go.Proofs.YtmgeffgcihfpcaaDoor.F
open Go.RowKit Go.Proofs.YtmgeffgcihfpcaaDoorW.PrintWords Go.Proofs.YtmgeffgcihfpcaaDoorW.PrintWords.Kd Go.Proofs.YtmgeffgcihfpcaaDoorW.PrintMore.Kd Go.Proofs.YtmgeffgcihfpcaaDoorW.PrintLast Go.Proofs.YtmgeffgcihfpcaaDoorW.PrintMore
attribute [local go_sem] max2_int min2_int max_two min_two max_three min_three max_four min_four   -- for this text's walks alone
set_option linter.unusedVariables false
set_option linter.unusedSimpArgs false
def impl_isFileName.f (a0 : ByteArray) : Option (Bool) := if (a0.size : Int) ≥ 1 then (if (a0.size : Int) ≤ 12 then ((trimF.f a0 (⟨#[97, 98, 99, 100, 101, 102, 103, 104, 105, 106, 107, 108, 109, 110, 111, 112, 113, 114, 115, 116, 117, 118, 119, 120, 121, 122, 48, 49, 50, 51, 52, 53, 54, 55, 56, 57]⟩ : ByteArray)).bind fun t142 => (some (t142.toList == ([] : List UInt8)))) else (some false)) else (some false)
set_option maxHeartbeats 8000000 in
set_option maxRecDepth 100000 in
theorem impl_isFileName.calls (a0 : ByteArray) (r : Bool) (w : World) (h : impl_isFileName.f a0 = some r) :
  Calls Tryd.prog 91 #[.string a0] w fun e w' => e = .returned (.bool r) ∧ Below w.heap.size w w' := by
 have HB := Zh (Below.refl w.heap.size w)
 have H : (if (a0.size : Int) ≥ 1 then (if (a0.size : Int) ≤ 12 then ((trimF.f a0 (⟨#[97, 98, 99, 100, 101, 102, 103, 104, 105, 106, 107, 108, 109, 110, 111, 112, 113, 114, 115, 116, 117, 118, 119, 120, 121, 122, 48, 49, 50, 51, 52, 53, 54, 55, 56, 57]⟩ : ByteArray)).bind fun t142 => (some (t142.toList == ([] : List UInt8)))) else (some false)) else (some false)) = some r := h
 clear h
 by_cases c2 : (a0.size : Int) ≥ 1
 ·
  rw [if_pos c2] at H
  have c2b0 : decide (1 ≤ (a0.size : Int)) = true := decide_eq_true c2
  have c2b1 : decide (1 ≤ a0.size) = true := decide_eq_true (by omega)
  clear c2
  by_cases c3 : (a0.size : Int) ≤ 12
  ·
   rw [if_pos c3] at H
   have c3b0 : decide ((a0.size : Int) ≤ 12) = true := decide_eq_true c3
   have c3b1 : decide (a0.size ≤ 12) = true := decide_eq_true (by omega)
   clear c3
   replace H := Option.bind_eq_some_iff.mp H
   obtain ⟨t142, A40, H⟩ := H
   replace H : (some (t142.toList == ([] : List UInt8))) = some r := H
   have A4 := Zh A40
   clear A40
   obtain rfl := Option.some.inj H
   go_enter Tryd.func91, Tryd.ntmps91
   go_wp2_with (first | (go_at_call 104; (with_reducible refine (trimF.calls a0 (⟨#[97, 98, 99, 100, 101, 102, 103, 104, 105, 106, 107, 108, 109, 110, 111, 112, 113, 114, 115, 116, 117, 118, 119, 120, 121, 122, 48, 49, 50, 51, 52, 53, 54, 55, 56, 57]⟩ : ByteArray) t142 _ A4.out).mono ?_); rintro e w5 ⟨rfl, hb⟩; replace HB := Zh (Zl Zs hb); (try clear hb); (try clear hb2); (try clear hk); (try clear hi)))
   go_ret
   exact ⟨ZE, Zs⟩
  rw [if_neg c3] at H
  have c3b0 : decide ((a0.size : Int) ≤ 12) = false := decide_eq_false c3
  have c3b1 : decide (a0.size ≤ 12) = false := decide_eq_false (by omega)
  clear c3
  obtain rfl := Option.some.inj H
  go_enter Tryd.func91, Tryd.ntmps91
  go_wp2
  go_ret
  exact ⟨ZE, Zs⟩
 rw [if_neg c2] at H
 have c2b0 : decide (1 ≤ (a0.size : Int)) = false := decide_eq_false c2
 have c2b1 : decide (1 ≤ a0.size) = false := decide_eq_false (by omega)
 clear c2
 obtain rfl := Option.some.inj H
 go_enter Tryd.func91, Tryd.ntmps91
 go_wp2
 go_ret
 exact ⟨ZE, Zs⟩
end Go.Proofs.YtmgeffgcihfpcaaDoor.F

namespace Go.Proofs.YtmgeffgcihfpcaaDoor.F
open Go.RowKit Go.Proofs.YtmgeffgcihfpcaaDoorW.PrintWords Go.Proofs.YtmgeffgcihfpcaaDoorW.PrintLast Go.Proofs.YtmgeffgcihfpcaaDoorW.PrintMore
open Go.Proofs.YtmgeffgcihfpcaaDoor
set_option linter.unusedVariables false
set_option linter.unusedSimpArgs false
def impl_isDisk.l0 : Nat → List (S74) → Int → Int → List (S74) → Option (Bool)
  | 0, _, _, _, _ => none
  | k + 1, x6, x7, x8, x => if x8 < x7 then (if 0 ≤ x8 then (if x8 < (x6.length : Int) then ((impl_isFileName.f ((rd_T74 x6 x8).f0)).bind fun t151 => (if t151 = true then (if (wrap64 ((((rd_T74 x6 x8).f1).length : Int) + (((rd_T74 x6 x8).f2).length : Int))) > 20000 then (some false) else (if x8 > 0 then (if 0 ≤ (wrap64 (x8 - 1)) then (if (wrap64 (x8 - 1)) < (x.length : Int) then (if ((Op.bytesLess (((rd_T74 x (wrap64 (x8 - 1))).f0).toList) (((rd_T74 x6 x8).f0).toList)) = true) then (impl_isDisk.l0 k x6 x7 (wrap64 (x8 + 1)) x) else (some false)) else (none)) else (none)) else (impl_isDisk.l0 k x6 x7 (wrap64 (x8 + 1)) x))) else (some false))) else (none)) else (none)) else (some (decide ((x.length : Int) ≤ 8)))
def impl_isDisk.f (k : Nat) (l0_0 : List (S74)) : Option (Bool) := impl_isDisk.l0 k l0_0 (l0_0.length : Int) 0 l0_0
set_option maxHeartbeats 8000000 in
set_option maxRecDepth 100000 in
theorem impl_isDisk.calls (k : Nat) (A0_0 : Option Addr) (c0_0 : Nat) (l0_0 : List (S74)) (r : Bool) (w : World) (hr0_0 : Kd.C k74 w A0_0 l0_0.length l0_0) (hc0_0 : l0_0.length ≤ c0_0) (h : impl_isDisk.f k l0_0 = some r) :
    Calls Tryd.prog 59 #[.agg #[.slice A0_0 l0_0.length c0_0]] w fun e w' => e = .returned (.bool r) ∧ Below w.heap.size w w' := by
  have HR := Zh hr0_0
  clear hr0_0 hc0_0
  have ST := Zh (LW.St.start w)
  have hu29 := Tryd.underlying29
  have hu74 := Tryd.underlying74
  have H := Zh (show impl_isDisk.l0 k l0_0 (l0_0.length : Int) 0 l0_0 = some r from h)
  clear h
  go_enter Tryd.func59, Tryd.ntmps59
  go_wp2_with fail
  replace ST := Zh (ST.out.alloc #[.slice A0_0 l0_0.length c0_0] 29 (g := w.heap.size) rfl)
  generalize hW : (w.alloc (.cells #[.slice A0_0 l0_0.length c0_0] 29)) = W at ST ⊢
  clear hW
  go_loopg [8] k (fun kq v8 w' => ∃ (x8 : Int), v8 = .int .i64 x8 ∧ Aside0 (impl_isDisk.l0 kq l0_0 (l0_0.length : Int) x8 l0_0 = some r) ∧ Aside0 (LW.St w w' [LW.box w.heap.size #[.slice A0_0 l0_0.length c0_0] 29]))
  case atStart => exact ⟨0, rfl, H, ST⟩
  case round =>
    clear H ST
    obtain ⟨x8, rfl, HA, ST⟩ := hrel
    cases gk with
    | zero => exact absurd HA.out (by simp [impl_isDisk.l0])
    | succ k1 =>
      have H := HA.out
      clear HA
      simp only [impl_isDisk.l0] at H
      by_cases c8 : x8 < (l0_0.length : Int)
      · rw [if_pos c8] at H
        have q8 := decide_eq_true c8
        by_cases p0 : 0 ≤ x8
        · rw [if_pos p0, if_pos c8] at H
          obtain ⟨t, A7, H⟩ := Option.bind_eq_some_iff.mp H
          replace A7 := Zh A7
          obtain ⟨ad, B1, d1, B2, d2, e, E0, E1, E2, _, _, _, _⟩ := at_T74 HR.out x8 p0 c8
          cases e
          have hx0 := (ST.out.b.cell (Zi w _ E0)).trans E0
          have hx1 := (ST.out.b.cell (Zi w _ E1)).trans E1
          have hx2 := (ST.out.b.cell (Zi w _ E2)).trans E2
          have p1 := eq_true p0
          have p2 := eq_true c8
          clear E0 E1 E2 p0 c8
          go_wp2_with fail
          replace ST := Zh (ST.out.alloc #[.string (rd_T74 l0_0 x8).f0, .slice B1 (rd_T74 l0_0 x8).f1.length d1, .slice B2 (rd_T74 l0_0 x8).f2.length d2] 74 (g := wr.heap.size) rfl)
          clear hx0 hx1 hx2
          cases t with
          | false =>
            rw [if_neg (by decide)] at H
            obtain rfl := Option.some.inj H
            clear H
            replace ST := Zh ST.out.drew
            refine start_ (n := 30) (S := fun w' => w'.cell? ⟨wr.heap.size, 0, none⟩ = some (.string (rd_T74 l0_0 x8).f0) ∧ w'.cell? ⟨wr.heap.size, 1, none⟩ = some (.slice B1 (rd_T74 l0_0 x8).f1.length d1) ∧ w'.cell? ⟨wr.heap.size, 2, none⟩ = some (.slice B2 (rd_T74 l0_0 x8).f2.length d2)) (ds := []) #[false, false, false, false, false, false, false, false, false, false, false, false, false, false, false, false, false, false, false, false, false, false, false, false, false, false, false, false, false, false] (by kernel_rfl) rfl rfl ⟨ST.out.cell 0 rfl 0 rfl, ST.out.cell 0 rfl 1 rfl, ST.out.cell 0 rfl 2 rfl⟩ (fun hHeld => ?_)
            generalize (wr.alloc (.cells #[.string (rd_T74 l0_0 x8).f0, .slice B1 (rd_T74 l0_0 x8).f1.length d1, .slice B2 (rd_T74 l0_0 x8).f2.length d2] 74)).drew = w8 at ST hHeld ⊢
            refine SQ.p0 0 13 ?_
            refine SQ.t0 1 14 hHeld ?_
            refine one_ (i := 2) (N := some 15) #[true, true, true, false, false, false, false, false, false, false, false, false, false, false, false, false, false, false, false, false, false, false, false, false, false, false, false, false, false, false] rfl rfl (by kernel_rfl) (by decide) (fun K hK => ?_)
            refine goes_ Tryd.func91 (by kernel_rfl) rfl #[.string (rd_T74 l0_0 x8).f0] (by rfl) rfl rfl (by (try simp only [List.map_toArray, List.map_cons, List.map_nil]); first | done | rfl) ?_
            with_reducible refine (impl_isFileName.calls (rd_T74 l0_0 x8).f0 _ _ A7.out).mono ?_
            rintro e w9 ⟨rfl, hb⟩
            refine ⟨_, rfl, ?_⟩
            replace ST := Zh (ST.out.step hb)
            clear hb hHeld
            refine hK.out _ _ ⟨ST.out.cell 0 rfl 0 rfl, ST.out.cell 0 rfl 1 rfl, ST.out.cell 0 rfl 2 rfl⟩ (fun hHeld => ?_)
            clear hK K
            refine norm_ (a' := ?_) ?_ ?_
            rotate_left
            · show Act.put _ (some 15) _ = _
              simp only [Act.put, List.setIfInBounds_toArray, List.set_cons_zero, List.set_cons_succ, i64_w, i32_w]
              rfl
            refine SQ.p0 3 16 ?_
            refine SQ.p0 4 17 ?_
            refine SQ.o0 5 18 ?_
            refine SQ.o0 6 19 ?_
            refine SQ.o0 7 20 ?_
            refine SQ.o0 8 21 ?_
            refine SQ.o0 9 22 ?_
            refine SQ.o0 10 23 ?_
            refine SQ.o0 11 24 ?_
            refine SQ.o0 12 25 ?_
            refine SQ.p0 13 26 ?_
            refine SQ.p0 14 27 ?_
            refine SQ.o0 15 28 ?_
            refine SQ.o0 16 29 ?_
            refine SQ.o0 17 30 ?_
            refine SQ.o0 18 31 ?_
            refine SQ.o0 19 32 ?_
            refine SQ.o0 20 33 ?_
            refine SQ.o0 21 34 ?_
            refine SQ.o0 22 35 ?_
            refine SQ.o0 23 36 ?_
            refine SQ.o0 24 37 ?_
            refine SQ.o0 25 38 ?_
            refine SQ.o0 26 39 ?_
            refine SQ.o0 27 40 ?_
            refine SQ.o0 28 41 ?_
            refine SQ.p0 29 42 ?_
            refine done_ (by kernel_rfl) ?_
            clear hHeld
            go_wp2
            go_ret
            exact ⟨rfl, ST.out.b⟩
          | true =>
            rw [if_pos rfl] at H
            by_cases c9 : (wrap64 ((((rd_T74 l0_0 x8).f1).length : Int) + (((rd_T74 l0_0 x8).f2).length : Int))) > 20000
            · rw [if_pos c9] at H
              obtain rfl := Option.some.inj H
              have q9 : decide (20000 < wrap64 ((((rd_T74 l0_0 x8).f1).length : Int) + (((rd_T74 l0_0 x8).f2).length : Int))) = true := decide_eq_true c9
              clear H c9
              replace ST := Zh ST.out.drew
              refine start_ (n := 30) (S := fun w' => w'.cell? ⟨wr.heap.size, 0, none⟩ = some (.string (rd_T74 l0_0 x8).f0) ∧ w'.cell? ⟨wr.heap.size, 1, none⟩ = some (.slice B1 (rd_T74 l0_0 x8).f1.length d1) ∧ w'.cell? ⟨wr.heap.size, 2, none⟩ = some (.slice B2 (rd_T74 l0_0 x8).f2.length d2)) (ds := []) #[false, false, false, false, false, false, false, false, false, false, false, false, false, false, false, false, false, false, false, false, false, false, false, false, false, false, false, false, false, false] (by kernel_rfl) rfl rfl ⟨ST.out.cell 0 rfl 0 rfl, ST.out.cell 0 rfl 1 rfl, ST.out.cell 0 rfl 2 rfl⟩ (fun hHeld => ?_)
              generalize (wr.alloc (.cells #[.string (rd_T74 l0_0 x8).f0, .slice B1 (rd_T74 l0_0 x8).f1.length d1, .slice B2 (rd_T74 l0_0 x8).f2.length d2] 74)).drew = w8 at ST hHeld ⊢
              refine SQ.p0 0 13 ?_
              refine SQ.t0 1 14 hHeld ?_
              refine one_ (i := 2) (N := some 15) #[true, true, true, false, false, false, false, false, false, false, false, false, false, false, false, false, false, false, false, false, false, false, false, false, false, false, false, false, false, false] rfl rfl (by kernel_rfl) (by decide) (fun K hK => ?_)
              refine goes_ Tryd.func91 (by kernel_rfl) rfl #[.string (rd_T74 l0_0 x8).f0] (by rfl) rfl rfl (by (try simp only [List.map_toArray, List.map_cons, List.map_nil]); first | done | rfl) ?_
              with_reducible refine (impl_isFileName.calls (rd_T74 l0_0 x8).f0 _ _ A7.out).mono ?_
              rintro e w9 ⟨rfl, hb⟩
              refine ⟨_, rfl, ?_⟩
              replace ST := Zh (ST.out.step hb)
              clear hb hHeld
              refine hK.out _ _ ⟨ST.out.cell 0 rfl 0 rfl, ST.out.cell 0 rfl 1 rfl, ST.out.cell 0 rfl 2 rfl⟩ (fun hHeld => ?_)
              clear hK K
              refine norm_ (a' := ?_) ?_ ?_
              rotate_left
              · show Act.put _ (some 15) _ = _
                simp only [Act.put, List.setIfInBounds_toArray, List.set_cons_zero, List.set_cons_succ, i64_w, i32_w]
                rfl
              refine SQ.p0 3 16 ?_
              refine SQ.p0 4 17 ?_
              refine SQ.p0 5 18 ?_
              refine SQ.t0 6 19 hHeld ?_
              refine SQ.p0 7 20 ?_
              refine SQ.p0 8 21 ?_
              refine SQ.t0 9 22 hHeld ?_
              refine SQ.p0 10 23 ?_
              refine SQ.p0 11 24 ?_
              refine SQ.p0 12 25 ?_
              refine SQ.p0 13 26 ?_
              refine SQ.p0 14 27 ?_
              refine SQ.o0 15 28 ?_
              refine SQ.o0 16 29 ?_
              refine SQ.o0 17 30 ?_
              refine SQ.o0 18 31 ?_
              refine SQ.o0 19 32 ?_
              refine SQ.o0 20 33 ?_
              refine SQ.o0 21 34 ?_
              refine SQ.o0 22 35 ?_
              refine SQ.o0 23 36 ?_
              refine SQ.o0 24 37 ?_
              refine SQ.o0 25 38 ?_
              refine SQ.o0 26 39 ?_
              refine SQ.o0 27 40 ?_
              refine SQ.o0 28 41 ?_
              refine SQ.p0 29 42 ?_
              refine done_ (by kernel_rfl) ?_
              clear hHeld
              go_wp2
              go_ret
              exact ⟨rfl, ST.out.b⟩
            rw [if_neg c9] at H
            have q9 : decide (20000 < wrap64 ((((rd_T74 l0_0 x8).f1).length : Int) + (((rd_T74 l0_0 x8).f2).length : Int))) = false := decide_eq_false c9
            clear c9
            by_cases c10 : x8 > 0
            · rw [if_pos c10] at H
              have q10 : decide (0 < x8) = true := decide_eq_true c10
              clear c10
              by_cases c11 : 0 ≤ wrap64 (x8 - 1)
              · rw [if_pos c11] at H
                by_cases c12 : wrap64 (x8 - 1) < (l0_0.length : Int)
                · rw [if_pos c12] at H
                  obtain ⟨ad2, B3, d3, B4, d4, e, E0, _, _, _, _, _, _⟩ := at_T74 HR.out (wrap64 (x8 - 1)) c11 c12
                  cases e
                  have HP := Zh E0
                  have p3 := eq_true c11
                  have p4 := eq_true c12
                  clear E0 c11 c12
                  replace ST := Zh ST.out.drew
                  refine start_ (n := 30) (S := fun w' => w'.cell? ⟨wr.heap.size, 0, none⟩ = some (.string (rd_T74 l0_0 x8).f0) ∧ w'.cell? ⟨wr.heap.size, 1, none⟩ = some (.slice B1 (rd_T74 l0_0 x8).f1.length d1) ∧ w'.cell? ⟨wr.heap.size, 2, none⟩ = some (.slice B2 (rd_T74 l0_0 x8).f2.length d2) ∧ w'.cell? ⟨w.heap.size, 0, none⟩ = some (.slice (some ad) l0_0.length c0_0) ∧ w'.cell? (ad.add ((wrap64 (x8 - 1)).toNat * 3)) = some (.string (rd_T74 l0_0 (wrap64 (x8 - 1))).f0)) (ds := []) #[false, false, false, false, false, false, false, false, false, false, false, false, false, false, false, false, false, false, false, false, false, false, false, false, false, false, false, false, false, false] (by kernel_rfl) rfl rfl ⟨ST.out.cell 0 rfl 0 rfl, ST.out.cell 0 rfl 1 rfl, ST.out.cell 0 rfl 2 rfl, ST.out.cell 1 rfl 0 rfl, (ST.out.b.cell (Zi w _ HP.out)).trans HP.out⟩ (fun hHeld => ?_)
                  generalize (wr.alloc (.cells #[.string (rd_T74 l0_0 x8).f0, .slice B1 (rd_T74 l0_0 x8).f1.length d1, .slice B2 (rd_T74 l0_0 x8).f2.length d2] 74)).drew = w8 at ST hHeld ⊢
                  refine SQ.p0 0 13 ?_
                  refine SQ.t0 1 14 hHeld ?_
                  refine one_ (i := 2) (N := some 15) #[true, true, true, false, false, false, false, false, false, false, false, false, false, false, false, false, false, false, false, false, false, false, false, false, false, false, false, false, false, false] rfl rfl (by kernel_rfl) (by decide) (fun K hK => ?_)
                  refine goes_ Tryd.func91 (by kernel_rfl) rfl #[.string (rd_T74 l0_0 x8).f0] (by rfl) rfl rfl (by (try simp only [List.map_toArray, List.map_cons, List.map_nil]); first | done | rfl) ?_
                  with_reducible refine (impl_isFileName.calls (rd_T74 l0_0 x8).f0 _ _ A7.out).mono ?_
                  rintro e w9 ⟨rfl, hb⟩
                  refine ⟨_, rfl, ?_⟩
                  replace ST := Zh (ST.out.step hb)
                  clear hb hHeld
                  refine hK.out _ _ ⟨ST.out.cell 0 rfl 0 rfl, ST.out.cell 0 rfl 1 rfl, ST.out.cell 0 rfl 2 rfl, ST.out.cell 1 rfl 0 rfl, (ST.out.b.cell (Zi w _ HP.out)).trans HP.out⟩ (fun hHeld => ?_)
                  clear hK K
                  refine norm_ (a' := ?_) ?_ ?_
                  rotate_left
                  · show Act.put _ (some 15) _ = _
                    simp only [Act.put, List.setIfInBounds_toArray, List.set_cons_zero, List.set_cons_succ, i64_w, i32_w]
                    rfl
                  refine SQ.p0 3 16 ?_
                  refine SQ.p0 4 17 ?_
                  refine SQ.p0 5 18 ?_
                  refine SQ.t0 6 19 hHeld ?_
                  refine SQ.p0 7 20 ?_
                  refine SQ.p0 8 21 ?_
                  refine SQ.t0 9 22 hHeld ?_
                  refine SQ.p0 10 23 ?_
                  refine SQ.p0 11 24 ?_
                  refine SQ.p0 12 25 ?_
                  refine SQ.p0 13 26 ?_
                  refine SQ.p0 14 27 ?_
                  refine SQ.p0 15 28 ?_
                  refine SQ.p0 16 29 ?_
                  refine SQ.p0 17 30 ?_
                  refine SQ.p0 18 31 ?_
                  refine SQ.t0 19 32 hHeld ?_
                  refine SQ.p0 20 33 ?_
                  refine SQ.p0 21 34 ?_
                  refine SQ.p0 22 35 ?_
                  refine SQ.p0 23 36 ?_
                  refine SQ.t0 24 37 hHeld ?_
                  refine SQ.p0 25 38 ?_
                  refine SQ.t0 26 39 hHeld ?_
                  refine SQ.p0 27 40 ?_
                  refine SQ.p0 28 41 ?_
                  refine SQ.p0 29 42 ?_
                  refine done_ (by kernel_rfl) ?_
                  clear hHeld
                  cases hl : Op.bytesLess (rd_T74 l0_0 (wrap64 (x8 - 1))).f0.toList (rd_T74 l0_0 x8).f0.toList with
                  | true =>
                    rw [if_pos hl] at H
                    have H' := Zh H
                    clear H
                    go_wp2
                    go_roundg k1
                    case measure => omega
                    case rel => exact ⟨_, rfl, H', ⟨ST.out.tail⟩⟩
                  | false =>
                    rw [if_neg (by rw [hl]; decide)] at H
                    obtain rfl := Option.some.inj H
                    clear H
                    go_wp2
                    go_ret
                    exact ⟨rfl, ST.out.b⟩
                rw [if_neg c12] at H; exact absurd H (by simp)
              rw [if_neg c11] at H; exact absurd H (by simp)
            rw [if_neg c10] at H
            have q10 : decide (0 < x8) = false := decide_eq_false c10
            have H' := Zh H
            clear H c10
            replace ST := Zh ST.out.drew
            refine start_ (n := 30) (S := fun w' => w'.cell? ⟨wr.heap.size, 0, none⟩ = some (.string (rd_T74 l0_0 x8).f0) ∧ w'.cell? ⟨wr.heap.size, 1, none⟩ = some (.slice B1 (rd_T74 l0_0 x8).f1.length d1) ∧ w'.cell? ⟨wr.heap.size, 2, none⟩ = some (.slice B2 (rd_T74 l0_0 x8).f2.length d2)) (ds := []) #[false, false, false, false, false, false, false, false, false, false, false, false, false, false, false, false, false, false, false, false, false, false, false, false, false, false, false, false, false, false] (by kernel_rfl) rfl rfl ⟨ST.out.cell 0 rfl 0 rfl, ST.out.cell 0 rfl 1 rfl, ST.out.cell 0 rfl 2 rfl⟩ (fun hHeld => ?_)
            generalize (wr.alloc (.cells #[.string (rd_T74 l0_0 x8).f0, .slice B1 (rd_T74 l0_0 x8).f1.length d1, .slice B2 (rd_T74 l0_0 x8).f2.length d2] 74)).drew = w8 at ST hHeld ⊢
            refine SQ.p0 0 13 ?_
            refine SQ.t0 1 14 hHeld ?_
            refine one_ (i := 2) (N := some 15) #[true, true, true, false, false, false, false, false, false, false, false, false, false, false, false, false, false, false, false, false, false, false, false, false, false, false, false, false, false, false] rfl rfl (by kernel_rfl) (by decide) (fun K hK => ?_)
            refine goes_ Tryd.func91 (by kernel_rfl) rfl #[.string (rd_T74 l0_0 x8).f0] (by rfl) rfl rfl (by (try simp only [List.map_toArray, List.map_cons, List.map_nil]); first | done | rfl) ?_
            with_reducible refine (impl_isFileName.calls (rd_T74 l0_0 x8).f0 _ _ A7.out).mono ?_
            rintro e w9 ⟨rfl, hb⟩
            refine ⟨_, rfl, ?_⟩
            replace ST := Zh (ST.out.step hb)
            clear hb hHeld
            refine hK.out _ _ ⟨ST.out.cell 0 rfl 0 rfl, ST.out.cell 0 rfl 1 rfl, ST.out.cell 0 rfl 2 rfl⟩ (fun hHeld => ?_)
            clear hK K
            refine norm_ (a' := ?_) ?_ ?_
            rotate_left
            · show Act.put _ (some 15) _ = _
              simp only [Act.put, List.setIfInBounds_toArray, List.set_cons_zero, List.set_cons_succ, i64_w, i32_w]
              rfl
            refine SQ.p0 3 16 ?_
            refine SQ.p0 4 17 ?_
            refine SQ.p0 5 18 ?_
            refine SQ.t0 6 19 hHeld ?_
            refine SQ.p0 7 20 ?_
            refine SQ.p0 8 21 ?_
            refine SQ.t0 9 22 hHeld ?_
            refine SQ.p0 10 23 ?_
            refine SQ.p0 11 24 ?_
            refine SQ.p0 12 25 ?_
            refine SQ.p0 13 26 ?_
            refine SQ.p0 14 27 ?_
            refine SQ.p0 15 28 ?_
            refine SQ.p0 16 29 ?_
            refine SQ.p0 17 30 ?_
            refine SQ.o0 18 31 ?_
            refine SQ.o0 19 32 ?_
            refine SQ.o0 20 33 ?_
            refine SQ.o0 21 34 ?_
            refine SQ.o0 22 35 ?_
            refine SQ.o0 23 36 ?_
            refine SQ.o0 24 37 ?_
            refine SQ.o0 25 38 ?_
            refine SQ.o0 26 39 ?_
            refine SQ.o0 27 40 ?_
            refine SQ.p0 28 41 ?_
            refine SQ.p0 29 42 ?_
            refine done_ (by kernel_rfl) ?_
            clear hHeld
            go_wp2
            go_roundg k1
            case measure => omega
            case rel => exact ⟨_, rfl, H', ⟨ST.out.tail⟩⟩
        rw [if_neg p0] at H; exact absurd H (by simp)
      rw [if_neg c8] at H
      have q8 := decide_eq_false c8
      obtain rfl := Option.some.inj H
      have hc0 := ST.out.cell 0 rfl 0 (u := .slice A0_0 l0_0.length c0_0) rfl
      clear H c8
      go_wp2
      go_ret
      exact ⟨rfl, ST.out.b⟩
def impl_appendFile.fin (k : Nat) (l0_0 p : List S74) (a1 : ByteArray) (d : List Int) : Option (List S74 × Bool) := (impl_fileOf.f p a1).bind fun i => if 0 ≤ i then (if i < (p.length : Int) then (if (rd_T74 p i).f2.length + d.length ≤ 140737488355328 then (impl_isDisk.f k (p.set i.toNat ⟨(rd_T74 p i).f0, (rd_T74 p i).f1, (rd_T74 p i).f2 ++ d⟩)).bind fun t => if t = true then some (p.set i.toNat ⟨(rd_T74 p i).f0, (rd_T74 p i).f1, (rd_T74 p i).f2 ++ d⟩, true) else (impl_copyDisk.f k l0_0).bind fun o => some (o, false) else none) else none) else none
def impl_appendFile.f (k : Nat) (l0_0 : List S74) (a1 : ByteArray) (d : List Int) : Option (List S74 × Bool) := (impl_copyDisk.f k l0_0).bind fun o => (impl_isDisk.f k l0_0).bind fun t => if t = true then (impl_isFileName.f a1).bind fun n => if n = true then (impl_fileOf.f o a1).bind fun j => if j < 0 then (if (o.length + 1) * 64 ≤ 140737488355328 then impl_appendFile.fin k l0_0 (insM o ⟨a1, [], []⟩) a1 d else none) else impl_appendFile.fin k l0_0 o a1 d else some (o, false) else some (o, false)
set_option maxHeartbeats 8000000 in
set_option maxRecDepth 100000 in
theorem impl_appendFile.calls (k : Nat) (A0_0 : Option Addr) (c0_0 : Nat) (l0_0 : List S74) (a1 : ByteArray) (A2 : Option Addr) (c2 : Nat) (l2 : List Int) (r1 : List S74) (r2 : Bool) (w : World) (hr0_0 : Kd.C k74 w A0_0 l0_0.length l0_0) (hc0_0 : l0_0.length ≤ c0_0) (hr2 : Kd.C (Kd.int .u8) w A2 l2.length l2) (hc2 : l2.length ≤ c2) (h : impl_appendFile.f k l0_0 a1 l2 = some (r1, r2)) :
    Calls Tryd.prog 78 #[.agg #[.slice A0_0 l0_0.length c0_0], .string a1, .slice A2 l2.length c2] w fun e w' => ∃ v0_ : Value, e = .returned (.tuple #[.agg #[v0_], .bool r2]) ∧ Kd.S k74 74 w' w.heap.size (fun _ => True) v0_ r1 ∧ Below w.heap.size w w' := by
  have HR := Zh hr0_0
  have HC := Zh hc0_0
  have HR2 := Zh hr2
  have HC2 := Zh hc2
  clear hr0_0 hc0_0 hr2 hc2
  have ST := Zh (LW.St.start w)
  have hu29 := Tryd.underlying29
  have hu74 := Tryd.underlying74
  unfold impl_appendFile.f at h
  replace h := Option.bind_eq_some_iff.mp h
  obtain ⟨o, HA1, h⟩ := h
  replace h := Option.bind_eq_some_iff.mp h
  obtain ⟨t, HA2, h⟩ := h
  replace HA1 := Zh HA1
  replace HA2 := Zh HA2
  have H := Zh h
  clear h
  go_enter Tryd.func78, Tryd.ntmps78
  go_wp2_with fail
  replace ST := Zh (ST.out.alloc #[.slice A0_0 l0_0.length c0_0] 29 (g := w.heap.size) rfl)
  replace ST := Zh (ST.out.alloc #[.slice none 0 0] 29 (g := w.heap.size + 1) (by simp))
  with_reducible refine (impl_copyDisk.calls k _ _ l0_0 o _ (Kd.C_below HR.out ST.out.b) HC.out HA1.out).mono ?_
  rintro e w1 ⟨v1, rfl, ho, hb⟩
  obtain ⟨A1, c1, rfl⟩ := Kd.S_slice ho
  replace ST := Zh (ST.out.row hb ho)
  clear hb ho
  have hc1 := ST.out.cell 2 rfl 0 (u := .slice A0_0 l0_0.length c0_0) rfl
  have hl1 := ST.out.lt 2 rfl
  go_wp2_with fail
  replace ST := Zh (ST.out.alloc #[.slice A1 o.length c1] 29 (g := w1.heap.size) rfl)
  with_reducible refine (impl_isDisk.calls k _ _ l0_0 t _ (Kd.C_below HR.out ST.out.b) HC.out HA2.out).mono ?_
  rintro e w3 ⟨rfl, hb⟩
  replace ST := Zh (ST.out.step hb)
  clear hb hc1 hl1
  have h := H.out
  clear H
  by_cases ct : t = true
  · subst ct
    rw [if_pos rfl] at h
    replace h := Option.bind_eq_some_iff.mp h
    obtain ⟨n, HA3, h⟩ := h
    replace HA3 := Zh HA3
    have H := Zh h
    clear h
    go_wp2_with fail
    with_reducible refine (impl_isFileName.calls a1 n _ HA3.out).mono ?_
    rintro e w4 ⟨rfl, hb⟩
    replace ST := Zh (ST.out.step hb)
    clear hb
    have h := H.out
    clear H
    by_cases cn : n = true
    · subst cn
      rw [if_pos rfl] at h
      replace h := Option.bind_eq_some_iff.mp h
      obtain ⟨j, HA4, h⟩ := h
      replace HA4 := Zh HA4
      have H := Zh h
      clear h
      have hc2 := ST.out.cell 0 rfl 0 (u := .slice A1 o.length c1) rfl
      have hl2 := ST.out.lt 0 rfl
      go_wp2_with fail
      with_reducible refine (impl_fileOf.calls _ _ o a1 j _ (ST.out.reads 1 rfl).2.2 (ST.out.reads 1 rfl).2.1 HA4.out).mono ?_
      rintro e w5 ⟨rfl, hb⟩
      replace ST := Zh (ST.out.step hb)
      clear hb hc2 hl2
      have hc2 := ST.out.cell 0 rfl 0 (u := .slice A1 o.length c1) rfl
      have hl2 := ST.out.lt 0 rfl
      have hf2 := ST.out.frozen 0 rfl 0
      have h := H.out
      clear H
      by_cases cj : j < 0
      · rw [if_pos cj] at h
        have cjb : decide (j < 0) = true := decide_eq_true cj
        clear cj
        by_cases cq : (o.length + 1) * 64 ≤ 140737488355328
        · rw [if_pos cq] at h
          have HCQ := Zh cq
          have H := Zh h
          clear h cq
          go_wp2_with fail
          refine (impl_withFile.calls _ (fun _ => False) _ o ⟨a1, [], []⟩ (.slice none 0 0) (.slice none 0 0) w _ ST.out.b (ST.out.own 1 rfl) HCQ.out (k74_mkM _ _ _ (⟨a1, [], []⟩ : S74) (Kd.R_nil _ _ _ _ _) (Kd.R_nil _ _ _ _ _) AP.nil_ne) (fun k hk => hk.elim)).mono ?_
          rintro e w6 ⟨v', rfl, hS, hB6, hK6⟩
          obtain ⟨A6, c6, hv6⟩ := Kd.S_slice hS
          obtain ⟨q, hq⟩ : ∃ q, q = insM o ⟨a1, [], []⟩ := ⟨_, rfl⟩
          rw [← hq] at hS hv6
          subst hv6
          have hST := ST.out.grow 1 rfl (LW.row k74 74 w.heap.size (.slice A6 q.length c6) q _) (fun k hk => by
            rcases hk with a | a | a
            · exact .inl a
            · exact a.elim
            exact .inr a) hS hB6 hK6
          replace ST := Zh hST
          have H2 := Zh (show impl_appendFile.fin k l0_0 q a1 l2 = some (r1, r2) by rw [hq]; exact H.out)
          clear hST hS hB6 hK6 hq hc2 hl2 hf2 H
          have hc2 := ST.out.cell 0 rfl 0 (u := .slice A1 o.length c1) rfl
          have hl2 := ST.out.lt 0 rfl
          have hf2 := ST.out.frozen 0 rfl 0
          go_upto_region 6 with (fail)
          replace ST := Zh (ST.out.set 0 rfl 0 (.slice A6 q.length c6))
          generalize w6.setCell ⟨w1.heap.size, 0, none⟩ (.slice A6 q.length c6) = wY at ST ⊢
          have h := H2.out
          clear H2
          unfold impl_appendFile.fin at h
          replace h := Option.bind_eq_some_iff.mp h
          obtain ⟨i, HA5, h⟩ := h
          replace HA5 := Zh HA5
          by_cases ci : 0 ≤ i
          · rw [if_pos ci] at h
            by_cases cl : i < (q.length : Int)
            · rw [if_pos cl] at h
              by_cases cs : (rd_T74 q i).f2.length + l2.length ≤ 140737488355328
              · rw [if_pos cs] at h
                replace h := Option.bind_eq_some_iff.mp h
                obtain ⟨t2, HA6, h⟩ := h
                replace HA6 := Zh HA6
                have H := Zh h
                have HI0 := Zh ci
                have HIL := Zh cl
                have HSZ := Zh cs
                clear h cs hc2 hl2 hf2
                have p0 := eq_true ci
                have p1 := eq_true cl
                clear ci cl
                obtain ⟨g, cg, hv, _, _, _⟩ := Kd.S_form (ST.out.own 1 rfl) (by have := HI0.out; have := HIL.out; omega)
                injection hv with hv1 hv2 hv3
                subst hv1
                clear hv2 hv3
                replace ST := Zh ST.out.drew
                refine start_ (n := 7) (S := fun w' => w'.cell? ⟨w1.heap.size, 0, none⟩ = some (.slice (some ⟨g, 0, none⟩) q.length c6)) (ds := []) #[false, false, false, false, false, false, false] (by kernel_rfl) rfl rfl (ST.out.cell 0 rfl 0 rfl) (fun hHeld => ?_)
                generalize wY.drew = w8 at ST hHeld ⊢
                refine pure_ (i := 0) (N := some 29) (v := ?_) (a' := ?_) #[true, false, false, false, false, false, false] rfl rfl (by kernel_rfl) (fun _ _ _ h => h) (Or.inl ⟨by rfl, ?_⟩) ?_ ?_
                rotate_left
                · intro w'
                  go_simp
                  with_reducible rfl
                rotate_left
                · simp only [Act.put, List.setIfInBounds_toArray, List.set_cons_zero, List.set_cons_succ, i64_w, i32_w]
                  rfl
                refine pure_ (i := 3) (N := some 32) (v := ?_) (a' := ?_) #[true, false, false, true, false, false, false] rfl rfl (by kernel_rfl) (fun _ _ _ h => h) (Or.inl ⟨by rfl, ?_⟩) ?_ ?_
                rotate_left
                · intro w'
                  go_simp
                  with_reducible rfl
                rotate_left
                · simp only [Act.put, List.setIfInBounds_toArray, List.set_cons_zero, List.set_cons_succ, i64_w, i32_w]
                  rfl
                refine take_ (i := 1) (N := some 30) (v := ?_) (a' := ?_) #[true, true, false, true, false, false, false] rfl rfl (by kernel_rfl) (fun _ _ _ h => h) (Or.inl ⟨by rfl, ?_⟩) hHeld ?_ ?_
                rotate_left
                · rintro w' s0
                  go_simp
                  with_reducible rfl
                rotate_left
                · simp only [Act.put, List.setIfInBounds_toArray, List.set_cons_zero, List.set_cons_succ, i64_w, i32_w]
                  rfl
                refine take_ (i := 2) (N := some 31) (v := ?_) (a' := ?_) #[true, true, true, true, false, false, false] rfl rfl (by kernel_rfl) (fun _ _ _ h => h) (Or.inl ⟨by rfl, ?_⟩) hHeld ?_ ?_
                rotate_left
                · rintro w' s0
                  go_simp
                  with_reducible rfl
                rotate_left
                · simp only [Act.put, List.setIfInBounds_toArray, List.set_cons_zero, List.set_cons_succ, i64_w, i32_w]
                  rfl
                refine one_ (i := 4) (N := some 33) #[true, true, true, true, true, false, false] rfl rfl (by kernel_rfl) (by decide) (fun K hK => ?_)
                refine goes_ Tryd.func63 (by kernel_rfl) rfl #[.agg #[.slice (some ⟨g, 0, none⟩) q.length c6], .string a1] (by rfl) rfl rfl (by (try simp only [List.map_toArray, List.map_cons, List.map_nil]); first | done | rfl) ?_
                with_reducible refine (impl_fileOf.calls _ _ q a1 i _ (ST.out.reads 1 rfl).2.2 (ST.out.reads 1 rfl).2.1 HA5.out).mono ?_
                rintro e w9 ⟨rfl, hb⟩
                refine ⟨_, rfl, ?_⟩
                replace ST := Zh (ST.out.step hb)
                clear hb
                refine hK.out _ _ (ST.out.cell 0 rfl 0 rfl) (fun hHeld => ?_)
                clear hK K
                refine norm_ (a' := ?_) ?_ ?_
                rotate_left
                · show Act.put _ (some 33) _ = _
                  simp only [Act.put, List.setIfInBounds_toArray, List.set_cons_zero, List.set_cons_succ, i64_w, i32_w]
                  rfl
                refine pure_ (i := 5) (N := some 34) (v := ?_) (a' := ?_) #[true, true, true, true, true, true, false] rfl rfl (by kernel_rfl) (fun _ _ _ h => h) (Or.inl ⟨by rfl, ?_⟩) ?_ ?_
                rotate_left
                · intro w'
                  go_simp
                  with_reducible rfl
                rotate_left
                · simp only [Act.put, List.setIfInBounds_toArray, List.set_cons_zero, List.set_cons_succ, i64_w, i32_w]
                  rfl
                refine pure_ (i := 6) (N := some 9) (v := ?_) (a' := ?_) #[true, true, true, true, true, true, true] rfl rfl (by kernel_rfl) (fun _ _ _ h => h) (Or.inl ⟨by rfl, ?_⟩) ?_ ?_
                rotate_left
                · intro w'
                  go_simp
                  with_reducible rfl
                rotate_left
                · simp only [Act.put, List.setIfInBounds_toArray, List.set_cons_zero, List.set_cons_succ, i64_w, i32_w]
                  rfl
                refine done_ (by kernel_rfl) ?_
                clear hHeld
                obtain ⟨u1, u2, ok2, hy0, hy1, hy2, hfz, hR2, hng, hFu, back⟩ := lendLoose ST.out 1 rfl i HI0.out HIL.out
                obtain ⟨B2, d2, rfl⟩ := Kd.R_slice hR2
                have HBK := Zh back
                have HRR := Zh hR2
                have hgl := blk_lt_of hy2
                have hc2 := ST.out.cell 0 rfl 0 (u := .slice (some ⟨g, 0, none⟩) q.length c6) rfl
                have hl2 := ST.out.lt 0 rfl
                have HNG := Zh hng
                have HFU := Zh hFu
                clear back hR2 hng hFu p0 p1
                go_wp2_with (at_builtin; refine Kd.R_append_rows (Kd.int .u8) (w0 := w) w.heap.size rfl _ _ 33 5 (.int .u8 0) 1 rfl Tryd.underlying33 info5 rfl (by decide) (by omega) _ (rd_T74 q i).f2 l2 _ _ _ (fun k => ok2 k ∨ w9.heap.size ≤ k) (fun _ => False) rfl rfl (Kd.R_mono HRR.out (fun k hk => .inl hk)) (Kd.C_below HR2.out ST.out.b) (fun _ _ h => h) (fun _ h => h.elim) (fun k hk => .inr hk) ST.out.b ST.out.b.size (by have := HSZ.out; omega) ?_; intro v1 w10 q1 q2 q3 q4; obtain ⟨A3, c3, rfl⟩ := Kd.R_slice q1; have hgb := q3.block g hgl (fun he => HNG.out g (HRR.out.1 g he.symm) rfl); have hgb8 := q3.block _ hl2 (fun he => LW.Its.disj ST.out.i 1 0 _ _ (by decide) rfl rfl _ (HFU.out _ he.symm) rfl); have hcg : w10.cell? ⟨g, i.toNat * 3 + 2, none⟩ = some (.slice B2 (rd_T74 q i).f2.length d2) := (cell_blk hgb).trans hy2; have hfg : w10.frozen? ⟨g, i.toNat * 3 + 2, none⟩ = false := (frozen_blk hgb).trans hfz; have hc8 : w10.cell? ⟨w1.heap.size, 0, none⟩ = some (.slice (some ⟨g, 0, none⟩) q.length c6) := (cell_blk hgb8).trans hc2; have hg8 : g ≠ w1.heap.size := fun he => LW.Its.disj ST.out.i 1 0 _ _ (by decide) rfl rfl g ((Kd.S_R (ST.out.own 1 rfl)).1 g (by simp [Value.ownBlock])) he; have hg8' := hg8.symm; have Q := Zh (And.intro q1 (And.intro q2 (And.intro q3 q4))); clear q1 q2 q3 q4 hgb hgb8 hc2 hl2 hy0 hy1 hy2 hfz hgl)
                obtain ⟨q1, q2, q3, q4⟩ := Q.out
                rw [List.length_append] at q1 q4
                have hST := HBK.out (.slice A3 ((rd_T74 q i).f2.length + l2.length) c3) w10 ((rd_T74 q i).f2 ++ l2) (fun ok hok => Kd.R_mono (Kd.R_tight rfl q1) (fun k hk => hok k hk.symm)) q2 q3 q4
                clear q1 q2 q3 q4 Q HBK hcg hfg hc8 hg8 hg8' HNG HFU HRR
                obtain ⟨p', hp'⟩ : ∃ p', p' = q.set i.toNat (⟨(rd_T74 q i).f0, (rd_T74 q i).f1, (rd_T74 q i).f2 ++ l2⟩ : S74) := ⟨_, rfl⟩
                have hpl : p'.length = q.length := by rw [hp', List.length_set]
                rw [← hp'] at hST
                replace ST := Zh hST
                have HA7 := Zh (show impl_isDisk.f k p' = some t2 by rw [hp']; exact HA6.out)
                have H3 := Zh (show (if t2 = true then some (p', true) else (impl_copyDisk.f k l0_0).bind fun o => some (o, false)) = some (r1, r2) by rw [hp']; exact H.out)
                clear hST hp' HA6 H
                generalize w10.setCell ⟨g, i.toNat * 3 + 2, none⟩ (.slice A3 ((rd_T74 q i).f2.length + l2.length) c3) = w11 at ST ⊢
                have hcall := impl_isDisk.calls k (some ⟨g, 0, none⟩) c6 p' t2 w11 (ST.out.reads 1 rfl).2.2 (by have := (ST.out.reads 1 rfl).2.1; omega) HA7.out
                rw [hpl] at hcall
                clear hpl
                refine hcall.mono ?_
                rintro e w12 ⟨rfl, hb⟩
                replace ST := Zh (ST.out.step hb)
                clear hb hcall
                have h := H3.out
                clear H3
                by_cases ct2 : t2 = true
                · subst ct2
                  rw [if_pos rfl] at h
                  obtain ⟨rfl, rfl⟩ := Prod.mk.inj (Option.some.inj h)
                  clear h
                  have hc2 := ST.out.cell 0 rfl 0 (u := .slice (some ⟨g, 0, none⟩) q.length c6) rfl
                  have hl2 := ST.out.lt 0 rfl
                  have hc3 := ST.out.cell 2 rfl 0 (u := .slice none 0 0) rfl
                  have hl3 := ST.out.lt 2 rfl
                  have hf3 := ST.out.frozen 2 rfl 0
                  go_wp2_with fail
                  replace ST := Zh (ST.out.set 2 rfl 0 (.slice (some ⟨g, 0, none⟩) q.length c6))
                  refine Zq (results_ct rfl _ _ (w.heap.size + 1) 29 #[.slice (some ⟨g, 0, none⟩) q.length c6] (0, 0) _ rfl (ST.out.blk 2 rfl) Tryd.underlying29 rfl (by kernel_rfl)) rfl ?_
                  exact ⟨_, rfl, Kd.S_mono (ST.out.own 1 rfl) (fun _ _ => trivial), ST.out.b⟩
                rw [if_neg ct2] at h
                obtain rfl : t2 = false := by simpa using ct2
                replace h := Option.bind_eq_some_iff.mp h
                obtain ⟨o2, HAo, h⟩ := h
                obtain ⟨rfl, rfl⟩ := Prod.mk.inj (Option.some.inj h)
                clear h ct2
                replace HAo := Zh HAo
                have hc1 := ST.out.cell 3 rfl 0 (u := .slice A0_0 l0_0.length c0_0) rfl
                have hl1 := ST.out.lt 3 rfl
                go_wp2_with fail
                with_reducible refine (impl_copyDisk.calls k _ _ l0_0 o2 _ (Kd.C_below HR.out ST.out.b) HC.out HAo.out).mono ?_
                rintro e w13 ⟨v9, rfl, ho, hb⟩
                obtain ⟨A9, c9, rfl⟩ := Kd.S_slice ho
                replace ST := Zh (ST.out.row hb ho)
                clear hb ho hc1 hl1
                have hc3 := ST.out.cell 3 rfl 0 (u := .slice none 0 0) rfl
                have hl3 := ST.out.lt 3 rfl
                have hf3 := ST.out.frozen 3 rfl 0
                go_wp2
                replace ST := Zh (ST.out.set 3 rfl 0 (.slice A9 o2.length c9))
                refine Zq (results_ct rfl _ _ (w.heap.size + 1) 29 #[.slice A9 o2.length c9] (0, 0) _ rfl (ST.out.blk 3 rfl) Tryd.underlying29 rfl (by kernel_rfl)) rfl ?_
                exact ⟨_, rfl, Kd.S_mono (ST.out.own 0 rfl) (fun _ _ => trivial), ST.out.b⟩
              rw [if_neg cs] at h; exact absurd h (by simp)
            rw [if_neg cl] at h; exact absurd h (by simp)
          rw [if_neg ci] at h; exact absurd h (by simp)
        rw [if_neg cq] at h; exact absurd h (by simp)
      rw [if_neg cj] at h
      have cjb : decide (j < 0) = false := decide_eq_false cj
      clear cj
      have H2 := Zh h
      clear h
      go_upto_region 6 with (fail)
      generalize hY : w5 = wY at ST hc2 hl2 hf2 ⊢
      clear hY
      have h := H2.out
      clear H2
      unfold impl_appendFile.fin at h
      replace h := Option.bind_eq_some_iff.mp h
      obtain ⟨i, HA5, h⟩ := h
      replace HA5 := Zh HA5
      by_cases ci : 0 ≤ i
      · rw [if_pos ci] at h
        by_cases cl : i < (o.length : Int)
        · rw [if_pos cl] at h
          by_cases cs : (rd_T74 o i).f2.length + l2.length ≤ 140737488355328
          · rw [if_pos cs] at h
            replace h := Option.bind_eq_some_iff.mp h
            obtain ⟨t2, HA6, h⟩ := h
            replace HA6 := Zh HA6
            have H := Zh h
            have HI0 := Zh ci
            have HIL := Zh cl
            have HSZ := Zh cs
            clear h cs hc2 hl2 hf2
            have p0 := eq_true ci
            have p1 := eq_true cl
            clear ci cl
            obtain ⟨g, cg, hv, _, _, _⟩ := Kd.S_form (ST.out.own 1 rfl) (by have := HI0.out; have := HIL.out; omega)
            injection hv with hv1 hv2 hv3
            subst hv1
            clear hv2 hv3
            replace ST := Zh ST.out.drew
            refine start_ (n := 7) (S := fun w' => w'.cell? ⟨w1.heap.size, 0, none⟩ = some (.slice (some ⟨g, 0, none⟩) o.length c1)) (ds := []) #[false, false, false, false, false, false, false] (by kernel_rfl) rfl rfl (ST.out.cell 0 rfl 0 rfl) (fun hHeld => ?_)
            generalize wY.drew = w8 at ST hHeld ⊢
            refine pure_ (i := 0) (N := some 29) (v := ?_) (a' := ?_) #[true, false, false, false, false, false, false] rfl rfl (by kernel_rfl) (fun _ _ _ h => h) (Or.inl ⟨by rfl, ?_⟩) ?_ ?_
            rotate_left
            · intro w'
              go_simp
              with_reducible rfl
            rotate_left
            · simp only [Act.put, List.setIfInBounds_toArray, List.set_cons_zero, List.set_cons_succ, i64_w, i32_w]
              rfl
            refine pure_ (i := 3) (N := some 32) (v := ?_) (a' := ?_) #[true, false, false, true, false, false, false] rfl rfl (by kernel_rfl) (fun _ _ _ h => h) (Or.inl ⟨by rfl, ?_⟩) ?_ ?_
            rotate_left
            · intro w'
              go_simp
              with_reducible rfl
            rotate_left
            · simp only [Act.put, List.setIfInBounds_toArray, List.set_cons_zero, List.set_cons_succ, i64_w, i32_w]
              rfl
            refine take_ (i := 1) (N := some 30) (v := ?_) (a' := ?_) #[true, true, false, true, false, false, false] rfl rfl (by kernel_rfl) (fun _ _ _ h => h) (Or.inl ⟨by rfl, ?_⟩) hHeld ?_ ?_
            rotate_left
            · rintro w' s0
              go_simp
              with_reducible rfl
            rotate_left
            · simp only [Act.put, List.setIfInBounds_toArray, List.set_cons_zero, List.set_cons_succ, i64_w, i32_w]
              rfl
            refine take_ (i := 2) (N := some 31) (v := ?_) (a' := ?_) #[true, true, true, true, false, false, false] rfl rfl (by kernel_rfl) (fun _ _ _ h => h) (Or.inl ⟨by rfl, ?_⟩) hHeld ?_ ?_
            rotate_left
            · rintro w' s0
              go_simp
              with_reducible rfl
            rotate_left
            · simp only [Act.put, List.setIfInBounds_toArray, List.set_cons_zero, List.set_cons_succ, i64_w, i32_w]
              rfl
            refine one_ (i := 4) (N := some 33) #[true, true, true, true, true, false, false] rfl rfl (by kernel_rfl) (by decide) (fun K hK => ?_)
            refine goes_ Tryd.func63 (by kernel_rfl) rfl #[.agg #[.slice (some ⟨g, 0, none⟩) o.length c1], .string a1] (by rfl) rfl rfl (by (try simp only [List.map_toArray, List.map_cons, List.map_nil]); first | done | rfl) ?_
            with_reducible refine (impl_fileOf.calls _ _ o a1 i _ (ST.out.reads 1 rfl).2.2 (ST.out.reads 1 rfl).2.1 HA5.out).mono ?_
            rintro e w9 ⟨rfl, hb⟩
            refine ⟨_, rfl, ?_⟩
            replace ST := Zh (ST.out.step hb)
            clear hb
            refine hK.out _ _ (ST.out.cell 0 rfl 0 rfl) (fun hHeld => ?_)
            clear hK K
            refine norm_ (a' := ?_) ?_ ?_
            rotate_left
            · show Act.put _ (some 33) _ = _
              simp only [Act.put, List.setIfInBounds_toArray, List.set_cons_zero, List.set_cons_succ, i64_w, i32_w]
              rfl
            refine pure_ (i := 5) (N := some 34) (v := ?_) (a' := ?_) #[true, true, true, true, true, true, false] rfl rfl (by kernel_rfl) (fun _ _ _ h => h) (Or.inl ⟨by rfl, ?_⟩) ?_ ?_
            rotate_left
            · intro w'
              go_simp
              with_reducible rfl
            rotate_left
            · simp only [Act.put, List.setIfInBounds_toArray, List.set_cons_zero, List.set_cons_succ, i64_w, i32_w]
              rfl
            refine pure_ (i := 6) (N := some 9) (v := ?_) (a' := ?_) #[true, true, true, true, true, true, true] rfl rfl (by kernel_rfl) (fun _ _ _ h => h) (Or.inl ⟨by rfl, ?_⟩) ?_ ?_
            rotate_left
            · intro w'
              go_simp
              with_reducible rfl
            rotate_left
            · simp only [Act.put, List.setIfInBounds_toArray, List.set_cons_zero, List.set_cons_succ, i64_w, i32_w]
              rfl
            refine done_ (by kernel_rfl) ?_
            clear hHeld
            obtain ⟨u1, u2, ok2, hy0, hy1, hy2, hfz, hR2, hng, hFu, back⟩ := lendLoose ST.out 1 rfl i HI0.out HIL.out
            obtain ⟨B2, d2, rfl⟩ := Kd.R_slice hR2
            have HBK := Zh back
            have HRR := Zh hR2
            have hgl := blk_lt_of hy2
            have hc2 := ST.out.cell 0 rfl 0 (u := .slice (some ⟨g, 0, none⟩) o.length c1) rfl
            have hl2 := ST.out.lt 0 rfl
            have HNG := Zh hng
            have HFU := Zh hFu
            clear back hR2 hng hFu p0 p1
            go_wp2_with (at_builtin; refine Kd.R_append_rows (Kd.int .u8) (w0 := w) w.heap.size rfl _ _ 33 5 (.int .u8 0) 1 rfl Tryd.underlying33 info5 rfl (by decide) (by omega) _ (rd_T74 o i).f2 l2 _ _ _ (fun k => ok2 k ∨ w9.heap.size ≤ k) (fun _ => False) rfl rfl (Kd.R_mono HRR.out (fun k hk => .inl hk)) (Kd.C_below HR2.out ST.out.b) (fun _ _ h => h) (fun _ h => h.elim) (fun k hk => .inr hk) ST.out.b ST.out.b.size (by have := HSZ.out; omega) ?_; intro v1 w10 q1 q2 q3 q4; obtain ⟨A3, c3, rfl⟩ := Kd.R_slice q1; have hgb := q3.block g hgl (fun he => HNG.out g (HRR.out.1 g he.symm) rfl); have hgb8 := q3.block _ hl2 (fun he => LW.Its.disj ST.out.i 1 0 _ _ (by decide) rfl rfl _ (HFU.out _ he.symm) rfl); have hcg : w10.cell? ⟨g, i.toNat * 3 + 2, none⟩ = some (.slice B2 (rd_T74 o i).f2.length d2) := (cell_blk hgb).trans hy2; have hfg : w10.frozen? ⟨g, i.toNat * 3 + 2, none⟩ = false := (frozen_blk hgb).trans hfz; have hc8 : w10.cell? ⟨w1.heap.size, 0, none⟩ = some (.slice (some ⟨g, 0, none⟩) o.length c1) := (cell_blk hgb8).trans hc2; have hg8 : g ≠ w1.heap.size := fun he => LW.Its.disj ST.out.i 1 0 _ _ (by decide) rfl rfl g ((Kd.S_R (ST.out.own 1 rfl)).1 g (by simp [Value.ownBlock])) he; have hg8' := hg8.symm; have Q := Zh (And.intro q1 (And.intro q2 (And.intro q3 q4))); clear q1 q2 q3 q4 hgb hgb8 hc2 hl2 hy0 hy1 hy2 hfz hgl)
            obtain ⟨q1, q2, q3, q4⟩ := Q.out
            rw [List.length_append] at q1 q4
            have hST := HBK.out (.slice A3 ((rd_T74 o i).f2.length + l2.length) c3) w10 ((rd_T74 o i).f2 ++ l2) (fun ok hok => Kd.R_mono (Kd.R_tight rfl q1) (fun k hk => hok k hk.symm)) q2 q3 q4
            clear q1 q2 q3 q4 Q HBK hcg hfg hc8 hg8 hg8' HNG HFU HRR
            obtain ⟨p', hp'⟩ : ∃ p', p' = o.set i.toNat (⟨(rd_T74 o i).f0, (rd_T74 o i).f1, (rd_T74 o i).f2 ++ l2⟩ : S74) := ⟨_, rfl⟩
            have hpl : p'.length = o.length := by rw [hp', List.length_set]
            rw [← hp'] at hST
            replace ST := Zh hST
            have HA7 := Zh (show impl_isDisk.f k p' = some t2 by rw [hp']; exact HA6.out)
            have H3 := Zh (show (if t2 = true then some (p', true) else (impl_copyDisk.f k l0_0).bind fun o => some (o, false)) = some (r1, r2) by rw [hp']; exact H.out)
            clear hST hp' HA6 H
            generalize w10.setCell ⟨g, i.toNat * 3 + 2, none⟩ (.slice A3 ((rd_T74 o i).f2.length + l2.length) c3) = w11 at ST ⊢
            have hcall := impl_isDisk.calls k (some ⟨g, 0, none⟩) c1 p' t2 w11 (ST.out.reads 1 rfl).2.2 (by have := (ST.out.reads 1 rfl).2.1; omega) HA7.out
            rw [hpl] at hcall
            clear hpl
            refine hcall.mono ?_
            rintro e w12 ⟨rfl, hb⟩
            replace ST := Zh (ST.out.step hb)
            clear hb hcall
            have h := H3.out
            clear H3
            by_cases ct2 : t2 = true
            · subst ct2
              rw [if_pos rfl] at h
              obtain ⟨rfl, rfl⟩ := Prod.mk.inj (Option.some.inj h)
              clear h
              have hc2 := ST.out.cell 0 rfl 0 (u := .slice (some ⟨g, 0, none⟩) o.length c1) rfl
              have hl2 := ST.out.lt 0 rfl
              have hc3 := ST.out.cell 2 rfl 0 (u := .slice none 0 0) rfl
              have hl3 := ST.out.lt 2 rfl
              have hf3 := ST.out.frozen 2 rfl 0
              go_wp2_with fail
              replace ST := Zh (ST.out.set 2 rfl 0 (.slice (some ⟨g, 0, none⟩) o.length c1))
              refine Zq (results_ct rfl _ _ (w.heap.size + 1) 29 #[.slice (some ⟨g, 0, none⟩) o.length c1] (0, 0) _ rfl (ST.out.blk 2 rfl) Tryd.underlying29 rfl (by kernel_rfl)) rfl ?_
              exact ⟨_, rfl, Kd.S_mono (ST.out.own 1 rfl) (fun _ _ => trivial), ST.out.b⟩
            rw [if_neg ct2] at h
            obtain rfl : t2 = false := by simpa using ct2
            replace h := Option.bind_eq_some_iff.mp h
            obtain ⟨o2, HAo, h⟩ := h
            obtain ⟨rfl, rfl⟩ := Prod.mk.inj (Option.some.inj h)
            clear h ct2
            replace HAo := Zh HAo
            have hc1 := ST.out.cell 3 rfl 0 (u := .slice A0_0 l0_0.length c0_0) rfl
            have hl1 := ST.out.lt 3 rfl
            go_wp2_with fail
            with_reducible refine (impl_copyDisk.calls k _ _ l0_0 o2 _ (Kd.C_below HR.out ST.out.b) HC.out HAo.out).mono ?_
            rintro e w13 ⟨v9, rfl, ho, hb⟩
            obtain ⟨A9, c9, rfl⟩ := Kd.S_slice ho
            replace ST := Zh (ST.out.row hb ho)
            clear hb ho hc1 hl1
            have hc3 := ST.out.cell 3 rfl 0 (u := .slice none 0 0) rfl
            have hl3 := ST.out.lt 3 rfl
            have hf3 := ST.out.frozen 3 rfl 0
            go_wp2
            replace ST := Zh (ST.out.set 3 rfl 0 (.slice A9 o2.length c9))
            refine Zq (results_ct rfl _ _ (w.heap.size + 1) 29 #[.slice A9 o2.length c9] (0, 0) _ rfl (ST.out.blk 3 rfl) Tryd.underlying29 rfl (by kernel_rfl)) rfl ?_
            exact ⟨_, rfl, Kd.S_mono (ST.out.own 0 rfl) (fun _ _ => trivial), ST.out.b⟩
          rw [if_neg cs] at h; exact absurd h (by simp)
        rw [if_neg cl] at h; exact absurd h (by simp)
      rw [if_neg ci] at h; exact absurd h (by simp)
    rw [if_neg cn] at h
    obtain rfl : n = false := by simpa using cn
    clear cn
    obtain ⟨rfl, rfl⟩ := Prod.mk.inj (Option.some.inj h)
    clear h
    have hc2 := ST.out.cell 0 rfl 0 (u := .slice A1 o.length c1) rfl
    have hl2 := ST.out.lt 0 rfl
    have hc3 := ST.out.cell 2 rfl 0 (u := .slice none 0 0) rfl
    have hl3 := ST.out.lt 2 rfl
    have hf3 := ST.out.frozen 2 rfl 0
    go_wp2_with fail
    replace ST := Zh (ST.out.set 2 rfl 0 (.slice A1 o.length c1))
    refine Zq (results_ct rfl _ _ (w.heap.size + 1) 29 #[.slice A1 o.length c1] (0, 0) _ rfl (ST.out.blk 2 rfl) Tryd.underlying29 rfl (by kernel_rfl)) rfl ?_
    exact ⟨_, rfl, Kd.S_mono (ST.out.own 1 rfl) (fun _ _ => trivial), ST.out.b⟩
  rw [if_neg ct] at h
  obtain rfl : t = false := by simpa using ct
  clear ct
  obtain ⟨rfl, rfl⟩ := Prod.mk.inj (Option.some.inj h)
  clear h
  have hc2 := ST.out.cell 0 rfl 0 (u := .slice A1 o.length c1) rfl
  have hl2 := ST.out.lt 0 rfl
  have hc3 := ST.out.cell 2 rfl 0 (u := .slice none 0 0) rfl
  have hl3 := ST.out.lt 2 rfl
  have hf3 := ST.out.frozen 2 rfl 0
  go_wp2_with fail
  replace ST := Zh (ST.out.set 2 rfl 0 (.slice A1 o.length c1))
  refine Zq (results_ct rfl _ _ (w.heap.size + 1) 29 #[.slice A1 o.length c1] (0, 0) _ rfl (ST.out.blk 2 rfl) Tryd.underlying29 rfl (by kernel_rfl)) rfl ?_
  exact ⟨_, rfl, Kd.S_mono (ST.out.own 1 rfl) (fun _ _ => trivial), ST.out.b⟩
def impl_AppendFile.f (k : Nat) (l0_0 : List S74) (a1 : ByteArray) (a2 : List Int) : Option (List S74 × Bool) := impl_appendFile.f k l0_0 a1 a2
set_option maxHeartbeats 8000000 in
theorem impl_AppendFile.calls (k : Nat) (A0_0 : Option Addr) (c0_0 : Nat) (l0_0 : List S74) (a1 : ByteArray) (A2 : Option Addr) (c2 : Nat) (l2 : List Int) (r1 : List S74) (r2 : Bool) (w : World) (hr0_0 : Kd.C k74 w A0_0 l0_0.length l0_0) (hc0_0 : l0_0.length ≤ c0_0) (hr2 : Kd.C (Kd.int .u8) w A2 l2.length l2) (hc2 : l2.length ≤ c2) (h : impl_AppendFile.f k l0_0 a1 l2 = some (r1, r2)) :
    Calls Tryd.prog 39 #[.agg #[.slice A0_0 l0_0.length c0_0], .string a1, .slice A2 l2.length c2] w fun e w' => ∃ v0_ : Value, e = .returned (.tuple #[.agg #[v0_], .bool r2]) ∧ Kd.S k74 74 w' w.heap.size (fun _ => True) v0_ r1 ∧ Below w.heap.size w w' := by
  have HR := Zh hr0_0
  have HC := Zh hc0_0
  have HR2 := Zh hr2
  have HC2 := Zh hc2
  have HA := Zh (show impl_appendFile.f k l0_0 a1 l2 = some (r1, r2) from h)
  clear hr0_0 hc0_0 hr2 hc2 h
  have ST := Zh (LW.St.start w)
  go_enter Tryd.func39, Tryd.ntmps39
  go_wp2_with fail
  replace ST := Zh (ST.out.alloc #[.slice A0_0 l0_0.length c0_0] 29 (g := w.heap.size) rfl)
  replace ST := Zh (ST.out.alloc #[.slice none 0 0] 29 (g := w.heap.size + 1) (by simp))
  with_reducible refine (impl_appendFile.calls k _ _ l0_0 a1 _ _ l2 r1 r2 _ (Kd.C_below HR.out ST.out.b) HC.out (Kd.C_below HR2.out ST.out.b) HC2.out HA.out).mono ?_
  rintro e w1 ⟨v1, rfl, ho, hb⟩
  obtain ⟨A1, c1, rfl⟩ := Kd.S_slice ho
  replace ST := Zh (ST.out.row hb ho)
  clear hb ho
  have hc1 := ST.out.cell 1 rfl 0 (u := .slice none 0 0) rfl
  have hl1 := ST.out.lt 1 rfl
  have hf1 := ST.out.frozen 1 rfl 0
  go_wp2
  replace ST := Zh (ST.out.set 1 rfl 0 (.slice A1 r1.length c1))
  refine Zq (results_ct rfl _ _ (w.heap.size + 1) 29 #[.slice A1 r1.length c1] (0, 0) _ rfl (ST.out.blk 1 rfl) Tryd.underlying29 rfl (by kernel_rfl)) rfl ?_
  exact ⟨_, rfl, Kd.S_mono (ST.out.own 0 rfl) (fun _ _ => trivial), ST.out.b⟩
def impl_removeFile.f (k : Nat) (l0_0 : List S74) (a1 : ByteArray) : Option (List S74 × Bool) := (impl_copyDisk.f k l0_0).bind fun o => (impl_fileOf.f l0_0 a1).bind fun i => (impl_isDisk.f k l0_0).bind fun t => if t = true then (if i < 0 then some (o, false) else (if i < (o.length : Int) then some (o.eraseIdx i.toNat, true) else none)) else some (o, false)
set_option maxHeartbeats 8000000 in
set_option maxRecDepth 100000 in
theorem impl_removeFile.calls (k : Nat) (A0_0 : Option Addr) (c0_0 : Nat) (l0_0 : List S74) (a1 : ByteArray) (r1 : List S74) (r2 : Bool) (w : World) (hr0_0 : Kd.C k74 w A0_0 l0_0.length l0_0) (hc0_0 : l0_0.length ≤ c0_0) (h : impl_removeFile.f k l0_0 a1 = some (r1, r2)) :
    Calls Tryd.prog 68 #[.agg #[.slice A0_0 l0_0.length c0_0], .string a1] w fun e w' => ∃ v0_ : Value, e = .returned (.tuple #[.agg #[v0_], .bool r2]) ∧ Kd.S k74 74 w' w.heap.size (fun _ => True) v0_ r1 ∧ Below w.heap.size w w' := by
  have HR := Zh hr0_0
  have HC := Zh hc0_0
  clear hr0_0 hc0_0
  have ST := Zh (LW.St.start w)
  unfold impl_removeFile.f at h
  replace h := Option.bind_eq_some_iff.mp h
  obtain ⟨o, HA1, h⟩ := h
  replace h := Option.bind_eq_some_iff.mp h
  obtain ⟨i, HA2, h⟩ := h
  replace h := Option.bind_eq_some_iff.mp h
  obtain ⟨t, HA3, h⟩ := h
  replace HA1 := Zh HA1
  replace HA2 := Zh HA2
  replace HA3 := Zh HA3
  have H := Zh h
  clear h
  go_enter Tryd.func68, Tryd.ntmps68
  go_wp2_with fail
  replace ST := Zh (ST.out.alloc #[.slice A0_0 l0_0.length c0_0] 29 (g := w.heap.size) rfl)
  replace ST := Zh (ST.out.alloc #[.slice none 0 0] 29 (g := w.heap.size + 1) (by simp))
  with_reducible refine (impl_copyDisk.calls k _ _ l0_0 o _ (Kd.C_below HR.out ST.out.b) HC.out HA1.out).mono ?_
  rintro e w1 ⟨v1, rfl, ho, hb⟩
  obtain ⟨A1, c1, rfl⟩ := Kd.S_slice ho
  replace ST := Zh (ST.out.row hb ho)
  clear hb ho
  have hc1 := ST.out.cell 1 rfl 0 (u := .slice none 0 0) rfl
  have hl1 := ST.out.lt 1 rfl
  have hc2 := ST.out.cell 2 rfl 0 (u := .slice A0_0 l0_0.length c0_0) rfl
  have hl2 := ST.out.lt 2 rfl
  go_wp2_with fail
  replace ST := Zh (ST.out.alloc #[.slice A1 o.length c1] 29 (g := w1.heap.size) rfl)
  with_reducible refine (impl_fileOf.calls _ _ l0_0 a1 i _ (Kd.C_below HR.out ST.out.b) HC.out HA2.out).mono ?_
  rintro e w2 ⟨rfl, hb⟩
  replace ST := Zh (ST.out.step hb)
  clear hb
  clear hc1 hl1 hc2 hl2
  have hc1 := ST.out.cell 0 rfl 0 (u := .slice A1 o.length c1) rfl
  have hl1 := ST.out.lt 0 rfl
  have hc2 := ST.out.cell 3 rfl 0 (u := .slice A0_0 l0_0.length c0_0) rfl
  have hl2 := ST.out.lt 3 rfl
  go_wp2_with fail
  with_reducible refine (impl_isDisk.calls k _ _ l0_0 t _ (Kd.C_below HR.out ST.out.b) HC.out HA3.out).mono ?_
  rintro e w3 ⟨rfl, hb⟩
  replace ST := Zh (ST.out.step hb)
  clear hb
  clear hc1 hl1 hc2 hl2
  have hc1 := ST.out.cell 0 rfl 0 (u := .slice A1 o.length c1) rfl
  have hl1 := ST.out.lt 0 rfl
  have hc2 := ST.out.cell 2 rfl 0 (u := .slice none 0 0) rfl
  have hl2 := ST.out.lt 2 rfl
  have h := H.out
  clear H
  by_cases ct : t = true
  · subst ct
    rw [if_pos rfl] at h
    by_cases ci : i < 0
    · rw [if_pos ci] at h
      obtain ⟨rfl, rfl⟩ := Prod.mk.inj (Option.some.inj h)
      clear h
      have cib : decide (i < 0) = true := decide_eq_true ci
      clear ci
      have hf2 := ST.out.frozen 2 rfl 0
      go_wp2_with fail
      replace ST := Zh (ST.out.set 2 rfl 0 (.slice A1 o.length c1))
      refine Zq (results_ct rfl _ _ (w.heap.size + 1) 29 #[.slice A1 o.length c1] (0, 0) _ rfl (ST.out.blk 2 rfl) Tryd.underlying29 rfl (by kernel_rfl)) rfl ?_
      exact ⟨_, rfl, Kd.S_mono (ST.out.own 1 rfl) (fun _ _ => trivial), ST.out.b⟩
    rw [if_neg ci] at h
    by_cases cj : i < (o.length : Int)
    · rw [if_pos cj] at h
      obtain ⟨rfl, rfl⟩ := Prod.mk.inj (Option.some.inj h)
      clear h
      obtain ⟨n, rfl⟩ := Int.eq_ofNat_of_zero_le (show 0 ≤ i by omega)
      have cib : decide ((n : Int) < 0) = false := decide_eq_false ci
      have hn : n < o.length := by omega
      have hcap := (ST.out.reads 1 rfl).2.1
      obtain ⟨g, cg, hv, _, _, _⟩ := Kd.S_form (ST.out.own 1 rfl) (by omega)
      injection hv with hv1 hv2 hv3
      subst hv1
      have hcc := S_cap (ST.out.own 1 rfl)
      have hb1 : (n : Int) + 1 ≤ 9223372036854775807 := by omega
      clear ci cj hcap hcc hv2 hv3
      go_wp2_with fail
      with_reducible refine (sDelete.calls n _ _ o w _ ST.out.b (ST.out.own 1 rfl) hn).mono ?_
      rintro e w4 ⟨v4, rfl, ho, hb, hk⟩
      clear hc1 hl1 hc2 hl2 cib hb1
      replace ST := Zh (ST.out.writeV 1 rfl ho hb hk)
      obtain ⟨A4, c4, rfl⟩ := Kd.S_slice ho
      clear ho hb hk
      have hc1 := ST.out.cell 0 rfl 0 (u := .slice (some ⟨g, 0, none⟩) o.length c1) rfl
      have hl1 := ST.out.lt 0 rfl
      have hf1 := ST.out.frozen 0 rfl 0
      have hc2 := ST.out.cell 2 rfl 0 (u := .slice none 0 0) rfl
      have hl2 := ST.out.lt 2 rfl
      have hf2 := ST.out.frozen 2 rfl 0
      have hne : (w1.heap.size == w.heap.size + 1) = false := by have := ST.out.ne 0 2 (by decide) rfl rfl; simpa using this
      have hne' : ¬ w1.heap.size = w.heap.size + 1 := ST.out.ne 0 2 (by decide) rfl rfl
      go_wp2_with fail
      replace ST := Zh (ST.out.set 0 rfl 0 (.slice A4 (o.eraseIdx n).length c4))
      replace ST := Zh (ST.out.set 2 rfl 0 (.slice A4 (o.eraseIdx n).length c4))
      refine Zq (results_ct rfl _ _ (w.heap.size + 1) 29 #[.slice A4 (o.eraseIdx n).length c4] (0, 0) _ rfl (ST.out.blk 2 rfl) Tryd.underlying29 rfl (by kernel_rfl)) rfl ?_
      exact ⟨_, rfl, Kd.S_mono (ST.out.own 1 rfl) (fun _ _ => trivial), ST.out.b⟩
    rw [if_neg cj] at h
    exact absurd h (by simp)
  rw [if_neg ct] at h
  obtain rfl : t = false := by simpa using ct
  obtain ⟨rfl, rfl⟩ := Prod.mk.inj (Option.some.inj h)
  clear h ct
  have hf2 := ST.out.frozen 2 rfl 0
  go_wp2_with fail
  replace ST := Zh (ST.out.set 2 rfl 0 (.slice A1 o.length c1))
  refine Zq (results_ct rfl _ _ (w.heap.size + 1) 29 #[.slice A1 o.length c1] (0, 0) _ rfl (ST.out.blk 2 rfl) Tryd.underlying29 rfl (by kernel_rfl)) rfl ?_
  exact ⟨_, rfl, Kd.S_mono (ST.out.own 1 rfl) (fun _ _ => trivial), ST.out.b⟩
theorem run_field29 (v : Value) (w : World) : (Instr.field 29 (.agg #[v]) 0).run Tryd.prog w = .ok v w := by
  simp [Instr.field, go_sem, asAgg, Tryd.underlying29, Tryd.underlying27]
attribute [local go_sem] run_field29
def impl_renameFile.f (k : Nat) (l0_0 : List S74) (a1 a2 : ByteArray) : Option (List S74 × Bool) := (impl_fileOf.f l0_0 a1).bind fun i => (impl_isDisk.f k l0_0).bind fun t => if t = true then (if i < 0 then (impl_copyDisk.f k l0_0).bind fun o => some (o, false) else (impl_isFileName.f a2).bind fun n => if n = true then (if a1.toList = a2.toList then (impl_copyDisk.f k l0_0).bind fun o => some (o, true) else (impl_removeFile.f k l0_0 a1).bind fun p => (impl_removeFile.f k p.1 a2).bind fun q => (impl_copyDisk.f k l0_0).bind fun o => if i < (o.length : Int) then (if (q.1.length + 1) * 64 ≤ 140737488355328 then some (insM q.1 ⟨a2, (rd_T74 o i).f1, (rd_T74 o i).f2⟩, true) else none) else none) else (impl_copyDisk.f k l0_0).bind fun o => some (o, false)) else (impl_copyDisk.f k l0_0).bind fun o => some (o, false)
set_option maxHeartbeats 8000000 in
set_option maxRecDepth 100000 in
theorem impl_renameFile.calls (k : Nat) (A0_0 : Option Addr) (c0_0 : Nat) (l0_0 : List S74) (a1 a2 : ByteArray) (r1 : List S74) (r2 : Bool) (w : World) (hr0_0 : Kd.C k74 w A0_0 l0_0.length l0_0) (hc0_0 : l0_0.length ≤ c0_0) (h : impl_renameFile.f k l0_0 a1 a2 = some (r1, r2)) :
    Calls Tryd.prog 79 #[.agg #[.slice A0_0 l0_0.length c0_0], .string a1, .string a2] w fun e w' => ∃ v0_ : Value, e = .returned (.tuple #[.agg #[v0_], .bool r2]) ∧ Kd.S k74 74 w' w.heap.size (fun _ => True) v0_ r1 ∧ Below w.heap.size w w' := by
  have HR := Zh hr0_0
  have HC := Zh hc0_0
  clear hr0_0 hc0_0
  have ST := Zh (LW.St.start w)
  have hu29 := Tryd.underlying29
  have hu74 := Tryd.underlying74
  unfold impl_renameFile.f at h
  replace h := Option.bind_eq_some_iff.mp h
  obtain ⟨i, HA1, h⟩ := h
  replace h := Option.bind_eq_some_iff.mp h
  obtain ⟨t, HA2, h⟩ := h
  replace HA1 := Zh HA1
  replace HA2 := Zh HA2
  have H := Zh h
  clear h
  go_enter Tryd.func79, Tryd.ntmps79
  go_wp2_with fail
  replace ST := Zh (ST.out.alloc #[.slice A0_0 l0_0.length c0_0] 29 (g := w.heap.size) rfl)
  replace ST := Zh (ST.out.alloc #[.slice none 0 0] 29 (g := w.heap.size + 1) (by simp))
  with_reducible refine (impl_fileOf.calls _ _ l0_0 a1 i _ (Kd.C_below HR.out ST.out.b) HC.out HA1.out).mono ?_
  rintro e w2 ⟨rfl, hb⟩
  replace ST := Zh (ST.out.step hb)
  clear hb
  have hc1 := ST.out.cell 1 rfl 0 (u := .slice A0_0 l0_0.length c0_0) rfl
  have hl1 := ST.out.lt 1 rfl
  go_wp2_with fail
  with_reducible refine (impl_isDisk.calls k _ _ l0_0 t _ (Kd.C_below HR.out ST.out.b) HC.out HA2.out).mono ?_
  rintro e w3 ⟨rfl, hb⟩
  replace ST := Zh (ST.out.step hb)
  clear hb hc1 hl1
  have hc1 := ST.out.cell 1 rfl 0 (u := .slice A0_0 l0_0.length c0_0) rfl
  have hl1 := ST.out.lt 1 rfl
  have h := H.out
  clear H
  by_cases ct : t = true
  · subst ct
    rw [if_pos rfl] at h
    by_cases ci : i < 0
    · rw [if_pos ci] at h
      have cib : decide (i < 0) = true := decide_eq_true ci
      clear ci
      replace h := Option.bind_eq_some_iff.mp h
      obtain ⟨o, HAo, h⟩ := h
      obtain ⟨rfl, rfl⟩ := Prod.mk.inj (Option.some.inj h)
      clear h
      replace HAo := Zh HAo
      go_wp2_with fail
      with_reducible refine (impl_copyDisk.calls k _ _ l0_0 o _ (Kd.C_below HR.out ST.out.b) HC.out HAo.out).mono ?_
      rintro e w9 ⟨v9, rfl, ho, hb⟩
      obtain ⟨A9, c9, rfl⟩ := Kd.S_slice ho
      replace ST := Zh (ST.out.row hb ho)
      clear hb ho hc1 hl1
      have hc2 := ST.out.cell 1 rfl 0 (u := .slice none 0 0) rfl
      have hl2 := ST.out.lt 1 rfl
      have hf2 := ST.out.frozen 1 rfl 0
      go_wp2
      replace ST := Zh (ST.out.set 1 rfl 0 (.slice A9 o.length c9))
      refine Zq (results_ct rfl _ _ (w.heap.size + 1) 29 #[.slice A9 o.length c9] (0, 0) _ rfl (ST.out.blk 1 rfl) Tryd.underlying29 rfl (by kernel_rfl)) rfl ?_
      exact ⟨_, rfl, Kd.S_mono (ST.out.own 0 rfl) (fun _ _ => trivial), ST.out.b⟩
    rw [if_neg ci] at h
    have cib : decide (i < 0) = false := decide_eq_false ci
    have HI0 := Zh (show 0 ≤ i by omega)
    clear ci
    replace h := Option.bind_eq_some_iff.mp h
    obtain ⟨n, HA3, h⟩ := h
    replace HA3 := Zh HA3
    have H := Zh h
    clear h
    go_wp2_with fail
    with_reducible refine (impl_isFileName.calls a2 n _ HA3.out).mono ?_
    rintro e w4 ⟨rfl, hb⟩
    replace ST := Zh (ST.out.step hb)
    clear hb hc1 hl1
    have hc1 := ST.out.cell 1 rfl 0 (u := .slice A0_0 l0_0.length c0_0) rfl
    have hl1 := ST.out.lt 1 rfl
    have h := H.out
    clear H
    by_cases cn : n = true
    · subst cn
      rw [if_pos rfl] at h
      by_cases ce : a1.toList = a2.toList
      · rw [if_pos ce] at h
        have ceb : (a1.toList == a2.toList) = true := beq_iff_eq.mpr ce
        clear ce
        replace h := Option.bind_eq_some_iff.mp h
        obtain ⟨o, HAo, h⟩ := h
        obtain ⟨rfl, rfl⟩ := Prod.mk.inj (Option.some.inj h)
        clear h
        replace HAo := Zh HAo
        go_wp2_with fail
        with_reducible refine (impl_copyDisk.calls k _ _ l0_0 o _ (Kd.C_below HR.out ST.out.b) HC.out HAo.out).mono ?_
        rintro e w9 ⟨v9, rfl, ho, hb⟩
        obtain ⟨A9, c9, rfl⟩ := Kd.S_slice ho
        replace ST := Zh (ST.out.row hb ho)
        clear hb ho hc1 hl1
        have hc2 := ST.out.cell 1 rfl 0 (u := .slice none 0 0) rfl
        have hl2 := ST.out.lt 1 rfl
        have hf2 := ST.out.frozen 1 rfl 0
        go_wp2
        replace ST := Zh (ST.out.set 1 rfl 0 (.slice A9 o.length c9))
        refine Zq (results_ct rfl _ _ (w.heap.size + 1) 29 #[.slice A9 o.length c9] (0, 0) _ rfl (ST.out.blk 1 rfl) Tryd.underlying29 rfl (by kernel_rfl)) rfl ?_
        exact ⟨_, rfl, Kd.S_mono (ST.out.own 0 rfl) (fun _ _ => trivial), ST.out.b⟩
      rw [if_neg ce] at h
      have ceb : (a1.toList == a2.toList) = false := beq_eq_false_iff_ne.mpr ce
      clear ce
      replace h := Option.bind_eq_some_iff.mp h
      obtain ⟨⟨p, pb⟩, HA4, h⟩ := h
      replace h := Option.bind_eq_some_iff.mp h
      obtain ⟨⟨q, qb⟩, HA5, h⟩ := h
      replace h := Option.bind_eq_some_iff.mp h
      obtain ⟨o, HA6, h⟩ := h
      simp only at HA5 h
      replace HA4 := Zh HA4
      replace HA5 := Zh HA5
      replace HA6 := Zh HA6
      by_cases cl : i < (o.length : Int)
      · rw [if_pos cl] at h
        by_cases cq : (q.length + 1) * 64 ≤ 140737488355328
        · rw [if_pos cq] at h
          obtain ⟨rfl, rfl⟩ := Prod.mk.inj (Option.some.inj h)
          have HCL := Zh cl
          have HCQ := Zh cq
          clear h cl cq
          go_wp2_with fail
          with_reducible refine (impl_removeFile.calls k _ _ l0_0 a1 p pb _ (Kd.C_below HR.out ST.out.b) HC.out HA4.out).mono ?_
          rintro e w5 ⟨v5, rfl, ho, hb⟩
          obtain ⟨A5, c5, rfl⟩ := Kd.S_slice ho
          replace ST := Zh (ST.out.row hb ho)
          clear hb ho hc1 hl1
          go_wp2_with fail
          replace ST := Zh (ST.out.alloc #[.slice A5 p.length c5] 29 (g := w5.heap.size) rfl)
          with_reducible refine (impl_removeFile.calls k _ _ p a2 q qb _ (ST.out.reads 1 rfl).2.2 (ST.out.reads 1 rfl).2.1 HA5.out).mono ?_
          rintro e w6 ⟨v6, rfl, ho, hb⟩
          obtain ⟨A6, c6, rfl⟩ := Kd.S_slice ho
          replace ST := Zh (ST.out.row hb ho)
          clear hb ho
          have hc1 := ST.out.cell 4 rfl 0 (u := .slice A0_0 l0_0.length c0_0) rfl
          have hl1 := ST.out.lt 4 rfl
          have hc2 := ST.out.cell 1 rfl 0 (u := .slice A5 p.length c5) rfl
          have hl2 := ST.out.lt 1 rfl
          have hf2 := ST.out.frozen 1 rfl 0
          have hne := ST.out.ne 1 4 (by decide) rfl rfl
          go_wp2_with fail
          replace ST := Zh (ST.out.set 1 rfl 0 (.slice A6 q.length c6))
          generalize (w6.setCell ⟨w5.heap.size, 0, none⟩ (.slice A6 q.length c6)) = w7 at ST ⊢
          with_reducible refine (impl_copyDisk.calls k _ _ l0_0 o _ (Kd.C_below HR.out ST.out.b) HC.out HA6.out).mono ?_
          rintro e w8 ⟨v8, rfl, ho, hb⟩
          obtain ⟨g, cg, rfl, _, _, _⟩ := Kd.S_form ho (by have := HCL.out; have := HI0.out; omega)
          replace ST := Zh (ST.out.row hb ho)
          clear hb ho hc1 hl1 hc2 hl2 hf2 hne
          obtain ⟨oki, cs, hcl, hM, hcc, hfr, hoki, hH⟩ := Kd.S_elem (ST.out.own 0 rfl) z74 i HI0.out HCL.out
          obtain ⟨pp, u1, u2, rfl, hM1, hM2⟩ := k74_openA hM
          obtain ⟨B1, d1, rfl⟩ := Kd.R_slice hM1
          obtain ⟨B2, d2, rfl⟩ := Kd.R_slice hM2
          have hrd : o.getD i.toNat z74 = rd_T74 o i := rfl
          rw [hrd] at hM1 hM2 hcc
          generalize hy : rd_T74 o i = y at hM1 hM2 hcc
          have HY := Zh hy
          clear hy
          have hy0 : w8.cell? ⟨g, i.toNat * 3, none⟩ = some (.string y.f0) := hcc 0 _ rfl
          have hy1 : w8.cell? ⟨g, i.toNat * 3 + 1, none⟩ = some (.slice B1 y.f1.length d1) := hcc 1 _ rfl
          have hy2 : w8.cell? ⟨g, i.toNat * 3 + 2, none⟩ = some (.slice B2 y.f2.length d2) := hcc 2 _ rfl
          have hc1 := ST.out.cell 2 rfl 0 (u := .slice A6 q.length c6) rfl
          have hl1 := ST.out.lt 2 rfl
          have p0 := eq_true HI0.out
          have p1 := eq_true HCL.out
          have K1 := Zh (And.intro hM1 (And.intro hM2 hoki))
          clear hrd hcl hM hcc hfr hoki hH hM1 hM2
          go_wp2_with ((with_reducible refine gate_dst (N := 11) rfl ?_); refine box_event ?hg (N := 11) ?hd (cs := #[.string (⟨#[]⟩ : ByteArray), .slice none 0 0, .slice none 0 0]) (t := 74) ?hr ?_; (case hd => rfl); (case hg => rfl); (case hr => first | (go_simp; done) | (go_simp; rfl)); intro gb hg w10 hbox hb; replace ST := Zh (ST.out.box hg hbox hb); have hd0 := ST.out.cell 0 rfl 0 (u := .string (⟨#[]⟩ : ByteArray)) rfl; have hd1 := ST.out.cell 0 rfl 1 (u := .slice none 0 0) rfl; have hd2 := ST.out.cell 0 rfl 2 (u := .slice none 0 0) rfl; have hg0 := ST.out.frozen 0 rfl 0; have hg1 := ST.out.frozen 0 rfl 1; have hg2 := ST.out.frozen 0 rfl 2; have hgl := ST.out.lt 0 rfl; replace hc1 := ST.out.cell 3 rfl 0 (u := .slice A6 q.length c6) rfl; replace hl1 := ST.out.lt 3 rfl; have hne := ST.out.ne 3 0 (by decide) rfl rfl; have hne' := hne.symm; have HBX := Zh hb; have HGB := Zh (Nat.le_of_eq hg.symm); clear hg hbox hb)
          have hb11 : Below w8.heap.size w8 ((((w10.setCell ⟨gb, 0, none⟩ (.string y.f0)).setCell ⟨gb, 1, none⟩ (.slice B1 y.f1.length d1)).setCell ⟨gb, 2, none⟩ (.slice B2 y.f2.length d2)).setCell ⟨gb, 0, none⟩ (.string a2)) := Zg (Zg (Zg (Zg HBX.out HGB.out) HGB.out) HGB.out) HGB.out
          replace ST := Zh (ST.out.set 0 rfl 0 (.string y.f0))
          replace ST := Zh (ST.out.set 0 rfl 1 (.slice B1 y.f1.length d1))
          replace ST := Zh (ST.out.set 0 rfl 2 (.slice B2 y.f2.length d2))
          replace ST := Zh (ST.out.set 0 rfl 0 (.string a2))
          clear hd0 hd1 hd2 hg0 hg1 hg2 hgl hc1 hl1 hne hne' hy0 hy1 hy2 p0 p1
          generalize ((((w10.setCell ⟨gb, 0, none⟩ (.string y.f0)).setCell ⟨gb, 1, none⟩ (.slice B1 y.f1.length d1)).setCell ⟨gb, 2, none⟩ (.slice B2 y.f2.length d2)).setCell ⟨gb, 0, none⟩ (.string a2)) = w11 at ST hb11 ⊢
          obtain ⟨hM1, hM2, hoki⟩ := K1.out
          refine (impl_withFile.calls _ oki _ q ⟨a2, y.f1, y.f2⟩ (.slice B1 y.f1.length d1) (.slice B2 y.f2.length d2) w w11 ST.out.b (ST.out.own 2 rfl) HCQ.out (k74_mkM w11 _ oki (⟨a2, y.f1, y.f2⟩ : S74) (Kd.R_mono (Kd.R_below hM1 hb11) (fun k hk => hk.1)) (Kd.R_mono (Kd.R_below hM2 hb11) (fun k hk => hk.1)) (fun k h1 h2 => (hM2.1 k h2.symm).2 (hM1.1 k h1.symm).2)) (fun k hk hp => LW.Its.disj ST.out.i 1 2 _ _ (by decide) rfl rfl k (hoki k hk).1 hp)).mono ?_
          rintro e w12 ⟨v', rfl, hS, hB12, hK12⟩
          have hl5 := ST.out.lt 5 rfl
          have b5 := (hK12.2 _ hl5 (fun hp => LW.Its.disj ST.out.i 5 2 _ _ (by decide) rfl rfl _ rfl hp)).trans (ST.out.blk 5 rfl)
          obtain ⟨A12, c12, hv12⟩ := Kd.S_slice hS
          obtain ⟨n12, hn12⟩ : ∃ n12, n12 = (insM q ⟨a2, y.f1, y.f2⟩).length := ⟨_, rfl⟩
          rw [← hn12] at hv12
          subst hv12
          clear hn12
          have FIN := Zh (And.intro hS (And.intro hB12 (And.intro hl5 b5)))
          have K2 := Zh hoki
          have hc5 := (blk_cell b5 0).trans (show _ = some (.slice none 0 0) from rfl)
          have hf5 := Zn b5 0
          have hm5 := blk_lt b5
          clear hS hB12 hK12 hl5 b5 hM1 hM2 hoki K1 hb11
          go_wp2_with fail
          obtain ⟨hS, hB12, hl5, b5⟩ := FIN.out
          have hy := HY.out
          clear HY
          subst hy
          refine Zq (results_ct rfl _ _ (w.heap.size + 1) 29 #[.slice A12 n12 c12] (0, 0) _ rfl (blk_put b5 0 _ rfl) Tryd.underlying29 rfl (by kernel_rfl)) rfl ?_
          refine ⟨_, rfl, Kd.S_mono (Kd.S_far hS (fun k hk => ?_) _) (fun _ _ => trivial), Zg hB12 (Nat.le_succ _)⟩
          show k ≠ w.heap.size + 1
          intro he
          rcases hk with hk | hk | hk
          · exact LW.Its.disj ST.out.i 2 5 _ _ (by decide) rfl rfl k hk he
          · exact LW.Its.disj ST.out.i 1 5 _ _ (by decide) rfl rfl k (K2.out k hk).1 he
          have := hk.1; omega
        rw [if_neg cq] at h; exact absurd h (by simp)
      rw [if_neg cl] at h; exact absurd h (by simp)
    rw [if_neg cn] at h
    obtain rfl : n = false := by simpa using cn
    clear cn
    replace h := Option.bind_eq_some_iff.mp h
    obtain ⟨o, HAo, h⟩ := h
    obtain ⟨rfl, rfl⟩ := Prod.mk.inj (Option.some.inj h)
    clear h
    replace HAo := Zh HAo
    go_wp2_with fail
    with_reducible refine (impl_copyDisk.calls k _ _ l0_0 o _ (Kd.C_below HR.out ST.out.b) HC.out HAo.out).mono ?_
    rintro e w9 ⟨v9, rfl, ho, hb⟩
    obtain ⟨A9, c9, rfl⟩ := Kd.S_slice ho
    replace ST := Zh (ST.out.row hb ho)
    clear hb ho hc1 hl1
    have hc2 := ST.out.cell 1 rfl 0 (u := .slice none 0 0) rfl
    have hl2 := ST.out.lt 1 rfl
    have hf2 := ST.out.frozen 1 rfl 0
    go_wp2
    replace ST := Zh (ST.out.set 1 rfl 0 (.slice A9 o.length c9))
    refine Zq (results_ct rfl _ _ (w.heap.size + 1) 29 #[.slice A9 o.length c9] (0, 0) _ rfl (ST.out.blk 1 rfl) Tryd.underlying29 rfl (by kernel_rfl)) rfl ?_
    exact ⟨_, rfl, Kd.S_mono (ST.out.own 0 rfl) (fun _ _ => trivial), ST.out.b⟩
  rw [if_neg ct] at h
  obtain rfl : t = false := by simpa using ct
  clear ct
  replace h := Option.bind_eq_some_iff.mp h
  obtain ⟨o, HAo, h⟩ := h
  obtain ⟨rfl, rfl⟩ := Prod.mk.inj (Option.some.inj h)
  clear h
  replace HAo := Zh HAo
  go_wp2_with fail
  with_reducible refine (impl_copyDisk.calls k _ _ l0_0 o _ (Kd.C_below HR.out ST.out.b) HC.out HAo.out).mono ?_
  rintro e w9 ⟨v9, rfl, ho, hb⟩
  obtain ⟨A9, c9, rfl⟩ := Kd.S_slice ho
  replace ST := Zh (ST.out.row hb ho)
  clear hb ho hc1 hl1
  have hc2 := ST.out.cell 1 rfl 0 (u := .slice none 0 0) rfl
  have hl2 := ST.out.lt 1 rfl
  have hf2 := ST.out.frozen 1 rfl 0
  go_wp2
  replace ST := Zh (ST.out.set 1 rfl 0 (.slice A9 o.length c9))
  refine Zq (results_ct rfl _ _ (w.heap.size + 1) 29 #[.slice A9 o.length c9] (0, 0) _ rfl (ST.out.blk 1 rfl) Tryd.underlying29 rfl (by kernel_rfl)) rfl ?_
  exact ⟨_, rfl, Kd.S_mono (ST.out.own 0 rfl) (fun _ _ => trivial), ST.out.b⟩
def impl_RenameFile.f (k : Nat) (l0_0 : List S74) (a1 a2 : ByteArray) : Option (List S74 × Bool) := impl_renameFile.f k l0_0 a1 a2
set_option maxHeartbeats 8000000 in
theorem impl_RenameFile.calls (k : Nat) (A0_0 : Option Addr) (c0_0 : Nat) (l0_0 : List S74) (a1 a2 : ByteArray) (r1 : List S74) (r2 : Bool) (w : World) (hr0_0 : Kd.C k74 w A0_0 l0_0.length l0_0) (hc0_0 : l0_0.length ≤ c0_0) (h : impl_RenameFile.f k l0_0 a1 a2 = some (r1, r2)) :
    Calls Tryd.prog 41 #[.agg #[.slice A0_0 l0_0.length c0_0], .string a1, .string a2] w fun e w' => ∃ v0_ : Value, e = .returned (.tuple #[.agg #[v0_], .bool r2]) ∧ Kd.S k74 74 w' w.heap.size (fun _ => True) v0_ r1 ∧ Below w.heap.size w w' := by
  have HR := Zh hr0_0
  have HC := Zh hc0_0
  have HA := Zh (show impl_renameFile.f k l0_0 a1 a2 = some (r1, r2) from h)
  clear hr0_0 hc0_0 h
  have ST := Zh (LW.St.start w)
  go_enter Tryd.func41, Tryd.ntmps41
  go_wp2_with fail
  replace ST := Zh (ST.out.alloc #[.slice A0_0 l0_0.length c0_0] 29 (g := w.heap.size) rfl)
  replace ST := Zh (ST.out.alloc #[.slice none 0 0] 29 (g := w.heap.size + 1) (by simp))
  with_reducible refine (impl_renameFile.calls k _ _ l0_0 a1 a2 r1 r2 _ (Kd.C_below HR.out ST.out.b) HC.out HA.out).mono ?_
  rintro e w1 ⟨v1, rfl, ho, hb⟩
  obtain ⟨A1, c1, rfl⟩ := Kd.S_slice ho
  replace ST := Zh (ST.out.row hb ho)
  clear hb ho
  have hc1 := ST.out.cell 1 rfl 0 (u := .slice none 0 0) rfl
  have hl1 := ST.out.lt 1 rfl
  have hf1 := ST.out.frozen 1 rfl 0
  go_wp2
  replace ST := Zh (ST.out.set 1 rfl 0 (.slice A1 r1.length c1))
  refine Zq (results_ct rfl _ _ (w.heap.size + 1) 29 #[.slice A1 r1.length c1] (0, 0) _ rfl (ST.out.blk 1 rfl) Tryd.underlying29 rfl (by kernel_rfl)) rfl ?_
  exact ⟨_, rfl, Kd.S_mono (ST.out.own 0 rfl) (fun _ _ => trivial), ST.out.b⟩
end Go.Proofs.YtmgeffgcihfpcaaDoor.F

namespace Go.Proofs.YtmgeffgcihfpcaaDoor.F
open Go.Proofs.YtmgeffgcihfpcaaDoor
open Go.RowKit Go.Proofs.YtmgeffgcihfpcaaDoorW.PrintWords Go.Proofs.YtmgeffgcihfpcaaDoorW.PrintWords.Kd Go.Proofs.YtmgeffgcihfpcaaDoorW.PrintMore.Kd Go.Proofs.YtmgeffgcihfpcaaDoorW.PrintLast Go.Proofs.YtmgeffgcihfpcaaDoorW.PrintMore
attribute [local go_sem] max2_int min2_int max_two min_two max_three min_three max_four min_four   -- for this text's walks alone
set_option linter.unusedVariables false
set_option linter.unusedSimpArgs false
def impl_File_content.f (a0_0 : ByteArray) (l0_1 : List Int) (l0_2 : List Int) : Option (List Int) := (some (([] : List Int) : List Int)).bind fun y197 => (if y197.length + l0_1.length < 140737488355328 then ((some (y197 ++ l0_1 : List Int)).bind fun y200 => (if y200.length + l0_2.length < 140737488355328 then (some (y200 ++ l0_2)) else (none))) else (none))
def impl_File_content.T1 : Bool × List (List Nat × List Nat) := (true, [([], []), ([], []), ([1], [1]), ([0, 2], [0, 2]), ([], []), ([4], [4]), ([3, 5, 3], [3, 5]), ([6, 6, 0, 1, 2, 3, 4, 5, 6], [6])])
def impl_File_content.B1 : List Nat := [0, 0, 2, 7, 0, 16, 63, 127]
theorem impl_File_content.tab1 : rtab .any (opsOf Tryd.f64 1) = impl_File_content.T1 := by kernel_rfl
theorem impl_File_content.bits1 : waitsOk impl_File_content.T1.2 impl_File_content.B1 = true := by kernel_rfl
set_option maxHeartbeats 8000000 in
set_option maxRecDepth 100000 in
theorem impl_File_content.calls (a0_0 : ByteArray) (A0_1 : Option Addr) (c0_1 : Nat) (l0_1 : List Int) (A0_2 : Option Addr) (c0_2 : Nat) (l0_2 : List Int) (r : List Int) (w : World) (hr0_1 : Kd.C (Kd.int .u8) w A0_1 l0_1.length l0_1) (hc0_1 : l0_1.length ≤ c0_1) (hr0_2 : Kd.C (Kd.int .u8) w A0_2 l0_2.length l0_2) (hc0_2 : l0_2.length ≤ c0_2) (h : impl_File_content.f a0_0 l0_1 l0_2 = some r) :
  Calls Tryd.prog 64 #[.agg #[.string a0_0, .slice A0_1 l0_1.length c0_1, .slice A0_2 l0_2.length c0_2]] w fun e w' => ∃ v0_ : Value, e = .returned (v0_) ∧ Kd.R (Kd.int .u8) 5 w' w.heap.size (fun _ => True) v0_ r ∧ Below w.heap.size w w' := by
 have hu74 := Tryd.underlying74
 have HR0_1 := Zh hr0_1
 have HC0_1 := Zh hc0_1
 clear hr0_1 hc0_1
 have HR0_2 := Zh hr0_2
 have HC0_2 := Zh hc0_2
 clear hr0_2 hc0_2
 have HB := Zh (Below.refl w.heap.size w)
 have H : ((some (([] : List Int) : List Int)).bind fun y197 => (if y197.length + l0_1.length < 140737488355328 then ((some (y197 ++ l0_1 : List Int)).bind fun y200 => (if y200.length + l0_2.length < 140737488355328 then (some (y200 ++ l0_2)) else (none))) else (none))) = some r := h
 clear h
 obtain ⟨y197, hy197⟩ : ∃ y_ : List Int, y_ = (([] : List Int)) := ⟨_, rfl⟩
 replace H : (if y197.length + l0_1.length < 140737488355328 then ((some (y197 ++ l0_1 : List Int)).bind fun y200 => (if y200.length + l0_2.length < 140737488355328 then (some (y200 ++ l0_2)) else (none))) else (none)) = some r := by first | (rw [hy197]; with_reducible exact H) | (have H2_ := (Option.bind_some _ _).symm.trans H; rw [hy197]; with_reducible exact H2_) | (have H2_ := (Option.bind_some _ _).symm.trans H; with_reducible exact H2_) | with_reducible exact H | (rw [hy197]; exact H) | exact H
 have Ny197 := Zh hy197
 clear hy197
 by_cases c2 : y197.length + l0_1.length < 140737488355328
 ·
  rw [if_pos c2] at H
  have LMc2 := Zh c2
  clear c2
  obtain ⟨y200, hy200⟩ : ∃ y_ : List Int, y_ = (y197 ++ l0_1) := ⟨_, rfl⟩
  replace H : (if y200.length + l0_2.length < 140737488355328 then (some (y200 ++ l0_2)) else (none)) = some r := by first | (rw [hy200]; with_reducible exact H) | (have H2_ := (Option.bind_some _ _).symm.trans H; rw [hy200]; with_reducible exact H2_) | (have H2_ := (Option.bind_some _ _).symm.trans H; with_reducible exact H2_) | with_reducible exact H | (rw [hy200]; exact H) | exact H
  have Ny200 := Zh hy200
  clear hy200
  by_cases c3 : y200.length + l0_2.length < 140737488355328
  ·
   rw [if_pos c3] at H
   have LMc3 := Zh c3
   clear c3
   obtain ⟨y203, hy203⟩ : ∃ y_ : List Int, y_ = (y200 ++ l0_2) := ⟨_, rfl⟩
   replace H : (some y203) = some r := by first | (rw [hy203]; with_reducible exact H) | (have H2_ := (Option.bind_some _ _).symm.trans H; rw [hy203]; with_reducible exact H2_) | (have H2_ := (Option.bind_some _ _).symm.trans H; with_reducible exact H2_) | with_reducible exact H | (rw [hy203]; exact H) | exact H
   have Ny203 := Zh hy203
   clear hy203
   obtain rfl := Option.some.inj H
   go_enter Tryd.func64, Tryd.ntmps64
   try go_wp2_with (first | ((with_reducible refine gate_dst (N := 1) rfl ?_); refine box_event ?hg (N := 1) ?hd (cs := #[.string a0_0, .slice A0_1 l0_1.length c0_1, .slice A0_2 l0_2.length c0_2]) (t := 74) ?hr ?_; (case hd => rfl); (case hg => rfl); (case hr => first | (go_simp; done) | (go_simp; rfl)); intro gb196 hg w4 hbox hb; have BK196 := Zh (hbox); have GW196 := Zh ((by rw [hg]; exact (below_size Zs) : w.heap.size ≤ gb196)); have GE196 := Zh ((by rw [hg]; exact (below_size Zs) : w.heap.size ≤ gb196)); replace HB := Zh (Zl Zs hb); clear hb hbox hg))
   replace BK196 := Zh (Zb BK196.out)
   replace HB := Zh (Ze HB.out)
   refine start_ (n := 8) (S := fun w' => w'.cell? ⟨gb196, 0, none⟩ = some (.string a0_0) ∧ w'.cell? ⟨gb196, 1, none⟩ = some (.slice A0_1 l0_1.length c0_1) ∧ w'.cell? ⟨gb196, 2, none⟩ = some (.slice A0_2 l0_2.length c0_2)) (ds := []) #[false, false, false, false, false, false, false, false] (by kernel_rfl) rfl rfl ⟨(blk_cell BK196.out 0).trans rfl, (blk_cell BK196.out 1).trans rfl, (blk_cell BK196.out 2).trans rfl⟩ (fun hHeld => ?_); refine with_tabW impl_File_content.tab1 impl_File_content.bits1 (fun HT_ HW_ => ?_)
   generalize w4.drew = w5 at BK196 HB hHeld ⊢
   refine SQ.pu 1 4 HT_ ?_
   refine SQ.pu 4 7 HT_ ?_
   refine SQ.tk 2 5 HT_ HW_ hHeld ?_
   refine SQ.tk 5 8 HT_ HW_ hHeld ?_
   refine one_ (i := 0) (N := some 3) #[true, true, true, false, true, true, false, false] rfl rfl (one_of HT_.out (by kernel_rfl)) (by decide) (fun K hK => ?_)
   refine R_lit_step (Kd.int .u8) _ 5 ?hg (N := 3) ?hd (xs := ([] : List Int)) (inner := []) (ok := fun _ => True) (okp := fun _ => True) ?hr ?hp (fun _ hk => hk) trivial (Below.refl _ _) (Nat.le_refl _) (by simp) ?_; (case hd => rfl); (case hg => rfl); (case hr => first | (go_simp; done) | (go_simp; rfl)); (case hp => exact (Reps.none _ _))
   intro v198 w6 ho7 hb hg_ hnew_
   clear hg_ hnew_
   (first | rw [← Ny197.out] at ho7 | (simp only [Int.reduceToNat] at ho7; rw [← Ny197.out] at ho7))
   have HO199 := Zh (R_lower ho7 (below_size Zs))
   replace BK196 := Zh (Zm (g := gb196) (o := .cells #[.string a0_0, .slice A0_1 l0_1.length c0_1, .slice A0_2 l0_2.length c0_2] 74 (0, 0)) Zk hb)
   replace HB := Zh (Zl Zs hb)
   clear hb ho7
   refine hK.out _ _ ⟨(blk_cell BK196.out 0).trans rfl, (blk_cell BK196.out 1).trans rfl, (blk_cell BK196.out 2).trans rfl⟩ (fun hHeld => ?_)
   clear hK K
   refine norm_ (a' := ?_) ?_ ?_
   rotate_left
   ·
    show Act.put _ (some 3) _ = _
    simp only [Act.put, List.setIfInBounds_toArray, List.set_cons_zero, List.set_cons_succ, i64_w, i32_w]
    rfl
   refine one_ (i := 3) (N := some 6) #[true, true, true, true, true, true, false, false] rfl rfl (one_of HT_.out (by kernel_rfl)) (by decide) (fun K hK => ?_)
   refine R_append_rows_step (Kd.int .u8) (w0 := w) w.heap.size (by rfl) (.tmp 3) (.tmp 5) 33 5 (.int .u8 0) 1 rfl Tryd.underlying33 info5 rfl (by decide) (by omega) v198 y197 l0_1 _ _ _ (fun _ => True) (fun _ => False) rfl rfl ?aO ?aR (fun _ _ h => h) (fun _ h => h.elim) ?aF ?aB ?aS ?aL ?_
   (case aR => repeat (first | exact (C_below HR0_1.out HB.out) | (with_reducible refine C_alloc ?_ _) | (with_reducible refine C_drewN ?_ _) | (with_reducible refine C_drew ?_)))
   (case aB => exact Zs)
   (case aF => exact (fun _ _ => trivial))
   (case aO => exact (ZR HO199.out))
   (case aS => exact (below_size Zs))
   (case aL => have := LMc2.out; omega)
   intro v201 w8 ho hb hg hat
   rw [← Ny200.out] at ho
   have n0_ := Zh (blk_grown (g := gb196) (o := .cells #[.string a0_0, .slice A0_1 l0_1.length c0_1, .slice A0_2 l0_2.length c0_2] 74 (0, 0)) Zk hg (R_ne HO199.out BK196.out (by decide)))
   have n1_ := Zh (hb)
   have n2_ := Zh (ho)
   clear BK196
   clear HB
   clear HO199
   have BK196 := n0_
   have HB := n1_
   have HO202 := n2_
   clear n0_ n1_ n2_
   clear ho hb hg hat
   refine hK.out _ _ ⟨(blk_cell BK196.out 0).trans rfl, (blk_cell BK196.out 1).trans rfl, (blk_cell BK196.out 2).trans rfl⟩ (fun hHeld => ?_)
   clear hK K
   refine norm_ (a' := ?_) ?_ ?_
   rotate_left
   ·
    show Act.put _ (some 6) _ = _
    simp only [Act.put, List.setIfInBounds_toArray, List.set_cons_zero, List.set_cons_succ, i64_w, i32_w]
    rfl
   refine one_ (i := 6) (N := some 9) #[true, true, true, true, true, true, true, false] rfl rfl (one_of HT_.out (by kernel_rfl)) (by decide) (fun K hK => ?_)
   refine R_append_rows_step (Kd.int .u8) (w0 := w) w.heap.size (by rfl) (.tmp 6) (.tmp 8) 33 5 (.int .u8 0) 1 rfl Tryd.underlying33 info5 rfl (by decide) (by omega) v201 y200 l0_2 _ _ _ (fun _ => True) (fun _ => False) rfl rfl ?aO ?aR (fun _ _ h => h) (fun _ h => h.elim) ?aF ?aB ?aS ?aL ?_
   (case aR => repeat (first | exact (C_below HR0_2.out HB.out) | (with_reducible refine C_alloc ?_ _) | (with_reducible refine C_drewN ?_ _) | (with_reducible refine C_drew ?_)))
   (case aB => exact Zs)
   (case aF => exact (fun _ _ => trivial))
   (case aO => exact (ZR HO202.out))
   (case aS => exact (below_size Zs))
   (case aL => have := LMc3.out; omega)
   intro v204 w9 ho hb hg hat
   rw [← Ny203.out] at ho
   have n0_ := Zh (blk_grown (g := gb196) (o := .cells #[.string a0_0, .slice A0_1 l0_1.length c0_1, .slice A0_2 l0_2.length c0_2] 74 (0, 0)) Zk hg (R_ne HO202.out BK196.out (by decide)))
   have n1_ := Zh (hb)
   have n2_ := Zh (ho)
   clear BK196
   clear HB
   clear HO202
   have BK196 := n0_
   have HB := n1_
   have HO205 := n2_
   clear n0_ n1_ n2_
   clear ho hb hg hat
   refine hK.out _ _ ⟨(blk_cell BK196.out 0).trans rfl, (blk_cell BK196.out 1).trans rfl, (blk_cell BK196.out 2).trans rfl⟩ (fun hHeld => ?_)
   clear hK K
   refine norm_ (a' := ?_) ?_ ?_
   rotate_left
   ·
    show Act.put _ (some 9) _ = _
    simp only [Act.put, List.setIfInBounds_toArray, List.set_cons_zero, List.set_cons_succ, i64_w, i32_w]
    rfl
   refine SQ.pu 7 2 HT_ ?_
   refine done_ (done_of HT_.out (by kernel_rfl)) ?_
   try go_wp2
   go_ret
   exact ⟨_, ZE, ZR HO205.out, Zs⟩
  rw [if_neg c3] at H
  exact absurd H (by simp)
 rw [if_neg c2] at H
 exact absurd H (by simp)
end Go.Proofs.YtmgeffgcihfpcaaDoor.F

namespace Go.Proofs.YtmgeffgcihfpcaaDoor.F
open Go.RowKit Go.Proofs.YtmgeffgcihfpcaaDoorW.PrintWords Go.Proofs.YtmgeffgcihfpcaaDoorW.PrintLast Go.Proofs.YtmgeffgcihfpcaaDoorW.PrintMore
open Go.Proofs.YtmgeffgcihfpcaaDoor
set_option linter.unusedVariables false
set_option linter.unusedSimpArgs false
theorem setFileC {A : Option Addr} {cA m : Nat} {w0 w : World} {l : List LW.It} {g n c : Nat} {xs : List S74} {F G : Nat → Prop} {ys : List Int} (h : LW.St w0 w l) (q p : Nat) (hn : q ≠ p)
    (hq : l[q]? = some (LW.row k74 74 w0.heap.size (.slice (some ⟨g, 0, none⟩) n c) xs F)) (hp : l[p]? = some (LW.row (Kd.int .u8) 5 w0.heap.size (.slice A ys.length cA) ys G)) (i : Int) (h0 : 0 ≤ i) (h1 : i < n) (a : ByteArray) (hm : m ≤ ys.length) :
    LW.St w0 (((w.setCell ⟨g, i.toNat * 3, none⟩ (.string a)).setCell ⟨g, i.toNat * 3 + 1, none⟩ (.slice A m m)).setCell ⟨g, i.toNat * 3 + 2, none⟩ (.slice none 0 0))
      ((l.set q (LW.row k74c 74 w0.heap.size (.slice (some ⟨g, 0, none⟩) n c) (xs.set i.toNat ⟨a, ys.take m, []⟩) (fun k => F k ∨ G k))).set p LW.gone) := by
  have hS := h.own q hq
  have hR := Kd.R_take (Kd.S_R (h.own p hp)) hm
  have hcA := (Kd.S_reads' (h.own p hp)).2.1
  have hd := LW.Its.disj h.i q p _ _ hn hq hp
  have hFg : F g := (Kd.S_R hS).1 g (by simp [Value.ownBlock])
  have hbg := (h.i.all _ (List.mem_of_getElem? hq)).2 g hFg
  have hS2 : Kd.S k74c 74 w w0.heap.size (fun k => (F k ∨ G k) ∧ ¬ G k) (.slice (some ⟨g, 0, none⟩) n c) xs := Kd.S_mono (S_c hS) (fun k hk => ⟨.inl hk, fun h2 => hd k hk h2⟩)
  obtain ⟨oki, cs, hcl, hM, hcc, hfr, hoki, hH⟩ := Kd.S_elem hS2 z74 i h0 h1
  obtain ⟨pp, v1, v2, u1, u2, rfl, hc1, hc2, hA1, hA2⟩ := k74c_openA hM
  have hP := (Kd.S_seg (okg := G) (seg := [.string a, .slice A m m, .slice none 0 0]) (j := 0) hH h0 h1 (show 0 + 3 ≤ 3 by decide) (x' := (⟨a, ys.take m, []⟩ : S74)) (k74c_mkM _ _ _ (⟨a, ys.take m, []⟩ : S74) (u1 := .slice A m cA) (u2 := .slice none 0 0) ⟨A, m, m, cA, rfl, rfl, Nat.le_refl _, by omega⟩ ⟨none, 0, 0, 0, rfl, rfl, Nat.le_refl _, Nat.le_refl _⟩ hR (Kd.R_nil _ _ _ _ _) AP.nil_ne) (fun k hk => .inr hk) (fun k hk => ⟨.inr hk, fun he => hd k (he ▸ hFg) hk⟩))
  refine h.merge q p hn hq hp (LW.row k74c 74 w0.heap.size (.slice (some ⟨g, 0, none⟩) n c) (xs.set i.toNat ⟨a, ys.take m, []⟩) (fun k => F k ∨ G k)) (fun k hk => hk) hP.1 (Zg (Zg (Zg h.b hbg.1) hbg.1) hbg.1) ⟨?_, fun k hk hne => ?_⟩
  · simp [World.setCell]
  have hkg : k ≠ g := fun he => hne (he ▸ hFg)
  rw [Below.heap_setCell _ _ _ k hkg, Below.heap_setCell _ _ _ k hkg, Below.heap_setCell _ _ _ k hkg]
def impl_cutFile.f (k : Nat) (l0_0 : List S74) (a1 : ByteArray) (a2 : Int) : Option (List S74 × Bool) := (impl_copyDisk.f k l0_0).bind fun o => (impl_fileOf.f l0_0 a1).bind fun i => (impl_isDisk.f k l0_0).bind fun t => if t = true then (if i < 0 then some (o, false) else (if i < (l0_0.length : Int) then (if i < (o.length : Int) then (impl_File_content.f (rd_T74 l0_0 i).f0 (rd_T74 l0_0 i).f1 (rd_T74 l0_0 i).f2).bind fun b => if a2 < 0 then some (o, false) else (if a2 > (b.length : Int) then some (o, false) else some (o.set i.toNat (⟨a1, b.take a2.toNat, []⟩ : S74), true)) else none) else none)) else some (o, false)
set_option maxHeartbeats 8000000 in
set_option maxRecDepth 100000 in
theorem impl_cutFile.calls (k : Nat) (A0_0 : Option Addr) (c0_0 : Nat) (l0_0 : List S74) (a1 : ByteArray) (a2 : Int) (r1 : List S74) (r2 : Bool) (w : World) (hr0_0 : Kd.C k74 w A0_0 l0_0.length l0_0) (hc0_0 : l0_0.length ≤ c0_0) (h : impl_cutFile.f k l0_0 a1 a2 = some (r1, r2)) :
    Calls Tryd.prog 73 #[.agg #[.slice A0_0 l0_0.length c0_0], .string a1, .int .i64 a2] w fun e w' => ∃ v0_ : Value, e = .returned (.tuple #[.agg #[v0_], .bool r2]) ∧ Kd.S k74c 74 w' w.heap.size (fun _ => True) v0_ r1 ∧ Below w.heap.size w w' := by
  have HR := Zh hr0_0
  have HC := Zh hc0_0
  clear hr0_0 hc0_0
  have ST := Zh (LW.St.start w)
  unfold impl_cutFile.f at h
  replace h := Option.bind_eq_some_iff.mp h
  obtain ⟨o, HA1, h⟩ := h
  replace h := Option.bind_eq_some_iff.mp h
  obtain ⟨i, HA2, h⟩ := h
  replace h := Option.bind_eq_some_iff.mp h
  obtain ⟨t, HA3, h⟩ := h
  replace HA1 := Zh HA1
  replace HA2 := Zh HA2
  replace HA3 := Zh HA3
  have H := Zh h
  clear h
  go_enter Tryd.func73, Tryd.ntmps73
  go_wp2_with fail
  replace ST := Zh (ST.out.alloc #[.slice A0_0 l0_0.length c0_0] 29 (g := w.heap.size) rfl)
  replace ST := Zh (ST.out.alloc #[.slice none 0 0] 29 (g := w.heap.size + 1) (by simp))
  with_reducible refine (impl_copyDisk.calls k _ _ l0_0 o _ (Kd.C_below HR.out ST.out.b) HC.out HA1.out).mono ?_
  rintro e w1 ⟨v1, rfl, ho, hb⟩
  obtain ⟨A1, c1, rfl⟩ := Kd.S_slice ho
  replace ST := Zh (ST.out.row hb ho)
  clear hb ho
  have hc1 := ST.out.cell 1 rfl 0 (u := .slice none 0 0) rfl
  have hl1 := ST.out.lt 1 rfl
  have hc2 := ST.out.cell 2 rfl 0 (u := .slice A0_0 l0_0.length c0_0) rfl
  have hl2 := ST.out.lt 2 rfl
  go_wp2_with fail
  replace ST := Zh (ST.out.alloc #[.slice A1 o.length c1] 29 (g := w1.heap.size) rfl)
  with_reducible refine (impl_fileOf.calls _ _ l0_0 a1 i _ (Kd.C_below HR.out ST.out.b) HC.out HA2.out).mono ?_
  rintro e w2 ⟨rfl, hb⟩
  replace ST := Zh (ST.out.step hb)
  clear hb
  clear hc1 hl1 hc2 hl2
  have hc1 := ST.out.cell 0 rfl 0 (u := .slice A1 o.length c1) rfl
  have hl1 := ST.out.lt 0 rfl
  have hc2 := ST.out.cell 3 rfl 0 (u := .slice A0_0 l0_0.length c0_0) rfl
  have hl2 := ST.out.lt 3 rfl
  go_wp2_with fail
  with_reducible refine (impl_isDisk.calls k _ _ l0_0 t _ (Kd.C_below HR.out ST.out.b) HC.out HA3.out).mono ?_
  rintro e w3 ⟨rfl, hb⟩
  replace ST := Zh (ST.out.step hb)
  clear hb
  clear hc1 hl1 hc2 hl2
  have hc1 := ST.out.cell 0 rfl 0 (u := .slice A1 o.length c1) rfl
  have hl1 := ST.out.lt 0 rfl
  have hc2 := ST.out.cell 2 rfl 0 (u := .slice none 0 0) rfl
  have hl2 := ST.out.lt 2 rfl
  have h := H.out
  clear H
  by_cases ct : t = true
  · subst ct
    rw [if_pos rfl] at h
    by_cases ci : i < 0
    · rw [if_pos ci] at h
      obtain ⟨rfl, rfl⟩ := Prod.mk.inj (Option.some.inj h)
      clear h
      have cib : decide (i < 0) = true := decide_eq_true ci
      clear ci
      have hf2 := ST.out.frozen 2 rfl 0
      go_wp2_with fail
      replace ST := Zh (ST.out.set 2 rfl 0 (.slice A1 o.length c1))
      refine Zq (results_ct rfl _ _ (w.heap.size + 1) 29 #[.slice A1 o.length c1] (0, 0) _ rfl (ST.out.blk 2 rfl) Tryd.underlying29 rfl (by kernel_rfl)) rfl ?_
      exact ⟨_, rfl, Kd.S_mono (S_c (ST.out.own 1 rfl)) (fun _ _ => trivial), ST.out.b⟩
    rw [if_neg ci] at h
    by_cases cl : i < (l0_0.length : Int)
    · rw [if_pos cl] at h
      by_cases cj : i < (o.length : Int)
      · rw [if_pos cj] at h
        replace h := Option.bind_eq_some_iff.mp h
        obtain ⟨b, HA4, h⟩ := h
        replace HA4 := Zh HA4
        have H := Zh h
        clear h
        have cib : decide (i < 0) = false := decide_eq_false ci
        have ci0 : 0 ≤ i := by omega
        obtain ⟨g, cg, hv, _, _, _⟩ := Kd.S_form (ST.out.own 1 rfl) (by omega)
        injection hv with hv1 hv2 hv3
        subst hv1
        have HI0 := Zh ci0
        have HIL := Zh cl
        have HIO := Zh cj
        have ci0b := eq_true ci0
        have clb := eq_true cl
        have cjb := eq_true cj
        clear ci cl cj ci0 hv2 hv3
        obtain ⟨ad, B1, d1, B2, d2, e, hx0, hx1, hx2, hl1', hi1, hl2', hi2⟩ := at_T74 HR.out i HI0.out HIL.out
        cases e
        replace hx0 := (ST.out.b.cell (Zi w _ hx0)).trans hx0
        replace hx1 := (ST.out.b.cell (Zi w _ hx1)).trans hx1
        replace hx2 := (ST.out.b.cell (Zi w _ hx2)).trans hx2
        clear hc2 hl2
        have hc2 := ST.out.cell 3 rfl 0 (u := .slice (some ad) l0_0.length c0_0) rfl
        have hl2 := ST.out.lt 3 rfl
        go_wp2_with fail
        clear hc1 hl1 hc2 hl2
        have HI1 := Zh hi1
        have HL1 := Zh hl1'
        have HI2 := Zh hi2
        have HL2 := Zh hl2'
        clear hx0 hx1 hx2 hl1' hi1 hl2' hi2
        with_reducible refine (impl_File_content.calls (rd_T74 l0_0 i).f0 _ _ (rd_T74 l0_0 i).f1 _ _ (rd_T74 l0_0 i).f2 b _ (Kd.C_below HI1.out ST.out.b) HL1.out (Kd.C_below HI2.out ST.out.b) HL2.out HA4.out).mono ?_
        rintro e w5 ⟨v5, rfl, ho, hb⟩
        obtain ⟨A5, c5, rfl⟩ := Kd.R_slice ho
        replace ST := Zh (ST.out.rowR rfl hb ho)
        clear hb ho
        have hc1 := ST.out.cell 1 rfl 0 (u := .slice (some ⟨g, 0, none⟩) o.length c1) rfl
        have hl1 := ST.out.lt 1 rfl
        have hc2 := ST.out.cell 3 rfl 0 (u := .slice none 0 0) rfl
        have hl2 := ST.out.lt 3 rfl
        have hf2 := ST.out.frozen 3 rfl 0
        have h := H.out
        clear H
        by_cases d1 : a2 < 0
        · rw [if_pos d1] at h
          obtain ⟨rfl, rfl⟩ := Prod.mk.inj (Option.some.inj h)
          clear h
          have d1b : decide (a2 < 0) = true := decide_eq_true d1
          clear d1
          go_wp2
          replace ST := Zh (ST.out.set 3 rfl 0 (.slice (some ⟨g, 0, none⟩) o.length c1))
          refine Zq (results_ct rfl _ _ (w.heap.size + 1) 29 #[.slice (some ⟨g, 0, none⟩) o.length c1] (0, 0) _ rfl (ST.out.blk 3 rfl) Tryd.underlying29 rfl (by kernel_rfl)) rfl ?_
          exact ⟨_, rfl, Kd.S_mono (S_c (ST.out.own 2 rfl)) (fun _ _ => trivial), ST.out.b⟩
        rw [if_neg d1] at h
        have d1b : decide (a2 < 0) = false := decide_eq_false d1
        by_cases d2 : a2 > (b.length : Int)
        · rw [if_pos d2] at h
          obtain ⟨rfl, rfl⟩ := Prod.mk.inj (Option.some.inj h)
          clear h
          have d2b : decide (a2 > (b.length : Int)) = true := decide_eq_true d2
          clear d1 d2
          go_wp2
          replace ST := Zh (ST.out.set 3 rfl 0 (.slice (some ⟨g, 0, none⟩) o.length c1))
          refine Zq (results_ct rfl _ _ (w.heap.size + 1) 29 #[.slice (some ⟨g, 0, none⟩) o.length c1] (0, 0) _ rfl (ST.out.blk 3 rfl) Tryd.underlying29 rfl (by kernel_rfl)) rfl ?_
          exact ⟨_, rfl, Kd.S_mono (S_c (ST.out.own 2 rfl)) (fun _ _ => trivial), ST.out.b⟩
        rw [if_neg d2] at h
        obtain ⟨rfl, rfl⟩ := Prod.mk.inj (Option.some.inj h)
        clear h
        have d2b : decide (a2 > (b.length : Int)) = false := decide_eq_false d2
        obtain ⟨m, rfl⟩ := Int.eq_ofNat_of_zero_le (show 0 ≤ a2 by omega)
        have hm : m ≤ b.length := by omega
        have hm5 : m ≤ c5 := by have := (ST.out.reads 0 rfl).2.1; omega
        have HM := Zh hm
        clear d1 d2
        go_wp2_with fail
        clear hc1 hl1 hc2 hl2 hf2
        replace ST := Zh ST.out.drew
        refine start_ (n := 11) (S := fun w' => w'.cell? ⟨w1.heap.size, 0, none⟩ = some (.slice (some ⟨g, 0, none⟩) o.length c1)) (ds := [10]) #[false, false, false, false, false, false, false, false, false, false, false] (by kernel_rfl) rfl rfl (ST.out.cell 1 rfl 0 rfl) (fun hHeld => ?_)
        generalize w5.drew = w6 at ST hHeld ⊢
        refine pure_ (i := 0) (N := some 39) (v := ?_) (a' := ?_) #[true, false, false, false, false, false, false, false, false, false, false] rfl rfl (by kernel_rfl) (fun _ _ _ h => h) (Or.inl ⟨by rfl, ?_⟩) ?_ ?_
        rotate_left
        · intro w'
          go_simp
          with_reducible rfl
        rotate_left
        · simp only [Act.put, List.setIfInBounds_toArray, List.set_cons_zero, List.set_cons_succ, i64_w, i32_w]
          rfl
        refine pure_ (i := 2) (N := some 41) (v := ?_) (a' := ?_) #[true, false, true, false, false, false, false, false, false, false, false] rfl rfl (by kernel_rfl) (fun _ _ _ h => h) (Or.inl ⟨by rfl, ?_⟩) ?_ ?_
        rotate_left
        · intro w'
          go_simp
          with_reducible rfl
        rotate_left
        · simp only [Act.put, List.setIfInBounds_toArray, List.set_cons_zero, List.set_cons_succ, i64_w, i32_w]
          rfl
        refine pure_ (i := 3) (N := some 42) (v := ?_) (a' := ?_) #[true, false, true, true, false, false, false, false, false, false, false] rfl rfl (by kernel_rfl) (fun _ _ _ h => h) (Or.inl ⟨by rfl, ?_⟩) ?_ ?_
        rotate_left
        · intro w'
          go_simp
          with_reducible rfl
        rotate_left
        · simp only [Act.put, List.setIfInBounds_toArray, List.set_cons_zero, List.set_cons_succ, i64_w, i32_w]
          rfl
        refine pure_ (i := 4) (N := some 43) (v := ?_) (a' := ?_) #[true, false, true, true, true, false, false, false, false, false, false] rfl rfl (by kernel_rfl) (fun _ _ _ h => h) (Or.inl ⟨by rfl, ?_⟩) ?_ ?_
        rotate_left
        · intro w'
          go_simp
          with_reducible rfl
        rotate_left
        · simp only [Act.put, List.setIfInBounds_toArray, List.set_cons_zero, List.set_cons_succ, i64_w, i32_w]
          rfl
        refine pure_ (i := 5) (N := some 44) (v := ?_) (a' := ?_) #[true, false, true, true, true, true, false, false, false, false, false] rfl rfl (by kernel_rfl) (fun _ _ _ h => h) (Or.inl ⟨by rfl, ?_⟩) ?_ ?_
        rotate_left
        · intro w'
          go_simp
          with_reducible rfl
        rotate_left
        · simp only [Act.put, List.setIfInBounds_toArray, List.set_cons_zero, List.set_cons_succ, i64_w, i32_w]
          rfl
        refine pure_ (i := 6) (N := some 45) (v := ?_) (a' := ?_) #[true, false, true, true, true, true, true, false, false, false, false] rfl rfl (by kernel_rfl) (fun _ _ _ h => h) (Or.inl ⟨by rfl, ?_⟩) ?_ ?_
        rotate_left
        · intro w'
          go_simp
          with_reducible rfl
        rotate_left
        · simp only [Act.put, List.setIfInBounds_toArray, List.set_cons_zero, List.set_cons_succ, i64_w, i32_w]
          rfl
        refine take_ (i := 1) (N := some 40) (v := ?_) (a' := ?_) #[true, true, true, true, true, true, true, false, false, false, false] rfl rfl (by kernel_rfl) (fun _ _ _ h => h) (Or.inl ⟨by rfl, ?_⟩) hHeld ?_ ?_
        rotate_left
        · rintro w' s0
          go_simp
          with_reducible rfl
        rotate_left
        · simp only [Act.put, List.setIfInBounds_toArray, List.set_cons_zero, List.set_cons_succ, i64_w, i32_w]
          rfl
        refine pure_ (i := 7) (N := some 46) (v := ?_) (a' := ?_) #[true, true, true, true, true, true, true, true, false, false, false] rfl rfl (by kernel_rfl) (fun _ _ _ h => h) (Or.inl ⟨by rfl, ?_⟩) ?_ ?_
        rotate_left
        · intro w'
          go_simp
          with_reducible rfl
        rotate_left
        · simp only [Act.put, List.setIfInBounds_toArray, List.set_cons_zero, List.set_cons_succ, i64_w, i32_w]
          rfl
        obtain ⟨oki, cs, hcl, hM, hcc, hfr, hoki, hH⟩ := Kd.S_elem (ST.out.own 2 rfl) z74 i HI0.out HIO.out
        obtain ⟨pp, u1, u2, rfl, hA1, hA2⟩ := k74_openA hM
        have hy0 : w6.cell? ⟨g, i.toNat * 3, none⟩ = some (.string (o.getD i.toNat z74).f0) := hcc 0 _ rfl
        have hy1 : w6.cell? ⟨g, i.toNat * 3 + 1, none⟩ = some u1 := hcc 1 _ rfl
        have hy2 : w6.cell? ⟨g, i.toNat * 3 + 2, none⟩ = some u2 := hcc 2 _ rfl
        have hf0 : w6.frozen? ⟨g, i.toNat * 3, none⟩ = false := hfr 0
        have hf1 : w6.frozen? ⟨g, i.toNat * 3 + 1, none⟩ = false := hfr 1
        have hf2 : w6.frozen? ⟨g, i.toNat * 3 + 2, none⟩ = false := hfr 2
        clear hcl hM hcc hfr hoki hH hA1 hA2
        refine pure_ (i := 8) (N := some 47) (v := ?_) (a' := ?_) #[true, true, true, true, true, true, true, true, true, false, false] rfl rfl (by kernel_rfl) (fun _ _ _ h => h) (Or.inl ⟨by rfl, ?_⟩) ?_ ?_
        rotate_left
        · intro w'
          go_simp
          with_reducible rfl
        rotate_left
        · simp only [Act.put, List.setIfInBounds_toArray, List.set_cons_zero, List.set_cons_succ, i64_w, i32_w]
          rfl
        refine pure_ (i := 9) (N := some 48) (v := ?_) (a' := ?_) #[true, true, true, true, true, true, true, true, true, true, false] rfl rfl (by kernel_rfl) (fun _ _ _ h => h) (Or.inl ⟨by rfl, ?_⟩) ?_ ?_
        rotate_left
        · intro w'
          go_simp
          with_reducible rfl
        rotate_left
        · simp only [Act.put, List.setIfInBounds_toArray, List.set_cons_zero, List.set_cons_succ, i64_w, i32_w]
          rfl
        refine last_ (i := 10) (N := none) #[true, true, true, true, true, true, true, true, true, true, true] rfl rfl (by kernel_rfl) (by decide) (fun K hK => ?_)
        refine skip_ (w1 := ?_) (by rfl) rfl ?_ ?_
        rotate_left
        · go_simp
          rfl
        refine hK.out _ _ ?_
        clear hK K
        refine done_ (by kernel_rfl) ?_
        clear hy0 hy1 hy2 hf0 hf1 hf2 hHeld
        replace ST := Zh (setFileC (m := m) ST.out 2 0 (by decide) rfl rfl i HI0.out HIO.out a1 HM.out)
        generalize (((w6.setCell ⟨g, i.toNat * 3, none⟩ (.string a1)).setCell ⟨g, i.toNat * 3 + 1, none⟩ (.slice A5 m m)).setCell ⟨g, i.toNat * 3 + 2, none⟩ (.slice none 0 0)) = w7 at ST ⊢
        have hc1 := ST.out.cell 1 rfl 0 (u := .slice (some ⟨g, 0, none⟩) o.length c1) rfl
        have hl1 := ST.out.lt 1 rfl
        have hc2 := ST.out.cell 3 rfl 0 (u := .slice none 0 0) rfl
        have hl2 := ST.out.lt 3 rfl
        have hf2 := ST.out.frozen 3 rfl 0
        go_wp2
        replace ST := Zh (ST.out.set 3 rfl 0 (.slice (some ⟨g, 0, none⟩) o.length c1))
        refine Zq (results_ct rfl _ _ (w.heap.size + 1) 29 #[.slice (some ⟨g, 0, none⟩) o.length c1] (0, 0) _ rfl (ST.out.blk 3 rfl) Tryd.underlying29 rfl (by kernel_rfl)) rfl ?_
        exact ⟨_, rfl, Kd.S_mono (ST.out.own 2 rfl) (fun _ _ => trivial), ST.out.b⟩
      rw [if_neg cj] at h
      exact absurd h (by simp)
    rw [if_neg cl] at h
    exact absurd h (by simp)
  rw [if_neg ct] at h
  obtain rfl : t = false := by simpa using ct
  obtain ⟨rfl, rfl⟩ := Prod.mk.inj (Option.some.inj h)
  clear h ct
  have hf2 := ST.out.frozen 2 rfl 0
  go_wp2_with fail
  replace ST := Zh (ST.out.set 2 rfl 0 (.slice A1 o.length c1))
  refine Zq (results_ct rfl _ _ (w.heap.size + 1) 29 #[.slice A1 o.length c1] (0, 0) _ rfl (ST.out.blk 2 rfl) Tryd.underlying29 rfl (by kernel_rfl)) rfl ?_
  exact ⟨_, rfl, Kd.S_mono (S_c (ST.out.own 1 rfl)) (fun _ _ => trivial), ST.out.b⟩
def impl_CutFile.f (k : Nat) (l0_0 : List S74) (a1 : ByteArray) (a2 : Int) : Option (List S74 × Bool) := impl_cutFile.f k l0_0 a1 a2
set_option maxHeartbeats 8000000 in
theorem impl_CutFile.calls (k : Nat) (A0_0 : Option Addr) (c0_0 : Nat) (l0_0 : List S74) (a1 : ByteArray) (a2 : Int) (r1 : List S74) (r2 : Bool) (w : World) (hr0_0 : Kd.C k74 w A0_0 l0_0.length l0_0) (hc0_0 : l0_0.length ≤ c0_0) (h : impl_CutFile.f k l0_0 a1 a2 = some (r1, r2)) :
    Calls Tryd.prog 31 #[.agg #[.slice A0_0 l0_0.length c0_0], .string a1, .int .i64 a2] w fun e w' => ∃ v0_ : Value, e = .returned (.tuple #[.agg #[v0_], .bool r2]) ∧ Kd.S k74c 74 w' w.heap.size (fun _ => True) v0_ r1 ∧ Below w.heap.size w w' := by
  have HR := Zh hr0_0
  have HC := Zh hc0_0
  have HA := Zh (show impl_cutFile.f k l0_0 a1 a2 = some (r1, r2) from h)
  clear hr0_0 hc0_0 h
  have ST := Zh (LW.St.start w)
  go_enter Tryd.func31, Tryd.ntmps31
  go_wp2_with fail
  replace ST := Zh (ST.out.alloc #[.slice A0_0 l0_0.length c0_0] 29 (g := w.heap.size) rfl)
  replace ST := Zh (ST.out.alloc #[.slice none 0 0] 29 (g := w.heap.size + 1) (by simp))
  with_reducible refine (impl_cutFile.calls k _ _ l0_0 a1 a2 r1 r2 _ (Kd.C_below HR.out ST.out.b) HC.out HA.out).mono ?_
  rintro e w1 ⟨v1, rfl, ho, hb⟩
  obtain ⟨A1, c1, rfl⟩ := Kd.S_slice ho
  replace ST := Zh (ST.out.row hb ho)
  clear hb ho
  have hc1 := ST.out.cell 1 rfl 0 (u := .slice none 0 0) rfl
  have hl1 := ST.out.lt 1 rfl
  have hf1 := ST.out.frozen 1 rfl 0
  go_wp2
  replace ST := Zh (ST.out.set 1 rfl 0 (.slice A1 r1.length c1))
  refine Zq (results_ct rfl _ _ (w.heap.size + 1) 29 #[.slice A1 r1.length c1] (0, 0) _ rfl (ST.out.blk 1 rfl) Tryd.underlying29 rfl (by kernel_rfl)) rfl ?_
  exact ⟨_, rfl, Kd.S_mono (ST.out.own 0 rfl) (fun _ _ => trivial), ST.out.b⟩
end Go.Proofs.YtmgeffgcihfpcaaDoor.F

namespace Go.Proofs.YtmgeffgcihfpcaaDoor.F
open Go.RowKit Go.Proofs.YtmgeffgcihfpcaaDoorW.PrintWords Go.Proofs.YtmgeffgcihfpcaaDoorW.PrintWords.Kd Go.Proofs.YtmgeffgcihfpcaaDoorW.PrintMore.Kd Go.Proofs.YtmgeffgcihfpcaaDoorW.PrintLast Go.Proofs.YtmgeffgcihfpcaaDoorW.PrintMore
attribute [local go_sem] max2_int min2_int max_two min_two max_three min_three max_four min_four   -- for this text's walks alone
set_option linter.unusedVariables false
set_option linter.unusedSimpArgs false
def IsS108 (w0 W : World) (g : Nat) (f0 : List Int) (f1 : Int) (f2 : Int) : Prop := ∃ A0 c0, W.heap[g]? = some (.cells #[.slice A0 f0.length c0, .int .i64 f1, .int .i64 f2] 108 (0, 0)) ∧ w0.heap.size ≤ g ∧ Kd.C (Kd.int .u8) w0 A0 f0.length f0
theorem IsS108.grown {w0 W : World} {g : Nat} {f0 : List Int} {f1 : Int} {f2 : Int} {W1 : World} {row : Option Nat} (h : IsS108 w0 W g f0 f1 f2) (hw : W.grownBy W1 row) (hne : some g ≠ row) : IsS108 w0 W1 g f0 f1 f2 := by
 obtain ⟨A0, c0, hb, hg, hr0⟩ := h
 exact ⟨A0, c0, blk_grown hb hw hne, hg, hr0⟩
theorem IsS108.kept {w0 W : World} {g : Nat} {f0 : List Int} {f1 : Int} {f2 : Int} {W1 : World} {S : Nat → Prop} (h : IsS108 w0 W g f0 f1 f2) (hk : Kept W W1 S) (hne : ¬ S g) : IsS108 w0 W1 g f0 f1 f2 := by
 obtain ⟨A0, c0, hb, hg, hr0⟩ := h
 exact ⟨A0, c0, blk_kept hb hk hne, hg, hr0⟩
theorem IsS108.below {w0 W : World} {g : Nat} {f0 : List Int} {f1 : Int} {f2 : Int} {W1 : World} (h : IsS108 w0 W g f0 f1 f2) (hw : Below W.heap.size W W1) : IsS108 w0 W1 g f0 f1 f2 := h.grown (grown_of_below hw none) (by simp)
theorem IsS108.alloc {w0 W : World} {g : Nat} {f0 : List Int} {f1 : Int} {f2 : Int} (h : IsS108 w0 W g f0 f1 f2) (o : Obj) : IsS108 w0 (W.alloc o) g f0 f1 f2 := h.below (Zf (Below.refl _ _) o)
theorem IsS108.drewN {w0 W : World} {g : Nat} {f0 : List Int} {f1 : Int} {f2 : Int} (h : IsS108 w0 W g f0 f1 f2) (m : Nat) : IsS108 w0 (W.drewN m) g f0 f1 f2 := h
theorem IsS108.drew {w0 W : World} {g : Nat} {f0 : List Int} {f1 : Int} {f2 : Int} (h : IsS108 w0 W g f0 f1 f2) : IsS108 w0 W.drew g f0 f1 f2 := h
theorem IsS108.at_ {w0 W : World} {g : Nat} {f0 : List Int} {f1 : Int} {f2 : Int} {w' : World} {m : Nat} (hq : W.drewN m = w') (h : IsS108 w0 W g f0 f1 f2) : IsS108 w0 w' g f0 f1 f2 := by subst hq; exact IsS108.drewN h m
theorem IsS108.apart {w0 W : World} {g : Nat} {f0 : List Int} {f1 : Int} {f2 : Int} {α : Type} {d : Kd α} {e : Nat} {base : Nat} {ok : Nat → Prop} {v : Value} {xs : List α} (h : IsS108 w0 W g f0 f1 f2) (ho : d.R e W base ok v xs) (ht : ∀ q, q ∈ e :: d.E → q ≠ 108) : d.R e W base (fun k => ok k ∧ k ≠ g) v xs := by
 obtain ⟨A0, c0, hb, hg, hr0⟩ := h
 exact R_types ho hb ht
theorem IsS108.own_ne {w0 W : World} {g : Nat} {f0 : List Int} {f1 : Int} {f2 : Int} {α : Type} {d : Kd α} {e : Nat} {base : Nat} {ok : Nat → Prop} {v : Value} {xs : List α} (h : IsS108 w0 W g f0 f1 f2) (ho : d.R e W base ok v xs) (ht : e ≠ 108) : some g ≠ v.ownBlock := by
 obtain ⟨A0, c0, hb, hg, hr0⟩ := h
 exact R_ne ho hb ht
theorem IsS108.apartS {w0 W : World} {g : Nat} {f0 : List Int} {f1 : Int} {f2 : Int} {α : Type} {d : Kd α} {e : Nat} {base : Nat} {ok : Nat → Prop} {v : Value} {xs : List α} (h : IsS108 w0 W g f0 f1 f2) (ho : d.S e W base ok v xs) (ht : ∀ q, q ∈ e :: d.E → q ≠ 108) : d.S e W base (fun k => ok k ∧ k ≠ g) v xs := by
 obtain ⟨A0, c0, hb, hg, hr0⟩ := h
 exact S_types ho hb ht
theorem IsS108.own_neS {w0 W : World} {g : Nat} {f0 : List Int} {f1 : Int} {f2 : Int} {α : Type} {d : Kd α} {e : Nat} {base : Nat} {ok : Nat → Prop} {v : Value} {xs : List α} (h : IsS108 w0 W g f0 f1 f2) (ho : d.S e W base ok v xs) (ht : e ≠ 108) : some g ≠ v.ownBlock := by
 obtain ⟨A0, c0, hb, hg, hr0⟩ := h
 exact S_ne ho hb ht
theorem IsS108.lt {w0 W : World} {g : Nat} {f0 : List Int} {f1 : Int} {f2 : Int} (h : IsS108 w0 W g f0 f1 f2) : g < W.heap.size := by
 obtain ⟨A0, c0, hb, hg, hr0⟩ := h
 exact blk_lt hb
theorem IsS108.ge {w0 W : World} {g : Nat} {f0 : List Int} {f1 : Int} {f2 : Int} (h : IsS108 w0 W g f0 f1 f2) : w0.heap.size ≤ g := by
 obtain ⟨A0, c0, hb, hg, hr0⟩ := h
 exact hg
theorem IsS108.ne_blk {w0 W : World} {g : Nat} {f0 : List Int} {f1 : Int} {f2 : Int} {a : Nat} {cs : Array Value} {t : TypeId} {fr : Nat × Nat} (h : IsS108 w0 W g f0 f1 f2) (hb2 : W.heap[a]? = some (.cells cs t fr)) (ht : t ≠ 108) : g ≠ a := by
 obtain ⟨A0, c0, hb, hg, hr0⟩ := h
 rintro rfl
 rw [hb] at hb2
 injection hb2 with hb2
 injection hb2 with _ ht2
 exact ht ht2.symm
theorem IsS108.far {w0 W : World} {g : Nat} {f0 : List Int} {f1 : Int} {f2 : Int} {p : Addr} (h : IsS108 w0 W g f0 f1 f2) (hne : g ≠ p.block) (u : Value) : IsS108 w0 (W.setCell p u) g f0 f1 f2 := by
 obtain ⟨A0, c0, hb, hg, hr0⟩ := h
 exact ⟨A0, c0, blk_far hb hne u, hg, hr0⟩
theorem cellS108_0 {W : World} {g : Nat} {A0 : Option Addr} {c0 : Nat} {f0 : List Int} {f1 : Int} {f2 : Int} (h : W.heap[g]? = some (.cells #[.slice A0 f0.length c0, .int .i64 f1, .int .i64 f2] 108 (0, 0))) : W.cell? ⟨g, 0, none⟩ = some (.slice A0 f0.length c0) := (blk_cell h 0).trans rfl
theorem cellS108_1 {W : World} {g : Nat} {A0 : Option Addr} {c0 : Nat} {f0 : List Int} {f1 : Int} {f2 : Int} (h : W.heap[g]? = some (.cells #[.slice A0 f0.length c0, .int .i64 f1, .int .i64 f2] 108 (0, 0))) : W.cell? ⟨g, 1, none⟩ = some (.int .i64 f1) := (blk_cell h 1).trans rfl
theorem IsS108.set_1 {w0 W : World} {g : Nat} {f0 : List Int} {f1 : Int} {f2 : Int} (h : IsS108 w0 W g f0 f1 f2) (x : Int) : IsS108 w0 (W.setCell ⟨g, 1, none⟩ (.int .i64 x)) g f0 x f2 := by
 obtain ⟨A0, c0, hb, hg, hr0⟩ := h
 exact ⟨A0, c0, by simpa using blk_set hb 1 (.int .i64 x), hg, hr0⟩
theorem cellS108_2 {W : World} {g : Nat} {A0 : Option Addr} {c0 : Nat} {f0 : List Int} {f1 : Int} {f2 : Int} (h : W.heap[g]? = some (.cells #[.slice A0 f0.length c0, .int .i64 f1, .int .i64 f2] 108 (0, 0))) : W.cell? ⟨g, 2, none⟩ = some (.int .i64 f2) := (blk_cell h 2).trans rfl
theorem IsS108.set_2 {w0 W : World} {g : Nat} {f0 : List Int} {f1 : Int} {f2 : Int} (h : IsS108 w0 W g f0 f1 f2) (x : Int) : IsS108 w0 (W.setCell ⟨g, 2, none⟩ (.int .i64 x)) g f0 f1 x := by
 obtain ⟨A0, c0, hb, hg, hr0⟩ := h
 exact ⟨A0, c0, by simpa using blk_set hb 2 (.int .i64 x), hg, hr0⟩
def spec_l01New.l0 : Nat → List Int → Int → Int → Option (List Int × Int × Int)
 | 0, _, _, _ => none
 | k + 1, x0, x3, x4 => if x4 < (x0.length : Int) then (if x4 < 4000 then (if 0 ≤ x4 then (spec_l01New.l0 k x0 (Go.bits .and .i64 (wrap64 ((wrap64 ((wrap64 (x3 * 149)) + (wrap64 (rd x0 x4)))) + 11)) 1073741823) (wrap64 (x4 + 1))) else (none)) else (some (x0, 0, x3))) else (some (x0, 0, x3))
def spec_l01New.f (k : Nat) (l0 : List Int) : Option (List Int × Int × Int) := spec_l01New.l0 k l0 (wrap64 (138138 + (l0.length : Int))) 0
set_option maxHeartbeats 8000000 in
set_option maxRecDepth 100000 in
theorem spec_l01New.calls (k : Nat) (A0 : Option Addr) (c0 : Nat) (l0 : List Int) (r1 : List Int) (r2 : Int) (r3 : Int) (w0 w : World) (hB : Below w0.heap.size w0 w) (hr0 : Kd.C (Kd.int .u8) w0 A0 l0.length l0) (hc0 : l0.length ≤ c0) (h : spec_l01New.f k l0 = some (r1, r2, r3)) :
  Calls Tryd.prog 84 #[.slice A0 l0.length c0] w fun e w' => ∃ g_ : Nat, e = .returned (.pointer (some ⟨g_, 0, none⟩)) ∧ IsS108 w0 w' g_ r1 r2 r3 ∧ Below w0.heap.size w0 w' ∧ Below w.heap.size w w' := by
 have hu108 := Tryd.underlying108
 have HR0 := Zh hr0
 have HC0 := Zh hc0
 clear hr0 hc0
 have HBW := Zh (Below.refl w.heap.size w)
 have HW0 := Zh hB.size
 have HB := Zh hB
 clear hB
 have H : (spec_l01New.l0 k l0 (wrap64 (138138 + (l0.length : Int))) 0) = some (r1, r2, r3) := h
 clear h
 have H' := Zh H
 clear H
 go_enter Tryd.func84, Tryd.ntmps84
 go_wp2
 go_loopg [3, 4] k (fun kq v3 v4 w' => ∃ (x3_1 : Int) (x4_1 : Int), v3 = .int .i64 x3_1 ∧ v4 = .int .i64 x4_1 ∧ Aside0 (spec_l01New.l0 kq l0 x3_1 x4_1 = some (r1, r2, r3)) ∧ Aside0 (kq ≤ k) ∧ Aside0 (Below w.heap.size w w') ∧ Aside0 (Below w0.heap.size w0 w'))
 case atStart => exact ⟨(wrap64 (138138 + (l0.length : Int))), (0), (by first | rfl | (simp; done) | (simp [*]; done)), (by first | rfl | (simp; done) | (simp [*]; done)), H', ⟨Nat.le_refl _⟩, ⟨by repeat (first | (with_reducible first | exact HBW.out | apply Zf | apply Zd | apply Ze) | exact HBW.out)⟩, ⟨Zs⟩⟩
 case round =>
  clear H'
  obtain ⟨x3_1, x4_1, rfl, rfl, HA, HK1, HBW, HB⟩ := hrel
  cases gk with
  | zero => exact absurd HA.out (by simp [spec_l01New.l0])
  | succ k1 =>
   have H := HA.out
   clear HA
   simp only [spec_l01New.l0] at H
   by_cases c2 : x4_1 < (l0.length : Int)
   ·
    rw [if_pos c2] at H
    have c2b0 : decide (x4_1 < (l0.length : Int)) = true := decide_eq_true c2
    clear c2
    by_cases c3 : x4_1 < 4000
    ·
     rw [if_pos c3] at H
     have c3b0 : decide (x4_1 < 4000) = true := decide_eq_true c3
     clear c3
     by_cases c4 : 0 ≤ x4_1
     ·
      rw [if_pos c4] at H
      have c4b0 : decide (0 ≤ x4_1) = true := decide_eq_true c4
      clear c4
      have H' := Zh H
      clear H
      have p516 : 0 ≤ (x4_1 : Int) := Zo
      have q516 : x4_1 < (l0.length : Int) := Zo
      obtain ⟨ad516, e516, hx516_0⟩ := Kd.at_int HR0.out x4_1 p516 q516
      cases e516
      replace hx516_0 := pw_cell_below HB.out hx516_0
      replace p516 := eq_true p516
      replace q516 := eq_true q516
      go_wp2
      go_roundg k1
      case measure => have := HK1.out; omega
      case rel => exact ⟨(Go.bits .and .i64 (wrap64 ((wrap64 ((wrap64 (x3_1 * 149)) + (wrap64 (rd l0 x4_1)))) + 11)) 1073741823), (wrap64 (x4_1 + 1)), (by first | rfl | (simp; done) | (simp [*]; done)), (by first | rfl | (simp; done) | (simp [*]; done)), H', ⟨by have := HK1.out; omega⟩, ⟨by repeat (first | (with_reducible first | exact HBW.out | apply Zf | apply Zd | apply Ze) | exact HBW.out)⟩, ⟨Zs⟩⟩
     rw [if_neg c4] at H
     exact absurd H (by simp)
    rw [if_neg c3] at H
    have c3b0 : decide (x4_1 < 4000) = false := decide_eq_false c3
    clear c3
    simp only [Option.some.injEq, Prod.mk.injEq] at H
    obtain ⟨rfl, rfl, rfl⟩ := H
    go_wp2_with (first | ((with_reducible refine gate_dst (N := 31) rfl ?_); refine box_event ?hg (N := 31) ?hd (cs := #[.slice A0 l0.length c0, .int .i64 0, .int .i64 x3_1]) (t := 108) ?hr ?_; (case hd => rfl); (case hg => rfl); (case hr => first | (go_simp; done) | (go_simp; rfl)); intro gb517 hg w5 hbox hb; replace HB := Zh (Zl Zs hb); have BK517 := Zh (hbox); have GW517 := Zh ((by rw [hg]; exact (below_size (by repeat (first | (with_reducible first | exact HBW.out | apply Zf | apply Zd | apply Ze) | exact HBW.out))) : w.heap.size ≤ gb517)); have GE517 := Zh ((Nat.le_trans HW0.out (by rw [hg]; exact (below_size (by repeat (first | (with_reducible first | exact HBW.out | apply Zf | apply Zd | apply Ze) | exact HBW.out))) : w.heap.size ≤ gb517) : w0.heap.size ≤ gb517)); replace HBW := Zh (Zl HBW.out hb); clear hb hbox hg))
    go_ret
    exact ⟨_, rfl, (show IsS108 w0 _ gb517 l0 0 x3_1 from ⟨_, _, Zk, GE517.out, HR0.out⟩), Zs, by repeat (first | (with_reducible first | exact HBW.out | apply Zf | apply Zd | apply Ze | refine Zg ?_ GW517.out) | exact HBW.out)⟩
   rw [if_neg c2] at H
   have c2b0 : decide (x4_1 < (l0.length : Int)) = false := decide_eq_false c2
   clear c2
   simp only [Option.some.injEq, Prod.mk.injEq] at H
   obtain ⟨rfl, rfl, rfl⟩ := H
   go_wp2_with (first | ((with_reducible refine gate_dst (N := 31) rfl ?_); refine box_event ?hg (N := 31) ?hd (cs := #[.slice A0 l0.length c0, .int .i64 0, .int .i64 x3_1]) (t := 108) ?hr ?_; (case hd => rfl); (case hg => rfl); (case hr => first | (go_simp; done) | (go_simp; rfl)); intro gb518 hg w6 hbox hb; replace HB := Zh (Zl Zs hb); have BK518 := Zh (hbox); have GW518 := Zh ((by rw [hg]; exact (below_size (by repeat (first | (with_reducible first | exact HBW.out | apply Zf | apply Zd | apply Ze) | exact HBW.out))) : w.heap.size ≤ gb518)); have GE518 := Zh ((Nat.le_trans HW0.out (by rw [hg]; exact (below_size (by repeat (first | (with_reducible first | exact HBW.out | apply Zf | apply Zd | apply Ze) | exact HBW.out))) : w.heap.size ≤ gb518) : w0.heap.size ≤ gb518)); replace HBW := Zh (Zl HBW.out hb); clear hb hbox hg))
   go_ret
   exact ⟨_, rfl, (show IsS108 w0 _ gb518 l0 0 x3_1 from ⟨_, _, Zk, GE518.out, HR0.out⟩), Zs, by repeat (first | (with_reducible first | exact HBW.out | apply Zf | apply Zd | apply Ze | refine Zg ?_ GW518.out) | exact HBW.out)⟩
def spec_l01Size.f (l0 : List Int) (a1 : Int) : Option (Int) := if (wrap64 (2 + (wrap64 ((l0.length : Int) / 16)))) > a1 then (some a1) else (some (wrap64 (2 + (wrap64 ((l0.length : Int) / 16)))))
set_option maxHeartbeats 8000000 in
set_option maxRecDepth 100000 in
theorem spec_l01Size.calls (A0 : Option Addr) (c0 : Nat) (l0 : List Int) (a1 : Int) (r : Int) (w : World) (hr0 : Kd.C (Kd.int .u8) w A0 l0.length l0) (hc0 : l0.length ≤ c0) (h : spec_l01Size.f l0 a1 = some r) :
  Calls Tryd.prog 100 #[.slice A0 l0.length c0, .int .i64 a1] w fun e w' => e = .returned (.int .i64 r) ∧ Drawn0 w w' := by
 have HR0 := Zh hr0
 have HC0 := Zh hc0
 clear hr0 hc0
 have H : (if (wrap64 (2 + (wrap64 ((l0.length : Int) / 16)))) > a1 then (some a1) else (some (wrap64 (2 + (wrap64 ((l0.length : Int) / 16)))))) = some r := h
 clear h
 by_cases c3 : (wrap64 (2 + (wrap64 ((l0.length : Int) / 16)))) > a1
 ·
  rw [if_pos c3] at H
  have c3b0 : decide (a1 < (wrap64 (2 + (wrap64 ((l0.length : Int) / 16))))) = true := decide_eq_true c3
  clear c3
  obtain rfl := Option.some.inj H
  go_enter Tryd.func100, Tryd.ntmps100
  go_wp2
  go_ret
  exact ⟨by first | rfl | (simp; done) | (simp [*]; done), by repeat (first | exact Drawn0.refl _ | apply Drawn0.step)⟩
 rw [if_neg c3] at H
 have c3b0 : decide (a1 < (wrap64 (2 + (wrap64 ((l0.length : Int) / 16))))) = false := decide_eq_false c3
 clear c3
 obtain rfl := Option.some.inj H
 go_enter Tryd.func100, Tryd.ntmps100
 go_wp2
 go_ret
 exact ⟨by first | rfl | (simp; done) | (simp [*]; done), by repeat (first | exact Drawn0.refl _ | apply Drawn0.step)⟩
def spec_l01Byte.f (s0_0 : List Int) (s0_1 : Int) (s0_2 : Int) : Option (Int × Int × Int) := if s0_1 < (s0_0.length : Int) then (if 0 ≤ s0_1 then (some (Go.bits .and .i64 (wrap64 ((Go.bits .and .i64 (Go.bits .xor .i64 ((wrap64 ((wrap64 (s0_2 * 6364136223846793005)) + 1442695040888963407)) / 8589934592) ((wrap64 ((wrap64 (s0_2 * 6364136223846793005)) + 1442695040888963407)) / 35184372088832)) 255) + (wrap64 (rd s0_0 s0_1)))) 255, wrap64 (s0_1 + 1), wrap64 ((wrap64 (s0_2 * 6364136223846793005)) + 1442695040888963407))) else (none)) else (some (Go.bits .and .i64 (Go.bits .xor .i64 ((wrap64 ((wrap64 (s0_2 * 6364136223846793005)) + 1442695040888963407)) / 8589934592) ((wrap64 ((wrap64 (s0_2 * 6364136223846793005)) + 1442695040888963407)) / 35184372088832)) 255, s0_1, wrap64 ((wrap64 (s0_2 * 6364136223846793005)) + 1442695040888963407)))
set_option maxHeartbeats 8000000 in
set_option maxRecDepth 100000 in
theorem spec_l01Byte.calls (g : Nat) (s0_0 : List Int) (s0_1 : Int) (s0_2 : Int) (r1 : Int) (r2 : Int) (r3 : Int) (w0 w : World) (hI : IsS108 w0 w g s0_0 s0_1 s0_2) (hB : Below w0.heap.size w0 w) (h : spec_l01Byte.f s0_0 s0_1 s0_2 = some (r1, r2, r3)) :
  Calls Tryd.prog 106 #[.pointer (some ⟨g, 0, none⟩)] w fun e w' => e = .returned (.int .i64 r1) ∧ IsS108 w0 w' g s0_0 r2 r3 ∧ Below w0.heap.size w0 w' ∧ KeepBut w w' g none := by
 have HI0 := Zh hI
 have HK := Zh (KeepBut.refl w g none)
 have HL := Zh hB.size
 clear hI
 have HW0 := Zh hB.size
 have HB := Zh hB
 clear hB
 have H : (if s0_1 < (s0_0.length : Int) then (if 0 ≤ s0_1 then (some (Go.bits .and .i64 (wrap64 ((Go.bits .and .i64 (Go.bits .xor .i64 ((wrap64 ((wrap64 (s0_2 * 6364136223846793005)) + 1442695040888963407)) / 8589934592) ((wrap64 ((wrap64 (s0_2 * 6364136223846793005)) + 1442695040888963407)) / 35184372088832)) 255) + (wrap64 (rd s0_0 s0_1)))) 255, wrap64 (s0_1 + 1), wrap64 ((wrap64 (s0_2 * 6364136223846793005)) + 1442695040888963407))) else (none)) else (some (Go.bits .and .i64 (Go.bits .xor .i64 ((wrap64 ((wrap64 (s0_2 * 6364136223846793005)) + 1442695040888963407)) / 8589934592) ((wrap64 ((wrap64 (s0_2 * 6364136223846793005)) + 1442695040888963407)) / 35184372088832)) 255, s0_1, wrap64 ((wrap64 (s0_2 * 6364136223846793005)) + 1442695040888963407)))) = some (r1, r2, r3) := h
 clear h
 by_cases c2 : s0_1 < (s0_0.length : Int)
 ·
  rw [if_pos c2] at H
  have c2b0 : decide (s0_1 < (s0_0.length : Int)) = true := decide_eq_true c2
  clear c2
  by_cases c3 : 0 ≤ s0_1
  ·
   rw [if_pos c3] at H
   have c3b0 : decide (0 ≤ s0_1) = true := decide_eq_true c3
   clear c3
   simp only [Option.some.injEq, Prod.mk.injEq] at H
   obtain ⟨rfl, rfl, rfl⟩ := H
   obtain ⟨ASz4_0, cSz4_0, HGz4, hgz4, HSz4_0⟩ := HI0.out
   have hcz4_0 := cellS108_0 HGz4
   have hcz4_1 := cellS108_1 HGz4
   have hcz4_2 := cellS108_2 HGz4
   have hfz4_1 := Zn HGz4 1
   have hfz4_2 := Zn HGz4 2
   clear HGz4 hgz4
   have p519 : 0 ≤ (s0_1 : Int) := Zo
   have q519 : s0_1 < (s0_0.length : Int) := Zo
   obtain ⟨ad519, e519, hx519_0⟩ := Kd.at_int HSz4_0 s0_1 p519 q519
   cases e519
   have hn519_0 : ad519.block ≠ g := Nat.ne_of_lt (Nat.lt_of_lt_of_le (by have := Zi _ _ hx519_0; first | rwa [add_block] at this | exact this) (IsS108.ge HI0.out))
   replace hx519_0 := pw_cell_below HB.out hx519_0
   replace hx519_0 := (cell_far (p := ⟨g, 2, none⟩) (by first | (rw [add_block]; exact hn519_0) | (show (Addr.add _ _).block ≠ _; rw [add_block]; exact hn519_0) | exact hn519_0) (.int .i64 (wrap64 ((wrap64 (s0_2 * 6364136223846793005)) + 1442695040888963407)))).trans hx519_0
   (try have hy519_0 := fun (n_ : Nat) => (show (((w.drewN n_).setCell ⟨g, 2, none⟩ (.int .i64 (wrap64 ((wrap64 (s0_2 * 6364136223846793005)) + 1442695040888963407))))).cell? _ = some _ from hx519_0))
   clear hn519_0
   replace p519 := eq_true p519
   replace q519 := eq_true q519
   go_enter Tryd.func106, Tryd.ntmps106
   go_wp2
   repeat (go_quiet (fail); try go_wp2)
   go_ret
   exact ⟨ZE, by repeat (first | (with_reducible first | exact HI0.out | apply IsS108.alloc | apply IsS108.drewN | apply IsS108.drew | apply IsS108.set_1 | apply IsS108.set_2) | exact HI0.out), by repeat (first | (with_reducible first | exact HB.out | apply Zf | apply Zd | apply Ze | refine Zg ?_ (IsS108.ge HI0.out)) | exact HB.out), by repeat (first | (with_reducible first | exact HK.out | apply KeepBut.set_ | apply keep_drewN | apply keep_drew | apply keep_alloc) | exact HK.out)⟩
  rw [if_neg c3] at H
  exact absurd H (by simp)
 rw [if_neg c2] at H
 have c2b0 : decide (s0_1 < (s0_0.length : Int)) = false := decide_eq_false c2
 clear c2
 simp only [Option.some.injEq, Prod.mk.injEq] at H
 obtain ⟨rfl, rfl, rfl⟩ := H
 obtain ⟨ASz5_0, cSz5_0, HGz5, hgz5, HSz5_0⟩ := HI0.out
 have hcz5_0 := cellS108_0 HGz5
 have hcz5_1 := cellS108_1 HGz5
 have hcz5_2 := cellS108_2 HGz5
 have hfz5_1 := Zn HGz5 1
 have hfz5_2 := Zn HGz5 2
 clear HGz5 hgz5
 go_enter Tryd.func106, Tryd.ntmps106
 go_wp2
 repeat (go_quiet (fail); try go_wp2)
 go_ret
 exact ⟨ZE, by repeat (first | (with_reducible first | exact HI0.out | apply IsS108.alloc | apply IsS108.drewN | apply IsS108.drew | apply IsS108.set_1 | apply IsS108.set_2) | exact HI0.out), by repeat (first | (with_reducible first | exact HB.out | apply Zf | apply Zd | apply Ze | refine Zg ?_ (IsS108.ge HI0.out)) | exact HB.out), by repeat (first | (with_reducible first | exact HK.out | apply KeepBut.set_ | apply keep_drewN | apply keep_drew | apply keep_alloc) | exact HK.out)⟩
def spec_l01Below.f (s0_0 : List Int) (s0_1 : Int) (s0_2 : Int) (a1 : Int) : Option (Int × Int × Int) := if a1 ≤ 0 then (some (0, s0_1, s0_2)) else (if a1 ≤ 256 then ((spec_l01Byte.f s0_0 s0_1 s0_2).bind fun bt520 => (if a1 = 0 then (none) else (some (Int.tmod bt520.1 a1, bt520.2.1, bt520.2.2)))) else ((spec_l01Byte.f s0_0 s0_1 s0_2).bind fun bt523 => ((spec_l01Byte.f s0_0 bt523.2.1 bt523.2.2).bind fun bt526 => ((spec_l01Byte.f s0_0 bt526.2.1 bt526.2.2).bind fun bt529 => (if a1 = 0 then (none) else (some (Int.tmod (wrap64 ((wrap64 ((wrap64 (bt523.1 * 65536)) + (wrap64 (bt526.1 * 256)))) + bt529.1)) a1, bt529.2.1, bt529.2.2)))))))
set_option maxHeartbeats 8000000 in
set_option maxRecDepth 100000 in
theorem spec_l01Below.calls (g : Nat) (s0_0 : List Int) (s0_1 : Int) (s0_2 : Int) (a1 : Int) (r1 : Int) (r2 : Int) (r3 : Int) (w0 w : World) (hI : IsS108 w0 w g s0_0 s0_1 s0_2) (hB : Below w0.heap.size w0 w) (h : spec_l01Below.f s0_0 s0_1 s0_2 a1 = some (r1, r2, r3)) :
  Calls Tryd.prog 99 #[.pointer (some ⟨g, 0, none⟩), .int .i64 a1] w fun e w' => e = .returned (.int .i64 r1) ∧ IsS108 w0 w' g s0_0 r2 r3 ∧ Below w0.heap.size w0 w' ∧ KeepBut w w' g none := by
 have HI0 := Zh hI
 have HK := Zh (KeepBut.refl w g none)
 have HL := Zh hB.size
 clear hI
 have HW0 := Zh hB.size
 have HB := Zh hB
 clear hB
 have H : (if a1 ≤ 0 then (some (0, s0_1, s0_2)) else (if a1 ≤ 256 then ((spec_l01Byte.f s0_0 s0_1 s0_2).bind fun bt520 => (if a1 = 0 then (none) else (some (Int.tmod bt520.1 a1, bt520.2.1, bt520.2.2)))) else ((spec_l01Byte.f s0_0 s0_1 s0_2).bind fun bt523 => ((spec_l01Byte.f s0_0 bt523.2.1 bt523.2.2).bind fun bt526 => ((spec_l01Byte.f s0_0 bt526.2.1 bt526.2.2).bind fun bt529 => (if a1 = 0 then (none) else (some (Int.tmod (wrap64 ((wrap64 ((wrap64 (bt523.1 * 65536)) + (wrap64 (bt526.1 * 256)))) + bt529.1)) a1, bt529.2.1, bt529.2.2)))))))) = some (r1, r2, r3) := h
 clear h
 by_cases c3 : a1 ≤ 0
 ·
  rw [if_pos c3] at H
  have c3b0 : decide (a1 ≤ 0) = true := decide_eq_true c3
  clear c3
  simp only [Option.some.injEq, Prod.mk.injEq] at H
  obtain ⟨rfl, rfl, rfl⟩ := H
  go_enter Tryd.func99, Tryd.ntmps99
  go_wp2
  go_ret
  exact ⟨ZE, by repeat (first | (with_reducible first | exact HI0.out | apply IsS108.alloc | apply IsS108.drewN | apply IsS108.drew | apply IsS108.set_1 | apply IsS108.set_2) | exact HI0.out), by repeat (first | (with_reducible first | exact HB.out | apply Zf | apply Zd | apply Ze | refine Zg ?_ (IsS108.ge HI0.out)) | exact HB.out), by repeat (first | (with_reducible first | exact HK.out | apply KeepBut.set_ | apply keep_drewN | apply keep_drew | apply keep_alloc) | exact HK.out)⟩
 rw [if_neg c3] at H
 have c3b0 : decide (a1 ≤ 0) = false := decide_eq_false c3
 clear c3
 by_cases c4 : a1 ≤ 256
 ·
  rw [if_pos c4] at H
  have c4b0 : decide (a1 ≤ 256) = true := decide_eq_true c4
  clear c4
  replace H := Option.bind_eq_some_iff.mp H
  obtain ⟨⟨t520, t521, t522⟩, A50, H⟩ := H
  replace H : (if a1 = 0 then (none) else (some (Int.tmod t520 a1, t521, t522))) = some (r1, r2, r3) := H
  have A5 := Zh A50
  clear A50
  by_cases c6 : a1 = 0
  ·
   rw [if_pos c6] at H
   exact absurd H (by simp)
  rw [if_neg c6] at H
  have c6b0 : (a1 == 0) = false := beq_eq_false_iff_ne.mpr c6
  have c6b1 : (a1 != 0) = true := bne_iff_ne.mpr c6
  simp only [Option.some.injEq, Prod.mk.injEq] at H
  obtain ⟨rfl, rfl, rfl⟩ := H
  go_enter Tryd.func99, Tryd.ntmps99
  go_wp2_with (first | ((with_reducible refine gate_callee (f := 106) rfl ?_); refine ZG (some 13) Tryd.func106 #[.pointer (some ⟨g, 0, none⟩)] rfl ?_; (with_reducible refine (spec_l01Byte.calls g s0_0 s0_1 s0_2 t520 t521 t522 w0 _ ?side1 ?side2 A5.out).mono ?_); (case side1 => repeat (first | (with_reducible first | exact HI0.out | apply IsS108.alloc | apply IsS108.drewN | apply IsS108.drew | apply IsS108.set_1 | apply IsS108.set_2) | exact HI0.out)); (case side2 => repeat (first | (with_reducible first | exact HB.out | apply Zf | apply Zd | apply Ze | refine Zg ?_ (IsS108.ge HI0.out)) | exact HB.out)); rintro e w7 ⟨rfl, hi, hb, hk⟩; refine ⟨_, rfl, ?_⟩; replace HK := Zh (KeepBut.trans (by repeat (first | (with_reducible first | exact HK.out | apply KeepBut.set_ | apply keep_drewN | apply keep_drew | apply keep_alloc) | exact HK.out)) hk (.inl rfl)); replace HB := Zh (hb); replace HI0 := Zh (hi); (try clear hb); (try clear hb2); (try clear hk); (try clear hi)))
  go_ret
  exact ⟨ZE, by repeat (first | (with_reducible first | exact HI0.out | apply IsS108.alloc | apply IsS108.drewN | apply IsS108.drew | apply IsS108.set_1 | apply IsS108.set_2) | exact HI0.out), by repeat (first | (with_reducible first | exact HB.out | apply Zf | apply Zd | apply Ze | refine Zg ?_ (IsS108.ge HI0.out)) | exact HB.out), by repeat (first | (with_reducible first | exact HK.out | apply KeepBut.set_ | apply keep_drewN | apply keep_drew | apply keep_alloc) | exact HK.out)⟩
 rw [if_neg c4] at H
 have c4b0 : decide (a1 ≤ 256) = false := decide_eq_false c4
 clear c4
 replace H := Option.bind_eq_some_iff.mp H
 obtain ⟨⟨t523, t524, t525⟩, A80, H⟩ := H
 replace H : ((spec_l01Byte.f s0_0 t524 t525).bind fun bt526 => ((spec_l01Byte.f s0_0 bt526.2.1 bt526.2.2).bind fun bt529 => (if a1 = 0 then (none) else (some (Int.tmod (wrap64 ((wrap64 ((wrap64 (t523 * 65536)) + (wrap64 (bt526.1 * 256)))) + bt529.1)) a1, bt529.2.1, bt529.2.2))))) = some (r1, r2, r3) := H
 have A8 := Zh A80
 clear A80
 replace H := Option.bind_eq_some_iff.mp H
 obtain ⟨⟨t526, t527, t528⟩, A90, H⟩ := H
 replace H : ((spec_l01Byte.f s0_0 t527 t528).bind fun bt529 => (if a1 = 0 then (none) else (some (Int.tmod (wrap64 ((wrap64 ((wrap64 (t523 * 65536)) + (wrap64 (t526 * 256)))) + bt529.1)) a1, bt529.2.1, bt529.2.2)))) = some (r1, r2, r3) := H
 have A9 := Zh A90
 clear A90
 replace H := Option.bind_eq_some_iff.mp H
 obtain ⟨⟨t529, t530, t531⟩, A100, H⟩ := H
 replace H : (if a1 = 0 then (none) else (some (Int.tmod (wrap64 ((wrap64 ((wrap64 (t523 * 65536)) + (wrap64 (t526 * 256)))) + t529)) a1, t530, t531))) = some (r1, r2, r3) := H
 have A10 := Zh A100
 clear A100
 by_cases c11 : a1 = 0
 ·
  rw [if_pos c11] at H
  exact absurd H (by simp)
 rw [if_neg c11] at H
 have c11b0 : (a1 == 0) = false := beq_eq_false_iff_ne.mpr c11
 have c11b1 : (a1 != 0) = true := bne_iff_ne.mpr c11
 simp only [Option.some.injEq, Prod.mk.injEq] at H
 obtain ⟨rfl, rfl, rfl⟩ := H
 go_enter Tryd.func99, Tryd.ntmps99
 go_wp2_with (first | ((with_reducible refine gate_callee (f := 106) rfl ?_); refine ZG (some 17) Tryd.func106 #[.pointer (some ⟨g, 0, none⟩)] rfl ?_; (with_reducible refine (spec_l01Byte.calls g s0_0 s0_1 s0_2 t523 t524 t525 w0 _ ?side1 ?side2 A8.out).mono ?_); (case side1 => repeat (first | (with_reducible first | exact HI0.out | apply IsS108.alloc | apply IsS108.drewN | apply IsS108.drew | apply IsS108.set_1 | apply IsS108.set_2) | exact HI0.out)); (case side2 => repeat (first | (with_reducible first | exact HB.out | apply Zf | apply Zd | apply Ze | refine Zg ?_ (IsS108.ge HI0.out)) | exact HB.out)); rintro e w12 ⟨rfl, hi, hb, hk⟩; refine ⟨_, rfl, ?_⟩; replace HK := Zh (KeepBut.trans (by repeat (first | (with_reducible first | exact HK.out | apply KeepBut.set_ | apply keep_drewN | apply keep_drew | apply keep_alloc) | exact HK.out)) hk (.inl rfl)); replace HB := Zh (hb); replace HI0 := Zh (hi); (try clear hb); (try clear hb2); (try clear hk); (try clear hi)) | ((with_reducible refine gate_callee (f := 106) rfl ?_); refine ZG (some 19) Tryd.func106 #[.pointer (some ⟨g, 0, none⟩)] rfl ?_; (with_reducible refine (spec_l01Byte.calls g s0_0 t524 t525 t526 t527 t528 w0 _ ?side1 ?side2 A9.out).mono ?_); (case side1 => repeat (first | (with_reducible first | exact HI0.out | apply IsS108.alloc | apply IsS108.drewN | apply IsS108.drew | apply IsS108.set_1 | apply IsS108.set_2) | exact HI0.out)); (case side2 => repeat (first | (with_reducible first | exact HB.out | apply Zf | apply Zd | apply Ze | refine Zg ?_ (IsS108.ge HI0.out)) | exact HB.out)); rintro e w13 ⟨rfl, hi, hb, hk⟩; refine ⟨_, rfl, ?_⟩; replace HK := Zh (KeepBut.trans (by repeat (first | (with_reducible first | exact HK.out | apply KeepBut.set_ | apply keep_drewN | apply keep_drew | apply keep_alloc) | exact HK.out)) hk (.inl rfl)); replace HB := Zh (hb); replace HI0 := Zh (hi); (try clear hb); (try clear hb2); (try clear hk); (try clear hi)) | ((with_reducible refine gate_callee (f := 106) rfl ?_); refine ZG (some 21) Tryd.func106 #[.pointer (some ⟨g, 0, none⟩)] rfl ?_; (with_reducible refine (spec_l01Byte.calls g s0_0 t527 t528 t529 t530 t531 w0 _ ?side1 ?side2 A10.out).mono ?_); (case side1 => repeat (first | (with_reducible first | exact HI0.out | apply IsS108.alloc | apply IsS108.drewN | apply IsS108.drew | apply IsS108.set_1 | apply IsS108.set_2) | exact HI0.out)); (case side2 => repeat (first | (with_reducible first | exact HB.out | apply Zf | apply Zd | apply Ze | refine Zg ?_ (IsS108.ge HI0.out)) | exact HB.out)); rintro e w14 ⟨rfl, hi, hb, hk⟩; refine ⟨_, rfl, ?_⟩; replace HK := Zh (KeepBut.trans (by repeat (first | (with_reducible first | exact HK.out | apply KeepBut.set_ | apply keep_drewN | apply keep_drew | apply keep_alloc) | exact HK.out)) hk (.inl rfl)); replace HB := Zh (hb); replace HI0 := Zh (hi); (try clear hb); (try clear hb2); (try clear hk); (try clear hi)))
 go_ret
 exact ⟨ZE, by repeat (first | (with_reducible first | exact HI0.out | apply IsS108.alloc | apply IsS108.drewN | apply IsS108.drew | apply IsS108.set_1 | apply IsS108.set_2) | exact HI0.out), by repeat (first | (with_reducible first | exact HB.out | apply Zf | apply Zd | apply Ze | refine Zg ?_ (IsS108.ge HI0.out)) | exact HB.out), by repeat (first | (with_reducible first | exact HK.out | apply KeepBut.set_ | apply keep_drewN | apply keep_drew | apply keep_alloc) | exact HK.out)⟩
def spec_l01PickInt.f (s0_0 : List Int) (s0_1 : Int) (s0_2 : Int) (l1 : List Int) : Option (Int × Int × Int) := (spec_l01Below.f s0_0 s0_1 s0_2 (l1.length : Int)).bind fun bt532 => (if 0 ≤ bt532.1 then (if bt532.1 < (l1.length : Int) then (some (rd l1 bt532.1, bt532.2.1, bt532.2.2)) else (none)) else (none))
set_option maxHeartbeats 8000000 in
set_option maxRecDepth 100000 in
theorem spec_l01PickInt.calls (g : Nat) (s0_0 : List Int) (s0_1 : Int) (s0_2 : Int) (A1 : Option Addr) (c1 : Nat) (l1 : List Int) (r1 : Int) (r2 : Int) (r3 : Int) (w0 w : World) (hI : IsS108 w0 w g s0_0 s0_1 s0_2) (hB : Below w0.heap.size w0 w) (hr1 : Kd.C (Kd.int .i64) w A1 l1.length l1) (hc1 : l1.length ≤ c1) (hf1 : ∀ ad, A1 = some ad → 0 < l1.length → ad.block ≠ g) (h : spec_l01PickInt.f s0_0 s0_1 s0_2 l1 = some (r1, r2, r3)) :
  Calls Tryd.prog 101 #[.pointer (some ⟨g, 0, none⟩), .slice A1 l1.length c1] w fun e w' => e = .returned (.int .i64 r1) ∧ IsS108 w0 w' g s0_0 r2 r3 ∧ Below w0.heap.size w0 w' ∧ KeepBut w w' g none := by
 have HR1 := Zh hr1
 have HC1 := Zh hc1
 clear hr1 hc1
 have HI0 := Zh hI
 have HK := Zh (KeepBut.refl w g none)
 have HL := Zh hB.size
 clear hI
 have HW0 := Zh hB.size
 have HB := Zh hB
 clear hB
 have H : ((spec_l01Below.f s0_0 s0_1 s0_2 (l1.length : Int)).bind fun bt532 => (if 0 ≤ bt532.1 then (if bt532.1 < (l1.length : Int) then (some (rd l1 bt532.1, bt532.2.1, bt532.2.2)) else (none)) else (none))) = some (r1, r2, r3) := h
 clear h
 replace H := Option.bind_eq_some_iff.mp H
 obtain ⟨⟨t532, t533, t534⟩, A30, H⟩ := H
 replace H : (if 0 ≤ t532 then (if t532 < (l1.length : Int) then (some (rd l1 t532, t533, t534)) else (none)) else (none)) = some (r1, r2, r3) := H
 have A3 := Zh A30
 clear A30
 by_cases c4 : 0 ≤ t532
 ·
  rw [if_pos c4] at H
  have c4b0 : decide (0 ≤ t532) = true := decide_eq_true c4
  clear c4
  by_cases c5 : t532 < (l1.length : Int)
  ·
   rw [if_pos c5] at H
   have c5b0 : decide (t532 < (l1.length : Int)) = true := decide_eq_true c5
   clear c5
   simp only [Option.some.injEq, Prod.mk.injEq] at H
   obtain ⟨rfl, rfl, rfl⟩ := H
   go_enter Tryd.func101, Tryd.ntmps101
   go_wp2_with (first | ((with_reducible refine gate_callee (f := 99) rfl ?_); refine ZG (some 9) Tryd.func99 #[.pointer (some ⟨g, 0, none⟩), .int .i64 (l1.length : Int)] rfl ?_; (with_reducible refine (spec_l01Below.calls g s0_0 s0_1 s0_2 (l1.length : Int) t532 t533 t534 w0 _ ?side1 ?side2 A3.out).mono ?_); (case side1 => repeat (first | (with_reducible first | exact HI0.out | apply IsS108.alloc | apply IsS108.drewN | apply IsS108.drew | apply IsS108.set_1 | apply IsS108.set_2) | exact HI0.out)); (case side2 => repeat (first | (with_reducible first | exact HB.out | apply Zf | apply Zd | apply Ze | refine Zg ?_ (IsS108.ge HI0.out)) | exact HB.out)); rintro e w6 ⟨rfl, hi, hb, hk⟩; refine ⟨_, rfl, ?_⟩; replace HK := Zh (KeepBut.trans (by repeat (first | (with_reducible first | exact HK.out | apply KeepBut.set_ | apply keep_drewN | apply keep_drew | apply keep_alloc) | exact HK.out)) hk (.inl rfl)); replace HB := Zh (hb); replace HI0 := Zh (hi); (try clear hb); (try clear hb2); (try clear hk); (try clear hi); have p535 : 0 ≤ (t532 : Int) := Zo; have q535 : t532 < (l1.length : Int) := Zo; obtain ⟨ad535, e535, hx535_0⟩ := Kd.at_int HR1.out t532 p535 q535; cases e535; replace hx535_0 := keep_cell HK.out hx535_0 (by first | (rw [add_block]; exact hf1 _ rfl (by omega)) | exact hf1 _ rfl (by omega) | exact hf1 ad535 rfl (by omega)); replace p535 := eq_true p535; replace q535 := eq_true q535))
   go_ret
   exact ⟨ZE, by repeat (first | (with_reducible first | exact HI0.out | apply IsS108.alloc | apply IsS108.drewN | apply IsS108.drew | apply IsS108.set_1 | apply IsS108.set_2) | exact HI0.out), by repeat (first | (with_reducible first | exact HB.out | apply Zf | apply Zd | apply Ze | refine Zg ?_ (IsS108.ge HI0.out)) | exact HB.out), by repeat (first | (with_reducible first | exact HK.out | apply KeepBut.set_ | apply keep_drewN | apply keep_drew | apply keep_alloc) | exact HK.out)⟩
  rw [if_neg c5] at H
  exact absurd H (by simp)
 rw [if_neg c4] at H
 exact absurd H (by simp)
def spec_l01Once.f (s0_0 : List Int) (s0_1 : Int) (s0_2 : Int) (a1 : Int) : Option (Bool × Int × Int) := (spec_l01Below.f s0_0 s0_1 s0_2 a1).bind fun bt536 => (some ((bt536.1 == 0), bt536.2.1, bt536.2.2))
set_option maxHeartbeats 8000000 in
set_option maxRecDepth 100000 in
theorem spec_l01Once.calls (g : Nat) (s0_0 : List Int) (s0_1 : Int) (s0_2 : Int) (a1 : Int) (r1 : Bool) (r2 : Int) (r3 : Int) (w0 w : World) (hI : IsS108 w0 w g s0_0 s0_1 s0_2) (hB : Below w0.heap.size w0 w) (h : spec_l01Once.f s0_0 s0_1 s0_2 a1 = some (r1, r2, r3)) :
  Calls Tryd.prog 107 #[.pointer (some ⟨g, 0, none⟩), .int .i64 a1] w fun e w' => e = .returned (.bool r1) ∧ IsS108 w0 w' g s0_0 r2 r3 ∧ Below w0.heap.size w0 w' ∧ KeepBut w w' g none := by
 have HI0 := Zh hI
 have HK := Zh (KeepBut.refl w g none)
 have HL := Zh hB.size
 clear hI
 have HW0 := Zh hB.size
 have HB := Zh hB
 clear hB
 have H : ((spec_l01Below.f s0_0 s0_1 s0_2 a1).bind fun bt536 => (some ((bt536.1 == 0), bt536.2.1, bt536.2.2))) = some (r1, r2, r3) := h
 clear h
 replace H := Option.bind_eq_some_iff.mp H
 obtain ⟨⟨t536, t537, t538⟩, A30, H⟩ := H
 replace H : (some ((t536 == 0), t537, t538)) = some (r1, r2, r3) := H
 have A3 := Zh A30
 clear A30
 simp only [Option.some.injEq, Prod.mk.injEq] at H
 obtain ⟨rfl, rfl, rfl⟩ := H
 go_enter Tryd.func107, Tryd.ntmps107
 go_wp2_with (first | ((with_reducible refine gate_callee (f := 99) rfl ?_); refine ZG (some 7) Tryd.func99 #[.pointer (some ⟨g, 0, none⟩), .int .i64 a1] rfl ?_; (with_reducible refine (spec_l01Below.calls g s0_0 s0_1 s0_2 a1 t536 t537 t538 w0 _ ?side1 ?side2 A3.out).mono ?_); (case side1 => repeat (first | (with_reducible first | exact HI0.out | apply IsS108.alloc | apply IsS108.drewN | apply IsS108.drew | apply IsS108.set_1 | apply IsS108.set_2) | exact HI0.out)); (case side2 => repeat (first | (with_reducible first | exact HB.out | apply Zf | apply Zd | apply Ze | refine Zg ?_ (IsS108.ge HI0.out)) | exact HB.out)); rintro e w4 ⟨rfl, hi, hb, hk⟩; refine ⟨_, rfl, ?_⟩; replace HK := Zh (KeepBut.trans (by repeat (first | (with_reducible first | exact HK.out | apply KeepBut.set_ | apply keep_drewN | apply keep_drew | apply keep_alloc) | exact HK.out)) hk (.inl rfl)); replace HB := Zh (hb); replace HI0 := Zh (hi); (try clear hb); (try clear hb2); (try clear hk); (try clear hi)))
 go_ret
 exact ⟨ZE, by repeat (first | (with_reducible first | exact HI0.out | apply IsS108.alloc | apply IsS108.drewN | apply IsS108.drew | apply IsS108.set_1 | apply IsS108.set_2) | exact HI0.out), by repeat (first | (with_reducible first | exact HB.out | apply Zf | apply Zd | apply Ze | refine Zg ?_ (IsS108.ge HI0.out)) | exact HB.out), by repeat (first | (with_reducible first | exact HK.out | apply KeepBut.set_ | apply keep_drewN | apply keep_drew | apply keep_alloc) | exact HK.out)⟩
def spec_l01PickText.f (s0_0 : List Int) (s0_1 : Int) (s0_2 : Int) (l1 : List ByteArray) : Option (ByteArray × Int × Int) := (spec_l01Below.f s0_0 s0_1 s0_2 (l1.length : Int)).bind fun bt539 => (if 0 ≤ bt539.1 then (if bt539.1 < (l1.length : Int) then (some (rdOf ByteArray.empty l1 bt539.1, bt539.2.1, bt539.2.2)) else (none)) else (none))
set_option maxHeartbeats 8000000 in
set_option maxRecDepth 100000 in
theorem spec_l01PickText.calls (g : Nat) (s0_0 : List Int) (s0_1 : Int) (s0_2 : Int) (A1 : Option Addr) (c1 : Nat) (l1 : List ByteArray) (r1 : ByteArray) (r2 : Int) (r3 : Int) (w0 w : World) (hI : IsS108 w0 w g s0_0 s0_1 s0_2) (hB : Below w0.heap.size w0 w) (hr1 : Kd.C Kd.string w A1 l1.length l1) (hc1 : l1.length ≤ c1) (hf1 : ∀ ad, A1 = some ad → 0 < l1.length → ad.block ≠ g) (h : spec_l01PickText.f s0_0 s0_1 s0_2 l1 = some (r1, r2, r3)) :
  Calls Tryd.prog 108 #[.pointer (some ⟨g, 0, none⟩), .slice A1 l1.length c1] w fun e w' => e = .returned (.string r1) ∧ IsS108 w0 w' g s0_0 r2 r3 ∧ Below w0.heap.size w0 w' ∧ KeepBut w w' g none := by
 have HR1 := Zh hr1
 have HC1 := Zh hc1
 clear hr1 hc1
 have HI0 := Zh hI
 have HK := Zh (KeepBut.refl w g none)
 have HL := Zh hB.size
 clear hI
 have HW0 := Zh hB.size
 have HB := Zh hB
 clear hB
 have H : ((spec_l01Below.f s0_0 s0_1 s0_2 (l1.length : Int)).bind fun bt539 => (if 0 ≤ bt539.1 then (if bt539.1 < (l1.length : Int) then (some (rdOf ByteArray.empty l1 bt539.1, bt539.2.1, bt539.2.2)) else (none)) else (none))) = some (r1, r2, r3) := h
 clear h
 replace H := Option.bind_eq_some_iff.mp H
 obtain ⟨⟨t539, t540, t541⟩, A30, H⟩ := H
 replace H : (if 0 ≤ t539 then (if t539 < (l1.length : Int) then (some (rdOf ByteArray.empty l1 t539, t540, t541)) else (none)) else (none)) = some (r1, r2, r3) := H
 have A3 := Zh A30
 clear A30
 by_cases c4 : 0 ≤ t539
 ·
  rw [if_pos c4] at H
  have c4b0 : decide (0 ≤ t539) = true := decide_eq_true c4
  clear c4
  by_cases c5 : t539 < (l1.length : Int)
  ·
   rw [if_pos c5] at H
   have c5b0 : decide (t539 < (l1.length : Int)) = true := decide_eq_true c5
   clear c5
   simp only [Option.some.injEq, Prod.mk.injEq] at H
   obtain ⟨rfl, rfl, rfl⟩ := H
   go_enter Tryd.func108, Tryd.ntmps108
   go_wp2_with (first | ((with_reducible refine gate_callee (f := 99) rfl ?_); refine ZG (some 9) Tryd.func99 #[.pointer (some ⟨g, 0, none⟩), .int .i64 (l1.length : Int)] rfl ?_; (with_reducible refine (spec_l01Below.calls g s0_0 s0_1 s0_2 (l1.length : Int) t539 t540 t541 w0 _ ?side1 ?side2 A3.out).mono ?_); (case side1 => repeat (first | (with_reducible first | exact HI0.out | apply IsS108.alloc | apply IsS108.drewN | apply IsS108.drew | apply IsS108.set_1 | apply IsS108.set_2) | exact HI0.out)); (case side2 => repeat (first | (with_reducible first | exact HB.out | apply Zf | apply Zd | apply Ze | refine Zg ?_ (IsS108.ge HI0.out)) | exact HB.out)); rintro e w6 ⟨rfl, hi, hb, hk⟩; refine ⟨_, rfl, ?_⟩; replace HK := Zh (KeepBut.trans (by repeat (first | (with_reducible first | exact HK.out | apply KeepBut.set_ | apply keep_drewN | apply keep_drew | apply keep_alloc) | exact HK.out)) hk (.inl rfl)); replace HB := Zh (hb); replace HI0 := Zh (hi); (try clear hb); (try clear hb2); (try clear hk); (try clear hi); have p542 : 0 ≤ (t539 : Int) := Zo; have q542 : t539 < (l1.length : Int) := Zo; obtain ⟨ad542, e542, hx542_0⟩ := Kd.at_string HR1.out t539 p542 q542; cases e542; replace hx542_0 := keep_cell HK.out hx542_0 (by first | (rw [add_block]; exact hf1 _ rfl (by omega)) | exact hf1 _ rfl (by omega) | exact hf1 ad542 rfl (by omega)); replace p542 := eq_true p542; replace q542 := eq_true q542))
   go_ret
   exact ⟨ZE, by repeat (first | (with_reducible first | exact HI0.out | apply IsS108.alloc | apply IsS108.drewN | apply IsS108.drew | apply IsS108.set_1 | apply IsS108.set_2) | exact HI0.out), by repeat (first | (with_reducible first | exact HB.out | apply Zf | apply Zd | apply Ze | refine Zg ?_ (IsS108.ge HI0.out)) | exact HB.out), by repeat (first | (with_reducible first | exact HK.out | apply KeepBut.set_ | apply keep_drewN | apply keep_drew | apply keep_alloc) | exact HK.out)⟩
  rw [if_neg c5] at H
  exact absurd H (by simp)
 rw [if_neg c4] at H
 exact absurd H (by simp)
def spec_l03DrawName.f (s0_0 : List Int) (s0_1 : Int) (s0_2 : Int) : Option (ByteArray × Int × Int) := (spec_l01Once.f s0_0 s0_1 s0_2 30).bind fun bt543 => (if bt543.1 = true then ((spec_l01PickText.f s0_0 bt543.2.1 bt543.2.2 (([(⟨#[]⟩ : ByteArray), (⟨#[65]⟩ : ByteArray), (⟨#[97, 98, 99, 100, 101, 102, 103, 104, 105, 106, 107, 108]⟩ : ByteArray), (⟨#[97, 98, 99, 100, 101, 102, 103, 104, 105, 106, 107, 108, 109]⟩ : ByteArray), (⟨#[97, 32, 98]⟩ : ByteArray)] : List ByteArray))).bind fun bt549 => (some (bt549.1, bt549.2.1, bt549.2.2))) else ((spec_l01PickText.f s0_0 bt543.2.1 bt543.2.2 (([(⟨#[97]⟩ : ByteArray), (⟨#[98]⟩ : ByteArray), (⟨#[108, 111, 103]⟩ : ByteArray), (⟨#[109, 97, 110]⟩ : ByteArray), (⟨#[122, 57]⟩ : ByteArray)] : List ByteArray))).bind fun bt555 => (some (bt555.1, bt555.2.1, bt555.2.2))))
set_option maxHeartbeats 8000000 in
set_option maxRecDepth 100000 in
theorem spec_l03DrawName.calls (g : Nat) (s0_0 : List Int) (s0_1 : Int) (s0_2 : Int) (r1 : ByteArray) (r2 : Int) (r3 : Int) (w0 w : World) (hI : IsS108 w0 w g s0_0 s0_1 s0_2) (hB : Below w0.heap.size w0 w) (h : spec_l03DrawName.f s0_0 s0_1 s0_2 = some (r1, r2, r3)) :
  Calls Tryd.prog 102 #[.pointer (some ⟨g, 0, none⟩)] w fun e w' => e = .returned (.string r1) ∧ IsS108 w0 w' g s0_0 r2 r3 ∧ Below w0.heap.size w0 w' ∧ KeepBut w w' g none := by
 have HI0 := Zh hI
 have HK := Zh (KeepBut.refl w g none)
 have HL := Zh hB.size
 clear hI
 have HW0 := Zh hB.size
 have HB := Zh hB
 clear hB
 have H : ((spec_l01Once.f s0_0 s0_1 s0_2 30).bind fun bt543 => (if bt543.1 = true then ((spec_l01PickText.f s0_0 bt543.2.1 bt543.2.2 (([(⟨#[]⟩ : ByteArray), (⟨#[65]⟩ : ByteArray), (⟨#[97, 98, 99, 100, 101, 102, 103, 104, 105, 106, 107, 108]⟩ : ByteArray), (⟨#[97, 98, 99, 100, 101, 102, 103, 104, 105, 106, 107, 108, 109]⟩ : ByteArray), (⟨#[97, 32, 98]⟩ : ByteArray)] : List ByteArray))).bind fun bt549 => (some (bt549.1, bt549.2.1, bt549.2.2))) else ((spec_l01PickText.f s0_0 bt543.2.1 bt543.2.2 (([(⟨#[97]⟩ : ByteArray), (⟨#[98]⟩ : ByteArray), (⟨#[108, 111, 103]⟩ : ByteArray), (⟨#[109, 97, 110]⟩ : ByteArray), (⟨#[122, 57]⟩ : ByteArray)] : List ByteArray))).bind fun bt555 => (some (bt555.1, bt555.2.1, bt555.2.2))))) = some (r1, r2, r3) := h
 clear h
 replace H := Option.bind_eq_some_iff.mp H
 obtain ⟨⟨t543, t544, t545⟩, A20, H⟩ := H
 replace H : (if t543 = true then ((spec_l01PickText.f s0_0 t544 t545 (([(⟨#[]⟩ : ByteArray), (⟨#[65]⟩ : ByteArray), (⟨#[97, 98, 99, 100, 101, 102, 103, 104, 105, 106, 107, 108]⟩ : ByteArray), (⟨#[97, 98, 99, 100, 101, 102, 103, 104, 105, 106, 107, 108, 109]⟩ : ByteArray), (⟨#[97, 32, 98]⟩ : ByteArray)] : List ByteArray))).bind fun bt549 => (some (bt549.1, bt549.2.1, bt549.2.2))) else ((spec_l01PickText.f s0_0 t544 t545 (([(⟨#[97]⟩ : ByteArray), (⟨#[98]⟩ : ByteArray), (⟨#[108, 111, 103]⟩ : ByteArray), (⟨#[109, 97, 110]⟩ : ByteArray), (⟨#[122, 57]⟩ : ByteArray)] : List ByteArray))).bind fun bt555 => (some (bt555.1, bt555.2.1, bt555.2.2)))) = some (r1, r2, r3) := H
 have A2 := Zh A20
 clear A20
 by_cases c3 : t543 = true
 ·
  subst c3
  have H1 : ((spec_l01PickText.f s0_0 t544 t545 (([(⟨#[]⟩ : ByteArray), (⟨#[65]⟩ : ByteArray), (⟨#[97, 98, 99, 100, 101, 102, 103, 104, 105, 106, 107, 108]⟩ : ByteArray), (⟨#[97, 98, 99, 100, 101, 102, 103, 104, 105, 106, 107, 108, 109]⟩ : ByteArray), (⟨#[97, 32, 98]⟩ : ByteArray)] : List ByteArray))).bind fun bt549 => (some (bt549.1, bt549.2.1, bt549.2.2))) = some (r1, r2, r3) := by rw [if_pos rfl] at H; exact H
  clear H
  have H := H1
  clear H1
  obtain ⟨y546, hy546⟩ : ∃ y_ : List ByteArray, y_ = (([(⟨#[]⟩ : ByteArray), (⟨#[65]⟩ : ByteArray), (⟨#[97, 98, 99, 100, 101, 102, 103, 104, 105, 106, 107, 108]⟩ : ByteArray), (⟨#[97, 98, 99, 100, 101, 102, 103, 104, 105, 106, 107, 108, 109]⟩ : ByteArray), (⟨#[97, 32, 98]⟩ : ByteArray)] : List ByteArray)) := ⟨_, rfl⟩
  replace H : ((spec_l01PickText.f s0_0 t544 t545 y546).bind fun bt549 => (some (bt549.1, bt549.2.1, bt549.2.2))) = some (r1, r2, r3) := by first | (rw [hy546]; with_reducible exact H) | (have H2_ := (Option.bind_some _ _).symm.trans H; rw [hy546]; with_reducible exact H2_) | (have H2_ := (Option.bind_some _ _).symm.trans H; with_reducible exact H2_) | with_reducible exact H | (rw [hy546]; exact H) | exact H
  have Ny546 := Zh hy546
  clear hy546
  replace H := Option.bind_eq_some_iff.mp H
  obtain ⟨⟨t549, t550, t551⟩, A40, H⟩ := H
  replace H : (some (t549, t550, t551)) = some (r1, r2, r3) := H
  have A4 := Zh A40
  clear A40
  simp only [Option.some.injEq, Prod.mk.injEq] at H
  obtain ⟨rfl, rfl, rfl⟩ := H
  go_enter Tryd.func102, Tryd.ntmps102
  go_wp2_with (first | ((with_reducible refine gate_callee (f := 107) rfl ?_); refine ZG (some 4) Tryd.func107 #[.pointer (some ⟨g, 0, none⟩), .int .i64 30] rfl ?_; (with_reducible refine (spec_l01Once.calls g s0_0 s0_1 s0_2 30 true t544 t545 w0 _ ?side1 ?side2 A2.out).mono ?_); (case side1 => repeat (first | (with_reducible first | exact HI0.out | apply IsS108.alloc | apply IsS108.drewN | apply IsS108.drew | apply IsS108.set_1 | apply IsS108.set_2) | exact HI0.out)); (case side2 => repeat (first | (with_reducible first | exact HB.out | apply Zf | apply Zd | apply Ze | refine Zg ?_ (IsS108.ge HI0.out)) | exact HB.out)); rintro e w5 ⟨rfl, hi, hb, hk⟩; refine ⟨_, rfl, ?_⟩; replace HK := Zh (KeepBut.trans (by repeat (first | (with_reducible first | exact HK.out | apply KeepBut.set_ | apply keep_drewN | apply keep_drew | apply keep_alloc) | exact HK.out)) hk (.inl rfl)); replace HB := Zh (hb); replace HI0 := Zh (hi); (try clear hb); (try clear hb2); (try clear hk); (try clear hi)) | ((with_reducible refine gate_dst (N := 6) rfl ?_); refine R_lit Kd.string _ 9 ?hg (N := 6) ?hd (xs := ([(⟨#[]⟩ : ByteArray), (⟨#[65]⟩ : ByteArray), (⟨#[97, 98, 99, 100, 101, 102, 103, 104, 105, 106, 107, 108]⟩ : ByteArray), (⟨#[97, 98, 99, 100, 101, 102, 103, 104, 105, 106, 107, 108, 109]⟩ : ByteArray), (⟨#[97, 32, 98]⟩ : ByteArray)] : List ByteArray)) (inner := [.string (⟨#[]⟩ : ByteArray), .string (⟨#[65]⟩ : ByteArray), .string (⟨#[97, 98, 99, 100, 101, 102, 103, 104, 105, 106, 107, 108]⟩ : ByteArray), .string (⟨#[97, 98, 99, 100, 101, 102, 103, 104, 105, 106, 107, 108, 109]⟩ : ByteArray), .string (⟨#[97, 32, 98]⟩ : ByteArray)]) (ok := fun _ => True) (okp := fun _ => True) ?hr ?hp (fun _ hk => hk) trivial (Below.refl _ _) (Nat.le_refl _) (by simp) ?_; (case hd => rfl); (case hg => rfl); (case hr => first | (go_simp; done) | (go_simp; rfl)); (case hp => exact (Reps.one (show Kd.M Kd.string _ _ _ (⟨#[]⟩ : ByteArray) [.string (⟨#[]⟩ : ByteArray)] from rfl) (Reps.one (show Kd.M Kd.string _ _ _ (⟨#[65]⟩ : ByteArray) [.string (⟨#[65]⟩ : ByteArray)] from rfl) (Reps.one (show Kd.M Kd.string _ _ _ (⟨#[97, 98, 99, 100, 101, 102, 103, 104, 105, 106, 107, 108]⟩ : ByteArray) [.string (⟨#[97, 98, 99, 100, 101, 102, 103, 104, 105, 106, 107, 108]⟩ : ByteArray)] from rfl) (Reps.one (show Kd.M Kd.string _ _ _ (⟨#[97, 98, 99, 100, 101, 102, 103, 104, 105, 106, 107, 108, 109]⟩ : ByteArray) [.string (⟨#[97, 98, 99, 100, 101, 102, 103, 104, 105, 106, 107, 108, 109]⟩ : ByteArray)] from rfl) (Reps.one (show Kd.M Kd.string _ _ _ (⟨#[97, 32, 98]⟩ : ByteArray) [.string (⟨#[97, 32, 98]⟩ : ByteArray)] from rfl) (Reps.none _ _))))))); intro v547 w6 ho7 hb hg_ hnew_; clear hg_ hnew_; (first | rw [← Ny546.out] at ho7 | (simp only [Int.reduceToNat] at ho7; rw [← Ny546.out] at ho7)); have HO548 := Zh (R_lower ho7 (keep_size (w := w) (g := g) (row := none) (by repeat (first | (with_reducible first | exact HK.out | apply KeepBut.set_ | apply keep_drewN | apply keep_drew | apply keep_alloc) | exact HK.out)))); replace HK := Zh (KeepBut.trans (by repeat (first | (with_reducible first | exact HK.out | apply KeepBut.set_ | apply keep_drewN | apply keep_drew | apply keep_alloc) | exact HK.out)) (KeepBut.of_below hb g none) (.inl rfl)); replace HB := Zh (Zl (by repeat (first | (with_reducible first | exact HB.out | apply Zf | apply Zd | apply Ze | refine Zg ?_ (IsS108.ge HI0.out)) | exact HB.out)) hb); replace HI0 := Zh (IsS108.below (by repeat (first | (with_reducible first | exact HI0.out | apply IsS108.alloc | apply IsS108.drewN | apply IsS108.drew | apply IsS108.set_1 | apply IsS108.set_2) | exact HI0.out)) hb); clear hb ho7; obtain ⟨Ao8, co8, eo8⟩ := R_slice HO548.out; subst eo8) | ((with_reducible refine gate_callee (f := 108) rfl ?_); refine ZG (some 7) Tryd.func108 #[.pointer (some ⟨g, 0, none⟩), .slice Ao8 y546.length co8] rfl ?_; (with_reducible refine (spec_l01PickText.calls g s0_0 t544 t545 _ _ y546 t549 t550 t551 w0 _ ?side1 ?side2 ?side3 ?side4 ?side5 A4.out).mono ?_); (case side1 => repeat (first | (with_reducible first | exact HI0.out | apply IsS108.alloc | apply IsS108.drewN | apply IsS108.drew | apply IsS108.set_1 | apply IsS108.set_2) | exact HI0.out)); (case side2 => repeat (first | (with_reducible first | exact HB.out | apply Zf | apply Zd | apply Ze | refine Zg ?_ (IsS108.ge HI0.out)) | exact HB.out)); (case side3 => repeat (first | exact (R_reads' HO548.out).2.2 | (with_reducible refine C_alloc ?_ _) | (with_reducible refine C_drewN ?_ _) | (with_reducible refine C_drew ?_))); (case side4 => exact (R_reads' HO548.out).2.1); (case side5 => exact far_slice (IsS108.own_ne HI0.out HO548.out (by decide))); rintro e w9 ⟨rfl, hi, hb, hk⟩; refine ⟨_, rfl, ?_⟩; replace HO548 := Zh (R_mono (R_keep (IsS108.apart (show IsS108 w0 _ g s0_0 t544 t545 from by repeat (first | (with_reducible first | exact HI0.out | apply IsS108.alloc | apply IsS108.drewN | apply IsS108.drew | apply IsS108.set_1 | apply IsS108.set_2) | exact HI0.out)) (ZR HO548.out) (by decide)) hk (fun _ h => h.2)) (fun _ h => h.1)); replace HK := Zh (KeepBut.trans (by repeat (first | (with_reducible first | exact HK.out | apply KeepBut.set_ | apply keep_drewN | apply keep_drew | apply keep_alloc) | exact HK.out)) hk (.inl rfl)); replace HB := Zh (hb); replace HI0 := Zh (hi); (try clear hb); (try clear hb2); (try clear hk); (try clear hi)))
  go_ret
  exact ⟨ZE, by repeat (first | (with_reducible first | exact HI0.out | apply IsS108.alloc | apply IsS108.drewN | apply IsS108.drew | apply IsS108.set_1 | apply IsS108.set_2) | exact HI0.out), by repeat (first | (with_reducible first | exact HB.out | apply Zf | apply Zd | apply Ze | refine Zg ?_ (IsS108.ge HI0.out)) | exact HB.out), by repeat (first | (with_reducible first | exact HK.out | apply KeepBut.set_ | apply keep_drewN | apply keep_drew | apply keep_alloc) | exact HK.out)⟩
 replace c3 := Bool.eq_false_iff.mpr c3
 subst c3
 have H1 : ((spec_l01PickText.f s0_0 t544 t545 (([(⟨#[97]⟩ : ByteArray), (⟨#[98]⟩ : ByteArray), (⟨#[108, 111, 103]⟩ : ByteArray), (⟨#[109, 97, 110]⟩ : ByteArray), (⟨#[122, 57]⟩ : ByteArray)] : List ByteArray))).bind fun bt555 => (some (bt555.1, bt555.2.1, bt555.2.2))) = some (r1, r2, r3) := by rw [if_neg (show ¬ (false = true) by decide)] at H; exact H
 clear H
 have H := H1
 clear H1
 obtain ⟨y552, hy552⟩ : ∃ y_ : List ByteArray, y_ = (([(⟨#[97]⟩ : ByteArray), (⟨#[98]⟩ : ByteArray), (⟨#[108, 111, 103]⟩ : ByteArray), (⟨#[109, 97, 110]⟩ : ByteArray), (⟨#[122, 57]⟩ : ByteArray)] : List ByteArray)) := ⟨_, rfl⟩
 replace H : ((spec_l01PickText.f s0_0 t544 t545 y552).bind fun bt555 => (some (bt555.1, bt555.2.1, bt555.2.2))) = some (r1, r2, r3) := by first | (rw [hy552]; with_reducible exact H) | (have H2_ := (Option.bind_some _ _).symm.trans H; rw [hy552]; with_reducible exact H2_) | (have H2_ := (Option.bind_some _ _).symm.trans H; with_reducible exact H2_) | with_reducible exact H | (rw [hy552]; exact H) | exact H
 have Ny552 := Zh hy552
 clear hy552
 replace H := Option.bind_eq_some_iff.mp H
 obtain ⟨⟨t555, t556, t557⟩, A100, H⟩ := H
 replace H : (some (t555, t556, t557)) = some (r1, r2, r3) := H
 have A10 := Zh A100
 clear A100
 simp only [Option.some.injEq, Prod.mk.injEq] at H
 obtain ⟨rfl, rfl, rfl⟩ := H
 go_enter Tryd.func102, Tryd.ntmps102
 go_wp2_with (first | ((with_reducible refine gate_callee (f := 107) rfl ?_); refine ZG (some 4) Tryd.func107 #[.pointer (some ⟨g, 0, none⟩), .int .i64 30] rfl ?_; (with_reducible refine (spec_l01Once.calls g s0_0 s0_1 s0_2 30 false t544 t545 w0 _ ?side1 ?side2 A2.out).mono ?_); (case side1 => repeat (first | (with_reducible first | exact HI0.out | apply IsS108.alloc | apply IsS108.drewN | apply IsS108.drew | apply IsS108.set_1 | apply IsS108.set_2) | exact HI0.out)); (case side2 => repeat (first | (with_reducible first | exact HB.out | apply Zf | apply Zd | apply Ze | refine Zg ?_ (IsS108.ge HI0.out)) | exact HB.out)); rintro e w11 ⟨rfl, hi, hb, hk⟩; refine ⟨_, rfl, ?_⟩; replace HK := Zh (KeepBut.trans (by repeat (first | (with_reducible first | exact HK.out | apply KeepBut.set_ | apply keep_drewN | apply keep_drew | apply keep_alloc) | exact HK.out)) hk (.inl rfl)); replace HB := Zh (hb); replace HI0 := Zh (hi); (try clear hb); (try clear hb2); (try clear hk); (try clear hi)) | ((with_reducible refine gate_dst (N := 9) rfl ?_); refine R_lit Kd.string _ 9 ?hg (N := 9) ?hd (xs := ([(⟨#[97]⟩ : ByteArray), (⟨#[98]⟩ : ByteArray), (⟨#[108, 111, 103]⟩ : ByteArray), (⟨#[109, 97, 110]⟩ : ByteArray), (⟨#[122, 57]⟩ : ByteArray)] : List ByteArray)) (inner := [.string (⟨#[97]⟩ : ByteArray), .string (⟨#[98]⟩ : ByteArray), .string (⟨#[108, 111, 103]⟩ : ByteArray), .string (⟨#[109, 97, 110]⟩ : ByteArray), .string (⟨#[122, 57]⟩ : ByteArray)]) (ok := fun _ => True) (okp := fun _ => True) ?hr ?hp (fun _ hk => hk) trivial (Below.refl _ _) (Nat.le_refl _) (by simp) ?_; (case hd => rfl); (case hg => rfl); (case hr => first | (go_simp; done) | (go_simp; rfl)); (case hp => exact (Reps.one (show Kd.M Kd.string _ _ _ (⟨#[97]⟩ : ByteArray) [.string (⟨#[97]⟩ : ByteArray)] from rfl) (Reps.one (show Kd.M Kd.string _ _ _ (⟨#[98]⟩ : ByteArray) [.string (⟨#[98]⟩ : ByteArray)] from rfl) (Reps.one (show Kd.M Kd.string _ _ _ (⟨#[108, 111, 103]⟩ : ByteArray) [.string (⟨#[108, 111, 103]⟩ : ByteArray)] from rfl) (Reps.one (show Kd.M Kd.string _ _ _ (⟨#[109, 97, 110]⟩ : ByteArray) [.string (⟨#[109, 97, 110]⟩ : ByteArray)] from rfl) (Reps.one (show Kd.M Kd.string _ _ _ (⟨#[122, 57]⟩ : ByteArray) [.string (⟨#[122, 57]⟩ : ByteArray)] from rfl) (Reps.none _ _))))))); intro v553 w12 ho13 hb hg_ hnew_; clear hg_ hnew_; (first | rw [← Ny552.out] at ho13 | (simp only [Int.reduceToNat] at ho13; rw [← Ny552.out] at ho13)); have HO554 := Zh (R_lower ho13 (keep_size (w := w) (g := g) (row := none) (by repeat (first | (with_reducible first | exact HK.out | apply KeepBut.set_ | apply keep_drewN | apply keep_drew | apply keep_alloc) | exact HK.out)))); replace HK := Zh (KeepBut.trans (by repeat (first | (with_reducible first | exact HK.out | apply KeepBut.set_ | apply keep_drewN | apply keep_drew | apply keep_alloc) | exact HK.out)) (KeepBut.of_below hb g none) (.inl rfl)); replace HB := Zh (Zl (by repeat (first | (with_reducible first | exact HB.out | apply Zf | apply Zd | apply Ze | refine Zg ?_ (IsS108.ge HI0.out)) | exact HB.out)) hb); replace HI0 := Zh (IsS108.below (by repeat (first | (with_reducible first | exact HI0.out | apply IsS108.alloc | apply IsS108.drewN | apply IsS108.drew | apply IsS108.set_1 | apply IsS108.set_2) | exact HI0.out)) hb); clear hb ho13; obtain ⟨Ao14, co14, eo14⟩ := R_slice HO554.out; subst eo14) | ((with_reducible refine gate_callee (f := 108) rfl ?_); refine ZG (some 10) Tryd.func108 #[.pointer (some ⟨g, 0, none⟩), .slice Ao14 y552.length co14] rfl ?_; (with_reducible refine (spec_l01PickText.calls g s0_0 t544 t545 _ _ y552 t555 t556 t557 w0 _ ?side1 ?side2 ?side3 ?side4 ?side5 A10.out).mono ?_); (case side1 => repeat (first | (with_reducible first | exact HI0.out | apply IsS108.alloc | apply IsS108.drewN | apply IsS108.drew | apply IsS108.set_1 | apply IsS108.set_2) | exact HI0.out)); (case side2 => repeat (first | (with_reducible first | exact HB.out | apply Zf | apply Zd | apply Ze | refine Zg ?_ (IsS108.ge HI0.out)) | exact HB.out)); (case side3 => repeat (first | exact (R_reads' HO554.out).2.2 | (with_reducible refine C_alloc ?_ _) | (with_reducible refine C_drewN ?_ _) | (with_reducible refine C_drew ?_))); (case side4 => exact (R_reads' HO554.out).2.1); (case side5 => exact far_slice (IsS108.own_ne HI0.out HO554.out (by decide))); rintro e w15 ⟨rfl, hi, hb, hk⟩; refine ⟨_, rfl, ?_⟩; replace HO554 := Zh (R_mono (R_keep (IsS108.apart (show IsS108 w0 _ g s0_0 t544 t545 from by repeat (first | (with_reducible first | exact HI0.out | apply IsS108.alloc | apply IsS108.drewN | apply IsS108.drew | apply IsS108.set_1 | apply IsS108.set_2) | exact HI0.out)) (ZR HO554.out) (by decide)) hk (fun _ h => h.2)) (fun _ h => h.1)); replace HK := Zh (KeepBut.trans (by repeat (first | (with_reducible first | exact HK.out | apply KeepBut.set_ | apply keep_drewN | apply keep_drew | apply keep_alloc) | exact HK.out)) hk (.inl rfl)); replace HB := Zh (hb); replace HI0 := Zh (hi); (try clear hb); (try clear hb2); (try clear hk); (try clear hi)))
 go_ret
 exact ⟨ZE, by repeat (first | (with_reducible first | exact HI0.out | apply IsS108.alloc | apply IsS108.drewN | apply IsS108.drew | apply IsS108.set_1 | apply IsS108.set_2) | exact HI0.out), by repeat (first | (with_reducible first | exact HB.out | apply Zf | apply Zd | apply Ze | refine Zg ?_ (IsS108.ge HI0.out)) | exact HB.out), by repeat (first | (with_reducible first | exact HK.out | apply KeepBut.set_ | apply keep_drewN | apply keep_drew | apply keep_alloc) | exact HK.out)⟩
def spec_l01DrawBytes.l0 : Nat → Int → List Int → Int → List Int → Int → Int → Option (List Int × Int × Int)
 | 0, _, _, _, _, _, _ => none
 | k + 1, x1, x5, x6, x1000, x1001, x1002 => if x6 < x1 then ((spec_l01Below.f x1000 x1001 x1002 256).bind fun bt561 => ((spec_l01Below.f x1000 bt561.2.1 bt561.2.2 256).bind fun bt564 => ((spec_l01PickInt.f x1000 bt564.2.1 bt564.2.2 (([0, 1, 255, 128, bt561.1, bt564.1] : List Int))).bind fun bt570 => (if x5.length < 140737488355328 then (spec_l01DrawBytes.l0 k x1 (x5 ++ [(bt570.1) % 256]) (wrap64 (x6 + 1)) x1000 bt570.2.1 bt570.2.2) else (none))))) else (some (x5, x1001, x1002))
def spec_l01DrawBytes.f (k : Nat) (s0_0 : List Int) (s0_1 : Int) (s0_2 : Int) (a1 : Int) : Option (List Int × Int × Int) := spec_l01DrawBytes.l0 k a1 (([] : List Int)) 0 s0_0 s0_1 s0_2
set_option maxHeartbeats 8000000 in
set_option maxRecDepth 100000 in
theorem spec_l01DrawBytes.calls (k : Nat) (g : Nat) (s0_0 : List Int) (s0_1 : Int) (s0_2 : Int) (a1 : Int) (r1 : List Int) (r2 : Int) (r3 : Int) (w0 w : World) (hI : IsS108 w0 w g s0_0 s0_1 s0_2) (hB : Below w0.heap.size w0 w) (h : spec_l01DrawBytes.f k s0_0 s0_1 s0_2 a1 = some (r1, r2, r3)) :
  Calls Tryd.prog 103 #[.pointer (some ⟨g, 0, none⟩), .int .i64 a1] w fun e w' => ∃ v0_ : Value, e = .returned (v0_) ∧ Kd.R (Kd.int .u8) 5 w' w.heap.size (fun _ => True) v0_ r1 ∧ IsS108 w0 w' g s0_0 r2 r3 ∧ Below w0.heap.size w0 w' ∧ KeepBut w w' g none := by
 have HI0 := Zh hI
 have HK := Zh (KeepBut.refl w g none)
 have HL := Zh hB.size
 clear hI
 have HW0 := Zh hB.size
 have HB := Zh hB
 clear hB
 have H : (spec_l01DrawBytes.l0 k a1 (([] : List Int)) 0 s0_0 s0_1 s0_2) = some (r1, r2, r3) := h
 clear h
 obtain ⟨y558, hy558⟩ : ∃ y_ : List Int, y_ = (([] : List Int)) := ⟨_, rfl⟩
 replace H : (spec_l01DrawBytes.l0 k a1 y558 0 s0_0 s0_1 s0_2) = some (r1, r2, r3) := by first | (rw [hy558]; with_reducible exact H) | (have H2_ := (Option.bind_some _ _).symm.trans H; rw [hy558]; with_reducible exact H2_) | (have H2_ := (Option.bind_some _ _).symm.trans H; with_reducible exact H2_) | with_reducible exact H | (rw [hy558]; exact H) | exact H
 have Ny558 := Zh hy558
 clear hy558
 have H' := Zh H
 clear H
 go_enter Tryd.func103, Tryd.ntmps103
 go_wp2_with (first | ((with_reducible refine gate_dst (N := 7) rfl ?_); refine R_lit (Kd.int .u8) _ 5 ?hg (N := 7) ?hd (xs := ([] : List Int)) (inner := []) (ok := fun _ => True) (okp := fun _ => True) ?hr ?hp (fun _ hk => hk) trivial (Below.refl _ _) (Nat.le_refl _) (by simp) ?_; (case hd => rfl); (case hg => rfl); (case hr => first | (go_simp; done) | (go_simp; rfl)); (case hp => exact (Reps.none _ _)); intro v559 w3 ho4 hb hg_ hnew_; clear hg_ hnew_; (first | rw [← Ny558.out] at ho4 | (simp only [Int.reduceToNat] at ho4; rw [← Ny558.out] at ho4)); have HO560 := Zh (R_lower ho4 (keep_size (w := w) (g := g) (row := none) (by repeat (first | (with_reducible first | exact HK.out | apply KeepBut.set_ | apply keep_drewN | apply keep_drew | apply keep_alloc) | exact HK.out)))); replace HK := Zh (KeepBut.trans (by repeat (first | (with_reducible first | exact HK.out | apply KeepBut.set_ | apply keep_drewN | apply keep_drew | apply keep_alloc) | exact HK.out)) (KeepBut.of_below hb g none) (.inl rfl)); replace HB := Zh (Zl (by repeat (first | (with_reducible first | exact HB.out | apply Zf | apply Zd | apply Ze | refine Zg ?_ (IsS108.ge HI0.out)) | exact HB.out)) hb); replace HI0 := Zh (IsS108.below (by repeat (first | (with_reducible first | exact HI0.out | apply IsS108.alloc | apply IsS108.drewN | apply IsS108.drew | apply IsS108.set_1 | apply IsS108.set_2) | exact HI0.out)) hb); clear hb ho4))
 go_loopg [5, 6] k (fun kq v5 v6 w' => ∃ (x5_1 : List Int) (x6_1 : Int) (x1001_1 : Int) (x1002_1 : Int), v6 = .int .i64 x6_1 ∧ Aside0 (spec_l01DrawBytes.l0 kq a1 x5_1 x6_1 s0_0 x1001_1 x1002_1 = some (r1, r2, r3)) ∧ Aside0 (kq ≤ k) ∧ Aside0 (Kd.R (Kd.int .u8) 5 w' w.heap.size (fun _ => True) v5 x5_1) ∧ Aside0 (IsS108 w0 w' g s0_0 x1001_1 x1002_1) ∧ Aside0 (KeepBut w w' g none) ∧ Aside0 (Below w0.heap.size w0 w'))
 case atStart => exact ⟨(y558), (0), (s0_1), (s0_2), (by first | rfl | (simp; done) | (simp [*]; done)), H', ⟨Nat.le_refl _⟩, ⟨ZR HO560.out⟩, ⟨by repeat (first | (with_reducible first | exact HI0.out | apply IsS108.alloc | apply IsS108.drewN | apply IsS108.drew | apply IsS108.set_1 | apply IsS108.set_2) | exact HI0.out)⟩, ⟨by repeat (first | (with_reducible first | exact HK.out | apply KeepBut.set_ | apply keep_drewN | apply keep_drew | apply keep_alloc) | exact HK.out)⟩, ⟨by repeat (first | (with_reducible first | exact HB.out | apply Zf | apply Zd | apply Ze | refine Zg ?_ (IsS108.ge HI0.out)) | exact HB.out)⟩⟩
 case round =>
  clear H'
  try clear c1
  try clear p2
  obtain ⟨x5_1, x6_1, x1001_1, x1002_1, rfl, HA, HK1, HO_5, HI0, HK, HB⟩ := hrel
  cases gk with
  | zero => exact absurd HA.out (by simp [spec_l01DrawBytes.l0])
  | succ k1 =>
   have H := HA.out
   clear HA
   simp only [spec_l01DrawBytes.l0] at H
   by_cases c5 : x6_1 < a1
   ·
    rw [if_pos c5] at H
    have c5b0 : decide (x6_1 < a1) = true := decide_eq_true c5
    clear c5
    replace H := Option.bind_eq_some_iff.mp H
    obtain ⟨⟨t561, t562, t563⟩, A60, H⟩ := H
    replace H : ((spec_l01Below.f s0_0 t562 t563 256).bind fun bt564 => ((spec_l01PickInt.f s0_0 bt564.2.1 bt564.2.2 (([0, 1, 255, 128, t561, bt564.1] : List Int))).bind fun bt570 => (if x5_1.length < 140737488355328 then (spec_l01DrawBytes.l0 k1 a1 (x5_1 ++ [(bt570.1) % 256]) (wrap64 (x6_1 + 1)) s0_0 bt570.2.1 bt570.2.2) else (none)))) = some (r1, r2, r3) := H
    have A6 := Zh A60
    clear A60
    replace H := Option.bind_eq_some_iff.mp H
    obtain ⟨⟨t564, t565, t566⟩, A70, H⟩ := H
    replace H : ((spec_l01PickInt.f s0_0 t565 t566 (([0, 1, 255, 128, t561, t564] : List Int))).bind fun bt570 => (if x5_1.length < 140737488355328 then (spec_l01DrawBytes.l0 k1 a1 (x5_1 ++ [(bt570.1) % 256]) (wrap64 (x6_1 + 1)) s0_0 bt570.2.1 bt570.2.2) else (none))) = some (r1, r2, r3) := H
    have A7 := Zh A70
    clear A70
    obtain ⟨y567, hy567⟩ : ∃ y_ : List Int, y_ = (([0, 1, 255, 128, t561, t564] : List Int)) := ⟨_, rfl⟩
    replace H : ((spec_l01PickInt.f s0_0 t565 t566 y567).bind fun bt570 => (if x5_1.length < 140737488355328 then (spec_l01DrawBytes.l0 k1 a1 (x5_1 ++ [(bt570.1) % 256]) (wrap64 (x6_1 + 1)) s0_0 bt570.2.1 bt570.2.2) else (none))) = some (r1, r2, r3) := by first | (rw [hy567]; with_reducible exact H) | (have H2_ := (Option.bind_some _ _).symm.trans H; rw [hy567]; with_reducible exact H2_) | (have H2_ := (Option.bind_some _ _).symm.trans H; with_reducible exact H2_) | with_reducible exact H | (rw [hy567]; exact H) | exact H
    have Ny567 := Zh hy567
    clear hy567
    replace H := Option.bind_eq_some_iff.mp H
    obtain ⟨⟨t570, t571, t572⟩, A80, H⟩ := H
    replace H : (if x5_1.length < 140737488355328 then (spec_l01DrawBytes.l0 k1 a1 (x5_1 ++ [(t570) % 256]) (wrap64 (x6_1 + 1)) s0_0 t571 t572) else (none)) = some (r1, r2, r3) := H
    have A8 := Zh A80
    clear A80
    by_cases c9 : x5_1.length < 140737488355328
    ·
     rw [if_pos c9] at H
     have LMc9 := Zh c9
     clear c9
     obtain ⟨y573, hy573⟩ : ∃ y_ : List Int, y_ = (x5_1 ++ [(t570) % 256]) := ⟨_, rfl⟩
     replace H : (spec_l01DrawBytes.l0 k1 a1 y573 (wrap64 (x6_1 + 1)) s0_0 t571 t572) = some (r1, r2, r3) := by first | (rw [hy573]; with_reducible exact H) | (have H2_ := (Option.bind_some _ _).symm.trans H; rw [hy573]; with_reducible exact H2_) | (have H2_ := (Option.bind_some _ _).symm.trans H; with_reducible exact H2_) | with_reducible exact H | (rw [hy573]; exact H) | exact H
     have Ny573 := Zh hy573
     clear hy573
     have H' := Zh H
     clear H
     go_wp2_with (first | ((with_reducible refine gate_callee (f := 99) rfl ?_); refine ZG (some 16) Tryd.func99 #[.pointer (some ⟨g, 0, none⟩), .int .i64 256] rfl ?_; (with_reducible refine (spec_l01Below.calls g s0_0 x1001_1 x1002_1 256 t561 t562 t563 w0 _ ?side1 ?side2 A6.out).mono ?_); (case side1 => repeat (first | (with_reducible first | exact HI0.out | apply IsS108.alloc | apply IsS108.drewN | apply IsS108.drew | apply IsS108.set_1 | apply IsS108.set_2) | exact HI0.out)); (case side2 => repeat (first | (with_reducible first | exact HB.out | apply Zf | apply Zd | apply Ze | refine Zg ?_ (IsS108.ge HI0.out)) | exact HB.out)); rintro e w10 ⟨rfl, hi, hb, hk⟩; refine ⟨_, rfl, ?_⟩; replace HO_5 := Zh (R_mono (R_keep (IsS108.apart (show IsS108 w0 _ g s0_0 x1001_1 x1002_1 from by repeat (first | (with_reducible first | exact HI0.out | apply IsS108.alloc | apply IsS108.drewN | apply IsS108.drew | apply IsS108.set_1 | apply IsS108.set_2) | exact HI0.out)) (ZR HO_5.out) (by decide)) hk (fun _ h => h.2)) (fun _ h => h.1)); replace HK := Zh (KeepBut.trans (by repeat (first | (with_reducible first | exact HK.out | apply KeepBut.set_ | apply keep_drewN | apply keep_drew | apply keep_alloc) | exact HK.out)) hk (.inl rfl)); replace HB := Zh (hb); replace HI0 := Zh (hi); (try clear hb); (try clear hb2); (try clear hk); (try clear hi)) | ((with_reducible refine gate_callee (f := 99) rfl ?_); refine ZG (some 18) Tryd.func99 #[.pointer (some ⟨g, 0, none⟩), .int .i64 256] rfl ?_; (with_reducible refine (spec_l01Below.calls g s0_0 t562 t563 256 t564 t565 t566 w0 _ ?side1 ?side2 A7.out).mono ?_); (case side1 => repeat (first | (with_reducible first | exact HI0.out | apply IsS108.alloc | apply IsS108.drewN | apply IsS108.drew | apply IsS108.set_1 | apply IsS108.set_2) | exact HI0.out)); (case side2 => repeat (first | (with_reducible first | exact HB.out | apply Zf | apply Zd | apply Ze | refine Zg ?_ (IsS108.ge HI0.out)) | exact HB.out)); rintro e w11 ⟨rfl, hi, hb, hk⟩; refine ⟨_, rfl, ?_⟩; replace HO_5 := Zh (R_mono (R_keep (IsS108.apart (show IsS108 w0 _ g s0_0 t562 t563 from by repeat (first | (with_reducible first | exact HI0.out | apply IsS108.alloc | apply IsS108.drewN | apply IsS108.drew | apply IsS108.set_1 | apply IsS108.set_2) | exact HI0.out)) (ZR HO_5.out) (by decide)) hk (fun _ h => h.2)) (fun _ h => h.1)); replace HK := Zh (KeepBut.trans (by repeat (first | (with_reducible first | exact HK.out | apply KeepBut.set_ | apply keep_drewN | apply keep_drew | apply keep_alloc) | exact HK.out)) hk (.inl rfl)); replace HB := Zh (hb); replace HI0 := Zh (hi); (try clear hb); (try clear hb2); (try clear hk); (try clear hi)) | ((with_reducible refine gate_dst (N := 19) rfl ?_); refine R_lit (Kd.int .i64) _ 3 ?hg (N := 19) ?hd (xs := ([0, 1, 255, 128, t561, t564] : List Int)) (inner := [.int .i64 0, .int .i64 1, .int .i64 255, .int .i64 128, .int .i64 t561, .int .i64 t564]) (ok := fun _ => True) (okp := fun _ => True) ?hr ?hp (fun _ hk => hk) trivial (Below.refl _ _) (Nat.le_refl _) (by simp) ?_; (case hd => rfl); (case hg => rfl); (case hr => first | (go_simp; done) | (go_simp; rfl)); (case hp => exact (Reps.one (show Kd.M (Kd.int .i64) _ _ _ 0 [.int .i64 0] from rfl) (Reps.one (show Kd.M (Kd.int .i64) _ _ _ 1 [.int .i64 1] from rfl) (Reps.one (show Kd.M (Kd.int .i64) _ _ _ 255 [.int .i64 255] from rfl) (Reps.one (show Kd.M (Kd.int .i64) _ _ _ 128 [.int .i64 128] from rfl) (Reps.one (show Kd.M (Kd.int .i64) _ _ _ t561 [.int .i64 t561] from rfl) (Reps.one (show Kd.M (Kd.int .i64) _ _ _ t564 [.int .i64 t564] from rfl) (Reps.none _ _)))))))); intro v568 w12 ho13 hb hg_ hnew_; clear hg_ hnew_; (first | rw [← Ny567.out] at ho13 | (simp only [Int.reduceToNat] at ho13; rw [← Ny567.out] at ho13)); replace HO_5 := Zh (R_below (ZR HO_5.out) hb); have HO569 := Zh (R_lower ho13 (keep_size (w := w) (g := g) (row := none) (by repeat (first | (with_reducible first | exact HK.out | apply KeepBut.set_ | apply keep_drewN | apply keep_drew | apply keep_alloc) | exact HK.out)))); replace HK := Zh (KeepBut.trans (by repeat (first | (with_reducible first | exact HK.out | apply KeepBut.set_ | apply keep_drewN | apply keep_drew | apply keep_alloc) | exact HK.out)) (KeepBut.of_below hb g none) (.inl rfl)); replace HB := Zh (Zl (by repeat (first | (with_reducible first | exact HB.out | apply Zf | apply Zd | apply Ze | refine Zg ?_ (IsS108.ge HI0.out)) | exact HB.out)) hb); replace HI0 := Zh (IsS108.below (by repeat (first | (with_reducible first | exact HI0.out | apply IsS108.alloc | apply IsS108.drewN | apply IsS108.drew | apply IsS108.set_1 | apply IsS108.set_2) | exact HI0.out)) hb); clear hb ho13; obtain ⟨Ao14, co14, eo14⟩ := R_slice HO569.out; subst eo14) | ((with_reducible refine gate_callee (f := 101) rfl ?_); refine ZG (some 20) Tryd.func101 #[.pointer (some ⟨g, 0, none⟩), .slice Ao14 y567.length co14] rfl ?_; (with_reducible refine (spec_l01PickInt.calls g s0_0 t565 t566 _ _ y567 t570 t571 t572 w0 _ ?side1 ?side2 ?side3 ?side4 ?side5 A8.out).mono ?_); (case side1 => repeat (first | (with_reducible first | exact HI0.out | apply IsS108.alloc | apply IsS108.drewN | apply IsS108.drew | apply IsS108.set_1 | apply IsS108.set_2) | exact HI0.out)); (case side2 => repeat (first | (with_reducible first | exact HB.out | apply Zf | apply Zd | apply Ze | refine Zg ?_ (IsS108.ge HI0.out)) | exact HB.out)); (case side3 => repeat (first | exact (R_reads' HO569.out).2.2 | (with_reducible refine C_alloc ?_ _) | (with_reducible refine C_drewN ?_ _) | (with_reducible refine C_drew ?_))); (case side4 => exact (R_reads' HO569.out).2.1); (case side5 => exact far_slice (IsS108.own_ne HI0.out HO569.out (by decide))); rintro e w15 ⟨rfl, hi, hb, hk⟩; refine ⟨_, rfl, ?_⟩; replace HO_5 := Zh (R_mono (R_keep (IsS108.apart (show IsS108 w0 _ g s0_0 t565 t566 from by repeat (first | (with_reducible first | exact HI0.out | apply IsS108.alloc | apply IsS108.drewN | apply IsS108.drew | apply IsS108.set_1 | apply IsS108.set_2) | exact HI0.out)) (ZR HO_5.out) (by decide)) hk (fun _ h => h.2)) (fun _ h => h.1)); replace HO569 := Zh (R_mono (R_keep (IsS108.apart (show IsS108 w0 _ g s0_0 t565 t566 from by repeat (first | (with_reducible first | exact HI0.out | apply IsS108.alloc | apply IsS108.drewN | apply IsS108.drew | apply IsS108.set_1 | apply IsS108.set_2) | exact HI0.out)) (ZR HO569.out) (by decide)) hk (fun _ h => h.2)) (fun _ h => h.1)); replace HK := Zh (KeepBut.trans (by repeat (first | (with_reducible first | exact HK.out | apply KeepBut.set_ | apply keep_drewN | apply keep_drew | apply keep_alloc) | exact HK.out)) hk (.inl rfl)); replace HB := Zh (hb); replace HI0 := Zh (hi); (try clear hb); (try clear hb2); (try clear hk); (try clear hi)) | ((with_reducible refine gate_builtin (b := .append) (xs := #[.tmp 13, .tmp 22]) rfl ?_); at_builtin; refine R_append (Kd.int .u8) w.heap.size rfl (.tmp 13) (.tmp 22) 33 5 (.int .u8 0) 1 rfl Tryd.underlying33 info5 rfl (by decide) (by omega) u5 x5_1 ((t570) % 256) [.int .u8 ((t570) % 256)] (fun _ => True) (fun _ => False) rfl rfl ?aP (fun _ hk => hk.elim) ?aF ?aO (Below.refl _ _) ?aS ?aL ?_; (case aP => exact rfl); (case aF => exact (fun _ _ => trivial)); (case aO => exact (ZR HO_5.out)); (case aS => exact (keep_size (w := w) (g := g) (row := none) (by repeat (first | (with_reducible first | exact HK.out | apply KeepBut.set_ | apply keep_drewN | apply keep_drew | apply keep_alloc) | exact HK.out)))); (case aL => have := LMc9.out; omega); intro v574 w16 ho hb hg hat; rw [← Ny573.out] at ho; have n0_ := Zh (IsS108.grown (show IsS108 w0 _ g s0_0 t571 t572 from by repeat (first | (with_reducible first | exact HI0.out | apply IsS108.alloc | apply IsS108.drewN | apply IsS108.drew | apply IsS108.set_1 | apply IsS108.set_2) | exact HI0.out)) hg (IsS108.own_ne HI0.out HO_5.out (by decide))); have n1_ := Zh (R_over' (ZR HO569.out) (R_typed (ZR HO_5.out)) (by decide) hg); have n2_ := Zh (below_weaken (by repeat (first | (with_reducible first | exact HB.out | apply Zf | apply Zd | apply Ze | refine Zg ?_ (IsS108.ge HI0.out)) | exact HB.out)) HL.out hb); have n3_ := Zh (KeepBut.trans (by repeat (first | (with_reducible first | exact HK.out | apply KeepBut.set_ | apply keep_drewN | apply keep_drew | apply keep_alloc) | exact HK.out)) (KeepBut.of_grown hg g) (R_base2 HO_5.out)); have n4_ := Zh (ho); clear HI0; clear HO569; clear HB; clear HK; clear HO_5; have HI0 := n0_; have HO569 := n1_; have HB := n2_; have HK := n3_; have HO575 := n4_; clear n0_ n1_ n2_ n3_ n4_; clear ho hb hg hat))
     go_roundg k1
     case measure => have := HK1.out; omega
     case rel => exact ⟨(y573), (wrap64 (x6_1 + 1)), (t571), (t572), (by first | rfl | (simp; done) | (simp [*]; done)), H', ⟨by have := HK1.out; omega⟩, ⟨ZR HO575.out⟩, ⟨by repeat (first | (with_reducible first | exact HI0.out | apply IsS108.alloc | apply IsS108.drewN | apply IsS108.drew | apply IsS108.set_1 | apply IsS108.set_2) | exact HI0.out)⟩, ⟨by repeat (first | (with_reducible first | exact HK.out | apply KeepBut.set_ | apply keep_drewN | apply keep_drew | apply keep_alloc) | exact HK.out)⟩, ⟨by repeat (first | (with_reducible first | exact HB.out | apply Zf | apply Zd | apply Ze | refine Zg ?_ (IsS108.ge HI0.out)) | exact HB.out)⟩⟩
    rw [if_neg c9] at H
    exact absurd H (by simp)
   rw [if_neg c5] at H
   have c5b0 : decide (x6_1 < a1) = false := decide_eq_false c5
   clear c5
   simp only [Option.some.injEq, Prod.mk.injEq] at H
   obtain ⟨rfl, rfl, rfl⟩ := H
   go_wp2
   go_ret
   exact ⟨_, ZE, ZR HO_5.out, by repeat (first | (with_reducible first | exact HI0.out | apply IsS108.alloc | apply IsS108.drewN | apply IsS108.drew | apply IsS108.set_1 | apply IsS108.set_2) | exact HI0.out), by repeat (first | (with_reducible first | exact HB.out | apply Zf | apply Zd | apply Ze | refine Zg ?_ (IsS108.ge HI0.out)) | exact HB.out), by repeat (first | (with_reducible first | exact HK.out | apply KeepBut.set_ | apply keep_drewN | apply keep_drew | apply keep_alloc) | exact HK.out)⟩
end Go.Proofs.YtmgeffgcihfpcaaDoor.F
