/- Merged texts below the law FnRecords: Go functions as Lean functions, their contracts, and plain lemmas. -/
import Derived.Test.YtgdebfaoohjikaaProg
import Derived.Below
import Derived.Deep.Draws
import Derived.Deep.AppendLies
import Derived.Maps.AppendAt
import Derived.OwnWalk
import Derived.Laws.BytesArg
import Derived.Laws.MakeOwn
import Derived.Laws.OwnMore
import Derived.Deep.OwnRows
import Derived.Tactics
import Derived.Lib.ConvBytes
import Derived.Laws.Slices
import Derived.WalkKit
import Derived.KernelRfl
import Derived.RowKit3
import Derived.Deep.LoopGhost
import Derived.Deep.QuietTactic
import Derived.BigQuiet
import Derived.WideLaws
import Derived.Deep.DeepCutAuto
import Derived.Deep.CutBlock
import Derived.Deep.RegionHeld3
import Derived.Laws.Rows
import Derived.Lib.AppendStr
import Derived.ArgAppend
import Derived.Laws.IdiomCopy
import Derived.OrdersHeld
import Derived.Laws.BitsLemmas
import Derived.RowKit
import Derived.Test.YtgdebfaoohjikaaVFnRecordsWords
import Derived.Test.YtgdebfaoohjikaaVFnRecordsLast
import Derived.Test.YtgdebfaoohjikaaVFnRecordsTab
import Derived.Test.YtgdebfaoohjikaaVFnRecordsFour
import Derived.Test.YtgdebfaoohjikaaVFnRecordsQPut
import Derived.Test.YtgdebfaoohjikaaVFnRecordsApart
import Derived.Test.YtgdebfaoohjikaaVFnRecordsArr
import Derived.Test.YtgdebfaoohjikaaVFnRecordsZeros
import Derived.Test.YtgdebfaoohjikaaVFnRecordsFoot
import Derived.Test.YtgdebfaoohjikaaVFnRecordsKept
import Derived.Test.YtgdebfaoohjikaaVFnRecordsShare
import Derived.Test.YtgdebfaoohjikaaVFnRecordsN
import Derived.Test.YtgdebfaoohjikaaVFnRecordsFootNe
import Derived.Test.YtgdebfaoohjikaaVFnRecordsAt
import Derived.Test.YtgdebfaoohjikaaVFnRecordsEqStruct
import Derived.Test.YtgdebfaoohjikaaVFnRecordsRepsOne
import Derived.Test.YtgdebfaoohjikaaVFnRecordsInv
import Derived.Test.YtgdebfaoohjikaaVFnRecordsInvWords
import Derived.Test.YtgdebfaoohjikaaVFnRecordsGuard
import Derived.Test.YtgdebfaoohjikaaVFnRecordsNEv
import Derived.Test.YtgdebfaoohjikaaVFnRecordsMore
import Derived.Shelf.Abstract
namespace Go.Proofs.Ytgdebfaoohjikaa.F
open Go.RowKit Go.Proofs.YtgdebfaoohjikaaW.PrintWords Go.Proofs.YtgdebfaoohjikaaW.PrintWords.Kd Go.Proofs.YtgdebfaoohjikaaW.PrintMore.Kd Go.Proofs.YtgdebfaoohjikaaW.PrintLast Go.Proofs.YtgdebfaoohjikaaW.PrintMore
attribute [local go_sem] max2_int min2_int max_two min_two max_three min_three max_four min_four   -- for this text's walks alone
set_option linter.unusedVariables false
set_option linter.unusedSimpArgs false
def errW : Option Int → Value
 | none => .nilIface
 | some c => .iface 0 (.int .i64 c)
theorem errW_none : errW none = .nilIface := rfl
theorem errW_some (c : Int) : errW (some c) = .iface 0 (.int .i64 c) := rfl
theorem info5 : (Try.prog.info? 5).map (fun i => (i.zero, i.size, i.bytes)) = some (some (.int .u8 0), 1, 1) := by kernel_rfl
theorem info9 : (Try.prog.info? 9).map (fun i => (i.zero, i.size, i.bytes)) = some (some (.string ⟨#[]⟩), 1, 16) := by kernel_rfl
theorem info23 : (Try.prog.info? 23).map (fun i => (i.zero, i.size, i.bytes)) = some (some (.int .u64 0), 1, 8) := by kernel_rfl
theorem info42 : (Try.prog.info? 42).map (fun i => (i.zero, i.size, i.bytes)) = some (some (.agg #[(.int .i64 0), (.slice none 0 0), (.slice none 0 0)]), 3, 56) := by kernel_rfl
structure S39 where
 f0 : Int
 f1 : (List Int)
 f2 : (List ByteArray)
structure S42 where
 f0 : Int
 f1 : (List Int)
 f2 : (List ByteArray)
def z42 : S42 := ⟨(0 : Int), ([] : List Int), ([] : List ByteArray)⟩
def k42 : Kd S42 := Kd.iso (Kd.pair (Kd.int .i64) (Kd.pair (Kd.slice 23 (Kd.int .u64)) (Kd.slice 9 Kd.string))) (fun x : S42 => (x.f0, x.f1, x.f2))
theorem k42_open {w : World} {x : S42} {cs : List Value} (h : k42.K w x cs) : ∃ A1 c1 A2 c2, cs = [.int .i64 x.f0, .slice A1 x.f1.length c1, .slice A2 x.f2.length c2] ∧ x.f1.length ≤ c1 ∧ (Kd.int .u64).C w A1 x.f1.length x.f1 ∧ x.f2.length ≤ c2 ∧ Kd.string.C w A2 x.f2.length x.f2 := by
 obtain ⟨_, _, rfl, rfl, ⟨_, _, rfl, ⟨A1, c1, rfl, l1, g1⟩, ⟨A2, c2, rfl, l2, g2⟩⟩⟩ := h
 exact ⟨A1, c1, A2, c2, rfl, l1, g1, l2, g2⟩
theorem k42_mkM (w : World) (base : Nat) (ok : Nat → Prop) (x : S42) {v1 : Value} (g1 : (Kd.int .u64).R 23 w base ok v1 x.f1) {v2 : Value} (g2 : Kd.string.R 9 w base ok v2 x.f2) : k42.M w base ok x [.int .i64 x.f0, v1, v2] := ⟨[.int .i64 x.f0], [v1, v2], rfl, rfl, ⟨[v1], [v2], rfl, ⟨v1, rfl, g1⟩, ⟨v2, rfl, g2⟩⟩⟩
def rd_T42 (xs : List S42) (i : Int) : S42 := xs.getD i.toNat z42
theorem at_T42 {w : World} {A : Option Addr} {n : Nat} {xs : List S42} (h : Kd.C k42 w A n xs) (i : Int) (h0 : 0 ≤ i) (h1 : i < n) : ∃ ad A1 c1 A2 c2, A = some ad ∧ w.cell? (ad.add (i.toNat * 3)) = some (.int .i64 (rd_T42 xs i).f0) ∧ w.cell? ⟨(ad.add (i.toNat * 3)).block, (ad.add (i.toNat * 3)).off + 1, none⟩ = some (.slice A1 (rd_T42 xs i).f1.length c1) ∧ w.cell? ⟨(ad.add (i.toNat * 3)).block, (ad.add (i.toNat * 3)).off + 2, none⟩ = some (.slice A2 (rd_T42 xs i).f2.length c2) ∧ (rd_T42 xs i).f1.length ≤ c1 ∧ (Kd.int .u64).C w A1 (rd_T42 xs i).f1.length (rd_T42 xs i).f1 ∧ (rd_T42 xs i).f2.length ≤ c2 ∧ Kd.string.C w A2 (rd_T42 xs i).f2.length (rd_T42 xs i).f2 := by
 obtain ⟨ad, c, e, _, hK, hc0⟩ := C_get h z42 i h0 h1
 have hc : ∀ j u, c[j]? = some u → w.cell? (ad.add (i.toNat * 3 + j)) = some u := hc0
 obtain ⟨A1, c1, A2, c2, rfl, l1, g1, l2, g2⟩ := k42_open hK
 exact ⟨ad, A1, c1, A2, c2, e, hc 0 _ rfl, by rw [← add_field _ _ 1 (by omega)]; exact hc 1 _ rfl, by rw [← add_field _ _ 2 (by omega)]; exact hc 2 _ rfl, l1, g1, l2, g2⟩
theorem Zs {n : Nat} {w w1 : World} (h : Below n w w1 := by repeat (first | (with_reducible first | exact HB.out | apply below_alloc | apply pw_below_drewN | apply below_drew1) | refine below_set ?_ (Aside0.out (by assumption)) | exact HB.out)) : Below n w w1 := h
theorem Zk {w : World} {g : Nat} {o : Obj} (h : w.heap[g]? = some o := by (with_reducible repeat (first | refine blk_drewN ?_ _ | refine blk_drew ?_ | refine blk_alloc ?_ _)); exact Aside0.out (by assumption)) : w.heap[g]? = some o := h
theorem Zo {p : Prop} [Decidable p] (h : decide p = true := by first | (with_reducible assumption) | assumption) : p := of_decide_eq_true h
theorem Zc {w w1 : World} {a : Addr} {v : Value} (hb : Below w.heap.size w w1) (h : w.cell? a = some v) : w1.cell? a = some v := (hb.cell (World.block_lt_of_cell? w _ h)).trans h
theorem ZS {α : Type} {d : Kd α} {e base : Nat} {w w1 : World} {ok : Nat → Prop} {v : Value} {xs : List α} (h : Kd.S d e w base ok v xs) (hb : Below w.heap.size w w1 := by (with_reducible repeat (first | exact Below.refl _ _ | apply below_alloc | apply pw_below_drewN | apply below_drew1))) : Kd.S d e w1 base ok v xs := S_below h hb
theorem ZR {α : Type} {d : Kd α} {e base : Nat} {w w1 : World} {ok : Nat → Prop} {v : Value} {xs : List α} (h : d.R e w base ok v xs) (hb : Below w.heap.size w w1 := by (with_reducible repeat (first | exact Below.refl _ _ | apply below_alloc | apply pw_below_drewN | apply below_drew1))) : d.R e w1 base ok v xs := R_below h hb
theorem ZE {p : Prop} (h : p := by first | rfl | (simp [errW_none, errW_some] <;> rfl) | (simp [*, errW_none, errW_some] <;> rfl)) : p := h
theorem ZG {P : Program} {ops : Array Oper} {Q : Exit → Act → World → Prop} {rest : List Oper} {oi : Oper} {a : Act} {w : World} (N : Option Tmp) {f : FuncId} {fn : Func} {as_ : Array Operand} {ts : Array TypeId} (hf : P.funcs[f]? = some fn) (args : Array Value) (hop : oi.op = .call { callee := .value (.func f), args := as_, argTypes := ts }) (h : Calls P f args w fun e w' => ∃ v, e = .returned v ∧ wpList P ops Q rest (a.put N v) w') (hd : oi.dst = N := by rfl) (hg : oi.guard = none := by rfl) (hn : (fn.name == "runtime.NumGoroutine") = false := by kernel_rfl) (hb : fn.body.isSome = true := by rfl) (hargs : as_.map a.eval = args := by (try simp only [List.map_toArray, List.map_cons, List.map_nil]); first | done | rfl | (simp only [List.length_drop, List.length_take]; rfl)) : wpList P ops Q (oi :: rest) a w := goesL_ N hd hg hf hn hb args hop hargs h
abbrev Za := @blk_drewN
abbrev Zb := @blk_drew
abbrev Zd := @pw_below_drewN
abbrev Ze := @below_drew1
abbrev Zf := @below_alloc
abbrev Zg := @below_set
abbrev Zh := @Aside0.mk
abbrev Zi := @World.block_lt_of_cell?
abbrev Zl := @below_step
abbrev Zn := @blk_frozen
def laws_big.f (l0 : List Int) : Option (Bool) := some (decide ((l0.length : Int) > 1048576))
set_option maxHeartbeats 8000000 in
set_option maxRecDepth 100000 in
theorem laws_big.calls (A0 : Option Addr) (c0 : Nat) (l0 : List Int) (r : Bool) (w : World) (hr0 : Kd.C (Kd.int .u8) w A0 l0.length l0) (hc0 : l0.length ≤ c0) (h : laws_big.f l0 = some r) :
  Calls Try.prog 21 #[.slice A0 l0.length c0] w fun e w' => e = .returned (.bool r) ∧ Drawn0 w w' := by
 have HR0 := Zh hr0
 have HC0 := Zh hc0
 clear hr0 hc0
 have H : (some (decide ((l0.length : Int) > 1048576))) = some r := h
 clear h
 obtain rfl := Option.some.inj H
 go_enter Try.func21, Try.ntmps21
 go_wp2
 go_ret
 exact ⟨by first | rfl | (simp; done) | (simp [*]; done), by repeat (first | exact Drawn0.refl _ | apply Drawn0.step)⟩
def laws_at.f (l0 : List Int) (a1 : Int) : Option (Int) := if a1 < (l0.length : Int) then (if 0 ≤ a1 then (some (wrap64 (rd l0 a1))) else (none)) else (some (Int.tmod (wrap64 ((wrap64 (a1 * 13)) + (wrap64 ((l0.length : Int) * 5)))) 256))
set_option maxHeartbeats 8000000 in
set_option maxRecDepth 100000 in
theorem laws_at.calls (A0 : Option Addr) (c0 : Nat) (l0 : List Int) (a1 : Int) (r : Int) (w : World) (hr0 : Kd.C (Kd.int .u8) w A0 l0.length l0) (hc0 : l0.length ≤ c0) (h : laws_at.f l0 a1 = some r) :
  Calls Try.prog 22 #[.slice A0 l0.length c0, .int .i64 a1] w fun e w' => e = .returned (.int .i64 r) ∧ Drawn0 w w' := by
 have HR0 := Zh hr0
 have HC0 := Zh hc0
 clear hr0 hc0
 have H : (if a1 < (l0.length : Int) then (if 0 ≤ a1 then (some (wrap64 (rd l0 a1))) else (none)) else (some (Int.tmod (wrap64 ((wrap64 (a1 * 13)) + (wrap64 ((l0.length : Int) * 5)))) 256))) = some r := h
 clear h
 by_cases c3 : a1 < (l0.length : Int)
 ·
  rw [if_pos c3] at H
  have c3b0 : decide (a1 < (l0.length : Int)) = true := decide_eq_true c3
  clear c3
  by_cases c4 : 0 ≤ a1
  ·
   rw [if_pos c4] at H
   have c4b0 : decide (0 ≤ a1) = true := decide_eq_true c4
   clear c4
   obtain rfl := Option.some.inj H
   have p176 : 0 ≤ (a1 : Int) := Zo
   have q176 : a1 < (l0.length : Int) := Zo
   obtain ⟨ad176, e176, hx176_0⟩ := Kd.at_int HR0.out a1 p176 q176
   cases e176
   replace p176 := eq_true p176
   replace q176 := eq_true q176
   go_enter Try.func22, Try.ntmps22
   go_wp2
   go_ret
   exact ⟨by first | rfl | (simp; done) | (simp [*]; done), by repeat (first | exact Drawn0.refl _ | apply Drawn0.step)⟩
  rw [if_neg c4] at H
  exact absurd H (by simp)
 rw [if_neg c3] at H
 have c3b0 : decide (a1 < (l0.length : Int)) = false := decide_eq_false c3
 clear c3
 obtain rfl := Option.some.inj H
 go_enter Try.func22, Try.ntmps22
 go_wp2
 go_ret
 exact ⟨by first | rfl | (simp; done) | (simp [*]; done), by repeat (first | exact Drawn0.refl _ | apply Drawn0.step)⟩
def laws_copyBytes.l0 : Nat → List Int → List Int → Int → Option (List Int)
 | 0, _, _, _ => none
 | k + 1, x0, x3, x4 => if x4 < (x0.length : Int) then (if 0 ≤ x4 then (if x3.length < 140737488355328 then (laws_copyBytes.l0 k x0 (x3 ++ [rd x0 x4]) (wrap64 (x4 + 1))) else (none)) else (none)) else (some x3)
def laws_copyBytes.f (k : Nat) (l0 : List Int) : Option (List Int) := laws_copyBytes.l0 k l0 (([] : List Int)) 0
set_option maxHeartbeats 8000000 in
set_option maxRecDepth 100000 in
theorem laws_copyBytes.calls (k : Nat) (A0 : Option Addr) (c0 : Nat) (l0 : List Int) (r : List Int) (w : World) (hr0 : Kd.C (Kd.int .u8) w A0 l0.length l0) (hc0 : l0.length ≤ c0) (h : laws_copyBytes.f k l0 = some r) :
  Calls Try.prog 47 #[.slice A0 l0.length c0] w fun e w' => ∃ v0_ : Value, e = .returned (v0_) ∧ Kd.R (Kd.int .u8) 5 w' w.heap.size (fun _ => True) v0_ r ∧ Below w.heap.size w w' := by
 have HR0 := Zh hr0
 have HC0 := Zh hc0
 clear hr0 hc0
 have HB := Zh (Below.refl w.heap.size w)
 have H : (laws_copyBytes.l0 k l0 (([] : List Int)) 0) = some r := h
 clear h
 obtain ⟨y177, hy177⟩ : ∃ y_ : List Int, y_ = (([] : List Int)) := ⟨_, rfl⟩
 replace H : (laws_copyBytes.l0 k l0 y177 0) = some r := by first | (rw [hy177]; with_reducible exact H) | (have H2_ := (Option.bind_some _ _).symm.trans H; rw [hy177]; with_reducible exact H2_) | (have H2_ := (Option.bind_some _ _).symm.trans H; with_reducible exact H2_) | with_reducible exact H | (rw [hy177]; exact H) | exact H
 have Ny177 := Zh hy177
 clear hy177
 have H' := Zh H
 clear H
 go_enter Try.func47, Try.ntmps47
 go_wp2_with (first | ((with_reducible refine gate_dst (N := 5) rfl ?_); refine R_lit (Kd.int .u8) _ 5 ?hg (N := 5) ?hd (xs := ([] : List Int)) (inner := []) (ok := fun _ => True) (okp := fun _ => True) ?hr ?hp (fun _ hk => hk) trivial (Below.refl _ _) (Nat.le_refl _) (by simp) ?_; (case hd => rfl); (case hg => rfl); (case hr => first | (go_simp; done) | (go_simp; rfl)); (case hp => exact (Reps.none _ _)); intro v178 w2 ho3 hb hg_ hnew_; clear hg_ hnew_; (first | rw [← Ny177.out] at ho3 | (simp only [Int.reduceToNat] at ho3; rw [← Ny177.out] at ho3)); have HO179 := Zh (R_lower ho3 (below_size Zs)); replace HB := Zh (Zl Zs hb); clear hb ho3))
 go_loopg [3, 4] k (fun kq v3 v4 w' => ∃ (x3_1 : List Int) (x4_1 : Int), v4 = .int .i64 x4_1 ∧ Aside0 (laws_copyBytes.l0 kq l0 x3_1 x4_1 = some r) ∧ Aside0 (kq ≤ k) ∧ Aside0 (Kd.R (Kd.int .u8) 5 w' w.heap.size (fun _ => True) v3 x3_1) ∧ Aside0 (Below w.heap.size w w'))
 case atStart => exact ⟨(y177), (0), (by first | rfl | (simp; done) | (simp [*]; done)), H', ⟨Nat.le_refl _⟩, ⟨ZR HO179.out⟩, ⟨Zs⟩⟩
 case round =>
  clear H'
  try clear p2
  obtain ⟨x3_1, x4_1, rfl, HA, HK1, HO_3, HB⟩ := hrel
  cases gk with
  | zero => exact absurd HA.out (by simp [laws_copyBytes.l0])
  | succ k1 =>
   have H := HA.out
   clear HA
   simp only [laws_copyBytes.l0] at H
   by_cases c4 : x4_1 < (l0.length : Int)
   ·
    rw [if_pos c4] at H
    have c4b0 : decide (x4_1 < (l0.length : Int)) = true := decide_eq_true c4
    clear c4
    by_cases c5 : 0 ≤ x4_1
    ·
     rw [if_pos c5] at H
     have c5b0 : decide (0 ≤ x4_1) = true := decide_eq_true c5
     clear c5
     by_cases c6 : x3_1.length < 140737488355328
     ·
      rw [if_pos c6] at H
      have LMc6 := Zh c6
      clear c6
      obtain ⟨y181, hy181⟩ : ∃ y_ : List Int, y_ = (x3_1 ++ [rd l0 x4_1]) := ⟨_, rfl⟩
      replace H : (laws_copyBytes.l0 k1 l0 y181 (wrap64 (x4_1 + 1))) = some r := by first | (rw [hy181]; with_reducible exact H) | (have H2_ := (Option.bind_some _ _).symm.trans H; rw [hy181]; with_reducible exact H2_) | (have H2_ := (Option.bind_some _ _).symm.trans H; with_reducible exact H2_) | with_reducible exact H | (rw [hy181]; exact H) | exact H
      have Ny181 := Zh hy181
      clear hy181
      have H' := Zh H
      clear H
      have p180 : 0 ≤ (x4_1 : Int) := Zo
      have q180 : x4_1 < (l0.length : Int) := Zo
      obtain ⟨ad180, e180, hx180_0⟩ := Kd.at_int HR0.out x4_1 p180 q180
      cases e180
      replace hx180_0 := Zc HB.out hx180_0
      replace p180 := eq_true p180
      replace q180 := eq_true q180
      go_wp2_with (first | ((with_reducible refine gate_builtin (b := .append) (xs := #[.tmp 12, .tmp 17]) rfl ?_); at_builtin; refine R_append (Kd.int .u8) (w0 := w) w.heap.size rfl (.tmp 12) (.tmp 17) 24 5 (.int .u8 0) 1 rfl Try.underlying24 info5 rfl (by decide) (by omega) u3 x3_1 (rd l0 x4_1) [.int .u8 (rd l0 x4_1)] (fun _ => True) (fun _ => False) rfl rfl ?aP (fun _ hk => hk.elim) ?aF ?aO ?aB ?aS ?aL ?_; (case aP => exact rfl); (case aB => exact Zs); (case aF => exact (fun _ _ => trivial)); (case aO => exact (ZR HO_3.out)); (case aS => exact (below_size Zs)); (case aL => have := LMc6.out; omega); intro v182 w7 ho hb hg hat; rw [← Ny181.out] at ho; have n0_ := Zh (hb); have n1_ := Zh (ho); clear HB; clear HO_3; have HB := n0_; have HO183 := n1_; clear n0_ n1_; clear ho hb hg hat))
      go_roundg k1
      case measure => have := HK1.out; omega
      case rel => exact ⟨(y181), (wrap64 (x4_1 + 1)), (by first | rfl | (simp; done) | (simp [*]; done)), H', ⟨by have := HK1.out; omega⟩, ⟨ZR HO183.out⟩, ⟨Zs⟩⟩
     rw [if_neg c6] at H
     exact absurd H (by simp)
    rw [if_neg c5] at H
    exact absurd H (by simp)
   rw [if_neg c4] at H
   have c4b0 : decide (x4_1 < (l0.length : Int)) = false := decide_eq_false c4
   clear c4
   obtain rfl := Option.some.inj H
   go_wp2
   go_ret
   exact ⟨_, ZE, ZR HO_3.out, Zs⟩
def laws_join.l0 : Nat → List Int → List Int → Int → Option (List Int)
 | 0, _, _, _ => none
 | k + 1, x1, x5, x6 => if x6 < (x1.length : Int) then (if 0 ≤ x6 then (if x5.length < 140737488355328 then (laws_join.l0 k x1 (x5 ++ [rd x1 x6]) (wrap64 (x6 + 1))) else (none)) else (none)) else (some x5)
def laws_join.f (k : Nat) (l0 : List Int) (l1 : List Int) : Option (List Int) := (laws_copyBytes.f k l0).bind fun t184 => (laws_join.l0 k l1 t184 0)
set_option maxHeartbeats 8000000 in
set_option maxRecDepth 100000 in
theorem laws_join.calls (k : Nat) (A0 : Option Addr) (c0 : Nat) (l0 : List Int) (A1 : Option Addr) (c1 : Nat) (l1 : List Int) (r : List Int) (w : World) (hr0 : Kd.C (Kd.int .u8) w A0 l0.length l0) (hc0 : l0.length ≤ c0) (hr1 : Kd.C (Kd.int .u8) w A1 l1.length l1) (hc1 : l1.length ≤ c1) (h : laws_join.f k l0 l1 = some r) :
  Calls Try.prog 23 #[.slice A0 l0.length c0, .slice A1 l1.length c1] w fun e w' => ∃ v0_ : Value, e = .returned (v0_) ∧ Kd.R (Kd.int .u8) 5 w' w.heap.size (fun _ => True) v0_ r ∧ Below w.heap.size w w' := by
 have HR0 := Zh hr0
 have HC0 := Zh hc0
 clear hr0 hc0
 have HR1 := Zh hr1
 have HC1 := Zh hc1
 clear hr1 hc1
 have HB := Zh (Below.refl w.heap.size w)
 have H : ((laws_copyBytes.f k l0).bind fun t184 => (laws_join.l0 k l1 t184 0)) = some r := h
 clear h
 replace H := Option.bind_eq_some_iff.mp H
 obtain ⟨t184, A30, H⟩ := H
 replace H : (laws_join.l0 k l1 t184 0) = some r := H
 have A3 := Zh A30
 clear A30
 have H' := Zh H
 clear H
 go_enter Try.func23, Try.ntmps23
 go_wp2_with (first | ((with_reducible refine gate_callee (f := 47) rfl ?_); refine ZG (some 8) Try.func47 #[.slice A0 l0.length c0] rfl ?_; (with_reducible refine (laws_copyBytes.calls k _ _ l0 t184 _ ?side1 ?side2 A3.out).mono ?_); (case side1 => repeat (first | exact HR0.out | (with_reducible refine C_alloc ?_ _) | (with_reducible refine C_drewN ?_ _) | (with_reducible refine C_drew ?_))); (case side2 => exact HC0.out); rintro e w4 ⟨v185, rfl, ho0, hb⟩; refine ⟨_, rfl, ?_⟩; have HO186 := Zh (R_lower ho0 (below_size Zs)); replace HB := Zh (Zl Zs hb); (try clear hb); (try clear hb2); (try clear hk); (try clear hi); (try clear ho0)))
 go_loopg [5, 6] k (fun kq v5 v6 w' => ∃ (x5_1 : List Int) (x6_1 : Int), v6 = .int .i64 x6_1 ∧ Aside0 (laws_join.l0 kq l1 x5_1 x6_1 = some r) ∧ Aside0 (kq ≤ k) ∧ Aside0 (Kd.R (Kd.int .u8) 5 w' w.heap.size (fun _ => True) v5 x5_1) ∧ Aside0 (Below w.heap.size w w'))
 case atStart => exact ⟨(t184), (0), (by first | rfl | (simp; done) | (simp [*]; done)), H', ⟨Nat.le_refl _⟩, ⟨ZR HO186.out⟩, ⟨Zs⟩⟩
 case round =>
  clear H'
  try clear c1
  try clear c2
  try clear p2
  try clear c4
  obtain ⟨x5_1, x6_1, rfl, HA, HK1, HO_5, HB⟩ := hrel
  cases gk with
  | zero => exact absurd HA.out (by simp [laws_join.l0])
  | succ k1 =>
   have H := HA.out
   clear HA
   simp only [laws_join.l0] at H
   by_cases c5 : x6_1 < (l1.length : Int)
   ·
    rw [if_pos c5] at H
    have c5b0 : decide (x6_1 < (l1.length : Int)) = true := decide_eq_true c5
    clear c5
    by_cases c6 : 0 ≤ x6_1
    ·
     rw [if_pos c6] at H
     have c6b0 : decide (0 ≤ x6_1) = true := decide_eq_true c6
     clear c6
     by_cases c7 : x5_1.length < 140737488355328
     ·
      rw [if_pos c7] at H
      have LMc7 := Zh c7
      clear c7
      obtain ⟨y188, hy188⟩ : ∃ y_ : List Int, y_ = (x5_1 ++ [rd l1 x6_1]) := ⟨_, rfl⟩
      replace H : (laws_join.l0 k1 l1 y188 (wrap64 (x6_1 + 1))) = some r := by first | (rw [hy188]; with_reducible exact H) | (have H2_ := (Option.bind_some _ _).symm.trans H; rw [hy188]; with_reducible exact H2_) | (have H2_ := (Option.bind_some _ _).symm.trans H; with_reducible exact H2_) | with_reducible exact H | (rw [hy188]; exact H) | exact H
      have Ny188 := Zh hy188
      clear hy188
      have H' := Zh H
      clear H
      have p187 : 0 ≤ (x6_1 : Int) := Zo
      have q187 : x6_1 < (l1.length : Int) := Zo
      obtain ⟨ad187, e187, hx187_0⟩ := Kd.at_int HR1.out x6_1 p187 q187
      cases e187
      replace hx187_0 := Zc HB.out hx187_0
      replace p187 := eq_true p187
      replace q187 := eq_true q187
      go_wp2_with (first | ((with_reducible refine gate_builtin (b := .append) (xs := #[.tmp 15, .tmp 20]) rfl ?_); at_builtin; refine R_append (Kd.int .u8) (w0 := w) w.heap.size rfl (.tmp 15) (.tmp 20) 24 5 (.int .u8 0) 1 rfl Try.underlying24 info5 rfl (by decide) (by omega) u5 x5_1 (rd l1 x6_1) [.int .u8 (rd l1 x6_1)] (fun _ => True) (fun _ => False) rfl rfl ?aP (fun _ hk => hk.elim) ?aF ?aO ?aB ?aS ?aL ?_; (case aP => exact rfl); (case aB => exact Zs); (case aF => exact (fun _ _ => trivial)); (case aO => exact (ZR HO_5.out)); (case aS => exact (below_size Zs)); (case aL => have := LMc7.out; omega); intro v189 w8 ho hb hg hat; rw [← Ny188.out] at ho; have n0_ := Zh (hb); have n1_ := Zh (ho); clear HB; clear HO_5; have HB := n0_; have HO190 := n1_; clear n0_ n1_; clear ho hb hg hat))
      go_roundg k1
      case measure => have := HK1.out; omega
      case rel => exact ⟨(y188), (wrap64 (x6_1 + 1)), (by first | rfl | (simp; done) | (simp [*]; done)), H', ⟨by have := HK1.out; omega⟩, ⟨ZR HO190.out⟩, ⟨Zs⟩⟩
     rw [if_neg c7] at H
     exact absurd H (by simp)
    rw [if_neg c6] at H
    exact absurd H (by simp)
   rw [if_neg c5] at H
   have c5b0 : decide (x6_1 < (l1.length : Int)) = false := decide_eq_false c5
   clear c5
   obtain rfl := Option.some.inj H
   go_wp2
   go_ret
   exact ⟨_, ZE, ZR HO_5.out, Zs⟩
end Go.Proofs.Ytgdebfaoohjikaa.F

namespace Go.Proofs.Ytgdebfaoohjikaa.F
open Go.RowKit Go.Proofs.YtgdebfaoohjikaaW.PrintWords Go.Proofs.YtgdebfaoohjikaaW.PrintLast Go.Proofs.YtgdebfaoohjikaaW.PrintMore
set_option linter.unusedVariables false
set_option linter.unusedSimpArgs false
def PredD (g : Nat) (lb : Array Value) (p : ByteArray → Bool) (w : World) : Prop := ∀ (n : Nat) (x : ByteArray), Calls Try.prog g (#[.string x] ++ lb) (w.drewN n) fun e w' => e = .returned (.bool (p x)) ∧ ∃ q, w' = w.drewN q
def idxM (p : ByteArray → Bool) : List ByteArray → Int → Int
  | [], _ => -1
  | x :: t, i => if p x = true then i else idxM p t (i + 1)
theorem idxM_any (p : ByteArray → Bool) : ∀ (l : List ByteArray) (i : Int), 0 ≤ i → decide (idxM p l i ≥ 0) = l.any p := by
  intro l
  induction l with
  | nil => intro i _; rfl
  | cons x t ih =>
    intro i hi
    unfold idxM
    cases h : p x with
    | true => simp [h, hi]
    | false => simp only [Bool.false_eq_true, if_false, List.any_cons, h, Bool.false_or]; exact ih _ (by omega)
set_option maxHeartbeats 4000000 in
theorem indexFunc.calls (g : Nat) (lb : Array Value) (p : ByteArray → Bool) (eg : ∀ args w, (callFunc g args).run Try.prog w = .ok (.enter g args) w) (A : Option Addr) (c : Nat) (l : List ByteArray) (w : World) (hr : Kd.C Kd.string w A l.length l) (hl : l.length ≤ 9223372036854775807) (hp : PredD g lb p w) :
    Calls Try.prog 78 #[.slice A l.length c, .func (.func g) #[] lb] w fun e w' => e = .returned (.int .i64 (idxM p l 0)) ∧ ∃ q, w' = w.drewN q := by
  have HR0 := Zh hr
  clear hr
  have HP := Zh hp
  clear hp
  go_enter Try.func78, Try.ntmps78
  go_wp2
  go_loopg [5, 8] l.length (fun gg _ v8 w' => ∃ kk m : Nat, kk ≤ l.length ∧ l.length - kk ≤ gg ∧ v8 = .int .i64 kk ∧ w' = w.drewN m ∧ Aside0 (idxM p (l.drop kk) kk = idxM p l 0))
  case atStart => exact ⟨0, 0, Nat.zero_le _, by omega, rfl, rfl, ⟨rfl⟩⟩
  case round =>
    obtain ⟨kk, m1, hkk, hg, rfl, rfl, HA⟩ := hrel
    by_cases hlt : kk < l.length
    · have hltz : (kk : Int) < (l.length : Int) := by omega
      obtain ⟨ad, e, hx⟩ := Kd.at_string HR0.out (kk : Int) (by omega) (by omega)
      cases e
      rw [Int.toNat_natCast] at hx
      have hrd : rdOf ByteArray.empty l (kk : Int) = l[kk] := by simp [rdOf, List.getD_eq_getElem?_getD, List.getElem?_eq_getElem hlt]
      have hA := HA.out
      rw [List.drop_eq_getElem_cons hlt] at hA
      rw [hrd] at hx
      clear HA hrd
      generalize l[kk] = y at hx hA
      have hcall := fun q => HP.out q y
      cases hq : p y with
      | true =>
        simp only [idxM, hq, if_true] at hA
        rw [hq] at hcall
        have HA := Zh hA
        clear hA
        go_wp2_with (go_at_fn g; refine (hcall _).mono ?_; rintro e w' ⟨rfl, q', rfl⟩)
        go_ret
        exact ⟨by rw [← HA.out]; rfl, _, rfl⟩
      | false =>
        simp only [idxM, hq, Bool.false_eq_true, if_false] at hA
        rw [hq] at hcall
        have HA := Zh hA
        clear hA
        go_wp2_with (go_at_fn g; refine (hcall _).mono ?_; rintro e w' ⟨rfl, q', rfl⟩)
        go_roundg (l.length - (kk + 1))
        case measure => omega
        case rel => exact ⟨kk + 1, _, by omega, by omega, by go_num, rfl, ⟨by have := HA.out; simpa using this⟩⟩
    have hltz : ¬ (kk : Int) < (l.length : Int) := by omega
    have : kk = l.length := by omega
    subst this
    go_wp2
    go_ret
    refine ⟨?_, m1, rfl⟩
    rw [← HA.out, List.drop_length]
    rfl
set_option maxHeartbeats 4000000 in
theorem containsFunc.calls (g : Nat) (lb : Array Value) (p : ByteArray → Bool) (eg : ∀ args w, (callFunc g args).run Try.prog w = .ok (.enter g args) w) (A : Option Addr) (c : Nat) (l : List ByteArray) (w : World) (hr : Kd.C Kd.string w A l.length l) (hl : l.length ≤ 9223372036854775807) (hp : PredD g lb p w) :
    Calls Try.prog 70 #[.slice A l.length c, .func (.func g) #[] lb] w fun e w' => e = .returned (.bool (l.any p)) ∧ ∃ q, w' = w.drewN q := by
  have hcall := indexFunc.calls g lb p eg A c l w hr hl hp
  rw [← idxM_any p l 0 (by omega)]
  clear hr hp
  go_enter Try.func70, Try.ntmps70
  have e6 : ∀ args w, (callFunc 78 args).run Try.prog w = .ok (.enter 78 args) w := enters_of Try.func78 (by kernel_rfl) rfl
  go_wp2_with (go_at_fn 78; refine hcall.mono ?_; rintro e w' ⟨rfl, q, rfl⟩)
  go_ret
  exact ⟨rfl, q, rfl⟩
theorem isRecord1.pred (w : World) : PredD 71 #[] (fun x => decide ((x.size : Int) > 40)) w := by
  intro n x
  go_enter Try.func71, Try.ntmps71
  go_wp2
  go_ret
  exact ⟨by simp, n, rfl⟩
def impl_isRecord_long.f (l : List ByteArray) : Option Bool := if l.length ≤ 9223372036854775807 then some (l.any fun x => decide ((x.size : Int) > 40)) else none
theorem impl_isRecord_long.calls (A : Option Addr) (c : Nat) (l : List ByteArray) (r : Bool) (w : World) (hr : Kd.C Kd.string w A l.length l) (hc : l.length ≤ c) (h : impl_isRecord_long.f l = some r) :
    Calls Try.prog 70 #[.slice A l.length c, .func (.func 71) #[] #[]] w fun e w' => e = .returned (.bool r) ∧ Drawn0 w w' := by
  unfold impl_isRecord_long.f at h
  split at h
  · rename_i hl
    obtain rfl := Option.some.inj h
    refine (containsFunc.calls 71 _ _ (enters_of Try.func71 (by kernel_rfl) rfl) A c l w hr hl (isRecord1.pred w)).mono ?_
    rintro e w' ⟨rfl, q, rfl⟩
    exact ⟨rfl, ⟨q, rfl⟩⟩
  exact absurd h (by simp)
end Go.Proofs.Ytgdebfaoohjikaa.F

namespace Go.Proofs.Ytgdebfaoohjikaa.F
open Go.RowKit Go.Proofs.YtgdebfaoohjikaaW.PrintWords Go.Proofs.YtgdebfaoohjikaaW.PrintWords.Kd Go.Proofs.YtgdebfaoohjikaaW.PrintMore.Kd Go.Proofs.YtgdebfaoohjikaaW.PrintLast Go.Proofs.YtgdebfaoohjikaaW.PrintMore
attribute [local go_sem] max2_int min2_int max_two min_two max_three min_three max_four min_four   -- for this text's walks alone
set_option linter.unusedVariables false
set_option linter.unusedSimpArgs false
def impl_isRecord.f (a0_0 : Int) (l0_1 : List Int) (l0_2 : List ByteArray) : Option (Bool) := if a0_0 ≥ 0 then (if a0_0 ≤ 250 then (if (l0_1.length : Int) ≤ 24 then (if (l0_2.length : Int) ≤ 6 then ((impl_isRecord_long.f l0_2).bind fun t247 => (some (!t247))) else (some false)) else (some false)) else (some false)) else (some false)
set_option maxHeartbeats 8000000 in
set_option maxRecDepth 100000 in
theorem impl_isRecord.calls (a0_0 : Int) (A0_1 : Option Addr) (c0_1 : Nat) (l0_1 : List Int) (A0_2 : Option Addr) (c0_2 : Nat) (l0_2 : List ByteArray) (r : Bool) (w : World) (hr0_1 : Kd.C (Kd.int .u64) w A0_1 l0_1.length l0_1) (hc0_1 : l0_1.length ≤ c0_1) (hr0_2 : Kd.C Kd.string w A0_2 l0_2.length l0_2) (hc0_2 : l0_2.length ≤ c0_2) (h : impl_isRecord.f a0_0 l0_1 l0_2 = some r) :
  Calls Try.prog 56 #[.agg #[.int .i64 a0_0, .slice A0_1 l0_1.length c0_1, .slice A0_2 l0_2.length c0_2]] w fun e w' => e = .returned (.bool r) ∧ Below w.heap.size w w' := by
 have hu42 := Try.underlying42
 have HR0_1 := Zh hr0_1
 have HC0_1 := Zh hc0_1
 clear hr0_1 hc0_1
 have HR0_2 := Zh hr0_2
 have HC0_2 := Zh hc0_2
 clear hr0_2 hc0_2
 have HB := Zh (Below.refl w.heap.size w)
 have H : (if a0_0 ≥ 0 then (if a0_0 ≤ 250 then (if (l0_1.length : Int) ≤ 24 then (if (l0_2.length : Int) ≤ 6 then ((impl_isRecord_long.f l0_2).bind fun t247 => (some (!t247))) else (some false)) else (some false)) else (some false)) else (some false)) = some r := h
 clear h
 by_cases c2 : a0_0 ≥ 0
 ·
  rw [if_pos c2] at H
  have c2b0 : decide (0 ≤ a0_0) = true := decide_eq_true c2
  clear c2
  by_cases c3 : a0_0 ≤ 250
  ·
   rw [if_pos c3] at H
   have c3b0 : decide (a0_0 ≤ 250) = true := decide_eq_true c3
   clear c3
   by_cases c4 : (l0_1.length : Int) ≤ 24
   ·
    rw [if_pos c4] at H
    have c4b0 : decide ((l0_1.length : Int) ≤ 24) = true := decide_eq_true c4
    have c4b1 : decide (l0_1.length ≤ 24) = true := decide_eq_true (by omega)
    clear c4
    by_cases c5 : (l0_2.length : Int) ≤ 6
    ·
     rw [if_pos c5] at H
     have c5b0 : decide ((l0_2.length : Int) ≤ 6) = true := decide_eq_true c5
     have c5b1 : decide (l0_2.length ≤ 6) = true := decide_eq_true (by omega)
     clear c5
     replace H := Option.bind_eq_some_iff.mp H
     obtain ⟨t247, A60, H⟩ := H
     replace H : (some (!t247)) = some r := H
     have A6 := Zh A60
     clear A60
     obtain rfl := Option.some.inj H
     go_enter Try.func56, Try.ntmps56
     go_wp2_with (first | ((with_reducible refine gate_dst (N := 1) rfl ?_); (try (refine gate_guard (by rfl) ?_; dsimp only)); refine box_event ?hg (N := 1) ?hd (cs := #[.int .i64 a0_0, .slice A0_1 l0_1.length c0_1, .slice A0_2 l0_2.length c0_2]) (t := 42) ?hr ?_; (case hd => rfl); (case hg => rfl); (case hr => first | (go_simp; done) | (go_simp; rfl)); intro gb246 hg w7 hbox hb; have BK246 := Zh (hbox); have GW246 := Zh ((by rw [hg]; exact (below_size Zs) : w.heap.size ≤ gb246)); have GE246 := Zh ((by rw [hg]; exact (below_size Zs) : w.heap.size ≤ gb246)); replace HB := Zh (Zl Zs hb); clear hb hbox hg; have hcz8_0 : w7.cell? ⟨gb246, 0, none⟩ = some (.int .i64 a0_0) := (blk_cell BK246.out 0).trans rfl; have hcz8_1 : w7.cell? ⟨gb246, 1, none⟩ = some (.slice A0_1 l0_1.length c0_1) := (blk_cell BK246.out 1).trans rfl; have hcz8_2 : w7.cell? ⟨gb246, 2, none⟩ = some (.slice A0_2 l0_2.length c0_2) := (blk_cell BK246.out 2).trans rfl; have hfz8_0 := Zn BK246.out 0; have hfz8_1 := Zn BK246.out 1; have hfz8_2 := Zn BK246.out 2) | (go_at_call 70; (with_reducible refine (impl_isRecord_long.calls _ _ l0_2 t247 _ ?side1 ?side2 A6.out).mono ?_); (case side1 => repeat (first | exact (C_below HR0_2.out HB.out) | (with_reducible refine C_alloc ?_ _) | (with_reducible refine C_drewN ?_ _) | (with_reducible refine C_drew ?_))); (case side2 => exact HC0_2.out); rintro e w' ⟨rfl, ⟨nd, rfl⟩⟩))
     go_ret
     exact ⟨ZE, Zs⟩
    rw [if_neg c5] at H
    have c5b0 : decide ((l0_2.length : Int) ≤ 6) = false := decide_eq_false c5
    have c5b1 : decide (l0_2.length ≤ 6) = false := decide_eq_false (by omega)
    clear c5
    obtain rfl := Option.some.inj H
    go_enter Try.func56, Try.ntmps56
    go_wp2_with (first | ((with_reducible refine gate_dst (N := 1) rfl ?_); (try (refine gate_guard (by rfl) ?_; dsimp only)); refine box_event ?hg (N := 1) ?hd (cs := #[.int .i64 a0_0, .slice A0_1 l0_1.length c0_1, .slice A0_2 l0_2.length c0_2]) (t := 42) ?hr ?_; (case hd => rfl); (case hg => rfl); (case hr => first | (go_simp; done) | (go_simp; rfl)); intro gb246 hg w9 hbox hb; have BK246 := Zh (hbox); have GW246 := Zh ((by rw [hg]; exact (below_size Zs) : w.heap.size ≤ gb246)); have GE246 := Zh ((by rw [hg]; exact (below_size Zs) : w.heap.size ≤ gb246)); replace HB := Zh (Zl Zs hb); clear hb hbox hg; have hcz10_0 : w9.cell? ⟨gb246, 0, none⟩ = some (.int .i64 a0_0) := (blk_cell BK246.out 0).trans rfl; have hcz10_1 : w9.cell? ⟨gb246, 1, none⟩ = some (.slice A0_1 l0_1.length c0_1) := (blk_cell BK246.out 1).trans rfl; have hcz10_2 : w9.cell? ⟨gb246, 2, none⟩ = some (.slice A0_2 l0_2.length c0_2) := (blk_cell BK246.out 2).trans rfl; have hfz10_0 := Zn BK246.out 0; have hfz10_1 := Zn BK246.out 1; have hfz10_2 := Zn BK246.out 2))
    go_ret
    exact ⟨ZE, Zs⟩
   rw [if_neg c4] at H
   have c4b0 : decide ((l0_1.length : Int) ≤ 24) = false := decide_eq_false c4
   have c4b1 : decide (l0_1.length ≤ 24) = false := decide_eq_false (by omega)
   clear c4
   obtain rfl := Option.some.inj H
   go_enter Try.func56, Try.ntmps56
   go_wp2_with (first | ((with_reducible refine gate_dst (N := 1) rfl ?_); (try (refine gate_guard (by rfl) ?_; dsimp only)); refine box_event ?hg (N := 1) ?hd (cs := #[.int .i64 a0_0, .slice A0_1 l0_1.length c0_1, .slice A0_2 l0_2.length c0_2]) (t := 42) ?hr ?_; (case hd => rfl); (case hg => rfl); (case hr => first | (go_simp; done) | (go_simp; rfl)); intro gb246 hg w11 hbox hb; have BK246 := Zh (hbox); have GW246 := Zh ((by rw [hg]; exact (below_size Zs) : w.heap.size ≤ gb246)); have GE246 := Zh ((by rw [hg]; exact (below_size Zs) : w.heap.size ≤ gb246)); replace HB := Zh (Zl Zs hb); clear hb hbox hg; have hcz12_0 : w11.cell? ⟨gb246, 0, none⟩ = some (.int .i64 a0_0) := (blk_cell BK246.out 0).trans rfl; have hcz12_1 : w11.cell? ⟨gb246, 1, none⟩ = some (.slice A0_1 l0_1.length c0_1) := (blk_cell BK246.out 1).trans rfl; have hcz12_2 : w11.cell? ⟨gb246, 2, none⟩ = some (.slice A0_2 l0_2.length c0_2) := (blk_cell BK246.out 2).trans rfl; have hfz12_0 := Zn BK246.out 0; have hfz12_1 := Zn BK246.out 1; have hfz12_2 := Zn BK246.out 2))
   go_ret
   exact ⟨ZE, Zs⟩
  rw [if_neg c3] at H
  have c3b0 : decide (a0_0 ≤ 250) = false := decide_eq_false c3
  clear c3
  obtain rfl := Option.some.inj H
  go_enter Try.func56, Try.ntmps56
  go_wp2_with (first | ((with_reducible refine gate_dst (N := 1) rfl ?_); (try (refine gate_guard (by rfl) ?_; dsimp only)); refine box_event ?hg (N := 1) ?hd (cs := #[.int .i64 a0_0, .slice A0_1 l0_1.length c0_1, .slice A0_2 l0_2.length c0_2]) (t := 42) ?hr ?_; (case hd => rfl); (case hg => rfl); (case hr => first | (go_simp; done) | (go_simp; rfl)); intro gb246 hg w13 hbox hb; have BK246 := Zh (hbox); have GW246 := Zh ((by rw [hg]; exact (below_size Zs) : w.heap.size ≤ gb246)); have GE246 := Zh ((by rw [hg]; exact (below_size Zs) : w.heap.size ≤ gb246)); replace HB := Zh (Zl Zs hb); clear hb hbox hg; have hcz14_0 : w13.cell? ⟨gb246, 0, none⟩ = some (.int .i64 a0_0) := (blk_cell BK246.out 0).trans rfl; have hcz14_1 : w13.cell? ⟨gb246, 1, none⟩ = some (.slice A0_1 l0_1.length c0_1) := (blk_cell BK246.out 1).trans rfl; have hcz14_2 : w13.cell? ⟨gb246, 2, none⟩ = some (.slice A0_2 l0_2.length c0_2) := (blk_cell BK246.out 2).trans rfl; have hfz14_0 := Zn BK246.out 0; have hfz14_1 := Zn BK246.out 1; have hfz14_2 := Zn BK246.out 2))
  go_ret
  exact ⟨ZE, Zs⟩
 rw [if_neg c2] at H
 have c2b0 : decide (0 ≤ a0_0) = false := decide_eq_false c2
 clear c2
 obtain rfl := Option.some.inj H
 go_enter Try.func56, Try.ntmps56
 go_wp2_with (first | ((with_reducible refine gate_dst (N := 1) rfl ?_); (try (refine gate_guard (by rfl) ?_; dsimp only)); refine box_event ?hg (N := 1) ?hd (cs := #[.int .i64 a0_0, .slice A0_1 l0_1.length c0_1, .slice A0_2 l0_2.length c0_2]) (t := 42) ?hr ?_; (case hd => rfl); (case hg => rfl); (case hr => first | (go_simp; done) | (go_simp; rfl)); intro gb246 hg w15 hbox hb; have BK246 := Zh (hbox); have GW246 := Zh ((by rw [hg]; exact (below_size Zs) : w.heap.size ≤ gb246)); have GE246 := Zh ((by rw [hg]; exact (below_size Zs) : w.heap.size ≤ gb246)); replace HB := Zh (Zl Zs hb); clear hb hbox hg; have hcz16_0 : w15.cell? ⟨gb246, 0, none⟩ = some (.int .i64 a0_0) := (blk_cell BK246.out 0).trans rfl; have hcz16_1 : w15.cell? ⟨gb246, 1, none⟩ = some (.slice A0_1 l0_1.length c0_1) := (blk_cell BK246.out 1).trans rfl; have hcz16_2 : w15.cell? ⟨gb246, 2, none⟩ = some (.slice A0_2 l0_2.length c0_2) := (blk_cell BK246.out 2).trans rfl; have hfz16_0 := Zn BK246.out 0; have hfz16_1 := Zn BK246.out 1; have hfz16_2 := Zn BK246.out 2))
 go_ret
 exact ⟨ZE, Zs⟩
def impl_RecordOk.f (a0_0 : Int) (l0_1 : List Int) (l0_2 : List ByteArray) : Option (Bool) := (impl_isRecord.f a0_0 l0_1 l0_2).bind fun t249 => (some t249)
set_option maxHeartbeats 8000000 in
set_option maxRecDepth 100000 in
theorem impl_RecordOk.calls (a0_0 : Int) (A0_1 : Option Addr) (c0_1 : Nat) (l0_1 : List Int) (A0_2 : Option Addr) (c0_2 : Nat) (l0_2 : List ByteArray) (r : Bool) (w : World) (hr0_1 : Kd.C (Kd.int .u64) w A0_1 l0_1.length l0_1) (hc0_1 : l0_1.length ≤ c0_1) (hr0_2 : Kd.C Kd.string w A0_2 l0_2.length l0_2) (hc0_2 : l0_2.length ≤ c0_2) (h : impl_RecordOk.f a0_0 l0_1 l0_2 = some r) :
  Calls Try.prog 27 #[.agg #[.int .i64 a0_0, .slice A0_1 l0_1.length c0_1, .slice A0_2 l0_2.length c0_2]] w fun e w' => e = .returned (.bool r) ∧ Below w.heap.size w w' := by
 have hu42 := Try.underlying42
 have HR0_1 := Zh hr0_1
 have HC0_1 := Zh hc0_1
 clear hr0_1 hc0_1
 have HR0_2 := Zh hr0_2
 have HC0_2 := Zh hc0_2
 clear hr0_2 hc0_2
 have HB := Zh (Below.refl w.heap.size w)
 have H : ((impl_isRecord.f a0_0 l0_1 l0_2).bind fun t249 => (some t249)) = some r := h
 clear h
 replace H := Option.bind_eq_some_iff.mp H
 obtain ⟨t249, A20, H⟩ := H
 replace H : (some t249) = some r := H
 have A2 := Zh A20
 clear A20
 obtain rfl := Option.some.inj H
 go_enter Try.func27, Try.ntmps27
 go_wp2_with (first | ((with_reducible refine gate_dst (N := 1) rfl ?_); refine box_event ?hg (N := 1) ?hd (cs := #[.int .i64 a0_0, .slice A0_1 l0_1.length c0_1, .slice A0_2 l0_2.length c0_2]) (t := 42) ?hr ?_; (case hd => rfl); (case hg => rfl); (case hr => first | (go_simp; done) | (go_simp; rfl)); intro gb248 hg w3 hbox hb; have BK248 := Zh (hbox); have GW248 := Zh ((by rw [hg]; exact (below_size Zs) : w.heap.size ≤ gb248)); have GE248 := Zh ((by rw [hg]; exact (below_size Zs) : w.heap.size ≤ gb248)); replace HB := Zh (Zl Zs hb); clear hb hbox hg; have hcz4_0 : w3.cell? ⟨gb248, 0, none⟩ = some (.int .i64 a0_0) := (blk_cell BK248.out 0).trans rfl; have hcz4_1 : w3.cell? ⟨gb248, 1, none⟩ = some (.slice A0_1 l0_1.length c0_1) := (blk_cell BK248.out 1).trans rfl; have hcz4_2 : w3.cell? ⟨gb248, 2, none⟩ = some (.slice A0_2 l0_2.length c0_2) := (blk_cell BK248.out 2).trans rfl; have hfz4_0 := Zn BK248.out 0; have hfz4_1 := Zn BK248.out 1; have hfz4_2 := Zn BK248.out 2) | ((with_reducible refine gate_callee (f := 56) rfl ?_); refine ZG (some 4) Try.func56 #[.agg #[.int .i64 a0_0, .slice A0_1 l0_1.length c0_1, .slice A0_2 l0_2.length c0_2]] rfl ?_; (with_reducible refine (impl_isRecord.calls a0_0 _ _ l0_1 _ _ l0_2 t249 _ ?side1 ?side2 ?side3 ?side4 A2.out).mono ?_); (case side1 => repeat (first | exact (C_below HR0_1.out HB.out) | (with_reducible refine C_alloc ?_ _) | (with_reducible refine C_drewN ?_ _) | (with_reducible refine C_drew ?_))); (case side2 => exact HC0_1.out); (case side3 => repeat (first | exact (C_below HR0_2.out HB.out) | (with_reducible refine C_alloc ?_ _) | (with_reducible refine C_drewN ?_ _) | (with_reducible refine C_drew ?_))); (case side4 => exact HC0_2.out); rintro e w5 ⟨rfl, hb⟩; refine ⟨_, rfl, ?_⟩; replace BK248 := Zh (blk_below (g := gb248) (o := .cells #[.int .i64 a0_0, .slice A0_1 l0_1.length c0_1, .slice A0_2 l0_2.length c0_2] 42 (0, 0)) Zk hb); replace HB := Zh (Zl Zs hb); (try clear hb); (try clear hb2); (try clear hk); (try clear hi)))
 go_ret
 exact ⟨ZE, Zs⟩
def impl_putVar.l0 : Nat → Int → List Int → Option (List Int)
 | 0, _, _ => none
 | k + 1, x0, x3 => if x0 ≥ 128 then (if x3.length < 140737488355328 then (impl_putVar.l0 k (x0 / 128) (x3 ++ [Go.bits .or .u8 ((x0) % 256) 128])) else (none)) else (if x3.length < 140737488355328 then (some (x3 ++ [(x0) % 256])) else (none))
def impl_putVar.f (k : Nat) (a0 : Int) : Option (List Int) := impl_putVar.l0 k a0 (([] : List Int))
set_option maxHeartbeats 8000000 in
set_option maxRecDepth 100000 in
theorem impl_putVar.calls (k : Nat) (a0 : Int) (r : List Int) (w : World) (h : impl_putVar.f k a0 = some r) :
  Calls Try.prog 48 #[.int .u64 a0] w fun e w' => ∃ v0_ : Value, e = .returned (v0_) ∧ Kd.R (Kd.int .u8) 5 w' w.heap.size (fun _ => True) v0_ r ∧ Below w.heap.size w w' := by
 have HB := Zh (Below.refl w.heap.size w)
 have H : (impl_putVar.l0 k a0 (([] : List Int))) = some r := h
 clear h
 obtain ⟨y110, hy110⟩ : ∃ y_ : List Int, y_ = (([] : List Int)) := ⟨_, rfl⟩
 replace H : (impl_putVar.l0 k a0 y110) = some r := by first | (rw [hy110]; with_reducible exact H) | (have H2_ := (Option.bind_some _ _).symm.trans H; rw [hy110]; with_reducible exact H2_) | (have H2_ := (Option.bind_some _ _).symm.trans H; with_reducible exact H2_) | with_reducible exact H | (rw [hy110]; exact H) | exact H
 have Ny110 := Zh hy110
 clear hy110
 have H' := Zh H
 clear H
 go_enter Try.func48, Try.ntmps48
 go_wp2_with (first | ((with_reducible refine gate_dst (N := 4) rfl ?_); refine R_lit (Kd.int .u8) _ 5 ?hg (N := 4) ?hd (xs := ([] : List Int)) (inner := []) (ok := fun _ => True) (okp := fun _ => True) ?hr ?hp (fun _ hk => hk) trivial (Below.refl _ _) (Nat.le_refl _) (by simp) ?_; (case hd => rfl); (case hg => rfl); (case hr => first | (go_simp; done) | (go_simp; rfl)); (case hp => exact (Reps.none _ _)); intro v111 w2 ho3 hb hg_ hnew_; clear hg_ hnew_; (first | rw [← Ny110.out] at ho3 | (simp only [Int.reduceToNat] at ho3; rw [← Ny110.out] at ho3)); have HO112 := Zh (R_lower ho3 (below_size Zs)); replace HB := Zh (Zl Zs hb); clear hb ho3))
 go_loopg [0, 3] k (fun kq v0 v3 w' => ∃ (x0_1 : Int) (x3_1 : List Int), v0 = .int .u64 x0_1 ∧ Aside0 (impl_putVar.l0 kq x0_1 x3_1 = some r) ∧ Aside0 (kq ≤ k) ∧ Aside0 (Kd.R (Kd.int .u8) 5 w' w.heap.size (fun _ => True) v3 x3_1) ∧ Aside0 (Below w.heap.size w w'))
 case atStart => exact ⟨(a0), (y110), (by first | rfl | (simp; done) | (simp [*]; done)), H', ⟨Nat.le_refl _⟩, ⟨ZR HO112.out⟩, ⟨Zs⟩⟩
 case round =>
  clear H'
  try clear p2
  obtain ⟨x0_1, x3_1, rfl, HA, HK1, HO_3, HB⟩ := hrel
  cases gk with
  | zero => exact absurd HA.out (by simp [impl_putVar.l0])
  | succ k1 =>
   have H := HA.out
   clear HA
   simp only [impl_putVar.l0] at H
   by_cases c4 : x0_1 ≥ 128
   ·
    rw [if_pos c4] at H
    have c4b0 : decide (128 ≤ x0_1) = true := decide_eq_true c4
    clear c4
    by_cases c5 : x3_1.length < 140737488355328
    ·
     rw [if_pos c5] at H
     have LMc5 := Zh c5
     clear c5
     obtain ⟨y113, hy113⟩ : ∃ y_ : List Int, y_ = (x3_1 ++ [Go.bits .or .u8 ((x0_1) % 256) 128]) := ⟨_, rfl⟩
     replace H : (impl_putVar.l0 k1 (x0_1 / 128) y113) = some r := by first | (rw [hy113]; with_reducible exact H) | (have H2_ := (Option.bind_some _ _).symm.trans H; rw [hy113]; with_reducible exact H2_) | (have H2_ := (Option.bind_some _ _).symm.trans H; with_reducible exact H2_) | with_reducible exact H | (rw [hy113]; exact H) | exact H
     have Ny113 := Zh hy113
     clear hy113
     have H' := Zh H
     clear H
     go_wp2_with (first | ((with_reducible refine gate_builtin (b := .append) (xs := #[.tmp 7, .tmp 11]) rfl ?_); at_builtin; refine R_append (Kd.int .u8) (w0 := w) w.heap.size rfl (.tmp 7) (.tmp 11) 24 5 (.int .u8 0) 1 rfl Try.underlying24 info5 rfl (by decide) (by omega) u3 x3_1 (Go.bits .or .u8 ((x0_1) % 256) 128) [.int .u8 (Go.bits .or .u8 ((x0_1) % 256) 128)] (fun _ => True) (fun _ => False) rfl rfl ?aP (fun _ hk => hk.elim) ?aF ?aO ?aB ?aS ?aL ?_; (case aP => exact rfl); (case aB => exact Zs); (case aF => exact (fun _ _ => trivial)); (case aO => exact (ZR HO_3.out)); (case aS => exact (below_size Zs)); (case aL => have := LMc5.out; omega); intro v114 w6 ho hb hg hat; rw [← Ny113.out] at ho; have n0_ := Zh (hb); have n1_ := Zh (ho); clear HB; clear HO_3; have HB := n0_; have HO115 := n1_; clear n0_ n1_; clear ho hb hg hat))
     go_roundg k1
     case measure => have := HK1.out; omega
     case rel => exact ⟨(x0_1 / 128), (y113), (by first | rfl | (simp; done) | (simp [*]; done)), H', ⟨by have := HK1.out; omega⟩, ⟨ZR HO115.out⟩, ⟨Zs⟩⟩
    rw [if_neg c5] at H
    exact absurd H (by simp)
   rw [if_neg c4] at H
   have c4b0 : decide (128 ≤ x0_1) = false := decide_eq_false c4
   clear c4
   by_cases c7 : x3_1.length < 140737488355328
   ·
    rw [if_pos c7] at H
    have LMc7 := Zh c7
    clear c7
    obtain ⟨y116, hy116⟩ : ∃ y_ : List Int, y_ = (x3_1 ++ [(x0_1) % 256]) := ⟨_, rfl⟩
    replace H : (some y116) = some r := by first | (rw [hy116]; with_reducible exact H) | (have H2_ := (Option.bind_some _ _).symm.trans H; rw [hy116]; with_reducible exact H2_) | (have H2_ := (Option.bind_some _ _).symm.trans H; with_reducible exact H2_) | with_reducible exact H | (rw [hy116]; exact H) | exact H
    have Ny116 := Zh hy116
    clear hy116
    obtain rfl := Option.some.inj H
    go_wp2_with (first | ((with_reducible refine gate_builtin (b := .append) (xs := #[.tmp 15, .tmp 18]) rfl ?_); at_builtin; refine R_append (Kd.int .u8) (w0 := w) w.heap.size rfl (.tmp 15) (.tmp 18) 24 5 (.int .u8 0) 1 rfl Try.underlying24 info5 rfl (by decide) (by omega) u3 x3_1 ((x0_1) % 256) [.int .u8 ((x0_1) % 256)] (fun _ => True) (fun _ => False) rfl rfl ?aP (fun _ hk => hk.elim) ?aF ?aO ?aB ?aS ?aL ?_; (case aP => exact rfl); (case aB => exact Zs); (case aF => exact (fun _ _ => trivial)); (case aO => exact (ZR HO_3.out)); (case aS => exact (below_size Zs)); (case aL => have := LMc7.out; omega); intro v117 w8 ho hb hg hat; rw [← Ny116.out] at ho; have n0_ := Zh (hb); have n1_ := Zh (ho); clear HB; clear HO_3; have HB := n0_; have HO118 := n1_; clear n0_ n1_; clear ho hb hg hat))
    go_ret
    exact ⟨_, ZE, ZR HO118.out, Zs⟩
   rw [if_neg c7] at H
   exact absurd H (by simp)
mutual
def impl_encode.l0 : Nat → List Int → List Int → Int → Int → Int → List Int → List ByteArray → Option (List Int)
 | 0, _, _, _, _, _, _, _ => none
 | k + 1, x3, x17, x18, x19, x326000, x326001, x326002 => if x19 < x18 then (if 0 ≤ x19 then (if x19 < (x17.length : Int) then ((impl_putVar.f k (rd x17 x19)).bind fun t330 => (if x3.length + t330.length < 140737488355328 then (impl_encode.l0 k (x3 ++ t330) x17 x18 (wrap64 (x19 + 1)) x326000 x326001 x326002) else (none))) else (none)) else (none)) else (if x3.length < 140737488355328 then (impl_encode.l1 k (x3 ++ [((x326002.length : Int)) % 256]) x326002 (x326002.length : Int) 0) else (none))
def impl_encode.l1 : Nat → List Int → List ByteArray → Int → Int → Option (List Int)
 | 0, _, _, _, _ => none
 | k + 1, x3, x36, x37, x38 => if x38 < x37 then (if 0 ≤ x38 then (if x38 < (x36.length : Int) then (if x3.length < 140737488355328 then ((some (x3 ++ [(((rdOf ByteArray.empty x36 x38).size : Int)) % 256] : List Int)).bind fun y340 => (if y340.length + (rdOf ByteArray.empty x36 x38).size < 140737488355328 then (impl_encode.l1 k (y340 ++ bytesOf (rdOf ByteArray.empty x36 x38)) x36 x37 (wrap64 (x38 + 1))) else (none))) else (none)) else (none)) else (none)) else (some x3)
end
def impl_encode.f (k : Nat) (a0_0 : Int) (l0_1 : List Int) (l0_2 : List ByteArray) : Option (List Int) := impl_encode.l0 k (([(a0_0) % 256, ((l0_1.length : Int)) % 256] : List Int)) l0_1 (l0_1.length : Int) 0 a0_0 l0_1 l0_2
set_option maxHeartbeats 8000000 in
set_option maxRecDepth 100000 in
theorem impl_encode.calls (k : Nat) (a0_0 : Int) (A0_1 : Option Addr) (c0_1 : Nat) (l0_1 : List Int) (A0_2 : Option Addr) (c0_2 : Nat) (l0_2 : List ByteArray) (r : List Int) (w : World) (hr0_1 : Kd.C (Kd.int .u64) w A0_1 l0_1.length l0_1) (hc0_1 : l0_1.length ≤ c0_1) (hr0_2 : Kd.C Kd.string w A0_2 l0_2.length l0_2) (hc0_2 : l0_2.length ≤ c0_2) (h : impl_encode.f k a0_0 l0_1 l0_2 = some r) :
  Calls Try.prog 60 #[.agg #[.int .i64 a0_0, .slice A0_1 l0_1.length c0_1, .slice A0_2 l0_2.length c0_2]] w fun e w' => ∃ v0_ : Value, e = .returned (v0_) ∧ Kd.R (Kd.int .u8) 5 w' w.heap.size (fun _ => True) v0_ r ∧ Below w.heap.size w w' := by
 have hu42 := Try.underlying42
 have HR0_1 := Zh hr0_1
 have HC0_1 := Zh hc0_1
 clear hr0_1 hc0_1
 have HR0_2 := Zh hr0_2
 have HC0_2 := Zh hc0_2
 clear hr0_2 hc0_2
 have HB := Zh (Below.refl w.heap.size w)
 have H : (impl_encode.l0 k (([(a0_0) % 256, ((l0_1.length : Int)) % 256] : List Int)) l0_1 (l0_1.length : Int) 0 a0_0 l0_1 l0_2) = some r := h
 clear h
 obtain ⟨y326, hy326⟩ : ∃ y_ : List Int, y_ = (([(a0_0) % 256, ((l0_1.length : Int)) % 256] : List Int)) := ⟨_, rfl⟩
 replace H : (impl_encode.l0 k y326 l0_1 (l0_1.length : Int) 0 a0_0 l0_1 l0_2) = some r := by first | (rw [hy326]; with_reducible exact H) | (have H2_ := (Option.bind_some _ _).symm.trans H; rw [hy326]; with_reducible exact H2_) | (have H2_ := (Option.bind_some _ _).symm.trans H; with_reducible exact H2_) | with_reducible exact H | (rw [hy326]; exact H) | exact H
 have Ny326 := Zh hy326
 clear hy326
 have H' := Zh H
 clear H
 go_enter Try.func60, Try.ntmps60
 go_wp2_with (first | ((with_reducible refine gate_dst (N := 1) rfl ?_); refine box_event ?hg (N := 1) ?hd (cs := #[.int .i64 a0_0, .slice A0_1 l0_1.length c0_1, .slice A0_2 l0_2.length c0_2]) (t := 42) ?hr ?_; (case hd => rfl); (case hg => rfl); (case hr => first | (go_simp; done) | (go_simp; rfl)); intro gb325 hg w2 hbox hb; have BK325 := Zh (hbox); have GW325 := Zh ((by rw [hg]; exact (below_size Zs) : w.heap.size ≤ gb325)); have GE325 := Zh ((by rw [hg]; exact (below_size Zs) : w.heap.size ≤ gb325)); replace HB := Zh (Zl Zs hb); clear hb hbox hg; have hcz3_0 : w2.cell? ⟨gb325, 0, none⟩ = some (.int .i64 a0_0) := (blk_cell BK325.out 0).trans rfl; have hcz3_1 : w2.cell? ⟨gb325, 1, none⟩ = some (.slice A0_1 l0_1.length c0_1) := (blk_cell BK325.out 1).trans rfl; have hcz3_2 : w2.cell? ⟨gb325, 2, none⟩ = some (.slice A0_2 l0_2.length c0_2) := (blk_cell BK325.out 2).trans rfl; have hfz3_0 := Zn BK325.out 0; have hfz3_1 := Zn BK325.out 1; have hfz3_2 := Zn BK325.out 2) | ((with_reducible refine gate_dst (N := 15) rfl ?_); refine R_lit (Kd.int .u8) _ 5 ?hg (N := 15) ?hd (xs := ([(a0_0) % 256, ((l0_1.length : Int)) % 256] : List Int)) (inner := [.int .u8 ((a0_0) % 256), .int .u8 (((l0_1.length : Int)) % 256)]) (ok := fun _ => True) (okp := fun _ => True) ?hr ?hp (fun _ hk => hk) trivial (Below.refl _ _) (Nat.le_refl _) (by simp) ?_; (case hd => rfl); (case hg => rfl); (case hr => first | (go_simp; done) | (go_simp; rfl)); (case hp => exact (Reps.one (show Kd.M (Kd.int .u8) _ _ _ ((a0_0) % 256) [.int .u8 ((a0_0) % 256)] from rfl) (Reps.one (show Kd.M (Kd.int .u8) _ _ _ (((l0_1.length : Int)) % 256) [.int .u8 (((l0_1.length : Int)) % 256)] from rfl) (Reps.none _ _)))); intro v327 w4 ho5 hb hg_ hnew_; clear hg_ hnew_; (first | rw [← Ny326.out] at ho5 | (simp only [Int.reduceToNat] at ho5; rw [← Ny326.out] at ho5)); have HO328 := Zh (R_lower ho5 (below_size Zs)); replace BK325 := Zh (blk_below (g := gb325) (o := .cells #[.int .i64 a0_0, .slice A0_1 l0_1.length c0_1, .slice A0_2 l0_2.length c0_2] 42 (0, 0)) Zk hb); replace HB := Zh (Zl Zs hb); clear hb ho5; have hcz6_0 : w4.cell? ⟨gb325, 0, none⟩ = some (.int .i64 a0_0) := (blk_cell BK325.out 0).trans rfl; have hcz6_1 : w4.cell? ⟨gb325, 1, none⟩ = some (.slice A0_1 l0_1.length c0_1) := (blk_cell BK325.out 1).trans rfl; have hcz6_2 : w4.cell? ⟨gb325, 2, none⟩ = some (.slice A0_2 l0_2.length c0_2) := (blk_cell BK325.out 2).trans rfl; have hfz6_0 := Zn BK325.out 0; have hfz6_1 := Zn BK325.out 1; have hfz6_2 := Zn BK325.out 2))
 go_loopg [3, 19] k (fun kq v3 v19 w' => ∃ (x3_1 : List Int) (x19_1 : Int), v19 = .int .i64 x19_1 ∧ Aside0 (impl_encode.l0 kq x3_1 l0_1 (l0_1.length : Int) x19_1 a0_0 l0_1 l0_2 = some r) ∧ Aside0 (kq ≤ k) ∧ Aside0 (Kd.R (Kd.int .u8) 5 w' w.heap.size (fun _ => True) v3 x3_1) ∧ Aside0 (w'.heap[gb325]? = some (.cells #[.int .i64 a0_0, (.slice A0_1 l0_1.length c0_1), (.slice A0_2 l0_2.length c0_2)] 42 (0, 0))) ∧ Aside0 (Below w.heap.size w w'))
 case atStart => exact ⟨(y326), (0), (by first | rfl | (simp; done) | (simp [*]; done)), H', ⟨Nat.le_refl _⟩, ⟨ZR HO328.out⟩, ⟨Zk⟩, ⟨Zs⟩⟩
 case round =>
  clear H'
  try clear p2
  try clear c6
  try clear hcz3_0
  try clear hcz3_1
  try clear hcz3_2
  try clear hcz6_0
  try clear hcz6_1
  try clear hcz6_2
  try clear hfz3_0
  try clear hfz3_1
  try clear hfz3_2
  try clear hfz6_0
  try clear hfz6_1
  try clear hfz6_2
  obtain ⟨x3_1, x19_1, rfl, HA, HK1, HO_3, BK325, HB⟩ := hrel
  cases gk with
  | zero => exact absurd HA.out (by simp [impl_encode.l0])
  | succ k1 =>
   have H := HA.out
   clear HA
   simp only [impl_encode.l0] at H
   by_cases c7 : x19_1 < (l0_1.length : Int)
   ·
    rw [if_pos c7] at H
    have c7b0 : decide (x19_1 < (l0_1.length : Int)) = true := decide_eq_true c7
    clear c7
    by_cases c8 : 0 ≤ x19_1
    ·
     rw [if_pos c8] at H
     have c8b0 : decide (0 ≤ x19_1) = true := decide_eq_true c8
     clear c8
     by_cases c9 : x19_1 < (l0_1.length : Int)
     ·
      rw [if_pos c9] at H
      have c9b0 : decide (x19_1 < (l0_1.length : Int)) = true := decide_eq_true c9
      clear c9
      replace H := Option.bind_eq_some_iff.mp H
      obtain ⟨t330, A100, H⟩ := H
      replace H : (if x3_1.length + t330.length < 140737488355328 then (impl_encode.l0 k1 (x3_1 ++ t330) l0_1 (l0_1.length : Int) (wrap64 (x19_1 + 1)) a0_0 l0_1 l0_2) else (none)) = some r := H
      have A10 := Zh A100
      clear A100
      by_cases c11 : x3_1.length + t330.length < 140737488355328
      ·
       rw [if_pos c11] at H
       have LMc11 := Zh c11
       clear c11
       obtain ⟨y333, hy333⟩ : ∃ y_ : List Int, y_ = (x3_1 ++ t330) := ⟨_, rfl⟩
       replace H : (impl_encode.l0 k1 y333 l0_1 (l0_1.length : Int) (wrap64 (x19_1 + 1)) a0_0 l0_1 l0_2) = some r := by first | (rw [hy333]; with_reducible exact H) | (have H2_ := (Option.bind_some _ _).symm.trans H; rw [hy333]; with_reducible exact H2_) | (have H2_ := (Option.bind_some _ _).symm.trans H; with_reducible exact H2_) | with_reducible exact H | (rw [hy333]; exact H) | exact H
       have Ny333 := Zh hy333
       clear hy333
       have H' := Zh H
       clear H
       have p329 : 0 ≤ (x19_1 : Int) := Zo
       have q329 : x19_1 < (l0_1.length : Int) := Zo
       obtain ⟨ad329, e329, hx329_0⟩ := Kd.at_int HR0_1.out x19_1 p329 q329
       cases e329
       replace hx329_0 := Zc HB.out hx329_0
       replace p329 := eq_true p329
       replace q329 := eq_true q329
       go_wp2_with (first | ((with_reducible refine gate_callee (f := 48) rfl ?_); refine ZG (some 25) Try.func48 #[.int .u64 (rd l0_1 x19_1)] rfl ?_; (with_reducible refine (impl_putVar.calls k1 (rd l0_1 x19_1) t330 _ A10.out).mono ?_); rintro e w12 ⟨v331, rfl, ho0, hb⟩; refine ⟨_, rfl, ?_⟩; have HO332 := Zh (R_lower (R_new' ho0 (R_lt (ZR HO_3.out))) (below_size Zs)); replace HO_3 := Zh (R_elder' (ZR HO_3.out) (R_base ho0) hb); replace BK325 := Zh (blk_below (g := gb325) (o := .cells #[.int .i64 a0_0, .slice (some ad329) l0_1.length c0_1, .slice A0_2 l0_2.length c0_2] 42 (0, 0)) Zk hb); replace HB := Zh (Zl Zs hb); (try clear hb); (try clear hb2); (try clear hk); (try clear hi); (try clear ho0); obtain ⟨Ao14, co14, eo14⟩ := R_slice HO332.out; subst eo14) | ((with_reducible refine gate_builtin (b := .append) (xs := #[.tmp 23, .tmp 25]) rfl ?_); at_builtin; refine R_append_rows (Kd.int .u8) (w0 := w) w.heap.size rfl (.tmp 23) (.tmp 25) 24 5 (.int .u8 0) 1 rfl Try.underlying24 info5 rfl (by decide) (by omega) u3 x3_1 t330 _ _ _ (fun k_ => some k_ ≠ (.slice Ao14 t330.length co14 : Value).ownBlock) (fun _ => False) rfl rfl ?aO ?aR (fun _ _ h => h) (fun _ h => h.elim) ?aF ?aB ?aS ?aL ?_; (case aR => repeat (first | exact (R_reads' HO332.out).2.2 | (with_reducible refine C_alloc ?_ _) | (with_reducible refine C_drewN ?_ _) | (with_reducible refine C_drew ?_))); (case aB => exact Zs); (case aF => exact (fun k_ hk => Kd.fresh' (R_lt (ZR HO332.out)) k_ hk)); (case aO => exact (ZR (R_mono HO_3.out (fun _ hk => hk.2)))); (case aS => exact (below_size Zs)); (case aL => have := LMc11.out; omega); intro v334 w13 ho hb hg hat; rw [← Ny333.out] at ho; have n0_ := Zh (blk_grown (g := gb325) (o := .cells #[.int .i64 a0_0, .slice (some ad329) l0_1.length c0_1, .slice A0_2 l0_2.length c0_2] 42 (0, 0)) Zk hg (R_ne HO_3.out BK325.out (by decide))); have n1_ := Zh (R_after (ok := (fun _ => True)) (ZR HO332.out) hg hat); have n2_ := Zh (hb); have n3_ := Zh (ho); clear BK325; clear HO332; clear HB; clear HO_3; have BK325 := n0_; have HO332 := n1_; have HB := n2_; have HO335 := n3_; clear n0_ n1_ n2_ n3_; clear ho hb hg hat))
       go_roundg k1
       case measure => have := HK1.out; omega
       case rel => exact ⟨(y333), (wrap64 (x19_1 + 1)), (by first | rfl | (simp; done) | (simp [*]; done)), H', ⟨by have := HK1.out; omega⟩, ⟨ZR (R_mono HO335.out (fun _ hk => trivial))⟩, ⟨Zk⟩, ⟨Zs⟩⟩
      rw [if_neg c11] at H
      exact absurd H (by simp)
     rw [if_neg c9] at H
     exact absurd H (by simp)
    rw [if_neg c8] at H
    exact absurd H (by simp)
   rw [if_neg c7] at H
   have c7b0 : decide (x19_1 < (l0_1.length : Int)) = false := decide_eq_false c7
   clear c7
   by_cases c15 : x3_1.length < 140737488355328
   ·
    rw [if_pos c15] at H
    have LMc15 := Zh c15
    clear c15
    obtain ⟨y336, hy336⟩ : ∃ y_ : List Int, y_ = (x3_1 ++ [((l0_2.length : Int)) % 256]) := ⟨_, rfl⟩
    replace H : (impl_encode.l1 k1 y336 l0_2 (l0_2.length : Int) 0) = some r := by first | (rw [hy336]; with_reducible exact H) | (have H2_ := (Option.bind_some _ _).symm.trans H; rw [hy336]; with_reducible exact H2_) | (have H2_ := (Option.bind_some _ _).symm.trans H; with_reducible exact H2_) | with_reducible exact H | (rw [hy336]; exact H) | exact H
    have Ny336 := Zh hy336
    clear hy336
    have H' := Zh H
    clear H
    have hcz16_0 : wr.cell? ⟨gb325, 0, none⟩ = some (.int .i64 a0_0) := (blk_cell BK325.out 0).trans rfl
    have hcz16_1 : wr.cell? ⟨gb325, 1, none⟩ = some (.slice A0_1 l0_1.length c0_1) := (blk_cell BK325.out 1).trans rfl
    have hcz16_2 : wr.cell? ⟨gb325, 2, none⟩ = some (.slice A0_2 l0_2.length c0_2) := (blk_cell BK325.out 2).trans rfl
    have hfz16_0 := Zn BK325.out 0
    have hfz16_1 := Zn BK325.out 1
    have hfz16_2 := Zn BK325.out 2
    go_wp2_with (first | ((with_reducible refine gate_builtin (b := .append) (xs := #[.tmp 28, .tmp 33]) rfl ?_); at_builtin; refine R_append (Kd.int .u8) (w0 := w) w.heap.size rfl (.tmp 28) (.tmp 33) 24 5 (.int .u8 0) 1 rfl Try.underlying24 info5 rfl (by decide) (by omega) u3 x3_1 (((l0_2.length : Int)) % 256) [.int .u8 (((l0_2.length : Int)) % 256)] (fun _ => True) (fun _ => False) rfl rfl ?aP (fun _ hk => hk.elim) ?aF ?aO ?aB ?aS ?aL ?_; (case aP => exact rfl); (case aB => exact Zs); (case aF => exact (fun _ _ => trivial)); (case aO => exact (ZR HO_3.out)); (case aS => exact (below_size Zs)); (case aL => have := LMc15.out; omega); intro v337 w17 ho hb hg hat; rw [← Ny336.out] at ho; have n0_ := Zh (blk_grown (g := gb325) (o := .cells #[.int .i64 a0_0, .slice A0_1 l0_1.length c0_1, .slice A0_2 l0_2.length c0_2] 42 (0, 0)) Zk hg (R_ne HO_3.out BK325.out (by decide))); have n1_ := Zh (hb); have n2_ := Zh (ho); clear BK325; clear HB; clear HO_3; have BK325 := n0_; have HB := n1_; have HO338 := n2_; clear n0_ n1_ n2_; clear ho hb hg hat; have hcz18_0 : w17.cell? ⟨gb325, 0, none⟩ = some (.int .i64 a0_0) := (blk_cell BK325.out 0).trans rfl; have hcz18_1 : w17.cell? ⟨gb325, 1, none⟩ = some (.slice A0_1 l0_1.length c0_1) := (blk_cell BK325.out 1).trans rfl; have hcz18_2 : w17.cell? ⟨gb325, 2, none⟩ = some (.slice A0_2 l0_2.length c0_2) := (blk_cell BK325.out 2).trans rfl; have hfz18_0 := Zn BK325.out 0; have hfz18_1 := Zn BK325.out 1; have hfz18_2 := Zn BK325.out 2))
    go_loopg [3, 38] k1 (fun kq v3 v38 w' => ∃ (x3_2 : List Int) (x38_2 : Int), v38 = .int .i64 x38_2 ∧ Aside0 (impl_encode.l1 kq x3_2 l0_2 (l0_2.length : Int) x38_2 = some r) ∧ Aside0 (kq ≤ k1) ∧ Aside0 (Kd.R (Kd.int .u8) 5 w' w.heap.size (fun _ => True) v3 x3_2) ∧ Aside0 (w'.heap[gb325]? = some (.cells #[.int .i64 a0_0, (.slice A0_1 l0_1.length c0_1), (.slice A0_2 l0_2.length c0_2)] 42 (0, 0))) ∧ Aside0 (Below w.heap.size w w'))
    case atStart => exact ⟨(y336), (0), (by first | rfl | (simp; done) | (simp [*]; done)), H', ⟨Nat.le_refl _⟩, ⟨ZR HO338.out⟩, ⟨Zk⟩, ⟨Zs⟩⟩
    case round =>
     clear H'
     try clear c1
     try clear p2
     try clear p3
     try clear q3
     try clear hx3
     try clear c4
     try clear c6
     try clear p6
     try clear c7
     try clear c7b0
     try clear c8
     try clear c8b0
     try clear c9
     try clear c9b0
     try clear c11
     try clear c15
     try clear hcz16_0
     try clear hcz16_1
     try clear hcz16_2
     try clear hcz18_0
     try clear hcz18_1
     try clear hcz18_2
     try clear hcz3_0
     try clear hcz3_1
     try clear hcz3_2
     try clear hcz6_0
     try clear hcz6_1
     try clear hcz6_2
     try clear hfz16_0
     try clear hfz16_1
     try clear hfz16_2
     try clear hfz18_0
     try clear hfz18_1
     try clear hfz18_2
     try clear hfz3_0
     try clear hfz3_1
     try clear hfz3_2
     try clear hfz6_0
     try clear hfz6_1
     try clear hfz6_2
     try clear hx329_0
     try clear p2
     try clear p329
     try clear q329
     obtain ⟨x3_2, x38_2, rfl, HA, HK2, HO_3, BK325, HB⟩ := hrel
     cases gk with
     | zero => exact absurd HA.out (by simp [impl_encode.l1])
     | succ k2 =>
      have H := HA.out
      clear HA
      simp only [impl_encode.l1] at H
      by_cases c19 : x38_2 < (l0_2.length : Int)
      ·
       rw [if_pos c19] at H
       have c19b0 : decide (x38_2 < (l0_2.length : Int)) = true := decide_eq_true c19
       clear c19
       by_cases c20 : 0 ≤ x38_2
       ·
        rw [if_pos c20] at H
        have c20b0 : decide (0 ≤ x38_2) = true := decide_eq_true c20
        clear c20
        by_cases c21 : x38_2 < (l0_2.length : Int)
        ·
         rw [if_pos c21] at H
         have c21b0 : decide (x38_2 < (l0_2.length : Int)) = true := decide_eq_true c21
         clear c21
         by_cases c22 : x3_2.length < 140737488355328
         ·
          rw [if_pos c22] at H
          have LMc22 := Zh c22
          clear c22
          obtain ⟨y340, hy340⟩ : ∃ y_ : List Int, y_ = (x3_2 ++ [(((rdOf ByteArray.empty l0_2 x38_2).size : Int)) % 256]) := ⟨_, rfl⟩
          replace H : (if y340.length + (rdOf ByteArray.empty l0_2 x38_2).size < 140737488355328 then (impl_encode.l1 k2 (y340 ++ bytesOf (rdOf ByteArray.empty l0_2 x38_2)) l0_2 (l0_2.length : Int) (wrap64 (x38_2 + 1))) else (none)) = some r := by first | (rw [hy340]; with_reducible exact H) | (have H2_ := (Option.bind_some _ _).symm.trans H; rw [hy340]; with_reducible exact H2_) | (have H2_ := (Option.bind_some _ _).symm.trans H; with_reducible exact H2_) | with_reducible exact H | (rw [hy340]; exact H) | exact H
          have Ny340 := Zh hy340
          clear hy340
          by_cases c23 : y340.length + (rdOf ByteArray.empty l0_2 x38_2).size < 140737488355328
          ·
           rw [if_pos c23] at H
           have LMc23 := Zh c23
           clear c23
           obtain ⟨y343, hy343⟩ : ∃ y_ : List Int, y_ = (y340 ++ bytesOf (rdOf ByteArray.empty l0_2 x38_2)) := ⟨_, rfl⟩
           replace H : (impl_encode.l1 k2 y343 l0_2 (l0_2.length : Int) (wrap64 (x38_2 + 1))) = some r := by first | (rw [hy343]; with_reducible exact H) | (have H2_ := (Option.bind_some _ _).symm.trans H; rw [hy343]; with_reducible exact H2_) | (have H2_ := (Option.bind_some _ _).symm.trans H; with_reducible exact H2_) | with_reducible exact H | (rw [hy343]; exact H) | exact H
           have Ny343 := Zh hy343
           clear hy343
           have H' := Zh H
           clear H
           have p339 : 0 ≤ (x38_2 : Int) := Zo
           have q339 : x38_2 < (l0_2.length : Int) := Zo
           obtain ⟨ad339, e339, hx339_0⟩ := Kd.at_string HR0_2.out x38_2 p339 q339
           cases e339
           replace hx339_0 := Zc HB.out hx339_0
           replace p339 := eq_true p339
           replace q339 := eq_true q339
           go_wp2_with (first | ((with_reducible refine gate_builtin (b := .append) (xs := #[.tmp 42, .tmp 46]) rfl ?_); at_builtin; refine R_append (Kd.int .u8) (w0 := w) w.heap.size rfl (.tmp 42) (.tmp 46) 24 5 (.int .u8 0) 1 rfl Try.underlying24 info5 rfl (by decide) (by omega) u3 x3_2 ((((rdOf ByteArray.empty l0_2 x38_2).size : Int)) % 256) [.int .u8 ((((rdOf ByteArray.empty l0_2 x38_2).size : Int)) % 256)] (fun _ => True) (fun _ => False) rfl rfl ?aP (fun _ hk => hk.elim) ?aF ?aO ?aB ?aS ?aL ?_; (case aP => exact rfl); (case aB => exact Zs); (case aF => exact (fun _ _ => trivial)); (case aO => exact (ZR HO_3.out)); (case aS => exact (below_size Zs)); (case aL => have := LMc22.out; omega); intro v341 w24 ho hb hg hat; rw [← Ny340.out] at ho; have n0_ := Zh (blk_grown (g := gb325) (o := .cells #[.int .i64 a0_0, .slice A0_1 l0_1.length c0_1, .slice (some ad339) l0_2.length c0_2] 42 (0, 0)) Zk hg (R_ne HO_3.out BK325.out (by decide))); have n1_ := Zh (hb); have n2_ := Zh (ho); clear BK325; clear HB; clear HO_3; have BK325 := n0_; have HB := n1_; have HO342 := n2_; clear n0_ n1_ n2_; clear ho hb hg hat) | (at_builtin; refine print_append_str (w0 := w) w.heap.size rfl (.tmp 47) _ 24 9 5 rfl Try.underlying24 Try.underlying9 info5 v341 y340 (rdOf ByteArray.empty l0_2 x38_2) rfl rfl ?aO ?aB ?aS ?aL ?_; (case aB => exact Zs); (case aO => exact (Kd.own_of_R (ZR HO342.out))); (case aS => exact (below_size Zs)); (case aL => have := LMc23.out; omega); intro v344 w25 ho0 hb hg; have ho := R_of_own (h1 := fun _ => rfl) (ok := fun _ => True) ho0 (fun _ _ => trivial); clear ho0; have hat := True.intro; rw [← Ny343.out] at ho; change Kd.R (Kd.int .u8) 5 w25 w.heap.size (fun _ => True) v344 y343 at ho; have n0_ := Zh (blk_grown (g := gb325) (o := .cells #[.int .i64 a0_0, .slice A0_1 l0_1.length c0_1, .slice (some ad339) l0_2.length c0_2] 42 (0, 0)) Zk hg (R_ne HO342.out BK325.out (by decide))); have n1_ := Zh (hb); have n2_ := Zh (ho); clear BK325; clear HB; clear HO342; have BK325 := n0_; have HB := n1_; have HO345 := n2_; clear n0_ n1_ n2_; clear ho hb hg hat))
           go_roundg k2
           case measure => have := HK1.out; have := HK2.out; omega
           case rel => exact ⟨(y343), (wrap64 (x38_2 + 1)), (by first | rfl | (simp; done) | (simp [*]; done)), H', ⟨by have := HK1.out; have := HK2.out; omega⟩, ⟨ZR HO345.out⟩, ⟨Zk⟩, ⟨Zs⟩⟩
          rw [if_neg c23] at H
          exact absurd H (by simp)
         rw [if_neg c22] at H
         exact absurd H (by simp)
        rw [if_neg c21] at H
        exact absurd H (by simp)
       rw [if_neg c20] at H
       exact absurd H (by simp)
      rw [if_neg c19] at H
      have c19b0 : decide (x38_2 < (l0_2.length : Int)) = false := decide_eq_false c19
      clear c19
      obtain rfl := Option.some.inj H
      go_wp2
      go_ret
      exact ⟨_, ZE, ZR HO_3.out, Zs⟩
   rw [if_neg c15] at H
   exact absurd H (by simp)
def impl_Encode.f (k : Nat) (a0_0 : Int) (l0_1 : List Int) (l0_2 : List ByteArray) : Option (List Int) := (impl_isRecord.f a0_0 l0_1 l0_2).bind fun t347 => (if t347 = true then ((impl_encode.f k a0_0 l0_1 l0_2).bind fun t348 => (some t348)) else (some ([] : List Int)))
set_option maxHeartbeats 8000000 in
set_option maxRecDepth 100000 in
theorem impl_Encode.calls (k : Nat) (a0_0 : Int) (A0_1 : Option Addr) (c0_1 : Nat) (l0_1 : List Int) (A0_2 : Option Addr) (c0_2 : Nat) (l0_2 : List ByteArray) (r : List Int) (w : World) (hr0_1 : Kd.C (Kd.int .u64) w A0_1 l0_1.length l0_1) (hc0_1 : l0_1.length ≤ c0_1) (hr0_2 : Kd.C Kd.string w A0_2 l0_2.length l0_2) (hc0_2 : l0_2.length ≤ c0_2) (h : impl_Encode.f k a0_0 l0_1 l0_2 = some r) :
  Calls Try.prog 30 #[.agg #[.int .i64 a0_0, .slice A0_1 l0_1.length c0_1, .slice A0_2 l0_2.length c0_2]] w fun e w' => ∃ v0_ : Value, e = .returned (v0_) ∧ Kd.R (Kd.int .u8) 5 w' w.heap.size (fun _ => True) v0_ r ∧ Below w.heap.size w w' := by
 have hu42 := Try.underlying42
 have HR0_1 := Zh hr0_1
 have HC0_1 := Zh hc0_1
 clear hr0_1 hc0_1
 have HR0_2 := Zh hr0_2
 have HC0_2 := Zh hc0_2
 clear hr0_2 hc0_2
 have HB := Zh (Below.refl w.heap.size w)
 have H : ((impl_isRecord.f a0_0 l0_1 l0_2).bind fun t347 => (if t347 = true then ((impl_encode.f k a0_0 l0_1 l0_2).bind fun t348 => (some t348)) else (some ([] : List Int)))) = some r := h
 clear h
 replace H := Option.bind_eq_some_iff.mp H
 obtain ⟨t347, A20, H⟩ := H
 replace H : (if t347 = true then ((impl_encode.f k a0_0 l0_1 l0_2).bind fun t348 => (some t348)) else (some ([] : List Int))) = some r := H
 have A2 := Zh A20
 clear A20
 by_cases c3 : t347 = true
 ·
  subst c3
  have H1 : ((impl_encode.f k a0_0 l0_1 l0_2).bind fun t348 => (some t348)) = some r := by rw [if_pos rfl] at H; exact H
  clear H
  have H := H1
  clear H1
  replace H := Option.bind_eq_some_iff.mp H
  obtain ⟨t348, A40, H⟩ := H
  replace H : (some t348) = some r := H
  have A4 := Zh A40
  clear A40
  obtain rfl := Option.some.inj H
  go_enter Try.func30, Try.ntmps30
  go_wp2_with (first | ((with_reducible refine gate_dst (N := 1) rfl ?_); refine box_event ?hg (N := 1) ?hd (cs := #[.int .i64 a0_0, .slice A0_1 l0_1.length c0_1, .slice A0_2 l0_2.length c0_2]) (t := 42) ?hr ?_; (case hd => rfl); (case hg => rfl); (case hr => first | (go_simp; done) | (go_simp; rfl)); intro gb346 hg w5 hbox hb; have BK346 := Zh (hbox); have GW346 := Zh ((by rw [hg]; exact (below_size Zs) : w.heap.size ≤ gb346)); have GE346 := Zh ((by rw [hg]; exact (below_size Zs) : w.heap.size ≤ gb346)); replace HB := Zh (Zl Zs hb); clear hb hbox hg; have hcz6_0 : w5.cell? ⟨gb346, 0, none⟩ = some (.int .i64 a0_0) := (blk_cell BK346.out 0).trans rfl; have hcz6_1 : w5.cell? ⟨gb346, 1, none⟩ = some (.slice A0_1 l0_1.length c0_1) := (blk_cell BK346.out 1).trans rfl; have hcz6_2 : w5.cell? ⟨gb346, 2, none⟩ = some (.slice A0_2 l0_2.length c0_2) := (blk_cell BK346.out 2).trans rfl; have hfz6_0 := Zn BK346.out 0; have hfz6_1 := Zn BK346.out 1; have hfz6_2 := Zn BK346.out 2) | ((with_reducible refine gate_callee (f := 56) rfl ?_); refine ZG (some 4) Try.func56 #[.agg #[.int .i64 a0_0, .slice A0_1 l0_1.length c0_1, .slice A0_2 l0_2.length c0_2]] rfl ?_; (with_reducible refine (impl_isRecord.calls a0_0 _ _ l0_1 _ _ l0_2 true _ ?side1 ?side2 ?side3 ?side4 A2.out).mono ?_); (case side1 => repeat (first | exact (C_below HR0_1.out HB.out) | (with_reducible refine C_alloc ?_ _) | (with_reducible refine C_drewN ?_ _) | (with_reducible refine C_drew ?_))); (case side2 => exact HC0_1.out); (case side3 => repeat (first | exact (C_below HR0_2.out HB.out) | (with_reducible refine C_alloc ?_ _) | (with_reducible refine C_drewN ?_ _) | (with_reducible refine C_drew ?_))); (case side4 => exact HC0_2.out); rintro e w7 ⟨rfl, hb⟩; refine ⟨_, rfl, ?_⟩; replace BK346 := Zh (blk_below (g := gb346) (o := .cells #[.int .i64 a0_0, .slice A0_1 l0_1.length c0_1, .slice A0_2 l0_2.length c0_2] 42 (0, 0)) Zk hb); replace HB := Zh (Zl Zs hb); (try clear hb); (try clear hb2); (try clear hk); (try clear hi); have hcz8_0 : w7.cell? ⟨gb346, 0, none⟩ = some (.int .i64 a0_0) := (blk_cell BK346.out 0).trans rfl; have hcz8_1 : w7.cell? ⟨gb346, 1, none⟩ = some (.slice A0_1 l0_1.length c0_1) := (blk_cell BK346.out 1).trans rfl; have hcz8_2 : w7.cell? ⟨gb346, 2, none⟩ = some (.slice A0_2 l0_2.length c0_2) := (blk_cell BK346.out 2).trans rfl; have hfz8_0 := Zn BK346.out 0; have hfz8_1 := Zn BK346.out 1; have hfz8_2 := Zn BK346.out 2) | ((with_reducible refine gate_callee (f := 60) rfl ?_); refine ZG (some 7) Try.func60 #[.agg #[.int .i64 a0_0, .slice A0_1 l0_1.length c0_1, .slice A0_2 l0_2.length c0_2]] rfl ?_; (with_reducible refine (impl_encode.calls k a0_0 _ _ l0_1 _ _ l0_2 t348 _ ?side1 ?side2 ?side3 ?side4 A4.out).mono ?_); (case side1 => repeat (first | exact (C_below HR0_1.out HB.out) | (with_reducible refine C_alloc ?_ _) | (with_reducible refine C_drewN ?_ _) | (with_reducible refine C_drew ?_))); (case side2 => exact HC0_1.out); (case side3 => repeat (first | exact (C_below HR0_2.out HB.out) | (with_reducible refine C_alloc ?_ _) | (with_reducible refine C_drewN ?_ _) | (with_reducible refine C_drew ?_))); (case side4 => exact HC0_2.out); rintro e w9 ⟨v349, rfl, ho0, hb⟩; refine ⟨_, rfl, ?_⟩; have HO350 := Zh (R_lower ho0 (below_size Zs)); replace BK346 := Zh (blk_below (g := gb346) (o := .cells #[.int .i64 a0_0, .slice A0_1 l0_1.length c0_1, .slice A0_2 l0_2.length c0_2] 42 (0, 0)) Zk hb); replace HB := Zh (Zl Zs hb); (try clear hb); (try clear hb2); (try clear hk); (try clear hi); (try clear ho0)))
  go_ret
  exact ⟨_, ZE, ZR HO350.out, Zs⟩
 replace c3 := Bool.eq_false_iff.mpr c3
 subst c3
 have H1 : (some ([] : List Int)) = some r := by rw [if_neg (show ¬ (false = true) by decide)] at H; exact H
 clear H
 have H := H1
 clear H1
 obtain rfl := Option.some.inj H
 go_enter Try.func30, Try.ntmps30
 go_wp2_with (first | ((with_reducible refine gate_dst (N := 1) rfl ?_); refine box_event ?hg (N := 1) ?hd (cs := #[.int .i64 a0_0, .slice A0_1 l0_1.length c0_1, .slice A0_2 l0_2.length c0_2]) (t := 42) ?hr ?_; (case hd => rfl); (case hg => rfl); (case hr => first | (go_simp; done) | (go_simp; rfl)); intro gb346 hg w10 hbox hb; have BK346 := Zh (hbox); have GW346 := Zh ((by rw [hg]; exact (below_size Zs) : w.heap.size ≤ gb346)); have GE346 := Zh ((by rw [hg]; exact (below_size Zs) : w.heap.size ≤ gb346)); replace HB := Zh (Zl Zs hb); clear hb hbox hg; have hcz11_0 : w10.cell? ⟨gb346, 0, none⟩ = some (.int .i64 a0_0) := (blk_cell BK346.out 0).trans rfl; have hcz11_1 : w10.cell? ⟨gb346, 1, none⟩ = some (.slice A0_1 l0_1.length c0_1) := (blk_cell BK346.out 1).trans rfl; have hcz11_2 : w10.cell? ⟨gb346, 2, none⟩ = some (.slice A0_2 l0_2.length c0_2) := (blk_cell BK346.out 2).trans rfl; have hfz11_0 := Zn BK346.out 0; have hfz11_1 := Zn BK346.out 1; have hfz11_2 := Zn BK346.out 2) | ((with_reducible refine gate_callee (f := 56) rfl ?_); refine ZG (some 4) Try.func56 #[.agg #[.int .i64 a0_0, .slice A0_1 l0_1.length c0_1, .slice A0_2 l0_2.length c0_2]] rfl ?_; (with_reducible refine (impl_isRecord.calls a0_0 _ _ l0_1 _ _ l0_2 false _ ?side1 ?side2 ?side3 ?side4 A2.out).mono ?_); (case side1 => repeat (first | exact (C_below HR0_1.out HB.out) | (with_reducible refine C_alloc ?_ _) | (with_reducible refine C_drewN ?_ _) | (with_reducible refine C_drew ?_))); (case side2 => exact HC0_1.out); (case side3 => repeat (first | exact (C_below HR0_2.out HB.out) | (with_reducible refine C_alloc ?_ _) | (with_reducible refine C_drewN ?_ _) | (with_reducible refine C_drew ?_))); (case side4 => exact HC0_2.out); rintro e w12 ⟨rfl, hb⟩; refine ⟨_, rfl, ?_⟩; replace BK346 := Zh (blk_below (g := gb346) (o := .cells #[.int .i64 a0_0, .slice A0_1 l0_1.length c0_1, .slice A0_2 l0_2.length c0_2] 42 (0, 0)) Zk hb); replace HB := Zh (Zl Zs hb); (try clear hb); (try clear hb2); (try clear hk); (try clear hi)))
 go_ret
 exact ⟨_, ZE, by first | exact R_nil _ _ _ _ _ | exact N_nil _ _ _ _ _ | exact V_nil _ _ _ _ _ | exact Q_nil _ _ _ _ _ | exact S_nil _ _ _ _ _, Zs⟩
mutual
def impl_getVar.l0 : Nat → List Int → Int → Int → Int → Option (Int × Int × Bool)
 | 0, _, _, _, _ => none
 | k + 1, x0, x1, x7, x8 => if x8 < 10 then (impl_getVar.j1 k x0 x1 x7 x8 (decide ((wrap64 (x1 + x8)) < (x0.length : Int)))) else (impl_getVar.j1 k x0 x1 x7 x8 false)
def impl_getVar.j1 : Nat → List Int → Int → Int → Int → Bool → Option (Int × Int × Bool)
 | 0, _, _, _, _, _ => none
 | k + 1, x0, x1, x7, x8, x19 => if x19 = true then (if 0 ≤ (wrap64 (x1 + x8)) then (if (wrap64 (x1 + x8)) < (x0.length : Int) then (if x8 = 9 then (impl_getVar.j2 k x0 x1 x7 x8 (rd x0 (wrap64 (x1 + x8))) (decide ((rd x0 (wrap64 (x1 + x8))) > 1))) else (impl_getVar.j2 k x0 x1 x7 x8 (rd x0 (wrap64 (x1 + x8))) false)) else (none)) else (none)) else (some (0, 0, false))
def impl_getVar.j2 : Nat → List Int → Int → Int → Int → Int → Bool → Option (Int × Int × Bool)
 | 0, _, _, _, _, _, _ => none
 | k + 1, x0, x1, x7, x8, x9, x33 => if x33 = true then (some (0, 0, false)) else (if 0 ≤ (wrap64 (7 * x8)) then (if x9 ≥ 128 then (impl_getVar.l0 k x0 x1 (Go.bits .or .u64 x7 (shl .u64 (IntKind.u64.wrap (Go.bits .and .u8 x9 127)) (wrap64 (7 * x8)))) (wrap64 (x8 + 1))) else (if x9 = 0 then (if x8 > 0 then (some (0, 0, false)) else (some (Go.bits .or .u64 x7 (shl .u64 (IntKind.u64.wrap (Go.bits .and .u8 x9 127)) (wrap64 (7 * x8))), wrap64 ((wrap64 (x1 + x8)) + 1), true))) else (some (Go.bits .or .u64 x7 (shl .u64 (IntKind.u64.wrap (Go.bits .and .u8 x9 127)) (wrap64 (7 * x8))), wrap64 ((wrap64 (x1 + x8)) + 1), true)))) else (none))
end
def impl_getVar.f (k : Nat) (l0 : List Int) (a1 : Int) : Option (Int × Int × Bool) := impl_getVar.l0 k l0 a1 0 0
set_option maxHeartbeats 8000000 in
set_option maxRecDepth 100000 in
theorem impl_getVar.calls (k : Nat) (A0 : Option Addr) (c0 : Nat) (l0 : List Int) (a1 : Int) (r1 : Int) (r2 : Int) (r3 : Bool) (w : World) (hr0 : Kd.C (Kd.int .u8) w A0 l0.length l0) (hc0 : l0.length ≤ c0) (h : impl_getVar.f k l0 a1 = some (r1, r2, r3)) :
  Calls Try.prog 51 #[.slice A0 l0.length c0, .int .i64 a1] w fun e w' => e = .returned (.tuple #[.int .u64 r1, .int .i64 r2, .bool r3]) ∧ Drawn0 w w' := by
 have HR0 := Zh hr0
 have HC0 := Zh hc0
 clear hr0 hc0
 have H : (impl_getVar.l0 k l0 a1 0 0) = some (r1, r2, r3) := h
 clear h
 have H' := Zh H
 clear H
 go_enter Try.func51, Try.ntmps51
 go_wp2
 go_loopg [7, 8] k (fun kq v7 v8 w' => ∃ (x7_1 : Int) (x8_1 : Int), v7 = .int .u64 x7_1 ∧ v8 = .int .i64 x8_1 ∧ Aside0 (impl_getVar.l0 kq l0 a1 x7_1 x8_1 = some (r1, r2, r3)) ∧ Aside0 (kq ≤ k) ∧ Drawn0 w w')
 case atStart => exact ⟨(0), (0), (by first | rfl | (simp; done) | (simp [*]; done)), (by first | rfl | (simp; done) | (simp [*]; done)), H', ⟨Nat.le_refl _⟩, by repeat (first | exact Drawn0.refl _ | apply Drawn0.step)⟩
 case round =>
  clear H'
  try clear p2
  obtain ⟨x7_1, x8_1, rfl, rfl, HA, HK1, ⟨m1, rfl⟩⟩ := hrel
  cases gk with
  | zero => exact absurd HA.out (by simp [impl_getVar.l0])
  | succ k1 =>
   have H := HA.out
   clear HA
   simp only [impl_getVar.l0] at H
   have HC3 := Zh H
   clear H
   go_upto_region 3 with (fail)
   go_cut [19] (fun v19 wc => ∃ (kq : Nat) (x19_2 : Bool), v19 = .bool x19_2 ∧ Aside0 (impl_getVar.j1 kq l0 a1 x7_1 x8_1 x19_2 = some (r1, r2, r3)) ∧ Aside0 (kq ≤ k1) ∧ Drawn0 w wc)
   case first =>
    have H := HC3.out
    clear HC3
    by_cases c4 : x8_1 < 10
    ·
     rw [if_pos c4] at H
     have c4b0 : decide (x8_1 < 10) = true := decide_eq_true c4
     clear c4
     (first | rw [c4b0] | (simp only [i64_w, i32_w]; rw [c4b0]) | skip)
     have H' := Zh H
     clear H
     go_wp2
     go_meet
     case rel => exact ⟨_, (decide ((wrap64 (a1 + x8_1)) < (l0.length : Int))), (by first | rfl | (simp; done) | (simp [*]; done)), H', ⟨by have := HK1.out; first | omega | exact Nat.le_refl _⟩, by repeat (first | exact Drawn0.refl _ | apply Drawn0.step)⟩
    rw [if_neg c4] at H
    have c4b0 : decide (x8_1 < 10) = false := decide_eq_false c4
    clear c4
    (first | rw [c4b0] | (simp only [i64_w, i32_w]; rw [c4b0]) | skip)
    have H' := Zh H
    clear H
    go_wp2
    go_meet
    case rel => exact ⟨_, (false), (by first | rfl | (simp; done) | (simp [*]; done)), H', ⟨by have := HK1.out; first | omega | exact Nat.le_refl _⟩, by repeat (first | exact Drawn0.refl _ | apply Drawn0.step)⟩
   case rest =>
    clear HC3
    try clear p2
    try clear c4
    try clear c4b0
    try clear p2
    obtain ⟨kq, x19_2, rfl, HA, HJ2, ⟨mc2, rfl⟩⟩ := hcut
    cases kq with
    | zero => exact absurd HA.out (by simp [impl_getVar.j1])
    | succ kj2 =>
     have H := HA.out
     clear HA
     simp only [impl_getVar.j1] at H
     by_cases c5 : x19_2 = true
     ·
      subst c5
      have H1 : (if 0 ≤ (wrap64 (a1 + x8_1)) then (if (wrap64 (a1 + x8_1)) < (l0.length : Int) then (if x8_1 = 9 then (impl_getVar.j2 kj2 l0 a1 x7_1 x8_1 (rd l0 (wrap64 (a1 + x8_1))) (decide ((rd l0 (wrap64 (a1 + x8_1))) > 1))) else (impl_getVar.j2 kj2 l0 a1 x7_1 x8_1 (rd l0 (wrap64 (a1 + x8_1))) false)) else (none)) else (none)) = some (r1, r2, r3) := by rw [if_pos rfl] at H; exact H
      clear H
      have H := H1
      clear H1
      obtain ⟨ji6, hji6⟩ : ∃ j_ : Int, (wrap64 (a1 + x8_1)) = j_ := ⟨_, rfl⟩
      replace H : (if 0 ≤ (ji6) then (if (ji6) < (l0.length : Int) then (if x8_1 = 9 then (impl_getVar.j2 kj2 l0 a1 x7_1 x8_1 (rd l0 (ji6)) (decide ((rd l0 (ji6)) > 1))) else (impl_getVar.j2 kj2 l0 a1 x7_1 x8_1 (rd l0 (ji6)) false)) else (none)) else (none)) = some (r1, r2, r3) := by first | (rw [hji6] at H; exact H) | (simp only [hji6] at H ⊢; exact H)
      have hji6w : (IntKind.i64.wrap (a1 + x8_1)) = ji6 := (i64_w _).trans hji6
      by_cases c7 : 0 ≤ (ji6)
      ·
       rw [if_pos c7] at H
       have c7b0 : decide (0 ≤ (ji6)) = true := decide_eq_true c7
       clear c7
       by_cases c8 : (ji6) < (l0.length : Int)
       ·
        rw [if_pos c8] at H
        have c8b0 : decide ((ji6) < (l0.length : Int)) = true := decide_eq_true c8
        clear c8
        have HC9 := Zh H
        clear H
        have p156 : 0 ≤ ((ji6) : Int) := Zo
        have q156 : (ji6) < (l0.length : Int) := Zo
        obtain ⟨ad156, e156, hx156_0⟩ := Kd.at_int HR0.out (ji6) p156 q156
        cases e156
        replace p156 := eq_true p156
        replace q156 := eq_true q156
        go_upto_region 6 with (fail)
        go_cut [33] (fun v33 wc => ∃ (kq : Nat) (x33_8 : Bool), v33 = .bool x33_8 ∧ Aside0 (impl_getVar.j2 kq l0 a1 x7_1 x8_1 (rd l0 (ji6)) x33_8 = some (r1, r2, r3)) ∧ Aside0 (kq ≤ kj2) ∧ Drawn0 w wc)
        case first =>
         have H := HC9.out
         clear HC9
         by_cases c10 : x8_1 = 9
         ·
          rw [if_pos c10] at H
          have c10b0 : (x8_1 == 9) = true := beq_iff_eq.mpr c10
          have c10b1 : (x8_1 != 9) = false := bne_eq_false_iff_eq.mpr c10
          clear c10
          (first | rw [c10b0] | (simp only [i64_w, i32_w]; rw [c10b0]) | skip)
          have H' := Zh H
          clear H
          go_wp2
          go_meet
          case rel => exact ⟨_, (decide ((rd l0 (ji6)) > 1)), (by first | rfl | (simp; done) | (simp only [← hji6] <;> (first | rfl | simp)) | (simp [*]; done)), (by first | exact H' | (simp only [hji6]; exact H')), ⟨by have := HK1.out; have := HJ2.out; first | omega | exact Nat.le_refl _⟩, by repeat (first | exact Drawn0.refl _ | apply Drawn0.step)⟩
         rw [if_neg c10] at H
         have c10b0 : (x8_1 == 9) = false := beq_eq_false_iff_ne.mpr c10
         have c10b1 : (x8_1 != 9) = true := bne_iff_ne.mpr c10
         (first | rw [c10b0] | (simp only [i64_w, i32_w]; rw [c10b0]) | skip)
         have H' := Zh H
         clear H
         go_wp2
         go_meet
         case rel => exact ⟨_, (false), (by first | rfl | (simp; done) | (simp [*]; done)), H', ⟨by have := HK1.out; have := HJ2.out; first | omega | exact Nat.le_refl _⟩, by repeat (first | exact Drawn0.refl _ | apply Drawn0.step)⟩
        case rest =>
         clear HC9
         try clear c1
         try clear p1
         try clear q1
         try clear hx1
         try clear c2
         try clear p2
         try clear c4
         try clear c4b0
         try clear c5
         try clear p6
         try clear c7
         try clear c7b0
         try clear c8
         try clear c8b0
         try clear c10
         try clear c10b0
         try clear c10b1
         try clear hx156_0
         try clear p156
         try clear p2
         try clear q156
         obtain ⟨kq, x33_8, rfl, HA, HJ8, ⟨mc8, rfl⟩⟩ := hcut
         cases kq with
         | zero => exact absurd HA.out (by simp [impl_getVar.j2])
         | succ kj8 =>
          have H := HA.out
          clear HA
          simp only [impl_getVar.j2] at H
          by_cases c11 : x33_8 = true
          ·
           subst c11
           have H1 : (some (0, 0, false)) = some (r1, r2, r3) := by rw [if_pos rfl] at H; exact H
           clear H
           have H := H1
           clear H1
           simp only [Option.some.injEq, Prod.mk.injEq] at H
           obtain ⟨rfl, rfl, rfl⟩ := H
           go_wp2
           go_ret3
           exact ⟨by first | rfl | (simp; done) | (simp only [← hji6] <;> (first | rfl | simp)) | (simp [*]; done), by repeat (first | exact Drawn0.refl _ | apply Drawn0.step)⟩
          replace c11 := Bool.eq_false_iff.mpr c11
          subst c11
          have H1 : (if 0 ≤ (wrap64 (7 * x8_1)) then (if (rd l0 (ji6)) ≥ 128 then (impl_getVar.l0 kj8 l0 a1 (Go.bits .or .u64 x7_1 (shl .u64 (IntKind.u64.wrap (Go.bits .and .u8 (rd l0 (ji6)) 127)) (wrap64 (7 * x8_1)))) (wrap64 (x8_1 + 1))) else (if (rd l0 (ji6)) = 0 then (if x8_1 > 0 then (some (0, 0, false)) else (some (Go.bits .or .u64 x7_1 (shl .u64 (IntKind.u64.wrap (Go.bits .and .u8 (rd l0 (ji6)) 127)) (wrap64 (7 * x8_1))), wrap64 ((wrap64 (a1 + x8_1)) + 1), true))) else (some (Go.bits .or .u64 x7_1 (shl .u64 (IntKind.u64.wrap (Go.bits .and .u8 (rd l0 (ji6)) 127)) (wrap64 (7 * x8_1))), wrap64 ((wrap64 (a1 + x8_1)) + 1), true)))) else (none)) = some (r1, r2, r3) := by rw [if_neg (show ¬ (false = true) by decide)] at H; exact H
          clear H
          have H := H1
          clear H1
          obtain ⟨ji12, hji12⟩ : ∃ j_ : Int, (wrap64 (7 * x8_1)) = j_ := ⟨_, rfl⟩
          replace H : (if 0 ≤ (ji12) then (if (rd l0 (ji6)) ≥ 128 then (impl_getVar.l0 kj8 l0 a1 (Go.bits .or .u64 x7_1 (shl .u64 (IntKind.u64.wrap (Go.bits .and .u8 (rd l0 (ji6)) 127)) (ji12))) (wrap64 (x8_1 + 1))) else (if (rd l0 (ji6)) = 0 then (if x8_1 > 0 then (some (0, 0, false)) else (some (Go.bits .or .u64 x7_1 (shl .u64 (IntKind.u64.wrap (Go.bits .and .u8 (rd l0 (ji6)) 127)) (ji12)), wrap64 ((wrap64 (a1 + x8_1)) + 1), true))) else (some (Go.bits .or .u64 x7_1 (shl .u64 (IntKind.u64.wrap (Go.bits .and .u8 (rd l0 (ji6)) 127)) (ji12)), wrap64 ((wrap64 (a1 + x8_1)) + 1), true)))) else (none)) = some (r1, r2, r3) := by first | (rw [hji12] at H; exact H) | (simp only [hji12] at H ⊢; exact H)
          have hji12w : (IntKind.i64.wrap (7 * x8_1)) = ji12 := (i64_w _).trans hji12
          by_cases c13 : 0 ≤ (ji12)
          ·
           rw [if_pos c13] at H
           have c13b0 := eq_true c13
           have c13b1 : decide (0 ≤ (ji12)) = true := decide_eq_true c13
           clear c13
           obtain ⟨ji14, hji14⟩ : ∃ j_ : Int, (shl .u64 (IntKind.u64.wrap (Go.bits .and .u8 (rd l0 (ji6)) 127)) (ji12)) = j_ := ⟨_, rfl⟩
           replace H : (if (rd l0 (ji6)) ≥ 128 then (impl_getVar.l0 kj8 l0 a1 (Go.bits .or .u64 x7_1 (ji14)) (wrap64 (x8_1 + 1))) else (if (rd l0 (ji6)) = 0 then (if x8_1 > 0 then (some (0, 0, false)) else (some (Go.bits .or .u64 x7_1 (ji14), wrap64 ((wrap64 (a1 + x8_1)) + 1), true))) else (some (Go.bits .or .u64 x7_1 (ji14), wrap64 ((wrap64 (a1 + x8_1)) + 1), true)))) = some (r1, r2, r3) := by first | (rw [hji14] at H; exact H) | (simp only [hji14] at H ⊢; exact H)
           have hji14_ : (IntKind.u64.wrap ((IntKind.u64.wrap (Go.bits .and .u8 (rd l0 (ji6)) 127)) * 2 ^ min (ji12).toNat 64)) = ji14 := hji14
           have hji14z : (ji12) ≤ 64 → (IntKind.u64.wrap ((IntKind.u64.wrap (Go.bits .and .u8 (rd l0 (ji6)) 127)) * 2 ^ (ji12).toNat)) = ji14 := shl_small hji14
           by_cases c15 : (rd l0 (ji6)) ≥ 128
           ·
            rw [if_pos c15] at H
            have c15b0 : decide (128 ≤ (rd l0 (ji6))) = true := decide_eq_true c15
            clear c15
            have H' := Zh H
            clear H
            go_wp2
            go_roundg kj8
            case measure => have := HK1.out; have := HJ2.out; have := HJ8.out; omega
            case rel => exact ⟨(Go.bits .or .u64 x7_1 (ji14)), (wrap64 (x8_1 + 1)), (by first | rfl | (simp; done) | (simp only [← hji14] <;> (first | rfl | simp)) | (simp [*]; done)), (by first | rfl | (simp; done) | (simp [*]; done)), (by first | exact H' | (simp only [hji14]; exact H')), ⟨by have := HK1.out; have := HJ2.out; have := HJ8.out; omega⟩, by repeat (first | exact Drawn0.refl _ | apply Drawn0.step)⟩
           rw [if_neg c15] at H
           have c15b0 : decide (128 ≤ (rd l0 (ji6))) = false := decide_eq_false c15
           clear c15
           by_cases c16 : (rd l0 (ji6)) = 0
           ·
            rw [if_pos c16] at H
            have c16b0 : ((rd l0 (ji6)) == 0) = true := beq_iff_eq.mpr c16
            have c16b1 : ((rd l0 (ji6)) != 0) = false := bne_eq_false_iff_eq.mpr c16
            clear c16
            by_cases c17 : x8_1 > 0
            ·
             rw [if_pos c17] at H
             have c17b0 : decide (0 < x8_1) = true := decide_eq_true c17
             clear c17
             simp only [Option.some.injEq, Prod.mk.injEq] at H
             obtain ⟨rfl, rfl, rfl⟩ := H
             go_wp2
             go_ret3
             exact ⟨by first | rfl | (simp; done) | (simp only [← hji6, ← hji12, ← hji14] <;> (first | rfl | simp)) | (simp [*]; done), by repeat (first | exact Drawn0.refl _ | apply Drawn0.step)⟩
            rw [if_neg c17] at H
            have c17b0 : decide (0 < x8_1) = false := decide_eq_false c17
            clear c17
            simp only [Option.some.injEq, Prod.mk.injEq] at H
            obtain ⟨rfl, rfl, rfl⟩ := H
            go_wp2
            go_ret3
            exact ⟨by first | rfl | (simp; done) | (simp only [← hji6, ← hji12, ← hji14] <;> (first | rfl | simp)) | (simp [*]; done), by repeat (first | exact Drawn0.refl _ | apply Drawn0.step)⟩
           rw [if_neg c16] at H
           have c16b0 : ((rd l0 (ji6)) == 0) = false := beq_eq_false_iff_ne.mpr c16
           have c16b1 : ((rd l0 (ji6)) != 0) = true := bne_iff_ne.mpr c16
           simp only [Option.some.injEq, Prod.mk.injEq] at H
           obtain ⟨rfl, rfl, rfl⟩ := H
           go_wp2
           go_ret3
           exact ⟨by first | rfl | (simp; done) | (simp only [← hji6, ← hji12, ← hji14] <;> (first | rfl | simp)) | (simp [*]; done), by repeat (first | exact Drawn0.refl _ | apply Drawn0.step)⟩
          rw [if_neg c13] at H
          exact absurd H (by simp)
       rw [if_neg c8] at H
       exact absurd H (by simp)
      rw [if_neg c7] at H
      exact absurd H (by simp)
     replace c5 := Bool.eq_false_iff.mpr c5
     subst c5
     have H1 : (some (0, 0, false)) = some (r1, r2, r3) := by rw [if_neg (show ¬ (false = true) by decide)] at H; exact H
     clear H
     have H := H1
     clear H1
     simp only [Option.some.injEq, Prod.mk.injEq] at H
     obtain ⟨rfl, rfl, rfl⟩ := H
     go_wp2
     go_ret3
     exact ⟨by first | rfl | (simp; done) | (simp [*]; done), by repeat (first | exact Drawn0.refl _ | apply Drawn0.step)⟩
mutual
def impl_decode.j0 : Nat → List Int → Bool → Option (Int × List Int × List ByteArray × Bool)
 | 0, _, _ => none
 | k + 1, x0, x24 => if x24 = true then (some (0, ([] : List Int), ([] : List ByteArray), false)) else (if 0 < (x0.length : Int) then (if 1 < (x0.length : Int) then (impl_decode.l0 k x0 2 (rd x0 1) 0 (wrap64 (rd x0 0)) ([] : List Int)) else (none)) else (none))
def impl_decode.l0 : Nat → List Int → Int → Int → Int → Int → List Int → Option (Int × List Int × List ByteArray × Bool)
 | 0, _, _, _, _, _, _ => none
 | k + 1, x0, x5, x33, x34, x436000, x436001 => if x34 < x33 then ((impl_getVar.f k x0 x5).bind fun bt437 => (if bt437.2.2 = true then (if x436001.length < 17592186044416 then (impl_decode.l0 k x0 bt437.2.1 x33 ((x34 + 1) % 256) x436000 (x436001 ++ [bt437.1])) else (none)) else (some (0, ([] : List Int), ([] : List ByteArray), false)))) else (if x5 ≥ (x0.length : Int) then (some (0, ([] : List Int), ([] : List ByteArray), false)) else (if 0 ≤ x5 then (if x5 < (x0.length : Int) then (impl_decode.l1 k x0 (wrap64 (x5 + 1)) (wrap64 (rd x0 x5)) 0 x436000 x436001 ([] : List ByteArray)) else (none)) else (none)))
def impl_decode.l1 : Nat → List Int → Int → Int → Int → Int → List Int → List ByteArray → Option (Int × List Int × List ByteArray × Bool)
 | 0, _, _, _, _, _, _, _ => none
 | k + 1, x0, x5, x66, x67, x436000, x436001, x436002 => if x67 < x66 then (if x5 ≥ (x0.length : Int) then (some (0, ([] : List Int), ([] : List ByteArray), false)) else (if 0 ≤ x5 then (if x5 < (x0.length : Int) then (if (wrap64 ((wrap64 (x5 + 1)) + (wrap64 (rd x0 x5)))) > (x0.length : Int) then (some (0, ([] : List Int), ([] : List ByteArray), false)) else (if 0 ≤ (wrap64 (x5 + 1)) then (if (wrap64 (x5 + 1)) ≤ (wrap64 ((wrap64 (x5 + 1)) + (wrap64 (rd x0 x5)))) then (if (wrap64 ((wrap64 (x5 + 1)) + (wrap64 (rd x0 x5)))) ≤ (x0.length : Int) then (if x436002.length < 8796093022208 then (impl_decode.l1 k x0 (wrap64 ((wrap64 (x5 + 1)) + (wrap64 (rd x0 x5)))) x66 (wrap64 (x67 + 1)) x436000 x436001 (x436002 ++ [strOfNums ((x0.take ((wrap64 ((wrap64 (x5 + 1)) + (wrap64 (rd x0 x5)))) : Int).toNat).drop ((wrap64 (x5 + 1)) : Int).toNat)])) else (none)) else (none)) else (none)) else (none))) else (none)) else (none))) else (if x5 = (x0.length : Int) then ((impl_isRecord.f x436000 x436001 x436002).bind fun t450 => (if t450 = true then (some (x436000, x436001, x436002, true)) else (some (0, ([] : List Int), ([] : List ByteArray), false)))) else (some (0, ([] : List Int), ([] : List ByteArray), false)))
end
def impl_decode.f (k : Nat) (l0 : List Int) : Option (Int × List Int × List ByteArray × Bool) := if (l0.length : Int) < 3 then (impl_decode.j0 k l0 true) else (if (l0.length : Int) > 4000 then (impl_decode.j0 k l0 true) else (if 1 < (l0.length : Int) then (impl_decode.j0 k l0 (decide ((rd l0 1) > 24))) else (none)))
def impl_decode.T22 : Bool × List (List Nat × List Nat) := (true, [([], []), ([0], [0]), ([], []), ([], []), ([3], [3]), ([], []), ([2, 4, 5], [2, 4, 5]), ([6], [6]), ([7], [7]), ([1, 8], [1, 8]), ([0, 1, 2, 3, 4, 5, 6, 7, 8, 9], []), ([10, 9, 9, 0, 1, 2, 3, 4, 5, 6, 7, 8, 9], [9, 10])])
def impl_decode.B22 : List Nat := [0, 1, 0, 0, 8, 0, 60, 124, 252, 511, 1023, 2047]
theorem impl_decode.tab22 : rtab .any (opsOf Try.f63 22) = impl_decode.T22 := by kernel_rfl
theorem impl_decode.bits22 : waitsOk impl_decode.T22.2 impl_decode.B22 = true := by kernel_rfl
set_option maxHeartbeats 8000000 in
set_option maxRecDepth 100000 in
theorem impl_decode.calls (k : Nat) (A0 : Option Addr) (c0 : Nat) (l0 : List Int) (r1 : Int) (r2 : List Int) (r3 : List ByteArray) (r4 : Bool) (w : World) (hr0 : Kd.C (Kd.int .u8) w A0 l0.length l0) (hc0 : l0.length ≤ c0) (h : impl_decode.f k l0 = some (r1, r2, r3, r4)) :
  Calls Try.prog 63 #[.slice A0 l0.length c0] w fun e w' => ∃ v1_ v2_ : Value, e = .returned (.tuple #[.agg #[.int .i64 r1, v1_, v2_], .bool r4]) ∧ Kd.R (Kd.int .u64) 23 w' w.heap.size (fun _ => True) v1_ r2 ∧ Kd.R Kd.string 9 w' w.heap.size (fun _ => True) v2_ r3 ∧ Below w.heap.size w w' := by
 have hu42 := Try.underlying42
 have HR0 := Zh hr0
 have HC0 := Zh hc0
 clear hr0 hc0
 have HB := Zh (Below.refl w.heap.size w)
 have H : (if (l0.length : Int) < 3 then (impl_decode.j0 k l0 true) else (if (l0.length : Int) > 4000 then (impl_decode.j0 k l0 true) else (if 1 < (l0.length : Int) then (impl_decode.j0 k l0 (decide ((rd l0 1) > 24))) else (none)))) = some (r1, r2, r3, r4) := h
 clear h
 have HC2 := Zh H
 clear H
 go_enter Try.func63, Try.ntmps63
 go_upto_region 1 with (first | ((with_reducible refine gate_dst (N := 2) rfl ?_); (try (refine gate_guard (by rfl) ?_; dsimp only)); refine box_event ?hg (N := 2) ?hd (cs := #[.int .i64 0, .slice none 0 0, .slice none 0 0]) (t := 42) ?hr ?_; (case hd => rfl); (case hg => rfl); (case hr => first | (go_simp; done) | (go_simp; rfl)); intro gb432 hg w3 hbox hb; have BK432 := Zh (hbox); have GW432 := Zh ((by rw [hg]; exact (below_size Zs) : w.heap.size ≤ gb432)); have GE432 := Zh ((by rw [hg]; exact (below_size Zs) : w.heap.size ≤ gb432)); replace HB := Zh (Zl Zs hb); clear hb hbox hg))
 (try simp only [Act.put, List.setIfInBounds_toArray, List.set_cons_zero, List.set_cons_succ])
 go_cut [24] (fun v24 wc => ∃ (kq : Nat) (x24_1 : Bool), v24 = .bool x24_1 ∧ Aside0 (impl_decode.j0 kq l0 x24_1 = some (r1, r2, r3, r4)) ∧ Aside0 (kq ≤ k) ∧ Aside0 (wc.heap[gb432]? = some (.cells #[.int .i64 0, (.slice none 0 0), (.slice none 0 0)] 42 (0, 0))) ∧ Aside0 (Below w.heap.size w wc))
 case first =>
  have H := HC2.out
  clear HC2
  by_cases c4 : (l0.length : Int) < 3
  ·
   rw [if_pos c4] at H
   have c4b0 : decide ((l0.length : Int) < 3) = true := decide_eq_true c4
   have c4b1 : decide (l0.length < 3) = true := decide_eq_true (by omega)
   clear c4
   (first | rw [c4b0] | (simp only [i64_w, i32_w]; rw [c4b0]) | skip)
   have H' := Zh H
   clear H
   go_wp2
   go_meet
   case rel => exact ⟨_, (true), (by first | rfl | (simp; done) | (simp [*]; done)), H', ⟨by first | omega | exact Nat.le_refl _⟩, ⟨Zk⟩, ⟨Zs⟩⟩
  rw [if_neg c4] at H
  have c4b0 : decide ((l0.length : Int) < 3) = false := decide_eq_false c4
  have c4b1 : decide (l0.length < 3) = false := decide_eq_false (by omega)
  clear c4
  (first | rw [c4b0] | (simp only [i64_w, i32_w]; rw [c4b0]) | skip)
  by_cases c5 : (l0.length : Int) > 4000
  ·
   rw [if_pos c5] at H
   have c5b0 : decide (4000 < (l0.length : Int)) = true := decide_eq_true c5
   have c5b1 : decide (4000 < l0.length) = true := decide_eq_true (by omega)
   clear c5
   have H' := Zh H
   clear H
   go_wp2
   go_meet
   case rel => exact ⟨_, (true), (by first | rfl | (simp; done) | (simp [*]; done)), H', ⟨by first | omega | exact Nat.le_refl _⟩, ⟨Zk⟩, ⟨Zs⟩⟩
  rw [if_neg c5] at H
  have c5b0 : decide (4000 < (l0.length : Int)) = false := decide_eq_false c5
  have c5b1 : decide (4000 < l0.length) = false := decide_eq_false (by omega)
  clear c5
  by_cases c6 : 1 < (l0.length : Int)
  ·
   rw [if_pos c6] at H
   have c6b0 : decide (1 < (l0.length : Int)) = true := decide_eq_true c6
   have c6b1 : decide (1 < l0.length) = true := decide_eq_true (by omega)
   clear c6
   have H' := Zh H
   clear H
   have p433 : 0 ≤ (1 : Int) := (by omega)
   have q433 : 1 < (l0.length : Int) := Zo
   obtain ⟨ad433, e433, hx433_0⟩ := Kd.at_int HR0.out 1 p433 q433
   cases e433
   (try simp only [show (1 : Int).toNat = 1 from rfl, Nat.reduceMul, Nat.reduceEqDiff, Go.Addr.add, ↓reduceIte] at hx433_0)
   have qi433 : (1 < l0.length) = True := eq_true (by omega)
   (try rw [show ((1 : Int)).toNat = 1 from rfl] at hx433_0)
   replace hx433_0 := Zc HB.out hx433_0
   replace p433 := eq_true p433
   replace q433 := eq_true q433
   go_wp2
   go_meet
   case rel => exact ⟨_, (decide ((rd l0 1) > 24)), (by first | rfl | (simp; done) | (simp [*]; done)), H', ⟨by first | omega | exact Nat.le_refl _⟩, ⟨Zk⟩, ⟨Zs⟩⟩
  rw [if_neg c6] at H
  exact absurd H (by simp)
 case rest =>
  clear HC2
  try clear p2
  try clear c4
  try clear c4b0
  try clear c4b1
  try clear p4
  try clear q4
  try clear hx4
  try clear qi4
  try clear c5
  try clear c5b0
  try clear c5b1
  try clear c6
  try clear c6b0
  try clear c6b1
  try clear hx433_0
  try clear p433
  try clear q433
  obtain ⟨kq, x24_1, rfl, HA, HJ1, BK432, HB⟩ := hcut
  cases kq with
  | zero => exact absurd HA.out (by simp [impl_decode.j0])
  | succ kj1 =>
   have H := HA.out
   clear HA
   simp only [impl_decode.j0] at H
   by_cases c7 : x24_1 = true
   ·
    subst c7
    have H1 : (some (0, ([] : List Int), ([] : List ByteArray), false)) = some (r1, r2, r3, r4) := by rw [if_pos rfl] at H; exact H
    clear H
    have H := H1
    clear H1
    simp only [Option.some.injEq, Prod.mk.injEq] at H
    obtain ⟨rfl, rfl, rfl, rfl⟩ := H
    have hcz8_0 : wc.cell? ⟨gb432, 0, none⟩ = some (.int .i64 0) := (blk_cell BK432.out 0).trans rfl
    have hcz8_1 : wc.cell? ⟨gb432, 1, none⟩ = some (.slice none 0 0) := (blk_cell BK432.out 1).trans rfl
    have hcz8_2 : wc.cell? ⟨gb432, 2, none⟩ = some (.slice none 0 0) := (blk_cell BK432.out 2).trans rfl
    have hfz8_0 := Zn BK432.out 0
    have hfz8_1 := Zn BK432.out 1
    have hfz8_2 := Zn BK432.out 2
    go_wp2
    refine bodyPost_ret (results_ct rfl _ _ gb432 42 #[.int .i64 0, .slice none 0 0, .slice none 0 0] (0, 0) _ rfl (by (with_reducible repeat (first | refine Za ?_ _ | refine Zb ?_ | refine blk_alloc ?_ _)); refine blk_put (cs := #[.int .i64 0, .slice none 0 0, .slice none 0 0]) ?_ 2 _ rfl; (with_reducible repeat (first | refine Za ?_ _ | refine Zb ?_ | refine blk_alloc ?_ _)); refine blk_put (cs := #[.int .i64 0, .slice none 0 0, .slice none 0 0]) ?_ 1 _ rfl; (with_reducible repeat (first | refine Za ?_ _ | refine Zb ?_ | refine blk_alloc ?_ _)); refine blk_put (cs := #[.int .i64 0, .slice none 0 0, .slice none 0 0]) ?_ 0 _ rfl; (with_reducible repeat (first | refine Za ?_ _ | refine Zb ?_ | refine blk_alloc ?_ _)); exact BK432.out) Try.underlying42 rfl (by kernel_rfl)) rfl ?_
    exact ⟨_, _, ZE, by first | exact R_nil _ _ _ _ _ | exact N_nil _ _ _ _ _ | exact V_nil _ _ _ _ _ | exact Q_nil _ _ _ _ _ | exact S_nil _ _ _ _ _, by first | exact R_nil _ _ _ _ _ | exact N_nil _ _ _ _ _ | exact V_nil _ _ _ _ _ | exact Q_nil _ _ _ _ _ | exact S_nil _ _ _ _ _, Zs⟩
   replace c7 := Bool.eq_false_iff.mpr c7
   subst c7
   have H1 : (if 0 < (l0.length : Int) then (if 1 < (l0.length : Int) then (impl_decode.l0 kj1 l0 2 (rd l0 1) 0 (wrap64 (rd l0 0)) ([] : List Int)) else (none)) else (none)) = some (r1, r2, r3, r4) := by rw [if_neg (show ¬ (false = true) by decide)] at H; exact H
   clear H
   have H := H1
   clear H1
   by_cases c9 : 0 < (l0.length : Int)
   ·
    rw [if_pos c9] at H
    have c9b0 : decide (0 < (l0.length : Int)) = true := decide_eq_true c9
    have c9b1 : decide (0 < l0.length) = true := decide_eq_true (by omega)
    clear c9
    by_cases c10 : 1 < (l0.length : Int)
    ·
     rw [if_pos c10] at H
     have c10b0 : decide (1 < (l0.length : Int)) = true := decide_eq_true c10
     have c10b1 : decide (1 < l0.length) = true := decide_eq_true (by omega)
     clear c10
     have H' := Zh H
     clear H
     have p434 : 0 ≤ (0 : Int) := (by omega)
     have q434 : 0 < (l0.length : Int) := Zo
     obtain ⟨ad434, e434, hx434_0⟩ := Kd.at_int HR0.out 0 p434 q434
     cases e434
     have qi434 : (0 < l0.length) = True := eq_true (by omega)
     (try rw [show ((0 : Int)).toNat = 0 from rfl] at hx434_0)
     (try rw [Addr.add_zero'] at hx434_0)
     replace hx434_0 := Zc HB.out hx434_0
     replace p434 := eq_true p434
     replace q434 := eq_true q434
     go_wp2_with (first | ((with_reducible refine gate_dst (N := 4) rfl ?_); (try (refine gate_guard (by rfl) ?_; dsimp only)); refine box_event ?hg (N := 4) ?hd (cs := #[.int .i64 0, .slice none 0 0, .slice none 0 0]) (t := 42) ?hr ?_; (case hd => rfl); (case hg => rfl); (case hr => first | (go_simp; done) | (go_simp; rfl)); intro gb435 hg w11 hbox hb; have BK435 := Zh (hbox); have GW435 := Zh ((by rw [hg]; exact (below_size Zs) : w.heap.size ≤ gb435)); have GE435 := Zh ((by rw [hg]; exact (below_size Zs) : w.heap.size ≤ gb435)); replace HB := Zh (Zl Zs hb); have NB432_435 := Zh ((by rw [hg]; exact Nat.ne_of_lt (blk_lt (g := gb432) (o := .cells #[.int .i64 0, .slice none 0 0, .slice none 0 0] 42 (0, 0)) Zk) : gb432 ≠ gb435)); have NB435_432 := Zh ((by rw [hg]; exact Nat.ne_of_gt (blk_lt (g := gb432) (o := .cells #[.int .i64 0, .slice none 0 0, .slice none 0 0] 42 (0, 0)) Zk) : gb435 ≠ gb432)); replace BK432 := Zh (blk_below (g := gb432) (o := .cells #[.int .i64 0, .slice none 0 0, .slice none 0 0] 42 (0, 0)) Zk hb); clear hb hbox hg; have hnb12 := NB435_432.out; have hnc12 := NB432_435.out; have hcz13_0 : w11.cell? ⟨gb435, 0, none⟩ = some (.int .i64 0) := (blk_cell BK435.out 0).trans rfl; have hcz13_1 : w11.cell? ⟨gb435, 1, none⟩ = some (.slice none 0 0) := (blk_cell BK435.out 1).trans rfl; have hcz13_2 : w11.cell? ⟨gb435, 2, none⟩ = some (.slice none 0 0) := (blk_cell BK435.out 2).trans rfl; have hfz13_0 := Zn BK435.out 0; have hfz13_1 := Zn BK435.out 1; have hfz13_2 := Zn BK435.out 2; have p436 : 0 ≤ (1 : Int) := (by omega); have q436 : 1 < (l0.length : Int) := Zo; obtain ⟨ad436, e436, hx436_0⟩ := Kd.at_int HR0.out 1 p436 q436; obtain rfl : ad434 = ad436 := (by injection e436); (try simp only [show (1 : Int).toNat = 1 from rfl, Nat.reduceMul, Nat.reduceEqDiff, Go.Addr.add, ↓reduceIte] at hx436_0); have qi436 : (1 < l0.length) = True := eq_true (by omega); (try rw [show ((1 : Int)).toNat = 1 from rfl] at hx436_0); have hn436_0 : ad434.block ≠ gb435 := Nat.ne_of_lt (Nat.lt_of_lt_of_le (by have := Zi _ _ hx436_0; first | rwa [add_block] at this | exact this) GW435.out); have hn436_1 : ad434.block ≠ gb435 := Nat.ne_of_lt (Nat.lt_of_lt_of_le (by have := Zi _ _ hx436_0; first | rwa [add_block] at this | exact this) GW435.out); have hn436_2 : ad434.block ≠ gb435 := Nat.ne_of_lt (Nat.lt_of_lt_of_le (by have := Zi _ _ hx436_0; first | rwa [add_block] at this | exact this) GW435.out); replace hx436_0 := Zc HB.out hx436_0; replace hx436_0 := (cell_far (p := ⟨gb435, 0, none⟩) (by first | (rw [add_block]; exact hn436_0) | (show (Addr.add _ _).block ≠ _; rw [add_block]; exact hn436_0) | exact hn436_0) (.int .i64 (wrap64 (rd l0 0)))).trans hx436_0; replace hx436_0 := (cell_far (p := ⟨gb435, 1, none⟩) (by first | (rw [add_block]; exact hn436_1) | (show (Addr.add _ _).block ≠ _; rw [add_block]; exact hn436_1) | exact hn436_1) (.slice none 0 0)).trans hx436_0; replace hx436_0 := (cell_far (p := ⟨gb435, 2, none⟩) (by first | (rw [add_block]; exact hn436_2) | (show (Addr.add _ _).block ≠ _; rw [add_block]; exact hn436_2) | exact hn436_2) (.slice none 0 0)).trans hx436_0; clear hn436_0; clear hn436_1; clear hn436_2; replace p436 := eq_true p436; replace q436 := eq_true q436))
     go_loopg [5, 34] kj1 (fun kq v5 v34 w' => ∃ (x5_2 : Int) (x34_2 : Int) (x433000_2 : Int) (x436001_2 : List Int) (u436001 : Value), v5 = .int .i64 x5_2 ∧ v34 = .int .u8 x34_2 ∧ Aside0 (impl_decode.l0 kq l0 x5_2 (rd l0 1) x34_2 (wrap64 (rd l0 0)) x436001_2 = some (r1, r2, r3, r4)) ∧ Aside0 (kq ≤ kj1) ∧ Aside0 (Kd.R (Kd.int .u64) 23 w' w.heap.size (fun _ => True) u436001 x436001_2) ∧ Aside0 (w'.heap[gb432]? = some (.cells #[.int .i64 x433000_2, (.slice none 0 0), (.slice none 0 0)] 42 (0, 0))) ∧ Aside0 (w'.heap[gb435]? = some (.cells #[.int .i64 (wrap64 (rd l0 0)), u436001, (.slice none 0 0)] 42 (0, 0))) ∧ Aside0 (Below w.heap.size w w'))
     case atStart => exact ⟨(2), (0), (0), (([] : List Int)), (.slice none 0 0), (by first | rfl | (simp; done) | (simp [*]; done)), (by first | rfl | (simp; done) | (simp [*]; done)), H', ⟨Nat.le_refl _⟩, ⟨by first | exact R_nil _ _ _ _ _ | exact N_nil _ _ _ _ _ | exact V_nil _ _ _ _ _ | exact Q_nil _ _ _ _ _ | exact S_nil _ _ _ _ _⟩, ⟨by (with_reducible repeat (first | refine Za ?_ _ | refine Zb ?_ | refine blk_alloc ?_ _)); refine blk_far ?_ NB432_435.out _; (with_reducible repeat (first | refine Za ?_ _ | refine Zb ?_ | refine blk_alloc ?_ _)); refine blk_far ?_ NB432_435.out _; (with_reducible repeat (first | refine Za ?_ _ | refine Zb ?_ | refine blk_alloc ?_ _)); refine blk_far ?_ NB432_435.out _; (with_reducible repeat (first | refine Za ?_ _ | refine Zb ?_ | refine blk_alloc ?_ _)); exact BK432.out⟩, ⟨by (with_reducible repeat (first | refine Za ?_ _ | refine Zb ?_ | refine blk_alloc ?_ _)); refine blk_put (cs := #[.int .i64 (wrap64 (rd l0 0)), .slice none 0 0, .slice none 0 0]) ?_ 2 _ rfl; (with_reducible repeat (first | refine Za ?_ _ | refine Zb ?_ | refine blk_alloc ?_ _)); refine blk_put (cs := #[.int .i64 (wrap64 (rd l0 0)), .slice none 0 0, .slice none 0 0]) ?_ 1 _ rfl; (with_reducible repeat (first | refine Za ?_ _ | refine Zb ?_ | refine blk_alloc ?_ _)); refine blk_put (cs := #[.int .i64 0, .slice none 0 0, .slice none 0 0]) ?_ 0 _ rfl; (with_reducible repeat (first | refine Za ?_ _ | refine Zb ?_ | refine blk_alloc ?_ _)); exact BK435.out⟩, ⟨Zs⟩⟩
     case round =>
      clear H'
      try clear c1
      try clear p2
      try clear c4
      try clear c4b0
      try clear c4b1
      try clear p4
      try clear q4
      try clear hx4
      try clear qi4
      try clear c5
      try clear c5b0
      try clear c5b1
      try clear c6
      try clear c6b0
      try clear c6b1
      try clear p6
      try clear c7
      try clear c9
      try clear c9b0
      try clear c9b1
      try clear c10
      try clear c10b0
      try clear c10b1
      try clear c12
      try clear hcz13_0
      try clear hcz13_1
      try clear hcz13_2
      try clear hcz8_0
      try clear hcz8_1
      try clear hcz8_2
      try clear hfz13_0
      try clear hfz13_1
      try clear hfz13_2
      try clear hfz8_0
      try clear hfz8_1
      try clear hfz8_2
      try clear hx433_0
      try clear hx434_0
      try clear hx436_0
      try clear p2
      try clear p4
      try clear p433
      try clear p434
      try clear p436
      try clear q4
      try clear q433
      try clear q434
      try clear q436
      obtain ⟨x5_2, x34_2, x433000_2, x436001_2, u436001, rfl, rfl, HA, HK2, HO_436001, BK432, BK435, HB⟩ := hrel
      cases gk with
      | zero => exact absurd HA.out (by simp [impl_decode.l0])
      | succ k2 =>
       have H := HA.out
       clear HA
       simp only [impl_decode.l0] at H
       by_cases c14 : x34_2 < (rd l0 1)
       ·
        rw [if_pos c14] at H
        have c14b0 : decide (x34_2 < (rd l0 1)) = true := decide_eq_true c14
        clear c14
        replace H := Option.bind_eq_some_iff.mp H
        obtain ⟨⟨t437, t438, t439⟩, A150, H⟩ := H
        replace H : (if t439 = true then (if x436001_2.length < 17592186044416 then (impl_decode.l0 k2 l0 t438 (rd l0 1) ((x34_2 + 1) % 256) (wrap64 (rd l0 0)) (x436001_2 ++ [t437])) else (none)) else (some (0, ([] : List Int), ([] : List ByteArray), false))) = some (r1, r2, r3, r4) := H
        have A15 := Zh A150
        clear A150
        by_cases c16 : t439 = true
        ·
         subst c16
         have H1 : (if x436001_2.length < 17592186044416 then (impl_decode.l0 k2 l0 t438 (rd l0 1) ((x34_2 + 1) % 256) (wrap64 (rd l0 0)) (x436001_2 ++ [t437])) else (none)) = some (r1, r2, r3, r4) := by rw [if_pos rfl] at H; exact H
         clear H
         have H := H1
         clear H1
         by_cases c17 : x436001_2.length < 17592186044416
         ·
          rw [if_pos c17] at H
          have LMc17 := Zh c17
          clear c17
          obtain ⟨y440, hy440⟩ : ∃ y_ : List Int, y_ = (x436001_2 ++ [t437]) := ⟨_, rfl⟩
          replace H : (impl_decode.l0 k2 l0 t438 (rd l0 1) ((x34_2 + 1) % 256) (wrap64 (rd l0 0)) y440) = some (r1, r2, r3, r4) := by first | (rw [hy440]; with_reducible exact H) | (have H2_ := (Option.bind_some _ _).symm.trans H; rw [hy440]; with_reducible exact H2_) | (have H2_ := (Option.bind_some _ _).symm.trans H; with_reducible exact H2_) | with_reducible exact H | (rw [hy440]; exact H) | exact H
          have Ny440 := Zh hy440
          clear hy440
          have H' := Zh H
          clear H
          go_wp2_with (first | ((with_reducible refine gate_callee (f := 51) rfl ?_); refine ZG (some 39) Try.func51 #[.slice (some ad434) l0.length c0, .int .i64 x5_2] rfl ?_; (with_reducible refine (impl_getVar.calls k2 _ _ l0 x5_2 t437 t438 true _ ?side1 ?side2 A15.out).mono ?_); (case side1 => repeat (first | exact (C_below HR0.out HB.out) | (with_reducible refine C_alloc ?_ _) | (with_reducible refine C_drewN ?_ _) | (with_reducible refine C_drew ?_))); (case side2 => exact HC0.out); rintro e w' ⟨rfl, ⟨nd, rfl⟩⟩; refine ⟨_, rfl, ?_⟩; (try (rw [drewN_self wr]; generalize hq_ : World.drewN wr _ = wr; have n0_ : Aside0 (Kd.R (Kd.int .u64) 23 wr w.heap.size (fun _ => True) u436001 x436001_2) := ⟨by rw [← hq_]; exact (ZR HO_436001.out)⟩; have n1_ : Aside0 (wr.heap[gb432]? = some (.cells #[.int .i64 x433000_2, .slice none 0 0, .slice none 0 0] 42 (0, 0))) := ⟨by rw [← hq_]; exact Zk⟩; have n2_ : Aside0 (wr.heap[gb435]? = some (.cells #[.int .i64 (wrap64 (rd l0 0)), u436001, .slice none 0 0] 42 (0, 0))) := ⟨by rw [← hq_]; exact Zk⟩; have n3_ : Aside0 (Below w.heap.size w wr) := ⟨by rw [← hq_]; exact Zs⟩; clear HO_436001 BK432 BK435 HB hq_; have HO_436001 := n0_; have BK432 := n1_; have BK435 := n2_; have HB := n3_; clear n0_ n1_ n2_ n3_)); have hnb18 := NB435_432.out; have hnc18 := NB432_435.out; have hcz19_0 : wr.cell? ⟨gb435, 0, none⟩ = some (.int .i64 (wrap64 (rd l0 0))) := (blk_cell BK435.out 0).trans rfl; have hcz19_1 : wr.cell? ⟨gb435, 1, none⟩ = some (u436001) := (blk_cell BK435.out 1).trans rfl; have hcz19_2 : wr.cell? ⟨gb435, 2, none⟩ = some (.slice none 0 0) := (blk_cell BK435.out 2).trans rfl; have hfz19_0 := Zn BK435.out 0; have hfz19_1 := Zn BK435.out 1; have hfz19_2 := Zn BK435.out 2) | ((with_reducible refine gate_builtin (b := .append) (xs := #[.tmp 47, .tmp 49]) rfl ?_); (try (refine gate_guard (by rfl) ?_; dsimp only)); at_builtin; refine R_append (Kd.int .u64) (w0 := w) w.heap.size rfl (.tmp 47) (.tmp 49) 36 23 (.int .u64 0) 8 rfl Try.underlying36 info23 rfl (by decide) (by omega) u436001 x436001_2 t437 [.int .u64 t437] (fun _ => True) (fun _ => False) rfl rfl ?aP (fun _ hk => hk.elim) ?aF ?aO ?aB ?aS ?aL ?_; (case aP => exact rfl); (case aB => exact Zs); (case aF => exact (fun _ _ => trivial)); (case aO => exact (ZR HO_436001.out)); (case aS => exact (below_size Zs)); (case aL => have := LMc17.out; omega); intro v441 w20 ho hb hg hat; rw [← Ny440.out] at ho; have n0_ := Zh (blk_grown (g := gb432) (o := .cells #[.int .i64 x433000_2, .slice none 0 0, .slice none 0 0] 42 (0, 0)) Zk hg (R_ne HO_436001.out BK432.out (by decide))); have n1_ := Zh (blk_grown (g := gb435) (o := .cells #[.int .i64 (wrap64 (rd l0 0)), u436001, .slice none 0 0] 42 (0, 0)) Zk hg (R_ne HO_436001.out BK435.out (by decide))); have n2_ := Zh (hb); have n3_ := Zh (ho); clear BK432; clear BK435; clear HB; clear HO_436001; have BK432 := n0_; have BK435 := n1_; have HB := n2_; have HO442 := n3_; clear n0_ n1_ n2_ n3_; clear ho hb hg hat; obtain ⟨Ao21, co21, eo21⟩ := R_slice HO442.out; subst eo21; have hcz22_0 : w20.cell? ⟨gb435, 0, none⟩ = some (.int .i64 (wrap64 (rd l0 0))) := (blk_cell BK435.out 0).trans rfl; have hcz22_1 : w20.cell? ⟨gb435, 1, none⟩ = some (u436001) := (blk_cell BK435.out 1).trans rfl; have hcz22_2 : w20.cell? ⟨gb435, 2, none⟩ = some (.slice none 0 0) := (blk_cell BK435.out 2).trans rfl; have hfz22_0 := Zn BK435.out 0; have hfz22_1 := Zn BK435.out 1; have hfz22_2 := Zn BK435.out 2))
          go_roundg k2
          case measure => have := HJ1.out; have := HK2.out; omega
          case rel => exact ⟨(t438), ((x34_2 + 1) % 256), (x433000_2), (y440), (.slice Ao21 y440.length co21), (by first | rfl | (simp; done) | (simp [*]; done)), (by first | rfl | (simp; done) | (simp [*]; done)), H', ⟨by have := HJ1.out; have := HK2.out; omega⟩, ⟨ZR (R_mono (R_far (p := ⟨gb435, 1, none⟩) (R_types HO442.out BK435.out (by decide)) (fun _ hk => hk.2) (.slice Ao21 y440.length co21)) (fun _ hk => trivial))⟩, ⟨by (with_reducible repeat (first | refine Za ?_ _ | refine Zb ?_ | refine blk_alloc ?_ _)); refine blk_far ?_ NB432_435.out _; (with_reducible repeat (first | refine Za ?_ _ | refine Zb ?_ | refine blk_alloc ?_ _)); exact BK432.out⟩, ⟨by (with_reducible repeat (first | refine Za ?_ _ | refine Zb ?_ | refine blk_alloc ?_ _)); refine blk_put (cs := #[.int .i64 (wrap64 (rd l0 0)), u436001, .slice none 0 0]) ?_ 1 _ rfl; (with_reducible repeat (first | refine Za ?_ _ | refine Zb ?_ | refine blk_alloc ?_ _)); exact BK435.out⟩, ⟨Zs⟩⟩
         rw [if_neg c17] at H
         exact absurd H (by simp)
        replace c16 := Bool.eq_false_iff.mpr c16
        subst c16
        have H1 : (some (0, ([] : List Int), ([] : List ByteArray), false)) = some (r1, r2, r3, r4) := by rw [if_neg (show ¬ (false = true) by decide)] at H; exact H
        clear H
        have H := H1
        clear H1
        simp only [Option.some.injEq, Prod.mk.injEq] at H
        obtain ⟨rfl, rfl, rfl, rfl⟩ := H
        go_wp2_with (first | ((with_reducible refine gate_callee (f := 51) rfl ?_); refine ZG (some 39) Try.func51 #[.slice (some ad434) l0.length c0, .int .i64 x5_2] rfl ?_; (with_reducible refine (impl_getVar.calls k2 _ _ l0 x5_2 t437 t438 false _ ?side1 ?side2 A15.out).mono ?_); (case side1 => repeat (first | exact (C_below HR0.out HB.out) | (with_reducible refine C_alloc ?_ _) | (with_reducible refine C_drewN ?_ _) | (with_reducible refine C_drew ?_))); (case side2 => exact HC0.out); rintro e w' ⟨rfl, ⟨nd, rfl⟩⟩; refine ⟨_, rfl, ?_⟩; (try (rw [drewN_self wr]; generalize hq_ : World.drewN wr _ = wr; have n0_ : Aside0 (Kd.R (Kd.int .u64) 23 wr w.heap.size (fun _ => True) u436001 x436001_2) := ⟨by rw [← hq_]; exact (ZR HO_436001.out)⟩; have n1_ : Aside0 (wr.heap[gb432]? = some (.cells #[.int .i64 x433000_2, .slice none 0 0, .slice none 0 0] 42 (0, 0))) := ⟨by rw [← hq_]; exact Zk⟩; have n2_ : Aside0 (wr.heap[gb435]? = some (.cells #[.int .i64 (wrap64 (rd l0 0)), u436001, .slice none 0 0] 42 (0, 0))) := ⟨by rw [← hq_]; exact Zk⟩; have n3_ : Aside0 (Below w.heap.size w wr) := ⟨by rw [← hq_]; exact Zs⟩; clear HO_436001 BK432 BK435 HB hq_; have HO_436001 := n0_; have BK432 := n1_; have BK435 := n2_; have HB := n3_; clear n0_ n1_ n2_ n3_)); have hnb23 := NB432_435.out; have hnc23 := NB435_432.out; have hcz24_0 : wr.cell? ⟨gb432, 0, none⟩ = some (.int .i64 x433000_2) := (blk_cell BK432.out 0).trans rfl; have hcz24_1 : wr.cell? ⟨gb432, 1, none⟩ = some (.slice none 0 0) := (blk_cell BK432.out 1).trans rfl; have hcz24_2 : wr.cell? ⟨gb432, 2, none⟩ = some (.slice none 0 0) := (blk_cell BK432.out 2).trans rfl; have hfz24_0 := Zn BK432.out 0; have hfz24_1 := Zn BK432.out 1; have hfz24_2 := Zn BK432.out 2))
        refine bodyPost_ret (results_ct rfl _ _ gb432 42 #[.int .i64 0, .slice none 0 0, .slice none 0 0] (0, 0) _ rfl (by (with_reducible repeat (first | refine Za ?_ _ | refine Zb ?_ | refine blk_alloc ?_ _)); refine blk_put (cs := #[.int .i64 0, .slice none 0 0, .slice none 0 0]) ?_ 2 _ rfl; (with_reducible repeat (first | refine Za ?_ _ | refine Zb ?_ | refine blk_alloc ?_ _)); refine blk_put (cs := #[.int .i64 0, .slice none 0 0, .slice none 0 0]) ?_ 1 _ rfl; (with_reducible repeat (first | refine Za ?_ _ | refine Zb ?_ | refine blk_alloc ?_ _)); refine blk_put (cs := #[.int .i64 x433000_2, .slice none 0 0, .slice none 0 0]) ?_ 0 _ rfl; (with_reducible repeat (first | refine Za ?_ _ | refine Zb ?_ | refine blk_alloc ?_ _)); exact BK432.out) Try.underlying42 rfl (by kernel_rfl)) rfl ?_
        exact ⟨_, _, ZE, by first | exact R_nil _ _ _ _ _ | exact N_nil _ _ _ _ _ | exact V_nil _ _ _ _ _ | exact Q_nil _ _ _ _ _ | exact S_nil _ _ _ _ _, by first | exact R_nil _ _ _ _ _ | exact N_nil _ _ _ _ _ | exact V_nil _ _ _ _ _ | exact Q_nil _ _ _ _ _ | exact S_nil _ _ _ _ _, Zs⟩
       rw [if_neg c14] at H
       have c14b0 : decide (x34_2 < (rd l0 1)) = false := decide_eq_false c14
       clear c14
       by_cases c25 : x5_2 ≥ (l0.length : Int)
       ·
        rw [if_pos c25] at H
        have c25b0 : decide ((l0.length : Int) ≤ x5_2) = true := decide_eq_true c25
        clear c25
        simp only [Option.some.injEq, Prod.mk.injEq] at H
        obtain ⟨rfl, rfl, rfl, rfl⟩ := H
        have hnb26 := NB432_435.out
        have hnc26 := NB435_432.out
        have hcz27_0 : wr.cell? ⟨gb432, 0, none⟩ = some (.int .i64 x433000_2) := (blk_cell BK432.out 0).trans rfl
        have hcz27_1 : wr.cell? ⟨gb432, 1, none⟩ = some (.slice none 0 0) := (blk_cell BK432.out 1).trans rfl
        have hcz27_2 : wr.cell? ⟨gb432, 2, none⟩ = some (.slice none 0 0) := (blk_cell BK432.out 2).trans rfl
        have hfz27_0 := Zn BK432.out 0
        have hfz27_1 := Zn BK432.out 1
        have hfz27_2 := Zn BK432.out 2
        go_wp2
        refine bodyPost_ret (results_ct rfl _ _ gb432 42 #[.int .i64 0, .slice none 0 0, .slice none 0 0] (0, 0) _ rfl (by (with_reducible repeat (first | refine Za ?_ _ | refine Zb ?_ | refine blk_alloc ?_ _)); refine blk_put (cs := #[.int .i64 0, .slice none 0 0, .slice none 0 0]) ?_ 2 _ rfl; (with_reducible repeat (first | refine Za ?_ _ | refine Zb ?_ | refine blk_alloc ?_ _)); refine blk_put (cs := #[.int .i64 0, .slice none 0 0, .slice none 0 0]) ?_ 1 _ rfl; (with_reducible repeat (first | refine Za ?_ _ | refine Zb ?_ | refine blk_alloc ?_ _)); refine blk_put (cs := #[.int .i64 x433000_2, .slice none 0 0, .slice none 0 0]) ?_ 0 _ rfl; (with_reducible repeat (first | refine Za ?_ _ | refine Zb ?_ | refine blk_alloc ?_ _)); exact BK432.out) Try.underlying42 rfl (by kernel_rfl)) rfl ?_
        exact ⟨_, _, ZE, by first | exact R_nil _ _ _ _ _ | exact N_nil _ _ _ _ _ | exact V_nil _ _ _ _ _ | exact Q_nil _ _ _ _ _ | exact S_nil _ _ _ _ _, by first | exact R_nil _ _ _ _ _ | exact N_nil _ _ _ _ _ | exact V_nil _ _ _ _ _ | exact Q_nil _ _ _ _ _ | exact S_nil _ _ _ _ _, Zs⟩
       rw [if_neg c25] at H
       have c25b0 : decide ((l0.length : Int) ≤ x5_2) = false := decide_eq_false c25
       clear c25
       by_cases c28 : 0 ≤ x5_2
       ·
        rw [if_pos c28] at H
        have c28b0 : decide (0 ≤ x5_2) = true := decide_eq_true c28
        clear c28
        by_cases c29 : x5_2 < (l0.length : Int)
        ·
         rw [if_pos c29] at H
         have c29b0 : decide (x5_2 < (l0.length : Int)) = true := decide_eq_true c29
         clear c29
         have H' := Zh H
         clear H
         have p443 : 0 ≤ (x5_2 : Int) := Zo
         have q443 : x5_2 < (l0.length : Int) := Zo
         obtain ⟨ad443, e443, hx443_0⟩ := Kd.at_int HR0.out x5_2 p443 q443
         obtain rfl : ad434 = ad443 := (by injection e443)
         replace hx443_0 := Zc HB.out hx443_0
         replace p443 := eq_true p443
         replace q443 := eq_true q443
         go_wp2
         go_loopg [5, 67] k2 (fun kq v5 v67 w' => ∃ (x5_3 : Int) (x67_3 : Int) (x433000_3 : Int) (x436002_3 : List ByteArray) (u436002 : Value), v5 = .int .i64 x5_3 ∧ v67 = .int .i64 x67_3 ∧ Aside0 (impl_decode.l1 kq l0 x5_3 (wrap64 (rd l0 x5_2)) x67_3 (wrap64 (rd l0 0)) x436001_2 x436002_3 = some (r1, r2, r3, r4)) ∧ Aside0 (kq ≤ k2) ∧ Aside0 (Kd.R (Kd.int .u64) 23 w' w.heap.size (fun _ => True) u436001 x436001_2) ∧ Aside0 (Kd.R Kd.string 9 w' w.heap.size (fun _ => True) u436002 x436002_3) ∧ Aside0 (w'.heap[gb432]? = some (.cells #[.int .i64 x433000_3, (.slice none 0 0), (.slice none 0 0)] 42 (0, 0))) ∧ Aside0 (w'.heap[gb435]? = some (.cells #[.int .i64 (wrap64 (rd l0 0)), u436001, u436002] 42 (0, 0))) ∧ Aside0 (Below w.heap.size w w'))
         case atStart => exact ⟨(wrap64 (x5_2 + 1)), (0), (x433000_2), (([] : List ByteArray)), (.slice none 0 0), (by first | rfl | (simp; done) | (simp [*]; done)), (by first | rfl | (simp; done) | (simp [*]; done)), H', ⟨Nat.le_refl _⟩, ⟨ZR HO_436001.out⟩, ⟨by first | exact R_nil _ _ _ _ _ | exact N_nil _ _ _ _ _ | exact V_nil _ _ _ _ _ | exact Q_nil _ _ _ _ _ | exact S_nil _ _ _ _ _⟩, ⟨Zk⟩, ⟨Zk⟩, ⟨Zs⟩⟩
         case round =>
          clear H'
          try clear c1
          try clear c2
          try clear p2
          try clear c4
          try clear c4b0
          try clear c4b1
          try clear p4
          try clear q4
          try clear hx4
          try clear qi4
          try clear c5
          try clear c5b0
          try clear c5b1
          try clear c6
          try clear c6b0
          try clear c6b1
          try clear p6
          try clear c7
          try clear c9
          try clear c9b0
          try clear c9b1
          try clear c10
          try clear c10b0
          try clear c10b1
          try clear c12
          try clear c14
          try clear c14b0
          try clear c16
          try clear c17
          try clear c18
          try clear c23
          try clear c25
          try clear c25b0
          try clear c26
          try clear c28
          try clear c28b0
          try clear c29
          try clear c29b0
          try clear hcz13_0
          try clear hcz13_1
          try clear hcz13_2
          try clear hcz19_0
          try clear hcz19_1
          try clear hcz19_2
          try clear hcz22_0
          try clear hcz22_1
          try clear hcz22_2
          try clear hcz24_0
          try clear hcz24_1
          try clear hcz24_2
          try clear hcz27_0
          try clear hcz27_1
          try clear hcz27_2
          try clear hcz8_0
          try clear hcz8_1
          try clear hcz8_2
          try clear hfz13_0
          try clear hfz13_1
          try clear hfz13_2
          try clear hfz19_0
          try clear hfz19_1
          try clear hfz19_2
          try clear hfz22_0
          try clear hfz22_1
          try clear hfz22_2
          try clear hfz24_0
          try clear hfz24_1
          try clear hfz24_2
          try clear hfz27_0
          try clear hfz27_1
          try clear hfz27_2
          try clear hfz8_0
          try clear hfz8_1
          try clear hfz8_2
          try clear hx433_0
          try clear hx434_0
          try clear hx436_0
          try clear hx443_0
          try clear p2
          try clear p4
          try clear p433
          try clear p434
          try clear p436
          try clear p443
          try clear p6
          try clear q4
          try clear q433
          try clear q434
          try clear q436
          try clear q443
          obtain ⟨x5_3, x67_3, x433000_3, x436002_3, u436002, rfl, rfl, HA, HK3, HO_436001, HO_436002, BK432, BK435, HB⟩ := hrel
          cases gk with
          | zero => exact absurd HA.out (by simp [impl_decode.l1])
          | succ k3 =>
           have H := HA.out
           clear HA
           simp only [impl_decode.l1] at H
           by_cases c30 : x67_3 < (wrap64 (rd l0 x5_2))
           ·
            rw [if_pos c30] at H
            have c30b0 : decide (x67_3 < (wrap64 (rd l0 x5_2))) = true := decide_eq_true c30
            clear c30
            by_cases c31 : x5_3 ≥ (l0.length : Int)
            ·
             rw [if_pos c31] at H
             have c31b0 : decide ((l0.length : Int) ≤ x5_3) = true := decide_eq_true c31
             clear c31
             simp only [Option.some.injEq, Prod.mk.injEq] at H
             obtain ⟨rfl, rfl, rfl, rfl⟩ := H
             have hnb32 := NB432_435.out
             have hnc32 := NB435_432.out
             have hcz33_0 : wr.cell? ⟨gb432, 0, none⟩ = some (.int .i64 x433000_3) := (blk_cell BK432.out 0).trans rfl
             have hcz33_1 : wr.cell? ⟨gb432, 1, none⟩ = some (.slice none 0 0) := (blk_cell BK432.out 1).trans rfl
             have hcz33_2 : wr.cell? ⟨gb432, 2, none⟩ = some (.slice none 0 0) := (blk_cell BK432.out 2).trans rfl
             have hfz33_0 := Zn BK432.out 0
             have hfz33_1 := Zn BK432.out 1
             have hfz33_2 := Zn BK432.out 2
             go_wp2
             refine bodyPost_ret (results_ct rfl _ _ gb432 42 #[.int .i64 0, .slice none 0 0, .slice none 0 0] (0, 0) _ rfl (by (with_reducible repeat (first | refine Za ?_ _ | refine Zb ?_ | refine blk_alloc ?_ _)); refine blk_put (cs := #[.int .i64 0, .slice none 0 0, .slice none 0 0]) ?_ 2 _ rfl; (with_reducible repeat (first | refine Za ?_ _ | refine Zb ?_ | refine blk_alloc ?_ _)); refine blk_put (cs := #[.int .i64 0, .slice none 0 0, .slice none 0 0]) ?_ 1 _ rfl; (with_reducible repeat (first | refine Za ?_ _ | refine Zb ?_ | refine blk_alloc ?_ _)); refine blk_put (cs := #[.int .i64 x433000_3, .slice none 0 0, .slice none 0 0]) ?_ 0 _ rfl; (with_reducible repeat (first | refine Za ?_ _ | refine Zb ?_ | refine blk_alloc ?_ _)); exact BK432.out) Try.underlying42 rfl (by kernel_rfl)) rfl ?_
             exact ⟨_, _, ZE, by first | exact R_nil _ _ _ _ _ | exact N_nil _ _ _ _ _ | exact V_nil _ _ _ _ _ | exact Q_nil _ _ _ _ _ | exact S_nil _ _ _ _ _, by first | exact R_nil _ _ _ _ _ | exact N_nil _ _ _ _ _ | exact V_nil _ _ _ _ _ | exact Q_nil _ _ _ _ _ | exact S_nil _ _ _ _ _, Zs⟩
            rw [if_neg c31] at H
            have c31b0 : decide ((l0.length : Int) ≤ x5_3) = false := decide_eq_false c31
            clear c31
            by_cases c34 : 0 ≤ x5_3
            ·
             rw [if_pos c34] at H
             have c34b0 : decide (0 ≤ x5_3) = true := decide_eq_true c34
             clear c34
             by_cases c35 : x5_3 < (l0.length : Int)
             ·
              rw [if_pos c35] at H
              have c35b0 : decide (x5_3 < (l0.length : Int)) = true := decide_eq_true c35
              clear c35
              by_cases c36 : (wrap64 ((wrap64 (x5_3 + 1)) + (wrap64 (rd l0 x5_3)))) > (l0.length : Int)
              ·
               rw [if_pos c36] at H
               have c36b0 : decide ((l0.length : Int) < (wrap64 ((wrap64 (x5_3 + 1)) + (wrap64 (rd l0 x5_3))))) = true := decide_eq_true c36
               clear c36
               simp only [Option.some.injEq, Prod.mk.injEq] at H
               obtain ⟨rfl, rfl, rfl, rfl⟩ := H
               have p444 : 0 ≤ (x5_3 : Int) := Zo
               have q444 : x5_3 < (l0.length : Int) := Zo
               obtain ⟨ad444, e444, hx444_0⟩ := Kd.at_int HR0.out x5_3 p444 q444
               obtain rfl : ad434 = ad444 := (by injection e444)
               replace hx444_0 := Zc HB.out hx444_0
               replace p444 := eq_true p444
               replace q444 := eq_true q444
               have hnb37 := NB432_435.out
               have hnc37 := NB435_432.out
               have hcz38_0 : wr.cell? ⟨gb432, 0, none⟩ = some (.int .i64 x433000_3) := (blk_cell BK432.out 0).trans rfl
               have hcz38_1 : wr.cell? ⟨gb432, 1, none⟩ = some (.slice none 0 0) := (blk_cell BK432.out 1).trans rfl
               have hcz38_2 : wr.cell? ⟨gb432, 2, none⟩ = some (.slice none 0 0) := (blk_cell BK432.out 2).trans rfl
               have hfz38_0 := Zn BK432.out 0
               have hfz38_1 := Zn BK432.out 1
               have hfz38_2 := Zn BK432.out 2
               go_wp2
               refine bodyPost_ret (results_ct rfl _ _ gb432 42 #[.int .i64 0, .slice none 0 0, .slice none 0 0] (0, 0) _ rfl (by (with_reducible repeat (first | refine Za ?_ _ | refine Zb ?_ | refine blk_alloc ?_ _)); refine blk_put (cs := #[.int .i64 0, .slice none 0 0, .slice none 0 0]) ?_ 2 _ rfl; (with_reducible repeat (first | refine Za ?_ _ | refine Zb ?_ | refine blk_alloc ?_ _)); refine blk_put (cs := #[.int .i64 0, .slice none 0 0, .slice none 0 0]) ?_ 1 _ rfl; (with_reducible repeat (first | refine Za ?_ _ | refine Zb ?_ | refine blk_alloc ?_ _)); refine blk_put (cs := #[.int .i64 x433000_3, .slice none 0 0, .slice none 0 0]) ?_ 0 _ rfl; (with_reducible repeat (first | refine Za ?_ _ | refine Zb ?_ | refine blk_alloc ?_ _)); exact BK432.out) Try.underlying42 rfl (by kernel_rfl)) rfl ?_
               exact ⟨_, _, ZE, by first | exact R_nil _ _ _ _ _ | exact N_nil _ _ _ _ _ | exact V_nil _ _ _ _ _ | exact Q_nil _ _ _ _ _ | exact S_nil _ _ _ _ _, by first | exact R_nil _ _ _ _ _ | exact N_nil _ _ _ _ _ | exact V_nil _ _ _ _ _ | exact Q_nil _ _ _ _ _ | exact S_nil _ _ _ _ _, Zs⟩
              rw [if_neg c36] at H
              have c36b0 : decide ((l0.length : Int) < (wrap64 ((wrap64 (x5_3 + 1)) + (wrap64 (rd l0 x5_3))))) = false := decide_eq_false c36
              clear c36
              obtain ⟨ji39, hji39⟩ : ∃ j_ : Int, (wrap64 (x5_3 + 1)) = j_ := ⟨_, rfl⟩
              replace H : (if 0 ≤ (ji39) then (if (ji39) ≤ (wrap64 ((ji39) + (wrap64 (rd l0 x5_3)))) then (if (wrap64 ((ji39) + (wrap64 (rd l0 x5_3)))) ≤ (l0.length : Int) then (if x436002_3.length < 8796093022208 then (impl_decode.l1 k3 l0 (wrap64 ((ji39) + (wrap64 (rd l0 x5_3)))) (wrap64 (rd l0 x5_2)) (wrap64 (x67_3 + 1)) (wrap64 (rd l0 0)) x436001_2 (x436002_3 ++ [strOfNums ((l0.take ((wrap64 ((ji39) + (wrap64 (rd l0 x5_3)))) : Int).toNat).drop ((ji39) : Int).toNat)])) else (none)) else (none)) else (none)) else (none)) = some (r1, r2, r3, r4) := by first | (rw [hji39] at H; exact H) | (simp only [hji39] at H ⊢; exact H)
              (try rw [hji39] at c36b0)
              have hji39w : (IntKind.i64.wrap (x5_3 + 1)) = ji39 := (i64_w _).trans hji39
              by_cases c40 : 0 ≤ (ji39)
              ·
               rw [if_pos c40] at H
               have c40b0 := eq_true c40
               have c40b1 : decide (0 ≤ (ji39)) = true := decide_eq_true c40
               clear c40
               by_cases c41 : (ji39) ≤ (wrap64 ((ji39) + (wrap64 (rd l0 x5_3))))
               ·
                rw [if_pos c41] at H
                have c41b0 := eq_true c41
                have c41b1 : decide ((ji39) ≤ (wrap64 ((ji39) + (wrap64 (rd l0 x5_3))))) = true := decide_eq_true c41
                by_cases c42 : (wrap64 ((ji39) + (wrap64 (rd l0 x5_3)))) ≤ (l0.length : Int)
                ·
                 rw [if_pos c42] at H
                 have c42b0 := eq_true c42
                 have c42b1 : decide ((wrap64 ((ji39) + (wrap64 (rd l0 x5_3)))) ≤ (l0.length : Int)) = true := decide_eq_true c42
                 by_cases c43 : x436002_3.length < 8796093022208
                 ·
                  rw [if_pos c43] at H
                  have LMc43 := Zh c43
                  clear c43
                  obtain ⟨y447, hy447⟩ : ∃ y_ : List ByteArray, y_ = (x436002_3 ++ [strOfNums ((l0.take ((wrap64 ((ji39) + (wrap64 (rd l0 x5_3)))) : Int).toNat).drop ((ji39) : Int).toNat)]) := ⟨_, rfl⟩
                  replace H : (impl_decode.l1 k3 l0 (wrap64 ((ji39) + (wrap64 (rd l0 x5_3)))) (wrap64 (rd l0 x5_2)) (wrap64 (x67_3 + 1)) (wrap64 (rd l0 0)) x436001_2 y447) = some (r1, r2, r3, r4) := by first | (rw [hy447]; with_reducible exact H) | (have H2_ := (Option.bind_some _ _).symm.trans H; rw [hy447]; with_reducible exact H2_) | (have H2_ := (Option.bind_some _ _).symm.trans H; with_reducible exact H2_) | with_reducible exact H | (rw [hy447]; exact H) | exact H
                  have Ny447 := Zh hy447
                  clear hy447
                  have H' := Zh H
                  clear H
                  have p444 : 0 ≤ (x5_3 : Int) := Zo
                  have q444 : x5_3 < (l0.length : Int) := Zo
                  obtain ⟨ad444, e444, hx444_0⟩ := Kd.at_int HR0.out x5_3 p444 q444
                  obtain rfl : ad434 = ad444 := (by injection e444)
                  replace hx444_0 := Zc HB.out hx444_0
                  replace p444 := eq_true p444
                  replace q444 := eq_true q444
                  have p445 : 0 ≤ (x5_3 : Int) := Zo
                  have q445 : x5_3 < (l0.length : Int) := Zo
                  obtain ⟨ad445, e445, hx445_0⟩ := Kd.at_int HR0.out x5_3 p445 q445
                  obtain rfl : ad434 = ad445 := (by injection e445)
                  replace hx445_0 := Zc HB.out hx445_0
                  replace p445 := eq_true p445
                  replace q445 := eq_true q445
                  try go_wp2
                  replace HO_436001 := Zh (R_drew HO_436001.out)
                  replace HO_436002 := Zh (R_drew HO_436002.out)
                  replace BK432 := Zh (Zb BK432.out)
                  replace BK435 := Zh (Zb BK435.out)
                  replace HB := Zh (Ze HB.out)
                  obtain ⟨i045, hi045, _, hsz45, _⟩ := info_parts info5
                  obtain ⟨A45, hcut45, hA45, hC45⟩ := print_mid_of (P := Try.prog) (Value.int .u8) 0 24 5 .i64 .i64 Try.underlying24 hi045 hsz45 (some ad434) c0 l0 (ji39) (wrap64 ((ji39) + (wrap64 (rd l0 x5_3)))) (Zo) (by first | omega | exact Zo) (Zo) HC0.out
                  have HR446 := Zh (C_of_reads (h1 := fun _ => rfl) (hA45 _ (Kd.reads_of_C HR0.out)))
                  have HC446 := Zh hC45
                  clear hA45 hC45 hi045 hsz45
                  have hcv46 := C_string (P := Try.prog) (A := A45) (c := (c0 - (ji39).toNat)) Try.underlying24 Try.underlying5 Try.underlying9 (C_below HR446.out HB.out)
                  have hcv46s := hcv46
                  try simp only [show ((l0.take ((wrap64 ((ji39) + (wrap64 (rd l0 x5_3)))) : Int).toNat).drop ((ji39) : Int).toNat).length = ((wrap64 ((ji39) + (wrap64 (rd l0 x5_3)))) : Int).toNat - ((ji39) : Int).toNat from by have h_ : ((wrap64 ((ji39) + (wrap64 (rd l0 x5_3)))) : Int) ≤ (l0.length : Int) := Zo; rw [List.length_drop, List.length_take]; omega] at hcv46s
                  have hcv47 := fun (nq_ : Nat) => C_string (P := Try.prog) (A := A45) (c := (c0 - (ji39).toNat)) Try.underlying24 Try.underlying5 Try.underlying9 (C_drewN (C_below HR446.out HB.out) nq_)
                  have hcv47s := hcv47
                  try simp only [show ((l0.take ((wrap64 ((ji39) + (wrap64 (rd l0 x5_3)))) : Int).toNat).drop ((ji39) : Int).toNat).length = ((wrap64 ((ji39) + (wrap64 (rd l0 x5_3)))) : Int).toNat - ((ji39) : Int).toNat from by have h_ : ((wrap64 ((ji39) + (wrap64 (rd l0 x5_3)))) : Int) ≤ (l0.length : Int) := Zo; rw [List.length_drop, List.length_take]; omega] at hcv47s
                  refine start_ (n := 12) (S := fun w' => w'.cell? ⟨gb435, 0, none⟩ = some (.int .i64 (wrap64 (rd l0 0))) ∧ w'.cell? ⟨gb435, 1, none⟩ = some (u436001) ∧ w'.cell? ⟨gb435, 2, none⟩ = some (u436002) ∧ (convert 24 9 (.slice A45 (((wrap64 ((ji39) + (wrap64 (rd l0 x5_3)))) : Int).toNat - ((ji39) : Int).toNat) ((c0 - (ji39).toNat)))).run Try.prog w' = .ok (.string (strOfNums ((l0.take ((wrap64 ((ji39) + (wrap64 (rd l0 x5_3)))) : Int).toNat).drop ((ji39) : Int).toNat))) w') (ds := [11]) #[false, false, false, false, false, false, false, false, false, false, false, false] (by kernel_rfl) rfl rfl ⟨(blk_cell BK435.out 0).trans rfl, (blk_cell BK435.out 1).trans rfl, (blk_cell BK435.out 2).trans rfl, (by have hq_ := fun (W_ : World) (hb_ : Below w.heap.size w W_) => C_string (P := Try.prog) (A := A45) (c := (c0 - (ji39).toNat)) Try.underlying24 Try.underlying5 Try.underlying9 (C_below HR446.out hb_); simp only [show ((l0.take ((wrap64 ((ji39) + (wrap64 (rd l0 x5_3)))) : Int).toNat).drop ((ji39) : Int).toNat).length = ((wrap64 ((ji39) + (wrap64 (rd l0 x5_3)))) : Int).toNat - ((ji39) : Int).toNat from by have h_ : ((wrap64 ((ji39) + (wrap64 (rd l0 x5_3)))) : Int) ≤ (l0.length : Int) := Zo; rw [List.length_drop, List.length_take]; omega] at hq_; exact hq_ _ Zs)⟩ (fun hHeld => ?_); refine with_tabW impl_decode.tab22 impl_decode.bits22 (fun HT_ HW_ => ?_)
                  generalize wr.drew = w44 at HO_436001 HO_436002 BK432 BK435 HB HR446 hHeld ⊢
                  refine pure_ (i := 0) (N := some 95) (v := ?_) (a' := ?_) #[true, false, false, false, false, false, false, false, false, false, false, false] rfl rfl (any_of HT_.out (by kernel_rfl)) (fun _ _ _ h => h) (Or.inl ⟨by rfl, ?_⟩) ?_ ?_
                  rotate_left
                  ·
                   intro w'
                   go_simp
                   with_reducible rfl
                  rotate_left
                  ·
                   simp only [Act.put, List.setIfInBounds_toArray, List.set_cons_zero, List.set_cons_succ, i64_w, i32_w]
                   rfl
                  refine pure_ (i := 2) (N := some 97) (v := ?_) (a' := ?_) #[true, false, true, false, false, false, false, false, false, false, false, false] rfl rfl (any_of HT_.out (by kernel_rfl)) (fun _ _ _ h => h) (Or.inl ⟨by rfl, ?_⟩) ?_ ?_
                  rotate_left
                  ·
                   intro w'
                   go_simp
                   with_reducible rfl
                  rotate_left
                  ·
                   simp only [Act.put, List.setIfInBounds_toArray, List.set_cons_zero, List.set_cons_succ, i64_w, i32_w]
                   rfl
                  refine pure_ (i := 3) (N := some 98) (v := ?_) (a' := ?_) #[true, false, true, true, false, false, false, false, false, false, false, false] rfl rfl (any_of HT_.out (by kernel_rfl)) (fun _ _ _ h => h) (Or.inl ⟨by rfl, ?_⟩) ?_ ?_
                  rotate_left
                  ·
                   intro w'
                   go_simp
                   with_reducible rfl
                  rotate_left
                  ·
                   simp only [Act.put, List.setIfInBounds_toArray, List.set_cons_zero, List.set_cons_succ, i64_w, i32_w]
                   rfl
                  refine pure_ (i := 4) (N := some 99) (v := ?_) (a' := ?_) #[true, false, true, true, true, false, false, false, false, false, false, false] rfl rfl (any_of HT_.out (by kernel_rfl)) (fun _ _ _ h => h) (Or.inl ⟨by rfl, ?_⟩) ?_ ?_
                  rotate_left
                  ·
                   intro w'
                   go_simp
                   with_reducible rfl
                  rotate_left
                  ·
                   simp only [Act.put, List.setIfInBounds_toArray, List.set_cons_zero, List.set_cons_succ, i64_w, i32_w]
                   rfl
                  refine pure_ (i := 5) (N := some 100) (v := ?_) (a' := ?_) #[true, false, true, true, true, true, false, false, false, false, false, false] rfl rfl (any_of HT_.out (by kernel_rfl)) (fun _ _ _ h => h) (Or.inl ⟨by rfl, ?_⟩) ?_ ?_
                  rotate_left
                  ·
                   intro w'
                   go_simp
                   with_reducible rfl
                  rotate_left
                  ·
                   simp only [Act.put, List.setIfInBounds_toArray, List.set_cons_zero, List.set_cons_succ, i64_w, i32_w]
                   rfl
                  refine pure_ (i := 6) (N := some 101) (v := ?_) (a' := ?_) #[true, false, true, true, true, true, true, false, false, false, false, false] rfl rfl (any_of HT_.out (by kernel_rfl)) (fun _ _ _ h => h) (Or.inl ⟨by rfl, ?_⟩) ?_ ?_
                  rotate_left
                  ·
                   intro w'
                   go_simp
                   with_reducible rfl
                  rotate_left
                  ·
                   simp only [Act.put, List.setIfInBounds_toArray, List.set_cons_zero, List.set_cons_succ, i64_w, i32_w]
                   rfl
                  refine take_ (i := 7) (N := some 102) (v := ?_) (a' := ?_) #[true, false, true, true, true, true, true, true, false, false, false, false] rfl rfl (take_ofW HT_.out HW_.out (by kernel_rfl)) (fun _ _ _ h => h) (Or.inl ⟨by rfl, ?_⟩) hHeld ?_ ?_
                  rotate_left
                  ·
                   rintro w' ⟨s0, s1, s2, s3⟩
                   go_simp
                   with_reducible rfl
                  rotate_left
                  ·
                   simp only [Act.put, List.setIfInBounds_toArray, List.set_cons_zero, List.set_cons_succ, i64_w, i32_w]
                   rfl
                  refine take_ (i := 1) (N := some 96) (v := ?_) (a' := ?_) #[true, true, true, true, true, true, true, true, false, false, false, false] rfl rfl (take_ofW HT_.out HW_.out (by kernel_rfl)) (fun _ _ _ h => h) (Or.inl ⟨by rfl, ?_⟩) hHeld ?_ ?_
                  rotate_left
                  ·
                   rintro w' ⟨s0, s1, s2, s3⟩
                   go_simp
                   with_reducible rfl
                  rotate_left
                  ·
                   simp only [Act.put, List.setIfInBounds_toArray, List.set_cons_zero, List.set_cons_succ, i64_w, i32_w]
                   rfl
                  refine one_ (i := 8) (N := some 103) #[true, true, true, true, true, true, true, true, true, false, false, false] rfl rfl (one_of HT_.out (by kernel_rfl)) (by decide) (fun K hK => ?_)
                  refine value_ (w1 := ?_) (v := ?_) (by rfl) rfl ?_ ?_
                  rotate_left 2
                  ·
                   go_simp
                   constructor
                   ·
                    rfl
                   rfl
                  refine hK.out _ _ ⟨(blk_cell (blk_alloc BK435.out _) 0).trans rfl, (blk_cell (blk_alloc BK435.out _) 1).trans rfl, (blk_cell (blk_alloc BK435.out _) 2).trans rfl, (by have hq_ := fun (W_ : World) (hb_ : Below w.heap.size w W_) => C_string (P := Try.prog) (A := A45) (c := (c0 - (ji39).toNat)) Try.underlying24 Try.underlying5 Try.underlying9 (C_below HR446.out hb_); simp only [show ((l0.take ((wrap64 ((ji39) + (wrap64 (rd l0 x5_3)))) : Int).toNat).drop ((ji39) : Int).toNat).length = ((wrap64 ((ji39) + (wrap64 (rd l0 x5_3)))) : Int).toNat - ((ji39) : Int).toNat from by have h_ : ((wrap64 ((ji39) + (wrap64 (rd l0 x5_3)))) : Int) ≤ (l0.length : Int) := Zo; rw [List.length_drop, List.length_take]; omega] at hq_; exact hq_ _ Zs)⟩ (fun hHeld => ?_)
                  clear hK K
                  refine norm_ (a' := ?_) ?_ ?_
                  rotate_left
                  ·
                   show Act.put _ (some 103) _ = _
                   simp only [Act.put, List.setIfInBounds_toArray, List.set_cons_zero, List.set_cons_succ, i64_w, i32_w]
                   rfl
                  refine one_ (i := 9) (N := some 104) #[true, true, true, true, true, true, true, true, true, true, false, false] rfl rfl (one_of HT_.out (by kernel_rfl)) (by decide) (fun K hK => ?_)
                  refine R_append_step Kd.string (w0 := w) w.heap.size (by rfl) (.tmp 96) (.tmp 103) 37 9 (.string ⟨#[]⟩) 16 rfl Try.underlying37 info9 rfl (by decide) (by omega) u436002 x436002_3 (strOfNums ((l0.take ((wrap64 ((ji39) + (wrap64 (rd l0 x5_3)))) : Int).toNat).drop ((ji39) : Int).toNat)) [.string (strOfNums ((l0.take ((wrap64 ((ji39) + (wrap64 (rd l0 x5_3)))) : Int).toNat).drop ((ji39) : Int).toNat))] (fun _ => True) (fun _ => False) rfl rfl ?aP (fun _ hk => hk.elim) ?aF ?aO ?aB ?aS ?aL ?_
                  (case aP => exact rfl)
                  (case aB => exact Zs)
                  (case aF => exact (fun _ _ => trivial))
                  (case aO => exact (ZR HO_436002.out))
                  (case aS => exact (below_size Zs))
                  (case aL => have := LMc43.out; omega)
                  intro v448 w48 ho hb hg hat
                  rw [← Ny447.out] at ho
                  have n0_ := Zh (R_over' (ZR HO_436001.out) (R_typed (ZR HO_436002.out)) (by decide) hg)
                  have n1_ := Zh (blk_grown (g := gb432) (o := .cells #[.int .i64 x433000_3, .slice none 0 0, .slice none 0 0] 42 (0, 0)) Zk hg (R_ne HO_436002.out BK432.out (by decide)))
                  have n2_ := Zh (blk_grown (g := gb435) (o := .cells #[.int .i64 (wrap64 (rd l0 0)), u436001, u436002] 42 (0, 0)) Zk hg (R_ne HO_436002.out BK435.out (by decide)))
                  have n3_ := Zh (hb)
                  have n4_ := Zh (ho)
                  clear HO_436001
                  clear BK432
                  clear BK435
                  clear HB
                  clear HO_436002
                  have HO_436001 := n0_
                  have BK432 := n1_
                  have BK435 := n2_
                  have HB := n3_
                  have HO449 := n4_
                  clear n0_ n1_ n2_ n3_ n4_
                  clear ho hb hg hat
                  obtain ⟨Ao49, co49, eo49⟩ := R_slice HO449.out
                  (first | subst eo49 | (injection eo49 with f1_ f2_ f3_; have f4_ := f1_.symm; have f5_ := f3_.symm; clear f1_ f2_ f3_; subst f4_; subst f5_))
                  refine hK.out _ _ ⟨(blk_cell BK435.out 0).trans rfl, (blk_cell BK435.out 1).trans rfl, (blk_cell BK435.out 2).trans rfl, (by have hq_ := fun (W_ : World) (hb_ : Below w.heap.size w W_) => C_string (P := Try.prog) (A := A45) (c := (c0 - (ji39).toNat)) Try.underlying24 Try.underlying5 Try.underlying9 (C_below HR446.out hb_); simp only [show ((l0.take ((wrap64 ((ji39) + (wrap64 (rd l0 x5_3)))) : Int).toNat).drop ((ji39) : Int).toNat).length = ((wrap64 ((ji39) + (wrap64 (rd l0 x5_3)))) : Int).toNat - ((ji39) : Int).toNat from by have h_ : ((wrap64 ((ji39) + (wrap64 (rd l0 x5_3)))) : Int) ≤ (l0.length : Int) := Zo; rw [List.length_drop, List.length_take]; omega] at hq_; exact hq_ _ Zs)⟩ (fun hHeld => ?_)
                  clear hK K
                  refine norm_ (a' := ?_) ?_ ?_
                  rotate_left
                  ·
                   show Act.put _ (some 104) _ = _
                   simp only [Act.put, List.setIfInBounds_toArray, List.set_cons_zero, List.set_cons_succ, i64_w, i32_w]
                   rfl
                  refine pure_ (i := 10) (N := some 105) (v := ?_) (a' := ?_) #[true, true, true, true, true, true, true, true, true, true, true, false] rfl rfl (any_of HT_.out (by kernel_rfl)) (fun _ _ _ h => h) (Or.inl ⟨by rfl, ?_⟩) ?_ ?_
                  rotate_left
                  ·
                   intro w'
                   go_simp
                   with_reducible rfl
                  rotate_left
                  ·
                   simp only [Act.put, List.setIfInBounds_toArray, List.set_cons_zero, List.set_cons_succ, i64_w, i32_w]
                   rfl
                  refine last_ (i := 11) (N := none) #[true, true, true, true, true, true, true, true, true, true, true, true] rfl rfl (one_of HT_.out (by kernel_rfl)) (by decide) (fun K hK => ?_)
                  have hs50 : w48.cell? ⟨gb435, 2, none⟩ = some (u436002) := (blk_cell BK435.out 2).trans rfl
                  have hfs50 := Zn BK435.out 2
                  have hns50_0 := NB432_435.out
                  have hms50_0 := NB435_432.out
                  refine skip_ (w1 := ?_) (by rfl) rfl ?_ ?_
                  rotate_left
                  ·
                   go_simp
                   rfl
                  refine hK.out _ _ ?_
                  clear hK K
                  refine done_ (done_of HT_.out (by kernel_rfl)) ?_
                  try go_wp2
                  go_roundg k3
                  case measure => have := HJ1.out; have := HK2.out; have := HK3.out; omega
                  case rel => exact ⟨(wrap64 ((ji39) + (wrap64 (rd l0 x5_3)))), (wrap64 (x67_3 + 1)), (x433000_3), (y447), (.slice Ao49 y447.length co49), (by first | rfl | (simp; done) | (simp only [← hji39] <;> (first | rfl | simp)) | (simp [*]; done)), (by first | rfl | (simp; done) | (simp [*]; done)), (by first | exact H' | (simp only [hji39]; exact H')), ⟨by have := HJ1.out; have := HK2.out; have := HK3.out; omega⟩, ⟨ZR (R_mono (R_far (p := ⟨gb435, 2, none⟩) (R_types HO_436001.out BK435.out (by decide)) (fun _ hk => hk.2) (.slice Ao49 y447.length co49)) (fun _ hk => trivial))⟩, ⟨ZR (R_mono (R_far (p := ⟨gb435, 2, none⟩) (R_types HO449.out BK435.out (by decide)) (fun _ hk => hk.2) (.slice Ao49 y447.length co49)) (fun _ hk => trivial))⟩, ⟨by (with_reducible repeat (first | refine Za ?_ _ | refine Zb ?_ | refine blk_alloc ?_ _)); refine blk_far ?_ NB432_435.out _; (with_reducible repeat (first | refine Za ?_ _ | refine Zb ?_ | refine blk_alloc ?_ _)); exact BK432.out⟩, ⟨by (with_reducible repeat (first | refine Za ?_ _ | refine Zb ?_ | refine blk_alloc ?_ _)); refine blk_put (cs := #[.int .i64 (wrap64 (rd l0 0)), u436001, u436002]) ?_ 2 _ rfl; (with_reducible repeat (first | refine Za ?_ _ | refine Zb ?_ | refine blk_alloc ?_ _)); exact BK435.out⟩, ⟨Zs⟩⟩
                 rw [if_neg c43] at H
                 exact absurd H (by simp)
                rw [if_neg c42] at H
                exact absurd H (by simp)
               rw [if_neg c41] at H
               exact absurd H (by simp)
              rw [if_neg c40] at H
              exact absurd H (by simp)
             rw [if_neg c35] at H
             exact absurd H (by simp)
            rw [if_neg c34] at H
            exact absurd H (by simp)
           rw [if_neg c30] at H
           have c30b0 : decide (x67_3 < (wrap64 (rd l0 x5_2))) = false := decide_eq_false c30
           clear c30
           by_cases c51 : x5_3 = (l0.length : Int)
           ·
            rw [if_pos c51] at H
            have c51b0 : (x5_3 == (l0.length : Int)) = true := beq_iff_eq.mpr c51
            have c51b1 : (x5_3 != (l0.length : Int)) = false := bne_eq_false_iff_eq.mpr c51
            clear c51
            replace H := Option.bind_eq_some_iff.mp H
            obtain ⟨t450, A520, H⟩ := H
            replace H : (if t450 = true then (some ((wrap64 (rd l0 0)), x436001_2, x436002_3, true)) else (some (0, ([] : List Int), ([] : List ByteArray), false))) = some (r1, r2, r3, r4) := H
            have A52 := Zh A520
            clear A520
            by_cases c53 : t450 = true
            ·
             subst c53
             have H1 : (some ((wrap64 (rd l0 0)), x436001_2, x436002_3, true)) = some (r1, r2, r3, r4) := by rw [if_pos rfl] at H; exact H
             clear H
             have H := H1
             clear H1
             simp only [Option.some.injEq, Prod.mk.injEq] at H
             obtain ⟨rfl, rfl, rfl, rfl⟩ := H
             have hnb54 := NB435_432.out
             have hnc54 := NB432_435.out
             have hcz55_0 : wr.cell? ⟨gb435, 0, none⟩ = some (.int .i64 (wrap64 (rd l0 0))) := (blk_cell BK435.out 0).trans rfl
             have hcz55_1 : wr.cell? ⟨gb435, 1, none⟩ = some (u436001) := (blk_cell BK435.out 1).trans rfl
             have hcz55_2 : wr.cell? ⟨gb435, 2, none⟩ = some (u436002) := (blk_cell BK435.out 2).trans rfl
             have hfz55_0 := Zn BK435.out 0
             have hfz55_1 := Zn BK435.out 1
             have hfz55_2 := Zn BK435.out 2
             obtain ⟨Ao56, co56, eo56⟩ := R_slice HO_436001.out
             subst eo56
             obtain ⟨Ao57, co57, eo57⟩ := R_slice HO_436002.out
             subst eo57
             go_wp2_with (first | (go_at_call 56; (with_reducible refine (impl_isRecord.calls (wrap64 (rd l0 0)) _ _ x436001_2 _ _ x436002_3 true _ ?side1 ?side2 ?side3 ?side4 A52.out).mono ?_); (case side1 => repeat (first | exact (R_reads' HO_436001.out).2.2 | (with_reducible refine C_alloc ?_ _) | (with_reducible refine C_drewN ?_ _) | (with_reducible refine C_drew ?_))); (case side2 => exact (R_reads' HO_436001.out).2.1); (case side3 => repeat (first | exact (R_reads' HO_436002.out).2.2 | (with_reducible refine C_alloc ?_ _) | (with_reducible refine C_drewN ?_ _) | (with_reducible refine C_drew ?_))); (case side4 => exact (R_reads' HO_436002.out).2.1); rintro e w58 ⟨rfl, hb⟩; replace HO_436001 := Zh (R_below (ZR HO_436001.out) hb); replace HO_436002 := Zh (R_below (ZR HO_436002.out) hb); replace BK432 := Zh (blk_below (g := gb432) (o := .cells #[.int .i64 x433000_3, .slice none 0 0, .slice none 0 0] 42 (0, 0)) Zk hb); replace BK435 := Zh (blk_below (g := gb435) (o := .cells #[.int .i64 (wrap64 (rd l0 0)), .slice Ao56 x436001_2.length co56, .slice Ao57 x436002_3.length co57] 42 (0, 0)) Zk hb); replace HB := Zh (Zl Zs hb); (try clear hb); (try clear hb2); (try clear hk); (try clear hi); have hcz59_0 : w58.cell? ⟨gb435, 0, none⟩ = some (.int .i64 (wrap64 (rd l0 0))) := (blk_cell BK435.out 0).trans rfl; have hcz59_1 : w58.cell? ⟨gb435, 1, none⟩ = some (.slice Ao56 x436001_2.length co56) := (blk_cell BK435.out 1).trans rfl; have hcz59_2 : w58.cell? ⟨gb435, 2, none⟩ = some (.slice Ao57 x436002_3.length co57) := (blk_cell BK435.out 2).trans rfl; have hfz59_0 := Zn BK435.out 0; have hfz59_1 := Zn BK435.out 1; have hfz59_2 := Zn BK435.out 2; have hcz60_0 : w58.cell? ⟨gb432, 0, none⟩ = some (.int .i64 x433000_3) := (blk_cell BK432.out 0).trans rfl; have hcz60_1 : w58.cell? ⟨gb432, 1, none⟩ = some (.slice none 0 0) := (blk_cell BK432.out 1).trans rfl; have hcz60_2 : w58.cell? ⟨gb432, 2, none⟩ = some (.slice none 0 0) := (blk_cell BK432.out 2).trans rfl; have hfz60_0 := Zn BK432.out 0; have hfz60_1 := Zn BK432.out 1; have hfz60_2 := Zn BK432.out 2))
             refine bodyPost_ret (results_ct rfl _ _ gb432 42 #[.int .i64 (wrap64 (rd l0 0)), .slice Ao56 x436001_2.length co56, .slice Ao57 x436002_3.length co57] (0, 0) _ rfl (by (with_reducible repeat (first | refine Za ?_ _ | refine Zb ?_ | refine blk_alloc ?_ _)); refine blk_put (cs := #[.int .i64 (wrap64 (rd l0 0)), .slice Ao56 x436001_2.length co56, .slice none 0 0]) ?_ 2 _ rfl; (with_reducible repeat (first | refine Za ?_ _ | refine Zb ?_ | refine blk_alloc ?_ _)); refine blk_put (cs := #[.int .i64 (wrap64 (rd l0 0)), .slice none 0 0, .slice none 0 0]) ?_ 1 _ rfl; (with_reducible repeat (first | refine Za ?_ _ | refine Zb ?_ | refine blk_alloc ?_ _)); refine blk_put (cs := #[.int .i64 x433000_3, .slice none 0 0, .slice none 0 0]) ?_ 0 _ rfl; (with_reducible repeat (first | refine Za ?_ _ | refine Zb ?_ | refine blk_alloc ?_ _)); exact BK432.out) Try.underlying42 rfl (by kernel_rfl)) rfl ?_
             exact ⟨_, _, ZE, ZR (R_mono (R_far (p := ⟨gb432, 2, none⟩) (R_far (p := ⟨gb432, 1, none⟩) (R_far (p := ⟨gb432, 0, none⟩) (R_types HO_436001.out BK432.out (by decide)) (fun _ hk => hk.2) (.int .i64 (wrap64 (rd l0 0)))) (fun _ hk => hk.2) (.slice Ao56 x436001_2.length co56)) (fun _ hk => hk.2) (.slice Ao57 x436002_3.length co57)) (fun _ hk => trivial)), ZR (R_mono (R_far (p := ⟨gb432, 2, none⟩) (R_far (p := ⟨gb432, 1, none⟩) (R_far (p := ⟨gb432, 0, none⟩) (R_types HO_436002.out BK432.out (by decide)) (fun _ hk => hk.2) (.int .i64 (wrap64 (rd l0 0)))) (fun _ hk => hk.2) (.slice Ao56 x436001_2.length co56)) (fun _ hk => hk.2) (.slice Ao57 x436002_3.length co57)) (fun _ hk => trivial)), Zs⟩
            replace c53 := Bool.eq_false_iff.mpr c53
            subst c53
            have H1 : (some (0, ([] : List Int), ([] : List ByteArray), false)) = some (r1, r2, r3, r4) := by rw [if_neg (show ¬ (false = true) by decide)] at H; exact H
            clear H
            have H := H1
            clear H1
            simp only [Option.some.injEq, Prod.mk.injEq] at H
            obtain ⟨rfl, rfl, rfl, rfl⟩ := H
            have hnb61 := NB435_432.out
            have hnc61 := NB432_435.out
            have hcz62_0 : wr.cell? ⟨gb435, 0, none⟩ = some (.int .i64 (wrap64 (rd l0 0))) := (blk_cell BK435.out 0).trans rfl
            have hcz62_1 : wr.cell? ⟨gb435, 1, none⟩ = some (u436001) := (blk_cell BK435.out 1).trans rfl
            have hcz62_2 : wr.cell? ⟨gb435, 2, none⟩ = some (u436002) := (blk_cell BK435.out 2).trans rfl
            have hfz62_0 := Zn BK435.out 0
            have hfz62_1 := Zn BK435.out 1
            have hfz62_2 := Zn BK435.out 2
            obtain ⟨Ao63, co63, eo63⟩ := R_slice HO_436001.out
            subst eo63
            obtain ⟨Ao64, co64, eo64⟩ := R_slice HO_436002.out
            subst eo64
            go_wp2_with (first | (go_at_call 56; (with_reducible refine (impl_isRecord.calls (wrap64 (rd l0 0)) _ _ x436001_2 _ _ x436002_3 false _ ?side1 ?side2 ?side3 ?side4 A52.out).mono ?_); (case side1 => repeat (first | exact (R_reads' HO_436001.out).2.2 | (with_reducible refine C_alloc ?_ _) | (with_reducible refine C_drewN ?_ _) | (with_reducible refine C_drew ?_))); (case side2 => exact (R_reads' HO_436001.out).2.1); (case side3 => repeat (first | exact (R_reads' HO_436002.out).2.2 | (with_reducible refine C_alloc ?_ _) | (with_reducible refine C_drewN ?_ _) | (with_reducible refine C_drew ?_))); (case side4 => exact (R_reads' HO_436002.out).2.1); rintro e w65 ⟨rfl, hb⟩; replace HO_436001 := Zh (R_below (ZR HO_436001.out) hb); replace HO_436002 := Zh (R_below (ZR HO_436002.out) hb); replace BK432 := Zh (blk_below (g := gb432) (o := .cells #[.int .i64 x433000_3, .slice none 0 0, .slice none 0 0] 42 (0, 0)) Zk hb); replace BK435 := Zh (blk_below (g := gb435) (o := .cells #[.int .i64 (wrap64 (rd l0 0)), .slice Ao63 x436001_2.length co63, .slice Ao64 x436002_3.length co64] 42 (0, 0)) Zk hb); replace HB := Zh (Zl Zs hb); (try clear hb); (try clear hb2); (try clear hk); (try clear hi); have hcz66_0 : w65.cell? ⟨gb432, 0, none⟩ = some (.int .i64 x433000_3) := (blk_cell BK432.out 0).trans rfl; have hcz66_1 : w65.cell? ⟨gb432, 1, none⟩ = some (.slice none 0 0) := (blk_cell BK432.out 1).trans rfl; have hcz66_2 : w65.cell? ⟨gb432, 2, none⟩ = some (.slice none 0 0) := (blk_cell BK432.out 2).trans rfl; have hfz66_0 := Zn BK432.out 0; have hfz66_1 := Zn BK432.out 1; have hfz66_2 := Zn BK432.out 2))
            refine bodyPost_ret (results_ct rfl _ _ gb432 42 #[.int .i64 0, .slice none 0 0, .slice none 0 0] (0, 0) _ rfl (by (with_reducible repeat (first | refine Za ?_ _ | refine Zb ?_ | refine blk_alloc ?_ _)); refine blk_put (cs := #[.int .i64 0, .slice none 0 0, .slice none 0 0]) ?_ 2 _ rfl; (with_reducible repeat (first | refine Za ?_ _ | refine Zb ?_ | refine blk_alloc ?_ _)); refine blk_put (cs := #[.int .i64 0, .slice none 0 0, .slice none 0 0]) ?_ 1 _ rfl; (with_reducible repeat (first | refine Za ?_ _ | refine Zb ?_ | refine blk_alloc ?_ _)); refine blk_put (cs := #[.int .i64 x433000_3, .slice none 0 0, .slice none 0 0]) ?_ 0 _ rfl; (with_reducible repeat (first | refine Za ?_ _ | refine Zb ?_ | refine blk_alloc ?_ _)); exact BK432.out) Try.underlying42 rfl (by kernel_rfl)) rfl ?_
            exact ⟨_, _, ZE, by first | exact R_nil _ _ _ _ _ | exact N_nil _ _ _ _ _ | exact V_nil _ _ _ _ _ | exact Q_nil _ _ _ _ _ | exact S_nil _ _ _ _ _, by first | exact R_nil _ _ _ _ _ | exact N_nil _ _ _ _ _ | exact V_nil _ _ _ _ _ | exact Q_nil _ _ _ _ _ | exact S_nil _ _ _ _ _, Zs⟩
           rw [if_neg c51] at H
           have c51b0 : (x5_3 == (l0.length : Int)) = false := beq_eq_false_iff_ne.mpr c51
           have c51b1 : (x5_3 != (l0.length : Int)) = true := bne_iff_ne.mpr c51
           simp only [Option.some.injEq, Prod.mk.injEq] at H
           obtain ⟨rfl, rfl, rfl, rfl⟩ := H
           have hnb67 := NB432_435.out
           have hnc67 := NB435_432.out
           have hcz68_0 : wr.cell? ⟨gb432, 0, none⟩ = some (.int .i64 x433000_3) := (blk_cell BK432.out 0).trans rfl
           have hcz68_1 : wr.cell? ⟨gb432, 1, none⟩ = some (.slice none 0 0) := (blk_cell BK432.out 1).trans rfl
           have hcz68_2 : wr.cell? ⟨gb432, 2, none⟩ = some (.slice none 0 0) := (blk_cell BK432.out 2).trans rfl
           have hfz68_0 := Zn BK432.out 0
           have hfz68_1 := Zn BK432.out 1
           have hfz68_2 := Zn BK432.out 2
           go_wp2
           refine bodyPost_ret (results_ct rfl _ _ gb432 42 #[.int .i64 0, .slice none 0 0, .slice none 0 0] (0, 0) _ rfl (by (with_reducible repeat (first | refine Za ?_ _ | refine Zb ?_ | refine blk_alloc ?_ _)); refine blk_put (cs := #[.int .i64 0, .slice none 0 0, .slice none 0 0]) ?_ 2 _ rfl; (with_reducible repeat (first | refine Za ?_ _ | refine Zb ?_ | refine blk_alloc ?_ _)); refine blk_put (cs := #[.int .i64 0, .slice none 0 0, .slice none 0 0]) ?_ 1 _ rfl; (with_reducible repeat (first | refine Za ?_ _ | refine Zb ?_ | refine blk_alloc ?_ _)); refine blk_put (cs := #[.int .i64 x433000_3, .slice none 0 0, .slice none 0 0]) ?_ 0 _ rfl; (with_reducible repeat (first | refine Za ?_ _ | refine Zb ?_ | refine blk_alloc ?_ _)); exact BK432.out) Try.underlying42 rfl (by kernel_rfl)) rfl ?_
           exact ⟨_, _, ZE, by first | exact R_nil _ _ _ _ _ | exact N_nil _ _ _ _ _ | exact V_nil _ _ _ _ _ | exact Q_nil _ _ _ _ _ | exact S_nil _ _ _ _ _, by first | exact R_nil _ _ _ _ _ | exact N_nil _ _ _ _ _ | exact V_nil _ _ _ _ _ | exact Q_nil _ _ _ _ _ | exact S_nil _ _ _ _ _, Zs⟩
        rw [if_neg c29] at H
        exact absurd H (by simp)
       rw [if_neg c28] at H
       exact absurd H (by simp)
    rw [if_neg c10] at H
    exact absurd H (by simp)
   rw [if_neg c9] at H
   exact absurd H (by simp)
def impl_Decode.f (k : Nat) (l0 : List Int) : Option (Int × List Int × List ByteArray × Bool) := (impl_decode.f k l0).bind fun bt452 => (some (bt452.1, bt452.2.1, bt452.2.2.1, bt452.2.2.2))
set_option maxHeartbeats 8000000 in
set_option maxRecDepth 100000 in
theorem impl_Decode.calls (k : Nat) (A0 : Option Addr) (c0 : Nat) (l0 : List Int) (r1 : Int) (r2 : List Int) (r3 : List ByteArray) (r4 : Bool) (w : World) (hr0 : Kd.C (Kd.int .u8) w A0 l0.length l0) (hc0 : l0.length ≤ c0) (h : impl_Decode.f k l0 = some (r1, r2, r3, r4)) :
  Calls Try.prog 33 #[.slice A0 l0.length c0] w fun e w' => ∃ v1_ v2_ : Value, e = .returned (.tuple #[.agg #[.int .i64 r1, v1_, v2_], .bool r4]) ∧ Kd.R (Kd.int .u64) 23 w' w.heap.size (fun _ => True) v1_ r2 ∧ Kd.R Kd.string 9 w' w.heap.size (fun _ => True) v2_ r3 ∧ Below w.heap.size w w' := by
 have hu42 := Try.underlying42
 have HR0 := Zh hr0
 have HC0 := Zh hc0
 clear hr0 hc0
 have HB := Zh (Below.refl w.heap.size w)
 have H : ((impl_decode.f k l0).bind fun bt452 => (some (bt452.1, bt452.2.1, bt452.2.2.1, bt452.2.2.2))) = some (r1, r2, r3, r4) := h
 clear h
 replace H := Option.bind_eq_some_iff.mp H
 obtain ⟨⟨t452, t453, t456, t459⟩, A20, H⟩ := H
 replace H : (some (t452, t453, t456, t459)) = some (r1, r2, r3, r4) := H
 have A2 := Zh A20
 clear A20
 simp only [Option.some.injEq, Prod.mk.injEq] at H
 obtain ⟨rfl, rfl, rfl, rfl⟩ := H
 go_enter Try.func33, Try.ntmps33
 go_wp2_with (first | ((with_reducible refine gate_dst (N := 2) rfl ?_); refine box_event ?hg (N := 2) ?hd (cs := #[.int .i64 0, .slice none 0 0, .slice none 0 0]) (t := 42) ?hr ?_; (case hd => rfl); (case hg => rfl); (case hr => first | (go_simp; done) | (go_simp; rfl)); intro gb451 hg w3 hbox hb; have BK451 := Zh (hbox); have GW451 := Zh ((by rw [hg]; exact (below_size Zs) : w.heap.size ≤ gb451)); have GE451 := Zh ((by rw [hg]; exact (below_size Zs) : w.heap.size ≤ gb451)); replace HB := Zh (Zl Zs hb); clear hb hbox hg) | ((with_reducible refine gate_callee (f := 63) rfl ?_); refine ZG (some 5) Try.func63 #[.slice A0 l0.length c0] rfl ?_; (with_reducible refine (impl_decode.calls k _ _ l0 t452 t453 t456 t459 _ ?side1 ?side2 A2.out).mono ?_); (case side1 => repeat (first | exact (C_below HR0.out HB.out) | (with_reducible refine C_alloc ?_ _) | (with_reducible refine C_drewN ?_ _) | (with_reducible refine C_drew ?_))); (case side2 => exact HC0.out); rintro e w4 ⟨v454, v457, rfl, ho0, ho1, hb⟩; refine ⟨_, rfl, ?_⟩; have HO455 := Zh (R_lower ho0 (below_size Zs)); have HO458 := Zh (R_lower ho1 (below_size Zs)); replace BK451 := Zh (blk_below (g := gb451) (o := .cells #[.int .i64 0, .slice none 0 0, .slice none 0 0] 42 (0, 0)) Zk hb); replace HB := Zh (Zl Zs hb); (try clear hb); (try clear hb2); (try clear hk); (try clear hi); (try clear ho0); (try clear ho1); have hcz5_0 : w4.cell? ⟨gb451, 0, none⟩ = some (.int .i64 0) := (blk_cell BK451.out 0).trans rfl; have hcz5_1 : w4.cell? ⟨gb451, 1, none⟩ = some (.slice none 0 0) := (blk_cell BK451.out 1).trans rfl; have hcz5_2 : w4.cell? ⟨gb451, 2, none⟩ = some (.slice none 0 0) := (blk_cell BK451.out 2).trans rfl; have hfz5_0 := Zn BK451.out 0; have hfz5_1 := Zn BK451.out 1; have hfz5_2 := Zn BK451.out 2; obtain ⟨Ao6, co6, eo6⟩ := R_slice HO455.out; subst eo6; obtain ⟨Ao7, co7, eo7⟩ := R_slice HO458.out; subst eo7))
 refine bodyPost_ret (results_ct rfl _ _ gb451 42 #[.int .i64 t452, .slice Ao6 t453.length co6, .slice Ao7 t456.length co7] (0, 0) _ rfl (by (with_reducible repeat (first | refine Za ?_ _ | refine Zb ?_ | refine blk_alloc ?_ _)); refine blk_put (cs := #[.int .i64 t452, .slice Ao6 t453.length co6, .slice none 0 0]) ?_ 2 _ rfl; (with_reducible repeat (first | refine Za ?_ _ | refine Zb ?_ | refine blk_alloc ?_ _)); refine blk_put (cs := #[.int .i64 t452, .slice none 0 0, .slice none 0 0]) ?_ 1 _ rfl; (with_reducible repeat (first | refine Za ?_ _ | refine Zb ?_ | refine blk_alloc ?_ _)); refine blk_put (cs := #[.int .i64 0, .slice none 0 0, .slice none 0 0]) ?_ 0 _ rfl; (with_reducible repeat (first | refine Za ?_ _ | refine Zb ?_ | refine blk_alloc ?_ _)); exact BK451.out) Try.underlying42 rfl (by kernel_rfl)) rfl ?_
 exact ⟨_, _, ZE, ZR (R_mono (R_far (p := ⟨gb451, 2, none⟩) (R_far (p := ⟨gb451, 1, none⟩) (R_far (p := ⟨gb451, 0, none⟩) (R_types HO455.out BK451.out (by decide)) (fun _ hk => hk.2) (.int .i64 t452)) (fun _ hk => hk.2) (.slice Ao6 t453.length co6)) (fun _ hk => hk.2) (.slice Ao7 t456.length co7)) (fun _ hk => trivial)), ZR (R_mono (R_far (p := ⟨gb451, 2, none⟩) (R_far (p := ⟨gb451, 1, none⟩) (R_far (p := ⟨gb451, 0, none⟩) (R_types HO458.out BK451.out (by decide)) (fun _ hk => hk.2) (.int .i64 t452)) (fun _ hk => hk.2) (.slice Ao6 t453.length co6)) (fun _ hk => hk.2) (.slice Ao7 t456.length co7)) (fun _ hk => trivial)), Zs⟩
def impl_EncodeAll.l0 : Nat → List Int → List (S42) → Int → Int → Option (List Int)
 | 0, _, _, _, _ => none
 | k + 1, x3, x11, x12, x13 => if x13 < x12 then (if 0 ≤ x13 then (if x13 < (x11.length : Int) then ((impl_isRecord.f ((rd_T42 x11 x13).f0) ((rd_T42 x11 x13).f1) ((rd_T42 x11 x13).f2)).bind fun t553 => (if t553 = true then ((impl_encode.f k ((rd_T42 x11 x13).f0) ((rd_T42 x11 x13).f1) ((rd_T42 x11 x13).f2)).bind fun t554 => ((impl_putVar.f k (IntKind.u64.wrap ((t554.length : Int)))).bind fun t557 => (if x3.length + t557.length < 140737488355328 then ((some (x3 ++ t557 : List Int)).bind fun y560 => (if y560.length + t554.length < 140737488355328 then (impl_EncodeAll.l0 k (y560 ++ t554) x11 x12 (wrap64 (x13 + 1))) else (none))) else (none)))) else (some ([] : List Int)))) else (none)) else (none)) else (if (x3.length : Int) > 4000 then (some ([] : List Int)) else (some x3))
def impl_EncodeAll.f (k : Nat) (l0 : List (S42)) : Option (List Int) := if (l0.length : Int) > 100 then (some ([] : List Int)) else (impl_EncodeAll.l0 k (([] : List Int)) l0 (l0.length : Int) 0)
set_option maxHeartbeats 8000000 in
set_option maxRecDepth 100000 in
theorem impl_EncodeAll.calls (k : Nat) (A0 : Option Addr) (c0 : Nat) (l0 : List (S42)) (r : List Int) (w : World) (hr0 : Kd.C k42 w A0 l0.length l0) (hc0 : l0.length ≤ c0) (h : impl_EncodeAll.f k l0 = some r) :
  Calls Try.prog 38 #[.slice A0 l0.length c0] w fun e w' => ∃ v0_ : Value, e = .returned (v0_) ∧ Kd.R (Kd.int .u8) 5 w' w.heap.size (fun _ => True) v0_ r ∧ Below w.heap.size w w' := by
 have hu42 := Try.underlying42
 have HR0 := Zh hr0
 have HC0 := Zh hc0
 clear hr0 hc0
 have HB := Zh (Below.refl w.heap.size w)
 have H : (if (l0.length : Int) > 100 then (some ([] : List Int)) else (impl_EncodeAll.l0 k (([] : List Int)) l0 (l0.length : Int) 0)) = some r := h
 clear h
 by_cases c2 : (l0.length : Int) > 100
 ·
  rw [if_pos c2] at H
  have c2b0 : decide (100 < (l0.length : Int)) = true := decide_eq_true c2
  have c2b1 : decide (100 < l0.length) = true := decide_eq_true (by omega)
  clear c2
  obtain rfl := Option.some.inj H
  go_enter Try.func38, Try.ntmps38
  go_wp2
  go_ret
  exact ⟨_, ZE, by first | exact R_nil _ _ _ _ _ | exact N_nil _ _ _ _ _ | exact V_nil _ _ _ _ _ | exact Q_nil _ _ _ _ _ | exact S_nil _ _ _ _ _, Zs⟩
 rw [if_neg c2] at H
 have c2b0 : decide (100 < (l0.length : Int)) = false := decide_eq_false c2
 have c2b1 : decide (100 < l0.length) = false := decide_eq_false (by omega)
 clear c2
 obtain ⟨y548, hy548⟩ : ∃ y_ : List Int, y_ = (([] : List Int)) := ⟨_, rfl⟩
 replace H : (impl_EncodeAll.l0 k y548 l0 (l0.length : Int) 0) = some r := by first | (rw [hy548]; with_reducible exact H) | (have H2_ := (Option.bind_some _ _).symm.trans H; rw [hy548]; with_reducible exact H2_) | (have H2_ := (Option.bind_some _ _).symm.trans H; with_reducible exact H2_) | with_reducible exact H | (rw [hy548]; exact H) | exact H
 have Ny548 := Zh hy548
 clear hy548
 have H' := Zh H
 clear H
 go_enter Try.func38, Try.ntmps38
 go_wp2_with (first | ((with_reducible refine gate_dst (N := 10) rfl ?_); refine R_lit (Kd.int .u8) _ 5 ?hg (N := 10) ?hd (xs := ([] : List Int)) (inner := []) (ok := fun _ => True) (okp := fun _ => True) ?hr ?hp (fun _ hk => hk) trivial (Below.refl _ _) (Nat.le_refl _) (by simp) ?_; (case hd => rfl); (case hg => rfl); (case hr => first | (go_simp; done) | (go_simp; rfl)); (case hp => exact (Reps.none _ _)); intro v549 w3 ho4 hb hg_ hnew_; clear hg_ hnew_; (first | rw [← Ny548.out] at ho4 | (simp only [Int.reduceToNat] at ho4; rw [← Ny548.out] at ho4)); have HO550 := Zh (R_lower ho4 (below_size Zs)); replace HB := Zh (Zl Zs hb); clear hb ho4))
 go_loopg [3, 13] k (fun kq v3 v13 w' => ∃ (x3_1 : List Int) (x13_1 : Int), v13 = .int .i64 x13_1 ∧ Aside0 (impl_EncodeAll.l0 kq x3_1 l0 (l0.length : Int) x13_1 = some r) ∧ Aside0 (kq ≤ k) ∧ Aside0 (Kd.R (Kd.int .u8) 5 w' w.heap.size (fun _ => True) v3 x3_1) ∧ Aside0 (Below w.heap.size w w'))
 case atStart => exact ⟨(y548), (0), (by first | rfl | (simp; done) | (simp [*]; done)), H', ⟨Nat.le_refl _⟩, ⟨ZR HO550.out⟩, ⟨Zs⟩⟩
 case round =>
  clear H'
  try clear c2
  try clear c2b0
  try clear c2b1
  try clear p2
  try clear c3
  obtain ⟨x3_1, x13_1, rfl, HA, HK1, HO_3, HB⟩ := hrel
  cases gk with
  | zero => exact absurd HA.out (by simp [impl_EncodeAll.l0])
  | succ k1 =>
   have H := HA.out
   clear HA
   simp only [impl_EncodeAll.l0] at H
   by_cases c5 : x13_1 < (l0.length : Int)
   ·
    rw [if_pos c5] at H
    have c5b0 : decide (x13_1 < (l0.length : Int)) = true := decide_eq_true c5
    clear c5
    by_cases c6 : 0 ≤ x13_1
    ·
     rw [if_pos c6] at H
     have c6b0 : decide (0 ≤ x13_1) = true := decide_eq_true c6
     clear c6
     by_cases c7 : x13_1 < (l0.length : Int)
     ·
      rw [if_pos c7] at H
      have c7b0 : decide (x13_1 < (l0.length : Int)) = true := decide_eq_true c7
      clear c7
      replace H := Option.bind_eq_some_iff.mp H
      obtain ⟨t553, A80, H⟩ := H
      replace H : (if t553 = true then ((impl_encode.f k1 ((rd_T42 l0 x13_1).f0) ((rd_T42 l0 x13_1).f1) ((rd_T42 l0 x13_1).f2)).bind fun t554 => ((impl_putVar.f k1 (IntKind.u64.wrap ((t554.length : Int)))).bind fun t557 => (if x3_1.length + t557.length < 140737488355328 then ((some (x3_1 ++ t557 : List Int)).bind fun y560 => (if y560.length + t554.length < 140737488355328 then (impl_EncodeAll.l0 k1 (y560 ++ t554) l0 (l0.length : Int) (wrap64 (x13_1 + 1))) else (none))) else (none)))) else (some ([] : List Int))) = some r := H
      have A8 := Zh A80
      clear A80
      by_cases c9 : t553 = true
      ·
       subst c9
       have H1 : ((impl_encode.f k1 ((rd_T42 l0 x13_1).f0) ((rd_T42 l0 x13_1).f1) ((rd_T42 l0 x13_1).f2)).bind fun t554 => ((impl_putVar.f k1 (IntKind.u64.wrap ((t554.length : Int)))).bind fun t557 => (if x3_1.length + t557.length < 140737488355328 then ((some (x3_1 ++ t557 : List Int)).bind fun y560 => (if y560.length + t554.length < 140737488355328 then (impl_EncodeAll.l0 k1 (y560 ++ t554) l0 (l0.length : Int) (wrap64 (x13_1 + 1))) else (none))) else (none)))) = some r := by rw [if_pos rfl] at H; exact H
       clear H
       have H := H1
       clear H1
       replace H := Option.bind_eq_some_iff.mp H
       obtain ⟨t554, A100, H⟩ := H
       replace H : ((impl_putVar.f k1 (IntKind.u64.wrap ((t554.length : Int)))).bind fun t557 => (if x3_1.length + t557.length < 140737488355328 then ((some (x3_1 ++ t557 : List Int)).bind fun y560 => (if y560.length + t554.length < 140737488355328 then (impl_EncodeAll.l0 k1 (y560 ++ t554) l0 (l0.length : Int) (wrap64 (x13_1 + 1))) else (none))) else (none))) = some r := H
       have A10 := Zh A100
       clear A100
       replace H := Option.bind_eq_some_iff.mp H
       obtain ⟨t557, A110, H⟩ := H
       replace H : (if x3_1.length + t557.length < 140737488355328 then ((some (x3_1 ++ t557 : List Int)).bind fun y560 => (if y560.length + t554.length < 140737488355328 then (impl_EncodeAll.l0 k1 (y560 ++ t554) l0 (l0.length : Int) (wrap64 (x13_1 + 1))) else (none))) else (none)) = some r := H
       have A11 := Zh A110
       clear A110
       by_cases c12 : x3_1.length + t557.length < 140737488355328
       ·
        rw [if_pos c12] at H
        have LMc12 := Zh c12
        clear c12
        obtain ⟨y560, hy560⟩ : ∃ y_ : List Int, y_ = (x3_1 ++ t557) := ⟨_, rfl⟩
        replace H : (if y560.length + t554.length < 140737488355328 then (impl_EncodeAll.l0 k1 (y560 ++ t554) l0 (l0.length : Int) (wrap64 (x13_1 + 1))) else (none)) = some r := by first | (rw [hy560]; with_reducible exact H) | (have H2_ := (Option.bind_some _ _).symm.trans H; rw [hy560]; with_reducible exact H2_) | (have H2_ := (Option.bind_some _ _).symm.trans H; with_reducible exact H2_) | with_reducible exact H | (rw [hy560]; exact H) | exact H
        have Ny560 := Zh hy560
        clear hy560
        by_cases c13 : y560.length + t554.length < 140737488355328
        ·
         rw [if_pos c13] at H
         have LMc13 := Zh c13
         clear c13
         obtain ⟨y563, hy563⟩ : ∃ y_ : List Int, y_ = (y560 ++ t554) := ⟨_, rfl⟩
         replace H : (impl_EncodeAll.l0 k1 y563 l0 (l0.length : Int) (wrap64 (x13_1 + 1))) = some r := by first | (rw [hy563]; with_reducible exact H) | (have H2_ := (Option.bind_some _ _).symm.trans H; rw [hy563]; with_reducible exact H2_) | (have H2_ := (Option.bind_some _ _).symm.trans H; with_reducible exact H2_) | with_reducible exact H | (rw [hy563]; exact H) | exact H
         have Ny563 := Zh hy563
         clear hy563
         have H' := Zh H
         clear H
         have p551 : 0 ≤ (x13_1 : Int) := Zo
         have q551 : x13_1 < (l0.length : Int) := Zo
         obtain ⟨ad551, A551_1, c551_1, A551_2, c551_2, e551, hx551_0, hx551_1, hx551_2, hl551_1, hi551_1, hl551_2, hi551_2⟩ := at_T42 HR0.out x13_1 p551 q551
         cases e551
         replace hx551_0 := Zc HB.out hx551_0
         replace hx551_1 := Zc HB.out hx551_1
         replace hx551_2 := Zc HB.out hx551_2
         have HR551_1 := Zh hi551_1
         have HC551_1 := Zh hl551_1
         clear hi551_1 hl551_1
         have HR551_2 := Zh hi551_2
         have HC551_2 := Zh hl551_2
         clear hi551_2 hl551_2
         replace p551 := eq_true p551
         replace q551 := eq_true q551
         go_wp2_with (first | ((with_reducible refine gate_dst (N := 5) rfl ?_); refine box_event ?hg (N := 5) ?hd (cs := #[.int .i64 0, .slice none 0 0, .slice none 0 0]) (t := 42) ?hr ?_; (case hd => rfl); (case hg => rfl); (case hr => first | (go_simp; done) | (go_simp; rfl)); intro gb552 hg w14 hbox hb; replace HO_3 := Zh (R_below (ZR HO_3.out) hb); have BK552 := Zh (hbox); have GW552 := Zh ((by rw [hg]; exact (below_size Zs) : w.heap.size ≤ gb552)); have GE552 := Zh ((by rw [hg]; exact (below_size Zs) : w.heap.size ≤ gb552)); replace HB := Zh (Zl Zs hb); clear hb hbox hg; have hcz15_0 : w14.cell? ⟨gb552, 0, none⟩ = some (.int .i64 0) := (blk_cell BK552.out 0).trans rfl; have hcz15_1 : w14.cell? ⟨gb552, 1, none⟩ = some (.slice none 0 0) := (blk_cell BK552.out 1).trans rfl; have hcz15_2 : w14.cell? ⟨gb552, 2, none⟩ = some (.slice none 0 0) := (blk_cell BK552.out 2).trans rfl; have hfz15_0 := Zn BK552.out 0; have hfz15_1 := Zn BK552.out 1; have hfz15_2 := Zn BK552.out 2) | ((with_reducible refine gate_callee (f := 56) rfl ?_); refine ZG (some 18) Try.func56 #[.agg #[.int .i64 ((rd_T42 l0 x13_1).f0), .slice A551_1 ((rd_T42 l0 x13_1).f1).length c551_1, .slice A551_2 ((rd_T42 l0 x13_1).f2).length c551_2]] rfl ?_; (with_reducible refine (impl_isRecord.calls ((rd_T42 l0 x13_1).f0) _ _ ((rd_T42 l0 x13_1).f1) _ _ ((rd_T42 l0 x13_1).f2) true _ ?side1 ?side2 ?side3 ?side4 A8.out).mono ?_); (case side1 => exact C_below HR551_1.out Zs); (case side2 => exact HC551_1.out); (case side3 => exact C_below HR551_2.out Zs); (case side4 => exact HC551_2.out); rintro e w16 ⟨rfl, hb⟩; refine ⟨_, rfl, ?_⟩; replace HO_3 := Zh (R_below (ZR (R_mono (R_far (p := ⟨gb552, 2, none⟩) (R_far (p := ⟨gb552, 1, none⟩) (R_far (p := ⟨gb552, 0, none⟩) (R_types HO_3.out BK552.out (by decide)) (fun _ hk => hk.2) (.int .i64 ((rd_T42 l0 x13_1).f0))) (fun _ hk => hk.2) (.slice A551_1 ((rd_T42 l0 x13_1).f1).length c551_1)) (fun _ hk => hk.2) (.slice A551_2 ((rd_T42 l0 x13_1).f2).length c551_2)) (fun _ h_ => h_.1))) hb); replace BK552 := Zh (blk_below (g := gb552) (o := .cells #[.int .i64 ((rd_T42 l0 x13_1).f0), .slice A551_1 ((rd_T42 l0 x13_1).f1).length c551_1, .slice A551_2 ((rd_T42 l0 x13_1).f2).length c551_2] 42 (0, 0)) (by (with_reducible repeat (first | refine Za ?_ _ | refine Zb ?_ | refine blk_alloc ?_ _)); refine blk_put (cs := #[.int .i64 ((rd_T42 l0 x13_1).f0), .slice A551_1 ((rd_T42 l0 x13_1).f1).length c551_1, .slice none 0 0]) ?_ 2 _ rfl; (with_reducible repeat (first | refine Za ?_ _ | refine Zb ?_ | refine blk_alloc ?_ _)); refine blk_put (cs := #[.int .i64 ((rd_T42 l0 x13_1).f0), .slice none 0 0, .slice none 0 0]) ?_ 1 _ rfl; (with_reducible repeat (first | refine Za ?_ _ | refine Zb ?_ | refine blk_alloc ?_ _)); refine blk_put (cs := #[.int .i64 0, .slice none 0 0, .slice none 0 0]) ?_ 0 _ rfl; (with_reducible repeat (first | refine Za ?_ _ | refine Zb ?_ | refine blk_alloc ?_ _)); exact BK552.out) hb); replace HB := Zh (Zl Zs hb); (try clear hb); (try clear hb2); (try clear hk); (try clear hi); have hcz17_0 : w16.cell? ⟨gb552, 0, none⟩ = some (.int .i64 ((rd_T42 l0 x13_1).f0)) := (blk_cell BK552.out 0).trans rfl; have hcz17_1 : w16.cell? ⟨gb552, 1, none⟩ = some (.slice A551_1 ((rd_T42 l0 x13_1).f1).length c551_1) := (blk_cell BK552.out 1).trans rfl; have hcz17_2 : w16.cell? ⟨gb552, 2, none⟩ = some (.slice A551_2 ((rd_T42 l0 x13_1).f2).length c551_2) := (blk_cell BK552.out 2).trans rfl; have hfz17_0 := Zn BK552.out 0; have hfz17_1 := Zn BK552.out 1; have hfz17_2 := Zn BK552.out 2) | ((with_reducible refine gate_callee (f := 60) rfl ?_); refine ZG (some 21) Try.func60 #[.agg #[.int .i64 ((rd_T42 l0 x13_1).f0), .slice A551_1 ((rd_T42 l0 x13_1).f1).length c551_1, .slice A551_2 ((rd_T42 l0 x13_1).f2).length c551_2]] rfl ?_; (with_reducible refine (impl_encode.calls k1 ((rd_T42 l0 x13_1).f0) _ _ ((rd_T42 l0 x13_1).f1) _ _ ((rd_T42 l0 x13_1).f2) t554 _ ?side1 ?side2 ?side3 ?side4 A10.out).mono ?_); (case side1 => repeat (first | exact (C_below HR551_1.out HB.out) | (with_reducible refine C_alloc ?_ _) | (with_reducible refine C_drewN ?_ _) | (with_reducible refine C_drew ?_))); (case side2 => exact HC551_1.out); (case side3 => repeat (first | exact (C_below HR551_2.out HB.out) | (with_reducible refine C_alloc ?_ _) | (with_reducible refine C_drewN ?_ _) | (with_reducible refine C_drew ?_))); (case side4 => exact HC551_2.out); rintro e w18 ⟨v555, rfl, ho0, hb⟩; refine ⟨_, rfl, ?_⟩; have HO556 := Zh (R_lower (R_new' ho0 (R_lt (ZR HO_3.out))) (below_size Zs)); replace HO_3 := Zh (R_elder' (ZR HO_3.out) (R_base ho0) hb); replace BK552 := Zh (blk_below (g := gb552) (o := .cells #[.int .i64 ((rd_T42 l0 x13_1).f0), .slice A551_1 ((rd_T42 l0 x13_1).f1).length c551_1, .slice A551_2 ((rd_T42 l0 x13_1).f2).length c551_2] 42 (0, 0)) Zk hb); replace HB := Zh (Zl Zs hb); (try clear hb); (try clear hb2); (try clear hk); (try clear hi); (try clear ho0); obtain ⟨Ao19, co19, eo19⟩ := R_slice HO556.out; subst eo19) | ((with_reducible refine gate_callee (f := 48) rfl ?_); refine ZG (some 26) Try.func48 #[.int .u64 (IntKind.u64.wrap ((t554.length : Int)))] rfl ?_; (with_reducible refine (impl_putVar.calls k1 (IntKind.u64.wrap ((t554.length : Int))) t557 _ A11.out).mono ?_); rintro e w20 ⟨v558, rfl, ho0, hb⟩; refine ⟨_, rfl, ?_⟩; have HO559 := Zh (R_lower (R_new' (R_new' ho0 (R_lt (ZR HO_3.out))) (R_lt (ZR HO556.out))) (below_size Zs)); replace HO_3 := Zh (R_elder' (ZR HO_3.out) (R_base ho0) hb); replace HO556 := Zh (R_elder' (ZR HO556.out) (R_base ho0) hb); replace BK552 := Zh (blk_below (g := gb552) (o := .cells #[.int .i64 ((rd_T42 l0 x13_1).f0), .slice A551_1 ((rd_T42 l0 x13_1).f1).length c551_1, .slice A551_2 ((rd_T42 l0 x13_1).f2).length c551_2] 42 (0, 0)) Zk hb); replace HB := Zh (Zl Zs hb); (try clear hb); (try clear hb2); (try clear hk); (try clear hi); (try clear ho0); obtain ⟨Ao22, co22, eo22⟩ := R_slice HO559.out; subst eo22) | ((with_reducible refine gate_builtin (b := .append) (xs := #[.tmp 22, .tmp 26]) rfl ?_); at_builtin; refine R_append_rows (Kd.int .u8) (w0 := w) w.heap.size rfl (.tmp 22) (.tmp 26) 24 5 (.int .u8 0) 1 rfl Try.underlying24 info5 rfl (by decide) (by omega) u3 x3_1 t557 _ _ _ (fun k_ => some k_ ≠ (.slice Ao19 t554.length co19 : Value).ownBlock ∧ some k_ ≠ (.slice Ao22 t557.length co22 : Value).ownBlock) (fun _ => False) rfl rfl ?aO ?aR (fun _ _ h => h) (fun _ h => h.elim) ?aF ?aB ?aS ?aL ?_; (case aR => repeat (first | exact (R_reads' HO559.out).2.2 | (with_reducible refine C_alloc ?_ _) | (with_reducible refine C_drewN ?_ _) | (with_reducible refine C_drew ?_))); (case aB => exact Zs); (case aF => exact (fun k_ hk => ⟨Kd.fresh' (R_lt (ZR HO556.out)) k_ hk, Kd.fresh' (R_lt (ZR HO559.out)) k_ hk⟩)); (case aO => exact (ZR (R_mono HO_3.out (fun _ hk => ⟨hk.1.2, hk.2⟩)))); (case aS => exact (below_size Zs)); (case aL => have := LMc12.out; omega); intro v561 w21 ho hb hg hat; rw [← Ny560.out] at ho; have n0_ := Zh (blk_grown (g := gb552) (o := .cells #[.int .i64 ((rd_T42 l0 x13_1).f0), .slice A551_1 ((rd_T42 l0 x13_1).f1).length c551_1, .slice A551_2 ((rd_T42 l0 x13_1).f2).length c551_2] 42 (0, 0)) Zk hg (R_ne HO_3.out BK552.out (by decide))); have n1_ := Zh (R_after (ok := (fun k_ => some k_ ≠ (.slice Ao22 t557.length co22 : Value).ownBlock)) (ZR (R_mono HO556.out (fun _ hk => ⟨hk.2, hk.1.2⟩))) hg hat); have n2_ := Zh (R_after (ok := (fun k_ => some k_ ≠ (.slice Ao19 t554.length co19 : Value).ownBlock)) (ZR (R_mono HO559.out (fun _ hk => ⟨hk.2, hk.1.2⟩))) hg hat); have n3_ := Zh (hb); have n4_ := Zh (ho); clear BK552; clear HO556; clear HO559; clear HB; clear HO_3; have BK552 := n0_; have HO556 := n1_; have HO559 := n2_; have HB := n3_; have HO562 := n4_; clear n0_ n1_ n2_ n3_ n4_; clear ho hb hg hat) | ((with_reducible refine gate_builtin (b := .append) (xs := #[.tmp 27, .tmp 28]) rfl ?_); at_builtin; refine R_append_rows (Kd.int .u8) (w0 := w) w.heap.size rfl (.tmp 27) (.tmp 28) 24 5 (.int .u8 0) 1 rfl Try.underlying24 info5 rfl (by decide) (by omega) v561 y560 t554 _ _ _ (fun k_ => some k_ ≠ (.slice Ao19 t554.length co19 : Value).ownBlock ∧ some k_ ≠ (.slice Ao22 t557.length co22 : Value).ownBlock) (fun _ => False) rfl rfl ?aO ?aR (fun _ _ h => h) (fun _ h => h.elim) ?aF ?aB ?aS ?aL ?_; (case aR => repeat (first | exact (R_reads' HO556.out).2.2 | (with_reducible refine C_alloc ?_ _) | (with_reducible refine C_drewN ?_ _) | (with_reducible refine C_drew ?_))); (case aB => exact Zs); (case aF => exact (fun k_ hk => ⟨Kd.fresh' (R_lt (ZR HO556.out)) k_ hk, Kd.fresh' (R_lt (ZR HO559.out)) k_ hk⟩)); (case aO => exact (ZR HO562.out)); (case aS => exact (below_size Zs)); (case aL => have := LMc13.out; omega); intro v564 w23 ho hb hg hat; rw [← Ny563.out] at ho; have n0_ := Zh (blk_grown (g := gb552) (o := .cells #[.int .i64 ((rd_T42 l0 x13_1).f0), .slice A551_1 ((rd_T42 l0 x13_1).f1).length c551_1, .slice A551_2 ((rd_T42 l0 x13_1).f2).length c551_2] 42 (0, 0)) Zk hg (R_ne HO562.out BK552.out (by decide))); have n1_ := Zh (R_after (ok := (fun k_ => some k_ ≠ (.slice Ao22 t557.length co22 : Value).ownBlock)) (ZR HO556.out) hg hat); have n2_ := Zh (R_after (ok := (fun k_ => some k_ ≠ (.slice Ao19 t554.length co19 : Value).ownBlock)) (ZR HO559.out) hg hat); have n3_ := Zh (hb); have n4_ := Zh (ho); clear BK552; clear HO556; clear HO559; clear HB; clear HO562; have BK552 := n0_; have HO556 := n1_; have HO559 := n2_; have HB := n3_; have HO565 := n4_; clear n0_ n1_ n2_ n3_ n4_; clear ho hb hg hat))
         go_roundg k1
         case measure => have := HK1.out; omega
         case rel => exact ⟨(y563), (wrap64 (x13_1 + 1)), (by first | rfl | (simp; done) | (simp [*]; done)), H', ⟨by have := HK1.out; omega⟩, ⟨ZR (R_mono HO565.out (fun _ hk => trivial))⟩, ⟨Zs⟩⟩
        rw [if_neg c13] at H
        exact absurd H (by simp)
       rw [if_neg c12] at H
       exact absurd H (by simp)
      replace c9 := Bool.eq_false_iff.mpr c9
      subst c9
      have H1 : (some ([] : List Int)) = some r := by rw [if_neg (show ¬ (false = true) by decide)] at H; exact H
      clear H
      have H := H1
      clear H1
      obtain rfl := Option.some.inj H
      have p551 : 0 ≤ (x13_1 : Int) := Zo
      have q551 : x13_1 < (l0.length : Int) := Zo
      obtain ⟨ad551, A551_1, c551_1, A551_2, c551_2, e551, hx551_0, hx551_1, hx551_2, hl551_1, hi551_1, hl551_2, hi551_2⟩ := at_T42 HR0.out x13_1 p551 q551
      cases e551
      replace hx551_0 := Zc HB.out hx551_0
      replace hx551_1 := Zc HB.out hx551_1
      replace hx551_2 := Zc HB.out hx551_2
      have HR551_1 := Zh hi551_1
      have HC551_1 := Zh hl551_1
      clear hi551_1 hl551_1
      have HR551_2 := Zh hi551_2
      have HC551_2 := Zh hl551_2
      clear hi551_2 hl551_2
      replace p551 := eq_true p551
      replace q551 := eq_true q551
      go_wp2_with (first | ((with_reducible refine gate_dst (N := 5) rfl ?_); refine box_event ?hg (N := 5) ?hd (cs := #[.int .i64 0, .slice none 0 0, .slice none 0 0]) (t := 42) ?hr ?_; (case hd => rfl); (case hg => rfl); (case hr => first | (go_simp; done) | (go_simp; rfl)); intro gb552 hg w24 hbox hb; replace HO_3 := Zh (R_below (ZR HO_3.out) hb); have BK552 := Zh (hbox); have GW552 := Zh ((by rw [hg]; exact (below_size Zs) : w.heap.size ≤ gb552)); have GE552 := Zh ((by rw [hg]; exact (below_size Zs) : w.heap.size ≤ gb552)); replace HB := Zh (Zl Zs hb); clear hb hbox hg; have hcz25_0 : w24.cell? ⟨gb552, 0, none⟩ = some (.int .i64 0) := (blk_cell BK552.out 0).trans rfl; have hcz25_1 : w24.cell? ⟨gb552, 1, none⟩ = some (.slice none 0 0) := (blk_cell BK552.out 1).trans rfl; have hcz25_2 : w24.cell? ⟨gb552, 2, none⟩ = some (.slice none 0 0) := (blk_cell BK552.out 2).trans rfl; have hfz25_0 := Zn BK552.out 0; have hfz25_1 := Zn BK552.out 1; have hfz25_2 := Zn BK552.out 2) | ((with_reducible refine gate_callee (f := 56) rfl ?_); refine ZG (some 18) Try.func56 #[.agg #[.int .i64 ((rd_T42 l0 x13_1).f0), .slice A551_1 ((rd_T42 l0 x13_1).f1).length c551_1, .slice A551_2 ((rd_T42 l0 x13_1).f2).length c551_2]] rfl ?_; (with_reducible refine (impl_isRecord.calls ((rd_T42 l0 x13_1).f0) _ _ ((rd_T42 l0 x13_1).f1) _ _ ((rd_T42 l0 x13_1).f2) false _ ?side1 ?side2 ?side3 ?side4 A8.out).mono ?_); (case side1 => exact C_below HR551_1.out Zs); (case side2 => exact HC551_1.out); (case side3 => exact C_below HR551_2.out Zs); (case side4 => exact HC551_2.out); rintro e w26 ⟨rfl, hb⟩; refine ⟨_, rfl, ?_⟩; replace HO_3 := Zh (R_below (ZR (R_mono (R_far (p := ⟨gb552, 2, none⟩) (R_far (p := ⟨gb552, 1, none⟩) (R_far (p := ⟨gb552, 0, none⟩) (R_types HO_3.out BK552.out (by decide)) (fun _ hk => hk.2) (.int .i64 ((rd_T42 l0 x13_1).f0))) (fun _ hk => hk.2) (.slice A551_1 ((rd_T42 l0 x13_1).f1).length c551_1)) (fun _ hk => hk.2) (.slice A551_2 ((rd_T42 l0 x13_1).f2).length c551_2)) (fun _ h_ => h_.1))) hb); replace BK552 := Zh (blk_below (g := gb552) (o := .cells #[.int .i64 ((rd_T42 l0 x13_1).f0), .slice A551_1 ((rd_T42 l0 x13_1).f1).length c551_1, .slice A551_2 ((rd_T42 l0 x13_1).f2).length c551_2] 42 (0, 0)) (by (with_reducible repeat (first | refine Za ?_ _ | refine Zb ?_ | refine blk_alloc ?_ _)); refine blk_put (cs := #[.int .i64 ((rd_T42 l0 x13_1).f0), .slice A551_1 ((rd_T42 l0 x13_1).f1).length c551_1, .slice none 0 0]) ?_ 2 _ rfl; (with_reducible repeat (first | refine Za ?_ _ | refine Zb ?_ | refine blk_alloc ?_ _)); refine blk_put (cs := #[.int .i64 ((rd_T42 l0 x13_1).f0), .slice none 0 0, .slice none 0 0]) ?_ 1 _ rfl; (with_reducible repeat (first | refine Za ?_ _ | refine Zb ?_ | refine blk_alloc ?_ _)); refine blk_put (cs := #[.int .i64 0, .slice none 0 0, .slice none 0 0]) ?_ 0 _ rfl; (with_reducible repeat (first | refine Za ?_ _ | refine Zb ?_ | refine blk_alloc ?_ _)); exact BK552.out) hb); replace HB := Zh (Zl Zs hb); (try clear hb); (try clear hb2); (try clear hk); (try clear hi)))
      go_ret
      exact ⟨_, ZE, by first | exact R_nil _ _ _ _ _ | exact N_nil _ _ _ _ _ | exact V_nil _ _ _ _ _ | exact Q_nil _ _ _ _ _ | exact S_nil _ _ _ _ _, Zs⟩
     rw [if_neg c7] at H
     exact absurd H (by simp)
    rw [if_neg c6] at H
    exact absurd H (by simp)
   rw [if_neg c5] at H
   have c5b0 : decide (x13_1 < (l0.length : Int)) = false := decide_eq_false c5
   clear c5
   by_cases c27 : (x3_1.length : Int) > 4000
   ·
    rw [if_pos c27] at H
    have c27b0 : decide (4000 < (x3_1.length : Int)) = true := decide_eq_true c27
    have c27b1 : decide (4000 < x3_1.length) = true := decide_eq_true (by omega)
    clear c27
    obtain rfl := Option.some.inj H
    obtain ⟨Ao28, co28, eo28⟩ := R_slice HO_3.out
    subst eo28
    go_wp2
    go_ret
    exact ⟨_, ZE, by first | exact R_nil _ _ _ _ _ | exact N_nil _ _ _ _ _ | exact V_nil _ _ _ _ _ | exact Q_nil _ _ _ _ _ | exact S_nil _ _ _ _ _, Zs⟩
   rw [if_neg c27] at H
   have c27b0 : decide (4000 < (x3_1.length : Int)) = false := decide_eq_false c27
   have c27b1 : decide (4000 < x3_1.length) = false := decide_eq_false (by omega)
   clear c27
   obtain rfl := Option.some.inj H
   obtain ⟨Ao29, co29, eo29⟩ := R_slice HO_3.out
   subst eo29
   go_wp2
   go_ret
   exact ⟨_, ZE, ZR HO_3.out, Zs⟩
mutual
def impl_DecodeAll.l0 : Nat → List Int → List (S42) → Int → Option ((List (S42)) × Bool)
 | 0, _, _, _ => none
 | k + 1, x0, x4, x5 => if x5 < (x0.length : Int) then ((impl_getVar.f k x0 x5).bind fun bt623 => (if bt623.2.2 = true then (if bt623.1 > (IntKind.u64.wrap (wrap64 ((x0.length : Int) - bt623.2.1))) then (impl_DecodeAll.j1 k x0 x4 bt623.1 bt623.2.1 true) else (impl_DecodeAll.j1 k x0 x4 bt623.1 bt623.2.1 ((x4.length : Int) == 100))) else (impl_DecodeAll.j1 k x0 x4 bt623.1 bt623.2.1 true))) else (some (x4, true))
def impl_DecodeAll.j1 : Nat → List Int → List (S42) → Int → Int → Bool → Option ((List (S42)) × Bool)
 | 0, _, _, _, _, _ => none
 | k + 1, x0, x4, x6, x7, x41 => if x41 = true then (some (([] : List (S42)), false)) else (if 0 ≤ x7 then (if x7 ≤ (wrap64 (x7 + (wrap64 (x6)))) then (if (wrap64 (x7 + (wrap64 (x6)))) ≤ (x0.length : Int) then ((impl_decode.f k ((x0.take ((wrap64 (x7 + (wrap64 (x6)))) : Int).toNat).drop (x7 : Int).toNat)).bind fun bt627 => (if bt627.2.2.2 = true then (if x4.length < 2513169434916 then (impl_DecodeAll.l0 k x0 (x4 ++ [(⟨bt627.1, bt627.2.1, bt627.2.2.1⟩ : S42)]) (wrap64 (x7 + (wrap64 (x6))))) else (none)) else (some (([] : List (S42)), false)))) else (none)) else (none)) else (none))
end
def impl_DecodeAll.f (k : Nat) (l0 : List Int) : Option ((List (S42)) × Bool) := if (l0.length : Int) > 4000 then (some (([] : List (S42)), false)) else (impl_DecodeAll.l0 k l0 (([] : List (S42))) 0)
set_option maxHeartbeats 8000000 in
set_option maxRecDepth 100000 in
theorem impl_DecodeAll.calls (k : Nat) (A0 : Option Addr) (c0 : Nat) (l0 : List Int) (r1 : List (S42)) (r2 : Bool) (w : World) (hr0 : Kd.C (Kd.int .u8) w A0 l0.length l0) (hc0 : l0.length ≤ c0) (h : impl_DecodeAll.f k l0 = some (r1, r2)) :
  Calls Try.prog 42 #[.slice A0 l0.length c0] w fun e w' => ∃ v0_ : Value, e = .returned (.tuple #[v0_, .bool r2]) ∧ Kd.S k42 42 w' w.heap.size (fun _ => True) v0_ r1 ∧ Below w.heap.size w w' := by
 have hu42 := Try.underlying42
 have HR0 := Zh hr0
 have HC0 := Zh hc0
 clear hr0 hc0
 have HB := Zh (Below.refl w.heap.size w)
 have H : (if (l0.length : Int) > 4000 then (some (([] : List (S42)), false)) else (impl_DecodeAll.l0 k l0 (([] : List (S42))) 0)) = some (r1, r2) := h
 clear h
 by_cases c2 : (l0.length : Int) > 4000
 ·
  rw [if_pos c2] at H
  have c2b0 : decide (4000 < (l0.length : Int)) = true := decide_eq_true c2
  have c2b1 : decide (4000 < l0.length) = true := decide_eq_true (by omega)
  clear c2
  simp only [Option.some.injEq, Prod.mk.injEq] at H
  obtain ⟨rfl, rfl⟩ := H
  go_enter Try.func42, Try.ntmps42
  go_wp2
  go_ret2
  exact ⟨_, ZE, by first | exact S_nil _ _ _ _ _ | exact N_nil _ _ _ _ _ | exact V_nil _ _ _ _ _ | exact Q_nil _ _ _ _ _ | exact R_nil _ _ _ _ _, Zs⟩
 rw [if_neg c2] at H
 have c2b0 : decide (4000 < (l0.length : Int)) = false := decide_eq_false c2
 have c2b1 : decide (4000 < l0.length) = false := decide_eq_false (by omega)
 clear c2
 obtain ⟨y620, hy620⟩ : ∃ y_ : List (S42), y_ = (([] : List (S42))) := ⟨_, rfl⟩
 replace H : (impl_DecodeAll.l0 k l0 y620 0) = some (r1, r2) := by first | (rw [hy620]; with_reducible exact H) | (have H2_ := (Option.bind_some _ _).symm.trans H; rw [hy620]; with_reducible exact H2_) | (have H2_ := (Option.bind_some _ _).symm.trans H; with_reducible exact H2_) | with_reducible exact H | (rw [hy620]; exact H) | exact H
 have Ny620 := Zh hy620
 clear hy620
 have H' := Zh H
 clear H
 go_enter Try.func42, Try.ntmps42
 go_wp2_with (first | ((with_reducible refine gate_dst (N := 14) rfl ?_); (try (refine gate_guard (by rfl) ?_; dsimp only)); refine S_lit k42 _ 42 ?hg (N := 14) ?hd (xs := ([] : List (S42))) (inner := []) (ok := fun _ => True) (okp := fun _ => True) ?hr ?hp (fun _ hk => hk) trivial (Below.refl _ _) (Nat.le_refl _) (by simp) ?_; (case hd => rfl); (case hg => rfl); (case hr => first | (go_simp; done) | (go_simp; rfl)); (case hp => exact (Reps.none _ _)); intro v621 w3 ho4 hb hg_ hnew_; clear hg_ hnew_; (first | rw [← Ny620.out] at ho4 | (simp only [Int.reduceToNat] at ho4; rw [← Ny620.out] at ho4)); have HO622 := Zh (S_lower ho4 (below_size Zs)); replace HB := Zh (Zl Zs hb); clear hb ho4))
 go_loopg [4, 5] k (fun kq v4 v5 w' => ∃ (x4_1 : List (S42)) (x5_1 : Int), v5 = .int .i64 x5_1 ∧ Aside0 (impl_DecodeAll.l0 kq l0 x4_1 x5_1 = some (r1, r2)) ∧ Aside0 (kq ≤ k) ∧ Aside0 (Kd.S k42 42 w' w.heap.size (fun _ => True) v4 x4_1) ∧ Aside0 (Below w.heap.size w w'))
 case atStart => exact ⟨(y620), (0), (by first | rfl | (simp; done) | (simp [*]; done)), H', ⟨Nat.le_refl _⟩, ⟨ZS HO622.out⟩, ⟨Zs⟩⟩
 case round =>
  clear H'
  try clear c2
  try clear c2b0
  try clear c2b1
  try clear p2
  try clear c4
  obtain ⟨x4_1, x5_1, rfl, HA, HK1, HO_4, HB⟩ := hrel
  cases gk with
  | zero => exact absurd HA.out (by simp [impl_DecodeAll.l0])
  | succ k1 =>
   have H := HA.out
   clear HA
   simp only [impl_DecodeAll.l0] at H
   by_cases c5 : x5_1 < (l0.length : Int)
   ·
    rw [if_pos c5] at H
    have c5b0 : decide (x5_1 < (l0.length : Int)) = true := decide_eq_true c5
    clear c5
    replace H := Option.bind_eq_some_iff.mp H
    obtain ⟨⟨t623, t624, t625⟩, A60, H⟩ := H
    replace H : (if t625 = true then (if t623 > (IntKind.u64.wrap (wrap64 ((l0.length : Int) - t624))) then (impl_DecodeAll.j1 k1 l0 x4_1 t623 t624 true) else (impl_DecodeAll.j1 k1 l0 x4_1 t623 t624 ((x4_1.length : Int) == 100))) else (impl_DecodeAll.j1 k1 l0 x4_1 t623 t624 true)) = some (r1, r2) := H
    have A6 := Zh A60
    clear A60
    have HC7 := Zh H
    clear H
    go_upto_region 7 with (first | ((with_reducible refine gate_callee (f := 51) rfl ?_); refine ZG (some 22) Try.func51 #[.slice A0 l0.length c0, .int .i64 x5_1] rfl ?_; (with_reducible refine (impl_getVar.calls k1 _ _ l0 x5_1 t623 t624 t625 _ ?side1 ?side2 A6.out).mono ?_); (case side1 => repeat (first | exact (C_below HR0.out HB.out) | (with_reducible refine C_alloc ?_ _) | (with_reducible refine C_drewN ?_ _) | (with_reducible refine C_drew ?_))); (case side2 => exact HC0.out); rintro e w' ⟨rfl, ⟨nd, rfl⟩⟩; refine ⟨_, rfl, ?_⟩))
    (try simp only [Act.put, List.setIfInBounds_toArray, List.set_cons_zero, List.set_cons_succ])
    go_cut [41] (fun v41 wc => ∃ (kq : Nat) (x41_6 : Bool), v41 = .bool x41_6 ∧ Aside0 (impl_DecodeAll.j1 kq l0 x4_1 t623 t624 x41_6 = some (r1, r2)) ∧ Aside0 (kq ≤ k1) ∧ Aside0 (Kd.S k42 42 wc w.heap.size (fun _ => True) u4 x4_1) ∧ Aside0 (Below w.heap.size w wc))
    case first =>
     have H := HC7.out
     clear HC7
     by_cases c8 : t625 = true
     ·
      subst c8
      have H1 : (if t623 > (IntKind.u64.wrap (wrap64 ((l0.length : Int) - t624))) then (impl_DecodeAll.j1 k1 l0 x4_1 t623 t624 true) else (impl_DecodeAll.j1 k1 l0 x4_1 t623 t624 ((x4_1.length : Int) == 100))) = some (r1, r2) := by rw [if_pos rfl] at H; exact H
      clear H
      have H := H1
      clear H1
      by_cases c9 : t623 > (IntKind.u64.wrap (wrap64 ((l0.length : Int) - t624)))
      ·
       rw [if_pos c9] at H
       have c9b0 : decide ((IntKind.u64.wrap (wrap64 ((l0.length : Int) - t624))) < t623) = true := decide_eq_true c9
       clear c9
       (first | rw [c9b0] | (simp only [i64_w, i32_w]; rw [c9b0]) | skip)
       have H' := Zh H
       clear H
       go_wp2
       go_meet
       case rel => exact ⟨_, (true), (by first | rfl | (simp; done) | (simp [*]; done)), H', ⟨by have := HK1.out; first | omega | exact Nat.le_refl _⟩, ⟨ZS HO_4.out⟩, ⟨Zs⟩⟩
      rw [if_neg c9] at H
      have c9b0 : decide ((IntKind.u64.wrap (wrap64 ((l0.length : Int) - t624))) < t623) = false := decide_eq_false c9
      clear c9
      (first | rw [c9b0] | (simp only [i64_w, i32_w]; rw [c9b0]) | skip)
      have H' := Zh H
      clear H
      obtain ⟨Ao10, co10, eo10⟩ := S_slice HO_4.out
      subst eo10
      go_wp2
      go_meet
      case rel => exact ⟨_, (((x4_1.length : Int) == 100)), (by first | rfl | (simp; done) | (simp [*]; done)), H', ⟨by have := HK1.out; first | omega | exact Nat.le_refl _⟩, ⟨ZS HO_4.out⟩, ⟨Zs⟩⟩
     replace c8 := Bool.eq_false_iff.mpr c8
     subst c8
     have H1 : (impl_DecodeAll.j1 k1 l0 x4_1 t623 t624 true) = some (r1, r2) := by rw [if_neg (show ¬ (false = true) by decide)] at H; exact H
     clear H
     have H := H1
     clear H1
     have H' := Zh H
     clear H
     go_wp2
     go_meet
     case rel => exact ⟨_, (true), (by first | rfl | (simp; done) | (simp [*]; done)), H', ⟨by have := HK1.out; first | omega | exact Nat.le_refl _⟩, ⟨ZS HO_4.out⟩, ⟨Zs⟩⟩
    case rest =>
     clear HC7
     try clear c2
     try clear c2b0
     try clear c2b1
     try clear p2
     try clear c4
     try clear c5
     try clear c5b0
     try clear p6
     try clear c8
     try clear c9
     try clear c9b0
     try clear p2
     obtain ⟨kq, x41_6, rfl, HA, HJ6, HO_4, HB⟩ := hcut
     cases kq with
     | zero => exact absurd HA.out (by simp [impl_DecodeAll.j1])
     | succ kj6 =>
      have H := HA.out
      clear HA
      simp only [impl_DecodeAll.j1] at H
      by_cases c11 : x41_6 = true
      ·
       subst c11
       have H1 : (some (([] : List (S42)), false)) = some (r1, r2) := by rw [if_pos rfl] at H; exact H
       clear H
       have H := H1
       clear H1
       simp only [Option.some.injEq, Prod.mk.injEq] at H
       obtain ⟨rfl, rfl⟩ := H
       go_wp2
       go_ret2
       exact ⟨_, ZE, by first | exact S_nil _ _ _ _ _ | exact N_nil _ _ _ _ _ | exact V_nil _ _ _ _ _ | exact Q_nil _ _ _ _ _ | exact R_nil _ _ _ _ _, Zs⟩
      replace c11 := Bool.eq_false_iff.mpr c11
      subst c11
      have H1 : (if 0 ≤ t624 then (if t624 ≤ (wrap64 (t624 + (wrap64 (t623)))) then (if (wrap64 (t624 + (wrap64 (t623)))) ≤ (l0.length : Int) then ((impl_decode.f kj6 ((l0.take ((wrap64 (t624 + (wrap64 (t623)))) : Int).toNat).drop (t624 : Int).toNat)).bind fun bt627 => (if bt627.2.2.2 = true then (if x4_1.length < 2513169434916 then (impl_DecodeAll.l0 kj6 l0 (x4_1 ++ [(⟨bt627.1, bt627.2.1, bt627.2.2.1⟩ : S42)]) (wrap64 (t624 + (wrap64 (t623))))) else (none)) else (some (([] : List (S42)), false)))) else (none)) else (none)) else (none)) = some (r1, r2) := by rw [if_neg (show ¬ (false = true) by decide)] at H; exact H
      clear H
      have H := H1
      clear H1
      by_cases c12 : 0 ≤ t624
      ·
       rw [if_pos c12] at H
       have c12b0 := eq_true c12
       have c12b1 : decide (0 ≤ t624) = true := decide_eq_true c12
       clear c12
       by_cases c13 : t624 ≤ (wrap64 (t624 + (wrap64 (t623))))
       ·
        rw [if_pos c13] at H
        have c13b0 := eq_true c13
        have c13b1 : decide (t624 ≤ (wrap64 (t624 + (wrap64 (t623))))) = true := decide_eq_true c13
        by_cases c14 : (wrap64 (t624 + (wrap64 (t623)))) ≤ (l0.length : Int)
        ·
         rw [if_pos c14] at H
         have c14b0 := eq_true c14
         have c14b1 : decide ((wrap64 (t624 + (wrap64 (t623)))) ≤ (l0.length : Int)) = true := decide_eq_true c14
         replace H := Option.bind_eq_some_iff.mp H
         obtain ⟨⟨t627, t628, t631, t634⟩, A150, H⟩ := H
         replace H : (if t634 = true then (if x4_1.length < 2513169434916 then (impl_DecodeAll.l0 kj6 l0 (x4_1 ++ [(⟨t627, t628, t631⟩ : S42)]) (wrap64 (t624 + (wrap64 (t623))))) else (none)) else (some (([] : List (S42)), false))) = some (r1, r2) := H
         have A15 := Zh A150
         clear A150
         by_cases c16 : t634 = true
         ·
          subst c16
          have H1 : (if x4_1.length < 2513169434916 then (impl_DecodeAll.l0 kj6 l0 (x4_1 ++ [(⟨t627, t628, t631⟩ : S42)]) (wrap64 (t624 + (wrap64 (t623))))) else (none)) = some (r1, r2) := by rw [if_pos rfl] at H; exact H
          clear H
          have H := H1
          clear H1
          by_cases c17 : x4_1.length < 2513169434916
          ·
           rw [if_pos c17] at H
           have LMc17 := Zh c17
           clear c17
           obtain ⟨y636, hy636⟩ : ∃ y_ : List (S42), y_ = (x4_1 ++ [(⟨t627, t628, t631⟩ : S42)]) := ⟨_, rfl⟩
           replace H : (impl_DecodeAll.l0 kj6 l0 y636 (wrap64 (t624 + (wrap64 (t623))))) = some (r1, r2) := by first | (rw [hy636]; with_reducible exact H) | (have H2_ := (Option.bind_some _ _).symm.trans H; rw [hy636]; with_reducible exact H2_) | (have H2_ := (Option.bind_some _ _).symm.trans H; with_reducible exact H2_) | with_reducible exact H | (rw [hy636]; exact H) | exact H
           have Ny636 := Zh hy636
           clear hy636
           have H' := Zh H
           clear H
           obtain ⟨i018, hi018, _, hsz18, _⟩ := info_parts info5
           obtain ⟨A18, hcut18, hA18, hC18⟩ := print_mid_of (P := Try.prog) (Value.int .u8) 0 24 5 .i64 .i64 Try.underlying24 hi018 hsz18 A0 c0 l0 t624 (wrap64 (t624 + (wrap64 (t623)))) (Zo) (by first | omega | exact Zo) (Zo) HC0.out
           have HR626 := Zh (C_of_reads (h1 := fun _ => rfl) (hA18 _ (Kd.reads_of_C HR0.out)))
           have HC626 := Zh hC18
           clear hA18 hC18 hi018 hsz18
           go_wp2_with (first | ((with_reducible refine gate_callee (f := 63) rfl ?_); refine goesL_ (some 51) rfl rfl Try.func63 (by kernel_rfl) rfl #[.slice A18 ((l0.take ((wrap64 (t624 + (wrap64 (t623)))) : Int).toNat).drop (t624 : Int).toNat).length (c0 - t624.toNat)] rfl (by (try simp only [List.map_toArray, List.map_cons, List.map_nil]); first | done | (rw [show ((l0.take ((wrap64 (t624 + (wrap64 (t623)))) : Int).toNat).drop (t624 : Int).toNat).length = ((wrap64 (t624 + (wrap64 (t623)))).toNat - t624.toNat) from (by rw [List.length_drop, List.length_take]; have h_ : ((wrap64 (t624 + (wrap64 (t623)))) : Int) ≤ (l0.length : Int) := Zo; omega)] <;> rfl) | rfl | (simp only [List.length_drop, List.length_take]; rfl)) ?_; (with_reducible refine (impl_decode.calls kj6 _ _ ((l0.take ((wrap64 (t624 + (wrap64 (t623)))) : Int).toNat).drop (t624 : Int).toNat) t627 t628 t631 true _ ?side1 ?side2 A15.out).mono ?_); (case side1 => repeat (first | exact (C_below HR626.out HB.out) | (with_reducible refine C_alloc ?_ _) | (with_reducible refine C_drewN ?_ _) | (with_reducible refine C_drew ?_))); (case side2 => exact HC626.out); rintro e w19 ⟨v629, v632, rfl, ho0, ho1, hb⟩; refine ⟨_, rfl, ?_⟩; replace HO_4 := Zh (S_mono (S_told (S_told (S_old (ZS HO_4.out) hb) (R_base ho0)) (R_base ho1)) (fun _ h_ => h_.1)); have HO630 := Zh (R_lower ho0 (below_size Zs)); have HO633 := Zh (R_lower ho1 (below_size Zs)); replace HB := Zh (Zl Zs hb); (try clear hb); (try clear hb2); (try clear hk); (try clear hi); (try clear ho0); (try clear ho1)) | ((with_reducible refine gate_dst (N := 9) rfl ?_); (try (refine gate_guard (by rfl) ?_; dsimp only)); refine box_event ?hg (N := 9) ?hd (cs := #[.int .i64 0, .slice none 0 0, .slice none 0 0]) (t := 42) ?hr ?_; (case hd => rfl); (case hg => rfl); (case hr => first | (go_simp; done) | (go_simp; rfl)); intro gb635 hg w20 hbox hb; replace HO_4 := Zh (S_below (S_elderB (ZS HO_4.out) gb635 (Nat.le_of_eq hg.symm)) hb); replace HO630 := Zh (R_below (ZR HO630.out) hb); replace HO633 := Zh (R_below (ZR HO633.out) hb); have BK635 := Zh (hbox); have GW635 := Zh ((by rw [hg]; exact (below_size Zs) : w.heap.size ≤ gb635)); have GE635 := Zh ((by rw [hg]; exact (below_size Zs) : w.heap.size ≤ gb635)); replace HB := Zh (Zl Zs hb); clear hb hbox hg; have hcz21_0 : w20.cell? ⟨gb635, 0, none⟩ = some (.int .i64 0) := (blk_cell BK635.out 0).trans rfl; have hcz21_1 : w20.cell? ⟨gb635, 1, none⟩ = some (.slice none 0 0) := (blk_cell BK635.out 1).trans rfl; have hcz21_2 : w20.cell? ⟨gb635, 2, none⟩ = some (.slice none 0 0) := (blk_cell BK635.out 2).trans rfl; have hfz21_0 := Zn BK635.out 0; have hfz21_1 := Zn BK635.out 1; have hfz21_2 := Zn BK635.out 2; obtain ⟨Ao22, co22, eo22⟩ := R_slice HO630.out; subst eo22; obtain ⟨Ao23, co23, eo23⟩ := R_slice HO633.out; subst eo23) | ((with_reducible refine gate_store (t := 42) (p := 9) rfl ?_); refine store_event (t := 42) (p := 9) (v := ?vo_w24) (w1 := (((w20.setCell ⟨gb635, 0, none⟩ (.int .i64 t627)).setCell ⟨gb635, 1, none⟩ (.slice Ao22 t628.length co22)).setCell ⟨gb635, 2, none⟩ (.slice Ao23 t631.length co23))) ?hg ?ho ?hn ?hr ?_; (case ho => rfl); (case hg => rfl); (case hn => rfl); (case hr => first | (go_simp; done) | (go_simp; rfl)); intro w24 hw; have n0_ : Aside0 (Kd.S k42 42 w24 w.heap.size (fun k_ => some k_ ≠ (.slice Ao22 t628.length co22 : Value).ownBlock ∧ some k_ ≠ (.slice Ao23 t631.length co23 : Value).ownBlock ∧ k_ ≠ gb635) u4 x4_1) := ⟨(by rw [hw]; exact (ZS (S_mono (S_far (p := ⟨gb635, 2, none⟩) (S_far (p := ⟨gb635, 1, none⟩) (S_far (p := ⟨gb635, 0, none⟩) (S_mono HO_4.out (fun k_ hk => (⟨hk, hk.2⟩ : _ ∧ k_ ≠ gb635))) (fun _ hk => hk.2) (.int .i64 t627)) (fun _ hk => hk.2) (.slice Ao22 t628.length co22)) (fun _ hk => hk.2) (.slice Ao23 t631.length co23)) (fun _ hk => ⟨hk.1.1.1.2, ⟨hk.1.1.2, hk.1.2⟩⟩))))⟩; have n1_ : Aside0 (Kd.R (Kd.int .u64) 23 w24 w.heap.size (fun _ => True) (.slice Ao22 t628.length co22) t628) := ⟨(by rw [hw]; exact (ZR (R_mono (R_far (p := ⟨gb635, 2, none⟩) (R_far (p := ⟨gb635, 1, none⟩) (R_far (p := ⟨gb635, 0, none⟩) (R_types HO630.out BK635.out (by decide)) (fun _ hk => hk.2) (.int .i64 t627)) (fun _ hk => hk.2) (.slice Ao22 t628.length co22)) (fun _ hk => hk.2) (.slice Ao23 t631.length co23)) (fun _ hk => trivial))))⟩; have n2_ : Aside0 (Kd.R Kd.string 9 w24 w.heap.size (fun _ => True) (.slice Ao23 t631.length co23) t631) := ⟨(by rw [hw]; exact (ZR (R_mono (R_far (p := ⟨gb635, 2, none⟩) (R_far (p := ⟨gb635, 1, none⟩) (R_far (p := ⟨gb635, 0, none⟩) (R_types HO633.out BK635.out (by decide)) (fun _ hk => hk.2) (.int .i64 t627)) (fun _ hk => hk.2) (.slice Ao22 t628.length co22)) (fun _ hk => hk.2) (.slice Ao23 t631.length co23)) (fun _ hk => trivial))))⟩; have n3_ : Aside0 (w24.heap[gb635]? = some (.cells #[.int .i64 t627, .slice Ao22 t628.length co22, .slice Ao23 t631.length co23] 42 (0, 0))) := ⟨(by rw [hw]; exact (by (with_reducible repeat (first | refine Za ?_ _ | refine Zb ?_ | refine blk_alloc ?_ _)); refine blk_put (cs := #[.int .i64 t627, .slice Ao22 t628.length co22, .slice none 0 0]) ?_ 2 _ rfl; (with_reducible repeat (first | refine Za ?_ _ | refine Zb ?_ | refine blk_alloc ?_ _)); refine blk_put (cs := #[.int .i64 t627, .slice none 0 0, .slice none 0 0]) ?_ 1 _ rfl; (with_reducible repeat (first | refine Za ?_ _ | refine Zb ?_ | refine blk_alloc ?_ _)); refine blk_put (cs := #[.int .i64 0, .slice none 0 0, .slice none 0 0]) ?_ 0 _ rfl; (with_reducible repeat (first | refine Za ?_ _ | refine Zb ?_ | refine blk_alloc ?_ _)); exact BK635.out))⟩; have n4_ : Aside0 (Below w.heap.size w w24) := ⟨(by rw [hw]; exact Zs)⟩; clear hw; clear HO_4; clear HO630; clear HO633; clear BK635; clear HB; have HO_4 := n0_; have HO630 := n1_; have HO633 := n2_; have BK635 := n3_; have HB := n4_; clear n0_ n1_ n2_ n3_ n4_; have hcz25_0 : w24.cell? ⟨gb635, 0, none⟩ = some (.int .i64 t627) := (blk_cell BK635.out 0).trans rfl; have hcz25_1 : w24.cell? ⟨gb635, 1, none⟩ = some (.slice Ao22 t628.length co22) := (blk_cell BK635.out 1).trans rfl; have hcz25_2 : w24.cell? ⟨gb635, 2, none⟩ = some (.slice Ao23 t631.length co23) := (blk_cell BK635.out 2).trans rfl; have hfz25_0 := Zn BK635.out 0; have hfz25_1 := Zn BK635.out 1; have hfz25_2 := Zn BK635.out 2) | ((with_reducible refine gate_builtin (b := .append) (xs := #[.tmp 56, .tmp 58]) rfl ?_); (try (refine gate_guard (by rfl) ?_; dsimp only)); at_builtin; refine S_append k42 (w0 := w) w.heap.size rfl (.tmp 56) (.tmp 58) 53 42 (.agg #[(.int .i64 0), (.slice none 0 0), (.slice none 0 0)]) 56 rfl Try.underlying53 info42 rfl (by decide) (by omega) u4 x4_1 (⟨t627, t628, t631⟩ : S42) [.int .i64 t627, .slice Ao22 t628.length co22, .slice Ao23 t631.length co23] (fun k_ => k_ ≠ gb635) (fun k_ => some k_ = (.slice Ao22 t628.length co22 : Value).ownBlock ∨ some k_ = (.slice Ao23 t631.length co23 : Value).ownBlock) rfl rfl ?aP (fun k_ hk_ => hk_.elim (fun h_ => ((R_mono (ok' := fun k_ => ((fun k_ => k_ ≠ gb635)) k_ ∧ some k_ ≠ (u4 : Value).ownBlock) (R_types (R_apart' (HO630.out) (S_typed HO_4.out) (by decide)) BK635.out (by decide)) (fun k_ hk => ⟨hk.2, hk.1.2⟩))).1 k_ h_.symm) (fun h_ => ((R_mono (ok' := fun k_ => ((fun k_ => k_ ≠ gb635)) k_ ∧ some k_ ≠ (u4 : Value).ownBlock) (R_types (R_apart' (HO633.out) (S_typed HO_4.out) (by decide)) BK635.out (by decide)) (fun k_ hk => ⟨hk.2, hk.1.2⟩))).1 k_ h_.symm)) ?aF ?aO ?aB ?aS ?aL ?_; (case aP => exact k42_mkM _ _ _ (⟨t627, t628, t631⟩ : S42) (R_mono (R_tight rfl (R_mono (ok' := fun k_ => ((fun k_ => k_ ≠ gb635)) k_ ∧ some k_ ≠ (u4 : Value).ownBlock) (R_types (R_apart' (HO630.out) (S_typed HO_4.out) (by decide)) BK635.out (by decide)) (fun k_ hk => ⟨hk.2, hk.1.2⟩))) (fun _ h_ => Or.inl h_)) (R_mono (R_tight rfl (R_mono (ok' := fun k_ => ((fun k_ => k_ ≠ gb635)) k_ ∧ some k_ ≠ (u4 : Value).ownBlock) (R_types (R_apart' (HO633.out) (S_typed HO_4.out) (by decide)) BK635.out (by decide)) (fun k_ hk => ⟨hk.2, hk.1.2⟩))) (fun _ h_ => Or.inr (h_)))); (case aB => exact Zs); (case aF => exact (fun k_ hk => Kd.freshB (g := gb635) (o := .cells #[.int .i64 t627, .slice Ao22 t628.length co22, .slice Ao23 t631.length co23] 42 (0, 0)) Zk k_ hk)); (case aO => exact (ZS (S_mono HO_4.out (fun k_ hk => ⟨hk.2.2, fun e_ => e_.elim (fun h_ => hk.1 h_) (fun h_ => hk.2.1 h_)⟩)))); (case aS => exact (below_size Zs)); (case aL => have := LMc17.out; omega); intro v637 w26 ho hb hg hat; rw [← Ny636.out] at ho; have n0_ := Zh (blk_grown (g := gb635) (o := .cells #[.int .i64 t627, .slice Ao22 t628.length co22, .slice Ao23 t631.length co23] 42 (0, 0)) Zk hg (S_away HO_4.out (fun _ hk => hk.2.2))); have n1_ := Zh (hb); have n2_ := Zh (ho); clear BK635; clear HB; clear HO_4; clear HO630; clear HO633; have BK635 := n0_; have HB := n1_; have HO638 := n2_; clear n0_ n1_ n2_; clear ho hb hg hat))
           go_roundg kj6
           case measure => have := HK1.out; have := HJ6.out; omega
           case rel => exact ⟨(y636), (wrap64 (t624 + (wrap64 (t623)))), (by first | rfl | (simp; done) | (simp [*]; done)), H', ⟨by have := HK1.out; have := HJ6.out; omega⟩, ⟨ZS (S_mono HO638.out (fun _ hk => trivial))⟩, ⟨Zs⟩⟩
          rw [if_neg c17] at H
          exact absurd H (by simp)
         replace c16 := Bool.eq_false_iff.mpr c16
         subst c16
         have H1 : (some (([] : List (S42)), false)) = some (r1, r2) := by rw [if_neg (show ¬ (false = true) by decide)] at H; exact H
         clear H
         have H := H1
         clear H1
         simp only [Option.some.injEq, Prod.mk.injEq] at H
         obtain ⟨rfl, rfl⟩ := H
         obtain ⟨i027, hi027, _, hsz27, _⟩ := info_parts info5
         obtain ⟨A27, hcut27, hA27, hC27⟩ := print_mid_of (P := Try.prog) (Value.int .u8) 0 24 5 .i64 .i64 Try.underlying24 hi027 hsz27 A0 c0 l0 t624 (wrap64 (t624 + (wrap64 (t623)))) (Zo) (by first | omega | exact Zo) (Zo) HC0.out
         have HR626 := Zh (C_of_reads (h1 := fun _ => rfl) (hA27 _ (Kd.reads_of_C HR0.out)))
         have HC626 := Zh hC27
         clear hA27 hC27 hi027 hsz27
         go_wp2_with (first | ((with_reducible refine gate_callee (f := 63) rfl ?_); refine goesL_ (some 51) rfl rfl Try.func63 (by kernel_rfl) rfl #[.slice A27 ((l0.take ((wrap64 (t624 + (wrap64 (t623)))) : Int).toNat).drop (t624 : Int).toNat).length (c0 - t624.toNat)] rfl (by (try simp only [List.map_toArray, List.map_cons, List.map_nil]); first | done | (rw [show ((l0.take ((wrap64 (t624 + (wrap64 (t623)))) : Int).toNat).drop (t624 : Int).toNat).length = ((wrap64 (t624 + (wrap64 (t623)))).toNat - t624.toNat) from (by rw [List.length_drop, List.length_take]; have h_ : ((wrap64 (t624 + (wrap64 (t623)))) : Int) ≤ (l0.length : Int) := Zo; omega)] <;> rfl) | rfl | (simp only [List.length_drop, List.length_take]; rfl)) ?_; (with_reducible refine (impl_decode.calls kj6 _ _ ((l0.take ((wrap64 (t624 + (wrap64 (t623)))) : Int).toNat).drop (t624 : Int).toNat) t627 t628 t631 false _ ?side1 ?side2 A15.out).mono ?_); (case side1 => repeat (first | exact (C_below HR626.out HB.out) | (with_reducible refine C_alloc ?_ _) | (with_reducible refine C_drewN ?_ _) | (with_reducible refine C_drew ?_))); (case side2 => exact HC626.out); rintro e w28 ⟨v629, v632, rfl, ho0, ho1, hb⟩; refine ⟨_, rfl, ?_⟩; replace HO_4 := Zh (S_mono (S_told (S_told (S_old (ZS HO_4.out) hb) (R_base ho0)) (R_base ho1)) (fun _ h_ => h_.1)); have HO630 := Zh (R_lower ho0 (below_size Zs)); have HO633 := Zh (R_lower ho1 (below_size Zs)); replace HB := Zh (Zl Zs hb); (try clear hb); (try clear hb2); (try clear hk); (try clear hi); (try clear ho0); (try clear ho1)) | ((with_reducible refine gate_dst (N := 9) rfl ?_); (try (refine gate_guard (by rfl) ?_; dsimp only)); refine box_event ?hg (N := 9) ?hd (cs := #[.int .i64 0, .slice none 0 0, .slice none 0 0]) (t := 42) ?hr ?_; (case hd => rfl); (case hg => rfl); (case hr => first | (go_simp; done) | (go_simp; rfl)); intro gb635 hg w29 hbox hb; replace HO_4 := Zh (S_below (S_elderB (ZS HO_4.out) gb635 (Nat.le_of_eq hg.symm)) hb); replace HO630 := Zh (R_below (ZR HO630.out) hb); replace HO633 := Zh (R_below (ZR HO633.out) hb); have BK635 := Zh (hbox); have GW635 := Zh ((by rw [hg]; exact (below_size Zs) : w.heap.size ≤ gb635)); have GE635 := Zh ((by rw [hg]; exact (below_size Zs) : w.heap.size ≤ gb635)); replace HB := Zh (Zl Zs hb); clear hb hbox hg; have hcz30_0 : w29.cell? ⟨gb635, 0, none⟩ = some (.int .i64 0) := (blk_cell BK635.out 0).trans rfl; have hcz30_1 : w29.cell? ⟨gb635, 1, none⟩ = some (.slice none 0 0) := (blk_cell BK635.out 1).trans rfl; have hcz30_2 : w29.cell? ⟨gb635, 2, none⟩ = some (.slice none 0 0) := (blk_cell BK635.out 2).trans rfl; have hfz30_0 := Zn BK635.out 0; have hfz30_1 := Zn BK635.out 1; have hfz30_2 := Zn BK635.out 2; obtain ⟨Ao31, co31, eo31⟩ := R_slice HO630.out; subst eo31; obtain ⟨Ao32, co32, eo32⟩ := R_slice HO633.out; subst eo32))
         go_ret2
         exact ⟨_, ZE, by first | exact S_nil _ _ _ _ _ | exact N_nil _ _ _ _ _ | exact V_nil _ _ _ _ _ | exact Q_nil _ _ _ _ _ | exact R_nil _ _ _ _ _, Zs⟩
        rw [if_neg c14] at H
        exact absurd H (by simp)
       rw [if_neg c13] at H
       exact absurd H (by simp)
      rw [if_neg c12] at H
      exact absurd H (by simp)
   rw [if_neg c5] at H
   have c5b0 : decide (x5_1 < (l0.length : Int)) = false := decide_eq_false c5
   clear c5
   simp only [Option.some.injEq, Prod.mk.injEq] at H
   obtain ⟨rfl, rfl⟩ := H
   go_wp2
   go_ret2
   exact ⟨_, ZE, ZS HO_4.out, Zs⟩
def IsS76 (w0 W : World) (g : Nat) (f0 : List Int) (f1 : Int) (f2 : Int) : Prop := ∃ A0 c0, W.heap[g]? = some (.cells #[.slice A0 f0.length c0, .int .i64 f1, .int .i64 f2] 76 (0, 0)) ∧ w0.heap.size ≤ g ∧ Kd.C (Kd.int .u8) w0 A0 f0.length f0
theorem IsS76.grown {w0 W : World} {g : Nat} {f0 : List Int} {f1 : Int} {f2 : Int} {W1 : World} {row : Option Nat} (h : IsS76 w0 W g f0 f1 f2) (hw : W.grownBy W1 row) (hne : some g ≠ row) : IsS76 w0 W1 g f0 f1 f2 := by
 obtain ⟨A0, c0, hb, hg, hr0⟩ := h
 exact ⟨A0, c0, blk_grown hb hw hne, hg, hr0⟩
theorem IsS76.kept {w0 W : World} {g : Nat} {f0 : List Int} {f1 : Int} {f2 : Int} {W1 : World} {S : Nat → Prop} (h : IsS76 w0 W g f0 f1 f2) (hk : Kept W W1 S) (hne : ¬ S g) : IsS76 w0 W1 g f0 f1 f2 := by
 obtain ⟨A0, c0, hb, hg, hr0⟩ := h
 exact ⟨A0, c0, blk_kept hb hk hne, hg, hr0⟩
theorem IsS76.below {w0 W : World} {g : Nat} {f0 : List Int} {f1 : Int} {f2 : Int} {W1 : World} (h : IsS76 w0 W g f0 f1 f2) (hw : Below W.heap.size W W1) : IsS76 w0 W1 g f0 f1 f2 := h.grown (grown_of_below hw none) (by simp)
theorem IsS76.alloc {w0 W : World} {g : Nat} {f0 : List Int} {f1 : Int} {f2 : Int} (h : IsS76 w0 W g f0 f1 f2) (o : Obj) : IsS76 w0 (W.alloc o) g f0 f1 f2 := h.below (Zf (Below.refl _ _) o)
theorem IsS76.drewN {w0 W : World} {g : Nat} {f0 : List Int} {f1 : Int} {f2 : Int} (h : IsS76 w0 W g f0 f1 f2) (m : Nat) : IsS76 w0 (W.drewN m) g f0 f1 f2 := h
theorem IsS76.drew {w0 W : World} {g : Nat} {f0 : List Int} {f1 : Int} {f2 : Int} (h : IsS76 w0 W g f0 f1 f2) : IsS76 w0 W.drew g f0 f1 f2 := h
theorem IsS76.at_ {w0 W : World} {g : Nat} {f0 : List Int} {f1 : Int} {f2 : Int} {w' : World} {m : Nat} (hq : W.drewN m = w') (h : IsS76 w0 W g f0 f1 f2) : IsS76 w0 w' g f0 f1 f2 := by subst hq; exact IsS76.drewN h m
theorem IsS76.apart {w0 W : World} {g : Nat} {f0 : List Int} {f1 : Int} {f2 : Int} {α : Type} {d : Kd α} {e : Nat} {base : Nat} {ok : Nat → Prop} {v : Value} {xs : List α} (h : IsS76 w0 W g f0 f1 f2) (ho : d.R e W base ok v xs) (ht : ∀ q, q ∈ e :: d.E → q ≠ 76) : d.R e W base (fun k => ok k ∧ k ≠ g) v xs := by
 obtain ⟨A0, c0, hb, hg, hr0⟩ := h
 exact R_types ho hb ht
theorem IsS76.own_ne {w0 W : World} {g : Nat} {f0 : List Int} {f1 : Int} {f2 : Int} {α : Type} {d : Kd α} {e : Nat} {base : Nat} {ok : Nat → Prop} {v : Value} {xs : List α} (h : IsS76 w0 W g f0 f1 f2) (ho : d.R e W base ok v xs) (ht : e ≠ 76) : some g ≠ v.ownBlock := by
 obtain ⟨A0, c0, hb, hg, hr0⟩ := h
 exact R_ne ho hb ht
theorem IsS76.apartS {w0 W : World} {g : Nat} {f0 : List Int} {f1 : Int} {f2 : Int} {α : Type} {d : Kd α} {e : Nat} {base : Nat} {ok : Nat → Prop} {v : Value} {xs : List α} (h : IsS76 w0 W g f0 f1 f2) (ho : d.S e W base ok v xs) (ht : ∀ q, q ∈ e :: d.E → q ≠ 76) : d.S e W base (fun k => ok k ∧ k ≠ g) v xs := by
 obtain ⟨A0, c0, hb, hg, hr0⟩ := h
 exact S_types ho hb ht
theorem IsS76.own_neS {w0 W : World} {g : Nat} {f0 : List Int} {f1 : Int} {f2 : Int} {α : Type} {d : Kd α} {e : Nat} {base : Nat} {ok : Nat → Prop} {v : Value} {xs : List α} (h : IsS76 w0 W g f0 f1 f2) (ho : d.S e W base ok v xs) (ht : e ≠ 76) : some g ≠ v.ownBlock := by
 obtain ⟨A0, c0, hb, hg, hr0⟩ := h
 exact S_ne ho hb ht
theorem IsS76.lt {w0 W : World} {g : Nat} {f0 : List Int} {f1 : Int} {f2 : Int} (h : IsS76 w0 W g f0 f1 f2) : g < W.heap.size := by
 obtain ⟨A0, c0, hb, hg, hr0⟩ := h
 exact blk_lt hb
theorem IsS76.ge {w0 W : World} {g : Nat} {f0 : List Int} {f1 : Int} {f2 : Int} (h : IsS76 w0 W g f0 f1 f2) : w0.heap.size ≤ g := by
 obtain ⟨A0, c0, hb, hg, hr0⟩ := h
 exact hg
theorem IsS76.far {w0 W : World} {g : Nat} {f0 : List Int} {f1 : Int} {f2 : Int} {p : Addr} (h : IsS76 w0 W g f0 f1 f2) (hne : g ≠ p.block) (u : Value) : IsS76 w0 (W.setCell p u) g f0 f1 f2 := by
 obtain ⟨A0, c0, hb, hg, hr0⟩ := h
 exact ⟨A0, c0, blk_far hb hne u, hg, hr0⟩
theorem cellS76_0 {W : World} {g : Nat} {A0 : Option Addr} {c0 : Nat} {f0 : List Int} {f1 : Int} {f2 : Int} (h : W.heap[g]? = some (.cells #[.slice A0 f0.length c0, .int .i64 f1, .int .i64 f2] 76 (0, 0))) : W.cell? ⟨g, 0, none⟩ = some (.slice A0 f0.length c0) := (blk_cell h 0).trans rfl
theorem cellS76_1 {W : World} {g : Nat} {A0 : Option Addr} {c0 : Nat} {f0 : List Int} {f1 : Int} {f2 : Int} (h : W.heap[g]? = some (.cells #[.slice A0 f0.length c0, .int .i64 f1, .int .i64 f2] 76 (0, 0))) : W.cell? ⟨g, 1, none⟩ = some (.int .i64 f1) := (blk_cell h 1).trans rfl
theorem IsS76.set_1 {w0 W : World} {g : Nat} {f0 : List Int} {f1 : Int} {f2 : Int} (h : IsS76 w0 W g f0 f1 f2) (x : Int) : IsS76 w0 (W.setCell ⟨g, 1, none⟩ (.int .i64 x)) g f0 x f2 := by
 obtain ⟨A0, c0, hb, hg, hr0⟩ := h
 exact ⟨A0, c0, by simpa using blk_set hb 1 (.int .i64 x), hg, hr0⟩
theorem cellS76_2 {W : World} {g : Nat} {A0 : Option Addr} {c0 : Nat} {f0 : List Int} {f1 : Int} {f2 : Int} (h : W.heap[g]? = some (.cells #[.slice A0 f0.length c0, .int .i64 f1, .int .i64 f2] 76 (0, 0))) : W.cell? ⟨g, 2, none⟩ = some (.int .i64 f2) := (blk_cell h 2).trans rfl
theorem IsS76.set_2 {w0 W : World} {g : Nat} {f0 : List Int} {f1 : Int} {f2 : Int} (h : IsS76 w0 W g f0 f1 f2) (x : Int) : IsS76 w0 (W.setCell ⟨g, 2, none⟩ (.int .i64 x)) g f0 f1 x := by
 obtain ⟨A0, c0, hb, hg, hr0⟩ := h
 exact ⟨A0, c0, by simpa using blk_set hb 2 (.int .i64 x), hg, hr0⟩
def spec_l01New.l0 : Nat → List Int → Int → Int → Option (List Int × Int × Int)
 | 0, _, _, _ => none
 | k + 1, x0, x3, x4 => if x4 < (x0.length : Int) then (if x4 < 4000 then (if 0 ≤ x4 then (spec_l01New.l0 k x0 (Go.bits .and .i64 (wrap64 ((wrap64 ((wrap64 (x3 * 149)) + (wrap64 (rd x0 x4)))) + 11)) 1073741823) (wrap64 (x4 + 1))) else (none)) else (some (x0, 0, x3))) else (some (x0, 0, x3))
def spec_l01New.f (k : Nat) (l0 : List Int) : Option (List Int × Int × Int) := spec_l01New.l0 k l0 (wrap64 (138138 + (l0.length : Int))) 0
set_option maxHeartbeats 8000000 in
set_option maxRecDepth 100000 in
theorem spec_l01New.calls (k : Nat) (A0 : Option Addr) (c0 : Nat) (l0 : List Int) (r1 : List Int) (r2 : Int) (r3 : Int) (w0 w : World) (hB : Below w0.heap.size w0 w) (hr0 : Kd.C (Kd.int .u8) w0 A0 l0.length l0) (hc0 : l0.length ≤ c0) (h : spec_l01New.f k l0 = some (r1, r2, r3)) :
  Calls Try.prog 66 #[.slice A0 l0.length c0] w fun e w' => ∃ g_ : Nat, e = .returned (.pointer (some ⟨g_, 0, none⟩)) ∧ IsS76 w0 w' g_ r1 r2 r3 ∧ Below w0.heap.size w0 w' ∧ Below w.heap.size w w' := by
 have hu76 := Try.underlying76
 have HR0 := Zh hr0
 have HC0 := Zh hc0
 clear hr0 hc0
 have HBW := Zh (Below.refl w.heap.size w)
 have HW0 := Zh hB.size
 have HB := Zh hB
 clear hB
 have H : (spec_l01New.l0 k l0 (wrap64 (138138 + (l0.length : Int))) 0) = some (r1, r2, r3) := h
 clear h
 have H' := Zh H
 clear H
 go_enter Try.func66, Try.ntmps66
 go_wp2
 go_loopg [3, 4] k (fun kq v3 v4 w' => ∃ (x3_1 : Int) (x4_1 : Int), v3 = .int .i64 x3_1 ∧ v4 = .int .i64 x4_1 ∧ Aside0 (spec_l01New.l0 kq l0 x3_1 x4_1 = some (r1, r2, r3)) ∧ Aside0 (kq ≤ k) ∧ Aside0 (Below w.heap.size w w') ∧ Aside0 (Below w0.heap.size w0 w'))
 case atStart => exact ⟨(wrap64 (138138 + (l0.length : Int))), (0), (by first | rfl | (simp; done) | (simp [*]; done)), (by first | rfl | (simp; done) | (simp [*]; done)), H', ⟨Nat.le_refl _⟩, ⟨by repeat (first | (with_reducible first | exact HBW.out | apply Zf | apply Zd | apply Ze) | exact HBW.out)⟩, ⟨Zs⟩⟩
 case round =>
  clear H'
  obtain ⟨x3_1, x4_1, rfl, rfl, HA, HK1, HBW, HB⟩ := hrel
  cases gk with
  | zero => exact absurd HA.out (by simp [spec_l01New.l0])
  | succ k1 =>
   have H := HA.out
   clear HA
   simp only [spec_l01New.l0] at H
   by_cases c2 : x4_1 < (l0.length : Int)
   ·
    rw [if_pos c2] at H
    have c2b0 : decide (x4_1 < (l0.length : Int)) = true := decide_eq_true c2
    clear c2
    by_cases c3 : x4_1 < 4000
    ·
     rw [if_pos c3] at H
     have c3b0 : decide (x4_1 < 4000) = true := decide_eq_true c3
     clear c3
     by_cases c4 : 0 ≤ x4_1
     ·
      rw [if_pos c4] at H
      have c4b0 : decide (0 ≤ x4_1) = true := decide_eq_true c4
      clear c4
      have H' := Zh H
      clear H
      have p678 : 0 ≤ (x4_1 : Int) := Zo
      have q678 : x4_1 < (l0.length : Int) := Zo
      obtain ⟨ad678, e678, hx678_0⟩ := Kd.at_int HR0.out x4_1 p678 q678
      cases e678
      replace hx678_0 := pw_cell_below HB.out hx678_0
      replace p678 := eq_true p678
      replace q678 := eq_true q678
      go_wp2
      go_roundg k1
      case measure => have := HK1.out; omega
      case rel => exact ⟨(Go.bits .and .i64 (wrap64 ((wrap64 ((wrap64 (x3_1 * 149)) + (wrap64 (rd l0 x4_1)))) + 11)) 1073741823), (wrap64 (x4_1 + 1)), (by first | rfl | (simp; done) | (simp [*]; done)), (by first | rfl | (simp; done) | (simp [*]; done)), H', ⟨by have := HK1.out; omega⟩, ⟨by repeat (first | (with_reducible first | exact HBW.out | apply Zf | apply Zd | apply Ze) | exact HBW.out)⟩, ⟨Zs⟩⟩
     rw [if_neg c4] at H
     exact absurd H (by simp)
    rw [if_neg c3] at H
    have c3b0 : decide (x4_1 < 4000) = false := decide_eq_false c3
    clear c3
    simp only [Option.some.injEq, Prod.mk.injEq] at H
    obtain ⟨rfl, rfl, rfl⟩ := H
    go_wp2_with (first | ((with_reducible refine gate_dst (N := 31) rfl ?_); refine box_event ?hg (N := 31) ?hd (cs := #[.slice A0 l0.length c0, .int .i64 0, .int .i64 x3_1]) (t := 76) ?hr ?_; (case hd => rfl); (case hg => rfl); (case hr => first | (go_simp; done) | (go_simp; rfl)); intro gb679 hg w5 hbox hb; replace HB := Zh (Zl Zs hb); have BK679 := Zh (hbox); have GW679 := Zh ((by rw [hg]; exact (below_size (by repeat (first | (with_reducible first | exact HBW.out | apply Zf | apply Zd | apply Ze) | exact HBW.out))) : w.heap.size ≤ gb679)); have GE679 := Zh ((Nat.le_trans HW0.out (by rw [hg]; exact (below_size (by repeat (first | (with_reducible first | exact HBW.out | apply Zf | apply Zd | apply Ze) | exact HBW.out))) : w.heap.size ≤ gb679) : w0.heap.size ≤ gb679)); replace HBW := Zh (Zl HBW.out hb); clear hb hbox hg))
    go_ret
    exact ⟨_, rfl, (show IsS76 w0 _ gb679 l0 0 x3_1 from ⟨_, _, Zk, GE679.out, HR0.out⟩), Zs, by repeat (first | (with_reducible first | exact HBW.out | apply Zf | apply Zd | apply Ze | refine Zg ?_ GW679.out) | exact HBW.out)⟩
   rw [if_neg c2] at H
   have c2b0 : decide (x4_1 < (l0.length : Int)) = false := decide_eq_false c2
   clear c2
   simp only [Option.some.injEq, Prod.mk.injEq] at H
   obtain ⟨rfl, rfl, rfl⟩ := H
   go_wp2_with (first | ((with_reducible refine gate_dst (N := 31) rfl ?_); refine box_event ?hg (N := 31) ?hd (cs := #[.slice A0 l0.length c0, .int .i64 0, .int .i64 x3_1]) (t := 76) ?hr ?_; (case hd => rfl); (case hg => rfl); (case hr => first | (go_simp; done) | (go_simp; rfl)); intro gb680 hg w6 hbox hb; replace HB := Zh (Zl Zs hb); have BK680 := Zh (hbox); have GW680 := Zh ((by rw [hg]; exact (below_size (by repeat (first | (with_reducible first | exact HBW.out | apply Zf | apply Zd | apply Ze) | exact HBW.out))) : w.heap.size ≤ gb680)); have GE680 := Zh ((Nat.le_trans HW0.out (by rw [hg]; exact (below_size (by repeat (first | (with_reducible first | exact HBW.out | apply Zf | apply Zd | apply Ze) | exact HBW.out))) : w.heap.size ≤ gb680) : w0.heap.size ≤ gb680)); replace HBW := Zh (Zl HBW.out hb); clear hb hbox hg))
   go_ret
   exact ⟨_, rfl, (show IsS76 w0 _ gb680 l0 0 x3_1 from ⟨_, _, Zk, GE680.out, HR0.out⟩), Zs, by repeat (first | (with_reducible first | exact HBW.out | apply Zf | apply Zd | apply Ze | refine Zg ?_ GW680.out) | exact HBW.out)⟩
def spec_l01Byte.f (s0_0 : List Int) (s0_1 : Int) (s0_2 : Int) : Option (Int × Int × Int) := if s0_1 < (s0_0.length : Int) then (if 0 ≤ s0_1 then (some (Go.bits .and .i64 (wrap64 ((Go.bits .and .i64 (Go.bits .xor .i64 ((wrap64 ((wrap64 (s0_2 * 6364136223846793005)) + 1442695040888963407)) / 8589934592) ((wrap64 ((wrap64 (s0_2 * 6364136223846793005)) + 1442695040888963407)) / 35184372088832)) 255) + (wrap64 (rd s0_0 s0_1)))) 255, wrap64 (s0_1 + 1), wrap64 ((wrap64 (s0_2 * 6364136223846793005)) + 1442695040888963407))) else (none)) else (some (Go.bits .and .i64 (Go.bits .xor .i64 ((wrap64 ((wrap64 (s0_2 * 6364136223846793005)) + 1442695040888963407)) / 8589934592) ((wrap64 ((wrap64 (s0_2 * 6364136223846793005)) + 1442695040888963407)) / 35184372088832)) 255, s0_1, wrap64 ((wrap64 (s0_2 * 6364136223846793005)) + 1442695040888963407)))
set_option maxHeartbeats 8000000 in
set_option maxRecDepth 100000 in
theorem spec_l01Byte.calls (g : Nat) (s0_0 : List Int) (s0_1 : Int) (s0_2 : Int) (r1 : Int) (r2 : Int) (r3 : Int) (w0 w : World) (hI : IsS76 w0 w g s0_0 s0_1 s0_2) (hB : Below w0.heap.size w0 w) (h : spec_l01Byte.f s0_0 s0_1 s0_2 = some (r1, r2, r3)) :
  Calls Try.prog 74 #[.pointer (some ⟨g, 0, none⟩)] w fun e w' => e = .returned (.int .i64 r1) ∧ IsS76 w0 w' g s0_0 r2 r3 ∧ Below w0.heap.size w0 w' ∧ KeepBut w w' g none := by
 have HI0 := Zh hI
 have HK := Zh (KeepBut.refl w g none)
 have HL := Zh hB.size
 clear hI
 have HW0 := Zh hB.size
 have HB := Zh hB
 clear hB
 have H : (if s0_1 < (s0_0.length : Int) then (if 0 ≤ s0_1 then (some (Go.bits .and .i64 (wrap64 ((Go.bits .and .i64 (Go.bits .xor .i64 ((wrap64 ((wrap64 (s0_2 * 6364136223846793005)) + 1442695040888963407)) / 8589934592) ((wrap64 ((wrap64 (s0_2 * 6364136223846793005)) + 1442695040888963407)) / 35184372088832)) 255) + (wrap64 (rd s0_0 s0_1)))) 255, wrap64 (s0_1 + 1), wrap64 ((wrap64 (s0_2 * 6364136223846793005)) + 1442695040888963407))) else (none)) else (some (Go.bits .and .i64 (Go.bits .xor .i64 ((wrap64 ((wrap64 (s0_2 * 6364136223846793005)) + 1442695040888963407)) / 8589934592) ((wrap64 ((wrap64 (s0_2 * 6364136223846793005)) + 1442695040888963407)) / 35184372088832)) 255, s0_1, wrap64 ((wrap64 (s0_2 * 6364136223846793005)) + 1442695040888963407)))) = some (r1, r2, r3) := h
 clear h
 by_cases c2 : s0_1 < (s0_0.length : Int)
 ·
  rw [if_pos c2] at H
  have c2b0 : decide (s0_1 < (s0_0.length : Int)) = true := decide_eq_true c2
  clear c2
  by_cases c3 : 0 ≤ s0_1
  ·
   rw [if_pos c3] at H
   have c3b0 : decide (0 ≤ s0_1) = true := decide_eq_true c3
   clear c3
   simp only [Option.some.injEq, Prod.mk.injEq] at H
   obtain ⟨rfl, rfl, rfl⟩ := H
   obtain ⟨ASz4_0, cSz4_0, HGz4, hgz4, HSz4_0⟩ := HI0.out
   have hcz4_0 := cellS76_0 HGz4
   have hcz4_1 := cellS76_1 HGz4
   have hcz4_2 := cellS76_2 HGz4
   have hfz4_1 := Zn HGz4 1
   have hfz4_2 := Zn HGz4 2
   clear HGz4 hgz4
   have p681 : 0 ≤ (s0_1 : Int) := Zo
   have q681 : s0_1 < (s0_0.length : Int) := Zo
   obtain ⟨ad681, e681, hx681_0⟩ := Kd.at_int HSz4_0 s0_1 p681 q681
   cases e681
   have hn681_0 : ad681.block ≠ g := Nat.ne_of_lt (Nat.lt_of_lt_of_le (by have := Zi _ _ hx681_0; first | rwa [add_block] at this | exact this) (IsS76.ge HI0.out))
   replace hx681_0 := pw_cell_below HB.out hx681_0
   replace hx681_0 := (cell_far (p := ⟨g, 2, none⟩) (by first | (rw [add_block]; exact hn681_0) | (show (Addr.add _ _).block ≠ _; rw [add_block]; exact hn681_0) | exact hn681_0) (.int .i64 (wrap64 ((wrap64 (s0_2 * 6364136223846793005)) + 1442695040888963407)))).trans hx681_0
   (try have hy681_0 := fun (n_ : Nat) => (show (((w.drewN n_).setCell ⟨g, 2, none⟩ (.int .i64 (wrap64 ((wrap64 (s0_2 * 6364136223846793005)) + 1442695040888963407))))).cell? _ = some _ from hx681_0))
   clear hn681_0
   replace p681 := eq_true p681
   replace q681 := eq_true q681
   go_enter Try.func74, Try.ntmps74
   go_wp2
   repeat (go_quiet (fail); try go_wp2)
   go_ret
   exact ⟨ZE, by repeat (first | (with_reducible first | exact HI0.out | apply IsS76.alloc | apply IsS76.drewN | apply IsS76.drew | apply IsS76.set_1 | apply IsS76.set_2) | exact HI0.out), by repeat (first | (with_reducible first | exact HB.out | apply Zf | apply Zd | apply Ze | refine Zg ?_ (IsS76.ge HI0.out)) | exact HB.out), by repeat (first | (with_reducible first | exact HK.out | apply KeepBut.set_ | apply keep_drewN | apply keep_drew | apply keep_alloc) | exact HK.out)⟩
  rw [if_neg c3] at H
  exact absurd H (by simp)
 rw [if_neg c2] at H
 have c2b0 : decide (s0_1 < (s0_0.length : Int)) = false := decide_eq_false c2
 clear c2
 simp only [Option.some.injEq, Prod.mk.injEq] at H
 obtain ⟨rfl, rfl, rfl⟩ := H
 obtain ⟨ASz5_0, cSz5_0, HGz5, hgz5, HSz5_0⟩ := HI0.out
 have hcz5_0 := cellS76_0 HGz5
 have hcz5_1 := cellS76_1 HGz5
 have hcz5_2 := cellS76_2 HGz5
 have hfz5_1 := Zn HGz5 1
 have hfz5_2 := Zn HGz5 2
 clear HGz5 hgz5
 go_enter Try.func74, Try.ntmps74
 go_wp2
 repeat (go_quiet (fail); try go_wp2)
 go_ret
 exact ⟨ZE, by repeat (first | (with_reducible first | exact HI0.out | apply IsS76.alloc | apply IsS76.drewN | apply IsS76.drew | apply IsS76.set_1 | apply IsS76.set_2) | exact HI0.out), by repeat (first | (with_reducible first | exact HB.out | apply Zf | apply Zd | apply Ze | refine Zg ?_ (IsS76.ge HI0.out)) | exact HB.out), by repeat (first | (with_reducible first | exact HK.out | apply KeepBut.set_ | apply keep_drewN | apply keep_drew | apply keep_alloc) | exact HK.out)⟩
def spec_l01Below.f (s0_0 : List Int) (s0_1 : Int) (s0_2 : Int) (a1 : Int) : Option (Int × Int × Int) := if a1 ≤ 0 then (some (0, s0_1, s0_2)) else (if a1 ≤ 256 then ((spec_l01Byte.f s0_0 s0_1 s0_2).bind fun bt682 => (if a1 = 0 then (none) else (some (Int.tmod bt682.1 a1, bt682.2.1, bt682.2.2)))) else ((spec_l01Byte.f s0_0 s0_1 s0_2).bind fun bt685 => ((spec_l01Byte.f s0_0 bt685.2.1 bt685.2.2).bind fun bt688 => ((spec_l01Byte.f s0_0 bt688.2.1 bt688.2.2).bind fun bt691 => (if a1 = 0 then (none) else (some (Int.tmod (wrap64 ((wrap64 ((wrap64 (bt685.1 * 65536)) + (wrap64 (bt688.1 * 256)))) + bt691.1)) a1, bt691.2.1, bt691.2.2)))))))
set_option maxHeartbeats 8000000 in
set_option maxRecDepth 100000 in
theorem spec_l01Below.calls (g : Nat) (s0_0 : List Int) (s0_1 : Int) (s0_2 : Int) (a1 : Int) (r1 : Int) (r2 : Int) (r3 : Int) (w0 w : World) (hI : IsS76 w0 w g s0_0 s0_1 s0_2) (hB : Below w0.heap.size w0 w) (h : spec_l01Below.f s0_0 s0_1 s0_2 a1 = some (r1, r2, r3)) :
  Calls Try.prog 67 #[.pointer (some ⟨g, 0, none⟩), .int .i64 a1] w fun e w' => e = .returned (.int .i64 r1) ∧ IsS76 w0 w' g s0_0 r2 r3 ∧ Below w0.heap.size w0 w' ∧ KeepBut w w' g none := by
 have HI0 := Zh hI
 have HK := Zh (KeepBut.refl w g none)
 have HL := Zh hB.size
 clear hI
 have HW0 := Zh hB.size
 have HB := Zh hB
 clear hB
 have H : (if a1 ≤ 0 then (some (0, s0_1, s0_2)) else (if a1 ≤ 256 then ((spec_l01Byte.f s0_0 s0_1 s0_2).bind fun bt682 => (if a1 = 0 then (none) else (some (Int.tmod bt682.1 a1, bt682.2.1, bt682.2.2)))) else ((spec_l01Byte.f s0_0 s0_1 s0_2).bind fun bt685 => ((spec_l01Byte.f s0_0 bt685.2.1 bt685.2.2).bind fun bt688 => ((spec_l01Byte.f s0_0 bt688.2.1 bt688.2.2).bind fun bt691 => (if a1 = 0 then (none) else (some (Int.tmod (wrap64 ((wrap64 ((wrap64 (bt685.1 * 65536)) + (wrap64 (bt688.1 * 256)))) + bt691.1)) a1, bt691.2.1, bt691.2.2)))))))) = some (r1, r2, r3) := h
 clear h
 by_cases c3 : a1 ≤ 0
 ·
  rw [if_pos c3] at H
  have c3b0 : decide (a1 ≤ 0) = true := decide_eq_true c3
  clear c3
  simp only [Option.some.injEq, Prod.mk.injEq] at H
  obtain ⟨rfl, rfl, rfl⟩ := H
  go_enter Try.func67, Try.ntmps67
  go_wp2
  go_ret
  exact ⟨ZE, by repeat (first | (with_reducible first | exact HI0.out | apply IsS76.alloc | apply IsS76.drewN | apply IsS76.drew | apply IsS76.set_1 | apply IsS76.set_2) | exact HI0.out), by repeat (first | (with_reducible first | exact HB.out | apply Zf | apply Zd | apply Ze | refine Zg ?_ (IsS76.ge HI0.out)) | exact HB.out), by repeat (first | (with_reducible first | exact HK.out | apply KeepBut.set_ | apply keep_drewN | apply keep_drew | apply keep_alloc) | exact HK.out)⟩
 rw [if_neg c3] at H
 have c3b0 : decide (a1 ≤ 0) = false := decide_eq_false c3
 clear c3
 by_cases c4 : a1 ≤ 256
 ·
  rw [if_pos c4] at H
  have c4b0 : decide (a1 ≤ 256) = true := decide_eq_true c4
  clear c4
  replace H := Option.bind_eq_some_iff.mp H
  obtain ⟨⟨t682, t683, t684⟩, A50, H⟩ := H
  replace H : (if a1 = 0 then (none) else (some (Int.tmod t682 a1, t683, t684))) = some (r1, r2, r3) := H
  have A5 := Zh A50
  clear A50
  by_cases c6 : a1 = 0
  ·
   rw [if_pos c6] at H
   exact absurd H (by simp)
  rw [if_neg c6] at H
  have c6b0 : (a1 == 0) = false := beq_eq_false_iff_ne.mpr c6
  have c6b1 : (a1 != 0) = true := bne_iff_ne.mpr c6
  simp only [Option.some.injEq, Prod.mk.injEq] at H
  obtain ⟨rfl, rfl, rfl⟩ := H
  go_enter Try.func67, Try.ntmps67
  go_wp2_with (first | ((with_reducible refine gate_callee (f := 74) rfl ?_); refine ZG (some 13) Try.func74 #[.pointer (some ⟨g, 0, none⟩)] rfl ?_; (with_reducible refine (spec_l01Byte.calls g s0_0 s0_1 s0_2 t682 t683 t684 w0 _ ?side1 ?side2 A5.out).mono ?_); (case side1 => repeat (first | (with_reducible first | exact HI0.out | apply IsS76.alloc | apply IsS76.drewN | apply IsS76.drew | apply IsS76.set_1 | apply IsS76.set_2) | exact HI0.out)); (case side2 => repeat (first | (with_reducible first | exact HB.out | apply Zf | apply Zd | apply Ze | refine Zg ?_ (IsS76.ge HI0.out)) | exact HB.out)); rintro e w7 ⟨rfl, hi, hb, hk⟩; refine ⟨_, rfl, ?_⟩; replace HK := Zh (KeepBut.trans (by repeat (first | (with_reducible first | exact HK.out | apply KeepBut.set_ | apply keep_drewN | apply keep_drew | apply keep_alloc) | exact HK.out)) hk (.inl rfl)); replace HB := Zh (hb); replace HI0 := Zh (hi); (try clear hb); (try clear hb2); (try clear hk); (try clear hi)))
  go_ret
  exact ⟨ZE, by repeat (first | (with_reducible first | exact HI0.out | apply IsS76.alloc | apply IsS76.drewN | apply IsS76.drew | apply IsS76.set_1 | apply IsS76.set_2) | exact HI0.out), by repeat (first | (with_reducible first | exact HB.out | apply Zf | apply Zd | apply Ze | refine Zg ?_ (IsS76.ge HI0.out)) | exact HB.out), by repeat (first | (with_reducible first | exact HK.out | apply KeepBut.set_ | apply keep_drewN | apply keep_drew | apply keep_alloc) | exact HK.out)⟩
 rw [if_neg c4] at H
 have c4b0 : decide (a1 ≤ 256) = false := decide_eq_false c4
 clear c4
 replace H := Option.bind_eq_some_iff.mp H
 obtain ⟨⟨t685, t686, t687⟩, A80, H⟩ := H
 replace H : ((spec_l01Byte.f s0_0 t686 t687).bind fun bt688 => ((spec_l01Byte.f s0_0 bt688.2.1 bt688.2.2).bind fun bt691 => (if a1 = 0 then (none) else (some (Int.tmod (wrap64 ((wrap64 ((wrap64 (t685 * 65536)) + (wrap64 (bt688.1 * 256)))) + bt691.1)) a1, bt691.2.1, bt691.2.2))))) = some (r1, r2, r3) := H
 have A8 := Zh A80
 clear A80
 replace H := Option.bind_eq_some_iff.mp H
 obtain ⟨⟨t688, t689, t690⟩, A90, H⟩ := H
 replace H : ((spec_l01Byte.f s0_0 t689 t690).bind fun bt691 => (if a1 = 0 then (none) else (some (Int.tmod (wrap64 ((wrap64 ((wrap64 (t685 * 65536)) + (wrap64 (t688 * 256)))) + bt691.1)) a1, bt691.2.1, bt691.2.2)))) = some (r1, r2, r3) := H
 have A9 := Zh A90
 clear A90
 replace H := Option.bind_eq_some_iff.mp H
 obtain ⟨⟨t691, t692, t693⟩, A100, H⟩ := H
 replace H : (if a1 = 0 then (none) else (some (Int.tmod (wrap64 ((wrap64 ((wrap64 (t685 * 65536)) + (wrap64 (t688 * 256)))) + t691)) a1, t692, t693))) = some (r1, r2, r3) := H
 have A10 := Zh A100
 clear A100
 by_cases c11 : a1 = 0
 ·
  rw [if_pos c11] at H
  exact absurd H (by simp)
 rw [if_neg c11] at H
 have c11b0 : (a1 == 0) = false := beq_eq_false_iff_ne.mpr c11
 have c11b1 : (a1 != 0) = true := bne_iff_ne.mpr c11
 simp only [Option.some.injEq, Prod.mk.injEq] at H
 obtain ⟨rfl, rfl, rfl⟩ := H
 go_enter Try.func67, Try.ntmps67
 go_wp2_with (first | ((with_reducible refine gate_callee (f := 74) rfl ?_); refine ZG (some 17) Try.func74 #[.pointer (some ⟨g, 0, none⟩)] rfl ?_; (with_reducible refine (spec_l01Byte.calls g s0_0 s0_1 s0_2 t685 t686 t687 w0 _ ?side1 ?side2 A8.out).mono ?_); (case side1 => repeat (first | (with_reducible first | exact HI0.out | apply IsS76.alloc | apply IsS76.drewN | apply IsS76.drew | apply IsS76.set_1 | apply IsS76.set_2) | exact HI0.out)); (case side2 => repeat (first | (with_reducible first | exact HB.out | apply Zf | apply Zd | apply Ze | refine Zg ?_ (IsS76.ge HI0.out)) | exact HB.out)); rintro e w12 ⟨rfl, hi, hb, hk⟩; refine ⟨_, rfl, ?_⟩; replace HK := Zh (KeepBut.trans (by repeat (first | (with_reducible first | exact HK.out | apply KeepBut.set_ | apply keep_drewN | apply keep_drew | apply keep_alloc) | exact HK.out)) hk (.inl rfl)); replace HB := Zh (hb); replace HI0 := Zh (hi); (try clear hb); (try clear hb2); (try clear hk); (try clear hi)) | ((with_reducible refine gate_callee (f := 74) rfl ?_); refine ZG (some 19) Try.func74 #[.pointer (some ⟨g, 0, none⟩)] rfl ?_; (with_reducible refine (spec_l01Byte.calls g s0_0 t686 t687 t688 t689 t690 w0 _ ?side1 ?side2 A9.out).mono ?_); (case side1 => repeat (first | (with_reducible first | exact HI0.out | apply IsS76.alloc | apply IsS76.drewN | apply IsS76.drew | apply IsS76.set_1 | apply IsS76.set_2) | exact HI0.out)); (case side2 => repeat (first | (with_reducible first | exact HB.out | apply Zf | apply Zd | apply Ze | refine Zg ?_ (IsS76.ge HI0.out)) | exact HB.out)); rintro e w13 ⟨rfl, hi, hb, hk⟩; refine ⟨_, rfl, ?_⟩; replace HK := Zh (KeepBut.trans (by repeat (first | (with_reducible first | exact HK.out | apply KeepBut.set_ | apply keep_drewN | apply keep_drew | apply keep_alloc) | exact HK.out)) hk (.inl rfl)); replace HB := Zh (hb); replace HI0 := Zh (hi); (try clear hb); (try clear hb2); (try clear hk); (try clear hi)) | ((with_reducible refine gate_callee (f := 74) rfl ?_); refine ZG (some 21) Try.func74 #[.pointer (some ⟨g, 0, none⟩)] rfl ?_; (with_reducible refine (spec_l01Byte.calls g s0_0 t689 t690 t691 t692 t693 w0 _ ?side1 ?side2 A10.out).mono ?_); (case side1 => repeat (first | (with_reducible first | exact HI0.out | apply IsS76.alloc | apply IsS76.drewN | apply IsS76.drew | apply IsS76.set_1 | apply IsS76.set_2) | exact HI0.out)); (case side2 => repeat (first | (with_reducible first | exact HB.out | apply Zf | apply Zd | apply Ze | refine Zg ?_ (IsS76.ge HI0.out)) | exact HB.out)); rintro e w14 ⟨rfl, hi, hb, hk⟩; refine ⟨_, rfl, ?_⟩; replace HK := Zh (KeepBut.trans (by repeat (first | (with_reducible first | exact HK.out | apply KeepBut.set_ | apply keep_drewN | apply keep_drew | apply keep_alloc) | exact HK.out)) hk (.inl rfl)); replace HB := Zh (hb); replace HI0 := Zh (hi); (try clear hb); (try clear hb2); (try clear hk); (try clear hi)))
 go_ret
 exact ⟨ZE, by repeat (first | (with_reducible first | exact HI0.out | apply IsS76.alloc | apply IsS76.drewN | apply IsS76.drew | apply IsS76.set_1 | apply IsS76.set_2) | exact HI0.out), by repeat (first | (with_reducible first | exact HB.out | apply Zf | apply Zd | apply Ze | refine Zg ?_ (IsS76.ge HI0.out)) | exact HB.out), by repeat (first | (with_reducible first | exact HK.out | apply KeepBut.set_ | apply keep_drewN | apply keep_drew | apply keep_alloc) | exact HK.out)⟩
def spec_l01Size.f (l0 : List Int) (a1 : Int) : Option (Int) := if (wrap64 (2 + (wrap64 ((l0.length : Int) / 16)))) > a1 then (some a1) else (some (wrap64 (2 + (wrap64 ((l0.length : Int) / 16)))))
set_option maxHeartbeats 8000000 in
set_option maxRecDepth 100000 in
theorem spec_l01Size.calls (A0 : Option Addr) (c0 : Nat) (l0 : List Int) (a1 : Int) (r : Int) (w : World) (hr0 : Kd.C (Kd.int .u8) w A0 l0.length l0) (hc0 : l0.length ≤ c0) (h : spec_l01Size.f l0 a1 = some r) :
  Calls Try.prog 68 #[.slice A0 l0.length c0, .int .i64 a1] w fun e w' => e = .returned (.int .i64 r) ∧ Drawn0 w w' := by
 have HR0 := Zh hr0
 have HC0 := Zh hc0
 clear hr0 hc0
 have H : (if (wrap64 (2 + (wrap64 ((l0.length : Int) / 16)))) > a1 then (some a1) else (some (wrap64 (2 + (wrap64 ((l0.length : Int) / 16)))))) = some r := h
 clear h
 by_cases c3 : (wrap64 (2 + (wrap64 ((l0.length : Int) / 16)))) > a1
 ·
  rw [if_pos c3] at H
  have c3b0 : decide (a1 < (wrap64 (2 + (wrap64 ((l0.length : Int) / 16))))) = true := decide_eq_true c3
  clear c3
  obtain rfl := Option.some.inj H
  go_enter Try.func68, Try.ntmps68
  go_wp2
  go_ret
  exact ⟨by first | rfl | (simp; done) | (simp [*]; done), by repeat (first | exact Drawn0.refl _ | apply Drawn0.step)⟩
 rw [if_neg c3] at H
 have c3b0 : decide (a1 < (wrap64 (2 + (wrap64 ((l0.length : Int) / 16))))) = false := decide_eq_false c3
 clear c3
 obtain rfl := Option.some.inj H
 go_enter Try.func68, Try.ntmps68
 go_wp2
 go_ret
 exact ⟨by first | rfl | (simp; done) | (simp [*]; done), by repeat (first | exact Drawn0.refl _ | apply Drawn0.step)⟩
def spec_l01PickInt.f (s0_0 : List Int) (s0_1 : Int) (s0_2 : Int) (l1 : List Int) : Option (Int × Int × Int) := (spec_l01Below.f s0_0 s0_1 s0_2 (l1.length : Int)).bind fun bt694 => (if 0 ≤ bt694.1 then (if bt694.1 < (l1.length : Int) then (some (rd l1 bt694.1, bt694.2.1, bt694.2.2)) else (none)) else (none))
set_option maxHeartbeats 8000000 in
set_option maxRecDepth 100000 in
theorem spec_l01PickInt.calls (g : Nat) (s0_0 : List Int) (s0_1 : Int) (s0_2 : Int) (A1 : Option Addr) (c1 : Nat) (l1 : List Int) (r1 : Int) (r2 : Int) (r3 : Int) (w0 w : World) (hI : IsS76 w0 w g s0_0 s0_1 s0_2) (hB : Below w0.heap.size w0 w) (hr1 : Kd.C (Kd.int .i64) w A1 l1.length l1) (hc1 : l1.length ≤ c1) (hf1 : ∀ ad, A1 = some ad → 0 < l1.length → ad.block ≠ g) (h : spec_l01PickInt.f s0_0 s0_1 s0_2 l1 = some (r1, r2, r3)) :
  Calls Try.prog 75 #[.pointer (some ⟨g, 0, none⟩), .slice A1 l1.length c1] w fun e w' => e = .returned (.int .i64 r1) ∧ IsS76 w0 w' g s0_0 r2 r3 ∧ Below w0.heap.size w0 w' ∧ KeepBut w w' g none := by
 have HR1 := Zh hr1
 have HC1 := Zh hc1
 clear hr1 hc1
 have HI0 := Zh hI
 have HK := Zh (KeepBut.refl w g none)
 have HL := Zh hB.size
 clear hI
 have HW0 := Zh hB.size
 have HB := Zh hB
 clear hB
 have H : ((spec_l01Below.f s0_0 s0_1 s0_2 (l1.length : Int)).bind fun bt694 => (if 0 ≤ bt694.1 then (if bt694.1 < (l1.length : Int) then (some (rd l1 bt694.1, bt694.2.1, bt694.2.2)) else (none)) else (none))) = some (r1, r2, r3) := h
 clear h
 replace H := Option.bind_eq_some_iff.mp H
 obtain ⟨⟨t694, t695, t696⟩, A30, H⟩ := H
 replace H : (if 0 ≤ t694 then (if t694 < (l1.length : Int) then (some (rd l1 t694, t695, t696)) else (none)) else (none)) = some (r1, r2, r3) := H
 have A3 := Zh A30
 clear A30
 by_cases c4 : 0 ≤ t694
 ·
  rw [if_pos c4] at H
  have c4b0 : decide (0 ≤ t694) = true := decide_eq_true c4
  clear c4
  by_cases c5 : t694 < (l1.length : Int)
  ·
   rw [if_pos c5] at H
   have c5b0 : decide (t694 < (l1.length : Int)) = true := decide_eq_true c5
   clear c5
   simp only [Option.some.injEq, Prod.mk.injEq] at H
   obtain ⟨rfl, rfl, rfl⟩ := H
   go_enter Try.func75, Try.ntmps75
   go_wp2_with (first | ((with_reducible refine gate_callee (f := 67) rfl ?_); refine ZG (some 9) Try.func67 #[.pointer (some ⟨g, 0, none⟩), .int .i64 (l1.length : Int)] rfl ?_; (with_reducible refine (spec_l01Below.calls g s0_0 s0_1 s0_2 (l1.length : Int) t694 t695 t696 w0 _ ?side1 ?side2 A3.out).mono ?_); (case side1 => repeat (first | (with_reducible first | exact HI0.out | apply IsS76.alloc | apply IsS76.drewN | apply IsS76.drew | apply IsS76.set_1 | apply IsS76.set_2) | exact HI0.out)); (case side2 => repeat (first | (with_reducible first | exact HB.out | apply Zf | apply Zd | apply Ze | refine Zg ?_ (IsS76.ge HI0.out)) | exact HB.out)); rintro e w6 ⟨rfl, hi, hb, hk⟩; refine ⟨_, rfl, ?_⟩; replace HK := Zh (KeepBut.trans (by repeat (first | (with_reducible first | exact HK.out | apply KeepBut.set_ | apply keep_drewN | apply keep_drew | apply keep_alloc) | exact HK.out)) hk (.inl rfl)); replace HB := Zh (hb); replace HI0 := Zh (hi); (try clear hb); (try clear hb2); (try clear hk); (try clear hi); have p697 : 0 ≤ (t694 : Int) := Zo; have q697 : t694 < (l1.length : Int) := Zo; obtain ⟨ad697, e697, hx697_0⟩ := Kd.at_int HR1.out t694 p697 q697; cases e697; replace hx697_0 := keep_cell HK.out hx697_0 (by first | (rw [add_block]; exact hf1 _ rfl (by omega)) | exact hf1 _ rfl (by omega) | exact hf1 ad697 rfl (by omega)); replace p697 := eq_true p697; replace q697 := eq_true q697))
   go_ret
   exact ⟨ZE, by repeat (first | (with_reducible first | exact HI0.out | apply IsS76.alloc | apply IsS76.drewN | apply IsS76.drew | apply IsS76.set_1 | apply IsS76.set_2) | exact HI0.out), by repeat (first | (with_reducible first | exact HB.out | apply Zf | apply Zd | apply Ze | refine Zg ?_ (IsS76.ge HI0.out)) | exact HB.out), by repeat (first | (with_reducible first | exact HK.out | apply KeepBut.set_ | apply keep_drewN | apply keep_drew | apply keep_alloc) | exact HK.out)⟩
  rw [if_neg c5] at H
  exact absurd H (by simp)
 rw [if_neg c4] at H
 exact absurd H (by simp)
end Go.Proofs.Ytgdebfaoohjikaa.F
