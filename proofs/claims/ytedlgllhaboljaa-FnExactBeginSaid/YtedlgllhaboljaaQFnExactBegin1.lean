/- Merged texts below the law FnExactBegin: Go functions as Lean functions, their contracts, and plain lemmas. -/
import Derived.Test.YtedlgllhaboljaaProg
import Derived.Below
import Derived.Deep.Draws
import Derived.Deep.AppendLies
import Derived.Maps.AppendAt
import Derived.OwnWalk
import Derived.Laws.BytesArg
import Derived.Laws.MakeOwn
import Derived.Laws.OwnMore
import Derived.Deep.OwnRows
import Derived.Tactics
import Derived.Lib.ConvBytes
import Derived.Laws.Slices
import Derived.WalkKit
import Derived.KernelRfl
import Derived.RowKit3
import Derived.Deep.LoopGhost
import Derived.Deep.QuietTactic
import Derived.BigQuiet
import Derived.WideLaws
import Derived.Deep.DeepCutAuto
import Derived.Deep.CutBlock
import Derived.Deep.RegionHeld3
import Derived.Laws.Rows
import Derived.Lib.AppendStr
import Derived.ArgAppend
import Derived.Laws.IdiomCopy
import Derived.OrdersHeld
import Derived.Laws.BitsLemmas
import Derived.RowKit
import Derived.Test.YtedlgllhaboljaaWWords
import Derived.Test.YtedlgllhaboljaaWLast
import Derived.Test.YtedlgllhaboljaaWTab
import Derived.Test.YtedlgllhaboljaaWFour
import Derived.Test.YtedlgllhaboljaaWQPut
import Derived.Test.YtedlgllhaboljaaWApart
import Derived.Test.YtedlgllhaboljaaWArr
import Derived.Test.YtedlgllhaboljaaWZeros
import Derived.Test.YtedlgllhaboljaaWFoot
import Derived.Test.YtedlgllhaboljaaWKept
import Derived.Test.YtedlgllhaboljaaWShare
import Derived.Test.YtedlgllhaboljaaWN
import Derived.Test.YtedlgllhaboljaaWFootNe
import Derived.Test.YtedlgllhaboljaaWAt
import Derived.Test.YtedlgllhaboljaaWEqStruct
import Derived.Test.YtedlgllhaboljaaWRepsOne
import Derived.Test.YtedlgllhaboljaaWInv
import Derived.Test.YtedlgllhaboljaaWInvWords
import Derived.Test.YtedlgllhaboljaaWGuard
import Derived.Test.YtedlgllhaboljaaWNEv
import Derived.Test.YtedlgllhaboljaaWMore
namespace Go.Proofs.Ytedlgllhaboljaa.F
open Go.RowKit Go.Proofs.YtedlgllhaboljaaW.PrintWords Go.Proofs.YtedlgllhaboljaaW.PrintWords.Kd Go.Proofs.YtedlgllhaboljaaW.PrintMore.Kd Go.Proofs.YtedlgllhaboljaaW.PrintLast Go.Proofs.YtedlgllhaboljaaW.PrintMore
attribute [local go_sem] max2_int min2_int max_two min_two max_three min_three max_four min_four   -- for this text's walks alone
set_option linter.unusedVariables false
set_option linter.unusedSimpArgs false



def errW : Option Int → Value
 | none => .nilIface
 | some c => .iface 0 (.int .i64 c)
theorem errW_none : errW none = .nilIface := rfl
theorem errW_some (c : Int) : errW (some c) = .iface 0 (.int .i64 c) := rfl

theorem info3 : (Try.prog.info? 3).map (fun i => (i.zero, i.size, i.bytes)) = some (some (.int .i64 0), 1, 8) := by kernel_rfl
theorem info52 : (Try.prog.info? 52).map (fun i => (i.zero, i.size, i.bytes)) = some (some (.agg #[(.int .i64 0), (.int .i64 0)]), 2, 16) := by kernel_rfl
-- the values' own types
/-! #### struct type 54 -/
structure S54 where
 f0 : Int
 f1 : Int
def z54 : S54 := ⟨(0 : Int), (0 : Int)⟩
def k54 : Kd S54 := Kd.iso (Kd.pair (Kd.int .i64) (Kd.int .i64)) (fun x : S54 => (x.f0, x.f1))
theorem k54_open {w : World} {x : S54} {cs : List Value} (h : k54.K w x cs) : cs = [.int .i64 x.f0, .int .i64 x.f1] := by
 obtain ⟨_, _, rfl, rfl, rfl⟩ := h
 exact rfl
theorem k54_openM {w : World} {base : Nat} {ok : Nat → Prop} {x : S54} {cs : List Value} (h : k54.M w base ok x cs) : cs = [.int .i64 x.f0, .int .i64 x.f1] := by
 obtain ⟨_, _, rfl, rfl, rfl⟩ := h
 exact rfl
theorem k54_mk (w : World) (x : S54)  : k54.K w x [.int .i64 x.f0, .int .i64 x.f1] := ⟨[.int .i64 x.f0], [.int .i64 x.f1], rfl, rfl, rfl⟩
theorem k54_mkM (w : World) (base : Nat) (ok : Nat → Prop) (x : S54)  : k54.M w base ok x [.int .i64 x.f0, .int .i64 x.f1] := ⟨[.int .i64 x.f0], [.int .i64 x.f1], rfl, rfl, rfl⟩
def rd_T54 (xs : List S54) (i : Int) : S54 := xs.getD i.toNat z54
theorem at_T54 {w : World} {A : Option Addr} {n : Nat} {xs : List S54} (h : Kd.C k54 w A n xs) (i : Int) (h0 : 0 ≤ i) (h1 : i < n) : ∃ ad , A = some ad ∧ w.cell? (ad.add (i.toNat * 2)) = some (.int .i64 (rd_T54 xs i).f0) ∧ w.cell? ⟨(ad.add (i.toNat * 2)).block, (ad.add (i.toNat * 2)).off + 1, none⟩ = some (.int .i64 (rd_T54 xs i).f1) := by
 obtain ⟨ad, c, e, _, hK, hc0⟩ := C_get h z54 i h0 h1
 have hc : ∀ j u, c[j]? = some u → w.cell? (ad.add (i.toNat * 2 + j)) = some u := hc0
 obtain rfl := k54_open hK
 exact ⟨ad, e, hc 0 _ rfl, by rw [← add_field _ _ 1 (by omega)]; exact hc 1 _ rfl⟩

/-! #### struct type 52 -/
structure S52 where
 f0 : Int
 f1 : Int
def z52 : S52 := ⟨(0 : Int), (0 : Int)⟩
def k52 : Kd S52 := Kd.iso (Kd.pair (Kd.int .i64) (Kd.int .i64)) (fun x : S52 => (x.f0, x.f1))
theorem k52_open {w : World} {x : S52} {cs : List Value} (h : k52.K w x cs) : cs = [.int .i64 x.f0, .int .i64 x.f1] := by
 obtain ⟨_, _, rfl, rfl, rfl⟩ := h
 exact rfl
theorem k52_openM {w : World} {base : Nat} {ok : Nat → Prop} {x : S52} {cs : List Value} (h : k52.M w base ok x cs) : cs = [.int .i64 x.f0, .int .i64 x.f1] := by
 obtain ⟨_, _, rfl, rfl, rfl⟩ := h
 exact rfl
theorem k52_mk (w : World) (x : S52)  : k52.K w x [.int .i64 x.f0, .int .i64 x.f1] := ⟨[.int .i64 x.f0], [.int .i64 x.f1], rfl, rfl, rfl⟩
theorem k52_mkM (w : World) (base : Nat) (ok : Nat → Prop) (x : S52)  : k52.M w base ok x [.int .i64 x.f0, .int .i64 x.f1] := ⟨[.int .i64 x.f0], [.int .i64 x.f1], rfl, rfl, rfl⟩
def rd_T52 (xs : List S52) (i : Int) : S52 := xs.getD i.toNat z52
theorem at_T52 {w : World} {A : Option Addr} {n : Nat} {xs : List S52} (h : Kd.C k52 w A n xs) (i : Int) (h0 : 0 ≤ i) (h1 : i < n) : ∃ ad , A = some ad ∧ w.cell? (ad.add (i.toNat * 2)) = some (.int .i64 (rd_T52 xs i).f0) ∧ w.cell? ⟨(ad.add (i.toNat * 2)).block, (ad.add (i.toNat * 2)).off + 1, none⟩ = some (.int .i64 (rd_T52 xs i).f1) := by
 obtain ⟨ad, c, e, _, hK, hc0⟩ := C_get h z52 i h0 h1
 have hc : ∀ j u, c[j]? = some u → w.cell? (ad.add (i.toNat * 2 + j)) = some u := hc0
 obtain rfl := k52_open hK
 exact ⟨ad, e, hc 0 _ rfl, by rw [← add_field _ _ 1 (by omega)]; exact hc 1 _ rfl⟩

theorem Zs {n : Nat} {w w1 : World} (h : Below n w w1 := by repeat (first | (with_reducible first | exact HB.out | apply below_alloc | apply pw_below_drewN | apply below_drew1) | refine below_set ?_ (Aside0.out (by assumption)) | exact HB.out)) : Below n w w1 := h
theorem Zk {w : World} {g : Nat} {o : Obj} (h : w.heap[g]? = some o := by (with_reducible repeat (first | refine blk_drewN ?_ _ | refine blk_drew ?_ | refine blk_alloc ?_ _)); exact Aside0.out (by assumption)) : w.heap[g]? = some o := h
theorem Zo {p : Prop} [Decidable p] (h : decide p = true := by first | (with_reducible assumption) | assumption) : p := of_decide_eq_true h
theorem Zc {w w1 : World} {a : Addr} {v : Value} (hb : Below w.heap.size w w1) (h : w.cell? a = some v) : w1.cell? a = some v := (hb.cell (World.block_lt_of_cell? w _ h)).trans h
theorem ZS {α : Type} {d : Kd α} {e base : Nat} {w w1 : World} {ok : Nat → Prop} {v : Value} {xs : List α} (h : Kd.S d e w base ok v xs) (hb : Below w.heap.size w w1 := by (with_reducible repeat (first | exact Below.refl _ _ | apply below_alloc | apply pw_below_drewN | apply below_drew1))) : Kd.S d e w1 base ok v xs := S_below h hb
theorem ZR {α : Type} {d : Kd α} {e base : Nat} {w w1 : World} {ok : Nat → Prop} {v : Value} {xs : List α} (h : d.R e w base ok v xs) (hb : Below w.heap.size w w1 := by (with_reducible repeat (first | exact Below.refl _ _ | apply below_alloc | apply pw_below_drewN | apply below_drew1))) : d.R e w1 base ok v xs := R_below h hb
theorem ZE {p : Prop} (h : p := by first | rfl | (simp [errW_none, errW_some] <;> rfl) | (simp [*, errW_none, errW_some] <;> rfl)) : p := h
theorem ZG {P : Program} {ops : Array Oper} {Q : Exit → Act → World → Prop} {rest : List Oper} {oi : Oper} {a : Act} {w : World} (N : Option Tmp) {f : FuncId} {fn : Func} {as_ : Array Operand} {ts : Array TypeId} (hf : P.funcs[f]? = some fn) (args : Array Value) (hop : oi.op = .call { callee := .value (.func f), args := as_, argTypes := ts }) (h : Calls P f args w fun e w' => ∃ v, e = .returned v ∧ wpList P ops Q rest (a.put N v) w') (hd : oi.dst = N := by rfl) (hg : oi.guard = none := by rfl) (hn : (fn.name == "runtime.NumGoroutine") = false := by kernel_rfl) (hb : fn.body.isSome = true := by rfl) (hargs : as_.map a.eval = args := by (try simp only [List.map_toArray, List.map_cons, List.map_nil]); first | done | rfl | (simp only [List.length_drop, List.length_take]; rfl)) : wpList P ops Q (oi :: rest) a w := goesL_ N hd hg hf hn hb args hop hargs h
abbrev Zh := @Aside0.mk
abbrev Zl := @below_step
abbrev Zm := @blk_below
abbrev Zn := @blk_frozen

/-! ### laws_toIntS: function 14 -/
def laws_toIntS.l0 : Nat → List Int → List Int → Int → Option (List Int)
 | 0, _, _, _ => none
 | k + 1, x0, x3, x4 => if x4 < (x0.length : Int) then (if 0 ≤ x4 then (if x4 < (x3.length : Int) then (laws_toIntS.l0 k x0 (x3.set (x4 : Int).toNat (rd x0 x4)) (wrap64 (x4 + 1))) else (none)) else (none)) else (some x3)
def laws_toIntS.f (k : Nat) (l0 : List Int) : Option (List Int) := if 0 ≤ (l0.length : Int) then (if ((l0.length : Int) : Int).toNat ≤ 35184372088832 then (laws_toIntS.l0 k l0 (List.replicate ((l0.length : Int) : Int).toNat 0) 0) else (none)) else (none)
theorem laws_toIntS.mono_l : ∀ k, (∀ y0 y1 y2, LeO (laws_toIntS.l0 k y0 y1 y2) (laws_toIntS.l0 (k + 1) y0 y1 y2))
 | 0 => fun _ _ _ r h => by simp [laws_toIntS.l0] at h
 | k + 1 => by
  have ih0 := laws_toIntS.mono_l k
  ·
   intro y0 y1 y2
   unfold laws_toIntS.l0
   repeat' first
   | (with_reducible exact ih0 _ _ _)
   | (with_reducible exact LeO.refl _)
   | (with_reducible exact LeO.none _)
   | (with_reducible refine LeO.ite ?_ ?_)
   | (with_reducible refine LeO.bind ?_ (fun _ => ?_))
   | exact ih0 _ _ _
   | exact LeO.none _
   | refine LeO.ite ?_ ?_
   | refine LeO.bind ?_ (fun _ => ?_)
theorem laws_toIntS.mono : ∀ a0 k, LeO (laws_toIntS.f k a0) (laws_toIntS.f (k + 1) a0) := by
 intro a0 k
 have ih0 := laws_toIntS.mono_l k
 unfold laws_toIntS.f
 repeat' first
   | (with_reducible exact ih0 _ _ _)
   | (with_reducible exact LeO.refl _)
   | (with_reducible exact LeO.none _)
   | (with_reducible refine LeO.ite ?_ ?_)
   | (with_reducible refine LeO.bind ?_ (fun _ => ?_))
   | exact ih0 _ _ _
   | exact LeO.none _
   | refine LeO.ite ?_ ?_
   | refine LeO.bind ?_ (fun _ => ?_)
set_option maxHeartbeats 8000000 in
set_option maxRecDepth 100000 in
theorem laws_toIntS.calls (k : Nat) (A0 : Option Addr) (c0 : Nat) (l0 : List Int) (r : List Int) (w : World) (hr0 : Kd.C (Kd.int .i64) w A0 l0.length l0) (hc0 : l0.length ≤ c0) (h : laws_toIntS.f k l0 = some r) :
  Calls Try.prog 14 #[.slice A0 l0.length c0] w fun e w' => ∃ v0_ : Value, e = .returned (v0_) ∧ Kd.R (Kd.int .i64) 3 w' w.heap.size (fun _ => True) v0_ r ∧ Below w.heap.size w w' := by
 have HR0 := Zh hr0
 have HC0 := Zh hc0
 clear hr0 hc0
 have HB := Zh (Below.refl w.heap.size w)
 have H : (if 0 ≤ (l0.length : Int) then (if ((l0.length : Int) : Int).toNat ≤ 35184372088832 then (laws_toIntS.l0 k l0 (List.replicate ((l0.length : Int) : Int).toNat 0) 0) else (none)) else (none)) = some r := h
 clear h
 by_cases c2 : 0 ≤ (l0.length : Int)
 ·
  rw [if_pos c2] at H
  have c2b0 := eq_true c2
  have c2b1 : decide (0 ≤ (l0.length : Int)) = true := decide_eq_true c2
  clear c2
  by_cases c3 : ((l0.length : Int) : Int).toNat ≤ 35184372088832
  ·
   rw [if_pos c3] at H
   have c3b0 := eq_true c3
   have c3b1 : decide (((l0.length : Int) : Int).toNat ≤ 35184372088832) = true := decide_eq_true c3
   clear c3
   obtain ⟨y122, hy122⟩ : ∃ y_ : List Int, y_ = (List.replicate ((l0.length : Int) : Int).toNat 0) := ⟨_, rfl⟩
   replace H : (laws_toIntS.l0 k l0 y122 0) = some r := by first | (rw [hy122]; with_reducible exact H) | (have H2_ := (Option.bind_some _ _).symm.trans H; rw [hy122]; with_reducible exact H2_) | (have H2_ := (Option.bind_some _ _).symm.trans H; with_reducible exact H2_) | with_reducible exact H | (rw [hy122]; exact H) | exact H
   have Ny122 := Zh hy122
   clear hy122
   have H' := Zh H
   clear H
   go_enter Try.func14, Try.ntmps14
   go_wp2_with (first | ((with_reducible refine gate_dst (N := 7) rfl ?_); refine R_make (Kd.int .i64) _ 3 rfl (N := 7) rfl 22 _ _ rfl (l0.length : Int) rfl rfl Try.underlying22 (.int .i64 0) 8 info3 rfl (by decide) (by omega) 0 (ok := fun _ => True) (okp := fun _ => True) rfl (fun _ hk => hk) trivial (Zo) (Nat.le_trans (Nat.mul_le_mul_right _ (Zo : (l0.length : Int).toNat ≤ 35184372088832)) (by omega)) (Below.refl _ _) (Nat.le_refl _) ?_; intro v123 w4 ho5 hb hg_ hnew_; clear hg_ hnew_; (first | rw [← Ny122.out] at ho5 | (simp only [Int.reduceToNat] at ho5; rw [← Ny122.out] at ho5)); have HO124 := Zh (R_lower ho5 (below_size Zs)); replace HB := Zh (Zl Zs hb); clear hb ho5))
   go_loopg [4] k (fun kq v4 w' => ∃ (x3_1 : List Int) (x4_1 : Int), v4 = .int .i64 x4_1 ∧ Aside0 (laws_toIntS.l0 kq l0 x3_1 x4_1 = some r) ∧ Aside0 (kq ≤ k) ∧ Aside0 (Kd.R (Kd.int .i64) 3 w' w.heap.size (fun _ => True) v123 x3_1) ∧ Aside0 (Below w.heap.size w w'))
   case atStart => exact ⟨(y122), (0), (by first | rfl | (simp; done) | (simp [*]; done)), H', ⟨Nat.le_refl _⟩, ⟨ZR HO124.out⟩, ⟨Zs⟩⟩
   case round =>
    clear H'
    try clear c1
    try clear c2
    try clear c2b0
    try clear c2b1
    try clear p2
    try clear c3
    try clear c3b0
    try clear c3b1
    obtain ⟨x3_1, x4_1, rfl, HA, HK1, HO_3, HB⟩ := hrel
    cases gk with
    | zero => exact absurd HA.out (by simp [laws_toIntS.l0])
    | succ k1 =>
     have H := HA.out
     clear HA
     simp only [laws_toIntS.l0] at H
     by_cases c6 : x4_1 < (l0.length : Int)
     ·
      rw [if_pos c6] at H
      have c6b0 : decide (x4_1 < (l0.length : Int)) = true := decide_eq_true c6
      clear c6
      by_cases c7 : 0 ≤ x4_1
      ·
       rw [if_pos c7] at H
       have c7b0 : decide (0 ≤ x4_1) = true := decide_eq_true c7
       clear c7
       by_cases c8 : x4_1 < (x3_1.length : Int)
       ·
        rw [if_pos c8] at H
        have c8b0 : decide (x4_1 < (x3_1.length : Int)) = true := decide_eq_true c8
        clear c8
        obtain ⟨y126, hy126⟩ : ∃ y_ : List Int, y_ = (x3_1.set (x4_1 : Int).toNat (rd l0 x4_1)) := ⟨_, rfl⟩
        replace H : (laws_toIntS.l0 k1 l0 y126 (wrap64 (x4_1 + 1))) = some r := by first | (rw [hy126]; with_reducible exact H) | (have H2_ := (Option.bind_some _ _).symm.trans H; rw [hy126]; with_reducible exact H2_) | (have H2_ := (Option.bind_some _ _).symm.trans H; with_reducible exact H2_) | with_reducible exact H | (rw [hy126]; exact H) | exact H
        have Ny126 := Zh hy126
        clear hy126
        have H' := Zh H
        clear H
        have p125 : 0 ≤ (x4_1 : Int) := Zo
        have q125 : x4_1 < (l0.length : Int) := Zo
        obtain ⟨ad125, e125, hx125_0⟩ := Kd.at_int HR0.out x4_1 p125 q125
        cases e125
        replace hx125_0 := Zc HB.out hx125_0
        replace p125 := eq_true p125
        replace q125 := eq_true q125
        have p9 : 0 ≤ (x4_1 : Int) := Zo
        have q9 : (x4_1 : Int) < ((x3_1.length : Int) : Int) := Zo
        obtain ⟨go9, co9, eo9, gb9, gl9, cl9, HG9⟩ := R_form HO_3.out (by omega)
        (first | cases eo9 | (injection eo9 with ea_ en_ ec_; (first | subst ea_ | (injection ea_ with ea_; subst ea_)); subst ec_; clear en_))
        have GB9 := Zh gb9
        have GG9 := Zh HG9
        clear gb9 gl9 HG9
        obtain ⟨hx9_0, hf9_0⟩ := R_celln 0 HO_3.out (x4_1 : Int) p9 q9
        replace p9 := eq_true p9
        replace q9 := eq_true q9
        have HP10 := R_putg HO_3.out (x4_1 : Int) (rd l0 x4_1)
        go_wp2_with (first | ((with_reducible refine gate_store (t := 3) (p := 20) rfl ?_); refine store_event (t := 3) (p := 20) (v := ?vo_w11) (w1 := (wr.setCell ⟨go9, (x4_1 : Int).toNat, none⟩ (.int .i64 (rd l0 x4_1)))) ?hg ?ho ?hn ?hr ?_; (case ho => rfl); (case hg => rfl); (case hn => rfl); (case hr => first | (go_simp; done) | (go_simp; rfl)); intro w11 hw; have hg : wr.grownBy w11 (some go9) := (by rw [hw]; exact HP10.2); have hp_ : Kd.R (Kd.int .i64) 3 w11 w.heap.size (fun _ => True) (.slice (some ⟨go9, 0, none⟩) x3_1.length co9) y126 := (by rw [hw, Ny126.out]; exact HP10.1); clear HP10; replace HO_3 := Zh (hp_); replace HB := Zh ((by rw [hw]; exact below_set (HB.out) GB9.out : Below w.heap.size w w11)); clear hg hw hp_))
        go_roundg k1
        case measure => have := HK1.out; omega
        case rel => exact ⟨(y126), (wrap64 (x4_1 + 1)), (by first | rfl | (simp; done) | (simp [*]; done)), H', ⟨by have := HK1.out; omega⟩, ⟨ZR HO_3.out⟩, ⟨Zs⟩⟩
       rw [if_neg c8] at H
       exact absurd H (by simp)
      rw [if_neg c7] at H
      exact absurd H (by simp)
     rw [if_neg c6] at H
     have c6b0 : decide (x4_1 < (l0.length : Int)) = false := decide_eq_false c6
     clear c6
     obtain rfl := Option.some.inj H
     go_wp2
     go_ret
     exact ⟨_, ZE, ZR HO_3.out, Zs⟩
  rw [if_neg c3] at H
  exact absurd H (by simp)
 rw [if_neg c2] at H
 exact absurd H (by simp)

/-! ### laws_toConf: function 10 -/
def laws_toConf.f (k : Nat) (l0_0 : List Int) (l0_1 : List Int) (l0_2 : List Int) : Option (List Int × List Int × List Int) := (laws_toIntS.f k l0_0).bind fun t130 => ((laws_toIntS.f k l0_1).bind fun t133 => ((laws_toIntS.f k l0_2).bind fun t136 => (some (t130, t133, t136))))
theorem laws_toConf.mono : ∀ a0 a1 a2 k, LeO (laws_toConf.f k a0 a1 a2) (laws_toConf.f (k + 1) a0 a1 a2) := by
 intro a0 a1 a2 k
 unfold laws_toConf.f
 repeat' first
   | (with_reducible exact laws_toIntS.mono _ _)
   | (with_reducible exact LeO.refl _)
   | (with_reducible exact LeO.none _)
   | (with_reducible refine LeO.ite ?_ ?_)
   | (with_reducible refine LeO.bind ?_ (fun _ => ?_))
   | exact laws_toIntS.mono _ _
   | exact LeO.none _
   | refine LeO.ite ?_ ?_
   | refine LeO.bind ?_ (fun _ => ?_)
set_option maxHeartbeats 8000000 in
set_option maxRecDepth 100000 in
theorem laws_toConf.calls (k : Nat) (A0_0 : Option Addr) (c0_0 : Nat) (l0_0 : List Int) (A0_1 : Option Addr) (c0_1 : Nat) (l0_1 : List Int) (A0_2 : Option Addr) (c0_2 : Nat) (l0_2 : List Int) (r1 : List Int) (r2 : List Int) (r3 : List Int) (w : World) (hr0_0 : Kd.C (Kd.int .i64) w A0_0 l0_0.length l0_0) (hc0_0 : l0_0.length ≤ c0_0) (hr0_1 : Kd.C (Kd.int .i64) w A0_1 l0_1.length l0_1) (hc0_1 : l0_1.length ≤ c0_1) (hr0_2 : Kd.C (Kd.int .i64) w A0_2 l0_2.length l0_2) (hc0_2 : l0_2.length ≤ c0_2) (h : laws_toConf.f k l0_0 l0_1 l0_2 = some (r1, r2, r3)) :
  Calls Try.prog 10 #[.agg #[.slice A0_0 l0_0.length c0_0, .slice A0_1 l0_1.length c0_1, .slice A0_2 l0_2.length c0_2]] w fun e w' => ∃ v0_ v1_ v2_ : Value, e = .returned (.agg #[v0_, v1_, v2_]) ∧ Kd.R (Kd.int .i64) 3 w' w.heap.size (fun k_ => some k_ ≠ (v1_ : Value).ownBlock ∧ some k_ ≠ (v2_ : Value).ownBlock) v0_ r1 ∧ Kd.R (Kd.int .i64) 3 w' w.heap.size (fun k_ => some k_ ≠ (v0_ : Value).ownBlock ∧ some k_ ≠ (v2_ : Value).ownBlock) v1_ r2 ∧ Kd.R (Kd.int .i64) 3 w' w.heap.size (fun k_ => some k_ ≠ (v0_ : Value).ownBlock ∧ some k_ ≠ (v1_ : Value).ownBlock) v2_ r3 ∧ Below w.heap.size w w' := by
 have hu24 := Try.underlying24
 have hu27 := Try.underlying27
 have HR0_0 := Zh hr0_0
 have HC0_0 := Zh hc0_0
 clear hr0_0 hc0_0
 have HR0_1 := Zh hr0_1
 have HC0_1 := Zh hc0_1
 clear hr0_1 hc0_1
 have HR0_2 := Zh hr0_2
 have HC0_2 := Zh hc0_2
 clear hr0_2 hc0_2
 have HB := Zh (Below.refl w.heap.size w)
 have H : ((laws_toIntS.f k l0_0).bind fun t130 => ((laws_toIntS.f k l0_1).bind fun t133 => ((laws_toIntS.f k l0_2).bind fun t136 => (some (t130, t133, t136))))) = some (r1, r2, r3) := h
 clear h
 replace H := Option.bind_eq_some_iff.mp H
 obtain ⟨t130, A20, H⟩ := H
 replace H : ((laws_toIntS.f k l0_1).bind fun t133 => ((laws_toIntS.f k l0_2).bind fun t136 => (some (t130, t133, t136)))) = some (r1, r2, r3) := H
 have A2 := Zh A20
 clear A20
 replace H := Option.bind_eq_some_iff.mp H
 obtain ⟨t133, A30, H⟩ := H
 replace H : ((laws_toIntS.f k l0_2).bind fun t136 => (some (t130, t133, t136))) = some (r1, r2, r3) := H
 have A3 := Zh A30
 clear A30
 replace H := Option.bind_eq_some_iff.mp H
 obtain ⟨t136, A40, H⟩ := H
 replace H : (some (t130, t133, t136)) = some (r1, r2, r3) := H
 have A4 := Zh A40
 clear A40
 simp only [Option.some.injEq, Prod.mk.injEq] at H
 obtain ⟨rfl, rfl, rfl⟩ := H
 go_enter Try.func10, Try.ntmps10
 go_wp2_with (first | ((with_reducible refine gate_dst (N := 1) rfl ?_); refine box_event ?hg (N := 1) ?hd (cs := #[.slice A0_0 l0_0.length c0_0, .slice A0_1 l0_1.length c0_1, .slice A0_2 l0_2.length c0_2]) (t := 24) ?hr ?_; (case hd => rfl); (case hg => rfl); (case hr => first | (go_simp; done) | (go_simp; rfl)); intro gb127 hg w5 hbox hb; have BK127 := Zh (hbox); have GW127 := Zh ((by rw [hg]; exact (below_size Zs) : w.heap.size ≤ gb127)); have GE127 := Zh ((by rw [hg]; exact (below_size Zs) : w.heap.size ≤ gb127)); replace HB := Zh (Zl Zs hb); clear hb hbox hg) | ((with_reducible refine gate_dst (N := 2) rfl ?_); refine box_event ?hg (N := 2) ?hd (cs := #[.slice none 0 0, .slice none 0 0, .slice none 0 0]) (t := 27) ?hr ?_; (case hd => rfl); (case hg => rfl); (case hr => first | (go_simp; done) | (go_simp; rfl)); intro gb128 hg w6 hbox hb; have BK128 := Zh (hbox); have GW128 := Zh ((by rw [hg]; exact (below_size Zs) : w.heap.size ≤ gb128)); have GE128 := Zh ((by rw [hg]; exact (below_size Zs) : w.heap.size ≤ gb128)); replace HB := Zh (Zl Zs hb); have NB127_128 := Zh ((by rw [hg]; exact Nat.ne_of_lt (blk_lt (g := gb127) (o := .cells #[.slice A0_0 l0_0.length c0_0, .slice A0_1 l0_1.length c0_1, .slice A0_2 l0_2.length c0_2] 24 (0, 0)) Zk) : gb127 ≠ gb128)); have NB128_127 := Zh ((by rw [hg]; exact Nat.ne_of_gt (blk_lt (g := gb127) (o := .cells #[.slice A0_0 l0_0.length c0_0, .slice A0_1 l0_1.length c0_1, .slice A0_2 l0_2.length c0_2] 24 (0, 0)) Zk) : gb128 ≠ gb127)); replace BK127 := Zh (Zm (g := gb127) (o := .cells #[.slice A0_0 l0_0.length c0_0, .slice A0_1 l0_1.length c0_1, .slice A0_2 l0_2.length c0_2] 24 (0, 0)) Zk hb); clear hb hbox hg) | ((with_reducible refine gate_dst (N := 3) rfl ?_); refine box_event ?hg (N := 3) ?hd (cs := #[.slice none 0 0, .slice none 0 0, .slice none 0 0]) (t := 27) ?hr ?_; (case hd => rfl); (case hg => rfl); (case hr => first | (go_simp; done) | (go_simp; rfl)); intro gb129 hg w7 hbox hb; have BK129 := Zh (hbox); have GW129 := Zh ((by rw [hg]; exact (below_size Zs) : w.heap.size ≤ gb129)); have GE129 := Zh ((by rw [hg]; exact (below_size Zs) : w.heap.size ≤ gb129)); replace HB := Zh (Zl Zs hb); have NB127_129 := Zh ((by rw [hg]; exact Nat.ne_of_lt (blk_lt (g := gb127) (o := .cells #[.slice A0_0 l0_0.length c0_0, .slice A0_1 l0_1.length c0_1, .slice A0_2 l0_2.length c0_2] 24 (0, 0)) Zk) : gb127 ≠ gb129)); have NB129_127 := Zh ((by rw [hg]; exact Nat.ne_of_gt (blk_lt (g := gb127) (o := .cells #[.slice A0_0 l0_0.length c0_0, .slice A0_1 l0_1.length c0_1, .slice A0_2 l0_2.length c0_2] 24 (0, 0)) Zk) : gb129 ≠ gb127)); replace BK127 := Zh (Zm (g := gb127) (o := .cells #[.slice A0_0 l0_0.length c0_0, .slice A0_1 l0_1.length c0_1, .slice A0_2 l0_2.length c0_2] 24 (0, 0)) Zk hb); have NB128_129 := Zh ((by rw [hg]; exact Nat.ne_of_lt (blk_lt (g := gb128) (o := .cells #[.slice none 0 0, .slice none 0 0, .slice none 0 0] 27 (0, 0)) Zk) : gb128 ≠ gb129)); have NB129_128 := Zh ((by rw [hg]; exact Nat.ne_of_gt (blk_lt (g := gb128) (o := .cells #[.slice none 0 0, .slice none 0 0, .slice none 0 0] 27 (0, 0)) Zk) : gb129 ≠ gb128)); replace BK128 := Zh (Zm (g := gb128) (o := .cells #[.slice none 0 0, .slice none 0 0, .slice none 0 0] 27 (0, 0)) Zk hb); clear hb hbox hg; have hnb8 := NB127_128.out; have hnc8 := NB128_127.out; have hnb9 := NB127_129.out; have hnc9 := NB129_127.out; have hcz10_0 : w7.cell? ⟨gb127, 0, none⟩ = some (.slice A0_0 l0_0.length c0_0) := (blk_cell BK127.out 0).trans rfl; have hcz10_1 : w7.cell? ⟨gb127, 1, none⟩ = some (.slice A0_1 l0_1.length c0_1) := (blk_cell BK127.out 1).trans rfl; have hcz10_2 : w7.cell? ⟨gb127, 2, none⟩ = some (.slice A0_2 l0_2.length c0_2) := (blk_cell BK127.out 2).trans rfl; have hfz10_0 := Zn BK127.out 0; have hfz10_1 := Zn BK127.out 1; have hfz10_2 := Zn BK127.out 2) | ((with_reducible refine gate_callee (f := 14) rfl ?_); refine ZG (some 6) Try.func14 #[.slice A0_0 l0_0.length c0_0] rfl ?_; (with_reducible refine (laws_toIntS.calls k _ _ l0_0 t130 _ ?side1 ?side2 A2.out).mono ?_); (case side1 => repeat (first | exact (C_below HR0_0.out HB.out) | (with_reducible refine C_alloc ?_ _) | (with_reducible refine C_drewN ?_ _) | (with_reducible refine C_drew ?_))); (case side2 => exact HC0_0.out); rintro e w11 ⟨v131, rfl, ho0, hb⟩; refine ⟨_, rfl, ?_⟩; have HO132 := Zh (R_lower ho0 (below_size Zs)); replace BK127 := Zh (Zm (g := gb127) (o := .cells #[.slice A0_0 l0_0.length c0_0, .slice A0_1 l0_1.length c0_1, .slice A0_2 l0_2.length c0_2] 24 (0, 0)) Zk hb); replace BK128 := Zh (Zm (g := gb128) (o := .cells #[.slice none 0 0, .slice none 0 0, .slice none 0 0] 27 (0, 0)) Zk hb); replace BK129 := Zh (Zm (g := gb129) (o := .cells #[.slice none 0 0, .slice none 0 0, .slice none 0 0] 27 (0, 0)) Zk hb); replace HB := Zh (Zl Zs hb); (try clear hb); (try clear hb2); (try clear hk); (try clear hi); (try clear ho0); obtain ⟨Ao12, co12, eo12⟩ := R_slice HO132.out; subst eo12; have hnb13 := NB129_128.out; have hnc13 := NB128_129.out; have hcz14_0 : w11.cell? ⟨gb129, 0, none⟩ = some (.slice none 0 0) := (blk_cell BK129.out 0).trans rfl; have hcz14_1 : w11.cell? ⟨gb129, 1, none⟩ = some (.slice none 0 0) := (blk_cell BK129.out 1).trans rfl; have hcz14_2 : w11.cell? ⟨gb129, 2, none⟩ = some (.slice none 0 0) := (blk_cell BK129.out 2).trans rfl; have hfz14_0 := Zn BK129.out 0; have hfz14_1 := Zn BK129.out 1; have hfz14_2 := Zn BK129.out 2; have hcz15_0 : w11.cell? ⟨gb127, 0, none⟩ = some (.slice A0_0 l0_0.length c0_0) := (blk_cell BK127.out 0).trans rfl; have hcz15_1 : w11.cell? ⟨gb127, 1, none⟩ = some (.slice A0_1 l0_1.length c0_1) := (blk_cell BK127.out 1).trans rfl; have hcz15_2 : w11.cell? ⟨gb127, 2, none⟩ = some (.slice A0_2 l0_2.length c0_2) := (blk_cell BK127.out 2).trans rfl; have hfz15_0 := Zn BK127.out 0; have hfz15_1 := Zn BK127.out 1; have hfz15_2 := Zn BK127.out 2) | ((with_reducible refine gate_callee (f := 14) rfl ?_); refine ZG (some 10) Try.func14 #[.slice A0_1 l0_1.length c0_1] rfl ?_; (with_reducible refine (laws_toIntS.calls k _ _ l0_1 t133 _ ?side1 ?side2 A3.out).mono ?_); (case side1 => exact C_below HR0_1.out Zs); (case side2 => exact HC0_1.out); rintro e w16 ⟨v134, rfl, ho0, hb⟩; refine ⟨_, rfl, ?_⟩; have HO135 := Zh (R_lower (R_new' ho0 (R_lt (ZR (R_mono (R_far (p := ⟨gb129, 0, none⟩) (R_types HO132.out BK129.out (by decide)) (fun _ hk => hk.2) (.slice Ao12 t130.length co12)) (fun _ h_ => h_.1))))) (below_size Zs)); replace HO132 := Zh (R_elder' (ZR (R_mono (R_far (p := ⟨gb129, 0, none⟩) (R_types HO132.out BK129.out (by decide)) (fun _ hk => hk.2) (.slice Ao12 t130.length co12)) (fun _ h_ => h_.1))) (R_base ho0) hb); replace BK127 := Zh (Zm (g := gb127) (o := .cells #[.slice A0_0 l0_0.length c0_0, .slice A0_1 l0_1.length c0_1, .slice A0_2 l0_2.length c0_2] 24 (0, 0)) (by (with_reducible repeat (first | refine blk_drewN ?_ _ | refine blk_drew ?_ | refine blk_alloc ?_ _)); refine blk_far ?_ NB127_129.out _; (with_reducible repeat (first | refine blk_drewN ?_ _ | refine blk_drew ?_ | refine blk_alloc ?_ _)); exact BK127.out) hb); replace BK128 := Zh (Zm (g := gb128) (o := .cells #[.slice none 0 0, .slice none 0 0, .slice none 0 0] 27 (0, 0)) (by (with_reducible repeat (first | refine blk_drewN ?_ _ | refine blk_drew ?_ | refine blk_alloc ?_ _)); refine blk_far ?_ NB128_129.out _; (with_reducible repeat (first | refine blk_drewN ?_ _ | refine blk_drew ?_ | refine blk_alloc ?_ _)); exact BK128.out) hb); replace BK129 := Zh (Zm (g := gb129) (o := .cells #[.slice Ao12 t130.length co12, .slice none 0 0, .slice none 0 0] 27 (0, 0)) (by (with_reducible repeat (first | refine blk_drewN ?_ _ | refine blk_drew ?_ | refine blk_alloc ?_ _)); refine blk_put (cs := #[.slice none 0 0, .slice none 0 0, .slice none 0 0]) ?_ 0 _ rfl; (with_reducible repeat (first | refine blk_drewN ?_ _ | refine blk_drew ?_ | refine blk_alloc ?_ _)); exact BK129.out) hb); replace HB := Zh (Zl Zs hb); (try clear hb); (try clear hb2); (try clear hk); (try clear hi); (try clear ho0); obtain ⟨Ao17, co17, eo17⟩ := R_slice HO135.out; subst eo17; have hcz18_0 : w16.cell? ⟨gb129, 0, none⟩ = some (.slice Ao12 t130.length co12) := (blk_cell BK129.out 0).trans rfl; have hcz18_1 : w16.cell? ⟨gb129, 1, none⟩ = some (.slice none 0 0) := (blk_cell BK129.out 1).trans rfl; have hcz18_2 : w16.cell? ⟨gb129, 2, none⟩ = some (.slice none 0 0) := (blk_cell BK129.out 2).trans rfl; have hfz18_0 := Zn BK129.out 0; have hfz18_1 := Zn BK129.out 1; have hfz18_2 := Zn BK129.out 2; have hcz19_0 : w16.cell? ⟨gb127, 0, none⟩ = some (.slice A0_0 l0_0.length c0_0) := (blk_cell BK127.out 0).trans rfl; have hcz19_1 : w16.cell? ⟨gb127, 1, none⟩ = some (.slice A0_1 l0_1.length c0_1) := (blk_cell BK127.out 1).trans rfl; have hcz19_2 : w16.cell? ⟨gb127, 2, none⟩ = some (.slice A0_2 l0_2.length c0_2) := (blk_cell BK127.out 2).trans rfl; have hfz19_0 := Zn BK127.out 0; have hfz19_1 := Zn BK127.out 1; have hfz19_2 := Zn BK127.out 2) | ((with_reducible refine gate_callee (f := 14) rfl ?_); refine ZG (some 14) Try.func14 #[.slice A0_2 l0_2.length c0_2] rfl ?_; (with_reducible refine (laws_toIntS.calls k _ _ l0_2 t136 _ ?side1 ?side2 A4.out).mono ?_); (case side1 => exact C_below HR0_2.out Zs); (case side2 => exact HC0_2.out); rintro e w20 ⟨v137, rfl, ho0, hb⟩; refine ⟨_, rfl, ?_⟩; have HO138 := Zh (R_lower (R_new' (R_new' ho0 (R_lt (ZR (R_mono (R_far (p := ⟨gb129, 1, none⟩) (R_types HO132.out BK129.out (by decide)) (fun _ hk => hk.2) (.slice Ao17 t133.length co17)) (fun _ h_ => h_.1))))) (R_lt (ZR (R_mono (R_far (p := ⟨gb129, 1, none⟩) (R_types HO135.out BK129.out (by decide)) (fun _ hk => hk.2) (.slice Ao17 t133.length co17)) (fun _ h_ => h_.1))))) (below_size Zs)); replace HO132 := Zh (R_elder' (ZR (R_mono (R_far (p := ⟨gb129, 1, none⟩) (R_types HO132.out BK129.out (by decide)) (fun _ hk => hk.2) (.slice Ao17 t133.length co17)) (fun _ h_ => h_.1))) (R_base ho0) hb); replace HO135 := Zh (R_elder' (ZR (R_mono (R_far (p := ⟨gb129, 1, none⟩) (R_types HO135.out BK129.out (by decide)) (fun _ hk => hk.2) (.slice Ao17 t133.length co17)) (fun _ h_ => h_.1))) (R_base ho0) hb); replace BK127 := Zh (Zm (g := gb127) (o := .cells #[.slice A0_0 l0_0.length c0_0, .slice A0_1 l0_1.length c0_1, .slice A0_2 l0_2.length c0_2] 24 (0, 0)) (by (with_reducible repeat (first | refine blk_drewN ?_ _ | refine blk_drew ?_ | refine blk_alloc ?_ _)); refine blk_far ?_ NB127_129.out _; (with_reducible repeat (first | refine blk_drewN ?_ _ | refine blk_drew ?_ | refine blk_alloc ?_ _)); exact BK127.out) hb); replace BK128 := Zh (Zm (g := gb128) (o := .cells #[.slice none 0 0, .slice none 0 0, .slice none 0 0] 27 (0, 0)) (by (with_reducible repeat (first | refine blk_drewN ?_ _ | refine blk_drew ?_ | refine blk_alloc ?_ _)); refine blk_far ?_ NB128_129.out _; (with_reducible repeat (first | refine blk_drewN ?_ _ | refine blk_drew ?_ | refine blk_alloc ?_ _)); exact BK128.out) hb); replace BK129 := Zh (Zm (g := gb129) (o := .cells #[.slice Ao12 t130.length co12, .slice Ao17 t133.length co17, .slice none 0 0] 27 (0, 0)) (by (with_reducible repeat (first | refine blk_drewN ?_ _ | refine blk_drew ?_ | refine blk_alloc ?_ _)); refine blk_put (cs := #[.slice Ao12 t130.length co12, .slice none 0 0, .slice none 0 0]) ?_ 1 _ rfl; (with_reducible repeat (first | refine blk_drewN ?_ _ | refine blk_drew ?_ | refine blk_alloc ?_ _)); exact BK129.out) hb); replace HB := Zh (Zl Zs hb); (try clear hb); (try clear hb2); (try clear hk); (try clear hi); (try clear ho0); obtain ⟨Ao21, co21, eo21⟩ := R_slice HO138.out; subst eo21; have hcz22_0 : w20.cell? ⟨gb129, 0, none⟩ = some (.slice Ao12 t130.length co12) := (blk_cell BK129.out 0).trans rfl; have hcz22_1 : w20.cell? ⟨gb129, 1, none⟩ = some (.slice Ao17 t133.length co17) := (blk_cell BK129.out 1).trans rfl; have hcz22_2 : w20.cell? ⟨gb129, 2, none⟩ = some (.slice none 0 0) := (blk_cell BK129.out 2).trans rfl; have hfz22_0 := Zn BK129.out 0; have hfz22_1 := Zn BK129.out 1; have hfz22_2 := Zn BK129.out 2; have hcz23_0 : w20.cell? ⟨gb128, 0, none⟩ = some (.slice none 0 0) := (blk_cell BK128.out 0).trans rfl; have hcz23_1 : w20.cell? ⟨gb128, 1, none⟩ = some (.slice none 0 0) := (blk_cell BK128.out 1).trans rfl; have hcz23_2 : w20.cell? ⟨gb128, 2, none⟩ = some (.slice none 0 0) := (blk_cell BK128.out 2).trans rfl; have hfz23_0 := Zn BK128.out 0; have hfz23_1 := Zn BK128.out 1; have hfz23_2 := Zn BK128.out 2))
 refine bodyPost_ret (results_cell_row rfl _ _ gb128 27 #[.slice Ao12 t130.length co12, .slice Ao17 t133.length co17, .slice Ao21 t136.length co21] (0, 0) _ rfl (by (with_reducible repeat (first | refine blk_drewN ?_ _ | refine blk_drew ?_ | refine blk_alloc ?_ _)); refine blk_put (cs := #[.slice Ao12 t130.length co12, .slice Ao17 t133.length co17, .slice none 0 0]) ?_ 2 _ rfl; (with_reducible repeat (first | refine blk_drewN ?_ _ | refine blk_drew ?_ | refine blk_alloc ?_ _)); refine blk_put (cs := #[.slice Ao12 t130.length co12, .slice none 0 0, .slice none 0 0]) ?_ 1 _ rfl; (with_reducible repeat (first | refine blk_drewN ?_ _ | refine blk_drew ?_ | refine blk_alloc ?_ _)); refine blk_put (cs := #[.slice none 0 0, .slice none 0 0, .slice none 0 0]) ?_ 0 _ rfl; (with_reducible repeat (first | refine blk_drewN ?_ _ | refine blk_drew ?_ | refine blk_alloc ?_ _)); refine blk_far ?_ NB128_129.out _; (with_reducible repeat (first | refine blk_drewN ?_ _ | refine blk_drew ?_ | refine blk_alloc ?_ _)); exact BK128.out) Try.underlying27 rfl (by kernel_rfl)) rfl ?_
 exact ⟨_, _, _, ZE, ZR (R_mono (R_far (p := ⟨gb128, 2, none⟩) (R_far (p := ⟨gb128, 1, none⟩) (R_far (p := ⟨gb128, 0, none⟩) (R_far (p := ⟨gb129, 2, none⟩) (R_types (R_types HO132.out BK129.out (by decide)) BK128.out (by decide)) (fun _ hk => hk.1.2) (.slice Ao21 t136.length co21)) (fun _ hk => hk.2) (.slice Ao12 t130.length co12)) (fun _ hk => hk.2) (.slice Ao17 t133.length co17)) (fun _ hk => hk.2) (.slice Ao21 t136.length co21)) (fun _ hk => ⟨hk.1.1.1.2, hk.1.1.2⟩)), ZR (R_mono (R_far (p := ⟨gb128, 2, none⟩) (R_far (p := ⟨gb128, 1, none⟩) (R_far (p := ⟨gb128, 0, none⟩) (R_far (p := ⟨gb129, 2, none⟩) (R_types (R_types HO135.out BK129.out (by decide)) BK128.out (by decide)) (fun _ hk => hk.1.2) (.slice Ao21 t136.length co21)) (fun _ hk => hk.2) (.slice Ao12 t130.length co12)) (fun _ hk => hk.2) (.slice Ao17 t133.length co17)) (fun _ hk => hk.2) (.slice Ao21 t136.length co21)) (fun _ hk => ⟨hk.1.1.1.2, hk.1.1.2⟩)), ZR (R_mono (R_far (p := ⟨gb128, 2, none⟩) (R_far (p := ⟨gb128, 1, none⟩) (R_far (p := ⟨gb128, 0, none⟩) (R_far (p := ⟨gb129, 2, none⟩) (R_types (R_types HO138.out BK129.out (by decide)) BK128.out (by decide)) (fun _ hk => hk.1.2) (.slice Ao21 t136.length co21)) (fun _ hk => hk.2) (.slice Ao12 t130.length co12)) (fun _ hk => hk.2) (.slice Ao17 t133.length co17)) (fun _ hk => hk.2) (.slice Ao21 t136.length co21)) (fun _ hk => ⟨hk.1.1.1.2, hk.1.1.2⟩)), Zs⟩

/-! ### laws_eqIntS: function 16 -/
def laws_eqIntS.l0 : Nat → List Int → List Int → Int → Option (Bool)
 | 0, _, _, _ => none
 | k + 1, x0, x1, x5 => if x5 < (x0.length : Int) then (if 0 ≤ x5 then (if x5 < (x1.length : Int) then (if (rd x0 x5) = (rd x1 x5) then (laws_eqIntS.l0 k x0 x1 (wrap64 (x5 + 1))) else (some false)) else (none)) else (none)) else (some true)
def laws_eqIntS.f (k : Nat) (l0 : List Int) (l1 : List Int) : Option (Bool) := if (l0.length : Int) = (l1.length : Int) then (laws_eqIntS.l0 k l0 l1 0) else (some false)
theorem laws_eqIntS.mono_l : ∀ k, (∀ y0 y1 y2, LeO (laws_eqIntS.l0 k y0 y1 y2) (laws_eqIntS.l0 (k + 1) y0 y1 y2))
 | 0 => fun _ _ _ r h => by simp [laws_eqIntS.l0] at h
 | k + 1 => by
  have ih0 := laws_eqIntS.mono_l k
  ·
   intro y0 y1 y2
   unfold laws_eqIntS.l0
   repeat' first
   | (with_reducible exact ih0 _ _ _)
   | (with_reducible exact LeO.refl _)
   | (with_reducible exact LeO.none _)
   | (with_reducible refine LeO.ite ?_ ?_)
   | (with_reducible refine LeO.bind ?_ (fun _ => ?_))
   | exact ih0 _ _ _
   | exact LeO.none _
   | refine LeO.ite ?_ ?_
   | refine LeO.bind ?_ (fun _ => ?_)
theorem laws_eqIntS.mono : ∀ a0 a1 k, LeO (laws_eqIntS.f k a0 a1) (laws_eqIntS.f (k + 1) a0 a1) := by
 intro a0 a1 k
 have ih0 := laws_eqIntS.mono_l k
 unfold laws_eqIntS.f
 repeat' first
   | (with_reducible exact ih0 _ _ _)
   | (with_reducible exact LeO.refl _)
   | (with_reducible exact LeO.none _)
   | (with_reducible refine LeO.ite ?_ ?_)
   | (with_reducible refine LeO.bind ?_ (fun _ => ?_))
   | exact ih0 _ _ _
   | exact LeO.none _
   | refine LeO.ite ?_ ?_
   | refine LeO.bind ?_ (fun _ => ?_)
set_option maxHeartbeats 8000000 in
set_option maxRecDepth 100000 in
theorem laws_eqIntS.calls (k : Nat) (A0 : Option Addr) (c0 : Nat) (l0 : List Int) (A1 : Option Addr) (c1 : Nat) (l1 : List Int) (r : Bool) (w : World) (hr0 : Kd.C (Kd.int .i64) w A0 l0.length l0) (hc0 : l0.length ≤ c0) (hr1 : Kd.C (Kd.int .i64) w A1 l1.length l1) (hc1 : l1.length ≤ c1) (h : laws_eqIntS.f k l0 l1 = some r) :
  Calls Try.prog 16 #[.slice A0 l0.length c0, .slice A1 l1.length c1] w fun e w' => e = .returned (.bool r) ∧ Drawn0 w w' := by
 have HR0 := Zh hr0
 have HC0 := Zh hc0
 clear hr0 hc0
 have HR1 := Zh hr1
 have HC1 := Zh hc1
 clear hr1 hc1
 have H : (if (l0.length : Int) = (l1.length : Int) then (laws_eqIntS.l0 k l0 l1 0) else (some false)) = some r := h
 clear h
 by_cases c3 : (l0.length : Int) = (l1.length : Int)
 ·
  rw [if_pos c3] at H
  have c3b0 : ((l0.length : Int) == (l1.length : Int)) = true := beq_iff_eq.mpr c3
  have c3b1 : ((l0.length : Int) != (l1.length : Int)) = false := bne_eq_false_iff_eq.mpr c3
  have c3b2 : (l0.length == l1.length) = true := by first | simpa using c3 | (simp at c3 ⊢; omega)
  clear c3
  have H' := Zh H
  clear H
  go_enter Try.func16, Try.ntmps16
  go_wp2
  repeat (go_quiet (fail); try go_wp2)
  go_loopg [5] k (fun kq v5 w' => ∃ (x5_1 : Int), v5 = .int .i64 x5_1 ∧ Aside0 (laws_eqIntS.l0 kq l0 l1 x5_1 = some r) ∧ Aside0 (kq ≤ k) ∧ Drawn0 w w')
  case atStart => exact ⟨(0), (by first | rfl | (simp; done) | (simp [*]; done)), H', ⟨Nat.le_refl _⟩, by repeat (first | exact Drawn0.refl _ | apply Drawn0.step)⟩
  case round =>
   clear H'
   try clear c1
   try clear p2
   try clear c3
   try clear c3b0
   try clear c3b1
   try clear c3b2
   obtain ⟨x5_1, rfl, HA, HK1, ⟨m1, rfl⟩⟩ := hrel
   cases gk with
   | zero => exact absurd HA.out (by simp [laws_eqIntS.l0])
   | succ k1 =>
    have H := HA.out
    clear HA
    simp only [laws_eqIntS.l0] at H
    by_cases c4 : x5_1 < (l0.length : Int)
    ·
     rw [if_pos c4] at H
     have c4b0 : decide (x5_1 < (l0.length : Int)) = true := decide_eq_true c4
     clear c4
     by_cases c5 : 0 ≤ x5_1
     ·
      rw [if_pos c5] at H
      have c5b0 : decide (0 ≤ x5_1) = true := decide_eq_true c5
      clear c5
      by_cases c6 : x5_1 < (l1.length : Int)
      ·
       rw [if_pos c6] at H
       have c6b0 : decide (x5_1 < (l1.length : Int)) = true := decide_eq_true c6
       clear c6
       by_cases c7 : (rd l0 x5_1) = (rd l1 x5_1)
       ·
        rw [if_pos c7] at H
        have c7b0 : ((rd l0 x5_1) == (rd l1 x5_1)) = true := beq_iff_eq.mpr c7
        have c7b1 : ((rd l0 x5_1) != (rd l1 x5_1)) = false := bne_eq_false_iff_eq.mpr c7
        clear c7
        have H' := Zh H
        clear H
        have p151 : 0 ≤ (x5_1 : Int) := Zo
        have q151 : x5_1 < (l0.length : Int) := Zo
        obtain ⟨ad151, e151, hx151_0⟩ := Kd.at_int HR0.out x5_1 p151 q151
        cases e151
        replace p151 := eq_true p151
        replace q151 := eq_true q151
        have p152 : 0 ≤ (x5_1 : Int) := Zo
        have q152 : x5_1 < (l1.length : Int) := Zo
        obtain ⟨ad152, e152, hx152_0⟩ := Kd.at_int HR1.out x5_1 p152 q152
        cases e152
        replace p152 := eq_true p152
        replace q152 := eq_true q152
        go_wp2
        repeat (go_quiet (fail); try go_wp2)
        go_roundg k1
        case measure => have := HK1.out; omega
        case rel => exact ⟨(wrap64 (x5_1 + 1)), (by first | rfl | (simp; done) | (simp [*]; done)), H', ⟨by have := HK1.out; omega⟩, by repeat (first | exact Drawn0.refl _ | apply Drawn0.step)⟩
       rw [if_neg c7] at H
       have c7b0 : ((rd l0 x5_1) == (rd l1 x5_1)) = false := beq_eq_false_iff_ne.mpr c7
       have c7b1 : ((rd l0 x5_1) != (rd l1 x5_1)) = true := bne_iff_ne.mpr c7
       obtain rfl := Option.some.inj H
       have p151 : 0 ≤ (x5_1 : Int) := Zo
       have q151 : x5_1 < (l0.length : Int) := Zo
       obtain ⟨ad151, e151, hx151_0⟩ := Kd.at_int HR0.out x5_1 p151 q151
       cases e151
       replace p151 := eq_true p151
       replace q151 := eq_true q151
       have p152 : 0 ≤ (x5_1 : Int) := Zo
       have q152 : x5_1 < (l1.length : Int) := Zo
       obtain ⟨ad152, e152, hx152_0⟩ := Kd.at_int HR1.out x5_1 p152 q152
       cases e152
       replace p152 := eq_true p152
       replace q152 := eq_true q152
       go_wp2
       repeat (go_quiet (fail); try go_wp2)
       go_ret
       exact ⟨by first | rfl | (simp; done) | (simp [*]; done), by repeat (first | exact Drawn0.refl _ | apply Drawn0.step)⟩
      rw [if_neg c6] at H
      exact absurd H (by simp)
     rw [if_neg c5] at H
     exact absurd H (by simp)
    rw [if_neg c4] at H
    have c4b0 : decide (x5_1 < (l0.length : Int)) = false := decide_eq_false c4
    clear c4
    obtain rfl := Option.some.inj H
    go_wp2
    repeat (go_quiet (fail); try go_wp2)
    go_ret
    exact ⟨by first | rfl | (simp; done) | (simp [*]; done), by repeat (first | exact Drawn0.refl _ | apply Drawn0.step)⟩
 rw [if_neg c3] at H
 have c3b0 : ((l0.length : Int) == (l1.length : Int)) = false := beq_eq_false_iff_ne.mpr c3
 have c3b1 : ((l0.length : Int) != (l1.length : Int)) = true := bne_iff_ne.mpr c3
 have c3b2 : (l0.length == l1.length) = false := by first | simpa using c3 | (simp at c3 ⊢; omega)
 obtain rfl := Option.some.inj H
 go_enter Try.func16, Try.ntmps16
 go_wp2
 repeat (go_quiet (fail); try go_wp2)
 go_ret
 exact ⟨by first | rfl | (simp; done) | (simp [*]; done), by repeat (first | exact Drawn0.refl _ | apply Drawn0.step)⟩

/-! ### laws_eqConf: function 12 -/
def laws_eqConf.f (k : Nat) (l0_0 : List Int) (l0_1 : List Int) (l0_2 : List Int) (l1_0 : List Int) (l1_1 : List Int) (l1_2 : List Int) : Option (Bool) := (laws_eqIntS.f k l0_0 l1_0).bind fun t155 => (if t155 = true then ((laws_eqIntS.f k l0_1 l1_1).bind fun t156 => (if t156 = true then ((laws_eqIntS.f k l0_2 l1_2).bind fun t157 => (if t157 = true then (some true) else (some false))) else (some false))) else (some false))
theorem laws_eqConf.mono : ∀ a0 a1 a2 a3 a4 a5 k, LeO (laws_eqConf.f k a0 a1 a2 a3 a4 a5) (laws_eqConf.f (k + 1) a0 a1 a2 a3 a4 a5) := by
 intro a0 a1 a2 a3 a4 a5 k
 unfold laws_eqConf.f
 repeat' first
   | (with_reducible exact laws_eqIntS.mono _ _ _)
   | (with_reducible exact LeO.refl _)
   | (with_reducible exact LeO.none _)
   | (with_reducible refine LeO.ite ?_ ?_)
   | (with_reducible refine LeO.bind ?_ (fun _ => ?_))
   | exact laws_eqIntS.mono _ _ _
   | exact LeO.none _
   | refine LeO.ite ?_ ?_
   | refine LeO.bind ?_ (fun _ => ?_)
set_option maxHeartbeats 8000000 in
set_option maxRecDepth 100000 in
theorem laws_eqConf.calls (k : Nat) (A0_0 : Option Addr) (c0_0 : Nat) (l0_0 : List Int) (A0_1 : Option Addr) (c0_1 : Nat) (l0_1 : List Int) (A0_2 : Option Addr) (c0_2 : Nat) (l0_2 : List Int) (A1_0 : Option Addr) (c1_0 : Nat) (l1_0 : List Int) (A1_1 : Option Addr) (c1_1 : Nat) (l1_1 : List Int) (A1_2 : Option Addr) (c1_2 : Nat) (l1_2 : List Int) (r : Bool) (w : World) (hr0_0 : Kd.C (Kd.int .i64) w A0_0 l0_0.length l0_0) (hc0_0 : l0_0.length ≤ c0_0) (hr0_1 : Kd.C (Kd.int .i64) w A0_1 l0_1.length l0_1) (hc0_1 : l0_1.length ≤ c0_1) (hr0_2 : Kd.C (Kd.int .i64) w A0_2 l0_2.length l0_2) (hc0_2 : l0_2.length ≤ c0_2) (hr1_0 : Kd.C (Kd.int .i64) w A1_0 l1_0.length l1_0) (hc1_0 : l1_0.length ≤ c1_0) (hr1_1 : Kd.C (Kd.int .i64) w A1_1 l1_1.length l1_1) (hc1_1 : l1_1.length ≤ c1_1) (hr1_2 : Kd.C (Kd.int .i64) w A1_2 l1_2.length l1_2) (hc1_2 : l1_2.length ≤ c1_2) (h : laws_eqConf.f k l0_0 l0_1 l0_2 l1_0 l1_1 l1_2 = some r) :
  Calls Try.prog 12 #[.agg #[.slice A0_0 l0_0.length c0_0, .slice A0_1 l0_1.length c0_1, .slice A0_2 l0_2.length c0_2], .agg #[.slice A1_0 l1_0.length c1_0, .slice A1_1 l1_1.length c1_1, .slice A1_2 l1_2.length c1_2]] w fun e w' => e = .returned (.bool r) ∧ Below w.heap.size w w' := by
 have hu27 := Try.underlying27
 have HR0_0 := Zh hr0_0
 have HC0_0 := Zh hc0_0
 clear hr0_0 hc0_0
 have HR0_1 := Zh hr0_1
 have HC0_1 := Zh hc0_1
 clear hr0_1 hc0_1
 have HR0_2 := Zh hr0_2
 have HC0_2 := Zh hc0_2
 clear hr0_2 hc0_2
 have HR1_0 := Zh hr1_0
 have HC1_0 := Zh hc1_0
 clear hr1_0 hc1_0
 have HR1_1 := Zh hr1_1
 have HC1_1 := Zh hc1_1
 clear hr1_1 hc1_1
 have HR1_2 := Zh hr1_2
 have HC1_2 := Zh hc1_2
 clear hr1_2 hc1_2
 have HB := Zh (Below.refl w.heap.size w)
 have H : ((laws_eqIntS.f k l0_0 l1_0).bind fun t155 => (if t155 = true then ((laws_eqIntS.f k l0_1 l1_1).bind fun t156 => (if t156 = true then ((laws_eqIntS.f k l0_2 l1_2).bind fun t157 => (if t157 = true then (some true) else (some false))) else (some false))) else (some false))) = some r := h
 clear h
 replace H := Option.bind_eq_some_iff.mp H
 obtain ⟨t155, A30, H⟩ := H
 replace H : (if t155 = true then ((laws_eqIntS.f k l0_1 l1_1).bind fun t156 => (if t156 = true then ((laws_eqIntS.f k l0_2 l1_2).bind fun t157 => (if t157 = true then (some true) else (some false))) else (some false))) else (some false)) = some r := H
 have A3 := Zh A30
 clear A30
 by_cases c4 : t155 = true
 ·
  subst c4
  have H1 : ((laws_eqIntS.f k l0_1 l1_1).bind fun t156 => (if t156 = true then ((laws_eqIntS.f k l0_2 l1_2).bind fun t157 => (if t157 = true then (some true) else (some false))) else (some false))) = some r := by rw [if_pos rfl] at H; exact H
  clear H
  have H := H1
  clear H1
  replace H := Option.bind_eq_some_iff.mp H
  obtain ⟨t156, A50, H⟩ := H
  replace H : (if t156 = true then ((laws_eqIntS.f k l0_2 l1_2).bind fun t157 => (if t157 = true then (some true) else (some false))) else (some false)) = some r := H
  have A5 := Zh A50
  clear A50
  by_cases c6 : t156 = true
  ·
   subst c6
   have H1 : ((laws_eqIntS.f k l0_2 l1_2).bind fun t157 => (if t157 = true then (some true) else (some false))) = some r := by rw [if_pos rfl] at H; exact H
   clear H
   have H := H1
   clear H1
   replace H := Option.bind_eq_some_iff.mp H
   obtain ⟨t157, A70, H⟩ := H
   replace H : (if t157 = true then (some true) else (some false)) = some r := H
   have A7 := Zh A70
   clear A70
   by_cases c8 : t157 = true
   ·
    subst c8
    have H1 : (some true) = some r := by rw [if_pos rfl] at H; exact H
    clear H
    have H := H1
    clear H1
    obtain rfl := Option.some.inj H
    go_enter Try.func12, Try.ntmps12
    go_wp2_with (first | ((with_reducible refine gate_dst (N := 2) rfl ?_); refine box_event ?hg (N := 2) ?hd (cs := #[.slice A0_0 l0_0.length c0_0, .slice A0_1 l0_1.length c0_1, .slice A0_2 l0_2.length c0_2]) (t := 27) ?hr ?_; (case hd => rfl); (case hg => rfl); (case hr => first | (go_simp; done) | (go_simp; rfl)); intro gb153 hg w9 hbox hb; have BK153 := Zh (hbox); have GW153 := Zh ((by rw [hg]; exact (below_size Zs) : w.heap.size ≤ gb153)); have GE153 := Zh ((by rw [hg]; exact (below_size Zs) : w.heap.size ≤ gb153)); replace HB := Zh (Zl Zs hb); clear hb hbox hg) | ((with_reducible refine gate_dst (N := 3) rfl ?_); refine box_event ?hg (N := 3) ?hd (cs := #[.slice A1_0 l1_0.length c1_0, .slice A1_1 l1_1.length c1_1, .slice A1_2 l1_2.length c1_2]) (t := 27) ?hr ?_; (case hd => rfl); (case hg => rfl); (case hr => first | (go_simp; done) | (go_simp; rfl)); intro gb154 hg w10 hbox hb; have BK154 := Zh (hbox); have GW154 := Zh ((by rw [hg]; exact (below_size Zs) : w.heap.size ≤ gb154)); have GE154 := Zh ((by rw [hg]; exact (below_size Zs) : w.heap.size ≤ gb154)); replace HB := Zh (Zl Zs hb); have NB153_154 := Zh ((by rw [hg]; exact Nat.ne_of_lt (blk_lt (g := gb153) (o := .cells #[.slice A0_0 l0_0.length c0_0, .slice A0_1 l0_1.length c0_1, .slice A0_2 l0_2.length c0_2] 27 (0, 0)) Zk) : gb153 ≠ gb154)); have NB154_153 := Zh ((by rw [hg]; exact Nat.ne_of_gt (blk_lt (g := gb153) (o := .cells #[.slice A0_0 l0_0.length c0_0, .slice A0_1 l0_1.length c0_1, .slice A0_2 l0_2.length c0_2] 27 (0, 0)) Zk) : gb154 ≠ gb153)); replace BK153 := Zh (Zm (g := gb153) (o := .cells #[.slice A0_0 l0_0.length c0_0, .slice A0_1 l0_1.length c0_1, .slice A0_2 l0_2.length c0_2] 27 (0, 0)) Zk hb); clear hb hbox hg; have hnb11 := NB153_154.out; have hnc11 := NB154_153.out; have hcz12_0 : w10.cell? ⟨gb153, 0, none⟩ = some (.slice A0_0 l0_0.length c0_0) := (blk_cell BK153.out 0).trans rfl; have hcz12_1 : w10.cell? ⟨gb153, 1, none⟩ = some (.slice A0_1 l0_1.length c0_1) := (blk_cell BK153.out 1).trans rfl; have hcz12_2 : w10.cell? ⟨gb153, 2, none⟩ = some (.slice A0_2 l0_2.length c0_2) := (blk_cell BK153.out 2).trans rfl; have hfz12_0 := Zn BK153.out 0; have hfz12_1 := Zn BK153.out 1; have hfz12_2 := Zn BK153.out 2; have hcz13_0 : w10.cell? ⟨gb154, 0, none⟩ = some (.slice A1_0 l1_0.length c1_0) := (blk_cell BK154.out 0).trans rfl; have hcz13_1 : w10.cell? ⟨gb154, 1, none⟩ = some (.slice A1_1 l1_1.length c1_1) := (blk_cell BK154.out 1).trans rfl; have hcz13_2 : w10.cell? ⟨gb154, 2, none⟩ = some (.slice A1_2 l1_2.length c1_2) := (blk_cell BK154.out 2).trans rfl; have hfz13_0 := Zn BK154.out 0; have hfz13_1 := Zn BK154.out 1; have hfz13_2 := Zn BK154.out 2) | ((with_reducible refine gate_callee (f := 16) rfl ?_); refine ZG (some 9) Try.func16 #[.slice A0_0 l0_0.length c0_0, .slice A1_0 l1_0.length c1_0] rfl ?_; (with_reducible refine (laws_eqIntS.calls k _ _ l0_0 _ _ l1_0 true _ ?side1 ?side2 ?side3 ?side4 A3.out).mono ?_); (case side1 => repeat (first | exact (C_below HR0_0.out HB.out) | (with_reducible refine C_alloc ?_ _) | (with_reducible refine C_drewN ?_ _) | (with_reducible refine C_drew ?_))); (case side2 => exact HC0_0.out); (case side3 => repeat (first | exact (C_below HR1_0.out HB.out) | (with_reducible refine C_alloc ?_ _) | (with_reducible refine C_drewN ?_ _) | (with_reducible refine C_drew ?_))); (case side4 => exact HC1_0.out); rintro e w' ⟨rfl, ⟨nd, rfl⟩⟩; refine ⟨_, rfl, ?_⟩) | ((with_reducible refine gate_callee (f := 16) rfl ?_); refine ZG (some 15) Try.func16 #[.slice A0_1 l0_1.length c0_1, .slice A1_1 l1_1.length c1_1] rfl ?_; (with_reducible refine (laws_eqIntS.calls k _ _ l0_1 _ _ l1_1 true _ ?side1 ?side2 ?side3 ?side4 A5.out).mono ?_); (case side1 => repeat (first | exact (C_below HR0_1.out Zs) | (with_reducible refine C_alloc ?_ _) | (with_reducible refine C_drewN ?_ _) | (with_reducible refine C_drew ?_))); (case side2 => exact HC0_1.out); (case side3 => repeat (first | exact (C_below HR1_1.out Zs) | (with_reducible refine C_alloc ?_ _) | (with_reducible refine C_drewN ?_ _) | (with_reducible refine C_drew ?_))); (case side4 => exact HC1_1.out); rintro e w' ⟨rfl, ⟨nd, rfl⟩⟩; refine ⟨_, rfl, ?_⟩) | ((with_reducible refine gate_callee (f := 16) rfl ?_); refine ZG (some 21) Try.func16 #[.slice A0_2 l0_2.length c0_2, .slice A1_2 l1_2.length c1_2] rfl ?_; (with_reducible refine (laws_eqIntS.calls k _ _ l0_2 _ _ l1_2 true _ ?side1 ?side2 ?side3 ?side4 A7.out).mono ?_); (case side1 => repeat (first | exact (C_below HR0_2.out Zs) | (with_reducible refine C_alloc ?_ _) | (with_reducible refine C_drewN ?_ _) | (with_reducible refine C_drew ?_))); (case side2 => exact HC0_2.out); (case side3 => repeat (first | exact (C_below HR1_2.out Zs) | (with_reducible refine C_alloc ?_ _) | (with_reducible refine C_drewN ?_ _) | (with_reducible refine C_drew ?_))); (case side4 => exact HC1_2.out); rintro e w' ⟨rfl, ⟨nd, rfl⟩⟩; refine ⟨_, rfl, ?_⟩))
    go_ret
    exact ⟨ZE, Zs⟩
   replace c8 := Bool.eq_false_iff.mpr c8
   subst c8
   have H1 : (some false) = some r := by rw [if_neg (show ¬ (false = true) by decide)] at H; exact H
   clear H
   have H := H1
   clear H1
   obtain rfl := Option.some.inj H
   go_enter Try.func12, Try.ntmps12
   go_wp2_with (first | ((with_reducible refine gate_dst (N := 2) rfl ?_); refine box_event ?hg (N := 2) ?hd (cs := #[.slice A0_0 l0_0.length c0_0, .slice A0_1 l0_1.length c0_1, .slice A0_2 l0_2.length c0_2]) (t := 27) ?hr ?_; (case hd => rfl); (case hg => rfl); (case hr => first | (go_simp; done) | (go_simp; rfl)); intro gb153 hg w14 hbox hb; have BK153 := Zh (hbox); have GW153 := Zh ((by rw [hg]; exact (below_size Zs) : w.heap.size ≤ gb153)); have GE153 := Zh ((by rw [hg]; exact (below_size Zs) : w.heap.size ≤ gb153)); replace HB := Zh (Zl Zs hb); clear hb hbox hg) | ((with_reducible refine gate_dst (N := 3) rfl ?_); refine box_event ?hg (N := 3) ?hd (cs := #[.slice A1_0 l1_0.length c1_0, .slice A1_1 l1_1.length c1_1, .slice A1_2 l1_2.length c1_2]) (t := 27) ?hr ?_; (case hd => rfl); (case hg => rfl); (case hr => first | (go_simp; done) | (go_simp; rfl)); intro gb154 hg w15 hbox hb; have BK154 := Zh (hbox); have GW154 := Zh ((by rw [hg]; exact (below_size Zs) : w.heap.size ≤ gb154)); have GE154 := Zh ((by rw [hg]; exact (below_size Zs) : w.heap.size ≤ gb154)); replace HB := Zh (Zl Zs hb); have NB153_154 := Zh ((by rw [hg]; exact Nat.ne_of_lt (blk_lt (g := gb153) (o := .cells #[.slice A0_0 l0_0.length c0_0, .slice A0_1 l0_1.length c0_1, .slice A0_2 l0_2.length c0_2] 27 (0, 0)) Zk) : gb153 ≠ gb154)); have NB154_153 := Zh ((by rw [hg]; exact Nat.ne_of_gt (blk_lt (g := gb153) (o := .cells #[.slice A0_0 l0_0.length c0_0, .slice A0_1 l0_1.length c0_1, .slice A0_2 l0_2.length c0_2] 27 (0, 0)) Zk) : gb154 ≠ gb153)); replace BK153 := Zh (Zm (g := gb153) (o := .cells #[.slice A0_0 l0_0.length c0_0, .slice A0_1 l0_1.length c0_1, .slice A0_2 l0_2.length c0_2] 27 (0, 0)) Zk hb); clear hb hbox hg; have hnb16 := NB153_154.out; have hnc16 := NB154_153.out; have hcz17_0 : w15.cell? ⟨gb153, 0, none⟩ = some (.slice A0_0 l0_0.length c0_0) := (blk_cell BK153.out 0).trans rfl; have hcz17_1 : w15.cell? ⟨gb153, 1, none⟩ = some (.slice A0_1 l0_1.length c0_1) := (blk_cell BK153.out 1).trans rfl; have hcz17_2 : w15.cell? ⟨gb153, 2, none⟩ = some (.slice A0_2 l0_2.length c0_2) := (blk_cell BK153.out 2).trans rfl; have hfz17_0 := Zn BK153.out 0; have hfz17_1 := Zn BK153.out 1; have hfz17_2 := Zn BK153.out 2; have hcz18_0 : w15.cell? ⟨gb154, 0, none⟩ = some (.slice A1_0 l1_0.length c1_0) := (blk_cell BK154.out 0).trans rfl; have hcz18_1 : w15.cell? ⟨gb154, 1, none⟩ = some (.slice A1_1 l1_1.length c1_1) := (blk_cell BK154.out 1).trans rfl; have hcz18_2 : w15.cell? ⟨gb154, 2, none⟩ = some (.slice A1_2 l1_2.length c1_2) := (blk_cell BK154.out 2).trans rfl; have hfz18_0 := Zn BK154.out 0; have hfz18_1 := Zn BK154.out 1; have hfz18_2 := Zn BK154.out 2) | ((with_reducible refine gate_callee (f := 16) rfl ?_); refine ZG (some 9) Try.func16 #[.slice A0_0 l0_0.length c0_0, .slice A1_0 l1_0.length c1_0] rfl ?_; (with_reducible refine (laws_eqIntS.calls k _ _ l0_0 _ _ l1_0 true _ ?side1 ?side2 ?side3 ?side4 A3.out).mono ?_); (case side1 => repeat (first | exact (C_below HR0_0.out HB.out) | (with_reducible refine C_alloc ?_ _) | (with_reducible refine C_drewN ?_ _) | (with_reducible refine C_drew ?_))); (case side2 => exact HC0_0.out); (case side3 => repeat (first | exact (C_below HR1_0.out HB.out) | (with_reducible refine C_alloc ?_ _) | (with_reducible refine C_drewN ?_ _) | (with_reducible refine C_drew ?_))); (case side4 => exact HC1_0.out); rintro e w' ⟨rfl, ⟨nd, rfl⟩⟩; refine ⟨_, rfl, ?_⟩) | ((with_reducible refine gate_callee (f := 16) rfl ?_); refine ZG (some 15) Try.func16 #[.slice A0_1 l0_1.length c0_1, .slice A1_1 l1_1.length c1_1] rfl ?_; (with_reducible refine (laws_eqIntS.calls k _ _ l0_1 _ _ l1_1 true _ ?side1 ?side2 ?side3 ?side4 A5.out).mono ?_); (case side1 => repeat (first | exact (C_below HR0_1.out Zs) | (with_reducible refine C_alloc ?_ _) | (with_reducible refine C_drewN ?_ _) | (with_reducible refine C_drew ?_))); (case side2 => exact HC0_1.out); (case side3 => repeat (first | exact (C_below HR1_1.out Zs) | (with_reducible refine C_alloc ?_ _) | (with_reducible refine C_drewN ?_ _) | (with_reducible refine C_drew ?_))); (case side4 => exact HC1_1.out); rintro e w' ⟨rfl, ⟨nd, rfl⟩⟩; refine ⟨_, rfl, ?_⟩) | ((with_reducible refine gate_callee (f := 16) rfl ?_); refine ZG (some 21) Try.func16 #[.slice A0_2 l0_2.length c0_2, .slice A1_2 l1_2.length c1_2] rfl ?_; (with_reducible refine (laws_eqIntS.calls k _ _ l0_2 _ _ l1_2 false _ ?side1 ?side2 ?side3 ?side4 A7.out).mono ?_); (case side1 => repeat (first | exact (C_below HR0_2.out Zs) | (with_reducible refine C_alloc ?_ _) | (with_reducible refine C_drewN ?_ _) | (with_reducible refine C_drew ?_))); (case side2 => exact HC0_2.out); (case side3 => repeat (first | exact (C_below HR1_2.out Zs) | (with_reducible refine C_alloc ?_ _) | (with_reducible refine C_drewN ?_ _) | (with_reducible refine C_drew ?_))); (case side4 => exact HC1_2.out); rintro e w' ⟨rfl, ⟨nd, rfl⟩⟩; refine ⟨_, rfl, ?_⟩))
   go_ret
   exact ⟨ZE, Zs⟩
  replace c6 := Bool.eq_false_iff.mpr c6
  subst c6
  have H1 : (some false) = some r := by rw [if_neg (show ¬ (false = true) by decide)] at H; exact H
  clear H
  have H := H1
  clear H1
  obtain rfl := Option.some.inj H
  go_enter Try.func12, Try.ntmps12
  go_wp2_with (first | ((with_reducible refine gate_dst (N := 2) rfl ?_); refine box_event ?hg (N := 2) ?hd (cs := #[.slice A0_0 l0_0.length c0_0, .slice A0_1 l0_1.length c0_1, .slice A0_2 l0_2.length c0_2]) (t := 27) ?hr ?_; (case hd => rfl); (case hg => rfl); (case hr => first | (go_simp; done) | (go_simp; rfl)); intro gb153 hg w19 hbox hb; have BK153 := Zh (hbox); have GW153 := Zh ((by rw [hg]; exact (below_size Zs) : w.heap.size ≤ gb153)); have GE153 := Zh ((by rw [hg]; exact (below_size Zs) : w.heap.size ≤ gb153)); replace HB := Zh (Zl Zs hb); clear hb hbox hg) | ((with_reducible refine gate_dst (N := 3) rfl ?_); refine box_event ?hg (N := 3) ?hd (cs := #[.slice A1_0 l1_0.length c1_0, .slice A1_1 l1_1.length c1_1, .slice A1_2 l1_2.length c1_2]) (t := 27) ?hr ?_; (case hd => rfl); (case hg => rfl); (case hr => first | (go_simp; done) | (go_simp; rfl)); intro gb154 hg w20 hbox hb; have BK154 := Zh (hbox); have GW154 := Zh ((by rw [hg]; exact (below_size Zs) : w.heap.size ≤ gb154)); have GE154 := Zh ((by rw [hg]; exact (below_size Zs) : w.heap.size ≤ gb154)); replace HB := Zh (Zl Zs hb); have NB153_154 := Zh ((by rw [hg]; exact Nat.ne_of_lt (blk_lt (g := gb153) (o := .cells #[.slice A0_0 l0_0.length c0_0, .slice A0_1 l0_1.length c0_1, .slice A0_2 l0_2.length c0_2] 27 (0, 0)) Zk) : gb153 ≠ gb154)); have NB154_153 := Zh ((by rw [hg]; exact Nat.ne_of_gt (blk_lt (g := gb153) (o := .cells #[.slice A0_0 l0_0.length c0_0, .slice A0_1 l0_1.length c0_1, .slice A0_2 l0_2.length c0_2] 27 (0, 0)) Zk) : gb154 ≠ gb153)); replace BK153 := Zh (Zm (g := gb153) (o := .cells #[.slice A0_0 l0_0.length c0_0, .slice A0_1 l0_1.length c0_1, .slice A0_2 l0_2.length c0_2] 27 (0, 0)) Zk hb); clear hb hbox hg; have hnb21 := NB153_154.out; have hnc21 := NB154_153.out; have hcz22_0 : w20.cell? ⟨gb153, 0, none⟩ = some (.slice A0_0 l0_0.length c0_0) := (blk_cell BK153.out 0).trans rfl; have hcz22_1 : w20.cell? ⟨gb153, 1, none⟩ = some (.slice A0_1 l0_1.length c0_1) := (blk_cell BK153.out 1).trans rfl; have hcz22_2 : w20.cell? ⟨gb153, 2, none⟩ = some (.slice A0_2 l0_2.length c0_2) := (blk_cell BK153.out 2).trans rfl; have hfz22_0 := Zn BK153.out 0; have hfz22_1 := Zn BK153.out 1; have hfz22_2 := Zn BK153.out 2; have hcz23_0 : w20.cell? ⟨gb154, 0, none⟩ = some (.slice A1_0 l1_0.length c1_0) := (blk_cell BK154.out 0).trans rfl; have hcz23_1 : w20.cell? ⟨gb154, 1, none⟩ = some (.slice A1_1 l1_1.length c1_1) := (blk_cell BK154.out 1).trans rfl; have hcz23_2 : w20.cell? ⟨gb154, 2, none⟩ = some (.slice A1_2 l1_2.length c1_2) := (blk_cell BK154.out 2).trans rfl; have hfz23_0 := Zn BK154.out 0; have hfz23_1 := Zn BK154.out 1; have hfz23_2 := Zn BK154.out 2) | ((with_reducible refine gate_callee (f := 16) rfl ?_); refine ZG (some 9) Try.func16 #[.slice A0_0 l0_0.length c0_0, .slice A1_0 l1_0.length c1_0] rfl ?_; (with_reducible refine (laws_eqIntS.calls k _ _ l0_0 _ _ l1_0 true _ ?side1 ?side2 ?side3 ?side4 A3.out).mono ?_); (case side1 => repeat (first | exact (C_below HR0_0.out HB.out) | (with_reducible refine C_alloc ?_ _) | (with_reducible refine C_drewN ?_ _) | (with_reducible refine C_drew ?_))); (case side2 => exact HC0_0.out); (case side3 => repeat (first | exact (C_below HR1_0.out HB.out) | (with_reducible refine C_alloc ?_ _) | (with_reducible refine C_drewN ?_ _) | (with_reducible refine C_drew ?_))); (case side4 => exact HC1_0.out); rintro e w' ⟨rfl, ⟨nd, rfl⟩⟩; refine ⟨_, rfl, ?_⟩) | ((with_reducible refine gate_callee (f := 16) rfl ?_); refine ZG (some 15) Try.func16 #[.slice A0_1 l0_1.length c0_1, .slice A1_1 l1_1.length c1_1] rfl ?_; (with_reducible refine (laws_eqIntS.calls k _ _ l0_1 _ _ l1_1 false _ ?side1 ?side2 ?side3 ?side4 A5.out).mono ?_); (case side1 => repeat (first | exact (C_below HR0_1.out Zs) | (with_reducible refine C_alloc ?_ _) | (with_reducible refine C_drewN ?_ _) | (with_reducible refine C_drew ?_))); (case side2 => exact HC0_1.out); (case side3 => repeat (first | exact (C_below HR1_1.out Zs) | (with_reducible refine C_alloc ?_ _) | (with_reducible refine C_drewN ?_ _) | (with_reducible refine C_drew ?_))); (case side4 => exact HC1_1.out); rintro e w' ⟨rfl, ⟨nd, rfl⟩⟩; refine ⟨_, rfl, ?_⟩))
  go_ret
  exact ⟨ZE, Zs⟩
 replace c4 := Bool.eq_false_iff.mpr c4
 subst c4
 have H1 : (some false) = some r := by rw [if_neg (show ¬ (false = true) by decide)] at H; exact H
 clear H
 have H := H1
 clear H1
 obtain rfl := Option.some.inj H
 go_enter Try.func12, Try.ntmps12
 go_wp2_with (first | ((with_reducible refine gate_dst (N := 2) rfl ?_); refine box_event ?hg (N := 2) ?hd (cs := #[.slice A0_0 l0_0.length c0_0, .slice A0_1 l0_1.length c0_1, .slice A0_2 l0_2.length c0_2]) (t := 27) ?hr ?_; (case hd => rfl); (case hg => rfl); (case hr => first | (go_simp; done) | (go_simp; rfl)); intro gb153 hg w24 hbox hb; have BK153 := Zh (hbox); have GW153 := Zh ((by rw [hg]; exact (below_size Zs) : w.heap.size ≤ gb153)); have GE153 := Zh ((by rw [hg]; exact (below_size Zs) : w.heap.size ≤ gb153)); replace HB := Zh (Zl Zs hb); clear hb hbox hg) | ((with_reducible refine gate_dst (N := 3) rfl ?_); refine box_event ?hg (N := 3) ?hd (cs := #[.slice A1_0 l1_0.length c1_0, .slice A1_1 l1_1.length c1_1, .slice A1_2 l1_2.length c1_2]) (t := 27) ?hr ?_; (case hd => rfl); (case hg => rfl); (case hr => first | (go_simp; done) | (go_simp; rfl)); intro gb154 hg w25 hbox hb; have BK154 := Zh (hbox); have GW154 := Zh ((by rw [hg]; exact (below_size Zs) : w.heap.size ≤ gb154)); have GE154 := Zh ((by rw [hg]; exact (below_size Zs) : w.heap.size ≤ gb154)); replace HB := Zh (Zl Zs hb); have NB153_154 := Zh ((by rw [hg]; exact Nat.ne_of_lt (blk_lt (g := gb153) (o := .cells #[.slice A0_0 l0_0.length c0_0, .slice A0_1 l0_1.length c0_1, .slice A0_2 l0_2.length c0_2] 27 (0, 0)) Zk) : gb153 ≠ gb154)); have NB154_153 := Zh ((by rw [hg]; exact Nat.ne_of_gt (blk_lt (g := gb153) (o := .cells #[.slice A0_0 l0_0.length c0_0, .slice A0_1 l0_1.length c0_1, .slice A0_2 l0_2.length c0_2] 27 (0, 0)) Zk) : gb154 ≠ gb153)); replace BK153 := Zh (Zm (g := gb153) (o := .cells #[.slice A0_0 l0_0.length c0_0, .slice A0_1 l0_1.length c0_1, .slice A0_2 l0_2.length c0_2] 27 (0, 0)) Zk hb); clear hb hbox hg; have hnb26 := NB153_154.out; have hnc26 := NB154_153.out; have hcz27_0 : w25.cell? ⟨gb153, 0, none⟩ = some (.slice A0_0 l0_0.length c0_0) := (blk_cell BK153.out 0).trans rfl; have hcz27_1 : w25.cell? ⟨gb153, 1, none⟩ = some (.slice A0_1 l0_1.length c0_1) := (blk_cell BK153.out 1).trans rfl; have hcz27_2 : w25.cell? ⟨gb153, 2, none⟩ = some (.slice A0_2 l0_2.length c0_2) := (blk_cell BK153.out 2).trans rfl; have hfz27_0 := Zn BK153.out 0; have hfz27_1 := Zn BK153.out 1; have hfz27_2 := Zn BK153.out 2; have hcz28_0 : w25.cell? ⟨gb154, 0, none⟩ = some (.slice A1_0 l1_0.length c1_0) := (blk_cell BK154.out 0).trans rfl; have hcz28_1 : w25.cell? ⟨gb154, 1, none⟩ = some (.slice A1_1 l1_1.length c1_1) := (blk_cell BK154.out 1).trans rfl; have hcz28_2 : w25.cell? ⟨gb154, 2, none⟩ = some (.slice A1_2 l1_2.length c1_2) := (blk_cell BK154.out 2).trans rfl; have hfz28_0 := Zn BK154.out 0; have hfz28_1 := Zn BK154.out 1; have hfz28_2 := Zn BK154.out 2) | ((with_reducible refine gate_callee (f := 16) rfl ?_); refine ZG (some 9) Try.func16 #[.slice A0_0 l0_0.length c0_0, .slice A1_0 l1_0.length c1_0] rfl ?_; (with_reducible refine (laws_eqIntS.calls k _ _ l0_0 _ _ l1_0 false _ ?side1 ?side2 ?side3 ?side4 A3.out).mono ?_); (case side1 => repeat (first | exact (C_below HR0_0.out HB.out) | (with_reducible refine C_alloc ?_ _) | (with_reducible refine C_drewN ?_ _) | (with_reducible refine C_drew ?_))); (case side2 => exact HC0_0.out); (case side3 => repeat (first | exact (C_below HR1_0.out HB.out) | (with_reducible refine C_alloc ?_ _) | (with_reducible refine C_drewN ?_ _) | (with_reducible refine C_drew ?_))); (case side4 => exact HC1_0.out); rintro e w' ⟨rfl, ⟨nd, rfl⟩⟩; refine ⟨_, rfl, ?_⟩))
 go_ret
 exact ⟨ZE, Zs⟩

/-! ### laws_markIntS: function 23 -/
def laws_markIntS.l0 : Nat → List Int → Int → Int → Option (Int × List Int)
 | 0, _, _, _ => none
 | k + 1, x0, x1, x5 => if x5 < (x0.length : Int) then (if 0 ≤ x5 then (laws_markIntS.l0 k (x0.set (x5 : Int).toNat x1) (wrap64 (x1 + 1)) (wrap64 (x5 + 1))) else (none)) else (some (x1, x0))
def laws_markIntS.f (k : Nat) (l0 : List Int) (a1 : Int) : Option (Int × List Int) := laws_markIntS.l0 k l0 a1 0
theorem laws_markIntS.mono_l : ∀ k, (∀ y0 y1 y2, LeO (laws_markIntS.l0 k y0 y1 y2) (laws_markIntS.l0 (k + 1) y0 y1 y2))
 | 0 => fun _ _ _ r h => by simp [laws_markIntS.l0] at h
 | k + 1 => by
  have ih0 := laws_markIntS.mono_l k
  ·
   intro y0 y1 y2
   unfold laws_markIntS.l0
   repeat' first
   | (with_reducible exact ih0 _ _ _)
   | (with_reducible exact LeO.refl _)
   | (with_reducible exact LeO.none _)
   | (with_reducible refine LeO.ite ?_ ?_)
   | (with_reducible refine LeO.bind ?_ (fun _ => ?_))
   | exact ih0 _ _ _
   | exact LeO.none _
   | refine LeO.ite ?_ ?_
   | refine LeO.bind ?_ (fun _ => ?_)
theorem laws_markIntS.mono : ∀ a0 a1 k, LeO (laws_markIntS.f k a0 a1) (laws_markIntS.f (k + 1) a0 a1) := by
 intro a0 a1 k
 have ih0 := laws_markIntS.mono_l k
 unfold laws_markIntS.f
 repeat' first
   | (with_reducible exact ih0 _ _ _)
   | (with_reducible exact LeO.refl _)
   | (with_reducible exact LeO.none _)
   | (with_reducible refine LeO.ite ?_ ?_)
   | (with_reducible refine LeO.bind ?_ (fun _ => ?_))
   | exact ih0 _ _ _
   | exact LeO.none _
   | refine LeO.ite ?_ ?_
   | refine LeO.bind ?_ (fun _ => ?_)
set_option maxHeartbeats 8000000 in
set_option maxRecDepth 100000 in
theorem laws_markIntS.calls (k : Nat) (P0_ : Nat → Prop) (u9000_ : Value) (l0 : List Int) (a1 : Int) (r1 : Int) (r2 : List Int) (w0 w : World) (hB : Below w0.heap.size w0 w) (ho0 : Kd.R (Kd.int .i64) 3 w w0.heap.size P0_ u9000_ l0) (h : laws_markIntS.f k l0 a1 = some (r1, r2)) :
  Calls Try.prog 23 #[u9000_, .int .i64 a1] w fun e w' => e = .returned (.int .i64 r1) ∧ Kd.R (Kd.int .i64) 3 w' w0.heap.size (fun k_ => (P0_ k_ ∨ w.heap.size ≤ k_)) u9000_ r2 ∧ Below w0.heap.size w0 w' ∧ Kept w w' (fun k_ => P0_ k_) := by
 have HO0 := Zh (show Kd.R (Kd.int .i64) 3 w w0.heap.size (fun k_ => (P0_ k_ ∨ w.heap.size ≤ k_)) u9000_ l0 from R_mono ho0 (fun k_ hk => (.inl hk)))
 have HK := Zh (Kept.refl w (fun k_ => P0_ k_))
 have HW0 := Zh hB.size
 have HB := Zh hB
 clear hB
 have H : (laws_markIntS.l0 k l0 a1 0) = some (r1, r2) := h
 clear h
 have H' := Zh H
 clear H
 go_enter Try.func23, Try.ntmps23
 go_wp2
 go_loopg [1, 5] k (fun kq v1 v5 w' => ∃ (x0_1 : List Int) (x1_1 : Int) (x5_1 : Int), v1 = .int .i64 x1_1 ∧ v5 = .int .i64 x5_1 ∧ Aside0 (laws_markIntS.l0 kq x0_1 x1_1 x5_1 = some (r1, r2)) ∧ Aside0 (kq ≤ k) ∧ Aside0 (Kd.R (Kd.int .i64) 3 w' w0.heap.size (fun k_ => (P0_ k_ ∨ w.heap.size ≤ k_)) u9000_ x0_1) ∧ Aside0 (Kept w w' (fun k_ => P0_ k_)) ∧ Aside0 (Below w0.heap.size w0 w'))
 case atStart => exact ⟨(l0), (a1), (0), (by first | rfl | (simp; done) | (simp [*]; done)), (by first | rfl | (simp; done) | (simp [*]; done)), H', ⟨Nat.le_refl _⟩, ⟨ZR HO0.out⟩, ⟨by repeat (first | (with_reducible first | exact HK.out | apply Kept.alloc | apply Kept.drewN | apply Kept.drew) | exact HK.out)⟩, ⟨Zs⟩⟩
 case round =>
  clear H'
  try clear c2
  try clear p2
  obtain ⟨x0_1, x1_1, x5_1, rfl, rfl, HA, HK1, HO_0, HK, HB⟩ := hrel
  cases gk with
  | zero => exact absurd HA.out (by simp [laws_markIntS.l0])
  | succ k1 =>
   have H := HA.out
   clear HA
   simp only [laws_markIntS.l0] at H
   by_cases c3 : x5_1 < (x0_1.length : Int)
   ·
    rw [if_pos c3] at H
    have c3b0 : decide (x5_1 < (x0_1.length : Int)) = true := decide_eq_true c3
    clear c3
    by_cases c4 : 0 ≤ x5_1
    ·
     rw [if_pos c4] at H
     have c4b0 : decide (0 ≤ x5_1) = true := decide_eq_true c4
     clear c4
     obtain ⟨y331, hy331⟩ : ∃ y_ : List Int, y_ = (x0_1.set (x5_1 : Int).toNat x1_1) := ⟨_, rfl⟩
     replace H : (laws_markIntS.l0 k1 y331 (wrap64 (x1_1 + 1)) (wrap64 (x5_1 + 1))) = some (r1, r2) := by first | (rw [hy331]; with_reducible exact H) | (have H2_ := (Option.bind_some _ _).symm.trans H; rw [hy331]; with_reducible exact H2_) | (have H2_ := (Option.bind_some _ _).symm.trans H; with_reducible exact H2_) | with_reducible exact H | (rw [hy331]; exact H) | exact H
     have Ny331 := Zh hy331
     clear hy331
     have H' := Zh H
     clear H
     obtain ⟨Ao6, co6, eo6⟩ := R_slice HO_0.out
     subst eo6
     have p5 : 0 ≤ (x5_1 : Int) := Zo
     have q5 : (x5_1 : Int) < ((x0_1.length : Int) : Int) := Zo
     obtain ⟨go5, co5, eo5, gb5, gl5, cl5, HG5⟩ := R_form HO_0.out (by omega)
     (first | cases eo5 | (injection eo5 with ea_ en_ ec_; (first | subst ea_ | (injection ea_ with ea_; subst ea_)); subst ec_; clear en_))
     have GB5 := Zh gb5
     have GG5 := Zh HG5
     clear gb5 gl5 HG5
     have HMgo5 := Zh (show (P0_ go5 ∨ w.heap.size ≤ go5) from (HO_0.out.1 _ rfl))
     obtain ⟨hx5_0, hf5_0⟩ := R_celln 0 HO_0.out (x5_1 : Int) p5 q5
     replace p5 := eq_true p5
     replace q5 := eq_true q5
     have HP7 := R_putg HO_0.out (x5_1 : Int) x1_1
     go_wp2_with (first | ((with_reducible refine gate_store (t := 3) (p := 15) rfl ?_); refine store_event (t := 3) (p := 15) (v := ?vo_w8) (w1 := (wr.setCell ⟨go5, (x5_1 : Int).toNat, none⟩ (.int .i64 x1_1))) ?hg ?ho ?hn ?hr ?_; (case ho => rfl); (case hg => rfl); (case hn => rfl); (case hr => first | (go_simp; done) | (go_simp; rfl)); intro w8 hw; have hg : wr.grownBy w8 (some go5) := (by rw [hw]; exact HP7.2); have hp_ : Kd.R (Kd.int .i64) 3 w8 w0.heap.size (fun k_ => (P0_ k_ ∨ w.heap.size ≤ k_)) (.slice (some ⟨go5, 0, none⟩) x0_1.length co6) y331 := (by rw [hw, Ny331.out]; exact HP7.1); clear HP7; replace HB := Zh ((by rw [hw]; exact below_set (HB.out) GB5.out : Below w0.heap.size w0 w8)); replace HK := Zh (Kept.of_grown (S := (fun k_ => P0_ k_)) hg (by repeat (first | (with_reducible first | exact HK.out | apply Kept.alloc | apply Kept.drewN | apply Kept.drew) | exact HK.out)) (fun k_ e_ => (HO_0.out.1 k_ e_))); replace HO_0 := Zh (hp_); clear hg hw hp_))
     go_roundg k1
     case measure => have := HK1.out; omega
     case rel => exact ⟨(y331), (wrap64 (x1_1 + 1)), (wrap64 (x5_1 + 1)), (by first | rfl | (simp; done) | (simp [*]; done)), (by first | rfl | (simp; done) | (simp [*]; done)), H', ⟨by have := HK1.out; omega⟩, ⟨ZR HO_0.out⟩, ⟨by repeat (first | (with_reducible first | exact HK.out | apply Kept.alloc | apply Kept.drewN | apply Kept.drew) | exact HK.out)⟩, ⟨Zs⟩⟩
    rw [if_neg c4] at H
    exact absurd H (by simp)
   rw [if_neg c3] at H
   have c3b0 : decide (x5_1 < (x0_1.length : Int)) = false := decide_eq_false c3
   clear c3
   simp only [Option.some.injEq, Prod.mk.injEq] at H
   obtain ⟨rfl, rfl⟩ := H
   obtain ⟨Ao9, co9, eo9⟩ := R_slice HO_0.out
   subst eo9
   go_wp2
   go_ret
   exact ⟨ZE, ZR HO_0.out, Zs, by repeat (first | (with_reducible first | exact HK.out | apply Kept.alloc | apply Kept.drewN | apply Kept.drew) | exact HK.out)⟩

/-! ### laws_markConf: function 19 -/
def laws_markConf.f (k : Nat) (l0_0 : List Int) (l0_1 : List Int) (l0_2 : List Int) (a1 : Int) : Option (Int × List Int × List Int × List Int) := (laws_markIntS.f k l0_0 a1).bind fun bt333 => ((laws_markIntS.f k l0_1 bt333.1).bind fun bt335 => ((laws_markIntS.f k l0_2 bt335.1).bind fun bt337 => (some (bt337.1, bt333.2, bt335.2, bt337.2))))
theorem laws_markConf.mono : ∀ a0 a1 a2 a3 k, LeO (laws_markConf.f k a0 a1 a2 a3) (laws_markConf.f (k + 1) a0 a1 a2 a3) := by
 intro a0 a1 a2 a3 k
 unfold laws_markConf.f
 repeat' first
   | (with_reducible exact laws_markIntS.mono _ _ _)
   | (with_reducible exact LeO.refl _)
   | (with_reducible exact LeO.none _)
   | (with_reducible refine LeO.ite ?_ ?_)
   | (with_reducible refine LeO.bind ?_ (fun _ => ?_))
   | exact laws_markIntS.mono _ _ _
   | exact LeO.none _
   | refine LeO.ite ?_ ?_
   | refine LeO.bind ?_ (fun _ => ?_)
set_option maxHeartbeats 8000000 in
set_option maxRecDepth 100000 in
theorem laws_markConf.calls (k : Nat) (P0_0_ : Nat → Prop) (u9000_ : Value) (l0_0 : List Int) (P0_1_ : Nat → Prop) (u9001_ : Value) (l0_1 : List Int) (P0_2_ : Nat → Prop) (u9002_ : Value) (l0_2 : List Int) (a1 : Int) (r1 : Int) (r2 : List Int) (r3 : List Int) (r4 : List Int) (w0 w : World) (hB : Below w0.heap.size w0 w) (ho0_0 : Kd.R (Kd.int .i64) 3 w w0.heap.size P0_0_ u9000_ l0_0) (hp0_0_0_1 : ∀ k_, P0_0_ k_ → ¬ P0_1_ k_) (hp0_0_0_2 : ∀ k_, P0_0_ k_ → ¬ P0_2_ k_) (ho0_1 : Kd.R (Kd.int .i64) 3 w w0.heap.size P0_1_ u9001_ l0_1) (hp0_1_0_0 : ∀ k_, P0_1_ k_ → ¬ P0_0_ k_) (hp0_1_0_2 : ∀ k_, P0_1_ k_ → ¬ P0_2_ k_) (ho0_2 : Kd.R (Kd.int .i64) 3 w w0.heap.size P0_2_ u9002_ l0_2) (hp0_2_0_0 : ∀ k_, P0_2_ k_ → ¬ P0_0_ k_) (hp0_2_0_1 : ∀ k_, P0_2_ k_ → ¬ P0_1_ k_) (h : laws_markConf.f k l0_0 l0_1 l0_2 a1 = some (r1, r2, r3, r4)) :
  Calls Try.prog 19 #[.agg #[u9000_, u9001_, u9002_], .int .i64 a1] w fun e w' => e = .returned (.int .i64 r1) ∧ Kd.R (Kd.int .i64) 3 w' w0.heap.size (fun k_ => ((P0_0_ k_ ∨ P0_1_ k_ ∨ P0_2_ k_) ∨ w.heap.size ≤ k_)) u9000_ r2 ∧ Kd.R (Kd.int .i64) 3 w' w0.heap.size (fun k_ => ((P0_0_ k_ ∨ P0_1_ k_ ∨ P0_2_ k_) ∨ w.heap.size ≤ k_)) u9001_ r3 ∧ Kd.R (Kd.int .i64) 3 w' w0.heap.size (fun k_ => ((P0_0_ k_ ∨ P0_1_ k_ ∨ P0_2_ k_) ∨ w.heap.size ≤ k_)) u9002_ r4 ∧ Below w0.heap.size w0 w' ∧ Kept w w' (fun k_ => P0_0_ k_ ∨ P0_1_ k_ ∨ P0_2_ k_) := by
 have hu27 := Try.underlying27
 have HO0_0 := Zh (show Kd.R (Kd.int .i64) 3 w w0.heap.size (fun k_ => ((P0_0_ k_ ∨ P0_1_ k_ ∨ P0_2_ k_) ∨ w.heap.size ≤ k_) ∧ some k_ ≠ (u9001_ : Value).ownBlock ∧ some k_ ≠ (u9002_ : Value).ownBlock) u9000_ l0_0 from R_mono ho0_0 (fun k_ hk => ⟨(.inl (.inl hk)), fun e_ => hp0_0_0_1 k_ hk (ho0_1.1 k_ e_.symm), fun e_ => hp0_0_0_2 k_ hk (ho0_2.1 k_ e_.symm)⟩))
 have HO0_1 := Zh (show Kd.R (Kd.int .i64) 3 w w0.heap.size (fun k_ => ((P0_0_ k_ ∨ P0_1_ k_ ∨ P0_2_ k_) ∨ w.heap.size ≤ k_) ∧ some k_ ≠ (u9000_ : Value).ownBlock ∧ some k_ ≠ (u9002_ : Value).ownBlock) u9001_ l0_1 from R_mono ho0_1 (fun k_ hk => ⟨(.inl (.inr (.inl hk))), fun e_ => hp0_1_0_0 k_ hk (ho0_0.1 k_ e_.symm), fun e_ => hp0_1_0_2 k_ hk (ho0_2.1 k_ e_.symm)⟩))
 have HO0_2 := Zh (show Kd.R (Kd.int .i64) 3 w w0.heap.size (fun k_ => ((P0_0_ k_ ∨ P0_1_ k_ ∨ P0_2_ k_) ∨ w.heap.size ≤ k_) ∧ some k_ ≠ (u9000_ : Value).ownBlock ∧ some k_ ≠ (u9001_ : Value).ownBlock) u9002_ l0_2 from R_mono ho0_2 (fun k_ hk => ⟨(.inl (.inr (.inr hk))), fun e_ => hp0_2_0_0 k_ hk (ho0_0.1 k_ e_.symm), fun e_ => hp0_2_0_1 k_ hk (ho0_1.1 k_ e_.symm)⟩))
 have HK := Zh (Kept.refl w (fun k_ => P0_0_ k_ ∨ P0_1_ k_ ∨ P0_2_ k_))
 have HW0 := Zh hB.size
 have HB := Zh hB
 clear hB
 have H : ((laws_markIntS.f k l0_0 a1).bind fun bt333 => ((laws_markIntS.f k l0_1 bt333.1).bind fun bt335 => ((laws_markIntS.f k l0_2 bt335.1).bind fun bt337 => (some (bt337.1, bt333.2, bt335.2, bt337.2))))) = some (r1, r2, r3, r4) := h
 clear h
 replace H := Option.bind_eq_some_iff.mp H
 obtain ⟨⟨t333, t334⟩, A30, H⟩ := H
 replace H : ((laws_markIntS.f k l0_1 t333).bind fun bt335 => ((laws_markIntS.f k l0_2 bt335.1).bind fun bt337 => (some (bt337.1, t334, bt335.2, bt337.2)))) = some (r1, r2, r3, r4) := H
 have A3 := Zh A30
 clear A30
 replace H := Option.bind_eq_some_iff.mp H
 obtain ⟨⟨t335, t336⟩, A40, H⟩ := H
 replace H : ((laws_markIntS.f k l0_2 t335).bind fun bt337 => (some (bt337.1, t334, t336, bt337.2))) = some (r1, r2, r3, r4) := H
 have A4 := Zh A40
 clear A40
 replace H := Option.bind_eq_some_iff.mp H
 obtain ⟨⟨t337, t338⟩, A50, H⟩ := H
 replace H : (some (t337, t334, t336, t338)) = some (r1, r2, r3, r4) := H
 have A5 := Zh A50
 clear A50
 simp only [Option.some.injEq, Prod.mk.injEq] at H
 obtain ⟨rfl, rfl, rfl, rfl⟩ := H
 obtain ⟨Ao6, co6, eo6⟩ := R_slice HO0_0.out
 subst eo6
 obtain ⟨Ao7, co7, eo7⟩ := R_slice HO0_1.out
 subst eo7
 obtain ⟨Ao8, co8, eo8⟩ := R_slice HO0_2.out
 subst eo8
 go_enter Try.func19, Try.ntmps19
 go_wp2_with (first | ((with_reducible refine gate_dst (N := 2) rfl ?_); refine box_event ?hg (N := 2) ?hd (cs := #[.slice Ao6 l0_0.length co6, .slice Ao7 l0_1.length co7, .slice Ao8 l0_2.length co8]) (t := 27) ?hr ?_; (case hd => rfl); (case hg => rfl); (case hr => first | (go_simp; done) | (go_simp; rfl)); intro gb332 hg w9 hbox hb; replace HO0_0 := Zh (R_below (ZR HO0_0.out) hb); replace HO0_1 := Zh (R_below (ZR HO0_1.out) hb); replace HO0_2 := Zh (R_below (ZR HO0_2.out) hb); have BK332 := Zh (hbox); have GW332 := Zh ((by rw [hg]; exact (by first | exact HK.out.1 | exact (show Kept w _ (fun k_ => P0_0_ k_ ∨ P0_1_ k_ ∨ P0_2_ k_) from by repeat (first | (with_reducible first | exact HK.out | apply Kept.alloc | apply Kept.drewN | apply Kept.drew) | exact HK.out)).1) : w.heap.size ≤ gb332)); replace HK := Zh (Kept.below (S := (fun k_ => P0_0_ k_ ∨ P0_1_ k_ ∨ P0_2_ k_)) (by repeat (first | (with_reducible first | exact HK.out | apply Kept.alloc | apply Kept.drewN | apply Kept.drew) | exact HK.out)) hb); have GE332 := Zh ((by rw [hg]; exact (below_size Zs) : w0.heap.size ≤ gb332)); replace HB := Zh (Zl Zs hb); clear hb hbox hg; have hcz10_0 : w9.cell? ⟨gb332, 0, none⟩ = some (.slice Ao6 l0_0.length co6) := (blk_cell BK332.out 0).trans rfl; have hcz10_1 : w9.cell? ⟨gb332, 1, none⟩ = some (.slice Ao7 l0_1.length co7) := (blk_cell BK332.out 1).trans rfl; have hcz10_2 : w9.cell? ⟨gb332, 2, none⟩ = some (.slice Ao8 l0_2.length co8) := (blk_cell BK332.out 2).trans rfl; have hfz10_0 := Zn BK332.out 0; have hfz10_1 := Zn BK332.out 1; have hfz10_2 := Zn BK332.out 2) | ((with_reducible refine gate_callee (f := 23) rfl ?_); refine ZG (some 8) Try.func23 #[.slice Ao6 l0_0.length co6, .int .i64 a1] rfl ?_; (with_reducible refine (laws_markIntS.calls k (fun k_ => some k_ = (.slice Ao6 l0_0.length co6 : Value).ownBlock) (.slice Ao6 l0_0.length co6) l0_0 a1 t333 t334 w0 _ ?side1 ?side2 A3.out).mono ?_); (case side1 => repeat (first | (with_reducible first | exact HB.out | apply below_alloc | apply pw_below_drewN | apply below_drew1 | refine below_set ?_ GE332.out) | exact HB.out)); (case side2 => exact R_tight rfl HO0_0.out); rintro e w11 ⟨rfl, hy0, hb, hkp⟩; refine ⟨_, rfl, ?_⟩; replace HO0_1 := Zh (R_mono (ok' := fun k_ => ((P0_0_ k_ ∨ P0_1_ k_ ∨ P0_2_ k_) ∨ w.heap.size ≤ k_) ∧ some k_ ≠ (.slice Ao6 l0_0.length co6 : Value).ownBlock ∧ some k_ ≠ (.slice Ao8 l0_2.length co8 : Value).ownBlock) (R_keptB (HO0_1.out) hkp (fun k_ hk_ hs_ => (hk_.2.1) hs_)) (fun k_ hk_ => ⟨hk_.1.1, hk_.1.2.1, hk_.1.2.2⟩)); replace HO0_2 := Zh (R_mono (ok' := fun k_ => ((P0_0_ k_ ∨ P0_1_ k_ ∨ P0_2_ k_) ∨ w.heap.size ≤ k_) ∧ some k_ ≠ (.slice Ao6 l0_0.length co6 : Value).ownBlock ∧ some k_ ≠ (.slice Ao7 l0_1.length co7 : Value).ownBlock) (R_keptB (HO0_2.out) hkp (fun k_ hk_ hs_ => (hk_.2.1) hs_)) (fun k_ hk_ => ⟨hk_.1.1, hk_.1.2.1, hk_.1.2.2⟩)); replace BK332 := Zh (blk_kept Zk hkp (fun hs_ => (fun e_ => (R_ne HO0_0.out BK332.out (by decide)) e_) hs_)); replace HK := Zh (Kept.then_ (S := (fun k_ => P0_0_ k_ ∨ P0_1_ k_ ∨ P0_2_ k_)) (by repeat (first | (with_reducible first | exact HK.out | apply Kept.alloc | apply Kept.drewN | apply Kept.drew | refine Kept.setCell ?_ (.inr GW332.out) _) | exact HK.out)) hkp (fun k_ hs_ => (fun e_ => (HO0_0.out.1 k_ e_.symm).1) hs_)); replace HO0_0 := Zh (R_reok rfl hy0 (fun k_ e_ => HO0_0.out.1 k_ e_)); replace HB := Zh (hb); (try clear hb); (try clear hkp); (try clear hy0); have hcz12_0 : w11.cell? ⟨gb332, 0, none⟩ = some (.slice Ao6 l0_0.length co6) := (blk_cell BK332.out 0).trans rfl; have hcz12_1 : w11.cell? ⟨gb332, 1, none⟩ = some (.slice Ao7 l0_1.length co7) := (blk_cell BK332.out 1).trans rfl; have hcz12_2 : w11.cell? ⟨gb332, 2, none⟩ = some (.slice Ao8 l0_2.length co8) := (blk_cell BK332.out 2).trans rfl; have hfz12_0 := Zn BK332.out 0; have hfz12_1 := Zn BK332.out 1; have hfz12_2 := Zn BK332.out 2) | ((with_reducible refine gate_callee (f := 23) rfl ?_); refine ZG (some 12) Try.func23 #[.slice Ao7 l0_1.length co7, .int .i64 t333] rfl ?_; (with_reducible refine (laws_markIntS.calls k (fun k_ => some k_ = (.slice Ao7 l0_1.length co7 : Value).ownBlock) (.slice Ao7 l0_1.length co7) l0_1 t333 t335 t336 w0 _ ?side1 ?side2 A4.out).mono ?_); (case side1 => repeat (first | (with_reducible first | exact HB.out | apply below_alloc | apply pw_below_drewN | apply below_drew1 | refine below_set ?_ GE332.out) | exact HB.out)); (case side2 => exact R_tight rfl HO0_1.out); rintro e w13 ⟨rfl, hy0, hb, hkp⟩; refine ⟨_, rfl, ?_⟩; replace HO0_0 := Zh (R_mono (ok' := fun k_ => ((P0_0_ k_ ∨ P0_1_ k_ ∨ P0_2_ k_) ∨ w.heap.size ≤ k_) ∧ some k_ ≠ (.slice Ao7 l0_1.length co7 : Value).ownBlock ∧ some k_ ≠ (.slice Ao8 l0_2.length co8 : Value).ownBlock) (R_keptB (HO0_0.out) hkp (fun k_ hk_ hs_ => (hk_.2.1) hs_)) (fun k_ hk_ => ⟨hk_.1.1, hk_.1.2.1, hk_.1.2.2⟩)); replace HO0_2 := Zh (R_mono (ok' := fun k_ => ((P0_0_ k_ ∨ P0_1_ k_ ∨ P0_2_ k_) ∨ w.heap.size ≤ k_) ∧ some k_ ≠ (.slice Ao6 l0_0.length co6 : Value).ownBlock ∧ some k_ ≠ (.slice Ao7 l0_1.length co7 : Value).ownBlock) (R_keptB (HO0_2.out) hkp (fun k_ hk_ hs_ => (hk_.2.2) hs_)) (fun k_ hk_ => ⟨hk_.1.1, hk_.1.2.1, hk_.1.2.2⟩)); replace BK332 := Zh (blk_kept Zk hkp (fun hs_ => (fun e_ => (R_ne HO0_1.out BK332.out (by decide)) e_) hs_)); replace HK := Zh (Kept.then_ (S := (fun k_ => P0_0_ k_ ∨ P0_1_ k_ ∨ P0_2_ k_)) (by repeat (first | (with_reducible first | exact HK.out | apply Kept.alloc | apply Kept.drewN | apply Kept.drew | refine Kept.setCell ?_ (.inr GW332.out) _) | exact HK.out)) hkp (fun k_ hs_ => (fun e_ => (HO0_1.out.1 k_ e_.symm).1) hs_)); replace HO0_1 := Zh (R_reok rfl hy0 (fun k_ e_ => HO0_1.out.1 k_ e_)); replace HB := Zh (hb); (try clear hb); (try clear hkp); (try clear hy0); have hcz14_0 : w13.cell? ⟨gb332, 0, none⟩ = some (.slice Ao6 l0_0.length co6) := (blk_cell BK332.out 0).trans rfl; have hcz14_1 : w13.cell? ⟨gb332, 1, none⟩ = some (.slice Ao7 l0_1.length co7) := (blk_cell BK332.out 1).trans rfl; have hcz14_2 : w13.cell? ⟨gb332, 2, none⟩ = some (.slice Ao8 l0_2.length co8) := (blk_cell BK332.out 2).trans rfl; have hfz14_0 := Zn BK332.out 0; have hfz14_1 := Zn BK332.out 1; have hfz14_2 := Zn BK332.out 2) | ((with_reducible refine gate_callee (f := 23) rfl ?_); refine ZG (some 16) Try.func23 #[.slice Ao8 l0_2.length co8, .int .i64 t335] rfl ?_; (with_reducible refine (laws_markIntS.calls k (fun k_ => some k_ = (.slice Ao8 l0_2.length co8 : Value).ownBlock) (.slice Ao8 l0_2.length co8) l0_2 t335 t337 t338 w0 _ ?side1 ?side2 A5.out).mono ?_); (case side1 => repeat (first | (with_reducible first | exact HB.out | apply below_alloc | apply pw_below_drewN | apply below_drew1 | refine below_set ?_ GE332.out) | exact HB.out)); (case side2 => exact R_tight rfl HO0_2.out); rintro e w15 ⟨rfl, hy0, hb, hkp⟩; refine ⟨_, rfl, ?_⟩; replace HO0_0 := Zh (R_mono (ok' := fun k_ => ((P0_0_ k_ ∨ P0_1_ k_ ∨ P0_2_ k_) ∨ w.heap.size ≤ k_) ∧ some k_ ≠ (.slice Ao7 l0_1.length co7 : Value).ownBlock ∧ some k_ ≠ (.slice Ao8 l0_2.length co8 : Value).ownBlock) (R_keptB (HO0_0.out) hkp (fun k_ hk_ hs_ => (hk_.2.2) hs_)) (fun k_ hk_ => ⟨hk_.1.1, hk_.1.2.1, hk_.1.2.2⟩)); replace HO0_1 := Zh (R_mono (ok' := fun k_ => ((P0_0_ k_ ∨ P0_1_ k_ ∨ P0_2_ k_) ∨ w.heap.size ≤ k_) ∧ some k_ ≠ (.slice Ao6 l0_0.length co6 : Value).ownBlock ∧ some k_ ≠ (.slice Ao8 l0_2.length co8 : Value).ownBlock) (R_keptB (HO0_1.out) hkp (fun k_ hk_ hs_ => (hk_.2.2) hs_)) (fun k_ hk_ => ⟨hk_.1.1, hk_.1.2.1, hk_.1.2.2⟩)); replace BK332 := Zh (blk_kept Zk hkp (fun hs_ => (fun e_ => (R_ne HO0_2.out BK332.out (by decide)) e_) hs_)); replace HK := Zh (Kept.then_ (S := (fun k_ => P0_0_ k_ ∨ P0_1_ k_ ∨ P0_2_ k_)) (by repeat (first | (with_reducible first | exact HK.out | apply Kept.alloc | apply Kept.drewN | apply Kept.drew | refine Kept.setCell ?_ (.inr GW332.out) _) | exact HK.out)) hkp (fun k_ hs_ => (fun e_ => (HO0_2.out.1 k_ e_.symm).1) hs_)); replace HO0_2 := Zh (R_reok rfl hy0 (fun k_ e_ => HO0_2.out.1 k_ e_)); replace HB := Zh (hb); (try clear hb); (try clear hkp); (try clear hy0)))
 go_ret
 exact ⟨ZE, ZR (R_mono HO0_0.out (fun _ hk => hk.1)), ZR (R_mono HO0_1.out (fun _ hk => hk.1)), ZR (R_mono HO0_2.out (fun _ hk => hk.1)), Zs, by repeat (first | (with_reducible first | exact HK.out | apply Kept.alloc | apply Kept.drewN | apply Kept.drew | refine Kept.setCell ?_ (.inr GW332.out) _) | exact HK.out)⟩

/-! ### laws_heldIntS: function 40 -/
def laws_heldIntS.l0 : Nat → List Int → Int → Int → Option (Int)
 | 0, _, _, _ => none
 | k + 1, x0, x1, x5 => if x5 < (x0.length : Int) then (if 0 ≤ x5 then (if (rd x0 x5) = x1 then (laws_heldIntS.l0 k x0 (wrap64 (x1 + 1)) (wrap64 (x5 + 1))) else (some (-1))) else (none)) else (some x1)
def laws_heldIntS.f (k : Nat) (l0 : List Int) (a1 : Int) : Option (Int) := laws_heldIntS.l0 k l0 a1 0
theorem laws_heldIntS.mono_l : ∀ k, (∀ y0 y1 y2, LeO (laws_heldIntS.l0 k y0 y1 y2) (laws_heldIntS.l0 (k + 1) y0 y1 y2))
 | 0 => fun _ _ _ r h => by simp [laws_heldIntS.l0] at h
 | k + 1 => by
  have ih0 := laws_heldIntS.mono_l k
  ·
   intro y0 y1 y2
   unfold laws_heldIntS.l0
   repeat' first
   | (with_reducible exact ih0 _ _ _)
   | (with_reducible exact LeO.refl _)
   | (with_reducible exact LeO.none _)
   | (with_reducible refine LeO.ite ?_ ?_)
   | (with_reducible refine LeO.bind ?_ (fun _ => ?_))
   | exact ih0 _ _ _
   | exact LeO.none _
   | refine LeO.ite ?_ ?_
   | refine LeO.bind ?_ (fun _ => ?_)
theorem laws_heldIntS.mono : ∀ a0 a1 k, LeO (laws_heldIntS.f k a0 a1) (laws_heldIntS.f (k + 1) a0 a1) := by
 intro a0 a1 k
 have ih0 := laws_heldIntS.mono_l k
 unfold laws_heldIntS.f
 repeat' first
   | (with_reducible exact ih0 _ _ _)
   | (with_reducible exact LeO.refl _)
   | (with_reducible exact LeO.none _)
   | (with_reducible refine LeO.ite ?_ ?_)
   | (with_reducible refine LeO.bind ?_ (fun _ => ?_))
   | exact ih0 _ _ _
   | exact LeO.none _
   | refine LeO.ite ?_ ?_
   | refine LeO.bind ?_ (fun _ => ?_)
set_option maxHeartbeats 8000000 in
set_option maxRecDepth 100000 in
theorem laws_heldIntS.calls (k : Nat) (A0 : Option Addr) (c0 : Nat) (l0 : List Int) (a1 : Int) (r : Int) (w : World) (hr0 : Kd.C (Kd.int .i64) w A0 l0.length l0) (hc0 : l0.length ≤ c0) (h : laws_heldIntS.f k l0 a1 = some r) :
  Calls Try.prog 40 #[.slice A0 l0.length c0, .int .i64 a1] w fun e w' => e = .returned (.int .i64 r) ∧ Drawn0 w w' := by
 have HR0 := Zh hr0
 have HC0 := Zh hc0
 clear hr0 hc0
 have H : (laws_heldIntS.l0 k l0 a1 0) = some r := h
 clear h
 have H' := Zh H
 clear H
 go_enter Try.func40, Try.ntmps40
 go_wp2
 go_loopg [1, 5] k (fun kq v1 v5 w' => ∃ (x1_1 : Int) (x5_1 : Int), v1 = .int .i64 x1_1 ∧ v5 = .int .i64 x5_1 ∧ Aside0 (laws_heldIntS.l0 kq l0 x1_1 x5_1 = some r) ∧ Aside0 (kq ≤ k) ∧ Drawn0 w w')
 case atStart => exact ⟨(a1), (0), (by first | rfl | (simp; done) | (simp [*]; done)), (by first | rfl | (simp; done) | (simp [*]; done)), H', ⟨Nat.le_refl _⟩, by repeat (first | exact Drawn0.refl _ | apply Drawn0.step)⟩
 case round =>
  clear H'
  try clear p2
  obtain ⟨x1_1, x5_1, rfl, rfl, HA, HK1, ⟨m1, rfl⟩⟩ := hrel
  cases gk with
  | zero => exact absurd HA.out (by simp [laws_heldIntS.l0])
  | succ k1 =>
   have H := HA.out
   clear HA
   simp only [laws_heldIntS.l0] at H
   by_cases c3 : x5_1 < (l0.length : Int)
   ·
    rw [if_pos c3] at H
    have c3b0 : decide (x5_1 < (l0.length : Int)) = true := decide_eq_true c3
    clear c3
    by_cases c4 : 0 ≤ x5_1
    ·
     rw [if_pos c4] at H
     have c4b0 : decide (0 ≤ x5_1) = true := decide_eq_true c4
     clear c4
     by_cases c5 : (rd l0 x5_1) = x1_1
     ·
      rw [if_pos c5] at H
      have c5b0 : ((rd l0 x5_1) == x1_1) = true := beq_iff_eq.mpr c5
      have c5b1 : ((rd l0 x5_1) != x1_1) = false := bne_eq_false_iff_eq.mpr c5
      clear c5
      have H' := Zh H
      clear H
      have p339 : 0 ≤ (x5_1 : Int) := Zo
      have q339 : x5_1 < (l0.length : Int) := Zo
      obtain ⟨ad339, e339, hx339_0⟩ := Kd.at_int HR0.out x5_1 p339 q339
      cases e339
      replace p339 := eq_true p339
      replace q339 := eq_true q339
      go_wp2
      go_roundg k1
      case measure => have := HK1.out; omega
      case rel => exact ⟨(wrap64 (x1_1 + 1)), (wrap64 (x5_1 + 1)), (by first | rfl | (simp; done) | (simp [*]; done)), (by first | rfl | (simp; done) | (simp [*]; done)), H', ⟨by have := HK1.out; omega⟩, by repeat (first | exact Drawn0.refl _ | apply Drawn0.step)⟩
     rw [if_neg c5] at H
     have c5b0 : ((rd l0 x5_1) == x1_1) = false := beq_eq_false_iff_ne.mpr c5
     have c5b1 : ((rd l0 x5_1) != x1_1) = true := bne_iff_ne.mpr c5
     obtain rfl := Option.some.inj H
     have p339 : 0 ≤ (x5_1 : Int) := Zo
     have q339 : x5_1 < (l0.length : Int) := Zo
     obtain ⟨ad339, e339, hx339_0⟩ := Kd.at_int HR0.out x5_1 p339 q339
     cases e339
     replace p339 := eq_true p339
     replace q339 := eq_true q339
     go_wp2
     go_ret
     exact ⟨by first | rfl | (simp; done) | (simp [*]; done), by repeat (first | exact Drawn0.refl _ | apply Drawn0.step)⟩
    rw [if_neg c4] at H
    exact absurd H (by simp)
   rw [if_neg c3] at H
   have c3b0 : decide (x5_1 < (l0.length : Int)) = false := decide_eq_false c3
   clear c3
   obtain rfl := Option.some.inj H
   go_wp2
   go_ret
   exact ⟨by first | rfl | (simp; done) | (simp [*]; done), by repeat (first | exact Drawn0.refl _ | apply Drawn0.step)⟩

/-! ### laws_heldConf: function 20 -/
def laws_heldConf.f (k : Nat) (l0_0 : List Int) (l0_1 : List Int) (l0_2 : List Int) (a1 : Int) : Option (Int) := (laws_heldIntS.f k l0_0 a1).bind fun t341 => (if t341 < 0 then (some (-1)) else ((laws_heldIntS.f k l0_1 t341).bind fun t342 => (if t342 < 0 then (some (-1)) else ((laws_heldIntS.f k l0_2 t342).bind fun t343 => (if t343 < 0 then (some (-1)) else (some t343))))))
theorem laws_heldConf.mono : ∀ a0 a1 a2 a3 k, LeO (laws_heldConf.f k a0 a1 a2 a3) (laws_heldConf.f (k + 1) a0 a1 a2 a3) := by
 intro a0 a1 a2 a3 k
 unfold laws_heldConf.f
 repeat' first
   | (with_reducible exact laws_heldIntS.mono _ _ _)
   | (with_reducible exact LeO.refl _)
   | (with_reducible exact LeO.none _)
   | (with_reducible refine LeO.ite ?_ ?_)
   | (with_reducible refine LeO.bind ?_ (fun _ => ?_))
   | exact laws_heldIntS.mono _ _ _
   | exact LeO.none _
   | refine LeO.ite ?_ ?_
   | refine LeO.bind ?_ (fun _ => ?_)
set_option maxHeartbeats 8000000 in
set_option maxRecDepth 100000 in
theorem laws_heldConf.calls (k : Nat) (A0_0 : Option Addr) (c0_0 : Nat) (l0_0 : List Int) (A0_1 : Option Addr) (c0_1 : Nat) (l0_1 : List Int) (A0_2 : Option Addr) (c0_2 : Nat) (l0_2 : List Int) (a1 : Int) (r : Int) (w : World) (hr0_0 : Kd.C (Kd.int .i64) w A0_0 l0_0.length l0_0) (hc0_0 : l0_0.length ≤ c0_0) (hr0_1 : Kd.C (Kd.int .i64) w A0_1 l0_1.length l0_1) (hc0_1 : l0_1.length ≤ c0_1) (hr0_2 : Kd.C (Kd.int .i64) w A0_2 l0_2.length l0_2) (hc0_2 : l0_2.length ≤ c0_2) (h : laws_heldConf.f k l0_0 l0_1 l0_2 a1 = some r) :
  Calls Try.prog 20 #[.agg #[.slice A0_0 l0_0.length c0_0, .slice A0_1 l0_1.length c0_1, .slice A0_2 l0_2.length c0_2], .int .i64 a1] w fun e w' => e = .returned (.int .i64 r) ∧ Below w.heap.size w w' := by
 have hu27 := Try.underlying27
 have HR0_0 := Zh hr0_0
 have HC0_0 := Zh hc0_0
 clear hr0_0 hc0_0
 have HR0_1 := Zh hr0_1
 have HC0_1 := Zh hc0_1
 clear hr0_1 hc0_1
 have HR0_2 := Zh hr0_2
 have HC0_2 := Zh hc0_2
 clear hr0_2 hc0_2
 have HB := Zh (Below.refl w.heap.size w)
 have H : ((laws_heldIntS.f k l0_0 a1).bind fun t341 => (if t341 < 0 then (some (-1)) else ((laws_heldIntS.f k l0_1 t341).bind fun t342 => (if t342 < 0 then (some (-1)) else ((laws_heldIntS.f k l0_2 t342).bind fun t343 => (if t343 < 0 then (some (-1)) else (some t343))))))) = some r := h
 clear h
 replace H := Option.bind_eq_some_iff.mp H
 obtain ⟨t341, A30, H⟩ := H
 replace H : (if t341 < 0 then (some (-1)) else ((laws_heldIntS.f k l0_1 t341).bind fun t342 => (if t342 < 0 then (some (-1)) else ((laws_heldIntS.f k l0_2 t342).bind fun t343 => (if t343 < 0 then (some (-1)) else (some t343)))))) = some r := H
 have A3 := Zh A30
 clear A30
 by_cases c4 : t341 < 0
 ·
  rw [if_pos c4] at H
  have c4b0 : decide (t341 < 0) = true := decide_eq_true c4
  clear c4
  obtain rfl := Option.some.inj H
  go_enter Try.func20, Try.ntmps20
  go_wp2_with (first | ((with_reducible refine gate_dst (N := 2) rfl ?_); refine box_event ?hg (N := 2) ?hd (cs := #[.slice A0_0 l0_0.length c0_0, .slice A0_1 l0_1.length c0_1, .slice A0_2 l0_2.length c0_2]) (t := 27) ?hr ?_; (case hd => rfl); (case hg => rfl); (case hr => first | (go_simp; done) | (go_simp; rfl)); intro gb340 hg w5 hbox hb; have BK340 := Zh (hbox); have GW340 := Zh ((by rw [hg]; exact (below_size Zs) : w.heap.size ≤ gb340)); have GE340 := Zh ((by rw [hg]; exact (below_size Zs) : w.heap.size ≤ gb340)); replace HB := Zh (Zl Zs hb); clear hb hbox hg; have hcz6_0 : w5.cell? ⟨gb340, 0, none⟩ = some (.slice A0_0 l0_0.length c0_0) := (blk_cell BK340.out 0).trans rfl; have hcz6_1 : w5.cell? ⟨gb340, 1, none⟩ = some (.slice A0_1 l0_1.length c0_1) := (blk_cell BK340.out 1).trans rfl; have hcz6_2 : w5.cell? ⟨gb340, 2, none⟩ = some (.slice A0_2 l0_2.length c0_2) := (blk_cell BK340.out 2).trans rfl; have hfz6_0 := Zn BK340.out 0; have hfz6_1 := Zn BK340.out 1; have hfz6_2 := Zn BK340.out 2) | ((with_reducible refine gate_callee (f := 40) rfl ?_); refine ZG (some 8) Try.func40 #[.slice A0_0 l0_0.length c0_0, .int .i64 a1] rfl ?_; (with_reducible refine (laws_heldIntS.calls k _ _ l0_0 a1 t341 _ ?side1 ?side2 A3.out).mono ?_); (case side1 => repeat (first | exact (C_below HR0_0.out HB.out) | (with_reducible refine C_alloc ?_ _) | (with_reducible refine C_drewN ?_ _) | (with_reducible refine C_drew ?_))); (case side2 => exact HC0_0.out); rintro e w' ⟨rfl, ⟨nd, rfl⟩⟩; refine ⟨_, rfl, ?_⟩))
  go_ret
  exact ⟨ZE, Zs⟩
 rw [if_neg c4] at H
 have c4b0 : decide (t341 < 0) = false := decide_eq_false c4
 clear c4
 replace H := Option.bind_eq_some_iff.mp H
 obtain ⟨t342, A70, H⟩ := H
 replace H : (if t342 < 0 then (some (-1)) else ((laws_heldIntS.f k l0_2 t342).bind fun t343 => (if t343 < 0 then (some (-1)) else (some t343)))) = some r := H
 have A7 := Zh A70
 clear A70
 by_cases c8 : t342 < 0
 ·
  rw [if_pos c8] at H
  have c8b0 : decide (t342 < 0) = true := decide_eq_true c8
  clear c8
  obtain rfl := Option.some.inj H
  go_enter Try.func20, Try.ntmps20
  go_wp2_with (first | ((with_reducible refine gate_dst (N := 2) rfl ?_); refine box_event ?hg (N := 2) ?hd (cs := #[.slice A0_0 l0_0.length c0_0, .slice A0_1 l0_1.length c0_1, .slice A0_2 l0_2.length c0_2]) (t := 27) ?hr ?_; (case hd => rfl); (case hg => rfl); (case hr => first | (go_simp; done) | (go_simp; rfl)); intro gb340 hg w9 hbox hb; have BK340 := Zh (hbox); have GW340 := Zh ((by rw [hg]; exact (below_size Zs) : w.heap.size ≤ gb340)); have GE340 := Zh ((by rw [hg]; exact (below_size Zs) : w.heap.size ≤ gb340)); replace HB := Zh (Zl Zs hb); clear hb hbox hg; have hcz10_0 : w9.cell? ⟨gb340, 0, none⟩ = some (.slice A0_0 l0_0.length c0_0) := (blk_cell BK340.out 0).trans rfl; have hcz10_1 : w9.cell? ⟨gb340, 1, none⟩ = some (.slice A0_1 l0_1.length c0_1) := (blk_cell BK340.out 1).trans rfl; have hcz10_2 : w9.cell? ⟨gb340, 2, none⟩ = some (.slice A0_2 l0_2.length c0_2) := (blk_cell BK340.out 2).trans rfl; have hfz10_0 := Zn BK340.out 0; have hfz10_1 := Zn BK340.out 1; have hfz10_2 := Zn BK340.out 2) | ((with_reducible refine gate_callee (f := 40) rfl ?_); refine ZG (some 8) Try.func40 #[.slice A0_0 l0_0.length c0_0, .int .i64 a1] rfl ?_; (with_reducible refine (laws_heldIntS.calls k _ _ l0_0 a1 t341 _ ?side1 ?side2 A3.out).mono ?_); (case side1 => repeat (first | exact (C_below HR0_0.out HB.out) | (with_reducible refine C_alloc ?_ _) | (with_reducible refine C_drewN ?_ _) | (with_reducible refine C_drew ?_))); (case side2 => exact HC0_0.out); rintro e w' ⟨rfl, ⟨nd, rfl⟩⟩; refine ⟨_, rfl, ?_⟩) | ((with_reducible refine gate_callee (f := 40) rfl ?_); refine ZG (some 14) Try.func40 #[.slice A0_1 l0_1.length c0_1, .int .i64 t341] rfl ?_; (with_reducible refine (laws_heldIntS.calls k _ _ l0_1 t341 t342 _ ?side1 ?side2 A7.out).mono ?_); (case side1 => repeat (first | exact (C_below HR0_1.out Zs) | (with_reducible refine C_alloc ?_ _) | (with_reducible refine C_drewN ?_ _) | (with_reducible refine C_drew ?_))); (case side2 => exact HC0_1.out); rintro e w' ⟨rfl, ⟨nd, rfl⟩⟩; refine ⟨_, rfl, ?_⟩))
  go_ret
  exact ⟨ZE, Zs⟩
 rw [if_neg c8] at H
 have c8b0 : decide (t342 < 0) = false := decide_eq_false c8
 clear c8
 replace H := Option.bind_eq_some_iff.mp H
 obtain ⟨t343, A110, H⟩ := H
 replace H : (if t343 < 0 then (some (-1)) else (some t343)) = some r := H
 have A11 := Zh A110
 clear A110
 by_cases c12 : t343 < 0
 ·
  rw [if_pos c12] at H
  have c12b0 : decide (t343 < 0) = true := decide_eq_true c12
  clear c12
  obtain rfl := Option.some.inj H
  go_enter Try.func20, Try.ntmps20
  go_wp2_with (first | ((with_reducible refine gate_dst (N := 2) rfl ?_); refine box_event ?hg (N := 2) ?hd (cs := #[.slice A0_0 l0_0.length c0_0, .slice A0_1 l0_1.length c0_1, .slice A0_2 l0_2.length c0_2]) (t := 27) ?hr ?_; (case hd => rfl); (case hg => rfl); (case hr => first | (go_simp; done) | (go_simp; rfl)); intro gb340 hg w13 hbox hb; have BK340 := Zh (hbox); have GW340 := Zh ((by rw [hg]; exact (below_size Zs) : w.heap.size ≤ gb340)); have GE340 := Zh ((by rw [hg]; exact (below_size Zs) : w.heap.size ≤ gb340)); replace HB := Zh (Zl Zs hb); clear hb hbox hg; have hcz14_0 : w13.cell? ⟨gb340, 0, none⟩ = some (.slice A0_0 l0_0.length c0_0) := (blk_cell BK340.out 0).trans rfl; have hcz14_1 : w13.cell? ⟨gb340, 1, none⟩ = some (.slice A0_1 l0_1.length c0_1) := (blk_cell BK340.out 1).trans rfl; have hcz14_2 : w13.cell? ⟨gb340, 2, none⟩ = some (.slice A0_2 l0_2.length c0_2) := (blk_cell BK340.out 2).trans rfl; have hfz14_0 := Zn BK340.out 0; have hfz14_1 := Zn BK340.out 1; have hfz14_2 := Zn BK340.out 2) | ((with_reducible refine gate_callee (f := 40) rfl ?_); refine ZG (some 8) Try.func40 #[.slice A0_0 l0_0.length c0_0, .int .i64 a1] rfl ?_; (with_reducible refine (laws_heldIntS.calls k _ _ l0_0 a1 t341 _ ?side1 ?side2 A3.out).mono ?_); (case side1 => repeat (first | exact (C_below HR0_0.out HB.out) | (with_reducible refine C_alloc ?_ _) | (with_reducible refine C_drewN ?_ _) | (with_reducible refine C_drew ?_))); (case side2 => exact HC0_0.out); rintro e w' ⟨rfl, ⟨nd, rfl⟩⟩; refine ⟨_, rfl, ?_⟩) | ((with_reducible refine gate_callee (f := 40) rfl ?_); refine ZG (some 14) Try.func40 #[.slice A0_1 l0_1.length c0_1, .int .i64 t341] rfl ?_; (with_reducible refine (laws_heldIntS.calls k _ _ l0_1 t341 t342 _ ?side1 ?side2 A7.out).mono ?_); (case side1 => repeat (first | exact (C_below HR0_1.out Zs) | (with_reducible refine C_alloc ?_ _) | (with_reducible refine C_drewN ?_ _) | (with_reducible refine C_drew ?_))); (case side2 => exact HC0_1.out); rintro e w' ⟨rfl, ⟨nd, rfl⟩⟩; refine ⟨_, rfl, ?_⟩) | ((with_reducible refine gate_callee (f := 40) rfl ?_); refine ZG (some 20) Try.func40 #[.slice A0_2 l0_2.length c0_2, .int .i64 t342] rfl ?_; (with_reducible refine (laws_heldIntS.calls k _ _ l0_2 t342 t343 _ ?side1 ?side2 A11.out).mono ?_); (case side1 => repeat (first | exact (C_below HR0_2.out Zs) | (with_reducible refine C_alloc ?_ _) | (with_reducible refine C_drewN ?_ _) | (with_reducible refine C_drew ?_))); (case side2 => exact HC0_2.out); rintro e w' ⟨rfl, ⟨nd, rfl⟩⟩; refine ⟨_, rfl, ?_⟩))
  go_ret
  exact ⟨ZE, Zs⟩
 rw [if_neg c12] at H
 have c12b0 : decide (t343 < 0) = false := decide_eq_false c12
 clear c12
 obtain rfl := Option.some.inj H
 go_enter Try.func20, Try.ntmps20
 go_wp2_with (first | ((with_reducible refine gate_dst (N := 2) rfl ?_); refine box_event ?hg (N := 2) ?hd (cs := #[.slice A0_0 l0_0.length c0_0, .slice A0_1 l0_1.length c0_1, .slice A0_2 l0_2.length c0_2]) (t := 27) ?hr ?_; (case hd => rfl); (case hg => rfl); (case hr => first | (go_simp; done) | (go_simp; rfl)); intro gb340 hg w15 hbox hb; have BK340 := Zh (hbox); have GW340 := Zh ((by rw [hg]; exact (below_size Zs) : w.heap.size ≤ gb340)); have GE340 := Zh ((by rw [hg]; exact (below_size Zs) : w.heap.size ≤ gb340)); replace HB := Zh (Zl Zs hb); clear hb hbox hg; have hcz16_0 : w15.cell? ⟨gb340, 0, none⟩ = some (.slice A0_0 l0_0.length c0_0) := (blk_cell BK340.out 0).trans rfl; have hcz16_1 : w15.cell? ⟨gb340, 1, none⟩ = some (.slice A0_1 l0_1.length c0_1) := (blk_cell BK340.out 1).trans rfl; have hcz16_2 : w15.cell? ⟨gb340, 2, none⟩ = some (.slice A0_2 l0_2.length c0_2) := (blk_cell BK340.out 2).trans rfl; have hfz16_0 := Zn BK340.out 0; have hfz16_1 := Zn BK340.out 1; have hfz16_2 := Zn BK340.out 2) | ((with_reducible refine gate_callee (f := 40) rfl ?_); refine ZG (some 8) Try.func40 #[.slice A0_0 l0_0.length c0_0, .int .i64 a1] rfl ?_; (with_reducible refine (laws_heldIntS.calls k _ _ l0_0 a1 t341 _ ?side1 ?side2 A3.out).mono ?_); (case side1 => repeat (first | exact (C_below HR0_0.out HB.out) | (with_reducible refine C_alloc ?_ _) | (with_reducible refine C_drewN ?_ _) | (with_reducible refine C_drew ?_))); (case side2 => exact HC0_0.out); rintro e w' ⟨rfl, ⟨nd, rfl⟩⟩; refine ⟨_, rfl, ?_⟩) | ((with_reducible refine gate_callee (f := 40) rfl ?_); refine ZG (some 14) Try.func40 #[.slice A0_1 l0_1.length c0_1, .int .i64 t341] rfl ?_; (with_reducible refine (laws_heldIntS.calls k _ _ l0_1 t341 t342 _ ?side1 ?side2 A7.out).mono ?_); (case side1 => repeat (first | exact (C_below HR0_1.out Zs) | (with_reducible refine C_alloc ?_ _) | (with_reducible refine C_drewN ?_ _) | (with_reducible refine C_drew ?_))); (case side2 => exact HC0_1.out); rintro e w' ⟨rfl, ⟨nd, rfl⟩⟩; refine ⟨_, rfl, ?_⟩) | ((with_reducible refine gate_callee (f := 40) rfl ?_); refine ZG (some 20) Try.func40 #[.slice A0_2 l0_2.length c0_2, .int .i64 t342] rfl ?_; (with_reducible refine (laws_heldIntS.calls k _ _ l0_2 t342 t343 _ ?side1 ?side2 A11.out).mono ?_); (case side1 => repeat (first | exact (C_below HR0_2.out Zs) | (with_reducible refine C_alloc ?_ _) | (with_reducible refine C_drewN ?_ _) | (with_reducible refine C_drew ?_))); (case side2 => exact HC0_2.out); rintro e w' ⟨rfl, ⟨nd, rfl⟩⟩; refine ⟨_, rfl, ?_⟩))
 go_ret
 exact ⟨ZE, Zs⟩

/-! ### spec_l01In: function 45 -/
def spec_l01In.f (a0 : Int) (a1 : Int) (a2 : Int) : Option (Bool) := if a1 ≤ a0 then (some (decide (a0 ≤ a2))) else (some false)
set_option maxHeartbeats 8000000 in
set_option maxRecDepth 100000 in
theorem spec_l01In.calls (a0 : Int) (a1 : Int) (a2 : Int) (r : Bool) (w : World) (h : spec_l01In.f a0 a1 a2 = some r) :
  Calls Try.prog 45 #[.int .i64 a0, .int .i64 a1, .int .i64 a2] w fun e w' => e = .returned (.bool r) ∧ Drawn0 w w' := by
 have H : (if a1 ≤ a0 then (some (decide (a0 ≤ a2))) else (some false)) = some r := h
 clear h
 by_cases c4 : a1 ≤ a0
 ·
  rw [if_pos c4] at H
  have c4b0 : decide (a1 ≤ a0) = true := decide_eq_true c4
  clear c4
  obtain rfl := Option.some.inj H
  go_enter Try.func45, Try.ntmps45
  go_wp2
  go_ret
  exact ⟨by first | rfl | (simp; done) | (simp [*]; done), by repeat (first | exact Drawn0.refl _ | apply Drawn0.step)⟩
 rw [if_neg c4] at H
 have c4b0 : decide (a1 ≤ a0) = false := decide_eq_false c4
 clear c4
 obtain rfl := Option.some.inj H
 go_enter Try.func45, Try.ntmps45
 go_wp2
 go_ret
 exact ⟨by first | rfl | (simp; done) | (simp [*]; done), by repeat (first | exact Drawn0.refl _ | apply Drawn0.step)⟩

/-! ### spec_l06Ids: function 31 -/
def spec_l06Ids.l0 : Nat → List Int → Int → Option (Bool)
 | 0, _, _ => none
 | k + 1, x0, x3 => if x3 < (x0.length : Int) then (if 0 ≤ x3 then ((spec_l01In.f (rd x0 x3) 0 99).bind fun t106 => (if t106 = true then (if x3 > 0 then (if 0 ≤ (wrap64 (x3 - 1)) then (if (wrap64 (x3 - 1)) < (x0.length : Int) then (if (rd x0 (wrap64 (x3 - 1))) ≥ (rd x0 x3) then (some false) else (spec_l06Ids.l0 k x0 (wrap64 (x3 + 1)))) else (none)) else (none)) else (spec_l06Ids.l0 k x0 (wrap64 (x3 + 1)))) else (some false))) else (none)) else (some (decide ((x0.length : Int) ≤ 7)))
def spec_l06Ids.f (k : Nat) (l0 : List Int) : Option (Bool) := spec_l06Ids.l0 k l0 0
theorem spec_l06Ids.mono_l : ∀ k, (∀ y0 y1, LeO (spec_l06Ids.l0 k y0 y1) (spec_l06Ids.l0 (k + 1) y0 y1))
 | 0 => fun _ _ r h => by simp [spec_l06Ids.l0] at h
 | k + 1 => by
  have ih0 := spec_l06Ids.mono_l k
  ·
   intro y0 y1
   unfold spec_l06Ids.l0
   repeat' first
   | (with_reducible exact ih0 _ _)
   | (with_reducible exact LeO.refl _)
   | (with_reducible exact LeO.none _)
   | (with_reducible refine LeO.ite ?_ ?_)
   | (with_reducible refine LeO.bind ?_ (fun _ => ?_))
   | exact ih0 _ _
   | exact LeO.none _
   | refine LeO.ite ?_ ?_
   | refine LeO.bind ?_ (fun _ => ?_)
theorem spec_l06Ids.mono : ∀ a0 k, LeO (spec_l06Ids.f k a0) (spec_l06Ids.f (k + 1) a0) := by
 intro a0 k
 have ih0 := spec_l06Ids.mono_l k
 unfold spec_l06Ids.f
 repeat' first
   | (with_reducible exact ih0 _ _)
   | (with_reducible exact LeO.refl _)
   | (with_reducible exact LeO.none _)
   | (with_reducible refine LeO.ite ?_ ?_)
   | (with_reducible refine LeO.bind ?_ (fun _ => ?_))
   | exact ih0 _ _
   | exact LeO.none _
   | refine LeO.ite ?_ ?_
   | refine LeO.bind ?_ (fun _ => ?_)
set_option maxHeartbeats 8000000 in
set_option maxRecDepth 100000 in
theorem spec_l06Ids.calls (k : Nat) (A0 : Option Addr) (c0 : Nat) (l0 : List Int) (r : Bool) (w : World) (hr0 : Kd.C (Kd.int .i64) w A0 l0.length l0) (hc0 : l0.length ≤ c0) (h : spec_l06Ids.f k l0 = some r) :
  Calls Try.prog 31 #[.slice A0 l0.length c0] w fun e w' => e = .returned (.bool r) ∧ Drawn0 w w' := by
 have HR0 := Zh hr0
 have HC0 := Zh hc0
 clear hr0 hc0
 have H : (spec_l06Ids.l0 k l0 0) = some r := h
 clear h
 have H' := Zh H
 clear H
 go_enter Try.func31, Try.ntmps31
 go_wp2
 repeat (go_quiet (fail); try go_wp2)
 go_loopg [3] k (fun kq v3 w' => ∃ (x3_1 : Int), v3 = .int .i64 x3_1 ∧ Aside0 (spec_l06Ids.l0 kq l0 x3_1 = some r) ∧ Aside0 (kq ≤ k) ∧ Drawn0 w w')
 case atStart => exact ⟨(0), (by first | rfl | (simp; done) | (simp [*]; done)), H', ⟨Nat.le_refl _⟩, by repeat (first | exact Drawn0.refl _ | apply Drawn0.step)⟩
 case round =>
  clear H'
  obtain ⟨x3_1, rfl, HA, HK1, ⟨m1, rfl⟩⟩ := hrel
  cases gk with
  | zero => exact absurd HA.out (by simp [spec_l06Ids.l0])
  | succ k1 =>
   have H := HA.out
   clear HA
   simp only [spec_l06Ids.l0] at H
   by_cases c2 : x3_1 < (l0.length : Int)
   ·
    rw [if_pos c2] at H
    have c2b0 : decide (x3_1 < (l0.length : Int)) = true := decide_eq_true c2
    clear c2
    by_cases c3 : 0 ≤ x3_1
    ·
     rw [if_pos c3] at H
     have c3b0 : decide (0 ≤ x3_1) = true := decide_eq_true c3
     clear c3
     replace H := Option.bind_eq_some_iff.mp H
     obtain ⟨t106, A40, H⟩ := H
     replace H : (if t106 = true then (if x3_1 > 0 then (if 0 ≤ (wrap64 (x3_1 - 1)) then (if (wrap64 (x3_1 - 1)) < (l0.length : Int) then (if (rd l0 (wrap64 (x3_1 - 1))) ≥ (rd l0 x3_1) then (some false) else (spec_l06Ids.l0 k1 l0 (wrap64 (x3_1 + 1)))) else (none)) else (none)) else (spec_l06Ids.l0 k1 l0 (wrap64 (x3_1 + 1)))) else (some false)) = some r := H
     have A4 := Zh A40
     clear A40
     by_cases c5 : t106 = true
     ·
      subst c5
      have H1 : (if x3_1 > 0 then (if 0 ≤ (wrap64 (x3_1 - 1)) then (if (wrap64 (x3_1 - 1)) < (l0.length : Int) then (if (rd l0 (wrap64 (x3_1 - 1))) ≥ (rd l0 x3_1) then (some false) else (spec_l06Ids.l0 k1 l0 (wrap64 (x3_1 + 1)))) else (none)) else (none)) else (spec_l06Ids.l0 k1 l0 (wrap64 (x3_1 + 1)))) = some r := by rw [if_pos rfl] at H; exact H
      clear H
      have H := H1
      clear H1
      by_cases c6 : x3_1 > 0
      ·
       rw [if_pos c6] at H
       have c6b0 : decide (0 < x3_1) = true := decide_eq_true c6
       clear c6
       obtain ⟨ji7, hji7⟩ : ∃ j_ : Int, (wrap64 (x3_1 - 1)) = j_ := ⟨_, rfl⟩
       replace H : (if 0 ≤ (ji7) then (if (ji7) < (l0.length : Int) then (if (rd l0 (ji7)) ≥ (rd l0 x3_1) then (some false) else (spec_l06Ids.l0 k1 l0 (wrap64 (x3_1 + 1)))) else (none)) else (none)) = some r := by first | (rw [hji7] at H; exact H) | (simp only [hji7] at H ⊢; exact H)
       (try rw [hji7] at A4)
       have hji7w : (IntKind.i64.wrap (x3_1 - 1)) = ji7 := (i64_w _).trans hji7
       by_cases c8 : 0 ≤ (ji7)
       ·
        rw [if_pos c8] at H
        have c8b0 : decide (0 ≤ (ji7)) = true := decide_eq_true c8
        clear c8
        by_cases c9 : (ji7) < (l0.length : Int)
        ·
         rw [if_pos c9] at H
         have c9b0 : decide ((ji7) < (l0.length : Int)) = true := decide_eq_true c9
         clear c9
         by_cases c10 : (rd l0 (ji7)) ≥ (rd l0 x3_1)
         ·
          rw [if_pos c10] at H
          have c10b0 : decide ((rd l0 x3_1) ≤ (rd l0 (ji7))) = true := decide_eq_true c10
          clear c10
          obtain rfl := Option.some.inj H
          have p105 : 0 ≤ (x3_1 : Int) := Zo
          have q105 : x3_1 < (l0.length : Int) := Zo
          obtain ⟨ad105, e105, hx105_0⟩ := Kd.at_int HR0.out x3_1 p105 q105
          cases e105
          replace p105 := eq_true p105
          replace q105 := eq_true q105
          go_wp2_with (first | (go_at_call 45; (with_reducible refine (spec_l01In.calls (rd l0 x3_1) 0 99 true _ A4.out).mono ?_); rintro e w' ⟨rfl, ⟨nd, rfl⟩⟩; (try first | exact ⟨rfl, _, World.drewN_drewN _ _ _⟩ | exact ⟨rfl, _, Eq.trans (World.drewN_drewN _ _ _) (congrArg (World.drewN _) (Nat.add_assoc _ _ _))⟩); have p107 : 0 ≤ ((ji7) : Int) := Zo; have q107 : (ji7) < (l0.length : Int) := Zo; obtain ⟨ad107, e107, hx107_0⟩ := Kd.at_int HR0.out (ji7) p107 q107; obtain rfl : ad105 = ad107 := (by injection e107); replace p107 := eq_true p107; replace q107 := eq_true q107; have p108 : 0 ≤ (x3_1 : Int) := Zo; have q108 : x3_1 < (l0.length : Int) := Zo; obtain ⟨ad108, e108, hx108_0⟩ := Kd.at_int HR0.out x3_1 p108 q108; obtain rfl : ad105 = ad108 := (by injection e108); replace p108 := eq_true p108; replace q108 := eq_true q108))
          repeat (go_quiet (first | (go_at_call 45; (with_reducible refine (spec_l01In.calls (rd l0 x3_1) 0 99 true _ A4.out).mono ?_); rintro e w' ⟨rfl, ⟨nd, rfl⟩⟩; (try first | exact ⟨rfl, _, World.drewN_drewN _ _ _⟩ | exact ⟨rfl, _, Eq.trans (World.drewN_drewN _ _ _) (congrArg (World.drewN _) (Nat.add_assoc _ _ _))⟩); have p107 : 0 ≤ ((ji7) : Int) := Zo; have q107 : (ji7) < (l0.length : Int) := Zo; obtain ⟨ad107, e107, hx107_0⟩ := Kd.at_int HR0.out (ji7) p107 q107; obtain rfl : ad105 = ad107 := (by injection e107); replace p107 := eq_true p107; replace q107 := eq_true q107; have p108 : 0 ≤ (x3_1 : Int) := Zo; have q108 : x3_1 < (l0.length : Int) := Zo; obtain ⟨ad108, e108, hx108_0⟩ := Kd.at_int HR0.out x3_1 p108 q108; obtain rfl : ad105 = ad108 := (by injection e108); replace p108 := eq_true p108; replace q108 := eq_true q108)); try go_wp2_with (first | (go_at_call 45; (with_reducible refine (spec_l01In.calls (rd l0 x3_1) 0 99 true _ A4.out).mono ?_); rintro e w' ⟨rfl, ⟨nd, rfl⟩⟩; (try first | exact ⟨rfl, _, World.drewN_drewN _ _ _⟩ | exact ⟨rfl, _, Eq.trans (World.drewN_drewN _ _ _) (congrArg (World.drewN _) (Nat.add_assoc _ _ _))⟩); have p107 : 0 ≤ ((ji7) : Int) := Zo; have q107 : (ji7) < (l0.length : Int) := Zo; obtain ⟨ad107, e107, hx107_0⟩ := Kd.at_int HR0.out (ji7) p107 q107; obtain rfl : ad105 = ad107 := (by injection e107); replace p107 := eq_true p107; replace q107 := eq_true q107; have p108 : 0 ≤ (x3_1 : Int) := Zo; have q108 : x3_1 < (l0.length : Int) := Zo; obtain ⟨ad108, e108, hx108_0⟩ := Kd.at_int HR0.out x3_1 p108 q108; obtain rfl : ad105 = ad108 := (by injection e108); replace p108 := eq_true p108; replace q108 := eq_true q108)))
          go_ret
          exact ⟨by first | rfl | (simp; done) | (simp only [← hji7] <;> (first | rfl | simp)) | (simp [*]; done), by repeat (first | exact Drawn0.refl _ | apply Drawn0.step)⟩
         rw [if_neg c10] at H
         have c10b0 : decide ((rd l0 x3_1) ≤ (rd l0 (ji7))) = false := decide_eq_false c10
         clear c10
         have H' := Zh H
         clear H
         have p105 : 0 ≤ (x3_1 : Int) := Zo
         have q105 : x3_1 < (l0.length : Int) := Zo
         obtain ⟨ad105, e105, hx105_0⟩ := Kd.at_int HR0.out x3_1 p105 q105
         cases e105
         replace p105 := eq_true p105
         replace q105 := eq_true q105
         go_wp2_with (first | (go_at_call 45; (with_reducible refine (spec_l01In.calls (rd l0 x3_1) 0 99 true _ A4.out).mono ?_); rintro e w' ⟨rfl, ⟨nd, rfl⟩⟩; (try first | exact ⟨rfl, _, World.drewN_drewN _ _ _⟩ | exact ⟨rfl, _, Eq.trans (World.drewN_drewN _ _ _) (congrArg (World.drewN _) (Nat.add_assoc _ _ _))⟩); have p107 : 0 ≤ ((ji7) : Int) := Zo; have q107 : (ji7) < (l0.length : Int) := Zo; obtain ⟨ad107, e107, hx107_0⟩ := Kd.at_int HR0.out (ji7) p107 q107; obtain rfl : ad105 = ad107 := (by injection e107); replace p107 := eq_true p107; replace q107 := eq_true q107; have p108 : 0 ≤ (x3_1 : Int) := Zo; have q108 : x3_1 < (l0.length : Int) := Zo; obtain ⟨ad108, e108, hx108_0⟩ := Kd.at_int HR0.out x3_1 p108 q108; obtain rfl : ad105 = ad108 := (by injection e108); replace p108 := eq_true p108; replace q108 := eq_true q108))
         repeat (go_quiet (first | (go_at_call 45; (with_reducible refine (spec_l01In.calls (rd l0 x3_1) 0 99 true _ A4.out).mono ?_); rintro e w' ⟨rfl, ⟨nd, rfl⟩⟩; (try first | exact ⟨rfl, _, World.drewN_drewN _ _ _⟩ | exact ⟨rfl, _, Eq.trans (World.drewN_drewN _ _ _) (congrArg (World.drewN _) (Nat.add_assoc _ _ _))⟩); have p107 : 0 ≤ ((ji7) : Int) := Zo; have q107 : (ji7) < (l0.length : Int) := Zo; obtain ⟨ad107, e107, hx107_0⟩ := Kd.at_int HR0.out (ji7) p107 q107; obtain rfl : ad105 = ad107 := (by injection e107); replace p107 := eq_true p107; replace q107 := eq_true q107; have p108 : 0 ≤ (x3_1 : Int) := Zo; have q108 : x3_1 < (l0.length : Int) := Zo; obtain ⟨ad108, e108, hx108_0⟩ := Kd.at_int HR0.out x3_1 p108 q108; obtain rfl : ad105 = ad108 := (by injection e108); replace p108 := eq_true p108; replace q108 := eq_true q108)); try go_wp2_with (first | (go_at_call 45; (with_reducible refine (spec_l01In.calls (rd l0 x3_1) 0 99 true _ A4.out).mono ?_); rintro e w' ⟨rfl, ⟨nd, rfl⟩⟩; (try first | exact ⟨rfl, _, World.drewN_drewN _ _ _⟩ | exact ⟨rfl, _, Eq.trans (World.drewN_drewN _ _ _) (congrArg (World.drewN _) (Nat.add_assoc _ _ _))⟩); have p107 : 0 ≤ ((ji7) : Int) := Zo; have q107 : (ji7) < (l0.length : Int) := Zo; obtain ⟨ad107, e107, hx107_0⟩ := Kd.at_int HR0.out (ji7) p107 q107; obtain rfl : ad105 = ad107 := (by injection e107); replace p107 := eq_true p107; replace q107 := eq_true q107; have p108 : 0 ≤ (x3_1 : Int) := Zo; have q108 : x3_1 < (l0.length : Int) := Zo; obtain ⟨ad108, e108, hx108_0⟩ := Kd.at_int HR0.out x3_1 p108 q108; obtain rfl : ad105 = ad108 := (by injection e108); replace p108 := eq_true p108; replace q108 := eq_true q108)))
         go_roundg k1
         case measure => have := HK1.out; omega
         case rel => exact ⟨(wrap64 (x3_1 + 1)), (by first | rfl | (simp; done) | (simp [*]; done)), H', ⟨by have := HK1.out; omega⟩, by repeat (first | exact Drawn0.refl _ | apply Drawn0.step)⟩
        rw [if_neg c9] at H
        exact absurd H (by simp)
       rw [if_neg c8] at H
       exact absurd H (by simp)
      rw [if_neg c6] at H
      have c6b0 : decide (0 < x3_1) = false := decide_eq_false c6
      clear c6
      have H' := Zh H
      clear H
      have p105 : 0 ≤ (x3_1 : Int) := Zo
      have q105 : x3_1 < (l0.length : Int) := Zo
      obtain ⟨ad105, e105, hx105_0⟩ := Kd.at_int HR0.out x3_1 p105 q105
      cases e105
      replace p105 := eq_true p105
      replace q105 := eq_true q105
      go_wp2_with (first | (go_at_call 45; (with_reducible refine (spec_l01In.calls (rd l0 x3_1) 0 99 true _ A4.out).mono ?_); rintro e w' ⟨rfl, ⟨nd, rfl⟩⟩; (try first | exact ⟨rfl, _, World.drewN_drewN _ _ _⟩ | exact ⟨rfl, _, Eq.trans (World.drewN_drewN _ _ _) (congrArg (World.drewN _) (Nat.add_assoc _ _ _))⟩)))
      repeat (go_quiet (first | (go_at_call 45; (with_reducible refine (spec_l01In.calls (rd l0 x3_1) 0 99 true _ A4.out).mono ?_); rintro e w' ⟨rfl, ⟨nd, rfl⟩⟩; (try first | exact ⟨rfl, _, World.drewN_drewN _ _ _⟩ | exact ⟨rfl, _, Eq.trans (World.drewN_drewN _ _ _) (congrArg (World.drewN _) (Nat.add_assoc _ _ _))⟩))); try go_wp2_with (first | (go_at_call 45; (with_reducible refine (spec_l01In.calls (rd l0 x3_1) 0 99 true _ A4.out).mono ?_); rintro e w' ⟨rfl, ⟨nd, rfl⟩⟩; (try first | exact ⟨rfl, _, World.drewN_drewN _ _ _⟩ | exact ⟨rfl, _, Eq.trans (World.drewN_drewN _ _ _) (congrArg (World.drewN _) (Nat.add_assoc _ _ _))⟩))))
      go_roundg k1
      case measure => have := HK1.out; omega
      case rel => exact ⟨(wrap64 (x3_1 + 1)), (by first | rfl | (simp; done) | (simp [*]; done)), H', ⟨by have := HK1.out; omega⟩, by repeat (first | exact Drawn0.refl _ | apply Drawn0.step)⟩
     replace c5 := Bool.eq_false_iff.mpr c5
     subst c5
     have H1 : (some false) = some r := by rw [if_neg (show ¬ (false = true) by decide)] at H; exact H
     clear H
     have H := H1
     clear H1
     obtain rfl := Option.some.inj H
     have p105 : 0 ≤ (x3_1 : Int) := Zo
     have q105 : x3_1 < (l0.length : Int) := Zo
     obtain ⟨ad105, e105, hx105_0⟩ := Kd.at_int HR0.out x3_1 p105 q105
     cases e105
     replace p105 := eq_true p105
     replace q105 := eq_true q105
     go_wp2_with (first | (go_at_call 45; (with_reducible refine (spec_l01In.calls (rd l0 x3_1) 0 99 false _ A4.out).mono ?_); rintro e w' ⟨rfl, ⟨nd, rfl⟩⟩; (try first | exact ⟨rfl, _, World.drewN_drewN _ _ _⟩ | exact ⟨rfl, _, Eq.trans (World.drewN_drewN _ _ _) (congrArg (World.drewN _) (Nat.add_assoc _ _ _))⟩)))
     repeat (go_quiet (first | (go_at_call 45; (with_reducible refine (spec_l01In.calls (rd l0 x3_1) 0 99 false _ A4.out).mono ?_); rintro e w' ⟨rfl, ⟨nd, rfl⟩⟩; (try first | exact ⟨rfl, _, World.drewN_drewN _ _ _⟩ | exact ⟨rfl, _, Eq.trans (World.drewN_drewN _ _ _) (congrArg (World.drewN _) (Nat.add_assoc _ _ _))⟩))); try go_wp2_with (first | (go_at_call 45; (with_reducible refine (spec_l01In.calls (rd l0 x3_1) 0 99 false _ A4.out).mono ?_); rintro e w' ⟨rfl, ⟨nd, rfl⟩⟩; (try first | exact ⟨rfl, _, World.drewN_drewN _ _ _⟩ | exact ⟨rfl, _, Eq.trans (World.drewN_drewN _ _ _) (congrArg (World.drewN _) (Nat.add_assoc _ _ _))⟩))))
     go_ret
     exact ⟨by first | rfl | (simp; done) | (simp [*]; done), by repeat (first | exact Drawn0.refl _ | apply Drawn0.step)⟩
    rw [if_neg c3] at H
    exact absurd H (by simp)
   rw [if_neg c2] at H
   have c2b0 : decide (x3_1 < (l0.length : Int)) = false := decide_eq_false c2
   clear c2
   obtain rfl := Option.some.inj H
   go_wp2
   repeat (go_quiet (fail); try go_wp2)
   go_ret
   exact ⟨by first | rfl | (simp; done) | (simp [*]; done), by repeat (first | exact Drawn0.refl _ | apply Drawn0.step)⟩

/-! ### spec_l06Set: function 30 -/
def spec_l06Set.f (k : Nat) (l0 : List Int) : Option (Bool) := (spec_l06Ids.f k l0).bind fun t109 => (if t109 = true then (some (decide ((l0.length : Int) > 0))) else (some false))
theorem spec_l06Set.mono : ∀ a0 k, LeO (spec_l06Set.f k a0) (spec_l06Set.f (k + 1) a0) := by
 intro a0 k
 unfold spec_l06Set.f
 repeat' first
   | (with_reducible exact spec_l06Ids.mono _ _)
   | (with_reducible exact LeO.refl _)
   | (with_reducible exact LeO.none _)
   | (with_reducible refine LeO.ite ?_ ?_)
   | (with_reducible refine LeO.bind ?_ (fun _ => ?_))
   | exact spec_l06Ids.mono _ _
   | exact LeO.none _
   | refine LeO.ite ?_ ?_
   | refine LeO.bind ?_ (fun _ => ?_)
set_option maxHeartbeats 8000000 in
set_option maxRecDepth 100000 in
theorem spec_l06Set.calls (k : Nat) (A0 : Option Addr) (c0 : Nat) (l0 : List Int) (r : Bool) (w : World) (hr0 : Kd.C (Kd.int .i64) w A0 l0.length l0) (hc0 : l0.length ≤ c0) (h : spec_l06Set.f k l0 = some r) :
  Calls Try.prog 30 #[.slice A0 l0.length c0] w fun e w' => e = .returned (.bool r) ∧ Drawn0 w w' := by
 have HR0 := Zh hr0
 have HC0 := Zh hc0
 clear hr0 hc0
 have H : ((spec_l06Ids.f k l0).bind fun t109 => (if t109 = true then (some (decide ((l0.length : Int) > 0))) else (some false))) = some r := h
 clear h
 replace H := Option.bind_eq_some_iff.mp H
 obtain ⟨t109, A20, H⟩ := H
 replace H : (if t109 = true then (some (decide ((l0.length : Int) > 0))) else (some false)) = some r := H
 have A2 := Zh A20
 clear A20
 by_cases c3 : t109 = true
 ·
  subst c3
  have H1 : (some (decide ((l0.length : Int) > 0))) = some r := by rw [if_pos rfl] at H; exact H
  clear H
  have H := H1
  clear H1
  obtain rfl := Option.some.inj H
  go_enter Try.func30, Try.ntmps30
  go_wp2_with (first | ((with_reducible refine gate_callee (f := 31) rfl ?_); refine ZG (some 4) Try.func31 #[.slice A0 l0.length c0] rfl ?_; (with_reducible refine (spec_l06Ids.calls k _ _ l0 true _ ?side1 ?side2 A2.out).mono ?_); (case side1 => repeat (first | exact HR0.out | (with_reducible refine C_alloc ?_ _) | (with_reducible refine C_drewN ?_ _) | (with_reducible refine C_drew ?_))); (case side2 => exact HC0.out); rintro e w' ⟨rfl, ⟨nd, rfl⟩⟩; refine ⟨_, rfl, ?_⟩))
  go_ret
  exact ⟨by first | rfl | (simp; done) | (simp [*]; done), by repeat (first | exact Drawn0.refl _ | apply Drawn0.step)⟩
 replace c3 := Bool.eq_false_iff.mpr c3
 subst c3
 have H1 : (some false) = some r := by rw [if_neg (show ¬ (false = true) by decide)] at H; exact H
 clear H
 have H := H1
 clear H1
 obtain rfl := Option.some.inj H
 go_enter Try.func30, Try.ntmps30
 go_wp2_with (first | ((with_reducible refine gate_callee (f := 31) rfl ?_); refine ZG (some 4) Try.func31 #[.slice A0 l0.length c0] rfl ?_; (with_reducible refine (spec_l06Ids.calls k _ _ l0 false _ ?side1 ?side2 A2.out).mono ?_); (case side1 => repeat (first | exact HR0.out | (with_reducible refine C_alloc ?_ _) | (with_reducible refine C_drewN ?_ _) | (with_reducible refine C_drew ?_))); (case side2 => exact HC0.out); rintro e w' ⟨rfl, ⟨nd, rfl⟩⟩; refine ⟨_, rfl, ?_⟩))
 go_ret
 exact ⟨by first | rfl | (simp; done) | (simp [*]; done), by repeat (first | exact Drawn0.refl _ | apply Drawn0.step)⟩

/-! ### spec_l06Same: function 32 -/
def spec_l06Same.l0 : Nat → List Int → List Int → Int → Option (Bool)
 | 0, _, _, _ => none
 | k + 1, x0, x1, x5 => if x5 < (x0.length : Int) then (if 0 ≤ x5 then (if x5 < (x1.length : Int) then (if (rd x0 x5) = (rd x1 x5) then (spec_l06Same.l0 k x0 x1 (wrap64 (x5 + 1))) else (some false)) else (none)) else (none)) else (some true)
def spec_l06Same.f (k : Nat) (l0 : List Int) (l1 : List Int) : Option (Bool) := if (l0.length : Int) = (l1.length : Int) then (spec_l06Same.l0 k l0 l1 0) else (some false)
theorem spec_l06Same.mono_l : ∀ k, (∀ y0 y1 y2, LeO (spec_l06Same.l0 k y0 y1 y2) (spec_l06Same.l0 (k + 1) y0 y1 y2))
 | 0 => fun _ _ _ r h => by simp [spec_l06Same.l0] at h
 | k + 1 => by
  have ih0 := spec_l06Same.mono_l k
  ·
   intro y0 y1 y2
   unfold spec_l06Same.l0
   repeat' first
   | (with_reducible exact ih0 _ _ _)
   | (with_reducible exact LeO.refl _)
   | (with_reducible exact LeO.none _)
   | (with_reducible refine LeO.ite ?_ ?_)
   | (with_reducible refine LeO.bind ?_ (fun _ => ?_))
   | exact ih0 _ _ _
   | exact LeO.none _
   | refine LeO.ite ?_ ?_
   | refine LeO.bind ?_ (fun _ => ?_)
theorem spec_l06Same.mono : ∀ a0 a1 k, LeO (spec_l06Same.f k a0 a1) (spec_l06Same.f (k + 1) a0 a1) := by
 intro a0 a1 k
 have ih0 := spec_l06Same.mono_l k
 unfold spec_l06Same.f
 repeat' first
   | (with_reducible exact ih0 _ _ _)
   | (with_reducible exact LeO.refl _)
   | (with_reducible exact LeO.none _)
   | (with_reducible refine LeO.ite ?_ ?_)
   | (with_reducible refine LeO.bind ?_ (fun _ => ?_))
   | exact ih0 _ _ _
   | exact LeO.none _
   | refine LeO.ite ?_ ?_
   | refine LeO.bind ?_ (fun _ => ?_)
set_option maxHeartbeats 8000000 in
set_option maxRecDepth 100000 in
theorem spec_l06Same.calls (k : Nat) (A0 : Option Addr) (c0 : Nat) (l0 : List Int) (A1 : Option Addr) (c1 : Nat) (l1 : List Int) (r : Bool) (w : World) (hr0 : Kd.C (Kd.int .i64) w A0 l0.length l0) (hc0 : l0.length ≤ c0) (hr1 : Kd.C (Kd.int .i64) w A1 l1.length l1) (hc1 : l1.length ≤ c1) (h : spec_l06Same.f k l0 l1 = some r) :
  Calls Try.prog 32 #[.slice A0 l0.length c0, .slice A1 l1.length c1] w fun e w' => e = .returned (.bool r) ∧ Drawn0 w w' := by
 have HR0 := Zh hr0
 have HC0 := Zh hc0
 clear hr0 hc0
 have HR1 := Zh hr1
 have HC1 := Zh hc1
 clear hr1 hc1
 have H : (if (l0.length : Int) = (l1.length : Int) then (spec_l06Same.l0 k l0 l1 0) else (some false)) = some r := h
 clear h
 by_cases c3 : (l0.length : Int) = (l1.length : Int)
 ·
  rw [if_pos c3] at H
  have c3b0 : ((l0.length : Int) == (l1.length : Int)) = true := beq_iff_eq.mpr c3
  have c3b1 : ((l0.length : Int) != (l1.length : Int)) = false := bne_eq_false_iff_eq.mpr c3
  have c3b2 : (l0.length == l1.length) = true := by first | simpa using c3 | (simp at c3 ⊢; omega)
  clear c3
  have H' := Zh H
  clear H
  go_enter Try.func32, Try.ntmps32
  go_wp2
  repeat (go_quiet (fail); try go_wp2)
  go_loopg [5] k (fun kq v5 w' => ∃ (x5_1 : Int), v5 = .int .i64 x5_1 ∧ Aside0 (spec_l06Same.l0 kq l0 l1 x5_1 = some r) ∧ Aside0 (kq ≤ k) ∧ Drawn0 w w')
  case atStart => exact ⟨(0), (by first | rfl | (simp; done) | (simp [*]; done)), H', ⟨Nat.le_refl _⟩, by repeat (first | exact Drawn0.refl _ | apply Drawn0.step)⟩
  case round =>
   clear H'
   try clear c1
   try clear p2
   try clear c3
   try clear c3b0
   try clear c3b1
   try clear c3b2
   obtain ⟨x5_1, rfl, HA, HK1, ⟨m1, rfl⟩⟩ := hrel
   cases gk with
   | zero => exact absurd HA.out (by simp [spec_l06Same.l0])
   | succ k1 =>
    have H := HA.out
    clear HA
    simp only [spec_l06Same.l0] at H
    by_cases c4 : x5_1 < (l0.length : Int)
    ·
     rw [if_pos c4] at H
     have c4b0 : decide (x5_1 < (l0.length : Int)) = true := decide_eq_true c4
     clear c4
     by_cases c5 : 0 ≤ x5_1
     ·
      rw [if_pos c5] at H
      have c5b0 : decide (0 ≤ x5_1) = true := decide_eq_true c5
      clear c5
      by_cases c6 : x5_1 < (l1.length : Int)
      ·
       rw [if_pos c6] at H
       have c6b0 : decide (x5_1 < (l1.length : Int)) = true := decide_eq_true c6
       clear c6
       by_cases c7 : (rd l0 x5_1) = (rd l1 x5_1)
       ·
        rw [if_pos c7] at H
        have c7b0 : ((rd l0 x5_1) == (rd l1 x5_1)) = true := beq_iff_eq.mpr c7
        have c7b1 : ((rd l0 x5_1) != (rd l1 x5_1)) = false := bne_eq_false_iff_eq.mpr c7
        clear c7
        have H' := Zh H
        clear H
        have p110 : 0 ≤ (x5_1 : Int) := Zo
        have q110 : x5_1 < (l0.length : Int) := Zo
        obtain ⟨ad110, e110, hx110_0⟩ := Kd.at_int HR0.out x5_1 p110 q110
        cases e110
        replace p110 := eq_true p110
        replace q110 := eq_true q110
        have p111 : 0 ≤ (x5_1 : Int) := Zo
        have q111 : x5_1 < (l1.length : Int) := Zo
        obtain ⟨ad111, e111, hx111_0⟩ := Kd.at_int HR1.out x5_1 p111 q111
        cases e111
        replace p111 := eq_true p111
        replace q111 := eq_true q111
        go_wp2
        repeat (go_quiet (fail); try go_wp2)
        go_roundg k1
        case measure => have := HK1.out; omega
        case rel => exact ⟨(wrap64 (x5_1 + 1)), (by first | rfl | (simp; done) | (simp [*]; done)), H', ⟨by have := HK1.out; omega⟩, by repeat (first | exact Drawn0.refl _ | apply Drawn0.step)⟩
       rw [if_neg c7] at H
       have c7b0 : ((rd l0 x5_1) == (rd l1 x5_1)) = false := beq_eq_false_iff_ne.mpr c7
       have c7b1 : ((rd l0 x5_1) != (rd l1 x5_1)) = true := bne_iff_ne.mpr c7
       obtain rfl := Option.some.inj H
       have p110 : 0 ≤ (x5_1 : Int) := Zo
       have q110 : x5_1 < (l0.length : Int) := Zo
       obtain ⟨ad110, e110, hx110_0⟩ := Kd.at_int HR0.out x5_1 p110 q110
       cases e110
       replace p110 := eq_true p110
       replace q110 := eq_true q110
       have p111 : 0 ≤ (x5_1 : Int) := Zo
       have q111 : x5_1 < (l1.length : Int) := Zo
       obtain ⟨ad111, e111, hx111_0⟩ := Kd.at_int HR1.out x5_1 p111 q111
       cases e111
       replace p111 := eq_true p111
       replace q111 := eq_true q111
       go_wp2
       repeat (go_quiet (fail); try go_wp2)
       go_ret
       exact ⟨by first | rfl | (simp; done) | (simp [*]; done), by repeat (first | exact Drawn0.refl _ | apply Drawn0.step)⟩
      rw [if_neg c6] at H
      exact absurd H (by simp)
     rw [if_neg c5] at H
     exact absurd H (by simp)
    rw [if_neg c4] at H
    have c4b0 : decide (x5_1 < (l0.length : Int)) = false := decide_eq_false c4
    clear c4
    obtain rfl := Option.some.inj H
    go_wp2
    repeat (go_quiet (fail); try go_wp2)
    go_ret
    exact ⟨by first | rfl | (simp; done) | (simp [*]; done), by repeat (first | exact Drawn0.refl _ | apply Drawn0.step)⟩
 rw [if_neg c3] at H
 have c3b0 : ((l0.length : Int) == (l1.length : Int)) = false := beq_eq_false_iff_ne.mpr c3
 have c3b1 : ((l0.length : Int) != (l1.length : Int)) = true := bne_iff_ne.mpr c3
 have c3b2 : (l0.length == l1.length) = false := by first | simpa using c3 | (simp at c3 ⊢; omega)
 obtain rfl := Option.some.inj H
 go_enter Try.func32, Try.ntmps32
 go_wp2
 repeat (go_quiet (fail); try go_wp2)
 go_ret
 exact ⟨by first | rfl | (simp; done) | (simp [*]; done), by repeat (first | exact Drawn0.refl _ | apply Drawn0.step)⟩

/-! ### spec_l01Copy: function 38 -/
def spec_l01Copy.l0 : Nat → List Int → List Int → Int → Option (List Int)
 | 0, _, _, _ => none
 | k + 1, x0, x3, x4 => if x4 < (x0.length : Int) then (if 0 ≤ x4 then (if x3.length < 17592186044416 then (spec_l01Copy.l0 k x0 (x3 ++ [rd x0 x4]) (wrap64 (x4 + 1))) else (none)) else (none)) else (some x3)
def spec_l01Copy.f (k : Nat) (l0 : List Int) : Option (List Int) := spec_l01Copy.l0 k l0 (([] : List Int)) 0
theorem spec_l01Copy.mono_l : ∀ k, (∀ y0 y1 y2, LeO (spec_l01Copy.l0 k y0 y1 y2) (spec_l01Copy.l0 (k + 1) y0 y1 y2))
 | 0 => fun _ _ _ r h => by simp [spec_l01Copy.l0] at h
 | k + 1 => by
  have ih0 := spec_l01Copy.mono_l k
  ·
   intro y0 y1 y2
   unfold spec_l01Copy.l0
   repeat' first
   | (with_reducible exact ih0 _ _ _)
   | (with_reducible exact LeO.refl _)
   | (with_reducible exact LeO.none _)
   | (with_reducible refine LeO.ite ?_ ?_)
   | (with_reducible refine LeO.bind ?_ (fun _ => ?_))
   | exact ih0 _ _ _
   | exact LeO.none _
   | refine LeO.ite ?_ ?_
   | refine LeO.bind ?_ (fun _ => ?_)
theorem spec_l01Copy.mono : ∀ a0 k, LeO (spec_l01Copy.f k a0) (spec_l01Copy.f (k + 1) a0) := by
 intro a0 k
 have ih0 := spec_l01Copy.mono_l k
 unfold spec_l01Copy.f
 repeat' first
   | (with_reducible exact ih0 _ _ _)
   | (with_reducible exact LeO.refl _)
   | (with_reducible exact LeO.none _)
   | (with_reducible refine LeO.ite ?_ ?_)
   | (with_reducible refine LeO.bind ?_ (fun _ => ?_))
   | exact ih0 _ _ _
   | exact LeO.none _
   | refine LeO.ite ?_ ?_
   | refine LeO.bind ?_ (fun _ => ?_)
set_option maxHeartbeats 8000000 in
set_option maxRecDepth 100000 in
theorem spec_l01Copy.calls (k : Nat) (A0 : Option Addr) (c0 : Nat) (l0 : List Int) (r : List Int) (w : World) (hr0 : Kd.C (Kd.int .i64) w A0 l0.length l0) (hc0 : l0.length ≤ c0) (h : spec_l01Copy.f k l0 = some r) :
  Calls Try.prog 38 #[.slice A0 l0.length c0] w fun e w' => ∃ v0_ : Value, e = .returned (v0_) ∧ Kd.R (Kd.int .i64) 3 w' w.heap.size (fun _ => True) v0_ r ∧ Below w.heap.size w w' := by
 have HR0 := Zh hr0
 have HC0 := Zh hc0
 clear hr0 hc0
 have HB := Zh (Below.refl w.heap.size w)
 have H : (spec_l01Copy.l0 k l0 (([] : List Int)) 0) = some r := h
 clear h
 obtain ⟨y250, hy250⟩ : ∃ y_ : List Int, y_ = (([] : List Int)) := ⟨_, rfl⟩
 replace H : (spec_l01Copy.l0 k l0 y250 0) = some r := by first | (rw [hy250]; with_reducible exact H) | (have H2_ := (Option.bind_some _ _).symm.trans H; rw [hy250]; with_reducible exact H2_) | (have H2_ := (Option.bind_some _ _).symm.trans H; with_reducible exact H2_) | with_reducible exact H | (rw [hy250]; exact H) | exact H
 have Ny250 := Zh hy250
 clear hy250
 have H' := Zh H
 clear H
 go_enter Try.func38, Try.ntmps38
 go_wp2_with (first | ((with_reducible refine gate_dst (N := 5) rfl ?_); refine R_lit (Kd.int .i64) _ 3 ?hg (N := 5) ?hd (xs := ([] : List Int)) (inner := []) (ok := fun _ => True) (okp := fun _ => True) ?hr ?hp (fun _ hk => hk) trivial (Below.refl _ _) (Nat.le_refl _) (by simp) ?_; (case hd => rfl); (case hg => rfl); (case hr => first | (go_simp; done) | (go_simp; rfl)); (case hp => exact (Reps.none _ _)); intro v251 w2 ho3 hb hg_ hnew_; clear hg_ hnew_; (first | rw [← Ny250.out] at ho3 | (simp only [Int.reduceToNat] at ho3; rw [← Ny250.out] at ho3)); have HO252 := Zh (R_lower ho3 (below_size Zs)); replace HB := Zh (Zl Zs hb); clear hb ho3))
 go_loopg [3, 4] k (fun kq v3 v4 w' => ∃ (x3_1 : List Int) (x4_1 : Int), v4 = .int .i64 x4_1 ∧ Aside0 (spec_l01Copy.l0 kq l0 x3_1 x4_1 = some r) ∧ Aside0 (kq ≤ k) ∧ Aside0 (Kd.R (Kd.int .i64) 3 w' w.heap.size (fun _ => True) v3 x3_1) ∧ Aside0 (Below w.heap.size w w'))
 case atStart => exact ⟨(y250), (0), (by first | rfl | (simp; done) | (simp [*]; done)), H', ⟨Nat.le_refl _⟩, ⟨ZR HO252.out⟩, ⟨Zs⟩⟩
 case round =>
  clear H'
  try clear p2
  try clear c3
  obtain ⟨x3_1, x4_1, rfl, HA, HK1, HO_3, HB⟩ := hrel
  cases gk with
  | zero => exact absurd HA.out (by simp [spec_l01Copy.l0])
  | succ k1 =>
   have H := HA.out
   clear HA
   simp only [spec_l01Copy.l0] at H
   by_cases c4 : x4_1 < (l0.length : Int)
   ·
    rw [if_pos c4] at H
    have c4b0 : decide (x4_1 < (l0.length : Int)) = true := decide_eq_true c4
    clear c4
    by_cases c5 : 0 ≤ x4_1
    ·
     rw [if_pos c5] at H
     have c5b0 : decide (0 ≤ x4_1) = true := decide_eq_true c5
     clear c5
     by_cases c6 : x3_1.length < 17592186044416
     ·
      rw [if_pos c6] at H
      have LMc6 := Zh c6
      clear c6
      obtain ⟨y254, hy254⟩ : ∃ y_ : List Int, y_ = (x3_1 ++ [rd l0 x4_1]) := ⟨_, rfl⟩
      replace H : (spec_l01Copy.l0 k1 l0 y254 (wrap64 (x4_1 + 1))) = some r := by first | (rw [hy254]; with_reducible exact H) | (have H2_ := (Option.bind_some _ _).symm.trans H; rw [hy254]; with_reducible exact H2_) | (have H2_ := (Option.bind_some _ _).symm.trans H; with_reducible exact H2_) | with_reducible exact H | (rw [hy254]; exact H) | exact H
      have Ny254 := Zh hy254
      clear hy254
      have H' := Zh H
      clear H
      have p253 : 0 ≤ (x4_1 : Int) := Zo
      have q253 : x4_1 < (l0.length : Int) := Zo
      obtain ⟨ad253, e253, hx253_0⟩ := Kd.at_int HR0.out x4_1 p253 q253
      cases e253
      replace hx253_0 := Zc HB.out hx253_0
      replace p253 := eq_true p253
      replace q253 := eq_true q253
      go_wp2_with (first | ((with_reducible refine gate_builtin (b := .append) (xs := #[.tmp 12, .tmp 17]) rfl ?_); at_builtin; refine R_append (Kd.int .i64) (w0 := w) w.heap.size rfl (.tmp 12) (.tmp 17) 22 3 (.int .i64 0) 8 rfl Try.underlying22 info3 rfl (by decide) (by omega) u3 x3_1 (rd l0 x4_1) [.int .i64 (rd l0 x4_1)] (fun _ => True) (fun _ => False) rfl rfl ?aP (fun _ hk => hk.elim) ?aF ?aO ?aB ?aS ?aL ?_; (case aP => exact rfl); (case aB => exact Zs); (case aF => exact (fun _ _ => trivial)); (case aO => exact (ZR HO_3.out)); (case aS => exact (below_size Zs)); (case aL => have := LMc6.out; omega); intro v255 w7 ho hb hg hat; rw [← Ny254.out] at ho; have n0_ := Zh (hb); have n1_ := Zh (ho); clear HB; clear HO_3; have HB := n0_; have HO256 := n1_; clear n0_ n1_; clear ho hb hg hat))
      go_roundg k1
      case measure => have := HK1.out; omega
      case rel => exact ⟨(y254), (wrap64 (x4_1 + 1)), (by first | rfl | (simp; done) | (simp [*]; done)), H', ⟨by have := HK1.out; omega⟩, ⟨ZR HO256.out⟩, ⟨Zs⟩⟩
     rw [if_neg c6] at H
     exact absurd H (by simp)
    rw [if_neg c5] at H
    exact absurd H (by simp)
   rw [if_neg c4] at H
   have c4b0 : decide (x4_1 < (l0.length : Int)) = false := decide_eq_false c4
   clear c4
   obtain rfl := Option.some.inj H
   go_wp2
   go_ret
   exact ⟨_, ZE, ZR HO_3.out, Zs⟩

/-! ### spec_l06Copy: function 37 -/
def spec_l06Copy.f (k : Nat) (l0_0 : List Int) (l0_1 : List Int) (l0_2 : List Int) : Option (List Int × List Int × List Int) := (spec_l01Copy.f k l0_0).bind fun t259 => ((spec_l01Copy.f k l0_1).bind fun t262 => ((spec_l01Copy.f k l0_2).bind fun t265 => (some (t259, t262, t265))))
theorem spec_l06Copy.mono : ∀ a0 a1 a2 k, LeO (spec_l06Copy.f k a0 a1 a2) (spec_l06Copy.f (k + 1) a0 a1 a2) := by
 intro a0 a1 a2 k
 unfold spec_l06Copy.f
 repeat' first
   | (with_reducible exact spec_l01Copy.mono _ _)
   | (with_reducible exact LeO.refl _)
   | (with_reducible exact LeO.none _)
   | (with_reducible refine LeO.ite ?_ ?_)
   | (with_reducible refine LeO.bind ?_ (fun _ => ?_))
   | exact spec_l01Copy.mono _ _
   | exact LeO.none _
   | refine LeO.ite ?_ ?_
   | refine LeO.bind ?_ (fun _ => ?_)
def spec_l06Copy.T1 : Bool × List (List Nat × List Nat) := (true, [([], []), ([0], [0]), ([1], [1]), ([], []), ([3], [3]), ([4, 2], [4]), ([], []), ([6], [6]), ([7, 5], [7]), ([2, 5, 8], [2, 5, 8]), ([9, 8, 0, 1, 2, 3, 4, 5, 6, 7, 8, 9], [9])])
def spec_l06Copy.B1 : List Nat := [0, 1, 3, 0, 8, 31, 0, 64, 255, 511, 1023]
theorem spec_l06Copy.tab1 : rtab .any (opsOf Try.f37 1) = spec_l06Copy.T1 := by kernel_rfl
theorem spec_l06Copy.bits1 : waitsOk spec_l06Copy.T1.2 spec_l06Copy.B1 = true := by kernel_rfl
set_option maxHeartbeats 8000000 in
set_option maxRecDepth 100000 in
theorem spec_l06Copy.calls (k : Nat) (A0_0 : Option Addr) (c0_0 : Nat) (l0_0 : List Int) (A0_1 : Option Addr) (c0_1 : Nat) (l0_1 : List Int) (A0_2 : Option Addr) (c0_2 : Nat) (l0_2 : List Int) (r1 : List Int) (r2 : List Int) (r3 : List Int) (w : World) (hr0_0 : Kd.C (Kd.int .i64) w A0_0 l0_0.length l0_0) (hc0_0 : l0_0.length ≤ c0_0) (hr0_1 : Kd.C (Kd.int .i64) w A0_1 l0_1.length l0_1) (hc0_1 : l0_1.length ≤ c0_1) (hr0_2 : Kd.C (Kd.int .i64) w A0_2 l0_2.length l0_2) (hc0_2 : l0_2.length ≤ c0_2) (h : spec_l06Copy.f k l0_0 l0_1 l0_2 = some (r1, r2, r3)) :
  Calls Try.prog 37 #[.agg #[.slice A0_0 l0_0.length c0_0, .slice A0_1 l0_1.length c0_1, .slice A0_2 l0_2.length c0_2]] w fun e w' => ∃ v0_ v1_ v2_ : Value, e = .returned (.agg #[v0_, v1_, v2_]) ∧ Kd.R (Kd.int .i64) 3 w' w.heap.size (fun k_ => some k_ ≠ (v1_ : Value).ownBlock ∧ some k_ ≠ (v2_ : Value).ownBlock) v0_ r1 ∧ Kd.R (Kd.int .i64) 3 w' w.heap.size (fun k_ => some k_ ≠ (v0_ : Value).ownBlock ∧ some k_ ≠ (v2_ : Value).ownBlock) v1_ r2 ∧ Kd.R (Kd.int .i64) 3 w' w.heap.size (fun k_ => some k_ ≠ (v0_ : Value).ownBlock ∧ some k_ ≠ (v1_ : Value).ownBlock) v2_ r3 ∧ Below w.heap.size w w' := by
 have hu27 := Try.underlying27
 have HR0_0 := Zh hr0_0
 have HC0_0 := Zh hc0_0
 clear hr0_0 hc0_0
 have HR0_1 := Zh hr0_1
 have HC0_1 := Zh hc0_1
 clear hr0_1 hc0_1
 have HR0_2 := Zh hr0_2
 have HC0_2 := Zh hc0_2
 clear hr0_2 hc0_2
 have HB := Zh (Below.refl w.heap.size w)
 have H : ((spec_l01Copy.f k l0_0).bind fun t259 => ((spec_l01Copy.f k l0_1).bind fun t262 => ((spec_l01Copy.f k l0_2).bind fun t265 => (some (t259, t262, t265))))) = some (r1, r2, r3) := h
 clear h
 replace H := Option.bind_eq_some_iff.mp H
 obtain ⟨t259, A20, H⟩ := H
 replace H : ((spec_l01Copy.f k l0_1).bind fun t262 => ((spec_l01Copy.f k l0_2).bind fun t265 => (some (t259, t262, t265)))) = some (r1, r2, r3) := H
 have A2 := Zh A20
 clear A20
 replace H := Option.bind_eq_some_iff.mp H
 obtain ⟨t262, A30, H⟩ := H
 replace H : ((spec_l01Copy.f k l0_2).bind fun t265 => (some (t259, t262, t265))) = some (r1, r2, r3) := H
 have A3 := Zh A30
 clear A30
 replace H := Option.bind_eq_some_iff.mp H
 obtain ⟨t265, A40, H⟩ := H
 replace H : (some (t259, t262, t265)) = some (r1, r2, r3) := H
 have A4 := Zh A40
 clear A40
 simp only [Option.some.injEq, Prod.mk.injEq] at H
 obtain ⟨rfl, rfl, rfl⟩ := H
 go_enter Try.func37, Try.ntmps37
 try go_wp2_with (first | ((with_reducible refine gate_dst (N := 1) rfl ?_); refine box_event ?hg (N := 1) ?hd (cs := #[.slice A0_0 l0_0.length c0_0, .slice A0_1 l0_1.length c0_1, .slice A0_2 l0_2.length c0_2]) (t := 27) ?hr ?_; (case hd => rfl); (case hg => rfl); (case hr => first | (go_simp; done) | (go_simp; rfl)); intro gb257 hg w5 hbox hb; have BK257 := Zh (hbox); have GW257 := Zh ((by rw [hg]; exact (below_size Zs) : w.heap.size ≤ gb257)); have GE257 := Zh ((by rw [hg]; exact (below_size Zs) : w.heap.size ≤ gb257)); replace HB := Zh (Zl Zs hb); clear hb hbox hg) | ((with_reducible refine gate_dst (N := 2) rfl ?_); refine box_event ?hg (N := 2) ?hd (cs := #[.slice none 0 0, .slice none 0 0, .slice none 0 0]) (t := 27) ?hr ?_; (case hd => rfl); (case hg => rfl); (case hr => first | (go_simp; done) | (go_simp; rfl)); intro gb258 hg w6 hbox hb; have BK258 := Zh (hbox); have GW258 := Zh ((by rw [hg]; exact (below_size Zs) : w.heap.size ≤ gb258)); have GE258 := Zh ((by rw [hg]; exact (below_size Zs) : w.heap.size ≤ gb258)); replace HB := Zh (Zl Zs hb); have NB257_258 := Zh ((by rw [hg]; exact Nat.ne_of_lt (blk_lt (g := gb257) (o := .cells #[.slice A0_0 l0_0.length c0_0, .slice A0_1 l0_1.length c0_1, .slice A0_2 l0_2.length c0_2] 27 (0, 0)) Zk) : gb257 ≠ gb258)); have NB258_257 := Zh ((by rw [hg]; exact Nat.ne_of_gt (blk_lt (g := gb257) (o := .cells #[.slice A0_0 l0_0.length c0_0, .slice A0_1 l0_1.length c0_1, .slice A0_2 l0_2.length c0_2] 27 (0, 0)) Zk) : gb258 ≠ gb257)); replace BK257 := Zh (Zm (g := gb257) (o := .cells #[.slice A0_0 l0_0.length c0_0, .slice A0_1 l0_1.length c0_1, .slice A0_2 l0_2.length c0_2] 27 (0, 0)) Zk hb); clear hb hbox hg))
 replace BK257 := Zh (blk_drew BK257.out)
 replace BK258 := Zh (blk_drew BK258.out)
 replace HB := Zh (below_drew1 HB.out)
 refine start_ (n := 11) (S := fun w' => w'.cell? ⟨gb257, 0, none⟩ = some (.slice A0_0 l0_0.length c0_0) ∧ w'.cell? ⟨gb257, 1, none⟩ = some (.slice A0_1 l0_1.length c0_1) ∧ w'.cell? ⟨gb257, 2, none⟩ = some (.slice A0_2 l0_2.length c0_2)) (ds := []) #[false, false, false, false, false, false, false, false, false, false, false] (by kernel_rfl) rfl rfl ⟨(blk_cell BK257.out 0).trans rfl, (blk_cell BK257.out 1).trans rfl, (blk_cell BK257.out 2).trans rfl⟩ (fun hHeld => ?_); refine with_tabW spec_l06Copy.tab1 spec_l06Copy.bits1 (fun HT_ HW_ => ?_)
 generalize w6.drew = w7 at BK257 BK258 HB hHeld ⊢
 refine pure_ (i := 0) (N := some 3) (v := ?_) (a' := ?_) #[true, false, false, false, false, false, false, false, false, false, false] rfl rfl (any_of HT_.out (by kernel_rfl)) (fun _ _ _ h => h) (Or.inl ⟨by rfl, ?_⟩) ?_ ?_
 rotate_left
 ·
  intro w'
  go_simp
  with_reducible rfl
 rotate_left
 ·
  simp only [Act.put, List.setIfInBounds_toArray, List.set_cons_zero, List.set_cons_succ, i64_w, i32_w]
  rfl
 refine pure_ (i := 3) (N := some 6) (v := ?_) (a' := ?_) #[true, false, false, true, false, false, false, false, false, false, false] rfl rfl (any_of HT_.out (by kernel_rfl)) (fun _ _ _ h => h) (Or.inl ⟨by rfl, ?_⟩) ?_ ?_
 rotate_left
 ·
  intro w'
  go_simp
  with_reducible rfl
 rotate_left
 ·
  simp only [Act.put, List.setIfInBounds_toArray, List.set_cons_zero, List.set_cons_succ, i64_w, i32_w]
  rfl
 refine pure_ (i := 6) (N := some 9) (v := ?_) (a' := ?_) #[true, false, false, true, false, false, true, false, false, false, false] rfl rfl (any_of HT_.out (by kernel_rfl)) (fun _ _ _ h => h) (Or.inl ⟨by rfl, ?_⟩) ?_ ?_
 rotate_left
 ·
  intro w'
  go_simp
  with_reducible rfl
 rotate_left
 ·
  simp only [Act.put, List.setIfInBounds_toArray, List.set_cons_zero, List.set_cons_succ, i64_w, i32_w]
  rfl
 refine take_ (i := 1) (N := some 4) (v := ?_) (a' := ?_) #[true, true, false, true, false, false, true, false, false, false, false] rfl rfl (take_ofW HT_.out HW_.out (by kernel_rfl)) (fun _ _ _ h => h) (Or.inl ⟨by rfl, ?_⟩) hHeld ?_ ?_
 rotate_left
 ·
  rintro w' ⟨s0, s1, s2⟩
  go_simp
  with_reducible rfl
 rotate_left
 ·
  simp only [Act.put, List.setIfInBounds_toArray, List.set_cons_zero, List.set_cons_succ, i64_w, i32_w]
  rfl
 refine take_ (i := 4) (N := some 7) (v := ?_) (a' := ?_) #[true, true, false, true, true, false, true, false, false, false, false] rfl rfl (take_ofW HT_.out HW_.out (by kernel_rfl)) (fun _ _ _ h => h) (Or.inl ⟨by rfl, ?_⟩) hHeld ?_ ?_
 rotate_left
 ·
  rintro w' ⟨s0, s1, s2⟩
  go_simp
  with_reducible rfl
 rotate_left
 ·
  simp only [Act.put, List.setIfInBounds_toArray, List.set_cons_zero, List.set_cons_succ, i64_w, i32_w]
  rfl
 refine take_ (i := 7) (N := some 10) (v := ?_) (a' := ?_) #[true, true, false, true, true, false, true, true, false, false, false] rfl rfl (take_ofW HT_.out HW_.out (by kernel_rfl)) (fun _ _ _ h => h) (Or.inl ⟨by rfl, ?_⟩) hHeld ?_ ?_
 rotate_left
 ·
  rintro w' ⟨s0, s1, s2⟩
  go_simp
  with_reducible rfl
 rotate_left
 ·
  simp only [Act.put, List.setIfInBounds_toArray, List.set_cons_zero, List.set_cons_succ, i64_w, i32_w]
  rfl
 refine one_ (i := 2) (N := some 5) #[true, true, true, true, true, false, true, true, false, false, false] rfl rfl (one_of HT_.out (by kernel_rfl)) (by decide) (fun K hK => ?_)
 refine goes_ Try.func38 (by kernel_rfl) rfl #[.slice A0_0 l0_0.length c0_0] (by rfl) rfl rfl (by (try simp only [List.map_toArray, List.map_cons, List.map_nil]); first | done | rfl | (simp only [List.length_drop, List.length_take]; rfl)) ?_
 with_reducible refine (spec_l01Copy.calls k _ _ l0_0 t259 _ ?side1 ?side2 A2.out).mono ?_
 (case side1 => repeat (first | exact (C_below HR0_0.out HB.out) | (with_reducible refine C_alloc ?_ _) | (with_reducible refine C_drewN ?_ _) | (with_reducible refine C_drew ?_)))
 (case side2 => exact HC0_0.out)
 rintro e w8 ⟨v260, rfl, ho0, hb⟩
 refine ⟨_, rfl, ?_⟩
 have HO261 := Zh (R_lower ho0 (below_size Zs))
 replace BK257 := Zh (Zm (g := gb257) (o := .cells #[.slice A0_0 l0_0.length c0_0, .slice A0_1 l0_1.length c0_1, .slice A0_2 l0_2.length c0_2] 27 (0, 0)) Zk hb)
 replace BK258 := Zh (Zm (g := gb258) (o := .cells #[.slice none 0 0, .slice none 0 0, .slice none 0 0] 27 (0, 0)) Zk hb)
 replace HB := Zh (Zl Zs hb)
 (try clear hb)
 (try clear hb2)
 (try clear hk)
 (try clear hi)
 (try clear ho0)
 refine hK.out _ _ ⟨(blk_cell BK257.out 0).trans rfl, (blk_cell BK257.out 1).trans rfl, (blk_cell BK257.out 2).trans rfl⟩ (fun hHeld => ?_)
 clear hK K
 refine norm_ (a' := ?_) ?_ ?_
 rotate_left
 ·
  show Act.put _ (some 5) _ = _
  simp only [Act.put, List.setIfInBounds_toArray, List.set_cons_zero, List.set_cons_succ, i64_w, i32_w]
  rfl
 refine one_ (i := 5) (N := some 8) #[true, true, true, true, true, true, true, true, false, false, false] rfl rfl (one_of HT_.out (by kernel_rfl)) (by decide) (fun K hK => ?_)
 refine goes_ Try.func38 (by kernel_rfl) rfl #[.slice A0_1 l0_1.length c0_1] (by rfl) rfl rfl (by (try simp only [List.map_toArray, List.map_cons, List.map_nil]); first | done | rfl | (simp only [List.length_drop, List.length_take]; rfl)) ?_
 with_reducible refine (spec_l01Copy.calls k _ _ l0_1 t262 _ ?side1 ?side2 A3.out).mono ?_
 (case side1 => repeat (first | exact (C_below HR0_1.out HB.out) | (with_reducible refine C_alloc ?_ _) | (with_reducible refine C_drewN ?_ _) | (with_reducible refine C_drew ?_)))
 (case side2 => exact HC0_1.out)
 rintro e w9 ⟨v263, rfl, ho0, hb⟩
 refine ⟨_, rfl, ?_⟩
 have HO264 := Zh (R_lower (R_new' ho0 (R_lt (ZR HO261.out))) (below_size Zs))
 replace HO261 := Zh (R_elder' (ZR HO261.out) (R_base ho0) hb)
 replace BK257 := Zh (Zm (g := gb257) (o := .cells #[.slice A0_0 l0_0.length c0_0, .slice A0_1 l0_1.length c0_1, .slice A0_2 l0_2.length c0_2] 27 (0, 0)) Zk hb)
 replace BK258 := Zh (Zm (g := gb258) (o := .cells #[.slice none 0 0, .slice none 0 0, .slice none 0 0] 27 (0, 0)) Zk hb)
 replace HB := Zh (Zl Zs hb)
 (try clear hb)
 (try clear hb2)
 (try clear hk)
 (try clear hi)
 (try clear ho0)
 refine hK.out _ _ ⟨(blk_cell BK257.out 0).trans rfl, (blk_cell BK257.out 1).trans rfl, (blk_cell BK257.out 2).trans rfl⟩ (fun hHeld => ?_)
 clear hK K
 refine norm_ (a' := ?_) ?_ ?_
 rotate_left
 ·
  show Act.put _ (some 8) _ = _
  simp only [Act.put, List.setIfInBounds_toArray, List.set_cons_zero, List.set_cons_succ, i64_w, i32_w]
  rfl
 refine one_ (i := 8) (N := some 11) #[true, true, true, true, true, true, true, true, true, false, false] rfl rfl (one_of HT_.out (by kernel_rfl)) (by decide) (fun K hK => ?_)
 refine goes_ Try.func38 (by kernel_rfl) rfl #[.slice A0_2 l0_2.length c0_2] (by rfl) rfl rfl (by (try simp only [List.map_toArray, List.map_cons, List.map_nil]); first | done | rfl | (simp only [List.length_drop, List.length_take]; rfl)) ?_
 with_reducible refine (spec_l01Copy.calls k _ _ l0_2 t265 _ ?side1 ?side2 A4.out).mono ?_
 (case side1 => repeat (first | exact (C_below HR0_2.out HB.out) | (with_reducible refine C_alloc ?_ _) | (with_reducible refine C_drewN ?_ _) | (with_reducible refine C_drew ?_)))
 (case side2 => exact HC0_2.out)
 rintro e w10 ⟨v266, rfl, ho0, hb⟩
 refine ⟨_, rfl, ?_⟩
 have HO267 := Zh (R_lower (R_new' (R_new' ho0 (R_lt (ZR HO261.out))) (R_lt (ZR HO264.out))) (below_size Zs))
 replace HO261 := Zh (R_elder' (ZR HO261.out) (R_base ho0) hb)
 replace HO264 := Zh (R_elder' (ZR HO264.out) (R_base ho0) hb)
 replace BK257 := Zh (Zm (g := gb257) (o := .cells #[.slice A0_0 l0_0.length c0_0, .slice A0_1 l0_1.length c0_1, .slice A0_2 l0_2.length c0_2] 27 (0, 0)) Zk hb)
 replace BK258 := Zh (Zm (g := gb258) (o := .cells #[.slice none 0 0, .slice none 0 0, .slice none 0 0] 27 (0, 0)) Zk hb)
 replace HB := Zh (Zl Zs hb)
 (try clear hb)
 (try clear hb2)
 (try clear hk)
 (try clear hi)
 (try clear ho0)
 obtain ⟨Ao11, co11, eo11⟩ := R_slice HO267.out
 (first | subst eo11 | (injection eo11 with f1_ f2_ f3_; have f4_ := f1_.symm; have f5_ := f3_.symm; clear f1_ f2_ f3_; subst f4_; subst f5_))
 obtain ⟨Ao12, co12, eo12⟩ := R_slice HO264.out
 (first | subst eo12 | (injection eo12 with f1_ f2_ f3_; have f4_ := f1_.symm; have f5_ := f3_.symm; clear f1_ f2_ f3_; subst f4_; subst f5_))
 obtain ⟨Ao13, co13, eo13⟩ := R_slice HO261.out
 (first | subst eo13 | (injection eo13 with f1_ f2_ f3_; have f4_ := f1_.symm; have f5_ := f3_.symm; clear f1_ f2_ f3_; subst f4_; subst f5_))
 refine hK.out _ _ ⟨(blk_cell BK257.out 0).trans rfl, (blk_cell BK257.out 1).trans rfl, (blk_cell BK257.out 2).trans rfl⟩ (fun hHeld => ?_)
 clear hK K
 refine norm_ (a' := ?_) ?_ ?_
 rotate_left
 ·
  show Act.put _ (some 11) _ = _
  simp only [Act.put, List.setIfInBounds_toArray, List.set_cons_zero, List.set_cons_succ, i64_w, i32_w]
  rfl
 refine pure_ (i := 9) (N := some 12) (v := ?_) (a' := ?_) #[true, true, true, true, true, true, true, true, true, true, false] rfl rfl (any_of HT_.out (by kernel_rfl)) (fun _ _ _ h => h) (Or.inl ⟨by rfl, ?_⟩) ?_ ?_
 rotate_left
 ·
  intro w'
  go_simp
  with_reducible rfl
 rotate_left
 ·
  simp only [Act.put, List.setIfInBounds_toArray, List.set_cons_zero, List.set_cons_succ, i64_w, i32_w]
  rfl
 refine one_ (i := 10) (N := none) #[true, true, true, true, true, true, true, true, true, true, true] rfl rfl (one_of HT_.out (by kernel_rfl)) (by decide) (fun K hK => ?_)
 have hs14 : w10.cell? ⟨gb258, 0, none⟩ = some (.slice none 0 0) := (blk_cell BK258.out 0).trans rfl
 have hfs14 := Zn BK258.out 0
 have hns14_0 := NB257_258.out
 have hms14_0 := NB258_257.out
 have hs15 : w10.cell? ⟨gb258, 1, none⟩ = some (.slice none 0 0) := (blk_cell BK258.out 1).trans rfl
 have hfs15 := Zn BK258.out 1
 have hns15_0 := NB257_258.out
 have hms15_0 := NB258_257.out
 have hs16 : w10.cell? ⟨gb258, 2, none⟩ = some (.slice none 0 0) := (blk_cell BK258.out 2).trans rfl
 have hfs16 := Zn BK258.out 2
 have hns16_0 := NB257_258.out
 have hms16_0 := NB258_257.out
 refine skip_ (w1 := ?_) (by rfl) rfl ?_ ?_
 rotate_left
 ·
  go_simp
  rfl
 refine hK.out _ _ ⟨((cell_far (p := ⟨gb258, _, none⟩) NB257_258.out _).trans (((cell_far (p := ⟨gb258, _, none⟩) NB257_258.out _).trans (((cell_far (p := ⟨gb258, _, none⟩) NB257_258.out _).trans (hHeld.1)))))), ((cell_far (p := ⟨gb258, _, none⟩) NB257_258.out _).trans (((cell_far (p := ⟨gb258, _, none⟩) NB257_258.out _).trans (((cell_far (p := ⟨gb258, _, none⟩) NB257_258.out _).trans (hHeld.2.1)))))), ((cell_far (p := ⟨gb258, _, none⟩) NB257_258.out _).trans (((cell_far (p := ⟨gb258, _, none⟩) NB257_258.out _).trans (((cell_far (p := ⟨gb258, _, none⟩) NB257_258.out _).trans (hHeld.2.2))))))⟩ (fun hHeld => ?_)
 clear hK K
 refine done_ (done_of HT_.out (by kernel_rfl)) ?_
 try go_wp2
 refine bodyPost_ret (results_cell_row rfl _ _ gb258 27 #[.slice Ao13 t259.length co13, .slice Ao12 t262.length co12, .slice Ao11 t265.length co11] (0, 0) _ rfl (by (with_reducible repeat (first | refine blk_drewN ?_ _ | refine blk_drew ?_ | refine blk_alloc ?_ _)); refine blk_put (cs := #[.slice Ao13 t259.length co13, .slice Ao12 t262.length co12, .slice none 0 0]) ?_ 2 _ rfl; (with_reducible repeat (first | refine blk_drewN ?_ _ | refine blk_drew ?_ | refine blk_alloc ?_ _)); refine blk_put (cs := #[.slice Ao13 t259.length co13, .slice none 0 0, .slice none 0 0]) ?_ 1 _ rfl; (with_reducible repeat (first | refine blk_drewN ?_ _ | refine blk_drew ?_ | refine blk_alloc ?_ _)); refine blk_put (cs := #[.slice none 0 0, .slice none 0 0, .slice none 0 0]) ?_ 0 _ rfl; (with_reducible repeat (first | refine blk_drewN ?_ _ | refine blk_drew ?_ | refine blk_alloc ?_ _)); exact BK258.out) Try.underlying27 rfl (by kernel_rfl)) rfl ?_
 exact ⟨_, _, _, ZE, ZR (R_mono (R_far (p := ⟨gb258, 2, none⟩) (R_far (p := ⟨gb258, 1, none⟩) (R_far (p := ⟨gb258, 0, none⟩) (R_types HO261.out BK258.out (by decide)) (fun _ hk => hk.2) (.slice Ao13 t259.length co13)) (fun _ hk => hk.2) (.slice Ao12 t262.length co12)) (fun _ hk => hk.2) (.slice Ao11 t265.length co11)) (fun _ hk => ⟨hk.1.1.2, hk.1.2⟩)), ZR (R_mono (R_far (p := ⟨gb258, 2, none⟩) (R_far (p := ⟨gb258, 1, none⟩) (R_far (p := ⟨gb258, 0, none⟩) (R_types HO264.out BK258.out (by decide)) (fun _ hk => hk.2) (.slice Ao13 t259.length co13)) (fun _ hk => hk.2) (.slice Ao12 t262.length co12)) (fun _ hk => hk.2) (.slice Ao11 t265.length co11)) (fun _ hk => ⟨hk.1.1.2, hk.1.2⟩)), ZR (R_mono (R_far (p := ⟨gb258, 2, none⟩) (R_far (p := ⟨gb258, 1, none⟩) (R_far (p := ⟨gb258, 0, none⟩) (R_types HO267.out BK258.out (by decide)) (fun _ hk => hk.2) (.slice Ao13 t259.length co13)) (fun _ hk => hk.2) (.slice Ao12 t262.length co12)) (fun _ hk => hk.2) (.slice Ao11 t265.length co11)) (fun _ hk => ⟨hk.1.1.2, hk.1.2⟩)), Zs⟩

/-! ### spec_l01Has: function 33 -/
def spec_l01Has.l0 : Nat → List Int → Int → Int → Option (Bool)
 | 0, _, _, _ => none
 | k + 1, x0, x1, x5 => if x5 < (x0.length : Int) then (if 0 ≤ x5 then (if (rd x0 x5) = x1 then (some true) else (spec_l01Has.l0 k x0 x1 (wrap64 (x5 + 1)))) else (none)) else (some false)
def spec_l01Has.f (k : Nat) (l0 : List Int) (a1 : Int) : Option (Bool) := spec_l01Has.l0 k l0 a1 0
theorem spec_l01Has.mono_l : ∀ k, (∀ y0 y1 y2, LeO (spec_l01Has.l0 k y0 y1 y2) (spec_l01Has.l0 (k + 1) y0 y1 y2))
 | 0 => fun _ _ _ r h => by simp [spec_l01Has.l0] at h
 | k + 1 => by
  have ih0 := spec_l01Has.mono_l k
  ·
   intro y0 y1 y2
   unfold spec_l01Has.l0
   repeat' first
   | (with_reducible exact ih0 _ _ _)
   | (with_reducible exact LeO.refl _)
   | (with_reducible exact LeO.none _)
   | (with_reducible refine LeO.ite ?_ ?_)
   | (with_reducible refine LeO.bind ?_ (fun _ => ?_))
   | exact ih0 _ _ _
   | exact LeO.none _
   | refine LeO.ite ?_ ?_
   | refine LeO.bind ?_ (fun _ => ?_)
theorem spec_l01Has.mono : ∀ a0 a1 k, LeO (spec_l01Has.f k a0 a1) (spec_l01Has.f (k + 1) a0 a1) := by
 intro a0 a1 k
 have ih0 := spec_l01Has.mono_l k
 unfold spec_l01Has.f
 repeat' first
   | (with_reducible exact ih0 _ _ _)
   | (with_reducible exact LeO.refl _)
   | (with_reducible exact LeO.none _)
   | (with_reducible refine LeO.ite ?_ ?_)
   | (with_reducible refine LeO.bind ?_ (fun _ => ?_))
   | exact ih0 _ _ _
   | exact LeO.none _
   | refine LeO.ite ?_ ?_
   | refine LeO.bind ?_ (fun _ => ?_)
set_option maxHeartbeats 8000000 in
set_option maxRecDepth 100000 in
theorem spec_l01Has.calls (k : Nat) (A0 : Option Addr) (c0 : Nat) (l0 : List Int) (a1 : Int) (r : Bool) (w : World) (hr0 : Kd.C (Kd.int .i64) w A0 l0.length l0) (hc0 : l0.length ≤ c0) (h : spec_l01Has.f k l0 a1 = some r) :
  Calls Try.prog 33 #[.slice A0 l0.length c0, .int .i64 a1] w fun e w' => e = .returned (.bool r) ∧ Drawn0 w w' := by
 have HR0 := Zh hr0
 have HC0 := Zh hc0
 clear hr0 hc0
 have H : (spec_l01Has.l0 k l0 a1 0) = some r := h
 clear h
 have H' := Zh H
 clear H
 go_enter Try.func33, Try.ntmps33
 go_wp2
 go_loopg [5] k (fun kq v5 w' => ∃ (x5_1 : Int), v5 = .int .i64 x5_1 ∧ Aside0 (spec_l01Has.l0 kq l0 a1 x5_1 = some r) ∧ Aside0 (kq ≤ k) ∧ Drawn0 w w')
 case atStart => exact ⟨(0), (by first | rfl | (simp; done) | (simp [*]; done)), H', ⟨Nat.le_refl _⟩, by repeat (first | exact Drawn0.refl _ | apply Drawn0.step)⟩
 case round =>
  clear H'
  try clear p2
  obtain ⟨x5_1, rfl, HA, HK1, ⟨m1, rfl⟩⟩ := hrel
  cases gk with
  | zero => exact absurd HA.out (by simp [spec_l01Has.l0])
  | succ k1 =>
   have H := HA.out
   clear HA
   simp only [spec_l01Has.l0] at H
   by_cases c3 : x5_1 < (l0.length : Int)
   ·
    rw [if_pos c3] at H
    have c3b0 : decide (x5_1 < (l0.length : Int)) = true := decide_eq_true c3
    clear c3
    by_cases c4 : 0 ≤ x5_1
    ·
     rw [if_pos c4] at H
     have c4b0 : decide (0 ≤ x5_1) = true := decide_eq_true c4
     clear c4
     by_cases c5 : (rd l0 x5_1) = a1
     ·
      rw [if_pos c5] at H
      have c5b0 : ((rd l0 x5_1) == a1) = true := beq_iff_eq.mpr c5
      have c5b1 : ((rd l0 x5_1) != a1) = false := bne_eq_false_iff_eq.mpr c5
      clear c5
      obtain rfl := Option.some.inj H
      have p112 : 0 ≤ (x5_1 : Int) := Zo
      have q112 : x5_1 < (l0.length : Int) := Zo
      obtain ⟨ad112, e112, hx112_0⟩ := Kd.at_int HR0.out x5_1 p112 q112
      cases e112
      replace p112 := eq_true p112
      replace q112 := eq_true q112
      go_wp2
      go_ret
      exact ⟨by first | rfl | (simp; done) | (simp [*]; done), by repeat (first | exact Drawn0.refl _ | apply Drawn0.step)⟩
     rw [if_neg c5] at H
     have c5b0 : ((rd l0 x5_1) == a1) = false := beq_eq_false_iff_ne.mpr c5
     have c5b1 : ((rd l0 x5_1) != a1) = true := bne_iff_ne.mpr c5
     have H' := Zh H
     clear H
     have p112 : 0 ≤ (x5_1 : Int) := Zo
     have q112 : x5_1 < (l0.length : Int) := Zo
     obtain ⟨ad112, e112, hx112_0⟩ := Kd.at_int HR0.out x5_1 p112 q112
     cases e112
     replace p112 := eq_true p112
     replace q112 := eq_true q112
     go_wp2
     go_roundg k1
     case measure => have := HK1.out; omega
     case rel => exact ⟨(wrap64 (x5_1 + 1)), (by first | rfl | (simp; done) | (simp [*]; done)), H', ⟨by have := HK1.out; omega⟩, by repeat (first | exact Drawn0.refl _ | apply Drawn0.step)⟩
    rw [if_neg c4] at H
    exact absurd H (by simp)
   rw [if_neg c3] at H
   have c3b0 : decide (x5_1 < (l0.length : Int)) = false := decide_eq_false c3
   clear c3
   obtain rfl := Option.some.inj H
   go_wp2
   go_ret
   exact ⟨by first | rfl | (simp; done) | (simp [*]; done), by repeat (first | exact Drawn0.refl _ | apply Drawn0.step)⟩

/-! ### spec_l06Less: function 41 -/
def spec_l06Less.l0 : Nat → List Int → List Int → List Int → Int → Option (List Int)
 | 0, _, _, _, _ => none
 | k + 1, x0, x1, x5, x6 => if x6 < (x0.length : Int) then (if 0 ≤ x6 then ((spec_l01Has.f k x1 (rd x0 x6)).bind fun t434 => (if t434 = true then (spec_l06Less.l0 k x0 x1 x5 (wrap64 (x6 + 1))) else (if x5.length < 17592186044416 then (spec_l06Less.l0 k x0 x1 (x5 ++ [rd x0 x6]) (wrap64 (x6 + 1))) else (none)))) else (none)) else (some x5)
def spec_l06Less.f (k : Nat) (l0 : List Int) (l1 : List Int) : Option (List Int) := spec_l06Less.l0 k l0 l1 (([] : List Int)) 0
theorem spec_l06Less.mono_l : ∀ k, (∀ y0 y1 y2 y3, LeO (spec_l06Less.l0 k y0 y1 y2 y3) (spec_l06Less.l0 (k + 1) y0 y1 y2 y3))
 | 0 => fun _ _ _ _ r h => by simp [spec_l06Less.l0] at h
 | k + 1 => by
  have ih0 := spec_l06Less.mono_l k
  ·
   intro y0 y1 y2 y3
   unfold spec_l06Less.l0
   repeat' first
   | (with_reducible exact ih0 _ _ _ _)
   | (with_reducible exact spec_l01Has.mono _ _ _)
   | (with_reducible exact LeO.refl _)
   | (with_reducible exact LeO.none _)
   | (with_reducible refine LeO.ite ?_ ?_)
   | (with_reducible refine LeO.bind ?_ (fun _ => ?_))
   | exact ih0 _ _ _ _
   | exact spec_l01Has.mono _ _ _
   | exact LeO.none _
   | refine LeO.ite ?_ ?_
   | refine LeO.bind ?_ (fun _ => ?_)
theorem spec_l06Less.mono : ∀ a0 a1 k, LeO (spec_l06Less.f k a0 a1) (spec_l06Less.f (k + 1) a0 a1) := by
 intro a0 a1 k
 have ih0 := spec_l06Less.mono_l k
 unfold spec_l06Less.f
 repeat' first
   | (with_reducible exact ih0 _ _ _ _)
   | (with_reducible exact spec_l01Has.mono _ _ _)
   | (with_reducible exact LeO.refl _)
   | (with_reducible exact LeO.none _)
   | (with_reducible refine LeO.ite ?_ ?_)
   | (with_reducible refine LeO.bind ?_ (fun _ => ?_))
   | exact ih0 _ _ _ _
   | exact spec_l01Has.mono _ _ _
   | exact LeO.none _
   | refine LeO.ite ?_ ?_
   | refine LeO.bind ?_ (fun _ => ?_)
set_option maxHeartbeats 8000000 in
set_option maxRecDepth 100000 in
theorem spec_l06Less.calls (k : Nat) (A0 : Option Addr) (c0 : Nat) (l0 : List Int) (A1 : Option Addr) (c1 : Nat) (l1 : List Int) (r : List Int) (w : World) (hr0 : Kd.C (Kd.int .i64) w A0 l0.length l0) (hc0 : l0.length ≤ c0) (hr1 : Kd.C (Kd.int .i64) w A1 l1.length l1) (hc1 : l1.length ≤ c1) (h : spec_l06Less.f k l0 l1 = some r) :
  Calls Try.prog 41 #[.slice A0 l0.length c0, .slice A1 l1.length c1] w fun e w' => ∃ v0_ : Value, e = .returned (v0_) ∧ Kd.R (Kd.int .i64) 3 w' w.heap.size (fun _ => True) v0_ r ∧ Below w.heap.size w w' := by
 have HR0 := Zh hr0
 have HC0 := Zh hc0
 clear hr0 hc0
 have HR1 := Zh hr1
 have HC1 := Zh hc1
 clear hr1 hc1
 have HB := Zh (Below.refl w.heap.size w)
 have H : (spec_l06Less.l0 k l0 l1 (([] : List Int)) 0) = some r := h
 clear h
 obtain ⟨y430, hy430⟩ : ∃ y_ : List Int, y_ = (([] : List Int)) := ⟨_, rfl⟩
 replace H : (spec_l06Less.l0 k l0 l1 y430 0) = some r := by first | (rw [hy430]; with_reducible exact H) | (have H2_ := (Option.bind_some _ _).symm.trans H; rw [hy430]; with_reducible exact H2_) | (have H2_ := (Option.bind_some _ _).symm.trans H; with_reducible exact H2_) | with_reducible exact H | (rw [hy430]; exact H) | exact H
 have Ny430 := Zh hy430
 clear hy430
 have H' := Zh H
 clear H
 go_enter Try.func41, Try.ntmps41
 go_wp2_with (first | ((with_reducible refine gate_dst (N := 7) rfl ?_); refine R_lit (Kd.int .i64) _ 3 ?hg (N := 7) ?hd (xs := ([] : List Int)) (inner := []) (ok := fun _ => True) (okp := fun _ => True) ?hr ?hp (fun _ hk => hk) trivial (Below.refl _ _) (Nat.le_refl _) (by simp) ?_; (case hd => rfl); (case hg => rfl); (case hr => first | (go_simp; done) | (go_simp; rfl)); (case hp => exact (Reps.none _ _)); intro v431 w3 ho4 hb hg_ hnew_; clear hg_ hnew_; (first | rw [← Ny430.out] at ho4 | (simp only [Int.reduceToNat] at ho4; rw [← Ny430.out] at ho4)); have HO432 := Zh (R_lower ho4 (below_size Zs)); replace HB := Zh (Zl Zs hb); clear hb ho4))
 go_loopg [5, 6] k (fun kq v5 v6 w' => ∃ (x5_1 : List Int) (x6_1 : Int), v6 = .int .i64 x6_1 ∧ Aside0 (spec_l06Less.l0 kq l0 l1 x5_1 x6_1 = some r) ∧ Aside0 (kq ≤ k) ∧ Aside0 (Kd.R (Kd.int .i64) 3 w' w.heap.size (fun _ => True) v5 x5_1) ∧ Aside0 (Below w.heap.size w w'))
 case atStart => exact ⟨(y430), (0), (by first | rfl | (simp; done) | (simp [*]; done)), H', ⟨Nat.le_refl _⟩, ⟨ZR HO432.out⟩, ⟨Zs⟩⟩
 case round =>
  clear H'
  try clear c1
  try clear p2
  try clear c4
  obtain ⟨x5_1, x6_1, rfl, HA, HK1, HO_5, HB⟩ := hrel
  cases gk with
  | zero => exact absurd HA.out (by simp [spec_l06Less.l0])
  | succ k1 =>
   have H := HA.out
   clear HA
   simp only [spec_l06Less.l0] at H
   by_cases c5 : x6_1 < (l0.length : Int)
   ·
    rw [if_pos c5] at H
    have c5b0 : decide (x6_1 < (l0.length : Int)) = true := decide_eq_true c5
    clear c5
    by_cases c6 : 0 ≤ x6_1
    ·
     rw [if_pos c6] at H
     have c6b0 : decide (0 ≤ x6_1) = true := decide_eq_true c6
     clear c6
     replace H := Option.bind_eq_some_iff.mp H
     obtain ⟨t434, A70, H⟩ := H
     replace H : (if t434 = true then (spec_l06Less.l0 k1 l0 l1 x5_1 (wrap64 (x6_1 + 1))) else (if x5_1.length < 17592186044416 then (spec_l06Less.l0 k1 l0 l1 (x5_1 ++ [rd l0 x6_1]) (wrap64 (x6_1 + 1))) else (none))) = some r := H
     have A7 := Zh A70
     clear A70
     by_cases c8 : t434 = true
     ·
      subst c8
      have H1 : (spec_l06Less.l0 k1 l0 l1 x5_1 (wrap64 (x6_1 + 1))) = some r := by rw [if_pos rfl] at H; exact H
      clear H
      have H := H1
      clear H1
      have H' := Zh H
      clear H
      have p433 : 0 ≤ (x6_1 : Int) := Zo
      have q433 : x6_1 < (l0.length : Int) := Zo
      obtain ⟨ad433, e433, hx433_0⟩ := Kd.at_int HR0.out x6_1 p433 q433
      cases e433
      replace hx433_0 := Zc HB.out hx433_0
      replace p433 := eq_true p433
      replace q433 := eq_true q433
      go_wp2_with (first | ((with_reducible refine gate_callee (f := 33) rfl ?_); refine ZG (some 19) Try.func33 #[.slice A1 l1.length c1, .int .i64 (rd l0 x6_1)] rfl ?_; (with_reducible refine (spec_l01Has.calls k1 _ _ l1 (rd l0 x6_1) true _ ?side1 ?side2 A7.out).mono ?_); (case side1 => repeat (first | exact (C_below HR1.out HB.out) | (with_reducible refine C_alloc ?_ _) | (with_reducible refine C_drewN ?_ _) | (with_reducible refine C_drew ?_))); (case side2 => exact HC1.out); rintro e w' ⟨rfl, ⟨nd, rfl⟩⟩; refine ⟨_, rfl, ?_⟩))
      go_roundg k1
      case measure => have := HK1.out; omega
      case rel => exact ⟨(x5_1), (wrap64 (x6_1 + 1)), (by first | rfl | (simp; done) | (simp [*]; done)), H', ⟨by have := HK1.out; omega⟩, ⟨ZR HO_5.out⟩, ⟨Zs⟩⟩
     replace c8 := Bool.eq_false_iff.mpr c8
     subst c8
     have H1 : (if x5_1.length < 17592186044416 then (spec_l06Less.l0 k1 l0 l1 (x5_1 ++ [rd l0 x6_1]) (wrap64 (x6_1 + 1))) else (none)) = some r := by rw [if_neg (show ¬ (false = true) by decide)] at H; exact H
     clear H
     have H := H1
     clear H1
     by_cases c9 : x5_1.length < 17592186044416
     ·
      rw [if_pos c9] at H
      have LMc9 := Zh c9
      clear c9
      obtain ⟨y436, hy436⟩ : ∃ y_ : List Int, y_ = (x5_1 ++ [rd l0 x6_1]) := ⟨_, rfl⟩
      replace H : (spec_l06Less.l0 k1 l0 l1 y436 (wrap64 (x6_1 + 1))) = some r := by first | (rw [hy436]; with_reducible exact H) | (have H2_ := (Option.bind_some _ _).symm.trans H; rw [hy436]; with_reducible exact H2_) | (have H2_ := (Option.bind_some _ _).symm.trans H; with_reducible exact H2_) | with_reducible exact H | (rw [hy436]; exact H) | exact H
      have Ny436 := Zh hy436
      clear hy436
      have H' := Zh H
      clear H
      have p433 : 0 ≤ (x6_1 : Int) := Zo
      have q433 : x6_1 < (l0.length : Int) := Zo
      obtain ⟨ad433, e433, hx433_0⟩ := Kd.at_int HR0.out x6_1 p433 q433
      cases e433
      replace hx433_0 := Zc HB.out hx433_0
      replace p433 := eq_true p433
      replace q433 := eq_true q433
      go_wp2_with (first | ((with_reducible refine gate_callee (f := 33) rfl ?_); refine ZG (some 19) Try.func33 #[.slice A1 l1.length c1, .int .i64 (rd l0 x6_1)] rfl ?_; (with_reducible refine (spec_l01Has.calls k1 _ _ l1 (rd l0 x6_1) false _ ?side1 ?side2 A7.out).mono ?_); (case side1 => repeat (first | exact (C_below HR1.out HB.out) | (with_reducible refine C_alloc ?_ _) | (with_reducible refine C_drewN ?_ _) | (with_reducible refine C_drew ?_))); (case side2 => exact HC1.out); rintro e w' ⟨rfl, ⟨nd, rfl⟩⟩; refine ⟨_, rfl, ?_⟩; have p435 : 0 ≤ (x6_1 : Int) := Zo; have q435 : x6_1 < (l0.length : Int) := Zo; obtain ⟨ad435, e435, hx435_0⟩ := Kd.at_int HR0.out x6_1 p435 q435; obtain rfl : ad433 = ad435 := (by injection e435); replace hx435_0 := Zc HB.out hx435_0; replace p435 := eq_true p435; replace q435 := eq_true q435) | ((with_reducible refine gate_builtin (b := .append) (xs := #[.tmp 21, .tmp 26]) rfl ?_); at_builtin; refine R_append (Kd.int .i64) (w0 := w) w.heap.size rfl (.tmp 21) (.tmp 26) 22 3 (.int .i64 0) 8 rfl Try.underlying22 info3 rfl (by decide) (by omega) u5 x5_1 (rd l0 x6_1) [.int .i64 (rd l0 x6_1)] (fun _ => True) (fun _ => False) rfl rfl ?aP (fun _ hk => hk.elim) ?aF ?aO ?aB ?aS ?aL ?_; (case aP => exact rfl); (case aB => exact Zs); (case aF => exact (fun _ _ => trivial)); (case aO => exact (ZR HO_5.out)); (case aS => exact (below_size Zs)); (case aL => have := LMc9.out; omega); intro v437 w10 ho hb hg hat; rw [← Ny436.out] at ho; have n0_ := Zh (hb); have n1_ := Zh (ho); clear HB; clear HO_5; have HB := n0_; have HO438 := n1_; clear n0_ n1_; clear ho hb hg hat))
      go_roundg k1
      case measure => have := HK1.out; omega
      case rel => exact ⟨(y436), (wrap64 (x6_1 + 1)), (by first | rfl | (simp; done) | (simp [*]; done)), H', ⟨by have := HK1.out; omega⟩, ⟨ZR HO438.out⟩, ⟨Zs⟩⟩
     rw [if_neg c9] at H
     exact absurd H (by simp)
    rw [if_neg c6] at H
    exact absurd H (by simp)
   rw [if_neg c5] at H
   have c5b0 : decide (x6_1 < (l0.length : Int)) = false := decide_eq_false c5
   clear c5
   obtain rfl := Option.some.inj H
   go_wp2
   go_ret
   exact ⟨_, ZE, ZR HO_5.out, Zs⟩

/-! ### spec_ConfOk: function 9 -/
mutual
def spec_ConfOk.j0 : Nat → Bool → List Int → List Int → List Int → Option (Bool)
 | 0, _, _, _, _ => none
 | k + 1, x26, x114000, x114001, x114002 => if x26 = true then (some false) else (spec_ConfOk.l0 k 0 x114000 x114001 x114002)
def spec_ConfOk.l0 : Nat → Int → List Int → List Int → List Int → Option (Bool)
 | 0, _, _, _, _ => none
 | k + 1, x3, x114000, x114001, x114002 => if x3 < (x114002.length : Int) then (if 0 ≤ x3 then ((spec_l01Has.f k x114000 (rd x114002 x3)).bind fun t119 => (if t119 = true then (some false) else ((spec_l01Has.f k x114001 (rd x114002 x3)).bind fun t121 => (if t121 = true then (some false) else (spec_ConfOk.l0 k (wrap64 (x3 + 1)) x114000 x114001 x114002))))) else (none)) else (some true)
end
def spec_ConfOk.f (k : Nat) (l0_0 : List Int) (l0_1 : List Int) (l0_2 : List Int) : Option (Bool) := (spec_l06Set.f k l0_0).bind fun t114 => (if t114 = true then ((spec_l06Ids.f k l0_1).bind fun t115 => (if t115 = true then ((spec_l06Ids.f k l0_2).bind fun t116 => (if t116 = true then ((spec_l06Same.f k l0_0 l0_1).bind fun t117 => (spec_ConfOk.j0 k t117 l0_0 l0_1 l0_2)) else (spec_ConfOk.j0 k true l0_0 l0_1 l0_2))) else (spec_ConfOk.j0 k true l0_0 l0_1 l0_2))) else (spec_ConfOk.j0 k true l0_0 l0_1 l0_2))
theorem spec_ConfOk.mono_l : ∀ k, (∀ y0 y1 y2 y3, LeO (spec_ConfOk.j0 k y0 y1 y2 y3) (spec_ConfOk.j0 (k + 1) y0 y1 y2 y3)) ∧ (∀ y0 y1 y2 y3, LeO (spec_ConfOk.l0 k y0 y1 y2 y3) (spec_ConfOk.l0 (k + 1) y0 y1 y2 y3))
 | 0 => ⟨fun _ _ _ _ r h => by simp [spec_ConfOk.j0] at h, fun _ _ _ _ r h => by simp [spec_ConfOk.l0] at h⟩
 | k + 1 => by
  obtain ⟨ih0, ih1⟩ := spec_ConfOk.mono_l k
  refine ⟨?_, ?_⟩
  ·
   intro y0 y1 y2 y3
   unfold spec_ConfOk.j0
   repeat' first
   | (with_reducible exact ih0 _ _ _ _)
   | (with_reducible exact ih1 _ _ _ _)
   | (with_reducible exact spec_l01Has.mono _ _ _)
   | (with_reducible exact spec_l06Ids.mono _ _)
   | (with_reducible exact spec_l06Same.mono _ _ _)
   | (with_reducible exact spec_l06Set.mono _ _)
   | (with_reducible exact LeO.refl _)
   | (with_reducible exact LeO.none _)
   | (with_reducible refine LeO.ite ?_ ?_)
   | (with_reducible refine LeO.bind ?_ (fun _ => ?_))
   | exact ih0 _ _ _ _
   | exact ih1 _ _ _ _
   | exact spec_l01Has.mono _ _ _
   | exact spec_l06Ids.mono _ _
   | exact spec_l06Same.mono _ _ _
   | exact spec_l06Set.mono _ _
   | exact LeO.none _
   | refine LeO.ite ?_ ?_
   | refine LeO.bind ?_ (fun _ => ?_)
  intro y0 y1 y2 y3
  unfold spec_ConfOk.l0
  repeat' first
  | (with_reducible exact ih0 _ _ _ _)
  | (with_reducible exact ih1 _ _ _ _)
  | (with_reducible exact spec_l01Has.mono _ _ _)
  | (with_reducible exact spec_l06Ids.mono _ _)
  | (with_reducible exact spec_l06Same.mono _ _ _)
  | (with_reducible exact spec_l06Set.mono _ _)
  | (with_reducible exact LeO.refl _)
  | (with_reducible exact LeO.none _)
  | (with_reducible refine LeO.ite ?_ ?_)
  | (with_reducible refine LeO.bind ?_ (fun _ => ?_))
  | exact ih0 _ _ _ _
  | exact ih1 _ _ _ _
  | exact spec_l01Has.mono _ _ _
  | exact spec_l06Ids.mono _ _
  | exact spec_l06Same.mono _ _ _
  | exact spec_l06Set.mono _ _
  | exact LeO.none _
  | refine LeO.ite ?_ ?_
  | refine LeO.bind ?_ (fun _ => ?_)
theorem spec_ConfOk.mono : ∀ a0 a1 a2 k, LeO (spec_ConfOk.f k a0 a1 a2) (spec_ConfOk.f (k + 1) a0 a1 a2) := by
 intro a0 a1 a2 k
 obtain ⟨ih0, ih1⟩ := spec_ConfOk.mono_l k
 unfold spec_ConfOk.f
 repeat' first
   | (with_reducible exact ih0 _ _ _ _)
   | (with_reducible exact ih1 _ _ _ _)
   | (with_reducible exact spec_l01Has.mono _ _ _)
   | (with_reducible exact spec_l06Ids.mono _ _)
   | (with_reducible exact spec_l06Same.mono _ _ _)
   | (with_reducible exact spec_l06Set.mono _ _)
   | (with_reducible exact LeO.refl _)
   | (with_reducible exact LeO.none _)
   | (with_reducible refine LeO.ite ?_ ?_)
   | (with_reducible refine LeO.bind ?_ (fun _ => ?_))
   | exact ih0 _ _ _ _
   | exact ih1 _ _ _ _
   | exact spec_l01Has.mono _ _ _
   | exact spec_l06Ids.mono _ _
   | exact spec_l06Same.mono _ _ _
   | exact spec_l06Set.mono _ _
   | exact LeO.none _
   | refine LeO.ite ?_ ?_
   | refine LeO.bind ?_ (fun _ => ?_)
set_option maxHeartbeats 8000000 in
set_option maxRecDepth 100000 in
theorem spec_ConfOk.calls (k : Nat) (A0_0 : Option Addr) (c0_0 : Nat) (l0_0 : List Int) (A0_1 : Option Addr) (c0_1 : Nat) (l0_1 : List Int) (A0_2 : Option Addr) (c0_2 : Nat) (l0_2 : List Int) (r : Bool) (w : World) (hr0_0 : Kd.C (Kd.int .i64) w A0_0 l0_0.length l0_0) (hc0_0 : l0_0.length ≤ c0_0) (hr0_1 : Kd.C (Kd.int .i64) w A0_1 l0_1.length l0_1) (hc0_1 : l0_1.length ≤ c0_1) (hr0_2 : Kd.C (Kd.int .i64) w A0_2 l0_2.length l0_2) (hc0_2 : l0_2.length ≤ c0_2) (h : spec_ConfOk.f k l0_0 l0_1 l0_2 = some r) :
  Calls Try.prog 9 #[.agg #[.slice A0_0 l0_0.length c0_0, .slice A0_1 l0_1.length c0_1, .slice A0_2 l0_2.length c0_2]] w fun e w' => e = .returned (.bool r) ∧ Below w.heap.size w w' := by
 have hu27 := Try.underlying27
 have HR0_0 := Zh hr0_0
 have HC0_0 := Zh hc0_0
 clear hr0_0 hc0_0
 have HR0_1 := Zh hr0_1
 have HC0_1 := Zh hc0_1
 clear hr0_1 hc0_1
 have HR0_2 := Zh hr0_2
 have HC0_2 := Zh hc0_2
 clear hr0_2 hc0_2
 have HB := Zh (Below.refl w.heap.size w)
 have H : ((spec_l06Set.f k l0_0).bind fun t114 => (if t114 = true then ((spec_l06Ids.f k l0_1).bind fun t115 => (if t115 = true then ((spec_l06Ids.f k l0_2).bind fun t116 => (if t116 = true then ((spec_l06Same.f k l0_0 l0_1).bind fun t117 => (spec_ConfOk.j0 k t117 l0_0 l0_1 l0_2)) else (spec_ConfOk.j0 k true l0_0 l0_1 l0_2))) else (spec_ConfOk.j0 k true l0_0 l0_1 l0_2))) else (spec_ConfOk.j0 k true l0_0 l0_1 l0_2))) = some r := h
 clear h
 have HC2 := Zh H
 clear H
 go_enter Try.func9, Try.ntmps9
 go_upto_region 1 with (first | ((with_reducible refine gate_dst (N := 1) rfl ?_); refine box_event ?hg (N := 1) ?hd (cs := #[.slice A0_0 l0_0.length c0_0, .slice A0_1 l0_1.length c0_1, .slice A0_2 l0_2.length c0_2]) (t := 27) ?hr ?_; (case hd => rfl); (case hg => rfl); (case hr => first | (go_simp; done) | (go_simp; rfl)); intro gb113 hg w3 hbox hb; have BK113 := Zh (hbox); have GW113 := Zh ((by rw [hg]; exact (below_size Zs) : w.heap.size ≤ gb113)); have GE113 := Zh ((by rw [hg]; exact (below_size Zs) : w.heap.size ≤ gb113)); replace HB := Zh (Zl Zs hb); clear hb hbox hg))
 repeat (go_quiet (first | ((with_reducible refine gate_dst (N := 1) rfl ?_); refine box_event ?hg (N := 1) ?hd (cs := #[.slice A0_0 l0_0.length c0_0, .slice A0_1 l0_1.length c0_1, .slice A0_2 l0_2.length c0_2]) (t := 27) ?hr ?_; (case hd => rfl); (case hg => rfl); (case hr => first | (go_simp; done) | (go_simp; rfl)); intro gb113 hg w3 hbox hb; have BK113 := Zh (hbox); have GW113 := Zh ((by rw [hg]; exact (below_size Zs) : w.heap.size ≤ gb113)); have GE113 := Zh ((by rw [hg]; exact (below_size Zs) : w.heap.size ≤ gb113)); replace HB := Zh (Zl Zs hb); clear hb hbox hg)); go_upto_region 1 with (first | ((with_reducible refine gate_dst (N := 1) rfl ?_); refine box_event ?hg (N := 1) ?hd (cs := #[.slice A0_0 l0_0.length c0_0, .slice A0_1 l0_1.length c0_1, .slice A0_2 l0_2.length c0_2]) (t := 27) ?hr ?_; (case hd => rfl); (case hg => rfl); (case hr => first | (go_simp; done) | (go_simp; rfl)); intro gb113 hg w3 hbox hb; have BK113 := Zh (hbox); have GW113 := Zh ((by rw [hg]; exact (below_size Zs) : w.heap.size ≤ gb113)); have GE113 := Zh ((by rw [hg]; exact (below_size Zs) : w.heap.size ≤ gb113)); replace HB := Zh (Zl Zs hb); clear hb hbox hg)))
 (try simp only [Act.put, List.setIfInBounds_toArray, List.set_cons_zero, List.set_cons_succ])
 go_cut [26] (fun v26 wc => ∃ (kq : Nat) (x26_1 : Bool), v26 = .bool x26_1 ∧ Aside0 (spec_ConfOk.j0 kq x26_1 l0_0 l0_1 l0_2 = some r) ∧ Aside0 (kq ≤ k) ∧ Aside0 (wc.heap[gb113]? = some (.cells #[(.slice A0_0 l0_0.length c0_0), (.slice A0_1 l0_1.length c0_1), (.slice A0_2 l0_2.length c0_2)] 27 (0, 0))) ∧ Aside0 (Below w.heap.size w wc))
 case first =>
  have H := HC2.out
  clear HC2
  replace H := Option.bind_eq_some_iff.mp H
  obtain ⟨t114, A40, H⟩ := H
  replace H : (if t114 = true then ((spec_l06Ids.f k l0_1).bind fun t115 => (if t115 = true then ((spec_l06Ids.f k l0_2).bind fun t116 => (if t116 = true then ((spec_l06Same.f k l0_0 l0_1).bind fun t117 => (spec_ConfOk.j0 k t117 l0_0 l0_1 l0_2)) else (spec_ConfOk.j0 k true l0_0 l0_1 l0_2))) else (spec_ConfOk.j0 k true l0_0 l0_1 l0_2))) else (spec_ConfOk.j0 k true l0_0 l0_1 l0_2)) = some r := H
  have A4 := Zh A40
  clear A40
  by_cases c5 : t114 = true
  ·
   subst c5
   have H1 : ((spec_l06Ids.f k l0_1).bind fun t115 => (if t115 = true then ((spec_l06Ids.f k l0_2).bind fun t116 => (if t116 = true then ((spec_l06Same.f k l0_0 l0_1).bind fun t117 => (spec_ConfOk.j0 k t117 l0_0 l0_1 l0_2)) else (spec_ConfOk.j0 k true l0_0 l0_1 l0_2))) else (spec_ConfOk.j0 k true l0_0 l0_1 l0_2))) = some r := by rw [if_pos rfl] at H; exact H
   clear H
   have H := H1
   clear H1
   replace H := Option.bind_eq_some_iff.mp H
   obtain ⟨t115, A60, H⟩ := H
   replace H : (if t115 = true then ((spec_l06Ids.f k l0_2).bind fun t116 => (if t116 = true then ((spec_l06Same.f k l0_0 l0_1).bind fun t117 => (spec_ConfOk.j0 k t117 l0_0 l0_1 l0_2)) else (spec_ConfOk.j0 k true l0_0 l0_1 l0_2))) else (spec_ConfOk.j0 k true l0_0 l0_1 l0_2)) = some r := H
   have A6 := Zh A60
   clear A60
   by_cases c7 : t115 = true
   ·
    subst c7
    have H1 : ((spec_l06Ids.f k l0_2).bind fun t116 => (if t116 = true then ((spec_l06Same.f k l0_0 l0_1).bind fun t117 => (spec_ConfOk.j0 k t117 l0_0 l0_1 l0_2)) else (spec_ConfOk.j0 k true l0_0 l0_1 l0_2))) = some r := by rw [if_pos rfl] at H; exact H
    clear H
    have H := H1
    clear H1
    replace H := Option.bind_eq_some_iff.mp H
    obtain ⟨t116, A80, H⟩ := H
    replace H : (if t116 = true then ((spec_l06Same.f k l0_0 l0_1).bind fun t117 => (spec_ConfOk.j0 k t117 l0_0 l0_1 l0_2)) else (spec_ConfOk.j0 k true l0_0 l0_1 l0_2)) = some r := H
    have A8 := Zh A80
    clear A80
    by_cases c9 : t116 = true
    ·
     subst c9
     have H1 : ((spec_l06Same.f k l0_0 l0_1).bind fun t117 => (spec_ConfOk.j0 k t117 l0_0 l0_1 l0_2)) = some r := by rw [if_pos rfl] at H; exact H
     clear H
     have H := H1
     clear H1
     replace H := Option.bind_eq_some_iff.mp H
     obtain ⟨t117, A100, H⟩ := H
     replace H : (spec_ConfOk.j0 k t117 l0_0 l0_1 l0_2) = some r := H
     have A10 := Zh A100
     clear A100
     have H' := Zh H
     clear H
     have hcz11_0 : w3.cell? ⟨gb113, 0, none⟩ = some (.slice A0_0 l0_0.length c0_0) := (blk_cell BK113.out 0).trans rfl
     have hcz11_1 : w3.cell? ⟨gb113, 1, none⟩ = some (.slice A0_1 l0_1.length c0_1) := (blk_cell BK113.out 1).trans rfl
     have hcz11_2 : w3.cell? ⟨gb113, 2, none⟩ = some (.slice A0_2 l0_2.length c0_2) := (blk_cell BK113.out 2).trans rfl
     have hfz11_0 := Zn BK113.out 0
     have hfz11_1 := Zn BK113.out 1
     have hfz11_2 := Zn BK113.out 2
     go_wp2_with (first | (go_at_call 30; (with_reducible refine (spec_l06Set.calls k _ _ l0_0 true _ ?side1 ?side2 A4.out).mono ?_); (case side1 => repeat (first | exact (C_below HR0_0.out HB.out) | (with_reducible refine C_alloc ?_ _) | (with_reducible refine C_drewN ?_ _) | (with_reducible refine C_drew ?_))); (case side2 => exact HC0_0.out); rintro e w' ⟨rfl, ⟨nd, rfl⟩⟩; (try first | exact ⟨rfl, _, World.drewN_drewN _ _ _⟩ | exact ⟨rfl, _, Eq.trans (World.drewN_drewN _ _ _) (congrArg (World.drewN _) (Nat.add_assoc _ _ _))⟩)) | (go_at_call 31; (with_reducible refine (spec_l06Ids.calls k _ _ l0_1 true _ ?side1 ?side2 A6.out).mono ?_); (case side1 => repeat (first | exact (C_below HR0_1.out Zs) | (with_reducible refine C_alloc ?_ _) | (with_reducible refine C_drewN ?_ _) | (with_reducible refine C_drew ?_))); (case side2 => exact HC0_1.out); rintro e w' ⟨rfl, ⟨nd, rfl⟩⟩; (try first | exact ⟨rfl, _, World.drewN_drewN _ _ _⟩ | exact ⟨rfl, _, Eq.trans (World.drewN_drewN _ _ _) (congrArg (World.drewN _) (Nat.add_assoc _ _ _))⟩)) | (go_at_call 31; (with_reducible refine (spec_l06Ids.calls k _ _ l0_2 true _ ?side1 ?side2 A8.out).mono ?_); (case side1 => repeat (first | exact (C_below HR0_2.out Zs) | (with_reducible refine C_alloc ?_ _) | (with_reducible refine C_drewN ?_ _) | (with_reducible refine C_drew ?_))); (case side2 => exact HC0_2.out); rintro e w' ⟨rfl, ⟨nd, rfl⟩⟩; (try first | exact ⟨rfl, _, World.drewN_drewN _ _ _⟩ | exact ⟨rfl, _, Eq.trans (World.drewN_drewN _ _ _) (congrArg (World.drewN _) (Nat.add_assoc _ _ _))⟩)) | (go_at_call 32; (with_reducible refine (spec_l06Same.calls k _ _ l0_0 _ _ l0_1 t117 _ ?side1 ?side2 ?side3 ?side4 A10.out).mono ?_); (case side1 => repeat (first | exact (C_below HR0_0.out Zs) | (with_reducible refine C_alloc ?_ _) | (with_reducible refine C_drewN ?_ _) | (with_reducible refine C_drew ?_))); (case side2 => exact HC0_0.out); (case side3 => repeat (first | exact (C_below HR0_1.out Zs) | (with_reducible refine C_alloc ?_ _) | (with_reducible refine C_drewN ?_ _) | (with_reducible refine C_drew ?_))); (case side4 => exact HC0_1.out); rintro e w' ⟨rfl, ⟨nd, rfl⟩⟩; (try first | exact ⟨rfl, _, World.drewN_drewN _ _ _⟩ | exact ⟨rfl, _, Eq.trans (World.drewN_drewN _ _ _) (congrArg (World.drewN _) (Nat.add_assoc _ _ _))⟩)))
     repeat (go_quiet (first | (go_at_call 30; (with_reducible refine (spec_l06Set.calls k _ _ l0_0 true _ ?side1 ?side2 A4.out).mono ?_); (case side1 => repeat (first | exact (C_below HR0_0.out HB.out) | (with_reducible refine C_alloc ?_ _) | (with_reducible refine C_drewN ?_ _) | (with_reducible refine C_drew ?_))); (case side2 => exact HC0_0.out); rintro e w' ⟨rfl, ⟨nd, rfl⟩⟩; (try first | exact ⟨rfl, _, World.drewN_drewN _ _ _⟩ | exact ⟨rfl, _, Eq.trans (World.drewN_drewN _ _ _) (congrArg (World.drewN _) (Nat.add_assoc _ _ _))⟩)) | (go_at_call 31; (with_reducible refine (spec_l06Ids.calls k _ _ l0_1 true _ ?side1 ?side2 A6.out).mono ?_); (case side1 => repeat (first | exact (C_below HR0_1.out Zs) | (with_reducible refine C_alloc ?_ _) | (with_reducible refine C_drewN ?_ _) | (with_reducible refine C_drew ?_))); (case side2 => exact HC0_1.out); rintro e w' ⟨rfl, ⟨nd, rfl⟩⟩; (try first | exact ⟨rfl, _, World.drewN_drewN _ _ _⟩ | exact ⟨rfl, _, Eq.trans (World.drewN_drewN _ _ _) (congrArg (World.drewN _) (Nat.add_assoc _ _ _))⟩)) | (go_at_call 31; (with_reducible refine (spec_l06Ids.calls k _ _ l0_2 true _ ?side1 ?side2 A8.out).mono ?_); (case side1 => repeat (first | exact (C_below HR0_2.out Zs) | (with_reducible refine C_alloc ?_ _) | (with_reducible refine C_drewN ?_ _) | (with_reducible refine C_drew ?_))); (case side2 => exact HC0_2.out); rintro e w' ⟨rfl, ⟨nd, rfl⟩⟩; (try first | exact ⟨rfl, _, World.drewN_drewN _ _ _⟩ | exact ⟨rfl, _, Eq.trans (World.drewN_drewN _ _ _) (congrArg (World.drewN _) (Nat.add_assoc _ _ _))⟩)) | (go_at_call 32; (with_reducible refine (spec_l06Same.calls k _ _ l0_0 _ _ l0_1 t117 _ ?side1 ?side2 ?side3 ?side4 A10.out).mono ?_); (case side1 => repeat (first | exact (C_below HR0_0.out Zs) | (with_reducible refine C_alloc ?_ _) | (with_reducible refine C_drewN ?_ _) | (with_reducible refine C_drew ?_))); (case side2 => exact HC0_0.out); (case side3 => repeat (first | exact (C_below HR0_1.out Zs) | (with_reducible refine C_alloc ?_ _) | (with_reducible refine C_drewN ?_ _) | (with_reducible refine C_drew ?_))); (case side4 => exact HC0_1.out); rintro e w' ⟨rfl, ⟨nd, rfl⟩⟩; (try first | exact ⟨rfl, _, World.drewN_drewN _ _ _⟩ | exact ⟨rfl, _, Eq.trans (World.drewN_drewN _ _ _) (congrArg (World.drewN _) (Nat.add_assoc _ _ _))⟩))); try go_wp2_with (first | (go_at_call 30; (with_reducible refine (spec_l06Set.calls k _ _ l0_0 true _ ?side1 ?side2 A4.out).mono ?_); (case side1 => repeat (first | exact (C_below HR0_0.out HB.out) | (with_reducible refine C_alloc ?_ _) | (with_reducible refine C_drewN ?_ _) | (with_reducible refine C_drew ?_))); (case side2 => exact HC0_0.out); rintro e w' ⟨rfl, ⟨nd, rfl⟩⟩; (try first | exact ⟨rfl, _, World.drewN_drewN _ _ _⟩ | exact ⟨rfl, _, Eq.trans (World.drewN_drewN _ _ _) (congrArg (World.drewN _) (Nat.add_assoc _ _ _))⟩)) | (go_at_call 31; (with_reducible refine (spec_l06Ids.calls k _ _ l0_1 true _ ?side1 ?side2 A6.out).mono ?_); (case side1 => repeat (first | exact (C_below HR0_1.out Zs) | (with_reducible refine C_alloc ?_ _) | (with_reducible refine C_drewN ?_ _) | (with_reducible refine C_drew ?_))); (case side2 => exact HC0_1.out); rintro e w' ⟨rfl, ⟨nd, rfl⟩⟩; (try first | exact ⟨rfl, _, World.drewN_drewN _ _ _⟩ | exact ⟨rfl, _, Eq.trans (World.drewN_drewN _ _ _) (congrArg (World.drewN _) (Nat.add_assoc _ _ _))⟩)) | (go_at_call 31; (with_reducible refine (spec_l06Ids.calls k _ _ l0_2 true _ ?side1 ?side2 A8.out).mono ?_); (case side1 => repeat (first | exact (C_below HR0_2.out Zs) | (with_reducible refine C_alloc ?_ _) | (with_reducible refine C_drewN ?_ _) | (with_reducible refine C_drew ?_))); (case side2 => exact HC0_2.out); rintro e w' ⟨rfl, ⟨nd, rfl⟩⟩; (try first | exact ⟨rfl, _, World.drewN_drewN _ _ _⟩ | exact ⟨rfl, _, Eq.trans (World.drewN_drewN _ _ _) (congrArg (World.drewN _) (Nat.add_assoc _ _ _))⟩)) | (go_at_call 32; (with_reducible refine (spec_l06Same.calls k _ _ l0_0 _ _ l0_1 t117 _ ?side1 ?side2 ?side3 ?side4 A10.out).mono ?_); (case side1 => repeat (first | exact (C_below HR0_0.out Zs) | (with_reducible refine C_alloc ?_ _) | (with_reducible refine C_drewN ?_ _) | (with_reducible refine C_drew ?_))); (case side2 => exact HC0_0.out); (case side3 => repeat (first | exact (C_below HR0_1.out Zs) | (with_reducible refine C_alloc ?_ _) | (with_reducible refine C_drewN ?_ _) | (with_reducible refine C_drew ?_))); (case side4 => exact HC0_1.out); rintro e w' ⟨rfl, ⟨nd, rfl⟩⟩; (try first | exact ⟨rfl, _, World.drewN_drewN _ _ _⟩ | exact ⟨rfl, _, Eq.trans (World.drewN_drewN _ _ _) (congrArg (World.drewN _) (Nat.add_assoc _ _ _))⟩))))
     go_meet
     case rel => exact ⟨_, (t117), (by first | rfl | (simp; done) | (simp [*]; done)), H', ⟨by first | omega | exact Nat.le_refl _⟩, ⟨Zk⟩, ⟨Zs⟩⟩
    replace c9 := Bool.eq_false_iff.mpr c9
    subst c9
    have H1 : (spec_ConfOk.j0 k true l0_0 l0_1 l0_2) = some r := by rw [if_neg (show ¬ (false = true) by decide)] at H; exact H
    clear H
    have H := H1
    clear H1
    have H' := Zh H
    clear H
    have hcz12_0 : w3.cell? ⟨gb113, 0, none⟩ = some (.slice A0_0 l0_0.length c0_0) := (blk_cell BK113.out 0).trans rfl
    have hcz12_1 : w3.cell? ⟨gb113, 1, none⟩ = some (.slice A0_1 l0_1.length c0_1) := (blk_cell BK113.out 1).trans rfl
    have hcz12_2 : w3.cell? ⟨gb113, 2, none⟩ = some (.slice A0_2 l0_2.length c0_2) := (blk_cell BK113.out 2).trans rfl
    have hfz12_0 := Zn BK113.out 0
    have hfz12_1 := Zn BK113.out 1
    have hfz12_2 := Zn BK113.out 2
    go_wp2_with (first | (go_at_call 30; (with_reducible refine (spec_l06Set.calls k _ _ l0_0 true _ ?side1 ?side2 A4.out).mono ?_); (case side1 => repeat (first | exact (C_below HR0_0.out HB.out) | (with_reducible refine C_alloc ?_ _) | (with_reducible refine C_drewN ?_ _) | (with_reducible refine C_drew ?_))); (case side2 => exact HC0_0.out); rintro e w' ⟨rfl, ⟨nd, rfl⟩⟩; (try first | exact ⟨rfl, _, World.drewN_drewN _ _ _⟩ | exact ⟨rfl, _, Eq.trans (World.drewN_drewN _ _ _) (congrArg (World.drewN _) (Nat.add_assoc _ _ _))⟩)) | (go_at_call 31; (with_reducible refine (spec_l06Ids.calls k _ _ l0_1 true _ ?side1 ?side2 A6.out).mono ?_); (case side1 => repeat (first | exact (C_below HR0_1.out Zs) | (with_reducible refine C_alloc ?_ _) | (with_reducible refine C_drewN ?_ _) | (with_reducible refine C_drew ?_))); (case side2 => exact HC0_1.out); rintro e w' ⟨rfl, ⟨nd, rfl⟩⟩; (try first | exact ⟨rfl, _, World.drewN_drewN _ _ _⟩ | exact ⟨rfl, _, Eq.trans (World.drewN_drewN _ _ _) (congrArg (World.drewN _) (Nat.add_assoc _ _ _))⟩)) | (go_at_call 31; (with_reducible refine (spec_l06Ids.calls k _ _ l0_2 false _ ?side1 ?side2 A8.out).mono ?_); (case side1 => repeat (first | exact (C_below HR0_2.out Zs) | (with_reducible refine C_alloc ?_ _) | (with_reducible refine C_drewN ?_ _) | (with_reducible refine C_drew ?_))); (case side2 => exact HC0_2.out); rintro e w' ⟨rfl, ⟨nd, rfl⟩⟩; (try first | exact ⟨rfl, _, World.drewN_drewN _ _ _⟩ | exact ⟨rfl, _, Eq.trans (World.drewN_drewN _ _ _) (congrArg (World.drewN _) (Nat.add_assoc _ _ _))⟩)))
    repeat (go_quiet (first | (go_at_call 30; (with_reducible refine (spec_l06Set.calls k _ _ l0_0 true _ ?side1 ?side2 A4.out).mono ?_); (case side1 => repeat (first | exact (C_below HR0_0.out HB.out) | (with_reducible refine C_alloc ?_ _) | (with_reducible refine C_drewN ?_ _) | (with_reducible refine C_drew ?_))); (case side2 => exact HC0_0.out); rintro e w' ⟨rfl, ⟨nd, rfl⟩⟩; (try first | exact ⟨rfl, _, World.drewN_drewN _ _ _⟩ | exact ⟨rfl, _, Eq.trans (World.drewN_drewN _ _ _) (congrArg (World.drewN _) (Nat.add_assoc _ _ _))⟩)) | (go_at_call 31; (with_reducible refine (spec_l06Ids.calls k _ _ l0_1 true _ ?side1 ?side2 A6.out).mono ?_); (case side1 => repeat (first | exact (C_below HR0_1.out Zs) | (with_reducible refine C_alloc ?_ _) | (with_reducible refine C_drewN ?_ _) | (with_reducible refine C_drew ?_))); (case side2 => exact HC0_1.out); rintro e w' ⟨rfl, ⟨nd, rfl⟩⟩; (try first | exact ⟨rfl, _, World.drewN_drewN _ _ _⟩ | exact ⟨rfl, _, Eq.trans (World.drewN_drewN _ _ _) (congrArg (World.drewN _) (Nat.add_assoc _ _ _))⟩)) | (go_at_call 31; (with_reducible refine (spec_l06Ids.calls k _ _ l0_2 false _ ?side1 ?side2 A8.out).mono ?_); (case side1 => repeat (first | exact (C_below HR0_2.out Zs) | (with_reducible refine C_alloc ?_ _) | (with_reducible refine C_drewN ?_ _) | (with_reducible refine C_drew ?_))); (case side2 => exact HC0_2.out); rintro e w' ⟨rfl, ⟨nd, rfl⟩⟩; (try first | exact ⟨rfl, _, World.drewN_drewN _ _ _⟩ | exact ⟨rfl, _, Eq.trans (World.drewN_drewN _ _ _) (congrArg (World.drewN _) (Nat.add_assoc _ _ _))⟩))); try go_wp2_with (first | (go_at_call 30; (with_reducible refine (spec_l06Set.calls k _ _ l0_0 true _ ?side1 ?side2 A4.out).mono ?_); (case side1 => repeat (first | exact (C_below HR0_0.out HB.out) | (with_reducible refine C_alloc ?_ _) | (with_reducible refine C_drewN ?_ _) | (with_reducible refine C_drew ?_))); (case side2 => exact HC0_0.out); rintro e w' ⟨rfl, ⟨nd, rfl⟩⟩; (try first | exact ⟨rfl, _, World.drewN_drewN _ _ _⟩ | exact ⟨rfl, _, Eq.trans (World.drewN_drewN _ _ _) (congrArg (World.drewN _) (Nat.add_assoc _ _ _))⟩)) | (go_at_call 31; (with_reducible refine (spec_l06Ids.calls k _ _ l0_1 true _ ?side1 ?side2 A6.out).mono ?_); (case side1 => repeat (first | exact (C_below HR0_1.out Zs) | (with_reducible refine C_alloc ?_ _) | (with_reducible refine C_drewN ?_ _) | (with_reducible refine C_drew ?_))); (case side2 => exact HC0_1.out); rintro e w' ⟨rfl, ⟨nd, rfl⟩⟩; (try first | exact ⟨rfl, _, World.drewN_drewN _ _ _⟩ | exact ⟨rfl, _, Eq.trans (World.drewN_drewN _ _ _) (congrArg (World.drewN _) (Nat.add_assoc _ _ _))⟩)) | (go_at_call 31; (with_reducible refine (spec_l06Ids.calls k _ _ l0_2 false _ ?side1 ?side2 A8.out).mono ?_); (case side1 => repeat (first | exact (C_below HR0_2.out Zs) | (with_reducible refine C_alloc ?_ _) | (with_reducible refine C_drewN ?_ _) | (with_reducible refine C_drew ?_))); (case side2 => exact HC0_2.out); rintro e w' ⟨rfl, ⟨nd, rfl⟩⟩; (try first | exact ⟨rfl, _, World.drewN_drewN _ _ _⟩ | exact ⟨rfl, _, Eq.trans (World.drewN_drewN _ _ _) (congrArg (World.drewN _) (Nat.add_assoc _ _ _))⟩))))
    go_meet
    case rel => exact ⟨_, (true), (by first | rfl | (simp; done) | (simp [*]; done)), H', ⟨by first | omega | exact Nat.le_refl _⟩, ⟨Zk⟩, ⟨Zs⟩⟩
   replace c7 := Bool.eq_false_iff.mpr c7
   subst c7
   have H1 : (spec_ConfOk.j0 k true l0_0 l0_1 l0_2) = some r := by rw [if_neg (show ¬ (false = true) by decide)] at H; exact H
   clear H
   have H := H1
   clear H1
   have H' := Zh H
   clear H
   have hcz13_0 : w3.cell? ⟨gb113, 0, none⟩ = some (.slice A0_0 l0_0.length c0_0) := (blk_cell BK113.out 0).trans rfl
   have hcz13_1 : w3.cell? ⟨gb113, 1, none⟩ = some (.slice A0_1 l0_1.length c0_1) := (blk_cell BK113.out 1).trans rfl
   have hcz13_2 : w3.cell? ⟨gb113, 2, none⟩ = some (.slice A0_2 l0_2.length c0_2) := (blk_cell BK113.out 2).trans rfl
   have hfz13_0 := Zn BK113.out 0
   have hfz13_1 := Zn BK113.out 1
   have hfz13_2 := Zn BK113.out 2
   go_wp2_with (first | (go_at_call 30; (with_reducible refine (spec_l06Set.calls k _ _ l0_0 true _ ?side1 ?side2 A4.out).mono ?_); (case side1 => repeat (first | exact (C_below HR0_0.out HB.out) | (with_reducible refine C_alloc ?_ _) | (with_reducible refine C_drewN ?_ _) | (with_reducible refine C_drew ?_))); (case side2 => exact HC0_0.out); rintro e w' ⟨rfl, ⟨nd, rfl⟩⟩; (try first | exact ⟨rfl, _, World.drewN_drewN _ _ _⟩ | exact ⟨rfl, _, Eq.trans (World.drewN_drewN _ _ _) (congrArg (World.drewN _) (Nat.add_assoc _ _ _))⟩)) | (go_at_call 31; (with_reducible refine (spec_l06Ids.calls k _ _ l0_1 false _ ?side1 ?side2 A6.out).mono ?_); (case side1 => repeat (first | exact (C_below HR0_1.out Zs) | (with_reducible refine C_alloc ?_ _) | (with_reducible refine C_drewN ?_ _) | (with_reducible refine C_drew ?_))); (case side2 => exact HC0_1.out); rintro e w' ⟨rfl, ⟨nd, rfl⟩⟩; (try first | exact ⟨rfl, _, World.drewN_drewN _ _ _⟩ | exact ⟨rfl, _, Eq.trans (World.drewN_drewN _ _ _) (congrArg (World.drewN _) (Nat.add_assoc _ _ _))⟩)))
   repeat (go_quiet (first | (go_at_call 30; (with_reducible refine (spec_l06Set.calls k _ _ l0_0 true _ ?side1 ?side2 A4.out).mono ?_); (case side1 => repeat (first | exact (C_below HR0_0.out HB.out) | (with_reducible refine C_alloc ?_ _) | (with_reducible refine C_drewN ?_ _) | (with_reducible refine C_drew ?_))); (case side2 => exact HC0_0.out); rintro e w' ⟨rfl, ⟨nd, rfl⟩⟩; (try first | exact ⟨rfl, _, World.drewN_drewN _ _ _⟩ | exact ⟨rfl, _, Eq.trans (World.drewN_drewN _ _ _) (congrArg (World.drewN _) (Nat.add_assoc _ _ _))⟩)) | (go_at_call 31; (with_reducible refine (spec_l06Ids.calls k _ _ l0_1 false _ ?side1 ?side2 A6.out).mono ?_); (case side1 => repeat (first | exact (C_below HR0_1.out Zs) | (with_reducible refine C_alloc ?_ _) | (with_reducible refine C_drewN ?_ _) | (with_reducible refine C_drew ?_))); (case side2 => exact HC0_1.out); rintro e w' ⟨rfl, ⟨nd, rfl⟩⟩; (try first | exact ⟨rfl, _, World.drewN_drewN _ _ _⟩ | exact ⟨rfl, _, Eq.trans (World.drewN_drewN _ _ _) (congrArg (World.drewN _) (Nat.add_assoc _ _ _))⟩))); try go_wp2_with (first | (go_at_call 30; (with_reducible refine (spec_l06Set.calls k _ _ l0_0 true _ ?side1 ?side2 A4.out).mono ?_); (case side1 => repeat (first | exact (C_below HR0_0.out HB.out) | (with_reducible refine C_alloc ?_ _) | (with_reducible refine C_drewN ?_ _) | (with_reducible refine C_drew ?_))); (case side2 => exact HC0_0.out); rintro e w' ⟨rfl, ⟨nd, rfl⟩⟩; (try first | exact ⟨rfl, _, World.drewN_drewN _ _ _⟩ | exact ⟨rfl, _, Eq.trans (World.drewN_drewN _ _ _) (congrArg (World.drewN _) (Nat.add_assoc _ _ _))⟩)) | (go_at_call 31; (with_reducible refine (spec_l06Ids.calls k _ _ l0_1 false _ ?side1 ?side2 A6.out).mono ?_); (case side1 => repeat (first | exact (C_below HR0_1.out Zs) | (with_reducible refine C_alloc ?_ _) | (with_reducible refine C_drewN ?_ _) | (with_reducible refine C_drew ?_))); (case side2 => exact HC0_1.out); rintro e w' ⟨rfl, ⟨nd, rfl⟩⟩; (try first | exact ⟨rfl, _, World.drewN_drewN _ _ _⟩ | exact ⟨rfl, _, Eq.trans (World.drewN_drewN _ _ _) (congrArg (World.drewN _) (Nat.add_assoc _ _ _))⟩))))
   go_meet
   case rel => exact ⟨_, (true), (by first | rfl | (simp; done) | (simp [*]; done)), H', ⟨by first | omega | exact Nat.le_refl _⟩, ⟨Zk⟩, ⟨Zs⟩⟩
  replace c5 := Bool.eq_false_iff.mpr c5
  subst c5
  have H1 : (spec_ConfOk.j0 k true l0_0 l0_1 l0_2) = some r := by rw [if_neg (show ¬ (false = true) by decide)] at H; exact H
  clear H
  have H := H1
  clear H1
  have H' := Zh H
  clear H
  have hcz14_0 : w3.cell? ⟨gb113, 0, none⟩ = some (.slice A0_0 l0_0.length c0_0) := (blk_cell BK113.out 0).trans rfl
  have hcz14_1 : w3.cell? ⟨gb113, 1, none⟩ = some (.slice A0_1 l0_1.length c0_1) := (blk_cell BK113.out 1).trans rfl
  have hcz14_2 : w3.cell? ⟨gb113, 2, none⟩ = some (.slice A0_2 l0_2.length c0_2) := (blk_cell BK113.out 2).trans rfl
  have hfz14_0 := Zn BK113.out 0
  have hfz14_1 := Zn BK113.out 1
  have hfz14_2 := Zn BK113.out 2
  go_wp2_with (first | (go_at_call 30; (with_reducible refine (spec_l06Set.calls k _ _ l0_0 false _ ?side1 ?side2 A4.out).mono ?_); (case side1 => repeat (first | exact (C_below HR0_0.out HB.out) | (with_reducible refine C_alloc ?_ _) | (with_reducible refine C_drewN ?_ _) | (with_reducible refine C_drew ?_))); (case side2 => exact HC0_0.out); rintro e w' ⟨rfl, ⟨nd, rfl⟩⟩; (try first | exact ⟨rfl, _, World.drewN_drewN _ _ _⟩ | exact ⟨rfl, _, Eq.trans (World.drewN_drewN _ _ _) (congrArg (World.drewN _) (Nat.add_assoc _ _ _))⟩)))
  repeat (go_quiet (first | (go_at_call 30; (with_reducible refine (spec_l06Set.calls k _ _ l0_0 false _ ?side1 ?side2 A4.out).mono ?_); (case side1 => repeat (first | exact (C_below HR0_0.out HB.out) | (with_reducible refine C_alloc ?_ _) | (with_reducible refine C_drewN ?_ _) | (with_reducible refine C_drew ?_))); (case side2 => exact HC0_0.out); rintro e w' ⟨rfl, ⟨nd, rfl⟩⟩; (try first | exact ⟨rfl, _, World.drewN_drewN _ _ _⟩ | exact ⟨rfl, _, Eq.trans (World.drewN_drewN _ _ _) (congrArg (World.drewN _) (Nat.add_assoc _ _ _))⟩))); try go_wp2_with (first | (go_at_call 30; (with_reducible refine (spec_l06Set.calls k _ _ l0_0 false _ ?side1 ?side2 A4.out).mono ?_); (case side1 => repeat (first | exact (C_below HR0_0.out HB.out) | (with_reducible refine C_alloc ?_ _) | (with_reducible refine C_drewN ?_ _) | (with_reducible refine C_drew ?_))); (case side2 => exact HC0_0.out); rintro e w' ⟨rfl, ⟨nd, rfl⟩⟩; (try first | exact ⟨rfl, _, World.drewN_drewN _ _ _⟩ | exact ⟨rfl, _, Eq.trans (World.drewN_drewN _ _ _) (congrArg (World.drewN _) (Nat.add_assoc _ _ _))⟩))))
  go_meet
  case rel => exact ⟨_, (true), (by first | rfl | (simp; done) | (simp [*]; done)), H', ⟨by first | omega | exact Nat.le_refl _⟩, ⟨Zk⟩, ⟨Zs⟩⟩
 case rest =>
  clear HC2
  try clear p2
  try clear c5
  try clear c7
  try clear c9
  try clear hcz11_0
  try clear hcz11_1
  try clear hcz11_2
  try clear hcz12_0
  try clear hcz12_1
  try clear hcz12_2
  try clear hcz13_0
  try clear hcz13_1
  try clear hcz13_2
  try clear hcz14_0
  try clear hcz14_1
  try clear hcz14_2
  try clear hfz11_0
  try clear hfz11_1
  try clear hfz11_2
  try clear hfz12_0
  try clear hfz12_1
  try clear hfz12_2
  try clear hfz13_0
  try clear hfz13_1
  try clear hfz13_2
  try clear hfz14_0
  try clear hfz14_1
  try clear hfz14_2
  obtain ⟨kq, x26_1, rfl, HA, HJ1, BK113, HB⟩ := hcut
  cases kq with
  | zero => exact absurd HA.out (by simp [spec_ConfOk.j0])
  | succ kj1 =>
   have H := HA.out
   clear HA
   simp only [spec_ConfOk.j0] at H
   by_cases c15 : x26_1 = true
   ·
    subst c15
    have H1 : (some false) = some r := by rw [if_pos rfl] at H; exact H
    clear H
    have H := H1
    clear H1
    obtain rfl := Option.some.inj H
    go_wp2
    repeat (go_quiet (fail); try go_wp2)
    go_ret
    exact ⟨ZE, Zs⟩
   replace c15 := Bool.eq_false_iff.mpr c15
   subst c15
   have H1 : (spec_ConfOk.l0 kj1 0 l0_0 l0_1 l0_2) = some r := by rw [if_neg (show ¬ (false = true) by decide)] at H; exact H
   clear H
   have H := H1
   clear H1
   have H' := Zh H
   clear H
   go_wp2
   repeat (go_quiet (fail); try go_wp2)
   go_loopg [3] kj1 (fun kq v3 w' => ∃ (x3_2 : Int), v3 = .int .i64 x3_2 ∧ Aside0 (spec_ConfOk.l0 kq x3_2 l0_0 l0_1 l0_2 = some r) ∧ Aside0 (kq ≤ kj1) ∧ Aside0 (w'.heap[gb113]? = some (.cells #[(.slice A0_0 l0_0.length c0_0), (.slice A0_1 l0_1.length c0_1), (.slice A0_2 l0_2.length c0_2)] 27 (0, 0))) ∧ Aside0 (Below w.heap.size w w'))
   case atStart => exact ⟨(0), (by first | rfl | (simp; done) | (simp [*]; done)), H', ⟨Nat.le_refl _⟩, ⟨Zk⟩, ⟨Zs⟩⟩
   case round =>
    clear H'
    try clear c1
    try clear p2
    try clear c5
    try clear c7
    try clear c9
    try clear c15
    try clear hcz11_0
    try clear hcz11_1
    try clear hcz11_2
    try clear hcz12_0
    try clear hcz12_1
    try clear hcz12_2
    try clear hcz13_0
    try clear hcz13_1
    try clear hcz13_2
    try clear hcz14_0
    try clear hcz14_1
    try clear hcz14_2
    try clear hfz11_0
    try clear hfz11_1
    try clear hfz11_2
    try clear hfz12_0
    try clear hfz12_1
    try clear hfz12_2
    try clear hfz13_0
    try clear hfz13_1
    try clear hfz13_2
    try clear hfz14_0
    try clear hfz14_1
    try clear hfz14_2
    try clear p2
    obtain ⟨x3_2, rfl, HA, HK2, BK113, HB⟩ := hrel
    cases gk with
    | zero => exact absurd HA.out (by simp [spec_ConfOk.l0])
    | succ k2 =>
     have H := HA.out
     clear HA
     simp only [spec_ConfOk.l0] at H
     by_cases c16 : x3_2 < (l0_2.length : Int)
     ·
      rw [if_pos c16] at H
      have c16b0 : decide (x3_2 < (l0_2.length : Int)) = true := decide_eq_true c16
      clear c16
      by_cases c17 : 0 ≤ x3_2
      ·
       rw [if_pos c17] at H
       have c17b0 : decide (0 ≤ x3_2) = true := decide_eq_true c17
       clear c17
       replace H := Option.bind_eq_some_iff.mp H
       obtain ⟨t119, A180, H⟩ := H
       replace H : (if t119 = true then (some false) else ((spec_l01Has.f k2 l0_1 (rd l0_2 x3_2)).bind fun t121 => (if t121 = true then (some false) else (spec_ConfOk.l0 k2 (wrap64 (x3_2 + 1)) l0_0 l0_1 l0_2)))) = some r := H
       have A18 := Zh A180
       clear A180
       by_cases c19 : t119 = true
       ·
        subst c19
        have H1 : (some false) = some r := by rw [if_pos rfl] at H; exact H
        clear H
        have H := H1
        clear H1
        obtain rfl := Option.some.inj H
        have hcz20_0 : wr.cell? ⟨gb113, 0, none⟩ = some (.slice A0_0 l0_0.length c0_0) := (blk_cell BK113.out 0).trans rfl
        have hcz20_1 : wr.cell? ⟨gb113, 1, none⟩ = some (.slice A0_1 l0_1.length c0_1) := (blk_cell BK113.out 1).trans rfl
        have hcz20_2 : wr.cell? ⟨gb113, 2, none⟩ = some (.slice A0_2 l0_2.length c0_2) := (blk_cell BK113.out 2).trans rfl
        have hfz20_0 := Zn BK113.out 0
        have hfz20_1 := Zn BK113.out 1
        have hfz20_2 := Zn BK113.out 2
        have p118 : 0 ≤ (x3_2 : Int) := Zo
        have q118 : x3_2 < (l0_2.length : Int) := Zo
        obtain ⟨ad118, e118, hx118_0⟩ := Kd.at_int HR0_2.out x3_2 p118 q118
        cases e118
        replace hx118_0 := Zc HB.out hx118_0
        replace p118 := eq_true p118
        replace q118 := eq_true q118
        go_wp2_with (first | (go_at_call 33; (with_reducible refine (spec_l01Has.calls k2 _ _ l0_0 (rd l0_2 x3_2) true _ ?side1 ?side2 A18.out).mono ?_); (case side1 => repeat (first | exact (C_below HR0_0.out HB.out) | (with_reducible refine C_alloc ?_ _) | (with_reducible refine C_drewN ?_ _) | (with_reducible refine C_drew ?_))); (case side2 => exact HC0_0.out); rintro e w' ⟨rfl, ⟨nd, rfl⟩⟩; (try first | exact ⟨rfl, _, World.drewN_drewN _ _ _⟩ | exact ⟨rfl, _, Eq.trans (World.drewN_drewN _ _ _) (congrArg (World.drewN _) (Nat.add_assoc _ _ _))⟩)))
        repeat (go_quiet (first | (go_at_call 33; (with_reducible refine (spec_l01Has.calls k2 _ _ l0_0 (rd l0_2 x3_2) true _ ?side1 ?side2 A18.out).mono ?_); (case side1 => repeat (first | exact (C_below HR0_0.out HB.out) | (with_reducible refine C_alloc ?_ _) | (with_reducible refine C_drewN ?_ _) | (with_reducible refine C_drew ?_))); (case side2 => exact HC0_0.out); rintro e w' ⟨rfl, ⟨nd, rfl⟩⟩; (try first | exact ⟨rfl, _, World.drewN_drewN _ _ _⟩ | exact ⟨rfl, _, Eq.trans (World.drewN_drewN _ _ _) (congrArg (World.drewN _) (Nat.add_assoc _ _ _))⟩))); try go_wp2_with (first | (go_at_call 33; (with_reducible refine (spec_l01Has.calls k2 _ _ l0_0 (rd l0_2 x3_2) true _ ?side1 ?side2 A18.out).mono ?_); (case side1 => repeat (first | exact (C_below HR0_0.out HB.out) | (with_reducible refine C_alloc ?_ _) | (with_reducible refine C_drewN ?_ _) | (with_reducible refine C_drew ?_))); (case side2 => exact HC0_0.out); rintro e w' ⟨rfl, ⟨nd, rfl⟩⟩; (try first | exact ⟨rfl, _, World.drewN_drewN _ _ _⟩ | exact ⟨rfl, _, Eq.trans (World.drewN_drewN _ _ _) (congrArg (World.drewN _) (Nat.add_assoc _ _ _))⟩))))
        go_ret
        exact ⟨ZE, Zs⟩
       replace c19 := Bool.eq_false_iff.mpr c19
       subst c19
       have H1 : ((spec_l01Has.f k2 l0_1 (rd l0_2 x3_2)).bind fun t121 => (if t121 = true then (some false) else (spec_ConfOk.l0 k2 (wrap64 (x3_2 + 1)) l0_0 l0_1 l0_2))) = some r := by rw [if_neg (show ¬ (false = true) by decide)] at H; exact H
       clear H
       have H := H1
       clear H1
       replace H := Option.bind_eq_some_iff.mp H
       obtain ⟨t121, A210, H⟩ := H
       replace H : (if t121 = true then (some false) else (spec_ConfOk.l0 k2 (wrap64 (x3_2 + 1)) l0_0 l0_1 l0_2)) = some r := H
       have A21 := Zh A210
       clear A210
       by_cases c22 : t121 = true
       ·
        subst c22
        have H1 : (some false) = some r := by rw [if_pos rfl] at H; exact H
        clear H
        have H := H1
        clear H1
        obtain rfl := Option.some.inj H
        have hcz23_0 : wr.cell? ⟨gb113, 0, none⟩ = some (.slice A0_0 l0_0.length c0_0) := (blk_cell BK113.out 0).trans rfl
        have hcz23_1 : wr.cell? ⟨gb113, 1, none⟩ = some (.slice A0_1 l0_1.length c0_1) := (blk_cell BK113.out 1).trans rfl
        have hcz23_2 : wr.cell? ⟨gb113, 2, none⟩ = some (.slice A0_2 l0_2.length c0_2) := (blk_cell BK113.out 2).trans rfl
        have hfz23_0 := Zn BK113.out 0
        have hfz23_1 := Zn BK113.out 1
        have hfz23_2 := Zn BK113.out 2
        have p118 : 0 ≤ (x3_2 : Int) := Zo
        have q118 : x3_2 < (l0_2.length : Int) := Zo
        obtain ⟨ad118, e118, hx118_0⟩ := Kd.at_int HR0_2.out x3_2 p118 q118
        cases e118
        replace hx118_0 := Zc HB.out hx118_0
        replace p118 := eq_true p118
        replace q118 := eq_true q118
        go_wp2_with (first | (go_at_call 33; (with_reducible refine (spec_l01Has.calls k2 _ _ l0_0 (rd l0_2 x3_2) false _ ?side1 ?side2 A18.out).mono ?_); (case side1 => repeat (first | exact (C_below HR0_0.out HB.out) | (with_reducible refine C_alloc ?_ _) | (with_reducible refine C_drewN ?_ _) | (with_reducible refine C_drew ?_))); (case side2 => exact HC0_0.out); rintro e w' ⟨rfl, ⟨nd, rfl⟩⟩; (try first | exact ⟨rfl, _, World.drewN_drewN _ _ _⟩ | exact ⟨rfl, _, Eq.trans (World.drewN_drewN _ _ _) (congrArg (World.drewN _) (Nat.add_assoc _ _ _))⟩); have p120 : 0 ≤ (x3_2 : Int) := Zo; have q120 : x3_2 < (l0_2.length : Int) := Zo; obtain ⟨ad120, e120, hx120_0⟩ := Kd.at_int HR0_2.out x3_2 p120 q120; obtain rfl : ad118 = ad120 := (by injection e120); replace hx120_0 := Zc HB.out hx120_0; replace p120 := eq_true p120; replace q120 := eq_true q120) | (go_at_call 33; (with_reducible refine (spec_l01Has.calls k2 _ _ l0_1 (rd l0_2 x3_2) true _ ?side1 ?side2 A21.out).mono ?_); (case side1 => repeat (first | exact (C_below HR0_1.out Zs) | (with_reducible refine C_alloc ?_ _) | (with_reducible refine C_drewN ?_ _) | (with_reducible refine C_drew ?_))); (case side2 => exact HC0_1.out); rintro e w' ⟨rfl, ⟨nd, rfl⟩⟩; (try first | exact ⟨rfl, _, World.drewN_drewN _ _ _⟩ | exact ⟨rfl, _, Eq.trans (World.drewN_drewN _ _ _) (congrArg (World.drewN _) (Nat.add_assoc _ _ _))⟩)))
        repeat (go_quiet (first | (go_at_call 33; (with_reducible refine (spec_l01Has.calls k2 _ _ l0_0 (rd l0_2 x3_2) false _ ?side1 ?side2 A18.out).mono ?_); (case side1 => repeat (first | exact (C_below HR0_0.out HB.out) | (with_reducible refine C_alloc ?_ _) | (with_reducible refine C_drewN ?_ _) | (with_reducible refine C_drew ?_))); (case side2 => exact HC0_0.out); rintro e w' ⟨rfl, ⟨nd, rfl⟩⟩; (try first | exact ⟨rfl, _, World.drewN_drewN _ _ _⟩ | exact ⟨rfl, _, Eq.trans (World.drewN_drewN _ _ _) (congrArg (World.drewN _) (Nat.add_assoc _ _ _))⟩); have p120 : 0 ≤ (x3_2 : Int) := Zo; have q120 : x3_2 < (l0_2.length : Int) := Zo; obtain ⟨ad120, e120, hx120_0⟩ := Kd.at_int HR0_2.out x3_2 p120 q120; obtain rfl : ad118 = ad120 := (by injection e120); replace hx120_0 := Zc HB.out hx120_0; replace p120 := eq_true p120; replace q120 := eq_true q120) | (go_at_call 33; (with_reducible refine (spec_l01Has.calls k2 _ _ l0_1 (rd l0_2 x3_2) true _ ?side1 ?side2 A21.out).mono ?_); (case side1 => repeat (first | exact (C_below HR0_1.out Zs) | (with_reducible refine C_alloc ?_ _) | (with_reducible refine C_drewN ?_ _) | (with_reducible refine C_drew ?_))); (case side2 => exact HC0_1.out); rintro e w' ⟨rfl, ⟨nd, rfl⟩⟩; (try first | exact ⟨rfl, _, World.drewN_drewN _ _ _⟩ | exact ⟨rfl, _, Eq.trans (World.drewN_drewN _ _ _) (congrArg (World.drewN _) (Nat.add_assoc _ _ _))⟩))); try go_wp2_with (first | (go_at_call 33; (with_reducible refine (spec_l01Has.calls k2 _ _ l0_0 (rd l0_2 x3_2) false _ ?side1 ?side2 A18.out).mono ?_); (case side1 => repeat (first | exact (C_below HR0_0.out HB.out) | (with_reducible refine C_alloc ?_ _) | (with_reducible refine C_drewN ?_ _) | (with_reducible refine C_drew ?_))); (case side2 => exact HC0_0.out); rintro e w' ⟨rfl, ⟨nd, rfl⟩⟩; (try first | exact ⟨rfl, _, World.drewN_drewN _ _ _⟩ | exact ⟨rfl, _, Eq.trans (World.drewN_drewN _ _ _) (congrArg (World.drewN _) (Nat.add_assoc _ _ _))⟩); have p120 : 0 ≤ (x3_2 : Int) := Zo; have q120 : x3_2 < (l0_2.length : Int) := Zo; obtain ⟨ad120, e120, hx120_0⟩ := Kd.at_int HR0_2.out x3_2 p120 q120; obtain rfl : ad118 = ad120 := (by injection e120); replace hx120_0 := Zc HB.out hx120_0; replace p120 := eq_true p120; replace q120 := eq_true q120) | (go_at_call 33; (with_reducible refine (spec_l01Has.calls k2 _ _ l0_1 (rd l0_2 x3_2) true _ ?side1 ?side2 A21.out).mono ?_); (case side1 => repeat (first | exact (C_below HR0_1.out Zs) | (with_reducible refine C_alloc ?_ _) | (with_reducible refine C_drewN ?_ _) | (with_reducible refine C_drew ?_))); (case side2 => exact HC0_1.out); rintro e w' ⟨rfl, ⟨nd, rfl⟩⟩; (try first | exact ⟨rfl, _, World.drewN_drewN _ _ _⟩ | exact ⟨rfl, _, Eq.trans (World.drewN_drewN _ _ _) (congrArg (World.drewN _) (Nat.add_assoc _ _ _))⟩))))
        go_ret
        exact ⟨ZE, Zs⟩
       replace c22 := Bool.eq_false_iff.mpr c22
       subst c22
       have H1 : (spec_ConfOk.l0 k2 (wrap64 (x3_2 + 1)) l0_0 l0_1 l0_2) = some r := by rw [if_neg (show ¬ (false = true) by decide)] at H; exact H
       clear H
       have H := H1
       clear H1
       have H' := Zh H
       clear H
       have hcz24_0 : wr.cell? ⟨gb113, 0, none⟩ = some (.slice A0_0 l0_0.length c0_0) := (blk_cell BK113.out 0).trans rfl
       have hcz24_1 : wr.cell? ⟨gb113, 1, none⟩ = some (.slice A0_1 l0_1.length c0_1) := (blk_cell BK113.out 1).trans rfl
       have hcz24_2 : wr.cell? ⟨gb113, 2, none⟩ = some (.slice A0_2 l0_2.length c0_2) := (blk_cell BK113.out 2).trans rfl
       have hfz24_0 := Zn BK113.out 0
       have hfz24_1 := Zn BK113.out 1
       have hfz24_2 := Zn BK113.out 2
       have p118 : 0 ≤ (x3_2 : Int) := Zo
       have q118 : x3_2 < (l0_2.length : Int) := Zo
       obtain ⟨ad118, e118, hx118_0⟩ := Kd.at_int HR0_2.out x3_2 p118 q118
       cases e118
       replace hx118_0 := Zc HB.out hx118_0
       replace p118 := eq_true p118
       replace q118 := eq_true q118
       go_wp2_with (first | (go_at_call 33; (with_reducible refine (spec_l01Has.calls k2 _ _ l0_0 (rd l0_2 x3_2) false _ ?side1 ?side2 A18.out).mono ?_); (case side1 => repeat (first | exact (C_below HR0_0.out HB.out) | (with_reducible refine C_alloc ?_ _) | (with_reducible refine C_drewN ?_ _) | (with_reducible refine C_drew ?_))); (case side2 => exact HC0_0.out); rintro e w' ⟨rfl, ⟨nd, rfl⟩⟩; (try first | exact ⟨rfl, _, World.drewN_drewN _ _ _⟩ | exact ⟨rfl, _, Eq.trans (World.drewN_drewN _ _ _) (congrArg (World.drewN _) (Nat.add_assoc _ _ _))⟩); have p120 : 0 ≤ (x3_2 : Int) := Zo; have q120 : x3_2 < (l0_2.length : Int) := Zo; obtain ⟨ad120, e120, hx120_0⟩ := Kd.at_int HR0_2.out x3_2 p120 q120; obtain rfl : ad118 = ad120 := (by injection e120); replace hx120_0 := Zc HB.out hx120_0; replace p120 := eq_true p120; replace q120 := eq_true q120) | (go_at_call 33; (with_reducible refine (spec_l01Has.calls k2 _ _ l0_1 (rd l0_2 x3_2) false _ ?side1 ?side2 A21.out).mono ?_); (case side1 => repeat (first | exact (C_below HR0_1.out Zs) | (with_reducible refine C_alloc ?_ _) | (with_reducible refine C_drewN ?_ _) | (with_reducible refine C_drew ?_))); (case side2 => exact HC0_1.out); rintro e w' ⟨rfl, ⟨nd, rfl⟩⟩; (try first | exact ⟨rfl, _, World.drewN_drewN _ _ _⟩ | exact ⟨rfl, _, Eq.trans (World.drewN_drewN _ _ _) (congrArg (World.drewN _) (Nat.add_assoc _ _ _))⟩)))
       repeat (go_quiet (first | (go_at_call 33; (with_reducible refine (spec_l01Has.calls k2 _ _ l0_0 (rd l0_2 x3_2) false _ ?side1 ?side2 A18.out).mono ?_); (case side1 => repeat (first | exact (C_below HR0_0.out HB.out) | (with_reducible refine C_alloc ?_ _) | (with_reducible refine C_drewN ?_ _) | (with_reducible refine C_drew ?_))); (case side2 => exact HC0_0.out); rintro e w' ⟨rfl, ⟨nd, rfl⟩⟩; (try first | exact ⟨rfl, _, World.drewN_drewN _ _ _⟩ | exact ⟨rfl, _, Eq.trans (World.drewN_drewN _ _ _) (congrArg (World.drewN _) (Nat.add_assoc _ _ _))⟩); have p120 : 0 ≤ (x3_2 : Int) := Zo; have q120 : x3_2 < (l0_2.length : Int) := Zo; obtain ⟨ad120, e120, hx120_0⟩ := Kd.at_int HR0_2.out x3_2 p120 q120; obtain rfl : ad118 = ad120 := (by injection e120); replace hx120_0 := Zc HB.out hx120_0; replace p120 := eq_true p120; replace q120 := eq_true q120) | (go_at_call 33; (with_reducible refine (spec_l01Has.calls k2 _ _ l0_1 (rd l0_2 x3_2) false _ ?side1 ?side2 A21.out).mono ?_); (case side1 => repeat (first | exact (C_below HR0_1.out Zs) | (with_reducible refine C_alloc ?_ _) | (with_reducible refine C_drewN ?_ _) | (with_reducible refine C_drew ?_))); (case side2 => exact HC0_1.out); rintro e w' ⟨rfl, ⟨nd, rfl⟩⟩; (try first | exact ⟨rfl, _, World.drewN_drewN _ _ _⟩ | exact ⟨rfl, _, Eq.trans (World.drewN_drewN _ _ _) (congrArg (World.drewN _) (Nat.add_assoc _ _ _))⟩))); try go_wp2_with (first | (go_at_call 33; (with_reducible refine (spec_l01Has.calls k2 _ _ l0_0 (rd l0_2 x3_2) false _ ?side1 ?side2 A18.out).mono ?_); (case side1 => repeat (first | exact (C_below HR0_0.out HB.out) | (with_reducible refine C_alloc ?_ _) | (with_reducible refine C_drewN ?_ _) | (with_reducible refine C_drew ?_))); (case side2 => exact HC0_0.out); rintro e w' ⟨rfl, ⟨nd, rfl⟩⟩; (try first | exact ⟨rfl, _, World.drewN_drewN _ _ _⟩ | exact ⟨rfl, _, Eq.trans (World.drewN_drewN _ _ _) (congrArg (World.drewN _) (Nat.add_assoc _ _ _))⟩); have p120 : 0 ≤ (x3_2 : Int) := Zo; have q120 : x3_2 < (l0_2.length : Int) := Zo; obtain ⟨ad120, e120, hx120_0⟩ := Kd.at_int HR0_2.out x3_2 p120 q120; obtain rfl : ad118 = ad120 := (by injection e120); replace hx120_0 := Zc HB.out hx120_0; replace p120 := eq_true p120; replace q120 := eq_true q120) | (go_at_call 33; (with_reducible refine (spec_l01Has.calls k2 _ _ l0_1 (rd l0_2 x3_2) false _ ?side1 ?side2 A21.out).mono ?_); (case side1 => repeat (first | exact (C_below HR0_1.out Zs) | (with_reducible refine C_alloc ?_ _) | (with_reducible refine C_drewN ?_ _) | (with_reducible refine C_drew ?_))); (case side2 => exact HC0_1.out); rintro e w' ⟨rfl, ⟨nd, rfl⟩⟩; (try first | exact ⟨rfl, _, World.drewN_drewN _ _ _⟩ | exact ⟨rfl, _, Eq.trans (World.drewN_drewN _ _ _) (congrArg (World.drewN _) (Nat.add_assoc _ _ _))⟩))))
       go_roundg k2
       case measure => have := HJ1.out; have := HK2.out; omega
       case rel => exact ⟨(wrap64 (x3_2 + 1)), (by first | rfl | (simp; done) | (simp [*]; done)), H', ⟨by have := HJ1.out; have := HK2.out; omega⟩, ⟨Zk⟩, ⟨Zs⟩⟩
      rw [if_neg c17] at H
      exact absurd H (by simp)
     rw [if_neg c16] at H
     have c16b0 : decide (x3_2 < (l0_2.length : Int)) = false := decide_eq_false c16
     clear c16
     obtain rfl := Option.some.inj H
     have hcz25_0 : wr.cell? ⟨gb113, 0, none⟩ = some (.slice A0_0 l0_0.length c0_0) := (blk_cell BK113.out 0).trans rfl
     have hcz25_1 : wr.cell? ⟨gb113, 1, none⟩ = some (.slice A0_1 l0_1.length c0_1) := (blk_cell BK113.out 1).trans rfl
     have hcz25_2 : wr.cell? ⟨gb113, 2, none⟩ = some (.slice A0_2 l0_2.length c0_2) := (blk_cell BK113.out 2).trans rfl
     have hfz25_0 := Zn BK113.out 0
     have hfz25_1 := Zn BK113.out 1
     have hfz25_2 := Zn BK113.out 2
     go_wp2
     repeat (go_quiet (fail); try go_wp2)
     go_ret
     exact ⟨ZE, Zs⟩

/-! ### spec_Begin: function 21 -/
def spec_Begin.j0 : Nat → List Int → Bool → List Int → List Int → List Int → Option (List Int × List Int × List Int × Bool)
 | 0, _, _, _, _, _ => none
 | k + 1, x1, x25, x440000, x440001, x440002 => if x25 = true then ((spec_l06Copy.f k x440000 x440001 x440002).bind fun bt444 => (some (bt444.1, bt444.2.1, bt444.2.2, false))) else ((spec_l01Copy.f k x440000).bind fun t453 => ((spec_l01Copy.f k x1).bind fun t456 => ((spec_l06Less.f k x440002 x1).bind fun t459 => (some (t453, t456, t459, true)))))
def spec_Begin.f (k : Nat) (l0_0 : List Int) (l0_1 : List Int) (l0_2 : List Int) (l1 : List Int) : Option (List Int × List Int × List Int × Bool) := (spec_ConfOk.f k l0_0 l0_1 l0_2).bind fun t441 => (if t441 = true then (if (l0_1.length : Int) > 0 then (spec_Begin.j0 k l1 true l0_0 l0_1 l0_2) else ((spec_l06Set.f k l1).bind fun t442 => (if t442 = true then ((spec_l06Same.f k l0_0 l1).bind fun t443 => (spec_Begin.j0 k l1 t443 l0_0 l0_1 l0_2)) else (spec_Begin.j0 k l1 true l0_0 l0_1 l0_2)))) else (spec_Begin.j0 k l1 true l0_0 l0_1 l0_2))
theorem spec_Begin.mono_l : ∀ k, (∀ y0 y1 y2 y3 y4, LeO (spec_Begin.j0 k y0 y1 y2 y3 y4) (spec_Begin.j0 (k + 1) y0 y1 y2 y3 y4))
 | 0 => fun _ _ _ _ _ r h => by simp [spec_Begin.j0] at h
 | k + 1 => by
  have ih0 := spec_Begin.mono_l k
  ·
   intro y0 y1 y2 y3 y4
   unfold spec_Begin.j0
   repeat' first
   | (with_reducible exact ih0 _ _ _ _ _)
   | (with_reducible exact spec_ConfOk.mono _ _ _ _)
   | (with_reducible exact spec_l01Copy.mono _ _)
   | (with_reducible exact spec_l06Copy.mono _ _ _ _)
   | (with_reducible exact spec_l06Less.mono _ _ _)
   | (with_reducible exact spec_l06Same.mono _ _ _)
   | (with_reducible exact spec_l06Set.mono _ _)
   | (with_reducible exact LeO.refl _)
   | (with_reducible exact LeO.none _)
   | (with_reducible refine LeO.ite ?_ ?_)
   | (with_reducible refine LeO.bind ?_ (fun _ => ?_))
   | exact ih0 _ _ _ _ _
   | exact spec_ConfOk.mono _ _ _ _
   | exact spec_l01Copy.mono _ _
   | exact spec_l06Copy.mono _ _ _ _
   | exact spec_l06Less.mono _ _ _
   | exact spec_l06Same.mono _ _ _
   | exact spec_l06Set.mono _ _
   | exact LeO.none _
   | refine LeO.ite ?_ ?_
   | refine LeO.bind ?_ (fun _ => ?_)
theorem spec_Begin.mono : ∀ a0 a1 a2 a3 k, LeO (spec_Begin.f k a0 a1 a2 a3) (spec_Begin.f (k + 1) a0 a1 a2 a3) := by
 intro a0 a1 a2 a3 k
 have ih0 := spec_Begin.mono_l k
 unfold spec_Begin.f
 repeat' first
   | (with_reducible exact ih0 _ _ _ _ _)
   | (with_reducible exact spec_ConfOk.mono _ _ _ _)
   | (with_reducible exact spec_l01Copy.mono _ _)
   | (with_reducible exact spec_l06Copy.mono _ _ _ _)
   | (with_reducible exact spec_l06Less.mono _ _ _)
   | (with_reducible exact spec_l06Same.mono _ _ _)
   | (with_reducible exact spec_l06Set.mono _ _)
   | (with_reducible exact LeO.refl _)
   | (with_reducible exact LeO.none _)
   | (with_reducible refine LeO.ite ?_ ?_)
   | (with_reducible refine LeO.bind ?_ (fun _ => ?_))
   | exact ih0 _ _ _ _ _
   | exact spec_ConfOk.mono _ _ _ _
   | exact spec_l01Copy.mono _ _
   | exact spec_l06Copy.mono _ _ _ _
   | exact spec_l06Less.mono _ _ _
   | exact spec_l06Same.mono _ _ _
   | exact spec_l06Set.mono _ _
   | exact LeO.none _
   | refine LeO.ite ?_ ?_
   | refine LeO.bind ?_ (fun _ => ?_)
def spec_Begin.T3 : Bool × List (List Nat × List Nat) := (true, [([], []), ([0], [0]), ([1], [1]), ([], []), ([3, 2], [3]), ([], []), ([5], [5]), ([], []), ([6, 7, 4], [6, 7]), ([2, 4, 8], [2, 4, 8]), ([9, 8, 0, 1, 2, 3, 4, 5, 6, 7, 8, 9], [9]), ([10, 0, 1, 2, 3, 4, 5, 6, 7, 8, 9, 10], [])])
def spec_Begin.B3 : List Nat := [0, 1, 3, 0, 15, 0, 32, 0, 255, 511, 1023, 2047]
theorem spec_Begin.tab3 : rtab .any (opsOf Try.f21 3) = spec_Begin.T3 := by kernel_rfl
theorem spec_Begin.bits3 : waitsOk spec_Begin.T3.2 spec_Begin.B3 = true := by kernel_rfl
set_option maxHeartbeats 8000000 in
set_option maxRecDepth 100000 in
theorem spec_Begin.calls (k : Nat) (A0_0 : Option Addr) (c0_0 : Nat) (l0_0 : List Int) (A0_1 : Option Addr) (c0_1 : Nat) (l0_1 : List Int) (A0_2 : Option Addr) (c0_2 : Nat) (l0_2 : List Int) (A1 : Option Addr) (c1 : Nat) (l1 : List Int) (r1 : List Int) (r2 : List Int) (r3 : List Int) (r4 : Bool) (w : World) (hr0_0 : Kd.C (Kd.int .i64) w A0_0 l0_0.length l0_0) (hc0_0 : l0_0.length ≤ c0_0) (hr0_1 : Kd.C (Kd.int .i64) w A0_1 l0_1.length l0_1) (hc0_1 : l0_1.length ≤ c0_1) (hr0_2 : Kd.C (Kd.int .i64) w A0_2 l0_2.length l0_2) (hc0_2 : l0_2.length ≤ c0_2) (hr1 : Kd.C (Kd.int .i64) w A1 l1.length l1) (hc1 : l1.length ≤ c1) (h : spec_Begin.f k l0_0 l0_1 l0_2 l1 = some (r1, r2, r3, r4)) :
  Calls Try.prog 21 #[.agg #[.slice A0_0 l0_0.length c0_0, .slice A0_1 l0_1.length c0_1, .slice A0_2 l0_2.length c0_2], .slice A1 l1.length c1] w fun e w' => ∃ v0_ v1_ v2_ : Value, e = .returned (.tuple #[.agg #[v0_, v1_, v2_], .bool r4]) ∧ Kd.R (Kd.int .i64) 3 w' w.heap.size (fun k_ => some k_ ≠ (v1_ : Value).ownBlock ∧ some k_ ≠ (v2_ : Value).ownBlock) v0_ r1 ∧ Kd.R (Kd.int .i64) 3 w' w.heap.size (fun k_ => some k_ ≠ (v0_ : Value).ownBlock ∧ some k_ ≠ (v2_ : Value).ownBlock) v1_ r2 ∧ Kd.R (Kd.int .i64) 3 w' w.heap.size (fun k_ => some k_ ≠ (v0_ : Value).ownBlock ∧ some k_ ≠ (v1_ : Value).ownBlock) v2_ r3 ∧ Below w.heap.size w w' := by
 have hu27 := Try.underlying27
 have HR0_0 := Zh hr0_0
 have HC0_0 := Zh hc0_0
 clear hr0_0 hc0_0
 have HR0_1 := Zh hr0_1
 have HC0_1 := Zh hc0_1
 clear hr0_1 hc0_1
 have HR0_2 := Zh hr0_2
 have HC0_2 := Zh hc0_2
 clear hr0_2 hc0_2
 have HR1 := Zh hr1
 have HC1 := Zh hc1
 clear hr1 hc1
 have HB := Zh (Below.refl w.heap.size w)
 have H : ((spec_ConfOk.f k l0_0 l0_1 l0_2).bind fun t441 => (if t441 = true then (if (l0_1.length : Int) > 0 then (spec_Begin.j0 k l1 true l0_0 l0_1 l0_2) else ((spec_l06Set.f k l1).bind fun t442 => (if t442 = true then ((spec_l06Same.f k l0_0 l1).bind fun t443 => (spec_Begin.j0 k l1 t443 l0_0 l0_1 l0_2)) else (spec_Begin.j0 k l1 true l0_0 l0_1 l0_2)))) else (spec_Begin.j0 k l1 true l0_0 l0_1 l0_2))) = some (r1, r2, r3, r4) := h
 clear h
 have HC3 := Zh H
 clear H
 go_enter Try.func21, Try.ntmps21
 go_upto_region 1 with (first | ((with_reducible refine gate_dst (N := 2) rfl ?_); (try (refine gate_guard (by rfl) ?_; dsimp only)); refine box_event ?hg (N := 2) ?hd (cs := #[.slice A0_0 l0_0.length c0_0, .slice A0_1 l0_1.length c0_1, .slice A0_2 l0_2.length c0_2]) (t := 27) ?hr ?_; (case hd => rfl); (case hg => rfl); (case hr => first | (go_simp; done) | (go_simp; rfl)); intro gb439 hg w4 hbox hb; have BK439 := Zh (hbox); have GW439 := Zh ((by rw [hg]; exact (below_size Zs) : w.heap.size ≤ gb439)); have GE439 := Zh ((by rw [hg]; exact (below_size Zs) : w.heap.size ≤ gb439)); replace HB := Zh (Zl Zs hb); clear hb hbox hg) | ((with_reducible refine gate_dst (N := 4) rfl ?_); (try (refine gate_guard (by rfl) ?_; dsimp only)); refine box_event ?hg (N := 4) ?hd (cs := #[.slice none 0 0, .slice none 0 0, .slice none 0 0]) (t := 27) ?hr ?_; (case hd => rfl); (case hg => rfl); (case hr => first | (go_simp; done) | (go_simp; rfl)); intro gb440 hg w5 hbox hb; have BK440 := Zh (hbox); have GW440 := Zh ((by rw [hg]; exact (below_size Zs) : w.heap.size ≤ gb440)); have GE440 := Zh ((by rw [hg]; exact (below_size Zs) : w.heap.size ≤ gb440)); replace HB := Zh (Zl Zs hb); have NB439_440 := Zh ((by rw [hg]; exact Nat.ne_of_lt (blk_lt (g := gb439) (o := .cells #[.slice A0_0 l0_0.length c0_0, .slice A0_1 l0_1.length c0_1, .slice A0_2 l0_2.length c0_2] 27 (0, 0)) Zk) : gb439 ≠ gb440)); have NB440_439 := Zh ((by rw [hg]; exact Nat.ne_of_gt (blk_lt (g := gb439) (o := .cells #[.slice A0_0 l0_0.length c0_0, .slice A0_1 l0_1.length c0_1, .slice A0_2 l0_2.length c0_2] 27 (0, 0)) Zk) : gb440 ≠ gb439)); replace BK439 := Zh (Zm (g := gb439) (o := .cells #[.slice A0_0 l0_0.length c0_0, .slice A0_1 l0_1.length c0_1, .slice A0_2 l0_2.length c0_2] 27 (0, 0)) Zk hb); clear hb hbox hg))
 (try simp only [Act.put, List.setIfInBounds_toArray, List.set_cons_zero, List.set_cons_succ])
 go_cut [25] (fun v25 wc => ∃ (kq : Nat) (x25_2 : Bool), v25 = .bool x25_2 ∧ Aside0 (spec_Begin.j0 kq l1 x25_2 l0_0 l0_1 l0_2 = some (r1, r2, r3, r4)) ∧ Aside0 (kq ≤ k) ∧ Aside0 (wc.heap[gb439]? = some (.cells #[(.slice A0_0 l0_0.length c0_0), (.slice A0_1 l0_1.length c0_1), (.slice A0_2 l0_2.length c0_2)] 27 (0, 0))) ∧ Aside0 (wc.heap[gb440]? = some (.cells #[(.slice none 0 0), (.slice none 0 0), (.slice none 0 0)] 27 (0, 0))) ∧ Aside0 (Below w.heap.size w wc))
 case first =>
  have H := HC3.out
  clear HC3
  replace H := Option.bind_eq_some_iff.mp H
  obtain ⟨t441, A60, H⟩ := H
  replace H : (if t441 = true then (if (l0_1.length : Int) > 0 then (spec_Begin.j0 k l1 true l0_0 l0_1 l0_2) else ((spec_l06Set.f k l1).bind fun t442 => (if t442 = true then ((spec_l06Same.f k l0_0 l1).bind fun t443 => (spec_Begin.j0 k l1 t443 l0_0 l0_1 l0_2)) else (spec_Begin.j0 k l1 true l0_0 l0_1 l0_2)))) else (spec_Begin.j0 k l1 true l0_0 l0_1 l0_2)) = some (r1, r2, r3, r4) := H
  have A6 := Zh A60
  clear A60
  by_cases c7 : t441 = true
  ·
   subst c7
   have H1 : (if (l0_1.length : Int) > 0 then (spec_Begin.j0 k l1 true l0_0 l0_1 l0_2) else ((spec_l06Set.f k l1).bind fun t442 => (if t442 = true then ((spec_l06Same.f k l0_0 l1).bind fun t443 => (spec_Begin.j0 k l1 t443 l0_0 l0_1 l0_2)) else (spec_Begin.j0 k l1 true l0_0 l0_1 l0_2)))) = some (r1, r2, r3, r4) := by rw [if_pos rfl] at H; exact H
   clear H
   have H := H1
   clear H1
   by_cases c8 : (l0_1.length : Int) > 0
   ·
    rw [if_pos c8] at H
    have c8b0 : decide (0 < (l0_1.length : Int)) = true := decide_eq_true c8
    have c8b1 : decide (0 < l0_1.length) = true := decide_eq_true (by omega)
    clear c8
    (first | rw [c8b0] | (simp only [i64_w, i32_w]; rw [c8b0]) | skip)
    have H' := Zh H
    clear H
    have hnb9 := NB439_440.out
    have hnc9 := NB440_439.out
    have hcz10_0 : w5.cell? ⟨gb439, 0, none⟩ = some (.slice A0_0 l0_0.length c0_0) := (blk_cell BK439.out 0).trans rfl
    have hcz10_1 : w5.cell? ⟨gb439, 1, none⟩ = some (.slice A0_1 l0_1.length c0_1) := (blk_cell BK439.out 1).trans rfl
    have hcz10_2 : w5.cell? ⟨gb439, 2, none⟩ = some (.slice A0_2 l0_2.length c0_2) := (blk_cell BK439.out 2).trans rfl
    have hfz10_0 := Zn BK439.out 0
    have hfz10_1 := Zn BK439.out 1
    have hfz10_2 := Zn BK439.out 2
    go_wp2_with (first | ((with_reducible refine gate_callee (f := 9) rfl ?_); refine ZG (some 7) Try.func9 #[.agg #[.slice A0_0 l0_0.length c0_0, .slice A0_1 l0_1.length c0_1, .slice A0_2 l0_2.length c0_2]] rfl ?_; (with_reducible refine (spec_ConfOk.calls k _ _ l0_0 _ _ l0_1 _ _ l0_2 true _ ?side1 ?side2 ?side3 ?side4 ?side5 ?side6 A6.out).mono ?_); (case side1 => repeat (first | exact (C_below HR0_0.out HB.out) | (with_reducible refine C_alloc ?_ _) | (with_reducible refine C_drewN ?_ _) | (with_reducible refine C_drew ?_))); (case side2 => exact HC0_0.out); (case side3 => repeat (first | exact (C_below HR0_1.out HB.out) | (with_reducible refine C_alloc ?_ _) | (with_reducible refine C_drewN ?_ _) | (with_reducible refine C_drew ?_))); (case side4 => exact HC0_1.out); (case side5 => repeat (first | exact (C_below HR0_2.out HB.out) | (with_reducible refine C_alloc ?_ _) | (with_reducible refine C_drewN ?_ _) | (with_reducible refine C_drew ?_))); (case side6 => exact HC0_2.out); rintro e w11 ⟨rfl, hb⟩; refine ⟨_, rfl, ?_⟩; replace BK439 := Zh (Zm (g := gb439) (o := .cells #[.slice A0_0 l0_0.length c0_0, .slice A0_1 l0_1.length c0_1, .slice A0_2 l0_2.length c0_2] 27 (0, 0)) Zk hb); replace BK440 := Zh (Zm (g := gb440) (o := .cells #[.slice none 0 0, .slice none 0 0, .slice none 0 0] 27 (0, 0)) Zk hb); replace HB := Zh (Zl Zs hb); (try clear hb); (try clear hb2); (try clear hk); (try clear hi); have hcz12_0 : w11.cell? ⟨gb439, 0, none⟩ = some (.slice A0_0 l0_0.length c0_0) := (blk_cell BK439.out 0).trans rfl; have hcz12_1 : w11.cell? ⟨gb439, 1, none⟩ = some (.slice A0_1 l0_1.length c0_1) := (blk_cell BK439.out 1).trans rfl; have hcz12_2 : w11.cell? ⟨gb439, 2, none⟩ = some (.slice A0_2 l0_2.length c0_2) := (blk_cell BK439.out 2).trans rfl; have hfz12_0 := Zn BK439.out 0; have hfz12_1 := Zn BK439.out 1; have hfz12_2 := Zn BK439.out 2))
    go_meet
    case rel => exact ⟨_, (true), (by first | rfl | (simp; done) | (simp [*]; done)), H', ⟨by first | omega | exact Nat.le_refl _⟩, ⟨Zk⟩, ⟨Zk⟩, ⟨Zs⟩⟩
   rw [if_neg c8] at H
   have c8b0 : decide (0 < (l0_1.length : Int)) = false := decide_eq_false c8
   have c8b1 : decide (0 < l0_1.length) = false := decide_eq_false (by omega)
   clear c8
   (first | rw [c8b0] | (simp only [i64_w, i32_w]; rw [c8b0]) | skip)
   replace H := Option.bind_eq_some_iff.mp H
   obtain ⟨t442, A130, H⟩ := H
   replace H : (if t442 = true then ((spec_l06Same.f k l0_0 l1).bind fun t443 => (spec_Begin.j0 k l1 t443 l0_0 l0_1 l0_2)) else (spec_Begin.j0 k l1 true l0_0 l0_1 l0_2)) = some (r1, r2, r3, r4) := H
   have A13 := Zh A130
   clear A130
   by_cases c14 : t442 = true
   ·
    subst c14
    have H1 : ((spec_l06Same.f k l0_0 l1).bind fun t443 => (spec_Begin.j0 k l1 t443 l0_0 l0_1 l0_2)) = some (r1, r2, r3, r4) := by rw [if_pos rfl] at H; exact H
    clear H
    have H := H1
    clear H1
    replace H := Option.bind_eq_some_iff.mp H
    obtain ⟨t443, A150, H⟩ := H
    replace H : (spec_Begin.j0 k l1 t443 l0_0 l0_1 l0_2) = some (r1, r2, r3, r4) := H
    have A15 := Zh A150
    clear A150
    have H' := Zh H
    clear H
    have hnb16 := NB439_440.out
    have hnc16 := NB440_439.out
    have hcz17_0 : w5.cell? ⟨gb439, 0, none⟩ = some (.slice A0_0 l0_0.length c0_0) := (blk_cell BK439.out 0).trans rfl
    have hcz17_1 : w5.cell? ⟨gb439, 1, none⟩ = some (.slice A0_1 l0_1.length c0_1) := (blk_cell BK439.out 1).trans rfl
    have hcz17_2 : w5.cell? ⟨gb439, 2, none⟩ = some (.slice A0_2 l0_2.length c0_2) := (blk_cell BK439.out 2).trans rfl
    have hfz17_0 := Zn BK439.out 0
    have hfz17_1 := Zn BK439.out 1
    have hfz17_2 := Zn BK439.out 2
    go_wp2_with (first | ((with_reducible refine gate_callee (f := 9) rfl ?_); refine ZG (some 7) Try.func9 #[.agg #[.slice A0_0 l0_0.length c0_0, .slice A0_1 l0_1.length c0_1, .slice A0_2 l0_2.length c0_2]] rfl ?_; (with_reducible refine (spec_ConfOk.calls k _ _ l0_0 _ _ l0_1 _ _ l0_2 true _ ?side1 ?side2 ?side3 ?side4 ?side5 ?side6 A6.out).mono ?_); (case side1 => repeat (first | exact (C_below HR0_0.out HB.out) | (with_reducible refine C_alloc ?_ _) | (with_reducible refine C_drewN ?_ _) | (with_reducible refine C_drew ?_))); (case side2 => exact HC0_0.out); (case side3 => repeat (first | exact (C_below HR0_1.out HB.out) | (with_reducible refine C_alloc ?_ _) | (with_reducible refine C_drewN ?_ _) | (with_reducible refine C_drew ?_))); (case side4 => exact HC0_1.out); (case side5 => repeat (first | exact (C_below HR0_2.out HB.out) | (with_reducible refine C_alloc ?_ _) | (with_reducible refine C_drewN ?_ _) | (with_reducible refine C_drew ?_))); (case side6 => exact HC0_2.out); rintro e w18 ⟨rfl, hb⟩; refine ⟨_, rfl, ?_⟩; replace BK439 := Zh (Zm (g := gb439) (o := .cells #[.slice A0_0 l0_0.length c0_0, .slice A0_1 l0_1.length c0_1, .slice A0_2 l0_2.length c0_2] 27 (0, 0)) Zk hb); replace BK440 := Zh (Zm (g := gb440) (o := .cells #[.slice none 0 0, .slice none 0 0, .slice none 0 0] 27 (0, 0)) Zk hb); replace HB := Zh (Zl Zs hb); (try clear hb); (try clear hb2); (try clear hk); (try clear hi); have hcz19_0 : w18.cell? ⟨gb439, 0, none⟩ = some (.slice A0_0 l0_0.length c0_0) := (blk_cell BK439.out 0).trans rfl; have hcz19_1 : w18.cell? ⟨gb439, 1, none⟩ = some (.slice A0_1 l0_1.length c0_1) := (blk_cell BK439.out 1).trans rfl; have hcz19_2 : w18.cell? ⟨gb439, 2, none⟩ = some (.slice A0_2 l0_2.length c0_2) := (blk_cell BK439.out 2).trans rfl; have hfz19_0 := Zn BK439.out 0; have hfz19_1 := Zn BK439.out 1; have hfz19_2 := Zn BK439.out 2) | (go_at_call 30; (with_reducible refine (spec_l06Set.calls k _ _ l1 true _ ?side1 ?side2 A13.out).mono ?_); (case side1 => repeat (first | exact (C_below HR1.out HB.out) | (with_reducible refine C_alloc ?_ _) | (with_reducible refine C_drewN ?_ _) | (with_reducible refine C_drew ?_))); (case side2 => exact HC1.out); rintro e w' ⟨rfl, ⟨nd, rfl⟩⟩) | (go_at_call 32; (with_reducible refine (spec_l06Same.calls k _ _ l0_0 _ _ l1 t443 _ ?side1 ?side2 ?side3 ?side4 A15.out).mono ?_); (case side1 => repeat (first | exact (C_below HR0_0.out Zs) | (with_reducible refine C_alloc ?_ _) | (with_reducible refine C_drewN ?_ _) | (with_reducible refine C_drew ?_))); (case side2 => exact HC0_0.out); (case side3 => repeat (first | exact (C_below HR1.out Zs) | (with_reducible refine C_alloc ?_ _) | (with_reducible refine C_drewN ?_ _) | (with_reducible refine C_drew ?_))); (case side4 => exact HC1.out); rintro e w' ⟨rfl, ⟨nd, rfl⟩⟩))
    go_meet
    case rel => exact ⟨_, (t443), (by first | rfl | (simp; done) | (simp [*]; done)), H', ⟨by first | omega | exact Nat.le_refl _⟩, ⟨Zk⟩, ⟨Zk⟩, ⟨Zs⟩⟩
   replace c14 := Bool.eq_false_iff.mpr c14
   subst c14
   have H1 : (spec_Begin.j0 k l1 true l0_0 l0_1 l0_2) = some (r1, r2, r3, r4) := by rw [if_neg (show ¬ (false = true) by decide)] at H; exact H
   clear H
   have H := H1
   clear H1
   have H' := Zh H
   clear H
   have hnb20 := NB439_440.out
   have hnc20 := NB440_439.out
   have hcz21_0 : w5.cell? ⟨gb439, 0, none⟩ = some (.slice A0_0 l0_0.length c0_0) := (blk_cell BK439.out 0).trans rfl
   have hcz21_1 : w5.cell? ⟨gb439, 1, none⟩ = some (.slice A0_1 l0_1.length c0_1) := (blk_cell BK439.out 1).trans rfl
   have hcz21_2 : w5.cell? ⟨gb439, 2, none⟩ = some (.slice A0_2 l0_2.length c0_2) := (blk_cell BK439.out 2).trans rfl
   have hfz21_0 := Zn BK439.out 0
   have hfz21_1 := Zn BK439.out 1
   have hfz21_2 := Zn BK439.out 2
   go_wp2_with (first | ((with_reducible refine gate_callee (f := 9) rfl ?_); refine ZG (some 7) Try.func9 #[.agg #[.slice A0_0 l0_0.length c0_0, .slice A0_1 l0_1.length c0_1, .slice A0_2 l0_2.length c0_2]] rfl ?_; (with_reducible refine (spec_ConfOk.calls k _ _ l0_0 _ _ l0_1 _ _ l0_2 true _ ?side1 ?side2 ?side3 ?side4 ?side5 ?side6 A6.out).mono ?_); (case side1 => repeat (first | exact (C_below HR0_0.out HB.out) | (with_reducible refine C_alloc ?_ _) | (with_reducible refine C_drewN ?_ _) | (with_reducible refine C_drew ?_))); (case side2 => exact HC0_0.out); (case side3 => repeat (first | exact (C_below HR0_1.out HB.out) | (with_reducible refine C_alloc ?_ _) | (with_reducible refine C_drewN ?_ _) | (with_reducible refine C_drew ?_))); (case side4 => exact HC0_1.out); (case side5 => repeat (first | exact (C_below HR0_2.out HB.out) | (with_reducible refine C_alloc ?_ _) | (with_reducible refine C_drewN ?_ _) | (with_reducible refine C_drew ?_))); (case side6 => exact HC0_2.out); rintro e w22 ⟨rfl, hb⟩; refine ⟨_, rfl, ?_⟩; replace BK439 := Zh (Zm (g := gb439) (o := .cells #[.slice A0_0 l0_0.length c0_0, .slice A0_1 l0_1.length c0_1, .slice A0_2 l0_2.length c0_2] 27 (0, 0)) Zk hb); replace BK440 := Zh (Zm (g := gb440) (o := .cells #[.slice none 0 0, .slice none 0 0, .slice none 0 0] 27 (0, 0)) Zk hb); replace HB := Zh (Zl Zs hb); (try clear hb); (try clear hb2); (try clear hk); (try clear hi); have hcz23_0 : w22.cell? ⟨gb439, 0, none⟩ = some (.slice A0_0 l0_0.length c0_0) := (blk_cell BK439.out 0).trans rfl; have hcz23_1 : w22.cell? ⟨gb439, 1, none⟩ = some (.slice A0_1 l0_1.length c0_1) := (blk_cell BK439.out 1).trans rfl; have hcz23_2 : w22.cell? ⟨gb439, 2, none⟩ = some (.slice A0_2 l0_2.length c0_2) := (blk_cell BK439.out 2).trans rfl; have hfz23_0 := Zn BK439.out 0; have hfz23_1 := Zn BK439.out 1; have hfz23_2 := Zn BK439.out 2) | (go_at_call 30; (with_reducible refine (spec_l06Set.calls k _ _ l1 false _ ?side1 ?side2 A13.out).mono ?_); (case side1 => repeat (first | exact (C_below HR1.out HB.out) | (with_reducible refine C_alloc ?_ _) | (with_reducible refine C_drewN ?_ _) | (with_reducible refine C_drew ?_))); (case side2 => exact HC1.out); rintro e w' ⟨rfl, ⟨nd, rfl⟩⟩))
   go_meet
   case rel => exact ⟨_, (true), (by first | rfl | (simp; done) | (simp [*]; done)), H', ⟨by first | omega | exact Nat.le_refl _⟩, ⟨Zk⟩, ⟨Zk⟩, ⟨Zs⟩⟩
  replace c7 := Bool.eq_false_iff.mpr c7
  subst c7
  have H1 : (spec_Begin.j0 k l1 true l0_0 l0_1 l0_2) = some (r1, r2, r3, r4) := by rw [if_neg (show ¬ (false = true) by decide)] at H; exact H
  clear H
  have H := H1
  clear H1
  have H' := Zh H
  clear H
  have hnb24 := NB439_440.out
  have hnc24 := NB440_439.out
  have hcz25_0 : w5.cell? ⟨gb439, 0, none⟩ = some (.slice A0_0 l0_0.length c0_0) := (blk_cell BK439.out 0).trans rfl
  have hcz25_1 : w5.cell? ⟨gb439, 1, none⟩ = some (.slice A0_1 l0_1.length c0_1) := (blk_cell BK439.out 1).trans rfl
  have hcz25_2 : w5.cell? ⟨gb439, 2, none⟩ = some (.slice A0_2 l0_2.length c0_2) := (blk_cell BK439.out 2).trans rfl
  have hfz25_0 := Zn BK439.out 0
  have hfz25_1 := Zn BK439.out 1
  have hfz25_2 := Zn BK439.out 2
  go_wp2_with (first | ((with_reducible refine gate_callee (f := 9) rfl ?_); refine ZG (some 7) Try.func9 #[.agg #[.slice A0_0 l0_0.length c0_0, .slice A0_1 l0_1.length c0_1, .slice A0_2 l0_2.length c0_2]] rfl ?_; (with_reducible refine (spec_ConfOk.calls k _ _ l0_0 _ _ l0_1 _ _ l0_2 false _ ?side1 ?side2 ?side3 ?side4 ?side5 ?side6 A6.out).mono ?_); (case side1 => repeat (first | exact (C_below HR0_0.out HB.out) | (with_reducible refine C_alloc ?_ _) | (with_reducible refine C_drewN ?_ _) | (with_reducible refine C_drew ?_))); (case side2 => exact HC0_0.out); (case side3 => repeat (first | exact (C_below HR0_1.out HB.out) | (with_reducible refine C_alloc ?_ _) | (with_reducible refine C_drewN ?_ _) | (with_reducible refine C_drew ?_))); (case side4 => exact HC0_1.out); (case side5 => repeat (first | exact (C_below HR0_2.out HB.out) | (with_reducible refine C_alloc ?_ _) | (with_reducible refine C_drewN ?_ _) | (with_reducible refine C_drew ?_))); (case side6 => exact HC0_2.out); rintro e w26 ⟨rfl, hb⟩; refine ⟨_, rfl, ?_⟩; replace BK439 := Zh (Zm (g := gb439) (o := .cells #[.slice A0_0 l0_0.length c0_0, .slice A0_1 l0_1.length c0_1, .slice A0_2 l0_2.length c0_2] 27 (0, 0)) Zk hb); replace BK440 := Zh (Zm (g := gb440) (o := .cells #[.slice none 0 0, .slice none 0 0, .slice none 0 0] 27 (0, 0)) Zk hb); replace HB := Zh (Zl Zs hb); (try clear hb); (try clear hb2); (try clear hk); (try clear hi)))
  go_meet
  case rel => exact ⟨_, (true), (by first | rfl | (simp; done) | (simp [*]; done)), H', ⟨by first | omega | exact Nat.le_refl _⟩, ⟨Zk⟩, ⟨Zk⟩, ⟨Zs⟩⟩
 case rest =>
  clear HC3
  try clear c1
  try clear c2
  try clear p2
  try clear c7
  try clear c8
  try clear c8b0
  try clear c8b1
  try clear c9
  try clear c14
  try clear c16
  try clear c20
  try clear c21
  try clear c24
  try clear hcz10_0
  try clear hcz10_1
  try clear hcz10_2
  try clear hcz12_0
  try clear hcz12_1
  try clear hcz12_2
  try clear hcz17_0
  try clear hcz17_1
  try clear hcz17_2
  try clear hcz19_0
  try clear hcz19_1
  try clear hcz19_2
  try clear hcz21_0
  try clear hcz21_1
  try clear hcz21_2
  try clear hcz23_0
  try clear hcz23_1
  try clear hcz23_2
  try clear hcz25_0
  try clear hcz25_1
  try clear hcz25_2
  try clear hfz10_0
  try clear hfz10_1
  try clear hfz10_2
  try clear hfz12_0
  try clear hfz12_1
  try clear hfz12_2
  try clear hfz17_0
  try clear hfz17_1
  try clear hfz17_2
  try clear hfz19_0
  try clear hfz19_1
  try clear hfz19_2
  try clear hfz21_0
  try clear hfz21_1
  try clear hfz21_2
  try clear hfz23_0
  try clear hfz23_1
  try clear hfz23_2
  try clear hfz25_0
  try clear hfz25_1
  try clear hfz25_2
  obtain ⟨kq, x25_2, rfl, HA, HJ2, BK439, BK440, HB⟩ := hcut
  cases kq with
  | zero => exact absurd HA.out (by simp [spec_Begin.j0])
  | succ kj2 =>
   have H := HA.out
   clear HA
   simp only [spec_Begin.j0] at H
   by_cases c27 : x25_2 = true
   ·
    subst c27
    have H1 : ((spec_l06Copy.f kj2 l0_0 l0_1 l0_2).bind fun bt444 => (some (bt444.1, bt444.2.1, bt444.2.2, false))) = some (r1, r2, r3, r4) := by rw [if_pos rfl] at H; exact H
    clear H
    have H := H1
    clear H1
    replace H := Option.bind_eq_some_iff.mp H
    obtain ⟨⟨t444, t447, t450⟩, A280, H⟩ := H
    replace H : (some (t444, t447, t450, false)) = some (r1, r2, r3, r4) := H
    have A28 := Zh A280
    clear A280
    simp only [Option.some.injEq, Prod.mk.injEq] at H
    obtain ⟨rfl, rfl, rfl, rfl⟩ := H
    have hnb29 := NB439_440.out
    have hnc29 := NB440_439.out
    have hcz30_0 : wc.cell? ⟨gb439, 0, none⟩ = some (.slice A0_0 l0_0.length c0_0) := (blk_cell BK439.out 0).trans rfl
    have hcz30_1 : wc.cell? ⟨gb439, 1, none⟩ = some (.slice A0_1 l0_1.length c0_1) := (blk_cell BK439.out 1).trans rfl
    have hcz30_2 : wc.cell? ⟨gb439, 2, none⟩ = some (.slice A0_2 l0_2.length c0_2) := (blk_cell BK439.out 2).trans rfl
    have hfz30_0 := Zn BK439.out 0
    have hfz30_1 := Zn BK439.out 1
    have hfz30_2 := Zn BK439.out 2
    go_wp2_with (first | ((with_reducible refine gate_callee (f := 37) rfl ?_); refine ZG (some 27) Try.func37 #[.agg #[.slice A0_0 l0_0.length c0_0, .slice A0_1 l0_1.length c0_1, .slice A0_2 l0_2.length c0_2]] rfl ?_; (with_reducible refine (spec_l06Copy.calls kj2 _ _ l0_0 _ _ l0_1 _ _ l0_2 t444 t447 t450 _ ?side1 ?side2 ?side3 ?side4 ?side5 ?side6 A28.out).mono ?_); (case side1 => repeat (first | exact (C_below HR0_0.out HB.out) | (with_reducible refine C_alloc ?_ _) | (with_reducible refine C_drewN ?_ _) | (with_reducible refine C_drew ?_))); (case side2 => exact HC0_0.out); (case side3 => repeat (first | exact (C_below HR0_1.out HB.out) | (with_reducible refine C_alloc ?_ _) | (with_reducible refine C_drewN ?_ _) | (with_reducible refine C_drew ?_))); (case side4 => exact HC0_1.out); (case side5 => repeat (first | exact (C_below HR0_2.out HB.out) | (with_reducible refine C_alloc ?_ _) | (with_reducible refine C_drewN ?_ _) | (with_reducible refine C_drew ?_))); (case side6 => exact HC0_2.out); rintro e w31 ⟨v445, v448, v451, rfl, ho0, ho1, ho2, hb⟩; refine ⟨_, rfl, ?_⟩; have HO446 := Zh (R_lower ho0 (below_size Zs)); have HO449 := Zh (R_lower ho1 (below_size Zs)); have HO452 := Zh (R_lower ho2 (below_size Zs)); replace BK439 := Zh (Zm (g := gb439) (o := .cells #[.slice A0_0 l0_0.length c0_0, .slice A0_1 l0_1.length c0_1, .slice A0_2 l0_2.length c0_2] 27 (0, 0)) Zk hb); replace BK440 := Zh (Zm (g := gb440) (o := .cells #[.slice none 0 0, .slice none 0 0, .slice none 0 0] 27 (0, 0)) Zk hb); replace HB := Zh (Zl Zs hb); (try clear hb); (try clear hb2); (try clear hk); (try clear hi); (try clear ho0); (try clear ho1); (try clear ho2); obtain ⟨Ao32, co32, eo32⟩ := R_slice HO446.out; subst eo32; have hcz33_0 : w31.cell? ⟨gb440, 0, none⟩ = some (.slice none 0 0) := (blk_cell BK440.out 0).trans rfl; have hcz33_1 : w31.cell? ⟨gb440, 1, none⟩ = some (.slice none 0 0) := (blk_cell BK440.out 1).trans rfl; have hcz33_2 : w31.cell? ⟨gb440, 2, none⟩ = some (.slice none 0 0) := (blk_cell BK440.out 2).trans rfl; have hfz33_0 := Zn BK440.out 0; have hfz33_1 := Zn BK440.out 1; have hfz33_2 := Zn BK440.out 2; obtain ⟨Ao34, co34, eo34⟩ := R_slice HO449.out; subst eo34; obtain ⟨Ao35, co35, eo35⟩ := R_slice HO452.out; subst eo35))
    refine bodyPost_ret (results_ct rfl _ _ gb440 27 #[.slice Ao32 t444.length co32, .slice Ao34 t447.length co34, .slice Ao35 t450.length co35] (0, 0) _ rfl (by (with_reducible repeat (first | refine blk_drewN ?_ _ | refine blk_drew ?_ | refine blk_alloc ?_ _)); refine blk_put (cs := #[.slice Ao32 t444.length co32, .slice Ao34 t447.length co34, .slice none 0 0]) ?_ 2 _ rfl; (with_reducible repeat (first | refine blk_drewN ?_ _ | refine blk_drew ?_ | refine blk_alloc ?_ _)); refine blk_put (cs := #[.slice Ao32 t444.length co32, .slice none 0 0, .slice none 0 0]) ?_ 1 _ rfl; (with_reducible repeat (first | refine blk_drewN ?_ _ | refine blk_drew ?_ | refine blk_alloc ?_ _)); refine blk_put (cs := #[.slice none 0 0, .slice none 0 0, .slice none 0 0]) ?_ 0 _ rfl; (with_reducible repeat (first | refine blk_drewN ?_ _ | refine blk_drew ?_ | refine blk_alloc ?_ _)); exact BK440.out) Try.underlying27 rfl (by kernel_rfl)) rfl ?_
    exact ⟨_, _, _, ZE, ZR (R_mono (R_far (p := ⟨gb440, 2, none⟩) (R_far (p := ⟨gb440, 1, none⟩) (R_far (p := ⟨gb440, 0, none⟩) (R_types HO446.out BK440.out (by decide)) (fun _ hk => hk.2) (.slice Ao32 t444.length co32)) (fun _ hk => hk.2) (.slice Ao34 t447.length co34)) (fun _ hk => hk.2) (.slice Ao35 t450.length co35)) (fun _ hk => ⟨hk.1.1, hk.1.2⟩)), ZR (R_mono (R_far (p := ⟨gb440, 2, none⟩) (R_far (p := ⟨gb440, 1, none⟩) (R_far (p := ⟨gb440, 0, none⟩) (R_types HO449.out BK440.out (by decide)) (fun _ hk => hk.2) (.slice Ao32 t444.length co32)) (fun _ hk => hk.2) (.slice Ao34 t447.length co34)) (fun _ hk => hk.2) (.slice Ao35 t450.length co35)) (fun _ hk => ⟨hk.1.1, hk.1.2⟩)), ZR (R_mono (R_far (p := ⟨gb440, 2, none⟩) (R_far (p := ⟨gb440, 1, none⟩) (R_far (p := ⟨gb440, 0, none⟩) (R_types HO452.out BK440.out (by decide)) (fun _ hk => hk.2) (.slice Ao32 t444.length co32)) (fun _ hk => hk.2) (.slice Ao34 t447.length co34)) (fun _ hk => hk.2) (.slice Ao35 t450.length co35)) (fun _ hk => ⟨hk.1.1, hk.1.2⟩)), Zs⟩
   replace c27 := Bool.eq_false_iff.mpr c27
   subst c27
   have H1 : ((spec_l01Copy.f kj2 l0_0).bind fun t453 => ((spec_l01Copy.f kj2 l1).bind fun t456 => ((spec_l06Less.f kj2 l0_2 l1).bind fun t459 => (some (t453, t456, t459, true))))) = some (r1, r2, r3, r4) := by rw [if_neg (show ¬ (false = true) by decide)] at H; exact H
   clear H
   have H := H1
   clear H1
   replace H := Option.bind_eq_some_iff.mp H
   obtain ⟨t453, A360, H⟩ := H
   replace H : ((spec_l01Copy.f kj2 l1).bind fun t456 => ((spec_l06Less.f kj2 l0_2 l1).bind fun t459 => (some (t453, t456, t459, true)))) = some (r1, r2, r3, r4) := H
   have A36 := Zh A360
   clear A360
   replace H := Option.bind_eq_some_iff.mp H
   obtain ⟨t456, A370, H⟩ := H
   replace H : ((spec_l06Less.f kj2 l0_2 l1).bind fun t459 => (some (t453, t456, t459, true))) = some (r1, r2, r3, r4) := H
   have A37 := Zh A370
   clear A370
   replace H := Option.bind_eq_some_iff.mp H
   obtain ⟨t459, A380, H⟩ := H
   replace H : (some (t453, t456, t459, true)) = some (r1, r2, r3, r4) := H
   have A38 := Zh A380
   clear A380
   simp only [Option.some.injEq, Prod.mk.injEq] at H
   obtain ⟨rfl, rfl, rfl, rfl⟩ := H
   try go_wp2
   replace BK439 := Zh (blk_drew BK439.out)
   replace BK440 := Zh (blk_drew BK440.out)
   replace HB := Zh (below_drew1 HB.out)
   refine start_ (n := 12) (S := fun w' => w'.cell? ⟨gb439, 0, none⟩ = some (.slice A0_0 l0_0.length c0_0) ∧ w'.cell? ⟨gb439, 1, none⟩ = some (.slice A0_1 l0_1.length c0_1) ∧ w'.cell? ⟨gb439, 2, none⟩ = some (.slice A0_2 l0_2.length c0_2)) (ds := []) #[false, false, false, false, false, false, false, false, false, false, false, false] (by kernel_rfl) rfl rfl ⟨(blk_cell BK439.out 0).trans rfl, (blk_cell BK439.out 1).trans rfl, (blk_cell BK439.out 2).trans rfl⟩ (fun hHeld => ?_); refine with_tabW spec_Begin.tab3 spec_Begin.bits3 (fun HT_ HW_ => ?_)
   generalize wc.drew = w39 at BK439 BK440 HB hHeld ⊢
   refine pure_ (i := 0) (N := some 28) (v := ?_) (a' := ?_) #[true, false, false, false, false, false, false, false, false, false, false, false] rfl rfl (any_of HT_.out (by kernel_rfl)) (fun _ _ _ h => h) (Or.inl ⟨by rfl, ?_⟩) ?_ ?_
   rotate_left
   ·
    intro w'
    go_simp
    with_reducible rfl
   rotate_left
   ·
    simp only [Act.put, List.setIfInBounds_toArray, List.set_cons_zero, List.set_cons_succ, i64_w, i32_w]
    rfl
   refine pure_ (i := 3) (N := some 31) (v := ?_) (a' := ?_) #[true, false, false, true, false, false, false, false, false, false, false, false] rfl rfl (any_of HT_.out (by kernel_rfl)) (fun _ _ _ h => h) (Or.inl ⟨by rfl, ?_⟩) ?_ ?_
   rotate_left
   ·
    intro w'
    go_simp
    with_reducible rfl
   rotate_left
   ·
    simp only [Act.put, List.setIfInBounds_toArray, List.set_cons_zero, List.set_cons_succ, i64_w, i32_w]
    rfl
   refine pure_ (i := 5) (N := some 33) (v := ?_) (a' := ?_) #[true, false, false, true, false, true, false, false, false, false, false, false] rfl rfl (any_of HT_.out (by kernel_rfl)) (fun _ _ _ h => h) (Or.inl ⟨by rfl, ?_⟩) ?_ ?_
   rotate_left
   ·
    intro w'
    go_simp
    with_reducible rfl
   rotate_left
   ·
    simp only [Act.put, List.setIfInBounds_toArray, List.set_cons_zero, List.set_cons_succ, i64_w, i32_w]
    rfl
   refine pure_ (i := 7) (N := some 35) (v := ?_) (a' := ?_) #[true, false, false, true, false, true, false, true, false, false, false, false] rfl rfl (any_of HT_.out (by kernel_rfl)) (fun _ _ _ h => h) (Or.inl ⟨by rfl, ?_⟩) ?_ ?_
   rotate_left
   ·
    intro w'
    go_simp
    with_reducible rfl
   rotate_left
   ·
    simp only [Act.put, List.setIfInBounds_toArray, List.set_cons_zero, List.set_cons_succ, i64_w, i32_w]
    rfl
   refine take_ (i := 1) (N := some 29) (v := ?_) (a' := ?_) #[true, true, false, true, false, true, false, true, false, false, false, false] rfl rfl (take_ofW HT_.out HW_.out (by kernel_rfl)) (fun _ _ _ h => h) (Or.inl ⟨by rfl, ?_⟩) hHeld ?_ ?_
   rotate_left
   ·
    rintro w' ⟨s0, s1, s2⟩
    go_simp
    with_reducible rfl
   rotate_left
   ·
    simp only [Act.put, List.setIfInBounds_toArray, List.set_cons_zero, List.set_cons_succ, i64_w, i32_w]
    rfl
   refine take_ (i := 6) (N := some 34) (v := ?_) (a' := ?_) #[true, true, false, true, false, true, true, true, false, false, false, false] rfl rfl (take_ofW HT_.out HW_.out (by kernel_rfl)) (fun _ _ _ h => h) (Or.inl ⟨by rfl, ?_⟩) hHeld ?_ ?_
   rotate_left
   ·
    rintro w' ⟨s0, s1, s2⟩
    go_simp
    with_reducible rfl
   rotate_left
   ·
    simp only [Act.put, List.setIfInBounds_toArray, List.set_cons_zero, List.set_cons_succ, i64_w, i32_w]
    rfl
   refine one_ (i := 2) (N := some 30) #[true, true, true, true, false, true, true, true, false, false, false, false] rfl rfl (one_of HT_.out (by kernel_rfl)) (by decide) (fun K hK => ?_)
   refine goes_ Try.func38 (by kernel_rfl) rfl #[.slice A0_0 l0_0.length c0_0] (by rfl) rfl rfl (by (try simp only [List.map_toArray, List.map_cons, List.map_nil]); first | done | rfl | (simp only [List.length_drop, List.length_take]; rfl)) ?_
   with_reducible refine (spec_l01Copy.calls kj2 _ _ l0_0 t453 _ ?side1 ?side2 A36.out).mono ?_
   (case side1 => repeat (first | exact (C_below HR0_0.out HB.out) | (with_reducible refine C_alloc ?_ _) | (with_reducible refine C_drewN ?_ _) | (with_reducible refine C_drew ?_)))
   (case side2 => exact HC0_0.out)
   rintro e w40 ⟨v454, rfl, ho0, hb⟩
   refine ⟨_, rfl, ?_⟩
   have HO455 := Zh (R_lower ho0 (below_size Zs))
   replace BK439 := Zh (Zm (g := gb439) (o := .cells #[.slice A0_0 l0_0.length c0_0, .slice A0_1 l0_1.length c0_1, .slice A0_2 l0_2.length c0_2] 27 (0, 0)) Zk hb)
   replace BK440 := Zh (Zm (g := gb440) (o := .cells #[.slice none 0 0, .slice none 0 0, .slice none 0 0] 27 (0, 0)) Zk hb)
   replace HB := Zh (Zl Zs hb)
   (try clear hb)
   (try clear hb2)
   (try clear hk)
   (try clear hi)
   (try clear ho0)
   refine hK.out _ _ ⟨(blk_cell BK439.out 0).trans rfl, (blk_cell BK439.out 1).trans rfl, (blk_cell BK439.out 2).trans rfl⟩ (fun hHeld => ?_)
   clear hK K
   refine norm_ (a' := ?_) ?_ ?_
   rotate_left
   ·
    show Act.put _ (some 30) _ = _
    simp only [Act.put, List.setIfInBounds_toArray, List.set_cons_zero, List.set_cons_succ, i64_w, i32_w]
    rfl
   refine one_ (i := 4) (N := some 32) #[true, true, true, true, true, true, true, true, false, false, false, false] rfl rfl (one_of HT_.out (by kernel_rfl)) (by decide) (fun K hK => ?_)
   refine goes_ Try.func38 (by kernel_rfl) rfl #[.slice A1 l1.length c1] (by rfl) rfl rfl (by (try simp only [List.map_toArray, List.map_cons, List.map_nil]); first | done | rfl | (simp only [List.length_drop, List.length_take]; rfl)) ?_
   with_reducible refine (spec_l01Copy.calls kj2 _ _ l1 t456 _ ?side1 ?side2 A37.out).mono ?_
   (case side1 => repeat (first | exact (C_below HR1.out HB.out) | (with_reducible refine C_alloc ?_ _) | (with_reducible refine C_drewN ?_ _) | (with_reducible refine C_drew ?_)))
   (case side2 => exact HC1.out)
   rintro e w41 ⟨v457, rfl, ho0, hb⟩
   refine ⟨_, rfl, ?_⟩
   have HO458 := Zh (R_lower (R_new' ho0 (R_lt (ZR HO455.out))) (below_size Zs))
   replace HO455 := Zh (R_elder' (ZR HO455.out) (R_base ho0) hb)
   replace BK439 := Zh (Zm (g := gb439) (o := .cells #[.slice A0_0 l0_0.length c0_0, .slice A0_1 l0_1.length c0_1, .slice A0_2 l0_2.length c0_2] 27 (0, 0)) Zk hb)
   replace BK440 := Zh (Zm (g := gb440) (o := .cells #[.slice none 0 0, .slice none 0 0, .slice none 0 0] 27 (0, 0)) Zk hb)
   replace HB := Zh (Zl Zs hb)
   (try clear hb)
   (try clear hb2)
   (try clear hk)
   (try clear hi)
   (try clear ho0)
   refine hK.out _ _ ⟨(blk_cell BK439.out 0).trans rfl, (blk_cell BK439.out 1).trans rfl, (blk_cell BK439.out 2).trans rfl⟩ (fun hHeld => ?_)
   clear hK K
   refine norm_ (a' := ?_) ?_ ?_
   rotate_left
   ·
    show Act.put _ (some 32) _ = _
    simp only [Act.put, List.setIfInBounds_toArray, List.set_cons_zero, List.set_cons_succ, i64_w, i32_w]
    rfl
   refine one_ (i := 8) (N := some 36) #[true, true, true, true, true, true, true, true, true, false, false, false] rfl rfl (one_of HT_.out (by kernel_rfl)) (by decide) (fun K hK => ?_)
   refine goes_ Try.func41 (by kernel_rfl) rfl #[.slice A0_2 l0_2.length c0_2, .slice A1 l1.length c1] (by rfl) rfl rfl (by (try simp only [List.map_toArray, List.map_cons, List.map_nil]); first | done | rfl | (simp only [List.length_drop, List.length_take]; rfl)) ?_
   with_reducible refine (spec_l06Less.calls kj2 _ _ l0_2 _ _ l1 t459 _ ?side1 ?side2 ?side3 ?side4 A38.out).mono ?_
   (case side1 => repeat (first | exact (C_below HR0_2.out HB.out) | (with_reducible refine C_alloc ?_ _) | (with_reducible refine C_drewN ?_ _) | (with_reducible refine C_drew ?_)))
   (case side2 => exact HC0_2.out)
   (case side3 => repeat (first | exact (C_below HR1.out HB.out) | (with_reducible refine C_alloc ?_ _) | (with_reducible refine C_drewN ?_ _) | (with_reducible refine C_drew ?_)))
   (case side4 => exact HC1.out)
   rintro e w42 ⟨v460, rfl, ho0, hb⟩
   refine ⟨_, rfl, ?_⟩
   have HO461 := Zh (R_lower (R_new' (R_new' ho0 (R_lt (ZR HO455.out))) (R_lt (ZR HO458.out))) (below_size Zs))
   replace HO455 := Zh (R_elder' (ZR HO455.out) (R_base ho0) hb)
   replace HO458 := Zh (R_elder' (ZR HO458.out) (R_base ho0) hb)
   replace BK439 := Zh (Zm (g := gb439) (o := .cells #[.slice A0_0 l0_0.length c0_0, .slice A0_1 l0_1.length c0_1, .slice A0_2 l0_2.length c0_2] 27 (0, 0)) Zk hb)
   replace BK440 := Zh (Zm (g := gb440) (o := .cells #[.slice none 0 0, .slice none 0 0, .slice none 0 0] 27 (0, 0)) Zk hb)
   replace HB := Zh (Zl Zs hb)
   (try clear hb)
   (try clear hb2)
   (try clear hk)
   (try clear hi)
   (try clear ho0)
   obtain ⟨Ao43, co43, eo43⟩ := R_slice HO461.out
   (first | subst eo43 | (injection eo43 with f1_ f2_ f3_; have f4_ := f1_.symm; have f5_ := f3_.symm; clear f1_ f2_ f3_; subst f4_; subst f5_))
   obtain ⟨Ao44, co44, eo44⟩ := R_slice HO458.out
   (first | subst eo44 | (injection eo44 with f1_ f2_ f3_; have f4_ := f1_.symm; have f5_ := f3_.symm; clear f1_ f2_ f3_; subst f4_; subst f5_))
   obtain ⟨Ao45, co45, eo45⟩ := R_slice HO455.out
   (first | subst eo45 | (injection eo45 with f1_ f2_ f3_; have f4_ := f1_.symm; have f5_ := f3_.symm; clear f1_ f2_ f3_; subst f4_; subst f5_))
   refine hK.out _ _ ⟨(blk_cell BK439.out 0).trans rfl, (blk_cell BK439.out 1).trans rfl, (blk_cell BK439.out 2).trans rfl⟩ (fun hHeld => ?_)
   clear hK K
   refine norm_ (a' := ?_) ?_ ?_
   rotate_left
   ·
    show Act.put _ (some 36) _ = _
    simp only [Act.put, List.setIfInBounds_toArray, List.set_cons_zero, List.set_cons_succ, i64_w, i32_w]
    rfl
   refine pure_ (i := 9) (N := some 37) (v := ?_) (a' := ?_) #[true, true, true, true, true, true, true, true, true, true, false, false] rfl rfl (any_of HT_.out (by kernel_rfl)) (fun _ _ _ h => h) (Or.inl ⟨by rfl, ?_⟩) ?_ ?_
   rotate_left
   ·
    intro w'
    go_simp
    with_reducible rfl
   rotate_left
   ·
    simp only [Act.put, List.setIfInBounds_toArray, List.set_cons_zero, List.set_cons_succ, i64_w, i32_w]
    rfl
   refine one_ (i := 10) (N := none) #[true, true, true, true, true, true, true, true, true, true, true, false] rfl rfl (one_of HT_.out (by kernel_rfl)) (by decide) (fun K hK => ?_)
   have hs46 : w42.cell? ⟨gb440, 0, none⟩ = some (.slice none 0 0) := (blk_cell BK440.out 0).trans rfl
   have hfs46 := Zn BK440.out 0
   have hns46_0 := NB439_440.out
   have hms46_0 := NB440_439.out
   have hs47 : w42.cell? ⟨gb440, 1, none⟩ = some (.slice none 0 0) := (blk_cell BK440.out 1).trans rfl
   have hfs47 := Zn BK440.out 1
   have hns47_0 := NB439_440.out
   have hms47_0 := NB440_439.out
   have hs48 : w42.cell? ⟨gb440, 2, none⟩ = some (.slice none 0 0) := (blk_cell BK440.out 2).trans rfl
   have hfs48 := Zn BK440.out 2
   have hns48_0 := NB439_440.out
   have hms48_0 := NB440_439.out
   refine skip_ (w1 := ?_) (by rfl) rfl ?_ ?_
   rotate_left
   ·
    go_simp
    rfl
   refine hK.out _ _ ⟨((cell_far (p := ⟨gb440, _, none⟩) NB439_440.out _).trans (((cell_far (p := ⟨gb440, _, none⟩) NB439_440.out _).trans (((cell_far (p := ⟨gb440, _, none⟩) NB439_440.out _).trans (hHeld.1)))))), ((cell_far (p := ⟨gb440, _, none⟩) NB439_440.out _).trans (((cell_far (p := ⟨gb440, _, none⟩) NB439_440.out _).trans (((cell_far (p := ⟨gb440, _, none⟩) NB439_440.out _).trans (hHeld.2.1)))))), ((cell_far (p := ⟨gb440, _, none⟩) NB439_440.out _).trans (((cell_far (p := ⟨gb440, _, none⟩) NB439_440.out _).trans (((cell_far (p := ⟨gb440, _, none⟩) NB439_440.out _).trans (hHeld.2.2))))))⟩ (fun hHeld => ?_)
   clear hK K
   refine pure_ (i := 11) (N := some 5) (v := ?_) (a' := ?_) #[true, true, true, true, true, true, true, true, true, true, true, true] rfl rfl (any_of HT_.out (by kernel_rfl)) (fun _ _ _ h => h) (Or.inl ⟨by rfl, ?_⟩) ?_ ?_
   rotate_left
   ·
    intro w'
    go_simp
    with_reducible rfl
   rotate_left
   ·
    simp only [Act.put, List.setIfInBounds_toArray, List.set_cons_zero, List.set_cons_succ, i64_w, i32_w]
    rfl
   refine done_ (done_of HT_.out (by kernel_rfl)) ?_
   try go_wp2
   refine bodyPost_ret (results_ct rfl _ _ gb440 27 #[.slice Ao45 t453.length co45, .slice Ao44 t456.length co44, .slice Ao43 t459.length co43] (0, 0) _ rfl (by (with_reducible repeat (first | refine blk_drewN ?_ _ | refine blk_drew ?_ | refine blk_alloc ?_ _)); refine blk_put (cs := #[.slice Ao45 t453.length co45, .slice Ao44 t456.length co44, .slice none 0 0]) ?_ 2 _ rfl; (with_reducible repeat (first | refine blk_drewN ?_ _ | refine blk_drew ?_ | refine blk_alloc ?_ _)); refine blk_put (cs := #[.slice Ao45 t453.length co45, .slice none 0 0, .slice none 0 0]) ?_ 1 _ rfl; (with_reducible repeat (first | refine blk_drewN ?_ _ | refine blk_drew ?_ | refine blk_alloc ?_ _)); refine blk_put (cs := #[.slice none 0 0, .slice none 0 0, .slice none 0 0]) ?_ 0 _ rfl; (with_reducible repeat (first | refine blk_drewN ?_ _ | refine blk_drew ?_ | refine blk_alloc ?_ _)); exact BK440.out) Try.underlying27 rfl (by kernel_rfl)) rfl ?_
   exact ⟨_, _, _, ZE, ZR (R_mono (R_far (p := ⟨gb440, 2, none⟩) (R_far (p := ⟨gb440, 1, none⟩) (R_far (p := ⟨gb440, 0, none⟩) (R_types HO455.out BK440.out (by decide)) (fun _ hk => hk.2) (.slice Ao45 t453.length co45)) (fun _ hk => hk.2) (.slice Ao44 t456.length co44)) (fun _ hk => hk.2) (.slice Ao43 t459.length co43)) (fun _ hk => ⟨hk.1.1.2, hk.1.2⟩)), ZR (R_mono (R_far (p := ⟨gb440, 2, none⟩) (R_far (p := ⟨gb440, 1, none⟩) (R_far (p := ⟨gb440, 0, none⟩) (R_types HO458.out BK440.out (by decide)) (fun _ hk => hk.2) (.slice Ao45 t453.length co45)) (fun _ hk => hk.2) (.slice Ao44 t456.length co44)) (fun _ hk => hk.2) (.slice Ao43 t459.length co43)) (fun _ hk => ⟨hk.1.1.2, hk.1.2⟩)), ZR (R_mono (R_far (p := ⟨gb440, 2, none⟩) (R_far (p := ⟨gb440, 1, none⟩) (R_far (p := ⟨gb440, 0, none⟩) (R_types HO461.out BK440.out (by decide)) (fun _ hk => hk.2) (.slice Ao45 t453.length co45)) (fun _ hk => hk.2) (.slice Ao44 t456.length co44)) (fun _ hk => hk.2) (.slice Ao43 t459.length co43)) (fun _ hk => ⟨hk.1.1.2, hk.1.2⟩)), Zs⟩

/-! ### slices_Index_int_int: function 56 -/
def slices_Index_int_int.l0 : Nat → List Int → Int → Int → Int → Option (Int)
 | 0, _, _, _, _ => none
 | k + 1, x0, x1, x7, x8 => if x8 < x7 then (if 0 ≤ x8 then (if x8 < (x0.length : Int) then (if x1 = (rd x0 x8) then (some x8) else (slices_Index_int_int.l0 k x0 x1 x7 (wrap64 (x8 + 1)))) else (none)) else (none)) else (some (-1))
def slices_Index_int_int.f (k : Nat) (l0 : List Int) (a1 : Int) : Option (Int) := slices_Index_int_int.l0 k l0 a1 (l0.length : Int) 0
theorem slices_Index_int_int.mono_l : ∀ k, (∀ y0 y1 y2 y3, LeO (slices_Index_int_int.l0 k y0 y1 y2 y3) (slices_Index_int_int.l0 (k + 1) y0 y1 y2 y3))
 | 0 => fun _ _ _ _ r h => by simp [slices_Index_int_int.l0] at h
 | k + 1 => by
  have ih0 := slices_Index_int_int.mono_l k
  ·
   intro y0 y1 y2 y3
   unfold slices_Index_int_int.l0
   repeat' first
   | (with_reducible exact ih0 _ _ _ _)
   | (with_reducible exact LeO.refl _)
   | (with_reducible exact LeO.none _)
   | (with_reducible refine LeO.ite ?_ ?_)
   | (with_reducible refine LeO.bind ?_ (fun _ => ?_))
   | exact ih0 _ _ _ _
   | exact LeO.none _
   | refine LeO.ite ?_ ?_
   | refine LeO.bind ?_ (fun _ => ?_)
theorem slices_Index_int_int.mono : ∀ a0 a1 k, LeO (slices_Index_int_int.f k a0 a1) (slices_Index_int_int.f (k + 1) a0 a1) := by
 intro a0 a1 k
 have ih0 := slices_Index_int_int.mono_l k
 unfold slices_Index_int_int.f
 repeat' first
   | (with_reducible exact ih0 _ _ _ _)
   | (with_reducible exact LeO.refl _)
   | (with_reducible exact LeO.none _)
   | (with_reducible refine LeO.ite ?_ ?_)
   | (with_reducible refine LeO.bind ?_ (fun _ => ?_))
   | exact ih0 _ _ _ _
   | exact LeO.none _
   | refine LeO.ite ?_ ?_
   | refine LeO.bind ?_ (fun _ => ?_)
set_option maxHeartbeats 8000000 in
set_option maxRecDepth 100000 in
theorem slices_Index_int_int.calls (k : Nat) (A0 : Option Addr) (c0 : Nat) (l0 : List Int) (a1 : Int) (r : Int) (w : World) (hr0 : Kd.C (Kd.int .i64) w A0 l0.length l0) (hc0 : l0.length ≤ c0) (h : slices_Index_int_int.f k l0 a1 = some r) :
  Calls Try.prog 56 #[.slice A0 l0.length c0, .int .i64 a1] w fun e w' => e = .returned (.int .i64 r) ∧ Drawn0 w w' := by
 have HR0 := Zh hr0
 have HC0 := Zh hc0
 clear hr0 hc0
 have H : (slices_Index_int_int.l0 k l0 a1 (l0.length : Int) 0) = some r := h
 clear h
 have H' := Zh H
 clear H
 go_enter Try.func56, Try.ntmps56
 go_wp2
 go_loopg [8] k (fun kq v8 w' => ∃ (x8_1 : Int), v8 = .int .i64 x8_1 ∧ Aside0 (slices_Index_int_int.l0 kq l0 a1 (l0.length : Int) x8_1 = some r) ∧ Aside0 (kq ≤ k) ∧ Drawn0 w w')
 case atStart => exact ⟨(0), (by first | rfl | (simp; done) | (simp [*]; done)), H', ⟨Nat.le_refl _⟩, by repeat (first | exact Drawn0.refl _ | apply Drawn0.step)⟩
 case round =>
  clear H'
  try clear p2
  obtain ⟨x8_1, rfl, HA, HK1, ⟨m1, rfl⟩⟩ := hrel
  cases gk with
  | zero => exact absurd HA.out (by simp [slices_Index_int_int.l0])
  | succ k1 =>
   have H := HA.out
   clear HA
   simp only [slices_Index_int_int.l0] at H
   by_cases c3 : x8_1 < (l0.length : Int)
   ·
    rw [if_pos c3] at H
    have c3b0 : decide (x8_1 < (l0.length : Int)) = true := decide_eq_true c3
    clear c3
    by_cases c4 : 0 ≤ x8_1
    ·
     rw [if_pos c4] at H
     have c4b0 : decide (0 ≤ x8_1) = true := decide_eq_true c4
     clear c4
     by_cases c5 : x8_1 < (l0.length : Int)
     ·
      rw [if_pos c5] at H
      have c5b0 : decide (x8_1 < (l0.length : Int)) = true := decide_eq_true c5
      clear c5
      by_cases c6 : a1 = (rd l0 x8_1)
      ·
       rw [if_pos c6] at H
       have c6b0 : (a1 == (rd l0 x8_1)) = true := beq_iff_eq.mpr c6
       have c6b1 : (a1 != (rd l0 x8_1)) = false := bne_eq_false_iff_eq.mpr c6
       clear c6
       obtain rfl := Option.some.inj H
       have p197 : 0 ≤ (x8_1 : Int) := Zo
       have q197 : x8_1 < (l0.length : Int) := Zo
       obtain ⟨ad197, e197, hx197_0⟩ := Kd.at_int HR0.out x8_1 p197 q197
       cases e197
       replace p197 := eq_true p197
       replace q197 := eq_true q197
       go_wp2
       go_ret
       exact ⟨by first | rfl | (simp; done) | (simp [*]; done), by repeat (first | exact Drawn0.refl _ | apply Drawn0.step)⟩
      rw [if_neg c6] at H
      have c6b0 : (a1 == (rd l0 x8_1)) = false := beq_eq_false_iff_ne.mpr c6
      have c6b1 : (a1 != (rd l0 x8_1)) = true := bne_iff_ne.mpr c6
      have H' := Zh H
      clear H
      have p197 : 0 ≤ (x8_1 : Int) := Zo
      have q197 : x8_1 < (l0.length : Int) := Zo
      obtain ⟨ad197, e197, hx197_0⟩ := Kd.at_int HR0.out x8_1 p197 q197
      cases e197
      replace p197 := eq_true p197
      replace q197 := eq_true q197
      go_wp2
      go_roundg k1
      case measure => have := HK1.out; omega
      case rel => exact ⟨(wrap64 (x8_1 + 1)), (by first | rfl | (simp; done) | (simp [*]; done)), H', ⟨by have := HK1.out; omega⟩, by repeat (first | exact Drawn0.refl _ | apply Drawn0.step)⟩
     rw [if_neg c5] at H
     exact absurd H (by simp)
    rw [if_neg c4] at H
    exact absurd H (by simp)
   rw [if_neg c3] at H
   have c3b0 : decide (x8_1 < (l0.length : Int)) = false := decide_eq_false c3
   clear c3
   obtain rfl := Option.some.inj H
   go_wp2
   go_ret
   exact ⟨by first | rfl | (simp; done) | (simp [*]; done), by repeat (first | exact Drawn0.refl _ | apply Drawn0.step)⟩

/-! ### slices_Contains_int_int: function 50 -/
def slices_Contains_int_int.f (k : Nat) (l0 : List Int) (a1 : Int) : Option (Bool) := (slices_Index_int_int.f k l0 a1).bind fun t198 => (some (decide (t198 ≥ 0)))
theorem slices_Contains_int_int.mono : ∀ a0 a1 k, LeO (slices_Contains_int_int.f k a0 a1) (slices_Contains_int_int.f (k + 1) a0 a1) := by
 intro a0 a1 k
 unfold slices_Contains_int_int.f
 repeat' first
   | (with_reducible exact slices_Index_int_int.mono _ _ _)
   | (with_reducible exact LeO.refl _)
   | (with_reducible exact LeO.none _)
   | (with_reducible refine LeO.ite ?_ ?_)
   | (with_reducible refine LeO.bind ?_ (fun _ => ?_))
   | exact slices_Index_int_int.mono _ _ _
   | exact LeO.none _
   | refine LeO.ite ?_ ?_
   | refine LeO.bind ?_ (fun _ => ?_)
set_option maxHeartbeats 8000000 in
set_option maxRecDepth 100000 in
theorem slices_Contains_int_int.calls (k : Nat) (A0 : Option Addr) (c0 : Nat) (l0 : List Int) (a1 : Int) (r : Bool) (w : World) (hr0 : Kd.C (Kd.int .i64) w A0 l0.length l0) (hc0 : l0.length ≤ c0) (h : slices_Contains_int_int.f k l0 a1 = some r) :
  Calls Try.prog 50 #[.slice A0 l0.length c0, .int .i64 a1] w fun e w' => e = .returned (.bool r) ∧ Drawn0 w w' := by
 have HR0 := Zh hr0
 have HC0 := Zh hc0
 clear hr0 hc0
 have H : ((slices_Index_int_int.f k l0 a1).bind fun t198 => (some (decide (t198 ≥ 0)))) = some r := h
 clear h
 replace H := Option.bind_eq_some_iff.mp H
 obtain ⟨t198, A30, H⟩ := H
 replace H : (some (decide (t198 ≥ 0))) = some r := H
 have A3 := Zh A30
 clear A30
 obtain rfl := Option.some.inj H
 go_enter Try.func50, Try.ntmps50
 go_wp2_with (first | ((with_reducible refine gate_callee (f := 56) rfl ?_); refine ZG (some 7) Try.func56 #[.slice A0 l0.length c0, .int .i64 a1] rfl ?_; (with_reducible refine (slices_Index_int_int.calls k _ _ l0 a1 t198 _ ?side1 ?side2 A3.out).mono ?_); (case side1 => repeat (first | exact HR0.out | (with_reducible refine C_alloc ?_ _) | (with_reducible refine C_drewN ?_ _) | (with_reducible refine C_drew ?_))); (case side2 => exact HC0.out); rintro e w' ⟨rfl, ⟨nd, rfl⟩⟩; refine ⟨_, rfl, ?_⟩))
 go_ret
 exact ⟨by first | rfl | (simp; done) | (simp [*]; done), by repeat (first | exact Drawn0.refl _ | apply Drawn0.step)⟩

end Go.Proofs.Ytedlgllhaboljaa.F
