/- Merged texts below the law FnWal: Go functions as Lean functions, their contracts, and plain lemmas. -/
import Derived.Test.YtcgojdhbphocgaaDoorQFnWal14
import Derived.Laws.Cover1
import Derived.Test.YtcgojdhbphocgaaDoorProg
import Derived.Below
import Derived.Deep.Draws
import Derived.Deep.AppendLies
import Derived.Maps.AppendAt
import Derived.OwnWalk
import Derived.Laws.BytesArg
import Derived.Laws.MakeOwn
import Derived.Laws.OwnMore
import Derived.Deep.OwnRows
import Derived.Tactics
import Derived.Lib.ConvBytes
import Derived.Laws.Slices
import Derived.WalkKit
import Derived.KernelRfl
import Derived.RowKit3
import Derived.Deep.LoopGhost
import Derived.Deep.QuietTactic
import Derived.BigQuiet
import Derived.WideLaws
import Derived.Deep.DeepCutAuto
import Derived.Deep.CutBlock
import Derived.Deep.RegionHeld3
import Derived.Laws.Rows
import Derived.Lib.AppendStr
import Derived.ArgAppend
import Derived.Laws.IdiomCopy
import Derived.OrdersHeld
import Derived.Laws.BitsLemmas
import Derived.RowKit
import Derived.Test.YtcgojdhbphocgaaDoorVFnWalWords
import Derived.Test.YtcgojdhbphocgaaDoorVFnWalLast
import Derived.Test.YtcgojdhbphocgaaDoorVFnWalTab
import Derived.Test.YtcgojdhbphocgaaDoorVFnWalFour
import Derived.Test.YtcgojdhbphocgaaDoorVFnWalQPut
import Derived.Test.YtcgojdhbphocgaaDoorVFnWalApart
import Derived.Test.YtcgojdhbphocgaaDoorVFnWalArr
import Derived.Test.YtcgojdhbphocgaaDoorVFnWalZeros
import Derived.Test.YtcgojdhbphocgaaDoorVFnWalFoot
import Derived.Test.YtcgojdhbphocgaaDoorVFnWalKept
import Derived.Test.YtcgojdhbphocgaaDoorVFnWalShare
import Derived.Test.YtcgojdhbphocgaaDoorVFnWalN
import Derived.Test.YtcgojdhbphocgaaDoorVFnWalFootNe
import Derived.Test.YtcgojdhbphocgaaDoorVFnWalAt
import Derived.Test.YtcgojdhbphocgaaDoorVFnWalEqStruct
import Derived.Test.YtcgojdhbphocgaaDoorVFnWalRepsOne
import Derived.Test.YtcgojdhbphocgaaDoorVFnWalInv
import Derived.Test.YtcgojdhbphocgaaDoorVFnWalInvWords
import Derived.Test.YtcgojdhbphocgaaDoorVFnWalGuard
import Derived.Test.YtcgojdhbphocgaaDoorVFnWalNEv
import Derived.Test.YtcgojdhbphocgaaDoorVFnWalMore
import Derived.Shelf.Strings.SlTrimAscii
import Derived.Shelf.Abstract
namespace Go.Proofs.YtcgojdhbphocgaaDoor.F
open Go.Proofs.YtcgojdhbphocgaaDoor
open Go.RowKit Go.Proofs.YtcgojdhbphocgaaDoorW.PrintWords Go.Proofs.YtcgojdhbphocgaaDoorW.PrintWords.Kd Go.Proofs.YtcgojdhbphocgaaDoorW.PrintMore.Kd Go.Proofs.YtcgojdhbphocgaaDoorW.PrintLast Go.Proofs.YtcgojdhbphocgaaDoorW.PrintMore
attribute [local go_sem] max2_int min2_int max_two min_two max_three min_three max_four min_four   -- for this text's walks alone
set_option linter.unusedVariables false
set_option linter.unusedSimpArgs false
def errW : Option Int → Value
 | none => .nilIface
 | some c => .iface 0 (.int .i64 c)
theorem errW_none : errW none = .nilIface := rfl
theorem errW_some (c : Int) : errW (some c) = .iface 0 (.int .i64 c) := rfl
theorem info3 : (Tryd.prog.info? 3).map (fun i => (i.zero, i.size, i.bytes)) = some (some (.int .i64 0), 1, 8) := by kernel_rfl
theorem info5 : (Tryd.prog.info? 5).map (fun i => (i.zero, i.size, i.bytes)) = some (some (.int .u8 0), 1, 1) := by kernel_rfl
theorem info41 : (Tryd.prog.info? 41).map (fun i => (i.zero, i.size, i.bytes)) = some (some (.slice none 0 0), 1, 24) := by kernel_rfl
theorem info55 : (Tryd.prog.info? 55).map (fun i => (i.zero, i.size, i.bytes)) = some (some (.agg #[(.string ⟨#[]⟩), (.slice none 0 0), (.slice none 0 0)]), 3, 64) := by kernel_rfl
def rd_L2 (xs : List (List Int)) (i : Int) : (List Int) := xs.getD i.toNat ([] : List Int)
theorem at_L2 {w : World} {A : Option Addr} {n : Nat} {xs : List (List Int)} (h : Kd.C (Kd.slice 5 (Kd.int .u8)) w A n xs) (i : Int) (h0 : 0 ≤ i) (h1 : i < n) : ∃ ad A0 c0, A = some ad ∧ w.cell? (ad.add i.toNat) = some (.slice A0 (rd_L2 xs i).length c0) ∧ (rd_L2 xs i).length ≤ c0 ∧ (Kd.int .u8).C w A0 (rd_L2 xs i).length (rd_L2 xs i) := by
 obtain ⟨ad, c, e, _, hK, hc0⟩ := C_get h ([] : List Int) i h0 h1
 have hc : ∀ j u, c[j]? = some u → w.cell? (ad.add (i.toNat * 1 + j)) = some u := hc0
 obtain ⟨A0, c0, rfl, l0, g0⟩ := hK
 exact ⟨ad, A0, c0, e, by have hq := hc 0 _ rfl; rwa [Nat.mul_one, Nat.add_zero] at hq, l0, g0⟩
structure S83 where
 f0 : ByteArray
 f1 : (List Int)
 f2 : (List Int)
structure S55 where
 f0 : ByteArray
 f1 : (List Int)
 f2 : (List Int)
def z55 : S55 := ⟨(⟨#[]⟩ : ByteArray), ([] : List Int), ([] : List Int)⟩
def k55 : Kd S55 := Kd.iso (Kd.pair Kd.string (AP.apair (Kd.slice 5 (Kd.int .u8)) (Kd.slice 5 (Kd.int .u8)))) (fun x : S55 => (x.f0, x.f1, x.f2))
theorem k55_open {w : World} {x : S55} {cs : List Value} (h : k55.K w x cs) : ∃ A1 c1 A2 c2, cs = [.string x.f0, .slice A1 x.f1.length c1, .slice A2 x.f2.length c2] ∧ x.f1.length ≤ c1 ∧ (Kd.int .u8).C w A1 x.f1.length x.f1 ∧ x.f2.length ≤ c2 ∧ (Kd.int .u8).C w A2 x.f2.length x.f2 := by
 obtain ⟨_, _, rfl, rfl, ⟨_, _, rfl, ⟨A1, c1, rfl, l1, g1⟩, ⟨A2, c2, rfl, l2, g2⟩⟩⟩ := h
 exact ⟨A1, c1, A2, c2, rfl, l1, g1, l2, g2⟩
theorem k55_openA {w : World} {base : Nat} {ok : Nat → Prop} {x : S55} {cs : List Value} (h : k55.M w base ok x cs) : ∃ p : Nat → Prop, ∃ v1 v2, cs = [.string x.f0, v1, v2] ∧ (Kd.int .u8).R 5 w base (fun k => ok k ∧ p k) v1 x.f1 ∧ (Kd.int .u8).R 5 w base (fun k => ok k ∧ ¬ p k) v2 x.f2 := by
 obtain ⟨_, _, rfl, rfl, ⟨_, _, rfl, p, ⟨v1, rfl, g1⟩, ⟨v2, rfl, g2⟩⟩⟩ := h
 exact ⟨p, v1, v2, rfl, g1, g2⟩
theorem k55_mk (w : World) (x : S55) {A1 : Option Addr} {c1 : Nat} (l1 : x.f1.length ≤ c1) (g1 : (Kd.int .u8).C w A1 x.f1.length x.f1) {A2 : Option Addr} {c2 : Nat} (l2 : x.f2.length ≤ c2) (g2 : (Kd.int .u8).C w A2 x.f2.length x.f2) : k55.K w x [.string x.f0, .slice A1 x.f1.length c1, .slice A2 x.f2.length c2] := ⟨[.string x.f0], [.slice A1 x.f1.length c1, .slice A2 x.f2.length c2], rfl, rfl, ⟨[.slice A1 x.f1.length c1], [.slice A2 x.f2.length c2], rfl, ⟨A1, c1, rfl, l1, g1⟩, ⟨A2, c2, rfl, l2, g2⟩⟩⟩
theorem k55_mkM (w : World) (base : Nat) (ok : Nat → Prop) (x : S55) {v1 : Value} (g1 : (Kd.int .u8).R 5 w base ok v1 x.f1) {v2 : Value} (g2 : (Kd.int .u8).R 5 w base ok v2 x.f2) (hne : ∀ k, some k = v1.ownBlock → ¬ some k = v2.ownBlock) : k55.M w base ok x [.string x.f0, v1, v2] := ⟨[.string x.f0], [v1, v2], rfl, rfl, ⟨[v1], [v2], rfl, _, ⟨v1, rfl, (AP.split_of rfl rfl g1 g2 hne).1⟩, ⟨v2, rfl, (AP.split_of rfl rfl g1 g2 hne).2⟩⟩⟩
def rd_T55 (xs : List S55) (i : Int) : S55 := xs.getD i.toNat z55
theorem at_T55 {w : World} {A : Option Addr} {n : Nat} {xs : List S55} (h : Kd.C k55 w A n xs) (i : Int) (h0 : 0 ≤ i) (h1 : i < n) : ∃ ad A1 c1 A2 c2, A = some ad ∧ w.cell? (ad.add (i.toNat * 3)) = some (.string (rd_T55 xs i).f0) ∧ w.cell? ⟨(ad.add (i.toNat * 3)).block, (ad.add (i.toNat * 3)).off + 1, none⟩ = some (.slice A1 (rd_T55 xs i).f1.length c1) ∧ w.cell? ⟨(ad.add (i.toNat * 3)).block, (ad.add (i.toNat * 3)).off + 2, none⟩ = some (.slice A2 (rd_T55 xs i).f2.length c2) ∧ (rd_T55 xs i).f1.length ≤ c1 ∧ (Kd.int .u8).C w A1 (rd_T55 xs i).f1.length (rd_T55 xs i).f1 ∧ (rd_T55 xs i).f2.length ≤ c2 ∧ (Kd.int .u8).C w A2 (rd_T55 xs i).f2.length (rd_T55 xs i).f2 := by
 obtain ⟨ad, c, e, _, hK, hc0⟩ := C_get h z55 i h0 h1
 have hc : ∀ j u, c[j]? = some u → w.cell? (ad.add (i.toNat * 3 + j)) = some u := hc0
 obtain ⟨A1, c1, A2, c2, rfl, l1, g1, l2, g2⟩ := k55_open hK
 exact ⟨ad, A1, c1, A2, c2, e, hc 0 _ rfl, by rw [← add_field _ _ 1 (by omega)]; exact hc 1 _ rfl, by rw [← add_field _ _ 2 (by omega)]; exact hc 2 _ rfl, l1, g1, l2, g2⟩
theorem Zs {n : Nat} {w w1 : World} (h : Below n w w1 := by repeat (first | (with_reducible first | exact HB.out | apply below_alloc | apply pw_below_drewN | apply below_drew1) | refine below_set ?_ (Aside0.out (by assumption)) | exact HB.out)) : Below n w w1 := h
theorem Zk {w : World} {g : Nat} {o : Obj} (h : w.heap[g]? = some o := by (with_reducible repeat (first | refine blk_drewN ?_ _ | refine blk_drew ?_ | refine blk_alloc ?_ _)); exact Aside0.out (by assumption)) : w.heap[g]? = some o := h
theorem Zo {p : Prop} [Decidable p] (h : decide p = true := by first | (with_reducible assumption) | assumption) : p := of_decide_eq_true h
theorem Zc {w w1 : World} {a : Addr} {v : Value} (hb : Below w.heap.size w w1) (h : w.cell? a = some v) : w1.cell? a = some v := (hb.cell (World.block_lt_of_cell? w _ h)).trans h
theorem ZS {α : Type} {d : Kd α} {e base : Nat} {w w1 : World} {ok : Nat → Prop} {v : Value} {xs : List α} (h : Kd.S d e w base ok v xs) (hb : Below w.heap.size w w1 := by (with_reducible repeat (first | exact Below.refl _ _ | apply below_alloc | apply pw_below_drewN | apply below_drew1))) : Kd.S d e w1 base ok v xs := S_below h hb
theorem ZR {α : Type} {d : Kd α} {e base : Nat} {w w1 : World} {ok : Nat → Prop} {v : Value} {xs : List α} (h : d.R e w base ok v xs) (hb : Below w.heap.size w w1 := by (with_reducible repeat (first | exact Below.refl _ _ | apply below_alloc | apply pw_below_drewN | apply below_drew1))) : d.R e w1 base ok v xs := R_below h hb
theorem ZE {p : Prop} (h : p := by first | rfl | (simp [errW_none, errW_some] <;> rfl) | (simp [*, errW_none, errW_some] <;> rfl)) : p := h
theorem ZG {P : Program} {ops : Array Oper} {Q : Exit → Act → World → Prop} {rest : List Oper} {oi : Oper} {a : Act} {w : World} (N : Option Tmp) {f : FuncId} {fn : Func} {as_ : Array Operand} {ts : Array TypeId} (hf : P.funcs[f]? = some fn) (args : Array Value) (hop : oi.op = .call { callee := .value (.func f), args := as_, argTypes := ts }) (h : Calls P f args w fun e w' => ∃ v, e = .returned v ∧ wpList P ops Q rest (a.put N v) w') (hd : oi.dst = N := by rfl) (hg : oi.guard = none := by rfl) (hn : (fn.name == "runtime.NumGoroutine") = false := by kernel_rfl) (hb : fn.body.isSome = true := by rfl) (hargs : as_.map a.eval = args := by (try simp only [List.map_toArray, List.map_cons, List.map_nil]); first | done | rfl | (simp only [List.length_drop, List.length_take]; rfl)) : wpList P ops Q (oi :: rest) a w := goesL_ N hd hg hf hn hb args hop hargs h
abbrev Za := @blk_drewN
abbrev Zb := @blk_drew
abbrev Zd := @pw_below_drewN
abbrev Ze := @below_drew1
abbrev Zf := @below_alloc
abbrev Zg := @below_set
abbrev Zh := @Aside0.mk
abbrev Zi := @World.block_lt_of_cell?
abbrev Zl := @below_step
abbrev Zm := @blk_below
abbrev Zn := @blk_frozen
abbrev Zq := @bodyPost_ret
end Go.Proofs.YtcgojdhbphocgaaDoor.F

namespace Go.Proofs.YtcgojdhbphocgaaDoor.F
open Go.RowKit Go.Proofs.YtcgojdhbphocgaaDoorW.PrintWords Go.Proofs.YtcgojdhbphocgaaDoorW.PrintWords.Kd Go.Proofs.YtcgojdhbphocgaaDoorW.PrintMore.Kd Go.Proofs.YtcgojdhbphocgaaDoorW.PrintLast Go.Proofs.YtcgojdhbphocgaaDoorW.PrintMore
attribute [local go_sem] max2_int min2_int max_two min_two max_three min_three max_four min_four   -- for this text's walks alone
set_option linter.unusedVariables false
set_option linter.unusedSimpArgs false
end Go.Proofs.YtcgojdhbphocgaaDoor.F

namespace Go.Proofs.YtcgojdhbphocgaaDoor.F
open Go.RowKit Go.Proofs.YtcgojdhbphocgaaDoorW.PrintWords Go.Proofs.YtcgojdhbphocgaaDoorW.PrintLast Go.Proofs.YtcgojdhbphocgaaDoorW.PrintMore
set_option linter.unusedVariables false
set_option linter.unusedSimpArgs false
def cutv (v u : Value) : Prop := ∃ A n c c', v = .slice A n c ∧ u = .slice A n c' ∧ n ≤ c ∧ c ≤ c'
theorem cutv_refl {A : Option Addr} {n c : Nat} (h : n ≤ c) : cutv (.slice A n c) (.slice A n c) := ⟨A, n, c, c, rfl, rfl, h, Nat.le_refl _⟩
def cslice {α : Type} (e : Nat) (d : Kd α) : Kd (List α) where
  sz := 1
  E := e :: d.E
  K := (Kd.slice e d).K
  M := fun w base ok xs cs => ∃ v u, cs = [v] ∧ cutv v u ∧ d.R e w base ok u xs
  K_len := (Kd.slice e d).K_len
  K_one := (Kd.slice e d).K_one
  K_below := (Kd.slice e d).K_below
  K_of_M := by
    rintro w base ok x cs ⟨v, u, rfl, ⟨A, n, c, c', rfl, rfl, h1, h2⟩, h⟩
    obtain ⟨rfl, _, hC⟩ := Kd.R_reads' h
    exact ⟨A, c, rfl, h1, hC⟩
  M_mono := by
    rintro w base ok ok' x cs hok ⟨v, u, rfl, hc, h⟩
    exact ⟨v, u, rfl, hc, Kd.R_mono h hok⟩
  M_bound := by
    rintro w base ok x cs ⟨v, u, rfl, hc, h⟩
    exact ⟨v, u, rfl, hc, Kd.R_bound h⟩
  M_move := by
    rintro w w1 base ok x cs hm ⟨v, u, rfl, hc, h⟩
    exact ⟨v, u, rfl, hc, Kd.R_move h hm⟩
  M_lower := by
    rintro w base base' ok x cs hb ⟨v, u, rfl, hc, h⟩
    exact ⟨v, u, rfl, hc, Kd.R_lower h hb⟩
def k55c : Kd S55 := Kd.iso (Kd.pair Kd.string (AP.apair (cslice 5 (Kd.int .u8)) (cslice 5 (Kd.int .u8)))) (fun x : S55 => (x.f0, x.f1, x.f2))
theorem k55c_C {w : World} {A : Option Addr} {n : Nat} {xs : List S55} (h : k55c.C w A n xs) : k55.C w A n xs := h
theorem k55c_openA {w : World} {base : Nat} {ok : Nat → Prop} {x : S55} {cs : List Value} (h : k55c.M w base ok x cs) : ∃ p : Nat → Prop, ∃ v1 v2 u1 u2, cs = [.string x.f0, v1, v2] ∧ cutv v1 u1 ∧ cutv v2 u2 ∧ (Kd.int .u8).R 5 w base (fun k => ok k ∧ p k) u1 x.f1 ∧ (Kd.int .u8).R 5 w base (fun k => ok k ∧ ¬ p k) u2 x.f2 := by
  obtain ⟨c0, c1, rfl, h0, d0, d1, rfl, p, ⟨v1, u1, rfl, hc1, h1⟩, ⟨v2, u2, rfl, hc2, h2⟩⟩ := h
  obtain rfl : c0 = [.string x.f0] := h0
  exact ⟨p, v1, v2, u1, u2, rfl, hc1, hc2, h1, h2⟩
theorem k55c_mkM (w : World) (base : Nat) (ok : Nat → Prop) (x : S55) {v1 u1 v2 u2 : Value} (hc1 : cutv v1 u1) (hc2 : cutv v2 u2) (g1 : (Kd.int .u8).R 5 w base ok u1 x.f1) (g2 : (Kd.int .u8).R 5 w base ok u2 x.f2) (hne : ∀ k, some k = u1.ownBlock → ¬ some k = u2.ownBlock) : k55c.M w base ok x [.string x.f0, v1, v2] :=
  ⟨[.string x.f0], [v1, v2], rfl, rfl, [v1], [v2], rfl, _, ⟨v1, u1, rfl, hc1, (AP.split_of rfl rfl g1 g2 hne).1⟩, ⟨v2, u2, rfl, hc2, (AP.split_of rfl rfl g1 g2 hne).2⟩⟩
theorem k55c_of {w : World} {base : Nat} {ok : Nat → Prop} {x : S55} {cs : List Value} (h : k55.M w base ok x cs) : k55c.M w base ok x cs := by
  obtain ⟨c0, c1, rfl, h0, d0, d1, rfl, p, ⟨v1, rfl, h1⟩, ⟨v2, rfl, h2⟩⟩ := h
  obtain ⟨A1, c1, rfl, l1, _⟩ := Kd.R_reads h1
  obtain ⟨A2, c2, rfl, l2, _⟩ := Kd.R_reads h2
  exact ⟨c0, _, rfl, h0, _, _, rfl, p, ⟨_, _, rfl, cutv_refl l1, h1⟩, ⟨_, _, rfl, cutv_refl l2, h2⟩⟩
theorem S_c {e base : Nat} {w : World} {ok : Nat → Prop} {v : Value} {xs : List S55} (h : Kd.S k55 e w base ok v xs) : Kd.S k55c e w base ok v xs := by
  obtain ⟨f, h0, ho⟩ := h
  exact ⟨f, h0, ho.imp_ (fun p c hp => k55c_of hp)⟩
end Go.Proofs.YtcgojdhbphocgaaDoor.F

namespace Go.Proofs.YtcgojdhbphocgaaDoor.SQ
open Go.RowKit Go.Proofs.YtcgojdhbphocgaaDoorW.PrintWords Go.Proofs.YtcgojdhbphocgaaDoorW.PrintLast Go.Proofs.YtcgojdhbphocgaaDoorW.PrintMore
section
variable {P : Program} {md : Region.Mode} {ops : Array Oper} {ds : List Nat} {S : World → Prop} {Q : Exit → Act → World → Prop} {oi : Oper} {v : Value} {fuel : Nat} {l : Array Bool} {a a' : Act} {w : World}
theorem p0 (i N : Nat) (h : wpAnyLast P md ops Q S ds fuel (l.setIfInBounds i true) a' w)
    (hk : anyB md ops l (l.setIfInBounds i true) i = true := by kernel_rfl) (hi : ops[i]? = some oi := by rfl) (hN : oi.dst = some N := by rfl) (hQ : ∀ c a w, Q (.panic c) (a.put oi.dst v) w → Q (.panic c) a w := by exact fun _ _ _ h => h)
    (hw : Region.wanted oi (yielded ops a.tmps) = true := by rfl) (hv : ∀ w', (execOp a.eval oi).run P w' = .ok (.value v) w' := by intro w'; go_simp; with_reducible rfl)
    (ha : a.put (some N) v = a' := by simp only [Act.put, List.setIfInBounds_toArray, List.set_cons_zero, List.set_cons_succ, i64_w, i32_w]; rfl) : wpAnyLast P md ops Q S ds (fuel + 1) l a w :=
  pure_ (l.setIfInBounds i true) hi hN hk hQ (.inl ⟨hw, hv⟩) ha h
theorem o0 (i N : Nat) (h : wpAnyLast P md ops Q S ds fuel (l.setIfInBounds i true) a' w)
    (hk : anyB md ops l (l.setIfInBounds i true) i = true := by kernel_rfl) (hi : ops[i]? = some oi := by rfl) (hN : oi.dst = some N := by rfl) (hQ : ∀ c a w, Q (.panic c) (a.put oi.dst undef) w → Q (.panic c) a w := by exact fun _ _ _ h => h)
    (hw : Region.wanted oi (yielded ops a.tmps) = false := by rfl)
    (ha : a.put (some N) undef = a' := by simp only [Act.put, List.setIfInBounds_toArray, List.set_cons_zero, List.set_cons_succ, i64_w, i32_w]; rfl) : wpAnyLast P md ops Q S ds (fuel + 1) l a w :=
  pure_ (l.setIfInBounds i true) hi hN hk hQ (.inr ⟨hw, rfl⟩) ha h
theorem t0 (i N : Nat) (hS : S w) (h : wpAnyLast P md ops Q S ds fuel (l.setIfInBounds i true) a' w)
    (hk : takeB md ops ds l (l.setIfInBounds i true) i = true := by kernel_rfl) (hi : ops[i]? = some oi := by rfl) (hN : oi.dst = some N := by rfl) (hQ : ∀ c a w, Q (.panic c) (a.put oi.dst v) w → Q (.panic c) a w := by exact fun _ _ _ h => h)
    (hw : Region.wanted oi (yielded ops a.tmps) = true := by rfl) (hv : ∀ w', S w' → (execOp a.eval oi).run P w' = .ok (.value v) w' := by intro w' hs_; go_simp; with_reducible rfl)
    (ha : a.put (some N) v = a' := by simp only [Act.put, List.setIfInBounds_toArray, List.set_cons_zero, List.set_cons_succ, i64_w, i32_w]; rfl) : wpAnyLast P md ops Q S ds (fuel + 1) l a w :=
  take_ (l.setIfInBounds i true) hi hN hk hQ (.inl ⟨hw, hv⟩) hS ha h
end
end Go.Proofs.YtcgojdhbphocgaaDoor.SQ

namespace Go.Proofs.YtcgojdhbphocgaaDoor.LW
set_option linter.unusedVariables false
set_option linter.unusedSimpArgs false
open Go.RowKit Go.Proofs.YtcgojdhbphocgaaDoorW.PrintWords Go.Proofs.YtcgojdhbphocgaaDoorW.PrintLast Go.Proofs.YtcgojdhbphocgaaDoorW.PrintMore
structure It where
  P : World → Prop
  F : Nat → Prop
  mv : ∀ w w1 : World, (∀ k, F k → w1.heap[k]? = w.heap[k]?) → P w → P w1
def Its (w : World) (B n : Nat) : List It → Prop
  | [] => True
  | i :: r => (∀ k, i.F k → B ≤ k ∧ k < n) ∧ i.P w ∧ (∀ j, j ∈ r → ∀ k, i.F k → ¬ j.F k) ∧ Its w B n r
variable {w w0 w1 : World} {B B' n m g t e : Nat} {l : List It} {i : It} {cs : Array Value} {α : Type} {d : Kd α} {v : Value} {xs ys : List α} {F S ok : Nat → Prop}
theorem Its.mono (h : Its w B n l) (hB : B' ≤ B) (hn : n ≤ m) : Its w B' m l := by
  induction l with
  | nil => trivial
  | cons i r ih => exact ⟨fun k hk => ⟨Nat.le_trans hB (h.1 k hk).1, Nat.lt_of_lt_of_le (h.1 k hk).2 hn⟩, h.2.1, h.2.2.1, ih h.2.2.2⟩
theorem Its.all (h : Its w B n l) : ∀ j, j ∈ l → j.P w ∧ ∀ k, j.F k → B ≤ k ∧ k < n := by
  induction l with
  | nil => intro j hj; cases hj
  | cons i r ih =>
    intro j hj
    cases hj with
    | head => exact ⟨h.2.1, h.1⟩
    | tail _ hj => exact ih h.2.2.2 j hj
theorem Its.move (h : Its w B n l) (hm : ∀ j, j ∈ l → ∀ k, j.F k → w1.heap[k]? = w.heap[k]?) : Its w1 B n l := by
  induction l with
  | nil => trivial
  | cons i r ih => exact ⟨h.1, i.mv w w1 (hm i List.mem_cons_self) h.2.1, h.2.2.1, ih h.2.2.2 (fun j hj => hm j (List.mem_cons_of_mem _ hj))⟩
theorem Its.app {l' : List It} (h' : Its w B' n l') (h : Its w B B' l) (hB : B ≤ B') (hn : B' ≤ n) : Its w B n (l' ++ l) := by
  induction l' with
  | nil => exact h.mono (Nat.le_refl _) hn
  | cons i r ih =>
    refine ⟨fun k hk => ⟨Nat.le_trans hB (h'.1 k hk).1, (h'.1 k hk).2⟩, h'.2.1, fun j hj k hk => ?_, ih h'.2.2.2⟩
    rcases List.mem_append.1 hj with hj | hj
    · exact h'.2.2.1 j hj k hk
    intro hf
    have h1 := (h'.1 k hk).1
    have h2 := ((h.all j hj).2 k hf).2
    omega
theorem Its.write (h : Its w B n l) (i' : It) (hF : ∀ k, i'.F k → i.F k) (hP : i'.P w1) (hk : ∀ k, k < n → ¬ i.F k → w1.heap[k]? = w.heap[k]?) : ∀ q, l[q]? = some i → Its w1 B n (l.set q i') := by
  induction l with
  | nil => intro q hq; simp at hq
  | cons j r ih =>
    intro q hq
    cases q with
    | zero =>
      simp only [List.getElem?_cons_zero, Option.some.injEq] at hq
      subst hq
      exact ⟨fun k hk' => h.1 k (hF k hk'), hP, fun x hx k hk' => h.2.2.1 x hx k (hF k hk'), h.2.2.2.move (fun x hx k hk' => hk k ((h.2.2.2.all x hx).2 k hk').2 (fun hi => h.2.2.1 x hx k hi hk'))⟩
    | succ q =>
      rw [List.getElem?_cons_succ] at hq
      have hm := List.mem_of_getElem? hq
      refine ⟨h.1, j.mv w w1 (fun k hk' => hk k (h.1 k hk').2 (fun hi => h.2.2.1 i hm k hk' hi)) h.2.1, fun x hx k hk' => ?_, ih h.2.2.2 q hq⟩
      rcases List.mem_or_eq_of_mem_set hx with hx | rfl
      · exact h.2.2.1 x hx k hk'
      exact fun hi => h.2.2.1 i hm k hk' (hF k hi)
def box (g : Nat) (cs : Array Value) (t : Nat) : It := ⟨fun w => w.heap[g]? = some (.cells cs t (0, 0)), fun k => k = g, fun _ _ hk h => (hk g rfl).trans h⟩
def row {α : Type} (d : Kd α) (e B : Nat) (v : Value) (xs : List α) (F : Nat → Prop) : It := ⟨fun w => Kd.S d e w B F v xs, F, fun _ _ hk h => Kd.S_move h hk⟩
structure St (w0 w : World) (l : List It) : Prop where
  b : Below w0.heap.size w0 w
  i : Its w w0.heap.size w.heap.size l
theorem St.start (w : World) : St w w [] := ⟨Below.refl _ _, trivial⟩
theorem St.step (h : St w0 w l) (hb : Below w.heap.size w w1) : St w0 w1 l :=
  ⟨below_step h.b hb, (h.i.move (fun j hj k hk => hb.block k ((h.i.all j hj).2 k hk).2)).mono (Nat.le_refl _) hb.size⟩
theorem St.drew (h : St w0 w l) : St w0 w.drew l := h.step (below_drew (Below.refl _ _))
theorem St.add (h : St w0 w l) (hb : Below w.heap.size w w1) {l' : List It} (hn : Its w1 w.heap.size w1.heap.size l') : St w0 w1 (l' ++ l) :=
  ⟨below_step h.b hb, hn.app (h.i.move (fun j hj k hk => hb.block k ((h.i.all j hj).2 k hk).2)) h.b.size hb.size⟩
theorem St.box (h : St w0 w l) (hg : g = w.heap.size) (hx : w1.heap[g]? = some (.cells cs t (0, 0))) (hb : Below w.heap.size w w1) : St w0 w1 (box g cs t :: l) :=
  h.add hb (l' := [LW.box g cs t]) ⟨fun k hk => by have : k = g := hk; subst this; exact ⟨by omega, blk_lt hx⟩, hx, fun j hj => (List.not_mem_nil hj).elim, trivial⟩
theorem St.alloc (h : St w0 w l) (cs : Array Value) (t : Nat) (hg : g = w.heap.size) : St w0 (w.alloc (.cells cs t)) (LW.box g cs t :: l) := h.box hg (by subst hg; simpa using blk_new w (.cells cs t)) (below_alloc (Below.refl _ _) _)
theorem St.lt (h : St w0 w l) (q : Nat) (hq : l[q]? = some (LW.box g cs t)) : g < w.heap.size := blk_lt (h.i.all _ (List.mem_of_getElem? hq)).1
theorem S_between (h : Kd.S d e w1 w.heap.size ok v xs) (h0 : w0.heap.size ≤ w.heap.size) : Kd.S d e w1 w0.heap.size (fun k => w.heap.size ≤ k ∧ k < w1.heap.size) v xs := Kd.S_lower (Kd.S_mono (Kd.S_bound h) (fun k hk => ⟨hk.2.1, hk.2.2.1⟩)) h0
theorem St.row (h : St w0 w l) (hb : Below w.heap.size w w1) (ho : Kd.S d e w1 w.heap.size ok v xs) : St w0 w1 (row d e w0.heap.size v xs (fun k => w.heap.size ≤ k ∧ k < w1.heap.size) :: l) :=
  h.add hb (l' := [LW.row d e w0.heap.size v xs (fun k => w.heap.size ≤ k ∧ k < w1.heap.size)]) ⟨fun k hk => hk, S_between ho h.b.size, fun j hj => (List.not_mem_nil hj).elim, trivial⟩
theorem S_flat (hE : d.E = []) (h : d.R e w B ok v xs) : Kd.S d e w B ok v xs := by
  obtain ⟨h0, inner, ho, hr⟩ := h
  refine ⟨fun _ => 0, h0, inner, by rw [List.length_zipIdx]; exact ho, by rw [List.length_zipIdx]; exact hr.1, fun j p hj => ?_⟩
  rw [List.getElem?_zipIdx, Nat.zero_add] at hj
  obtain ⟨x, hx, rfl⟩ := Option.map_eq_some_iff.1 hj
  refine d.M_mono (fun k hk => ?_) (d.M_bound (hr.2 j x hx))
  obtain ⟨_, _, _, q, hq, _⟩ := hk
  rw [hE] at hq
  cases hq
theorem St.rowR (h : St w0 w l) (hE : d.E = []) (hb : Below w.heap.size w w1) (ho : d.R e w1 w.heap.size ok v xs) : St w0 w1 (LW.row d e w0.heap.size v xs (fun k => w.heap.size ≤ k ∧ k < w1.heap.size) :: l) := h.row hb (S_flat hE ho)
theorem setCell_size (w : World) (p : Addr) (u : Value) : (w.setCell p u).heap.size = w.heap.size := by simp [World.setCell]
theorem St.set (h : St w0 w l) (q : Nat) (hq : l[q]? = some (LW.box g cs t)) (j : Nat) (u : Value) : St w0 (w.setCell ⟨g, j, none⟩ u) (l.set q (LW.box g (cs.setIfInBounds j u) t)) := by
  have hx := h.i.all _ (List.mem_of_getElem? hq)
  refine ⟨below_set h.b (hx.2 g rfl).1, ?_⟩
  rw [setCell_size]
  exact h.i.write (i := LW.box g cs t) (LW.box g (cs.setIfInBounds j u) t) (fun k hk => hk) (blk_set hx.1 j u) (fun k _ hk => Below.heap_setCell w ⟨g, j, none⟩ u k hk) q hq
theorem St.cell (h : St w0 w l) (q : Nat) (hq : l[q]? = some (LW.box g cs t)) (j : Nat) {u : Value} (hu : cs[j]? = some u) : w.cell? ⟨g, j, none⟩ = some u := (blk_cell (h.i.all _ (List.mem_of_getElem? hq)).1 j).trans hu
theorem St.blk (h : St w0 w l) (q : Nat) (hq : l[q]? = some (LW.box g cs t)) : w.heap[g]? = some (.cells cs t (0, 0)) := (h.i.all _ (List.mem_of_getElem? hq)).1
theorem St.frozen (h : St w0 w l) (q : Nat) (hq : l[q]? = some (LW.box g cs t)) (j : Nat) : w.frozen? ⟨g, j, none⟩ = false := blk_frozen (h.i.all _ (List.mem_of_getElem? hq)).1 j
theorem St.own (h : St w0 w l) (q : Nat) (hq : l[q]? = some (LW.row d e B v xs F)) : Kd.S d e w B F v xs := (h.i.all _ (List.mem_of_getElem? hq)).1
theorem St.reads {A : Option Addr} {m c : Nat} (h : St w0 w l) (q : Nat) (hq : l[q]? = some (LW.row d e B (.slice A m c) xs F)) : m = xs.length ∧ m ≤ c ∧ d.C w A xs.length xs := Kd.S_reads' (h.own q hq)
theorem St.write (h : St w0 w l) (q : Nat) (hq : l[q]? = some (LW.row d e w0.heap.size v xs F)) (hS : Kd.S d e w1 w0.heap.size F v ys) (hB : Below w0.heap.size w0 w1) (hk : Kept w w1 F) : St w0 w1 (l.set q (LW.row d e w0.heap.size v ys F)) := by
  have hx := h.i.all _ (List.mem_of_getElem? hq)
  exact ⟨hB, (h.i.write (i := LW.row d e w0.heap.size v xs F) (LW.row d e w0.heap.size v ys F) (fun k hk => hk) hS (fun k hlt hn => hk.2 k hlt hn) q hq).mono (Nat.le_refl _) hk.1⟩
theorem Its.disj : ∀ {l : List It}, Its w B n l → ∀ (p q : Nat) (i j : It), p ≠ q → l[p]? = some i → l[q]? = some j → ∀ k, i.F k → ¬ j.F k
  | [], _, p, q, i, j, _, hi, _ => by simp at hi
  | a :: r, h, 0, 0, i, j, hn, _, _ => absurd rfl hn
  | a :: r, h, 0, q + 1, i, j, hn, hi, hj => by
    rw [List.getElem?_cons_succ] at hj
    simp only [List.getElem?_cons_zero, Option.some.injEq] at hi
    subst hi
    exact h.2.2.1 j (List.mem_of_getElem? hj)
  | a :: r, h, p + 1, 0, i, j, hn, hi, hj => by
    rw [List.getElem?_cons_succ] at hi
    simp only [List.getElem?_cons_zero, Option.some.injEq] at hj
    subst hj
    exact fun k hk hf => h.2.2.1 i (List.mem_of_getElem? hi) k hf hk
  | a :: r, h, p + 1, q + 1, i, j, hn, hi, hj => by
    rw [List.getElem?_cons_succ] at hi hj
    exact Its.disj h.2.2.2 p q i j (by omega) hi hj
theorem St.ne {g' t' : Nat} {cs' : Array Value} (h : St w0 w l) (p q : Nat) (hn : p ≠ q) (hp : l[p]? = some (LW.box g cs t)) (hq : l[q]? = some (LW.box g' cs' t')) : g ≠ g' := fun he => Its.disj h.i p q _ _ hn hp hq g rfl he
def gone : It := ⟨fun _ => True, fun _ => False, fun _ _ _ _ => trivial⟩
theorem Its.of : ∀ {l : List It}, (∀ (q : Nat) (i : It), l[q]? = some i → (∀ k, i.F k → B ≤ k ∧ k < n) ∧ i.P w) → (∀ (p q : Nat) (i j : It), p < q → l[p]? = some i → l[q]? = some j → ∀ k, i.F k → ¬ j.F k) → Its w B n l
  | [], _, _ => trivial
  | a :: r, h1, h2 => ⟨(h1 0 a rfl).1, (h1 0 a rfl).2, fun j hj => by
      obtain ⟨q, hq⟩ := List.mem_iff_getElem?.1 hj
      exact h2 0 (q + 1) a j (by omega) rfl (by rw [List.getElem?_cons_succ]; exact hq), Its.of (fun q i hq => h1 (q + 1) i (by rw [List.getElem?_cons_succ]; exact hq)) (fun p q i j hpq hp hq => h2 (p + 1) (q + 1) i j (by omega) (by rw [List.getElem?_cons_succ]; exact hp) (by rw [List.getElem?_cons_succ]; exact hq))⟩
theorem St.merge (h : St w0 w l) (q p : Nat) (hn : q ≠ p) {i j : It} (hq : l[q]? = some i) (hp : l[p]? = some j) (i' : It) (hF : ∀ k, i'.F k → i.F k ∨ j.F k) (hP : i'.P w1) (hB : Below w0.heap.size w0 w1) (hkp : Kept w w1 i.F) : St w0 w1 ((l.set q i').set p gone) := by
  have hql : q < l.length := (List.getElem?_eq_some_iff.1 hq).1
  have hpl : p < l.length := (List.getElem?_eq_some_iff.1 hp).1
  have hI := h.i.all i (List.mem_of_getElem? hq)
  have hJ := h.i.all j (List.mem_of_getElem? hp)
  have look : ∀ (m : Nat) (x : It), ((l.set q i').set p gone)[m]? = some x → (m = p ∧ x = gone) ∨ (m ≠ p ∧ m = q ∧ x = i') ∨ (m ≠ p ∧ m ≠ q ∧ l[m]? = some x) := by
    intro m x hm
    by_cases e1 : m = p
    · subst e1
      rw [List.getElem?_set_self (by simpa using hpl)] at hm
      exact .inl ⟨rfl, (Option.some.inj hm).symm⟩
    rw [List.getElem?_set_ne (Ne.symm e1)] at hm
    by_cases e2 : m = q
    · subst e2
      rw [List.getElem?_set_self hql] at hm
      exact .inr (.inl ⟨e1, rfl, (Option.some.inj hm).symm⟩)
    rw [List.getElem?_set_ne (Ne.symm e2)] at hm
    exact .inr (.inr ⟨e1, e2, hm⟩)
  have apart : ∀ (m : Nat) (x : It), m ≠ p → m ≠ q → l[m]? = some x → ∀ k, x.F k → ¬ i.F k ∧ ¬ j.F k := fun m x e1 e2 hm k hk => ⟨Its.disj h.i m q x i e2 hm hq k hk, Its.disj h.i m p x j e1 hm hp k hk⟩
  refine ⟨hB, Its.of (fun m x hm0 => ?_) (fun m m' x y hlt hm0 hm0' => ?_)⟩
  · rcases look m x hm0 with ⟨_, rfl⟩ | ⟨_, _, rfl⟩ | ⟨e1, e2, hm⟩
    · exact ⟨fun k hk => hk.elim, trivial⟩
    · refine ⟨fun k hk => ?_, hP⟩
      rcases hF k hk with h2 | h2
      · exact ⟨(hI.2 k h2).1, Nat.lt_of_lt_of_le (hI.2 k h2).2 hkp.1⟩
      exact ⟨(hJ.2 k h2).1, Nat.lt_of_lt_of_le (hJ.2 k h2).2 hkp.1⟩
    have hX := h.i.all x (List.mem_of_getElem? hm)
    exact ⟨fun k hkx => ⟨(hX.2 k hkx).1, Nat.lt_of_lt_of_le (hX.2 k hkx).2 hkp.1⟩, x.mv w w1 (fun k hkx => hkp.2 k (hX.2 k hkx).2 (apart m x e1 e2 hm k hkx).1) hX.1⟩
  intro k hx hy
  rcases look m x hm0 with ⟨_, rfl⟩ | ⟨_, e, rfl⟩ | ⟨e1, e2, hm⟩
  · exact hx
  · rcases look m' y hm0' with ⟨_, rfl⟩ | ⟨_, e', rfl⟩ | ⟨e1', e2', hm'⟩
    · exact hy
    · omega
    rcases hF k hx with h2 | h2
    · exact (apart m' y e1' e2' hm' k hy).1 h2
    exact (apart m' y e1' e2' hm' k hy).2 h2
  rcases look m' y hm0' with ⟨_, rfl⟩ | ⟨_, e', rfl⟩ | ⟨e1', e2', hm'⟩
  · exact hy
  · rcases hF k hy with h2 | h2
    · exact (apart m x e1 e2 hm k hx).1 h2
    exact (apart m x e1 e2 hm k hx).2 h2
  exact Its.disj h.i m m' x y (by omega) hm hm' k hx hy
end Go.Proofs.YtcgojdhbphocgaaDoor.LW

namespace Go.Proofs.YtcgojdhbphocgaaDoor.LW
open Go.RowKit Go.Proofs.YtcgojdhbphocgaaDoorW.PrintWords Go.Proofs.YtcgojdhbphocgaaDoorW.PrintLast Go.Proofs.YtcgojdhbphocgaaDoorW.PrintMore
set_option linter.unusedVariables false
set_option linter.unusedSimpArgs false
theorem St.grow {w0 w w1 : World} {l : List It} {i : It} (h : St w0 w l) (q : Nat) (hq : l[q]? = some i) (i' : It) (hF : ∀ k, i'.F k → i.F k ∨ (w.heap.size ≤ k ∧ k < w1.heap.size)) (hP : i'.P w1) (hB : Below w0.heap.size w0 w1) (hk : Kept w w1 i.F) : St w0 w1 (l.set q i') := by
  have hql : q < l.length := (List.getElem?_eq_some_iff.1 hq).1
  have hI := h.i.all i (List.mem_of_getElem? hq)
  have look : ∀ (m : Nat) (x : It), (l.set q i')[m]? = some x → (m = q ∧ x = i') ∨ (m ≠ q ∧ l[m]? = some x) := by
    intro m x hm
    by_cases e : m = q
    · subst e
      rw [List.getElem?_set_self hql] at hm
      exact .inl ⟨rfl, (Option.some.inj hm).symm⟩
    rw [List.getElem?_set_ne (Ne.symm e)] at hm
    exact .inr ⟨e, hm⟩
  refine ⟨hB, Its.of (fun m x hm => ?_) (fun m m' x y hlt hm hm' k hx hy => ?_)⟩
  · rcases look m x hm with ⟨_, rfl⟩ | ⟨e, hm⟩
    · refine ⟨fun k hkx => ?_, hP⟩
      rcases hF k hkx with h2 | h2
      · exact ⟨(hI.2 k h2).1, Nat.lt_of_lt_of_le (hI.2 k h2).2 hk.1⟩
      exact ⟨Nat.le_trans h.b.size h2.1, h2.2⟩
    have hX := h.i.all x (List.mem_of_getElem? hm)
    exact ⟨fun k hkx => ⟨(hX.2 k hkx).1, Nat.lt_of_lt_of_le (hX.2 k hkx).2 hk.1⟩, x.mv w w1 (fun k hkx => hk.2 k (hX.2 k hkx).2 (fun hi => Its.disj h.i m q x i e hm hq k hkx hi)) hX.1⟩
  rcases look m x hm with ⟨e, hxe⟩ | ⟨e, hm2⟩
  · rcases look m' y hm' with ⟨e', _⟩ | ⟨e', hm3⟩
    · omega
    rw [hxe] at hx
    rcases hF k hx with h2 | h2
    · exact Its.disj h.i m' q y i e' hm3 hq k hy h2
    have := ((h.i.all y (List.mem_of_getElem? hm3)).2 k hy).2
    omega
  rcases look m' y hm' with ⟨e', hye⟩ | ⟨e', hm3⟩
  · rw [hye] at hy
    rcases hF k hy with h2 | h2
    · exact Its.disj h.i m q x i e hm2 hq k hx h2
    have := ((h.i.all x (List.mem_of_getElem? hm2)).2 k hx).2
    omega
  exact Its.disj h.i m m' x y (by omega) hm2 hm3 k hx hy
end Go.Proofs.YtcgojdhbphocgaaDoor.LW
namespace Go.Proofs.YtcgojdhbphocgaaDoor.F
open Go.RowKit Go.Proofs.YtcgojdhbphocgaaDoorW.PrintWords Go.Proofs.YtcgojdhbphocgaaDoorW.PrintLast Go.Proofs.YtcgojdhbphocgaaDoorW.PrintMore
open Go.Proofs.YtcgojdhbphocgaaDoor
set_option linter.unusedVariables false
set_option linter.unusedSimpArgs false
theorem cell_blk {w w1 : World} {g o : Nat} (h : w1.heap[g]? = w.heap[g]?) : w1.cell? ⟨g, o, none⟩ = w.cell? ⟨g, o, none⟩ := by
  simp only [World.cell?, h]
theorem frozen_blk {w w1 : World} {g o : Nat} (h : w1.heap[g]? = w.heap[g]?) : w1.frozen? ⟨g, o, none⟩ = w.frozen? ⟨g, o, none⟩ := by
  simp only [World.frozen?, h]
theorem blk_lt_of {w : World} {g o : Nat} {v : Value} (h : w.cell? ⟨g, o, none⟩ = some v) : g < w.heap.size := Zi w _ h
theorem lendLoose {w0 w : World} {l : List LW.It} {g n c : Nat} {xs : List S55} {F : Nat → Prop} (h : LW.St w0 w l) (q : Nat) (hq : l[q]? = some (LW.row k55 55 w0.heap.size (.slice (some ⟨g, 0, none⟩) n c) xs F)) (i : Int) (h0 : 0 ≤ i) (h1 : i < n) :
    ∃ (u1 u2 : Value) (ok2 : Nat → Prop), w.cell? ⟨g, i.toNat * 3, none⟩ = some (.string (rd_T55 xs i).f0) ∧ w.cell? ⟨g, i.toNat * 3 + 1, none⟩ = some u1 ∧ w.cell? ⟨g, i.toNat * 3 + 2, none⟩ = some u2 ∧ w.frozen? ⟨g, i.toNat * 3 + 2, none⟩ = false ∧ Kd.R (Kd.int .u8) 5 w w0.heap.size ok2 u2 (rd_T55 xs i).f2 ∧ (∀ k, ok2 k → k ≠ g) ∧ (∀ k, u2.ownBlock = some k → F k) ∧
      ∀ (v1 : Value) (w1 : World) (zs : List Int), (∀ ok : Nat → Prop, (∀ k, v1.ownBlock = some k → ok k) → Kd.R (Kd.int .u8) 5 w1 w0.heap.size ok v1 zs) → Below w0.heap.size w0 w1 → w.grownBy w1 u2.ownBlock → (v1.ownBlock = u2.ownBlock ∨ ∃ b, v1.ownBlock = some b ∧ w.heap.size ≤ b) →
        LW.St w0 (w1.setCell ⟨g, i.toNat * 3 + 2, none⟩ v1) (l.set q (LW.row k55 55 w0.heap.size (.slice (some ⟨g, 0, none⟩) n c) (xs.set i.toNat ⟨(rd_T55 xs i).f0, (rd_T55 xs i).f1, zs⟩) (fun k => F k ∨ (w.heap.size ≤ k ∧ k < w1.heap.size)))) := by
  have hS := h.own q hq
  have hFg : F g := (Kd.S_R hS).1 g (by simp [Value.ownBlock])
  have hbg := (h.i.all _ (List.mem_of_getElem? hq)).2 g hFg
  obtain ⟨oki, cs, hcl, hM, hcc, hfr, hoki, hH⟩ := Kd.S_elem (Kd.S_mono hS (fun k hk => (.inl hk : F k ∨ w.heap.size ≤ k))) z55 i h0 h1
  obtain ⟨pp, u1, u2, rfl, hA1, hA2⟩ := k55_openA hM
  refine ⟨u1, u2, fun k => oki k ∧ ¬ pp k, hcc 0 _ rfl, hcc 1 _ rfl, hcc 2 _ rfl, hfr 2, hA2, fun k hk => (hoki k hk.1).2, fun k hk => ((hoki k (hA2.1 k hk).1).1).elim id (fun a => absurd (Kd.R_lt hA2 k hk) (by omega)), fun v1 w1 zs hR hB hg hat => ?_⟩
  have hu2 : ∀ k, u2.ownBlock = some k → oki k := fun k hk => (hA2.1 k hk).1
  have H1 := Kd.H_grown (Kd.H_widen hH) hg (fun k hk => .inl (hu2 k hk))
  have hR1 : Kd.R (Kd.int .u8) 5 w1 w0.heap.size (fun k => oki k ∨ w.heap.size ≤ k) u1 (xs.getD i.toNat z55).f1 := Kd.R_mono (Kd.R_step hA1 (fun k hk hlt => hg.block k hlt (fun he => (hA2.1 k he.symm).2 hk.2))) (fun k hk => .inl hk.1)
  have hR2 := hR (fun k => oki k ∨ w.heap.size ≤ k) (fun k hk => by
    rcases hat with e | ⟨b, e, hb⟩
    · exact .inl (hu2 k (e ▸ hk))
    rw [e] at hk
    injection hk with hk
    exact .inr (hk ▸ hb))
  have hne : ∀ k, some k = u1.ownBlock → ¬ some k = v1.ownBlock := fun k a b => by
    rcases hat with e | ⟨b', e, hb⟩
    · rw [e] at b
      exact (hA2.1 k b.symm).2 (hA1.1 k a.symm).2
    rw [e] at b
    injection b with b
    have := Kd.R_lt hA1 k a.symm
    omega
  have hM1 := k55_mkM w1 w0.heap.size (fun k => oki k ∨ w.heap.size ≤ k) (⟨(xs.getD i.toNat z55).f0, (xs.getD i.toNat z55).f1, zs⟩ : S55) hR1 hR2 hne
  have hP := Kd.S_seg (okg := fun _ => False) (seg := [v1]) (j := 2) (x' := (⟨(xs.getD i.toNat z55).f0, (xs.getD i.toNat z55).f1, zs⟩ : S55)) (Kd.H_mono H1 (fun k hk => (⟨hk, fun hf => hf⟩ : (F k ∨ w.heap.size ≤ k) ∧ ¬ False))) h0 h1 (show 2 + 1 ≤ 3 by decide) hM1 (fun k hk => hk.elim (fun a => .inl (.inl a)) (fun a => .inl (.inr ⟨.inr a, a⟩))) (fun k hk => hk.elim)
  have hPS : Kd.S k55 55 (w1.setCell ⟨g, i.toNat * 3 + 2, none⟩ v1) w0.heap.size (fun k => F k ∨ w.heap.size ≤ k) (.slice (some ⟨g, 0, none⟩) n c) (xs.set i.toNat ⟨(xs.getD i.toNat z55).f0, (xs.getD i.toNat z55).f1, zs⟩) := hP.1
  refine h.grow q hq (LW.row k55 55 w0.heap.size (.slice (some ⟨g, 0, none⟩) n c) (xs.set i.toNat ⟨(xs.getD i.toNat z55).f0, (xs.getD i.toNat z55).f1, zs⟩) (fun k => F k ∨ (w.heap.size ≤ k ∧ k < w1.heap.size))) (fun k hk => ?_) (Kd.S_mono (Kd.S_bound hPS) (fun k hk => ?_)) (Zg hB hbg.1) ⟨?_, fun k hk hn => ?_⟩
  · rw [LW.setCell_size]; exact hk
  · have h2 := hk.2.2.1
    rw [LW.setCell_size] at h2
    exact hk.1.elim .inl (fun a => .inr ⟨a, h2⟩)
  · rw [LW.setCell_size]; exact hg.size
  rw [Below.heap_setCell _ _ _ k (fun he => hn (by rw [he]; exact hFg))]
  exact hg.block k hk (fun he => hn (by
    have := hu2 k he.symm
    rcases (hoki k this).1 with a | a
    · exact a
    omega))
end Go.Proofs.YtcgojdhbphocgaaDoor.F

namespace Go.Proofs.YtcgojdhbphocgaaDoor.F
open Go.RowKit Go.Proofs.YtcgojdhbphocgaaDoorW.PrintWords Go.Proofs.YtcgojdhbphocgaaDoorW.PrintLast Go.Proofs.YtcgojdhbphocgaaDoorW.PrintMore
open Go.Proofs.YtcgojdhbphocgaaDoor
set_option linter.unusedVariables false
set_option linter.unusedSimpArgs false
theorem lendSynced {w0 w : World} {l : List LW.It} {g n c : Nat} {xs : List S55} {F : Nat → Prop} (h : LW.St w0 w l) (q : Nat) (hq : l[q]? = some (LW.row k55 55 w0.heap.size (.slice (some ⟨g, 0, none⟩) n c) xs F)) (i : Int) (h0 : 0 ≤ i) (h1 : i < n) :
    ∃ (u1 u2 : Value) (ok1 ok2 : Nat → Prop), w.cell? ⟨g, i.toNat * 3, none⟩ = some (.string (rd_T55 xs i).f0) ∧ w.cell? ⟨g, i.toNat * 3 + 1, none⟩ = some u1 ∧ w.cell? ⟨g, i.toNat * 3 + 2, none⟩ = some u2 ∧ w.frozen? ⟨g, i.toNat * 3 + 1, none⟩ = false ∧ w.frozen? ⟨g, i.toNat * 3 + 2, none⟩ = false ∧ Kd.R (Kd.int .u8) 5 w w0.heap.size ok1 u1 (rd_T55 xs i).f1 ∧ Kd.R (Kd.int .u8) 5 w w0.heap.size ok2 u2 (rd_T55 xs i).f2 ∧ (∀ k, ok1 k → k ≠ g) ∧ (∀ k, u1.ownBlock = some k → F k) ∧
      ∀ (v1 : Value) (w1 : World) (zs : List Int), (∀ ok : Nat → Prop, (∀ k, v1.ownBlock = some k → ok k) → Kd.R (Kd.int .u8) 5 w1 w0.heap.size ok v1 zs) → Below w0.heap.size w0 w1 → w.grownBy w1 u1.ownBlock → (v1.ownBlock = u1.ownBlock ∨ ∃ b, v1.ownBlock = some b ∧ w.heap.size ≤ b) →
        LW.St w0 ((w1.setCell ⟨g, i.toNat * 3 + 1, none⟩ v1).setCell ⟨g, i.toNat * 3 + 2, none⟩ (.slice none 0 0)) (l.set q (LW.row k55 55 w0.heap.size (.slice (some ⟨g, 0, none⟩) n c) (xs.set i.toNat ⟨(rd_T55 xs i).f0, zs, []⟩) (fun k => F k ∨ (w.heap.size ≤ k ∧ k < w1.heap.size)))) := by
  have hS := h.own q hq
  have hFg : F g := (Kd.S_R hS).1 g (by simp [Value.ownBlock])
  have hbg := (h.i.all _ (List.mem_of_getElem? hq)).2 g hFg
  obtain ⟨oki, cs, hcl, hM, hcc, hfr, hoki, hH⟩ := Kd.S_elem (Kd.S_mono hS (fun k hk => (.inl hk : F k ∨ w.heap.size ≤ k))) z55 i h0 h1
  obtain ⟨pp, u1, u2, rfl, hA1, hA2⟩ := k55_openA hM
  refine ⟨u1, u2, fun k => oki k ∧ pp k, fun k => oki k ∧ ¬ pp k, hcc 0 _ rfl, hcc 1 _ rfl, hcc 2 _ rfl, hfr 1, hfr 2, hA1, hA2, fun k hk => (hoki k hk.1).2, fun k hk => ((hoki k (hA1.1 k hk).1).1).elim id (fun a => absurd (Kd.R_lt hA1 k hk) (by omega)), fun v1 w1 zs hR hB hg hat => ?_⟩
  have hu1 : ∀ k, u1.ownBlock = some k → oki k := fun k hk => (hA1.1 k hk).1
  have H1 := Kd.H_grown (Kd.H_widen hH) hg (fun k hk => .inl (hu1 k hk))
  have hR1 := hR (fun k => oki k ∨ w.heap.size ≤ k) (fun k hk => by
    rcases hat with e | ⟨b, e, hb⟩
    · exact .inl (hu1 k (e ▸ hk))
    rw [e] at hk
    injection hk with hk
    exact .inr (hk ▸ hb))
  have hM1 := k55_mkM w1 w0.heap.size (fun k => oki k ∨ w.heap.size ≤ k) (⟨(xs.getD i.toNat z55).f0, zs, []⟩ : S55) hR1 (Kd.R_nil _ _ _ _ _) AP.nil_ne
  have hP := Kd.S_seg (okg := fun _ => False) (seg := [v1, .slice none 0 0]) (j := 1) (x' := (⟨(xs.getD i.toNat z55).f0, zs, []⟩ : S55)) (Kd.H_mono H1 (fun k hk => (⟨hk, fun hf => hf⟩ : (F k ∨ w.heap.size ≤ k) ∧ ¬ False))) h0 h1 (show 1 + 2 ≤ 3 by decide) hM1 (fun k hk => hk.elim (fun a => .inl (.inl a)) (fun a => .inl (.inr ⟨.inr a, a⟩))) (fun k hk => hk.elim)
  have hPS : Kd.S k55 55 ((w1.setCell ⟨g, i.toNat * 3 + 1, none⟩ v1).setCell ⟨g, i.toNat * 3 + 2, none⟩ (.slice none 0 0)) w0.heap.size (fun k => F k ∨ w.heap.size ≤ k) (.slice (some ⟨g, 0, none⟩) n c) (xs.set i.toNat ⟨(xs.getD i.toNat z55).f0, zs, []⟩) := hP.1
  refine h.grow q hq (LW.row k55 55 w0.heap.size (.slice (some ⟨g, 0, none⟩) n c) (xs.set i.toNat ⟨(xs.getD i.toNat z55).f0, zs, []⟩) (fun k => F k ∨ (w.heap.size ≤ k ∧ k < w1.heap.size))) (fun k hk => ?_) (Kd.S_mono (Kd.S_bound hPS) (fun k hk => ?_)) (Zg (Zg hB hbg.1) hbg.1) ⟨?_, fun k hk hn => ?_⟩
  · rw [LW.setCell_size, LW.setCell_size]; exact hk
  · have h2 := hk.2.2.1
    rw [LW.setCell_size, LW.setCell_size] at h2
    exact hk.1.elim .inl (fun a => .inr ⟨a, h2⟩)
  · rw [LW.setCell_size, LW.setCell_size]; exact hg.size
  rw [Below.heap_setCell _ _ _ k (fun he => hn (by rw [he]; exact hFg)), Below.heap_setCell _ _ _ k (fun he => hn (by rw [he]; exact hFg))]
  exact hg.block k hk (fun he => hn (by
    have := hu1 k he.symm
    rcases (hoki k this).1 with a | a
    · exact a
    omega))
end Go.Proofs.YtcgojdhbphocgaaDoor.F

namespace Go.Proofs.YtcgojdhbphocgaaDoor.F
open Go.Proofs.YtcgojdhbphocgaaDoor
open Go.RowKit Go.Proofs.YtcgojdhbphocgaaDoorW.PrintWords Go.Proofs.YtcgojdhbphocgaaDoorW.PrintWords.Kd Go.Proofs.YtcgojdhbphocgaaDoorW.PrintMore.Kd Go.Proofs.YtcgojdhbphocgaaDoorW.PrintLast Go.Proofs.YtcgojdhbphocgaaDoorW.PrintMore
attribute [local go_sem] max2_int min2_int max_two min_two max_three min_three max_four min_four   -- for this text's walks alone
set_option linter.unusedVariables false
set_option linter.unusedSimpArgs false
def impl_copyDisk.l0 : Nat → List (S55) → Int → Int → List (S55) → Option ((List (S55)))
 | 0, _, _, _, _ => none
 | k + 1, x8, x9, x10, x187000 => if x10 < x9 then (if 0 ≤ x10 then (if x10 < (x8.length : Int) then ((some (([] : List Int) : List Int)).bind fun y189 => (if y189.length + ((rd_T55 x8 x10).f1).length < 140737488355328 then ((some (([] : List Int) : List Int)).bind fun y195 => (if y195.length + ((rd_T55 x8 x10).f2).length < 140737488355328 then (if x187000.length < 2199023255552 then (impl_copyDisk.l0 k x8 x9 (wrap64 (x10 + 1)) (x187000 ++ [(⟨(rd_T55 x8 x10).f0, (y189 ++ ((rd_T55 x8 x10).f1)), (y195 ++ ((rd_T55 x8 x10).f2))⟩ : S55)])) else (none)) else (none))) else (none))) else (none)) else (none)) else (some x187000)
def impl_copyDisk.f (k : Nat) (l0_0 : List (S55)) : Option ((List (S55))) := impl_copyDisk.l0 k l0_0 (l0_0.length : Int) 0 ([] : List (S55))
def impl_copyDisk.T5 : Bool × List (List Nat × List Nat) := (true, [([], []), ([0], [0]), ([], []), ([2], [2]), ([], []), ([], []), ([5], [5]), ([4, 6], [4, 6]), ([], []), ([], []), ([9], [9]), ([8, 10, 7], [8, 10]), ([3, 7, 11], [3, 7, 11]), ([12], [12]), ([1, 13, 11], [1, 13]), ([0, 1, 2, 3, 4, 5, 6, 7, 8, 9, 10, 11, 12, 13, 14], []), ([15, 14, 14, 0, 1, 2, 3, 4, 5, 6, 7, 8, 9, 10, 11, 12, 13, 14], [14, 15])])
def impl_copyDisk.B5 : List Nat := [0, 1, 0, 4, 0, 0, 32, 112, 0, 0, 512, 2032, 4092, 8188, 16383, 32767, 65535]
theorem impl_copyDisk.tab5 : rtab .any (opsOf Tryd.f56 5) = impl_copyDisk.T5 := by kernel_rfl
theorem impl_copyDisk.bits5 : waitsOk impl_copyDisk.T5.2 impl_copyDisk.B5 = true := by kernel_rfl
set_option maxHeartbeats 8000000 in
set_option maxRecDepth 100000 in
theorem impl_copyDisk.calls (k : Nat) (A0_0 : Option Addr) (c0_0 : Nat) (l0_0 : List (S55)) (r : List (S55)) (w : World) (hr0_0 : Kd.C k55 w A0_0 l0_0.length l0_0) (hc0_0 : l0_0.length ≤ c0_0) (h : impl_copyDisk.f k l0_0 = some r) :
  Calls Tryd.prog 56 #[.agg #[.slice A0_0 l0_0.length c0_0]] w fun e w' => ∃ v0_ : Value, e = .returned (.agg #[v0_]) ∧ Kd.S k55 55 w' w.heap.size (fun _ => True) v0_ r ∧ Below w.heap.size w w' := by
 have hu28 := Tryd.underlying28
 have hu55 := Tryd.underlying55
 have HR0_0 := Zh hr0_0
 have HC0_0 := Zh hc0_0
 clear hr0_0 hc0_0
 have HB := Zh (Below.refl w.heap.size w)
 have H : (impl_copyDisk.l0 k l0_0 (l0_0.length : Int) 0 ([] : List (S55))) = some r := h
 clear h
 have H' := Zh H
 clear H
 go_enter Tryd.func56, Tryd.ntmps56
 go_wp2_with (first | ((with_reducible refine gate_dst (N := 1) rfl ?_); refine box_event ?hg (N := 1) ?hd (cs := #[.slice A0_0 l0_0.length c0_0]) (t := 28) ?hr ?_; (case hd => rfl); (case hg => rfl); (case hr => first | (go_simp; done) | (go_simp; rfl)); intro gb184 hg w2 hbox hb; have BK184 := Zh (hbox); have GW184 := Zh ((by rw [hg]; exact (below_size Zs) : w.heap.size ≤ gb184)); have GE184 := Zh ((by rw [hg]; exact (below_size Zs) : w.heap.size ≤ gb184)); replace HB := Zh (Zl Zs hb); clear hb hbox hg) | ((with_reducible refine gate_dst (N := 2) rfl ?_); refine box_event ?hg (N := 2) ?hd (cs := #[.slice none 0 0]) (t := 28) ?hr ?_; (case hd => rfl); (case hg => rfl); (case hr => first | (go_simp; done) | (go_simp; rfl)); intro gb185 hg w3 hbox hb; have BK185 := Zh (hbox); have GW185 := Zh ((by rw [hg]; exact (below_size Zs) : w.heap.size ≤ gb185)); have GE185 := Zh ((by rw [hg]; exact (below_size Zs) : w.heap.size ≤ gb185)); replace HB := Zh (Zl Zs hb); have NB184_185 := Zh ((by rw [hg]; exact Nat.ne_of_lt (blk_lt (g := gb184) (o := .cells #[.slice A0_0 l0_0.length c0_0] 28 (0, 0)) Zk) : gb184 ≠ gb185)); have NB185_184 := Zh ((by rw [hg]; exact Nat.ne_of_gt (blk_lt (g := gb184) (o := .cells #[.slice A0_0 l0_0.length c0_0] 28 (0, 0)) Zk) : gb185 ≠ gb184)); replace BK184 := Zh (Zm (g := gb184) (o := .cells #[.slice A0_0 l0_0.length c0_0] 28 (0, 0)) Zk hb); clear hb hbox hg) | ((with_reducible refine gate_dst (N := 3) rfl ?_); refine box_event ?hg (N := 3) ?hd (cs := #[.slice none 0 0]) (t := 28) ?hr ?_; (case hd => rfl); (case hg => rfl); (case hr => first | (go_simp; done) | (go_simp; rfl)); intro gb186 hg w4 hbox hb; have BK186 := Zh (hbox); have GW186 := Zh ((by rw [hg]; exact (below_size Zs) : w.heap.size ≤ gb186)); have GE186 := Zh ((by rw [hg]; exact (below_size Zs) : w.heap.size ≤ gb186)); replace HB := Zh (Zl Zs hb); have NB184_186 := Zh ((by rw [hg]; exact Nat.ne_of_lt (blk_lt (g := gb184) (o := .cells #[.slice A0_0 l0_0.length c0_0] 28 (0, 0)) Zk) : gb184 ≠ gb186)); have NB186_184 := Zh ((by rw [hg]; exact Nat.ne_of_gt (blk_lt (g := gb184) (o := .cells #[.slice A0_0 l0_0.length c0_0] 28 (0, 0)) Zk) : gb186 ≠ gb184)); replace BK184 := Zh (Zm (g := gb184) (o := .cells #[.slice A0_0 l0_0.length c0_0] 28 (0, 0)) Zk hb); have NB185_186 := Zh ((by rw [hg]; exact Nat.ne_of_lt (blk_lt (g := gb185) (o := .cells #[.slice none 0 0] 28 (0, 0)) Zk) : gb185 ≠ gb186)); have NB186_185 := Zh ((by rw [hg]; exact Nat.ne_of_gt (blk_lt (g := gb185) (o := .cells #[.slice none 0 0] 28 (0, 0)) Zk) : gb186 ≠ gb185)); replace BK185 := Zh (Zm (g := gb185) (o := .cells #[.slice none 0 0] 28 (0, 0)) Zk hb); clear hb hbox hg; have hnb5 := NB186_184.out; have hnc5 := NB184_186.out; have hnb6 := NB186_185.out; have hnc6 := NB185_186.out; have hcz7_0 : w4.cell? ⟨gb186, 0, none⟩ = some (.slice none 0 0) := (blk_cell BK186.out 0).trans rfl; have hfz7_0 := Zn BK186.out 0; have hnb8 := NB184_185.out; have hnc8 := NB185_184.out; have hcz9_0 : w4.cell? ⟨gb184, 0, none⟩ = some (.slice A0_0 l0_0.length c0_0) := (blk_cell BK184.out 0).trans rfl; have hfz9_0 := Zn BK184.out 0))
 go_loopg [10] k (fun kq v10 w' => ∃ (x10_1 : Int) (x187000_1 : List (S55)) (u187000 : Value), v10 = .int .i64 x10_1 ∧ Aside0 (impl_copyDisk.l0 kq l0_0 (l0_0.length : Int) x10_1 x187000_1 = some r) ∧ Aside0 (kq ≤ k) ∧ Aside0 (Kd.S k55 55 w' w.heap.size (fun _ => True) u187000 x187000_1) ∧ Aside0 (w'.heap[gb184]? = some (.cells #[(.slice A0_0 l0_0.length c0_0)] 28 (0, 0))) ∧ Aside0 (w'.heap[gb185]? = some (.cells #[(.slice none 0 0)] 28 (0, 0))) ∧ Aside0 (w'.heap[gb186]? = some (.cells #[u187000] 28 (0, 0))) ∧ Aside0 (Below w.heap.size w w'))
 case atStart => exact ⟨(0), (([] : List (S55))), (.slice none 0 0), (by first | rfl | (simp; done) | (simp [*]; done)), H', ⟨Nat.le_refl _⟩, ⟨by first | exact S_nil _ _ _ _ _ | exact N_nil _ _ _ _ _ | exact V_nil _ _ _ _ _ | exact Q_nil _ _ _ _ _ | exact R_nil _ _ _ _ _⟩, ⟨by (with_reducible repeat (first | refine Za ?_ _ | refine Zb ?_ | refine blk_alloc ?_ _)); refine blk_far ?_ NB184_186.out _; (with_reducible repeat (first | refine Za ?_ _ | refine Zb ?_ | refine blk_alloc ?_ _)); exact BK184.out⟩, ⟨by (with_reducible repeat (first | refine Za ?_ _ | refine Zb ?_ | refine blk_alloc ?_ _)); refine blk_far ?_ NB185_186.out _; (with_reducible repeat (first | refine Za ?_ _ | refine Zb ?_ | refine blk_alloc ?_ _)); exact BK185.out⟩, ⟨by (with_reducible repeat (first | refine Za ?_ _ | refine Zb ?_ | refine blk_alloc ?_ _)); refine blk_put (cs := #[.slice none 0 0]) ?_ 0 _ rfl; (with_reducible repeat (first | refine Za ?_ _ | refine Zb ?_ | refine blk_alloc ?_ _)); exact BK186.out⟩, ⟨Zs⟩⟩
 case round =>
  clear H'
  try clear p2
  try clear c5
  try clear c6
  try clear c8
  try clear hcz7_0
  try clear hcz9_0
  try clear hfz7_0
  try clear hfz9_0
  obtain ⟨x10_1, x187000_1, u187000, rfl, HA, HK1, HO_187000, BK184, BK185, BK186, HB⟩ := hrel
  cases gk with
  | zero => exact absurd HA.out (by simp [impl_copyDisk.l0])
  | succ k1 =>
   have H := HA.out
   clear HA
   simp only [impl_copyDisk.l0] at H
   by_cases c10 : x10_1 < (l0_0.length : Int)
   ·
    rw [if_pos c10] at H
    have c10b0 : decide (x10_1 < (l0_0.length : Int)) = true := decide_eq_true c10
    clear c10
    by_cases c11 : 0 ≤ x10_1
    ·
     rw [if_pos c11] at H
     have c11b0 : decide (0 ≤ x10_1) = true := decide_eq_true c11
     clear c11
     by_cases c12 : x10_1 < (l0_0.length : Int)
     ·
      rw [if_pos c12] at H
      have c12b0 : decide (x10_1 < (l0_0.length : Int)) = true := decide_eq_true c12
      clear c12
      obtain ⟨y189, hy189⟩ : ∃ y_ : List Int, y_ = (([] : List Int)) := ⟨_, rfl⟩
      replace H : (if y189.length + ((rd_T55 l0_0 x10_1).f1).length < 140737488355328 then ((some (([] : List Int) : List Int)).bind fun y195 => (if y195.length + ((rd_T55 l0_0 x10_1).f2).length < 140737488355328 then (if x187000_1.length < 2199023255552 then (impl_copyDisk.l0 k1 l0_0 (l0_0.length : Int) (wrap64 (x10_1 + 1)) (x187000_1 ++ [(⟨(rd_T55 l0_0 x10_1).f0, (y189 ++ ((rd_T55 l0_0 x10_1).f1)), (y195 ++ ((rd_T55 l0_0 x10_1).f2))⟩ : S55)])) else (none)) else (none))) else (none)) = some r := by first | (rw [hy189]; with_reducible exact H) | (have H2_ := (Option.bind_some _ _).symm.trans H; rw [hy189]; with_reducible exact H2_) | (have H2_ := (Option.bind_some _ _).symm.trans H; with_reducible exact H2_) | with_reducible exact H | (rw [hy189]; exact H) | exact H
      have Ny189 := Zh hy189
      clear hy189
      by_cases c13 : y189.length + ((rd_T55 l0_0 x10_1).f1).length < 140737488355328
      ·
       rw [if_pos c13] at H
       have LMc13 := Zh c13
       clear c13
       obtain ⟨y192, hy192⟩ : ∃ y_ : List Int, y_ = (y189 ++ ((rd_T55 l0_0 x10_1).f1)) := ⟨_, rfl⟩
       replace H : ((some (([] : List Int) : List Int)).bind fun y195 => (if y195.length + ((rd_T55 l0_0 x10_1).f2).length < 140737488355328 then (if x187000_1.length < 2199023255552 then (impl_copyDisk.l0 k1 l0_0 (l0_0.length : Int) (wrap64 (x10_1 + 1)) (x187000_1 ++ [(⟨(rd_T55 l0_0 x10_1).f0, y192, (y195 ++ ((rd_T55 l0_0 x10_1).f2))⟩ : S55)])) else (none)) else (none))) = some r := by first | (rw [hy192]; with_reducible exact H) | (have H2_ := (Option.bind_some _ _).symm.trans H; rw [hy192]; with_reducible exact H2_) | (have H2_ := (Option.bind_some _ _).symm.trans H; with_reducible exact H2_) | with_reducible exact H | (rw [hy192]; exact H) | exact H
       have Ny192 := Zh hy192
       clear hy192
       obtain ⟨y195, hy195⟩ : ∃ y_ : List Int, y_ = (([] : List Int)) := ⟨_, rfl⟩
       replace H : (if y195.length + ((rd_T55 l0_0 x10_1).f2).length < 140737488355328 then (if x187000_1.length < 2199023255552 then (impl_copyDisk.l0 k1 l0_0 (l0_0.length : Int) (wrap64 (x10_1 + 1)) (x187000_1 ++ [(⟨(rd_T55 l0_0 x10_1).f0, y192, (y195 ++ ((rd_T55 l0_0 x10_1).f2))⟩ : S55)])) else (none)) else (none)) = some r := by first | (rw [hy195]; with_reducible exact H) | (have H2_ := (Option.bind_some _ _).symm.trans H; rw [hy195]; with_reducible exact H2_) | (have H2_ := (Option.bind_some _ _).symm.trans H; with_reducible exact H2_) | with_reducible exact H | (rw [hy195]; exact H) | exact H
       have Ny195 := Zh hy195
       clear hy195
       by_cases c14 : y195.length + ((rd_T55 l0_0 x10_1).f2).length < 140737488355328
       ·
        rw [if_pos c14] at H
        have LMc14 := Zh c14
        clear c14
        obtain ⟨y198, hy198⟩ : ∃ y_ : List Int, y_ = (y195 ++ ((rd_T55 l0_0 x10_1).f2)) := ⟨_, rfl⟩
        replace H : (if x187000_1.length < 2199023255552 then (impl_copyDisk.l0 k1 l0_0 (l0_0.length : Int) (wrap64 (x10_1 + 1)) (x187000_1 ++ [(⟨(rd_T55 l0_0 x10_1).f0, y192, y198⟩ : S55)])) else (none)) = some r := by first | (rw [hy198]; with_reducible exact H) | (have H2_ := (Option.bind_some _ _).symm.trans H; rw [hy198]; with_reducible exact H2_) | (have H2_ := (Option.bind_some _ _).symm.trans H; with_reducible exact H2_) | with_reducible exact H | (rw [hy198]; exact H) | exact H
        have Ny198 := Zh hy198
        clear hy198
        by_cases c15 : x187000_1.length < 2199023255552
        ·
         rw [if_pos c15] at H
         have LMc15 := Zh c15
         clear c15
         obtain ⟨y201, hy201⟩ : ∃ y_ : List (S55), y_ = (x187000_1 ++ [(⟨(rd_T55 l0_0 x10_1).f0, y192, y198⟩ : S55)]) := ⟨_, rfl⟩
         replace H : (impl_copyDisk.l0 k1 l0_0 (l0_0.length : Int) (wrap64 (x10_1 + 1)) y201) = some r := by first | (rw [hy201]; with_reducible exact H) | (have H2_ := (Option.bind_some _ _).symm.trans H; rw [hy201]; with_reducible exact H2_) | (have H2_ := (Option.bind_some _ _).symm.trans H; with_reducible exact H2_) | with_reducible exact H | (rw [hy201]; exact H) | exact H
         have Ny201 := Zh hy201
         clear hy201
         have H' := Zh H
         clear H
         have p187 : 0 ≤ (x10_1 : Int) := Zo
         have q187 : x10_1 < (l0_0.length : Int) := Zo
         obtain ⟨ad187, A187_1, c187_1, A187_2, c187_2, e187, hx187_0, hx187_1, hx187_2, hl187_1, hi187_1, hl187_2, hi187_2⟩ := at_T55 HR0_0.out x10_1 p187 q187
         cases e187
         replace hx187_0 := Zc HB.out hx187_0
         replace hx187_1 := Zc HB.out hx187_1
         replace hx187_2 := Zc HB.out hx187_2
         have HR187_1 := Zh hi187_1
         have HC187_1 := Zh hl187_1
         clear hi187_1 hl187_1
         have HR187_2 := Zh hi187_2
         have HC187_2 := Zh hl187_2
         clear hi187_2 hl187_2
         replace p187 := eq_true p187
         replace q187 := eq_true q187
         try go_wp2_with (first | ((with_reducible refine gate_dst (N := 5) rfl ?_); refine box_event ?hg (N := 5) ?hd (cs := #[.string (⟨#[]⟩ : ByteArray), .slice none 0 0, .slice none 0 0]) (t := 55) ?hr ?_; (case hd => rfl); (case hg => rfl); (case hr => first | (go_simp; done) | (go_simp; rfl)); intro gb188 hg w16 hbox hb; replace HO_187000 := Zh (S_below (S_elderB (ZS HO_187000.out) gb188 (Nat.le_of_eq hg.symm)) hb); have BK188 := Zh (hbox); have GW188 := Zh ((by rw [hg]; exact (below_size Zs) : w.heap.size ≤ gb188)); have GE188 := Zh ((by rw [hg]; exact (below_size Zs) : w.heap.size ≤ gb188)); replace HB := Zh (Zl Zs hb); have NB184_188 := Zh ((by rw [hg]; exact Nat.ne_of_lt (blk_lt (g := gb184) (o := .cells #[.slice (some ad187) l0_0.length c0_0] 28 (0, 0)) Zk) : gb184 ≠ gb188)); have NB188_184 := Zh ((by rw [hg]; exact Nat.ne_of_gt (blk_lt (g := gb184) (o := .cells #[.slice (some ad187) l0_0.length c0_0] 28 (0, 0)) Zk) : gb188 ≠ gb184)); replace BK184 := Zh (Zm (g := gb184) (o := .cells #[.slice (some ad187) l0_0.length c0_0] 28 (0, 0)) Zk hb); have NB185_188 := Zh ((by rw [hg]; exact Nat.ne_of_lt (blk_lt (g := gb185) (o := .cells #[.slice none 0 0] 28 (0, 0)) Zk) : gb185 ≠ gb188)); have NB188_185 := Zh ((by rw [hg]; exact Nat.ne_of_gt (blk_lt (g := gb185) (o := .cells #[.slice none 0 0] 28 (0, 0)) Zk) : gb188 ≠ gb185)); replace BK185 := Zh (Zm (g := gb185) (o := .cells #[.slice none 0 0] 28 (0, 0)) Zk hb); have NB186_188 := Zh ((by rw [hg]; exact Nat.ne_of_lt (blk_lt (g := gb186) (o := .cells #[u187000] 28 (0, 0)) Zk) : gb186 ≠ gb188)); have NB188_186 := Zh ((by rw [hg]; exact Nat.ne_of_gt (blk_lt (g := gb186) (o := .cells #[u187000] 28 (0, 0)) Zk) : gb188 ≠ gb186)); replace BK186 := Zh (Zm (g := gb186) (o := .cells #[u187000] 28 (0, 0)) Zk hb); clear hb hbox hg; have hnb17 := NB188_184.out; have hnc17 := NB184_188.out; have hnb18 := NB188_185.out; have hnc18 := NB185_188.out; have hnb19 := NB188_186.out; have hnc19 := NB186_188.out; have hcz20_0 : w16.cell? ⟨gb188, 0, none⟩ = some (.string (⟨#[]⟩ : ByteArray)) := (blk_cell BK188.out 0).trans rfl; have hcz20_1 : w16.cell? ⟨gb188, 1, none⟩ = some (.slice none 0 0) := (blk_cell BK188.out 1).trans rfl; have hcz20_2 : w16.cell? ⟨gb188, 2, none⟩ = some (.slice none 0 0) := (blk_cell BK188.out 2).trans rfl; have hfz20_0 := Zn BK188.out 0; have hfz20_1 := Zn BK188.out 1; have hfz20_2 := Zn BK188.out 2; obtain ⟨Ao21, co21, eo21⟩ := S_slice HO_187000.out; subst eo21))
         have n0_ : Aside0 (Kd.S k55 55 (((w16.setCell ⟨gb188, 0, none⟩ (.string ((rd_T55 l0_0 x10_1).f0))).setCell ⟨gb188, 1, none⟩ (.slice A187_1 ((rd_T55 l0_0 x10_1).f1).length c187_1)).setCell ⟨gb188, 2, none⟩ (.slice A187_2 ((rd_T55 l0_0 x10_1).f2).length c187_2)) w.heap.size (fun k_ => k_ ≠ gb188) (.slice Ao21 x187000_1.length co21) x187000_1) := ⟨ZS (S_mono (S_far (p := ⟨gb188, 2, none⟩) (S_far (p := ⟨gb188, 1, none⟩) (S_far (p := ⟨gb188, 0, none⟩) (S_mono HO_187000.out (fun k_ hk => (⟨hk, hk.2⟩ : _ ∧ k_ ≠ gb188))) (fun _ hk => hk.2) (.string ((rd_T55 l0_0 x10_1).f0))) (fun _ hk => hk.2) (.slice A187_1 ((rd_T55 l0_0 x10_1).f1).length c187_1)) (fun _ hk => hk.2) (.slice A187_2 ((rd_T55 l0_0 x10_1).f2).length c187_2)) (fun _ hk => hk.1.2))⟩
         have n1_ : Aside0 ((((w16.setCell ⟨gb188, 0, none⟩ (.string ((rd_T55 l0_0 x10_1).f0))).setCell ⟨gb188, 1, none⟩ (.slice A187_1 ((rd_T55 l0_0 x10_1).f1).length c187_1)).setCell ⟨gb188, 2, none⟩ (.slice A187_2 ((rd_T55 l0_0 x10_1).f2).length c187_2)).heap[gb184]? = some (.cells #[.slice (some ad187) l0_0.length c0_0] 28 (0, 0))) := ⟨by (with_reducible repeat (first | refine Za ?_ _ | refine Zb ?_ | refine blk_alloc ?_ _)); refine blk_far ?_ NB184_188.out _; (with_reducible repeat (first | refine Za ?_ _ | refine Zb ?_ | refine blk_alloc ?_ _)); refine blk_far ?_ NB184_188.out _; (with_reducible repeat (first | refine Za ?_ _ | refine Zb ?_ | refine blk_alloc ?_ _)); refine blk_far ?_ NB184_188.out _; (with_reducible repeat (first | refine Za ?_ _ | refine Zb ?_ | refine blk_alloc ?_ _)); exact BK184.out⟩
         have n2_ : Aside0 ((((w16.setCell ⟨gb188, 0, none⟩ (.string ((rd_T55 l0_0 x10_1).f0))).setCell ⟨gb188, 1, none⟩ (.slice A187_1 ((rd_T55 l0_0 x10_1).f1).length c187_1)).setCell ⟨gb188, 2, none⟩ (.slice A187_2 ((rd_T55 l0_0 x10_1).f2).length c187_2)).heap[gb185]? = some (.cells #[.slice none 0 0] 28 (0, 0))) := ⟨by (with_reducible repeat (first | refine Za ?_ _ | refine Zb ?_ | refine blk_alloc ?_ _)); refine blk_far ?_ NB185_188.out _; (with_reducible repeat (first | refine Za ?_ _ | refine Zb ?_ | refine blk_alloc ?_ _)); refine blk_far ?_ NB185_188.out _; (with_reducible repeat (first | refine Za ?_ _ | refine Zb ?_ | refine blk_alloc ?_ _)); refine blk_far ?_ NB185_188.out _; (with_reducible repeat (first | refine Za ?_ _ | refine Zb ?_ | refine blk_alloc ?_ _)); exact BK185.out⟩
         have n3_ : Aside0 ((((w16.setCell ⟨gb188, 0, none⟩ (.string ((rd_T55 l0_0 x10_1).f0))).setCell ⟨gb188, 1, none⟩ (.slice A187_1 ((rd_T55 l0_0 x10_1).f1).length c187_1)).setCell ⟨gb188, 2, none⟩ (.slice A187_2 ((rd_T55 l0_0 x10_1).f2).length c187_2)).heap[gb186]? = some (.cells #[.slice Ao21 x187000_1.length co21] 28 (0, 0))) := ⟨by (with_reducible repeat (first | refine Za ?_ _ | refine Zb ?_ | refine blk_alloc ?_ _)); refine blk_far ?_ NB186_188.out _; (with_reducible repeat (first | refine Za ?_ _ | refine Zb ?_ | refine blk_alloc ?_ _)); refine blk_far ?_ NB186_188.out _; (with_reducible repeat (first | refine Za ?_ _ | refine Zb ?_ | refine blk_alloc ?_ _)); refine blk_far ?_ NB186_188.out _; (with_reducible repeat (first | refine Za ?_ _ | refine Zb ?_ | refine blk_alloc ?_ _)); exact BK186.out⟩
         have n4_ : Aside0 ((((w16.setCell ⟨gb188, 0, none⟩ (.string ((rd_T55 l0_0 x10_1).f0))).setCell ⟨gb188, 1, none⟩ (.slice A187_1 ((rd_T55 l0_0 x10_1).f1).length c187_1)).setCell ⟨gb188, 2, none⟩ (.slice A187_2 ((rd_T55 l0_0 x10_1).f2).length c187_2)).heap[gb188]? = some (.cells #[.string ((rd_T55 l0_0 x10_1).f0), .slice A187_1 ((rd_T55 l0_0 x10_1).f1).length c187_1, .slice A187_2 ((rd_T55 l0_0 x10_1).f2).length c187_2] 55 (0, 0))) := ⟨by (with_reducible repeat (first | refine Za ?_ _ | refine Zb ?_ | refine blk_alloc ?_ _)); refine blk_put (cs := #[.string ((rd_T55 l0_0 x10_1).f0), .slice A187_1 ((rd_T55 l0_0 x10_1).f1).length c187_1, .slice none 0 0]) ?_ 2 _ rfl; (with_reducible repeat (first | refine Za ?_ _ | refine Zb ?_ | refine blk_alloc ?_ _)); refine blk_put (cs := #[.string ((rd_T55 l0_0 x10_1).f0), .slice none 0 0, .slice none 0 0]) ?_ 1 _ rfl; (with_reducible repeat (first | refine Za ?_ _ | refine Zb ?_ | refine blk_alloc ?_ _)); refine blk_put (cs := #[.string (⟨#[]⟩ : ByteArray), .slice none 0 0, .slice none 0 0]) ?_ 0 _ rfl; (with_reducible repeat (first | refine Za ?_ _ | refine Zb ?_ | refine blk_alloc ?_ _)); exact BK188.out⟩
         have n5_ : Aside0 (Below w.heap.size w (((w16.setCell ⟨gb188, 0, none⟩ (.string ((rd_T55 l0_0 x10_1).f0))).setCell ⟨gb188, 1, none⟩ (.slice A187_1 ((rd_T55 l0_0 x10_1).f1).length c187_1)).setCell ⟨gb188, 2, none⟩ (.slice A187_2 ((rd_T55 l0_0 x10_1).f2).length c187_2))) := ⟨Zs⟩
         (try clear HO_187000)
         (try clear BK184)
         (try clear BK185)
         (try clear BK186)
         (try clear BK188)
         (try clear HB)
         generalize (((w16.setCell ⟨gb188, 0, none⟩ (.string ((rd_T55 l0_0 x10_1).f0))).setCell ⟨gb188, 1, none⟩ (.slice A187_1 ((rd_T55 l0_0 x10_1).f1).length c187_1)).setCell ⟨gb188, 2, none⟩ (.slice A187_2 ((rd_T55 l0_0 x10_1).f2).length c187_2)) = w22 at n0_ n1_ n2_ n3_ n4_ n5_ ⊢
         have HO_187000 := n0_
         have BK184 := n1_
         have BK185 := n2_
         have BK186 := n3_
         have BK188 := n4_
         have HB := n5_
         clear n0_ n1_ n2_ n3_ n4_ n5_
         replace HO_187000 := Zh (S_drew HO_187000.out)
         replace BK184 := Zh (Zb BK184.out)
         replace BK185 := Zh (Zb BK185.out)
         replace BK186 := Zh (Zb BK186.out)
         replace BK188 := Zh (Zb BK188.out)
         replace HB := Zh (Ze HB.out)
         refine start_ (n := 17) (S := fun w' => w'.cell? ⟨gb186, 0, none⟩ = some (.slice Ao21 x187000_1.length co21) ∧ w'.cell? ⟨gb188, 0, none⟩ = some (.string ((rd_T55 l0_0 x10_1).f0)) ∧ w'.cell? ⟨gb188, 1, none⟩ = some (.slice A187_1 ((rd_T55 l0_0 x10_1).f1).length c187_1) ∧ w'.cell? ⟨gb188, 2, none⟩ = some (.slice A187_2 ((rd_T55 l0_0 x10_1).f2).length c187_2)) (ds := [16]) #[false, false, false, false, false, false, false, false, false, false, false, false, false, false, false, false, false] (by kernel_rfl) rfl rfl ⟨(blk_cell BK186.out 0).trans rfl, (blk_cell BK188.out 0).trans rfl, (blk_cell BK188.out 1).trans rfl, (blk_cell BK188.out 2).trans rfl⟩ (fun hHeld => ?_); refine with_tabW impl_copyDisk.tab5 impl_copyDisk.bits5 (fun HT_ HW_ => ?_)
         generalize w22.drew = w23 at HO_187000 BK184 BK185 BK186 BK188 HB hHeld ⊢
         refine SQ.pu 0 14 HT_ ?_
         refine SQ.pu 2 16 HT_ ?_
         refine SQ.pu 5 19 HT_ ?_
         refine SQ.pu 9 23 HT_ ?_
         refine SQ.tk 1 15 HT_ HW_ hHeld ?_
         refine SQ.tk 3 17 HT_ HW_ hHeld ?_
         refine SQ.tk 6 20 HT_ HW_ hHeld ?_
         refine SQ.tk 10 24 HT_ HW_ hHeld ?_
         refine join_ (σ := Value × Value × Value) 6 #[true, true, true, true, true, true, true, true, true, true, true, false, false, false, false, false, false] (fun s_ => [(18, s_.1), (21, s_.2.1), (22, s_.2.2)]) (fun s_ w' => (w'.cell? ⟨gb186, 0, none⟩ = some (.slice Ao21 x187000_1.length co21) ∧ w'.cell? ⟨gb188, 0, none⟩ = some (.string ((rd_T55 l0_0 x10_1).f0)) ∧ w'.cell? ⟨gb188, 1, none⟩ = some (.slice A187_1 ((rd_T55 l0_0 x10_1).f1).length c187_1) ∧ w'.cell? ⟨gb188, 2, none⟩ = some (.slice A187_2 ((rd_T55 l0_0 x10_1).f2).length c187_2)) ∧ (Kd.R (Kd.int .u8) 5 w' w.heap.size (fun k_ => some k_ ≠ (s_.2.2 : Value).ownBlock) s_.2.1 y192) ∧ (Kd.R (Kd.int .u8) 5 w' w.heap.size (fun k_ => some k_ ≠ (s_.2.1 : Value).ownBlock) s_.2.2 y195) ∧ (Kd.S k55 55 w' w.heap.size (fun k_ => some k_ ≠ (s_.2.1 : Value).ownBlock ∧ some k_ ≠ (s_.2.2 : Value).ownBlock ∧ k_ ≠ gb188) (.slice Ao21 x187000_1.length co21) x187000_1) ∧ (w'.heap[gb184]? = some (.cells #[.slice (some ad187) l0_0.length c0_0] 28 (0, 0))) ∧ (w'.heap[gb185]? = some (.cells #[.slice none 0 0] 28 (0, 0))) ∧ (w'.heap[gb186]? = some (.cells #[.slice Ao21 x187000_1.length co21] 28 (0, 0))) ∧ (w'.heap[gb188]? = some (.cells #[.string ((rd_T55 l0_0 x10_1).f0), .slice A187_1 ((rd_T55 l0_0 x10_1).f1).length c187_1, .slice A187_2 ((rd_T55 l0_0 x10_1).f2).length c187_2] 55 (0, 0))) ∧ (Below w.heap.size w w')) ?_ ?_
         rotate_left
         ·
          intro hCont
          refine two_ (i := 4) (j := 8) (Ni := some 18) (Nj := some 22) #[true, true, true, true, true, true, true, false, false, true, true, false, false, false, false, false, false] #[true, true, true, true, false, true, true, false, true, true, true, false, false, false, false, false, false] rfl rfl rfl rfl (two_of HT_.out (by kernel_rfl)) (by decide) (by decide) (fun K hK => ?_) (fun K hK => ?_)
          ·
           skip
           refine R_lit_step (Kd.int .u8) _ 5 ?hg (N := 18) ?hd (xs := ([] : List Int)) (inner := []) (ok := fun _ => True) (okp := fun _ => True) ?hr ?hp (fun _ hk => hk) trivial (Below.refl _ _) (Nat.le_refl _) (by simp) ?_; (case hd => rfl); (case hg => rfl); (case hr => first | (go_simp; done) | (go_simp; rfl)); (case hp => exact (Reps.none _ _))
           intro v190 w24 ho25 hb hg_ hnew_
           clear hg_ hnew_
           (first | rw [← Ny189.out] at ho25 | (simp only [Int.reduceToNat] at ho25; rw [← Ny189.out] at ho25))
           replace HO_187000 := Zh (S_elder' (ZS HO_187000.out) (R_base ho25) hb)
           have HO191 := Zh (R_lower ho25 (below_size Zs))
           replace BK184 := Zh (Zm (g := gb184) (o := .cells #[.slice (some ad187) l0_0.length c0_0] 28 (0, 0)) Zk hb)
           replace BK185 := Zh (Zm (g := gb185) (o := .cells #[.slice none 0 0] 28 (0, 0)) Zk hb)
           replace BK186 := Zh (Zm (g := gb186) (o := .cells #[.slice Ao21 x187000_1.length co21] 28 (0, 0)) Zk hb)
           replace BK188 := Zh (Zm (g := gb188) (o := .cells #[.string ((rd_T55 l0_0 x10_1).f0), .slice A187_1 ((rd_T55 l0_0 x10_1).f1).length c187_1, .slice A187_2 ((rd_T55 l0_0 x10_1).f2).length c187_2] 55 (0, 0)) Zk hb)
           replace HB := Zh (Zl Zs hb)
           clear hb ho25
           refine hK.out _ _ ⟨(blk_cell BK186.out 0).trans rfl, (blk_cell BK188.out 0).trans rfl, (blk_cell BK188.out 1).trans rfl, (blk_cell BK188.out 2).trans rfl⟩ (fun hHeld => ?_)
           clear hK K
           refine norm_ (a' := ?_) ?_ ?_
           rotate_left
           ·
            show Act.put _ (some 18) _ = _
            simp only [Act.put, List.setIfInBounds_toArray, List.set_cons_zero, List.set_cons_succ, i64_w, i32_w]
            rfl
           refine two_ (i := 7) (j := 8) (Ni := some 21) (Nj := some 22) #[true, true, true, true, true, true, true, true, false, true, true, false, false, false, false, false, false] #[true, true, true, true, true, true, true, false, true, true, true, false, false, false, false, false, false] rfl rfl rfl rfl (two_of HT_.out (by kernel_rfl)) (by decide) (by decide) (fun K hK => ?_) (fun K hK => ?_)
           ·
            skip
            refine R_append_rows_step (Kd.int .u8) (w0 := w) w.heap.size (by rfl) (.tmp 18) (.tmp 20) 41 5 (.int .u8 0) 1 rfl Tryd.underlying41 info5 rfl (by decide) (by omega) v190 y189 ((rd_T55 l0_0 x10_1).f1) _ _ _ (fun _ => True) (fun _ => False) rfl rfl ?aO ?aR (fun _ _ h => h) (fun _ h => h.elim) ?aF ?aB ?aS ?aL ?_
            (case aR => repeat (first | exact (C_below HR187_1.out HB.out) | (with_reducible refine C_alloc ?_ _) | (with_reducible refine C_drewN ?_ _) | (with_reducible refine C_drew ?_)))
            (case aB => exact Zs)
            (case aF => exact (fun _ _ => trivial))
            (case aO => exact (ZR HO191.out))
            (case aS => exact (below_size Zs))
            (case aL => have := LMc13.out; omega)
            intro v193 w26 ho hb hg hat
            rw [← Ny192.out] at ho
            have n0_ := Zh (S_after (ok := (fun k_ => k_ ≠ gb188)) (ZS HO_187000.out) hg hat)
            have n1_ := Zh (blk_grown (g := gb184) (o := .cells #[.slice (some ad187) l0_0.length c0_0] 28 (0, 0)) Zk hg (R_ne HO191.out BK184.out (by decide)))
            have n2_ := Zh (blk_grown (g := gb185) (o := .cells #[.slice none 0 0] 28 (0, 0)) Zk hg (R_ne HO191.out BK185.out (by decide)))
            have n3_ := Zh (blk_grown (g := gb186) (o := .cells #[.slice Ao21 x187000_1.length co21] 28 (0, 0)) Zk hg (R_ne HO191.out BK186.out (by decide)))
            have n4_ := Zh (blk_grown (g := gb188) (o := .cells #[.string ((rd_T55 l0_0 x10_1).f0), .slice A187_1 ((rd_T55 l0_0 x10_1).f1).length c187_1, .slice A187_2 ((rd_T55 l0_0 x10_1).f2).length c187_2] 55 (0, 0)) Zk hg (R_ne HO191.out BK188.out (by decide)))
            have n5_ := Zh (hb)
            have n6_ := Zh (ho)
            clear HO_187000
            clear BK184
            clear BK185
            clear BK186
            clear BK188
            clear HB
            clear HO191
            have HO_187000 := n0_
            have BK184 := n1_
            have BK185 := n2_
            have BK186 := n3_
            have BK188 := n4_
            have HB := n5_
            have HO194 := n6_
            clear n0_ n1_ n2_ n3_ n4_ n5_ n6_
            clear ho hb hg hat
            refine hK.out _ _ ⟨(blk_cell BK186.out 0).trans rfl, (blk_cell BK188.out 0).trans rfl, (blk_cell BK188.out 1).trans rfl, (blk_cell BK188.out 2).trans rfl⟩ (fun hHeld => ?_)
            clear hK K
            refine norm_ (a' := ?_) ?_ ?_
            rotate_left
            ·
             show Act.put _ (some 21) _ = _
             simp only [Act.put, List.setIfInBounds_toArray, List.set_cons_zero, List.set_cons_succ, i64_w, i32_w]
             rfl
            refine one_ (i := 8) (N := some 22) #[true, true, true, true, true, true, true, true, true, true, true, false, false, false, false, false, false] rfl rfl (one_of HT_.out (by kernel_rfl)) (by decide) (fun K hK => ?_)
            refine R_lit_step (Kd.int .u8) _ 5 ?hg (N := 22) ?hd (xs := ([] : List Int)) (inner := []) (ok := fun _ => True) (okp := fun _ => True) ?hr ?hp (fun _ hk => hk) trivial (Below.refl _ _) (Nat.le_refl _) (by simp) ?_; (case hd => rfl); (case hg => rfl); (case hr => first | (go_simp; done) | (go_simp; rfl)); (case hp => exact (Reps.none _ _))
            intro v196 w27 ho28 hb hg_ hnew_
            clear hg_ hnew_
            (first | rw [← Ny195.out] at ho28 | (simp only [Int.reduceToNat] at ho28; rw [← Ny195.out] at ho28))
            replace HO_187000 := Zh (S_elder' (ZS HO_187000.out) (R_base ho28) hb)
            have HO197 := Zh (R_lower (R_new' ho28 (R_lt (ZR HO194.out))) (below_size Zs))
            replace HO194 := Zh (R_elder' (ZR HO194.out) (R_base ho28) hb)
            replace BK184 := Zh (Zm (g := gb184) (o := .cells #[.slice (some ad187) l0_0.length c0_0] 28 (0, 0)) Zk hb)
            replace BK185 := Zh (Zm (g := gb185) (o := .cells #[.slice none 0 0] 28 (0, 0)) Zk hb)
            replace BK186 := Zh (Zm (g := gb186) (o := .cells #[.slice Ao21 x187000_1.length co21] 28 (0, 0)) Zk hb)
            replace BK188 := Zh (Zm (g := gb188) (o := .cells #[.string ((rd_T55 l0_0 x10_1).f0), .slice A187_1 ((rd_T55 l0_0 x10_1).f1).length c187_1, .slice A187_2 ((rd_T55 l0_0 x10_1).f2).length c187_2] 55 (0, 0)) Zk hb)
            replace HB := Zh (Zl Zs hb)
            clear hb ho28
            refine hK.out _ _ ⟨(blk_cell BK186.out 0).trans rfl, (blk_cell BK188.out 0).trans rfl, (blk_cell BK188.out 1).trans rfl, (blk_cell BK188.out 2).trans rfl⟩ (fun hHeld => ?_)
            clear hK K
            refine norm_ (a' := ?_) ?_ ?_
            rotate_left
            ·
             show Act.put _ (some 22) _ = _
             simp only [Act.put, List.setIfInBounds_toArray, List.set_cons_zero, List.set_cons_succ, i64_w, i32_w]
             rfl
            exact norm_ (by simp only [putAll, Act.put, List.setIfInBounds_toArray, List.set_cons_zero, List.set_cons_succ]) (hCont (v190, v193, v196) _ ⟨hHeld, (ZR (R_mono HO194.out (fun _ hk => hk.2))), (ZR (R_mono HO197.out (fun _ hk => hk.2))), (ZS (S_mono HO_187000.out (fun _ hk => ⟨hk.1.2, ⟨hk.2, hk.1.1⟩⟩))), Zk, Zk, Zk, Zk, Zs⟩)
           skip
           refine R_lit_step (Kd.int .u8) _ 5 ?hg (N := 22) ?hd (xs := ([] : List Int)) (inner := []) (ok := fun _ => True) (okp := fun _ => True) ?hr ?hp (fun _ hk => hk) trivial (Below.refl _ _) (Nat.le_refl _) (by simp) ?_; (case hd => rfl); (case hg => rfl); (case hr => first | (go_simp; done) | (go_simp; rfl)); (case hp => exact (Reps.none _ _))
           intro v196 w26 ho27 hb hg_ hnew_
           clear hg_ hnew_
           (first | rw [← Ny195.out] at ho27 | (simp only [Int.reduceToNat] at ho27; rw [← Ny195.out] at ho27))
           replace HO_187000 := Zh (S_elder' (ZS HO_187000.out) (R_base ho27) hb)
           have HO197 := Zh (R_lower (R_new' ho27 (R_lt (ZR HO191.out))) (below_size Zs))
           replace HO191 := Zh (R_elder' (ZR HO191.out) (R_base ho27) hb)
           replace BK184 := Zh (Zm (g := gb184) (o := .cells #[.slice (some ad187) l0_0.length c0_0] 28 (0, 0)) Zk hb)
           replace BK185 := Zh (Zm (g := gb185) (o := .cells #[.slice none 0 0] 28 (0, 0)) Zk hb)
           replace BK186 := Zh (Zm (g := gb186) (o := .cells #[.slice Ao21 x187000_1.length co21] 28 (0, 0)) Zk hb)
           replace BK188 := Zh (Zm (g := gb188) (o := .cells #[.string ((rd_T55 l0_0 x10_1).f0), .slice A187_1 ((rd_T55 l0_0 x10_1).f1).length c187_1, .slice A187_2 ((rd_T55 l0_0 x10_1).f2).length c187_2] 55 (0, 0)) Zk hb)
           replace HB := Zh (Zl Zs hb)
           clear hb ho27
           refine hK.out _ _ ⟨(blk_cell BK186.out 0).trans rfl, (blk_cell BK188.out 0).trans rfl, (blk_cell BK188.out 1).trans rfl, (blk_cell BK188.out 2).trans rfl⟩ (fun hHeld => ?_)
           clear hK K
           refine norm_ (a' := ?_) ?_ ?_
           rotate_left
           ·
            show Act.put _ (some 22) _ = _
            simp only [Act.put, List.setIfInBounds_toArray, List.set_cons_zero, List.set_cons_succ, i64_w, i32_w]
            rfl
           refine one_ (i := 7) (N := some 21) #[true, true, true, true, true, true, true, true, true, true, true, false, false, false, false, false, false] rfl rfl (one_of HT_.out (by kernel_rfl)) (by decide) (fun K hK => ?_)
           refine R_append_rows_step (Kd.int .u8) (w0 := w) w.heap.size (by rfl) (.tmp 18) (.tmp 20) 41 5 (.int .u8 0) 1 rfl Tryd.underlying41 info5 rfl (by decide) (by omega) v190 y189 ((rd_T55 l0_0 x10_1).f1) _ _ _ (fun k_ => some k_ ≠ (v196 : Value).ownBlock) (fun _ => False) rfl rfl ?aO ?aR (fun _ _ h => h) (fun _ h => h.elim) ?aF ?aB ?aS ?aL ?_
           (case aR => repeat (first | exact (C_below HR187_1.out HB.out) | (with_reducible refine C_alloc ?_ _) | (with_reducible refine C_drewN ?_ _) | (with_reducible refine C_drew ?_)))
           (case aB => exact Zs)
           (case aF => exact (fun k_ hk => Kd.fresh' (R_lt (ZR HO197.out)) k_ hk))
           (case aO => exact (ZR (R_mono HO191.out (fun _ hk => hk.2))))
           (case aS => exact (below_size Zs))
           (case aL => have := LMc13.out; omega)
           intro v193 w28 ho hb hg hat
           rw [← Ny192.out] at ho
           have n0_ := Zh (S_after (ok := (fun k_ => some k_ ≠ (v196 : Value).ownBlock ∧ k_ ≠ gb188)) (ZS (S_mono HO_187000.out (fun _ hk => ⟨⟨hk.2, hk.1.1⟩, hk.1.2⟩))) hg hat)
           have n1_ := Zh (blk_grown (g := gb184) (o := .cells #[.slice (some ad187) l0_0.length c0_0] 28 (0, 0)) Zk hg (R_ne HO191.out BK184.out (by decide)))
           have n2_ := Zh (blk_grown (g := gb185) (o := .cells #[.slice none 0 0] 28 (0, 0)) Zk hg (R_ne HO191.out BK185.out (by decide)))
           have n3_ := Zh (blk_grown (g := gb186) (o := .cells #[.slice Ao21 x187000_1.length co21] 28 (0, 0)) Zk hg (R_ne HO191.out BK186.out (by decide)))
           have n4_ := Zh (blk_grown (g := gb188) (o := .cells #[.string ((rd_T55 l0_0 x10_1).f0), .slice A187_1 ((rd_T55 l0_0 x10_1).f1).length c187_1, .slice A187_2 ((rd_T55 l0_0 x10_1).f2).length c187_2] 55 (0, 0)) Zk hg (R_ne HO191.out BK188.out (by decide)))
           have n5_ := Zh (R_after (ok := (fun _ => True)) (ZR HO197.out) hg hat)
           have n6_ := Zh (hb)
           have n7_ := Zh (ho)
           clear HO_187000
           clear BK184
           clear BK185
           clear BK186
           clear BK188
           clear HO197
           clear HB
           clear HO191
           have HO_187000 := n0_
           have BK184 := n1_
           have BK185 := n2_
           have BK186 := n3_
           have BK188 := n4_
           have HO197 := n5_
           have HB := n6_
           have HO194 := n7_
           clear n0_ n1_ n2_ n3_ n4_ n5_ n6_ n7_
           clear ho hb hg hat
           refine hK.out _ _ ⟨(blk_cell BK186.out 0).trans rfl, (blk_cell BK188.out 0).trans rfl, (blk_cell BK188.out 1).trans rfl, (blk_cell BK188.out 2).trans rfl⟩ (fun hHeld => ?_)
           clear hK K
           refine norm_ (a' := ?_) ?_ ?_
           rotate_left
           ·
            show Act.put _ (some 21) _ = _
            simp only [Act.put, List.setIfInBounds_toArray, List.set_cons_zero, List.set_cons_succ, i64_w, i32_w]
            rfl
           exact norm_ (by simp only [putAll, Act.put, List.setIfInBounds_toArray, List.set_cons_zero, List.set_cons_succ]) (hCont (v190, v193, v196) _ ⟨hHeld, (ZR HO194.out), (ZR (R_mono HO197.out (fun _ hk => hk.2))), (ZS (S_mono HO_187000.out (fun _ hk => ⟨hk.2, ⟨hk.1.1, hk.1.2⟩⟩))), Zk, Zk, Zk, Zk, Zs⟩)
          skip
          refine R_lit_step (Kd.int .u8) _ 5 ?hg (N := 22) ?hd (xs := ([] : List Int)) (inner := []) (ok := fun _ => True) (okp := fun _ => True) ?hr ?hp (fun _ hk => hk) trivial (Below.refl _ _) (Nat.le_refl _) (by simp) ?_; (case hd => rfl); (case hg => rfl); (case hr => first | (go_simp; done) | (go_simp; rfl)); (case hp => exact (Reps.none _ _))
          intro v196 w24 ho25 hb hg_ hnew_
          clear hg_ hnew_
          (first | rw [← Ny195.out] at ho25 | (simp only [Int.reduceToNat] at ho25; rw [← Ny195.out] at ho25))
          replace HO_187000 := Zh (S_elder' (ZS HO_187000.out) (R_base ho25) hb)
          have HO197 := Zh (R_lower ho25 (below_size Zs))
          replace BK184 := Zh (Zm (g := gb184) (o := .cells #[.slice (some ad187) l0_0.length c0_0] 28 (0, 0)) Zk hb)
          replace BK185 := Zh (Zm (g := gb185) (o := .cells #[.slice none 0 0] 28 (0, 0)) Zk hb)
          replace BK186 := Zh (Zm (g := gb186) (o := .cells #[.slice Ao21 x187000_1.length co21] 28 (0, 0)) Zk hb)
          replace BK188 := Zh (Zm (g := gb188) (o := .cells #[.string ((rd_T55 l0_0 x10_1).f0), .slice A187_1 ((rd_T55 l0_0 x10_1).f1).length c187_1, .slice A187_2 ((rd_T55 l0_0 x10_1).f2).length c187_2] 55 (0, 0)) Zk hb)
          replace HB := Zh (Zl Zs hb)
          clear hb ho25
          refine hK.out _ _ ⟨(blk_cell BK186.out 0).trans rfl, (blk_cell BK188.out 0).trans rfl, (blk_cell BK188.out 1).trans rfl, (blk_cell BK188.out 2).trans rfl⟩ (fun hHeld => ?_)
          clear hK K
          refine norm_ (a' := ?_) ?_ ?_
          rotate_left
          ·
           show Act.put _ (some 22) _ = _
           simp only [Act.put, List.setIfInBounds_toArray, List.set_cons_zero, List.set_cons_succ, i64_w, i32_w]
           rfl
          refine one_ (i := 4) (N := some 18) #[true, true, true, true, true, true, true, false, true, true, true, false, false, false, false, false, false] rfl rfl (one_of HT_.out (by kernel_rfl)) (by decide) (fun K hK => ?_)
          refine R_lit_step (Kd.int .u8) _ 5 ?hg (N := 18) ?hd (xs := ([] : List Int)) (inner := []) (ok := fun _ => True) (okp := fun _ => True) ?hr ?hp (fun _ hk => hk) trivial (Below.refl _ _) (Nat.le_refl _) (by simp) ?_; (case hd => rfl); (case hg => rfl); (case hr => first | (go_simp; done) | (go_simp; rfl)); (case hp => exact (Reps.none _ _))
          intro v190 w26 ho27 hb hg_ hnew_
          clear hg_ hnew_
          (first | rw [← Ny189.out] at ho27 | (simp only [Int.reduceToNat] at ho27; rw [← Ny189.out] at ho27))
          replace HO_187000 := Zh (S_elder' (ZS HO_187000.out) (R_base ho27) hb)
          have HO191 := Zh (R_lower (R_new' ho27 (R_lt (ZR HO197.out))) (below_size Zs))
          replace HO197 := Zh (R_elder' (ZR HO197.out) (R_base ho27) hb)
          replace BK184 := Zh (Zm (g := gb184) (o := .cells #[.slice (some ad187) l0_0.length c0_0] 28 (0, 0)) Zk hb)
          replace BK185 := Zh (Zm (g := gb185) (o := .cells #[.slice none 0 0] 28 (0, 0)) Zk hb)
          replace BK186 := Zh (Zm (g := gb186) (o := .cells #[.slice Ao21 x187000_1.length co21] 28 (0, 0)) Zk hb)
          replace BK188 := Zh (Zm (g := gb188) (o := .cells #[.string ((rd_T55 l0_0 x10_1).f0), .slice A187_1 ((rd_T55 l0_0 x10_1).f1).length c187_1, .slice A187_2 ((rd_T55 l0_0 x10_1).f2).length c187_2] 55 (0, 0)) Zk hb)
          replace HB := Zh (Zl Zs hb)
          clear hb ho27
          refine hK.out _ _ ⟨(blk_cell BK186.out 0).trans rfl, (blk_cell BK188.out 0).trans rfl, (blk_cell BK188.out 1).trans rfl, (blk_cell BK188.out 2).trans rfl⟩ (fun hHeld => ?_)
          clear hK K
          refine norm_ (a' := ?_) ?_ ?_
          rotate_left
          ·
           show Act.put _ (some 18) _ = _
           simp only [Act.put, List.setIfInBounds_toArray, List.set_cons_zero, List.set_cons_succ, i64_w, i32_w]
           rfl
          refine one_ (i := 7) (N := some 21) #[true, true, true, true, true, true, true, true, true, true, true, false, false, false, false, false, false] rfl rfl (one_of HT_.out (by kernel_rfl)) (by decide) (fun K hK => ?_)
          refine R_append_rows_step (Kd.int .u8) (w0 := w) w.heap.size (by rfl) (.tmp 18) (.tmp 20) 41 5 (.int .u8 0) 1 rfl Tryd.underlying41 info5 rfl (by decide) (by omega) v190 y189 ((rd_T55 l0_0 x10_1).f1) _ _ _ (fun k_ => some k_ ≠ (v196 : Value).ownBlock) (fun _ => False) rfl rfl ?aO ?aR (fun _ _ h => h) (fun _ h => h.elim) ?aF ?aB ?aS ?aL ?_
          (case aR => repeat (first | exact (C_below HR187_1.out HB.out) | (with_reducible refine C_alloc ?_ _) | (with_reducible refine C_drewN ?_ _) | (with_reducible refine C_drew ?_)))
          (case aB => exact Zs)
          (case aF => exact (fun k_ hk => Kd.fresh' (R_lt (ZR HO197.out)) k_ hk))
          (case aO => exact (ZR (R_mono HO191.out (fun _ hk => hk.2))))
          (case aS => exact (below_size Zs))
          (case aL => have := LMc13.out; omega)
          intro v193 w28 ho hb hg hat
          rw [← Ny192.out] at ho
          have n0_ := Zh (S_after (ok := (fun k_ => some k_ ≠ (v196 : Value).ownBlock ∧ k_ ≠ gb188)) (ZS (S_mono HO_187000.out (fun _ hk => ⟨⟨hk.1.2, hk.1.1⟩, hk.2⟩))) hg hat)
          have n1_ := Zh (blk_grown (g := gb184) (o := .cells #[.slice (some ad187) l0_0.length c0_0] 28 (0, 0)) Zk hg (R_ne HO191.out BK184.out (by decide)))
          have n2_ := Zh (blk_grown (g := gb185) (o := .cells #[.slice none 0 0] 28 (0, 0)) Zk hg (R_ne HO191.out BK185.out (by decide)))
          have n3_ := Zh (blk_grown (g := gb186) (o := .cells #[.slice Ao21 x187000_1.length co21] 28 (0, 0)) Zk hg (R_ne HO191.out BK186.out (by decide)))
          have n4_ := Zh (blk_grown (g := gb188) (o := .cells #[.string ((rd_T55 l0_0 x10_1).f0), .slice A187_1 ((rd_T55 l0_0 x10_1).f1).length c187_1, .slice A187_2 ((rd_T55 l0_0 x10_1).f2).length c187_2] 55 (0, 0)) Zk hg (R_ne HO191.out BK188.out (by decide)))
          have n5_ := Zh (R_after (ok := (fun _ => True)) (ZR HO197.out) hg hat)
          have n6_ := Zh (hb)
          have n7_ := Zh (ho)
          clear HO_187000
          clear BK184
          clear BK185
          clear BK186
          clear BK188
          clear HO197
          clear HB
          clear HO191
          have HO_187000 := n0_
          have BK184 := n1_
          have BK185 := n2_
          have BK186 := n3_
          have BK188 := n4_
          have HO197 := n5_
          have HB := n6_
          have HO194 := n7_
          clear n0_ n1_ n2_ n3_ n4_ n5_ n6_ n7_
          clear ho hb hg hat
          refine hK.out _ _ ⟨(blk_cell BK186.out 0).trans rfl, (blk_cell BK188.out 0).trans rfl, (blk_cell BK188.out 1).trans rfl, (blk_cell BK188.out 2).trans rfl⟩ (fun hHeld => ?_)
          clear hK K
          refine norm_ (a' := ?_) ?_ ?_
          rotate_left
          ·
           show Act.put _ (some 21) _ = _
           simp only [Act.put, List.setIfInBounds_toArray, List.set_cons_zero, List.set_cons_succ, i64_w, i32_w]
           rfl
          exact norm_ (by simp only [putAll, Act.put, List.setIfInBounds_toArray, List.set_cons_zero, List.set_cons_succ]) (hCont (v190, v193, v196) _ ⟨hHeld, (ZR HO194.out), (ZR (R_mono HO197.out (fun _ hk => hk.2))), (ZS (S_mono HO_187000.out (fun _ hk => ⟨hk.2, ⟨hk.1.1, hk.1.2⟩⟩))), Zk, Zk, Zk, Zk, Zs⟩)
         rintro ⟨v190, v193, v196⟩ w29 ⟨hS_, h0_, h1_, h2_, h3_, h4_, h5_, h6_, h7_⟩
         have n0_ : Aside0 (Kd.R (Kd.int .u8) 5 w29 w.heap.size (fun k_ => some k_ ≠ (v196 : Value).ownBlock) v193 y192) := ⟨h0_⟩
         have n1_ : Aside0 (Kd.R (Kd.int .u8) 5 w29 w.heap.size (fun k_ => some k_ ≠ (v193 : Value).ownBlock) v196 y195) := ⟨h1_⟩
         have n2_ : Aside0 (Kd.S k55 55 w29 w.heap.size (fun k_ => some k_ ≠ (v193 : Value).ownBlock ∧ some k_ ≠ (v196 : Value).ownBlock ∧ k_ ≠ gb188) (.slice Ao21 x187000_1.length co21) x187000_1) := ⟨h2_⟩
         have n3_ : Aside0 (w29.heap[gb184]? = some (.cells #[.slice (some ad187) l0_0.length c0_0] 28 (0, 0))) := ⟨h3_⟩
         have n4_ : Aside0 (w29.heap[gb185]? = some (.cells #[.slice none 0 0] 28 (0, 0))) := ⟨h4_⟩
         have n5_ : Aside0 (w29.heap[gb186]? = some (.cells #[.slice Ao21 x187000_1.length co21] 28 (0, 0))) := ⟨h5_⟩
         have n6_ : Aside0 (w29.heap[gb188]? = some (.cells #[.string ((rd_T55 l0_0 x10_1).f0), .slice A187_1 ((rd_T55 l0_0 x10_1).f1).length c187_1, .slice A187_2 ((rd_T55 l0_0 x10_1).f2).length c187_2] 55 (0, 0))) := ⟨h6_⟩
         have n7_ : Aside0 (Below w.heap.size w w29) := ⟨h7_⟩
         clear HO_187000
         clear BK184
         clear BK185
         clear BK186
         clear BK188
         clear HB
         clear h0_ h1_ h2_ h3_ h4_ h5_ h6_ h7_
         have HO194 := n0_
         have HO197 := n1_
         have HO_187000 := n2_
         have BK184 := n3_
         have BK185 := n4_
         have BK186 := n5_
         have BK188 := n6_
         have HB := n7_
         clear n0_ n1_ n2_ n3_ n4_ n5_ n6_ n7_
         have hHeld : w29.cell? ⟨gb186, 0, none⟩ = some (.slice Ao21 x187000_1.length co21) ∧ w29.cell? ⟨gb188, 0, none⟩ = some (.string ((rd_T55 l0_0 x10_1).f0)) ∧ w29.cell? ⟨gb188, 1, none⟩ = some (.slice A187_1 ((rd_T55 l0_0 x10_1).f1).length c187_1) ∧ w29.cell? ⟨gb188, 2, none⟩ = some (.slice A187_2 ((rd_T55 l0_0 x10_1).f2).length c187_2) := hS_
         refine norm_ (a' := ?_) ?_ ?_
         rotate_left
         ·
          simp only [putAll, Act.put, List.setIfInBounds_toArray, List.set_cons_zero, List.set_cons_succ]
          rfl
         refine one_ (i := 11) (N := some 25) #[true, true, true, true, true, true, true, true, true, true, true, true, false, false, false, false, false] rfl rfl (one_of HT_.out (by kernel_rfl)) (by decide) (fun K hK => ?_)
         refine R_append_rows_step (Kd.int .u8) (w0 := w) w.heap.size (by rfl) (.tmp 22) (.tmp 24) 41 5 (.int .u8 0) 1 rfl Tryd.underlying41 info5 rfl (by decide) (by omega) v196 y195 ((rd_T55 l0_0 x10_1).f2) _ _ _ (fun k_ => some k_ ≠ (v193 : Value).ownBlock) (fun _ => False) rfl rfl ?aO ?aR (fun _ _ h => h) (fun _ h => h.elim) ?aF ?aB ?aS ?aL ?_
         (case aR => repeat (first | exact (C_below HR187_2.out HB.out) | (with_reducible refine C_alloc ?_ _) | (with_reducible refine C_drewN ?_ _) | (with_reducible refine C_drew ?_)))
         (case aB => exact Zs)
         (case aF => exact (fun k_ hk => Kd.fresh' (R_lt (ZR HO194.out)) k_ hk))
         (case aO => exact (ZR HO197.out))
         (case aS => exact (below_size Zs))
         (case aL => have := LMc14.out; omega)
         intro v199 w30 ho hb hg hat
         rw [← Ny198.out] at ho
         have n0_ := Zh (S_after (ok := (fun k_ => some k_ ≠ (v193 : Value).ownBlock ∧ k_ ≠ gb188)) (ZS (S_mono HO_187000.out (fun _ hk => ⟨⟨hk.1, hk.2.2⟩, hk.2.1⟩))) hg hat)
         have n1_ := Zh (blk_grown (g := gb184) (o := .cells #[.slice (some ad187) l0_0.length c0_0] 28 (0, 0)) Zk hg (R_ne HO197.out BK184.out (by decide)))
         have n2_ := Zh (blk_grown (g := gb185) (o := .cells #[.slice none 0 0] 28 (0, 0)) Zk hg (R_ne HO197.out BK185.out (by decide)))
         have n3_ := Zh (blk_grown (g := gb186) (o := .cells #[.slice Ao21 x187000_1.length co21] 28 (0, 0)) Zk hg (R_ne HO197.out BK186.out (by decide)))
         have n4_ := Zh (blk_grown (g := gb188) (o := .cells #[.string ((rd_T55 l0_0 x10_1).f0), .slice A187_1 ((rd_T55 l0_0 x10_1).f1).length c187_1, .slice A187_2 ((rd_T55 l0_0 x10_1).f2).length c187_2] 55 (0, 0)) Zk hg (R_ne HO197.out BK188.out (by decide)))
         have n5_ := Zh (R_after (ok := (fun _ => True)) (ZR (R_mono HO194.out (fun _ hk => ⟨trivial, hk⟩))) hg hat)
         have n6_ := Zh (hb)
         have n7_ := Zh (ho)
         clear HO_187000
         clear BK184
         clear BK185
         clear BK186
         clear BK188
         clear HO194
         clear HB
         clear HO197
         have HO_187000 := n0_
         have BK184 := n1_
         have BK185 := n2_
         have BK186 := n3_
         have BK188 := n4_
         have HO194 := n5_
         have HB := n6_
         have HO200 := n7_
         clear n0_ n1_ n2_ n3_ n4_ n5_ n6_ n7_
         clear ho hb hg hat
         obtain ⟨Ao31, co31, eo31⟩ := R_slice HO200.out
         (first | subst eo31 | (injection eo31 with f1_ f2_ f3_; have f4_ := f1_.symm; have f5_ := f3_.symm; clear f1_ f2_ f3_; subst f4_; subst f5_))
         obtain ⟨Ao32, co32, eo32⟩ := R_slice HO194.out
         (first | subst eo32 | (injection eo32 with f1_ f2_ f3_; have f4_ := f1_.symm; have f5_ := f3_.symm; clear f1_ f2_ f3_; subst f4_; subst f5_))
         refine hK.out _ _ ⟨(blk_cell BK186.out 0).trans rfl, (blk_cell BK188.out 0).trans rfl, (blk_cell BK188.out 1).trans rfl, (blk_cell BK188.out 2).trans rfl⟩ (fun hHeld => ?_)
         clear hK K
         refine norm_ (a' := ?_) ?_ ?_
         rotate_left
         ·
          show Act.put _ (some 25) _ = _
          simp only [Act.put, List.setIfInBounds_toArray, List.set_cons_zero, List.set_cons_succ, i64_w, i32_w]
          rfl
         refine SQ.pu 12 26 HT_ ?_
         refine one_ (i := 13) (N := some 27) #[true, true, true, true, true, true, true, true, true, true, true, true, true, true, false, false, false] rfl rfl (one_of HT_.out (by kernel_rfl)) (by decide) (fun K hK => ?_)
         refine value_ (w1 := ?_) (v := ?_) (by rfl) rfl ?_ ?_
         rotate_left 2
         ·
          go_simp
          constructor
          ·
           rfl
          rfl
         refine hK.out _ _ ⟨(blk_cell (blk_alloc BK186.out _) 0).trans rfl, (blk_cell (blk_alloc BK188.out _) 0).trans rfl, (blk_cell (blk_alloc BK188.out _) 1).trans rfl, (blk_cell (blk_alloc BK188.out _) 2).trans rfl⟩ (fun hHeld => ?_)
         clear hK K
         refine norm_ (a' := ?_) ?_ ?_
         rotate_left
         ·
          show Act.put _ (some 27) _ = _
          simp only [Act.put, List.setIfInBounds_toArray, List.set_cons_zero, List.set_cons_succ, i64_w, i32_w]
          rfl
         refine one_ (i := 14) (N := some 28) #[true, true, true, true, true, true, true, true, true, true, true, true, true, true, true, false, false] rfl rfl (one_of HT_.out (by kernel_rfl)) (by decide) (fun K hK => ?_)
         refine S_append_step k55 (w0 := w) w.heap.size (by rfl) (.tmp 15) (.tmp 27) 26 55 (.agg #[(.string ⟨#[]⟩), (.slice none 0 0), (.slice none 0 0)]) 64 rfl Tryd.underlying26 info55 rfl (by decide) (by omega) (.slice Ao21 x187000_1.length co21) x187000_1 (⟨(rd_T55 l0_0 x10_1).f0, y192, y198⟩ : S55) [.string ((rd_T55 l0_0 x10_1).f0), .slice Ao32 y192.length co32, .slice Ao31 y198.length co31] (fun k_ => k_ ≠ gb188) (fun k_ => some k_ = (.slice Ao32 y192.length co32 : Value).ownBlock ∨ some k_ = (.slice Ao31 y198.length co31 : Value).ownBlock) rfl rfl ?aP (fun k_ hk_ => hk_.elim (fun h_ => ((R_mono (ok' := fun k_ => ((fun k_ => k_ ≠ gb188)) k_ ∧ some k_ ≠ (.slice Ao21 x187000_1.length co21 : Value).ownBlock) (R_types (R_apart' (HO194.out) (S_typed HO_187000.out) (by decide)) BK188.out (by decide)) (fun k_ hk => ⟨hk.2, hk.1.2⟩))).1 k_ h_.symm) (fun h_ => ((R_mono (ok' := fun k_ => ((fun k_ => k_ ≠ gb188)) k_ ∧ some k_ ≠ (.slice Ao21 x187000_1.length co21 : Value).ownBlock) (R_types (R_apart' (HO200.out) (S_typed HO_187000.out) (by decide)) BK188.out (by decide)) (fun k_ hk => ⟨hk.2, hk.1.2⟩))).1 k_ h_.symm)) ?aF ?aO ?aB ?aS ?aL ?_
         (case aP => exact k55_mkM _ _ _ (⟨(rd_T55 l0_0 x10_1).f0, y192, y198⟩ : S55) (R_mono (R_tight rfl (R_mono (ok' := fun k_ => ((fun k_ => k_ ≠ gb188)) k_ ∧ some k_ ≠ (.slice Ao21 x187000_1.length co21 : Value).ownBlock) (R_types (R_apart' (HO194.out) (S_typed HO_187000.out) (by decide)) BK188.out (by decide)) (fun k_ hk => ⟨hk.2, hk.1.2⟩))) (fun _ h_ => Or.inl h_)) (R_mono (R_tight rfl (R_mono (ok' := fun k_ => ((fun k_ => k_ ≠ gb188)) k_ ∧ some k_ ≠ (.slice Ao21 x187000_1.length co21 : Value).ownBlock) (R_types (R_apart' (HO200.out) (S_typed HO_187000.out) (by decide)) BK188.out (by decide)) (fun k_ hk => ⟨hk.2, hk.1.2⟩))) (fun _ h_ => Or.inr (h_))) (AP.ne_of (HO194.out) (HO200.out) (by first | exact .inl (fun k_ hk_ => by first | exact hk_ | exact hk_.1 | exact hk_.2 | exact hk_.1.1 | exact hk_.1.2 | exact hk_.2.1 | exact hk_.2.2) | exact .inr (fun k_ hk_ => by first | exact hk_ | exact hk_.1 | exact hk_.2 | exact hk_.1.1 | exact hk_.1.2 | exact hk_.2.1 | exact hk_.2.2))))
         (case aB => exact Zs)
         (case aF => exact (fun k_ hk => Kd.freshB (g := gb188) (o := .cells #[.string ((rd_T55 l0_0 x10_1).f0), .slice A187_1 ((rd_T55 l0_0 x10_1).f1).length c187_1, .slice A187_2 ((rd_T55 l0_0 x10_1).f2).length c187_2] 55 (0, 0)) Zk k_ hk))
         (case aO => exact (ZS (S_mono HO_187000.out (fun k_ hk => ⟨hk.1.2, fun e_ => e_.elim (fun h_ => hk.1.1 h_) (fun h_ => hk.2 h_)⟩))))
         (case aS => exact (below_size Zs))
         (case aL => have := LMc15.out; omega)
         intro v202 w33 ho hb hg hat
         rw [← Ny201.out] at ho
         have n0_ := Zh (blk_grown (g := gb184) (o := .cells #[.slice (some ad187) l0_0.length c0_0] 28 (0, 0)) Zk hg (S_ne HO_187000.out BK184.out (by decide)))
         have n1_ := Zh (blk_grown (g := gb185) (o := .cells #[.slice none 0 0] 28 (0, 0)) Zk hg (S_ne HO_187000.out BK185.out (by decide)))
         have n2_ := Zh (blk_grown (g := gb186) (o := .cells #[.slice Ao21 x187000_1.length co21] 28 (0, 0)) Zk hg (S_ne HO_187000.out BK186.out (by decide)))
         have n3_ := Zh (blk_grown (g := gb188) (o := .cells #[.string ((rd_T55 l0_0 x10_1).f0), .slice A187_1 ((rd_T55 l0_0 x10_1).f1).length c187_1, .slice A187_2 ((rd_T55 l0_0 x10_1).f2).length c187_2] 55 (0, 0)) Zk hg (S_away HO_187000.out (fun _ hk => hk.1.2)))
         have n4_ := Zh (hb)
         have n5_ := Zh (ho)
         clear BK184
         clear BK185
         clear BK186
         clear BK188
         clear HB
         clear HO_187000
         clear HO194
         clear HO200
         have BK184 := n0_
         have BK185 := n1_
         have BK186 := n2_
         have BK188 := n3_
         have HB := n4_
         have HO203 := n5_
         clear n0_ n1_ n2_ n3_ n4_ n5_
         clear ho hb hg hat
         obtain ⟨Ao34, co34, eo34⟩ := S_slice HO203.out
         (first | subst eo34 | (injection eo34 with f1_ f2_ f3_; have f4_ := f1_.symm; have f5_ := f3_.symm; clear f1_ f2_ f3_; subst f4_; subst f5_))
         refine hK.out _ _ ⟨(blk_cell BK186.out 0).trans rfl, (blk_cell BK188.out 0).trans rfl, (blk_cell BK188.out 1).trans rfl, (blk_cell BK188.out 2).trans rfl⟩ (fun hHeld => ?_)
         clear hK K
         refine norm_ (a' := ?_) ?_ ?_
         rotate_left
         ·
          show Act.put _ (some 28) _ = _
          simp only [Act.put, List.setIfInBounds_toArray, List.set_cons_zero, List.set_cons_succ, i64_w, i32_w]
          rfl
         refine SQ.pu 15 29 HT_ ?_
         refine last_ (i := 16) (N := none) #[true, true, true, true, true, true, true, true, true, true, true, true, true, true, true, true, true] rfl rfl (one_of HT_.out (by kernel_rfl)) (by decide) (fun K hK => ?_)
         have hs35 : w33.cell? ⟨gb186, 0, none⟩ = some (.slice Ao21 x187000_1.length co21) := (blk_cell BK186.out 0).trans rfl
         have hfs35 := Zn BK186.out 0
         have hns35_0 := NB184_186.out
         have hns35_1 := NB185_186.out
         have hns35_3 := NB188_186.out
         have hms35_0 := NB186_184.out
         have hms35_1 := NB186_185.out
         have hms35_3 := NB186_188.out
         refine skip_ (w1 := ?_) (by rfl) rfl ?_ ?_
         rotate_left
         ·
          go_simp
          rfl
         refine hK.out _ _ ?_
         clear hK K
         refine done_ (done_of HT_.out (by kernel_rfl)) ?_
         try go_wp2
         go_roundg k1
         case measure => have := HK1.out; omega
         case rel => exact ⟨(wrap64 (x10_1 + 1)), (y201), (.slice Ao34 y201.length co34), (by first | rfl | (simp; done) | (simp [*]; done)), H', ⟨by have := HK1.out; omega⟩, ⟨ZS (S_mono (S_far (p := ⟨gb186, 0, none⟩) (S_types HO203.out BK186.out (by decide)) (fun _ hk => hk.2) (.slice Ao34 y201.length co34)) (fun _ hk => trivial))⟩, ⟨by (with_reducible repeat (first | refine Za ?_ _ | refine Zb ?_ | refine blk_alloc ?_ _)); refine blk_far ?_ NB184_186.out _; (with_reducible repeat (first | refine Za ?_ _ | refine Zb ?_ | refine blk_alloc ?_ _)); exact BK184.out⟩, ⟨by (with_reducible repeat (first | refine Za ?_ _ | refine Zb ?_ | refine blk_alloc ?_ _)); refine blk_far ?_ NB185_186.out _; (with_reducible repeat (first | refine Za ?_ _ | refine Zb ?_ | refine blk_alloc ?_ _)); exact BK185.out⟩, ⟨by (with_reducible repeat (first | refine Za ?_ _ | refine Zb ?_ | refine blk_alloc ?_ _)); refine blk_put (cs := #[.slice Ao21 x187000_1.length co21]) ?_ 0 _ rfl; (with_reducible repeat (first | refine Za ?_ _ | refine Zb ?_ | refine blk_alloc ?_ _)); exact BK186.out⟩, ⟨Zs⟩⟩
        rw [if_neg c15] at H
        exact absurd H (by simp)
       rw [if_neg c14] at H
       exact absurd H (by simp)
      rw [if_neg c13] at H
      exact absurd H (by simp)
     rw [if_neg c12] at H
     exact absurd H (by simp)
    rw [if_neg c11] at H
    exact absurd H (by simp)
   rw [if_neg c10] at H
   have c10b0 : decide (x10_1 < (l0_0.length : Int)) = false := decide_eq_false c10
   clear c10
   obtain rfl := Option.some.inj H
   have hnb36 := NB186_184.out
   have hnc36 := NB184_186.out
   have hnb37 := NB186_185.out
   have hnc37 := NB185_186.out
   have hcz38_0 : wr.cell? ⟨gb186, 0, none⟩ = some (u187000) := (blk_cell BK186.out 0).trans rfl
   have hfz38_0 := Zn BK186.out 0
   obtain ⟨Ao39, co39, eo39⟩ := S_slice HO_187000.out
   subst eo39
   have hnb40 := NB185_184.out
   have hnc40 := NB184_185.out
   have hcz41_0 : wr.cell? ⟨gb185, 0, none⟩ = some (.slice none 0 0) := (blk_cell BK185.out 0).trans rfl
   have hfz41_0 := Zn BK185.out 0
   go_wp2
   refine Zq (results_cell_row rfl _ _ gb185 28 #[.slice Ao39 x187000_1.length co39] (0, 0) _ rfl (by (with_reducible repeat (first | refine Za ?_ _ | refine Zb ?_ | refine blk_alloc ?_ _)); refine blk_put (cs := #[.slice none 0 0]) ?_ 0 _ rfl; (with_reducible repeat (first | refine Za ?_ _ | refine Zb ?_ | refine blk_alloc ?_ _)); exact BK185.out) Tryd.underlying28 rfl (by kernel_rfl)) rfl ?_
   exact ⟨_, ZE, ZS (S_mono (S_far (p := ⟨gb185, 0, none⟩) (S_types HO_187000.out BK185.out (by decide)) (fun _ hk => hk.2) (.slice Ao39 x187000_1.length co39)) (fun _ hk => trivial)), Zs⟩
end Go.Proofs.YtcgojdhbphocgaaDoor.F

namespace Go.Proofs.YtcgojdhbphocgaaDoor.LW
open Go.RowKit Go.Proofs.YtcgojdhbphocgaaDoorW.PrintWords Go.Proofs.YtcgojdhbphocgaaDoorW.PrintLast Go.Proofs.YtcgojdhbphocgaaDoorW.PrintMore
set_option linter.unusedVariables false
set_option linter.unusedSimpArgs false
variable {w0 w w1 : World} {l : List It} {e B : Nat} {α : Type} {d : Kd α} {v v1 : Value} {xs : List α}
def pick (d : Kd α) (e B : Nat) (w0 : World) (v : Value) (xs : List α) : It :=
  ⟨fun w => ∃ rows : List (List Value), rows.length = xs.length ∧ (Kd.raw d.sz).R e w B (fun k => some k = v.ownBlock) v rows ∧ ∀ (j : Nat) (x : α) (c : List Value), xs[j]? = some x → rows[j]? = some c → d.K w0 x c, fun k => some k = v.ownBlock,
    fun w w1 hm h => by obtain ⟨rows, hl, hR, hc⟩ := h; exact ⟨rows, hl, Kd.R_move hR hm, hc⟩⟩
theorem St.pick0 (h : St w0 w l) : St w0 w (pick d e B w0 (.slice none 0 0) [] :: l) :=
  ⟨h.b, fun k hk => by simp [pick, Value.ownBlock] at hk, ⟨[], rfl, Kd.R_nil _ _ _ _ _, fun j x c hx => by simp at hx⟩, fun j hj k hk => by simp [pick, Value.ownBlock] at hk, h.i⟩
theorem St.drewN (h : St w0 w l) (n : Nat) : St w0 (w.drewN n) l := h.step (pw_below_drewN (Below.refl _ _) n)
theorem St.tail {i : It} (h : St w0 w (i :: l)) : St w0 w l := ⟨h.b, h.i.2.2.2⟩
theorem St.picks {A : Option Addr} {m c : Nat} (h : St w0 w l) (q : Nat) (hq : l[q]? = some (pick d e B w0 (.slice A m c) xs)) : m = xs.length ∧ m ≤ c ∧ d.C w A xs.length xs := by
  obtain ⟨rows, hl, hR, hc⟩ := (h.i.all _ (List.mem_of_getElem? hq)).1
  obtain ⟨h1, h2, h3⟩ := Kd.R_reads' hR
  refine ⟨by omega, h2, rfl, by have := h3.2.1; omega, fun hn => ?_⟩
  obtain ⟨ad, ea, hcell⟩ := h3.2.2 (by omega)
  refine ⟨ad, ea, fun j x hx => ?_⟩
  have hj : j < rows.length := by have := (List.getElem?_eq_some_iff.1 hx).1; omega
  obtain ⟨c', hs, hr, hu⟩ := hcell j _ (List.getElem?_eq_getElem hj)
  obtain ⟨rfl, _, _⟩ := hr
  have hK := d.K_below h.b (hc j x _ hx (List.getElem?_eq_getElem hj))
  exact ⟨_, hs, hK, hu⟩
theorem St.picked (h : St w0 w l) (q : Nat) (hq : l[q]? = some (pick d e w0.heap.size w0 v xs)) : ∃ rows : List (List Value), rows.length = xs.length ∧ (Kd.raw d.sz).R e w w0.heap.size (fun _ => True) v rows ∧
    ∀ (x : α) (cx : List Value) (v1 : Value) (w1 : World), d.K w0 x cx → (Kd.raw d.sz).R e w1 w0.heap.size (fun _ => True) v1 (rows ++ [cx]) → Below w0.heap.size w0 w1 → w.grownBy w1 v.ownBlock → (v1.ownBlock = v.ownBlock ∨ ∃ b, v1.ownBlock = some b ∧ w.heap.size ≤ b) →
      St w0 w1 (l.set q (pick d e w0.heap.size w0 v1 (xs ++ [x]))) := by
  obtain ⟨rows, hl, hR, hc⟩ := (h.i.all _ (List.mem_of_getElem? hq)).1
  refine ⟨rows, hl, Kd.R_mono hR (fun _ _ => trivial), fun x cx v1 w1 hK hR1 hB hg hat => ?_⟩
  refine h.grow q hq _ (fun k hk => ?_) ⟨rows ++ [cx], by simp [hl], Kd.R_tight rfl hR1, fun j y c hy hcj => ?_⟩ hB ⟨hg.size, fun k hk hn => hg.block k hk (fun he => hn he)⟩
  · have hk : some k = v1.ownBlock := hk
    rcases hat with e1 | ⟨b, e1, hb⟩
    · exact .inl (hk.trans e1)
    rw [e1] at hk
    injection hk with hk
    subst hk
    exact .inr ⟨hb, Kd.R_lt hR1 _ e1⟩
  rcases Nat.lt_or_ge j xs.length with hj | hj
  · rw [List.getElem?_append_left hj] at hy
    rw [List.getElem?_append_left (by omega)] at hcj
    exact hc j y c hy hcj
  rw [List.getElem?_append_right hj] at hy
  rw [List.getElem?_append_right (by omega)] at hcj
  have e0 : j - xs.length = 0 := by have := (List.getElem?_eq_some_iff.1 hy).1; simp at this; omega
  rw [e0] at hy
  rw [show j - rows.length = 0 by omega] at hcj
  simp only [List.getElem?_cons_zero, Option.some.injEq] at hy hcj
  subst hy
  subst hcj
  exact hK
end Go.Proofs.YtcgojdhbphocgaaDoor.LW

namespace Go.Proofs.YtcgojdhbphocgaaDoor.F
open Go.RowKit Go.Proofs.YtcgojdhbphocgaaDoorW.PrintWords Go.Proofs.YtcgojdhbphocgaaDoorW.PrintLast Go.Proofs.YtcgojdhbphocgaaDoorW.PrintMore
set_option linter.unusedVariables false
def lays160_ren : Go.Shelf.Ren := ⟨fun | 160 => 107 | 232 => 110 | 231 => 109 | 227 => 111 | 234 => 113 | 233 => 112 | 236 => 115 | 235 => 114 | 228 => 118 | 271 => 121 | 151 => 120 | 197 => 119 | 120 => 125 | 152 => 124 | 260 => 123 | 137 => 127 | 119 => 128 | 224 => 129 | 225 => 130 | 217 => 131 | 266 => 132 | n => n, fun | 9 => 9 | 4 => 4 | 3 => 3 | 5 => 5 | 117 => 113 | 116 => 112 | 0 => 0 | 124 => 116 | 21 => 21 | 105 => 119 | 46 => 107 | 119 => 124 | 139 => 127 | 138 => 126 | n => n, fun | 3 => 1 | 4 => 2 | n => n⟩
theorem lays160 : Go.Proofs.Lays.n160 Tryd.prog lays160_ren where
  mixed := by kernel_rfl
  f119 := Tryd.func128.trans (congrArg some (by kernel_rfl))
  f120 := Tryd.func125.trans (congrArg some (by kernel_rfl))
  f137 := Tryd.func127.trans (congrArg some (by kernel_rfl))
  f151 := Tryd.func120.trans (congrArg some (by kernel_rfl))
  f152 := Tryd.func124.trans (congrArg some (by kernel_rfl))
  f160 := Tryd.func107.trans (congrArg some (by kernel_rfl))
  f197 := Tryd.func119.trans (congrArg some (by kernel_rfl))
  f217 := Tryd.func131.trans (congrArg some (by kernel_rfl))
  f224 := Tryd.func129.trans (congrArg some (by kernel_rfl))
  f225 := Tryd.func130.trans (congrArg some (by kernel_rfl))
  f227 := Tryd.func111.trans (congrArg some (by kernel_rfl))
  f228 := Tryd.func118.trans (congrArg some (by kernel_rfl))
  f231 := Tryd.func109.trans (congrArg some (by kernel_rfl))
  f232 := Tryd.func110.trans (congrArg some (by kernel_rfl))
  f233 := Tryd.func112.trans (congrArg some (by kernel_rfl))
  f234 := Tryd.func113.trans (congrArg some (by kernel_rfl))
  f235 := Tryd.func114.trans (congrArg some (by kernel_rfl))
  f236 := Tryd.func115.trans (congrArg some (by kernel_rfl))
  f260 := Tryd.func123.trans (congrArg some (by kernel_rfl))
  f266 := Tryd.func132.trans (congrArg some (by kernel_rfl))
  f271 := Tryd.func121.trans (congrArg some (by kernel_rfl))
  t0 := Tryd.underlying0
  a0 := Tryd.isAgg0
  z0 := Tryd.sizeOf0
  v0 := Tryd.zeroValue0
  t3 := Tryd.underlying3
  a3 := Tryd.isAgg3
  z3 := Tryd.sizeOf3
  v3 := Tryd.zeroValue3
  t4 := Tryd.underlying4
  a4 := Tryd.isAgg4
  z4 := Tryd.sizeOf4
  v4 := Tryd.zeroValue4
  t5 := Tryd.underlying5
  a5 := Tryd.isAgg5
  z5 := Tryd.sizeOf5
  v5 := Tryd.zeroValue5
  t9 := Tryd.underlying9
  a9 := Tryd.isAgg9
  z9 := Tryd.sizeOf9
  v9 := Tryd.zeroValue9
  t21 := Tryd.underlying21
  a21 := Tryd.isAgg21
  z21 := Tryd.sizeOf21
  v21 := Tryd.zeroValue21
  t46 := Tryd.underlying107
  a46 := Tryd.isAgg107
  z46 := Tryd.sizeOf107
  v46 := Tryd.zeroValue107
  t105 := Tryd.underlying119
  a105 := Tryd.isAgg119
  z105 := Tryd.sizeOf119
  v105 := Tryd.zeroValue119
  t116 := Tryd.underlying112
  a116 := Tryd.isAgg112
  z116 := Tryd.sizeOf112
  t117 := Tryd.underlying113
  a117 := Tryd.isAgg113
  z117 := Tryd.sizeOf113
  v117 := Tryd.zeroValue113
  t119 := Tryd.underlying124
  a119 := Tryd.isAgg124
  z119 := Tryd.sizeOf124
  t124 := Tryd.underlying116
  a124 := Tryd.isAgg116
  z124 := Tryd.sizeOf116
  v124 := Tryd.zeroValue116
  t138 := Tryd.underlying126
  a138 := Tryd.isAgg126
  z138 := Tryd.sizeOf126
  v138 := Tryd.zeroValue126
  t139 := Tryd.underlying127
  a139 := Tryd.isAgg127
  z139 := Tryd.sizeOf127
  v139 := Tryd.zeroValue127
  g3 := by kernel_rfl
  g4 := by kernel_rfl
def trimF.f (s c : ByteArray) : Option ByteArray := if s.size ≤ 9223372036854775807 ∧ c.size < 4294967281 ∧ c.data.toList.all (fun b => decide (b.toNat < 128)) = true then some ⟨(Go.Lib.trimS s.data.toList c.data.toList).toArray⟩ else none
theorem trimF.calls (a0 a1 : ByteArray) (r : ByteArray) (w : World) (h : trimF.f a0 a1 = some r) :
    Calls Tryd.prog 107 #[.string a0, .string a1] w fun e w' => e = .returned (.string r) ∧ Below w.heap.size w w' := by
  unfold trimF.f at h
  split at h
  · rename_i hc
    have h := Option.some.inj h
    subst h
    exact Any.strings_Trim_laid lays160 (by kernel_rfl) a0 a1 w hc.1 hc.2.1 (ascii_of_all hc.2.2)
  cases h
end Go.Proofs.YtcgojdhbphocgaaDoor.F

namespace Go.Proofs.YtcgojdhbphocgaaDoor.F
open Go.RowKit Go.Proofs.YtcgojdhbphocgaaDoorW.PrintWords Go.Proofs.YtcgojdhbphocgaaDoorW.PrintWords.Kd Go.Proofs.YtcgojdhbphocgaaDoorW.PrintMore.Kd Go.Proofs.YtcgojdhbphocgaaDoorW.PrintLast Go.Proofs.YtcgojdhbphocgaaDoorW.PrintMore
attribute [local go_sem] max2_int min2_int max_two min_two max_three min_three max_four min_four   -- for this text's walks alone
set_option linter.unusedVariables false
set_option linter.unusedSimpArgs false
def impl_isFileName.f (a0 : ByteArray) : Option (Bool) := if (a0.size : Int) ≥ 1 then (if (a0.size : Int) ≤ 12 then ((trimF.f a0 (⟨#[97, 98, 99, 100, 101, 102, 103, 104, 105, 106, 107, 108, 109, 110, 111, 112, 113, 114, 115, 116, 117, 118, 119, 120, 121, 122, 48, 49, 50, 51, 52, 53, 54, 55, 56, 57]⟩ : ByteArray)).bind fun t205 => (some (t205.toList == ([] : List UInt8)))) else (some false)) else (some false)
set_option maxHeartbeats 8000000 in
set_option maxRecDepth 100000 in
theorem impl_isFileName.calls (a0 : ByteArray) (r : Bool) (w : World) (h : impl_isFileName.f a0 = some r) :
  Calls Tryd.prog 93 #[.string a0] w fun e w' => e = .returned (.bool r) ∧ Below w.heap.size w w' := by
 have HB := Zh (Below.refl w.heap.size w)
 have H : (if (a0.size : Int) ≥ 1 then (if (a0.size : Int) ≤ 12 then ((trimF.f a0 (⟨#[97, 98, 99, 100, 101, 102, 103, 104, 105, 106, 107, 108, 109, 110, 111, 112, 113, 114, 115, 116, 117, 118, 119, 120, 121, 122, 48, 49, 50, 51, 52, 53, 54, 55, 56, 57]⟩ : ByteArray)).bind fun t205 => (some (t205.toList == ([] : List UInt8)))) else (some false)) else (some false)) = some r := h
 clear h
 by_cases c2 : (a0.size : Int) ≥ 1
 ·
  rw [if_pos c2] at H
  have c2b0 : decide (1 ≤ (a0.size : Int)) = true := decide_eq_true c2
  have c2b1 : decide (1 ≤ a0.size) = true := decide_eq_true (by omega)
  clear c2
  by_cases c3 : (a0.size : Int) ≤ 12
  ·
   rw [if_pos c3] at H
   have c3b0 : decide ((a0.size : Int) ≤ 12) = true := decide_eq_true c3
   have c3b1 : decide (a0.size ≤ 12) = true := decide_eq_true (by omega)
   clear c3
   replace H := Option.bind_eq_some_iff.mp H
   obtain ⟨t205, A40, H⟩ := H
   replace H : (some (t205.toList == ([] : List UInt8))) = some r := H
   have A4 := Zh A40
   clear A40
   obtain rfl := Option.some.inj H
   go_enter Tryd.func93, Tryd.ntmps93
   go_wp2_with (first | (go_at_call 107; (with_reducible refine (trimF.calls a0 (⟨#[97, 98, 99, 100, 101, 102, 103, 104, 105, 106, 107, 108, 109, 110, 111, 112, 113, 114, 115, 116, 117, 118, 119, 120, 121, 122, 48, 49, 50, 51, 52, 53, 54, 55, 56, 57]⟩ : ByteArray) t205 _ A4.out).mono ?_); rintro e w5 ⟨rfl, hb⟩; replace HB := Zh (Zl Zs hb); (try clear hb); (try clear hb2); (try clear hk); (try clear hi)))
   go_ret
   exact ⟨ZE, Zs⟩
  rw [if_neg c3] at H
  have c3b0 : decide ((a0.size : Int) ≤ 12) = false := decide_eq_false c3
  have c3b1 : decide (a0.size ≤ 12) = false := decide_eq_false (by omega)
  clear c3
  obtain rfl := Option.some.inj H
  go_enter Tryd.func93, Tryd.ntmps93
  go_wp2
  go_ret
  exact ⟨ZE, Zs⟩
 rw [if_neg c2] at H
 have c2b0 : decide (1 ≤ (a0.size : Int)) = false := decide_eq_false c2
 have c2b1 : decide (1 ≤ a0.size) = false := decide_eq_false (by omega)
 clear c2
 obtain rfl := Option.some.inj H
 go_enter Tryd.func93, Tryd.ntmps93
 go_wp2
 go_ret
 exact ⟨ZE, Zs⟩
end Go.Proofs.YtcgojdhbphocgaaDoor.F

namespace Go.Proofs.YtcgojdhbphocgaaDoor.F
open Go.RowKit Go.Proofs.YtcgojdhbphocgaaDoorW.PrintWords Go.Proofs.YtcgojdhbphocgaaDoorW.PrintLast Go.Proofs.YtcgojdhbphocgaaDoorW.PrintMore
open Go.Proofs.YtcgojdhbphocgaaDoor
set_option linter.unusedVariables false
set_option linter.unusedSimpArgs false
def impl_isDisk.l0 : Nat → List (S55) → Int → Int → List (S55) → Option (Bool)
  | 0, _, _, _, _ => none
  | k + 1, x6, x7, x8, x => if x8 < x7 then (if 0 ≤ x8 then (if x8 < (x6.length : Int) then ((impl_isFileName.f ((rd_T55 x6 x8).f0)).bind fun t151 => (if t151 = true then (if (wrap64 ((((rd_T55 x6 x8).f1).length : Int) + (((rd_T55 x6 x8).f2).length : Int))) > 20000 then (some false) else (if x8 > 0 then (if 0 ≤ (wrap64 (x8 - 1)) then (if (wrap64 (x8 - 1)) < (x.length : Int) then (if ((Op.bytesLess (((rd_T55 x (wrap64 (x8 - 1))).f0).toList) (((rd_T55 x6 x8).f0).toList)) = true) then (impl_isDisk.l0 k x6 x7 (wrap64 (x8 + 1)) x) else (some false)) else (none)) else (none)) else (impl_isDisk.l0 k x6 x7 (wrap64 (x8 + 1)) x))) else (some false))) else (none)) else (none)) else (some (decide ((x.length : Int) ≤ 8)))
def impl_isDisk.f (k : Nat) (l0_0 : List (S55)) : Option (Bool) := impl_isDisk.l0 k l0_0 (l0_0.length : Int) 0 l0_0
set_option maxHeartbeats 8000000 in
set_option maxRecDepth 100000 in
theorem impl_isDisk.calls (k : Nat) (A0_0 : Option Addr) (c0_0 : Nat) (l0_0 : List (S55)) (r : Bool) (w : World) (hr0_0 : Kd.C k55 w A0_0 l0_0.length l0_0) (hc0_0 : l0_0.length ≤ c0_0) (h : impl_isDisk.f k l0_0 = some r) :
    Calls Tryd.prog 72 #[.agg #[.slice A0_0 l0_0.length c0_0]] w fun e w' => e = .returned (.bool r) ∧ Below w.heap.size w w' := by
  have HR := Zh hr0_0
  clear hr0_0 hc0_0
  have ST := Zh (LW.St.start w)
  have hu28 := Tryd.underlying28
  have hu55 := Tryd.underlying55
  have H := Zh (show impl_isDisk.l0 k l0_0 (l0_0.length : Int) 0 l0_0 = some r from h)
  clear h
  go_enter Tryd.func72, Tryd.ntmps72
  go_wp2_with fail
  replace ST := Zh (ST.out.alloc #[.slice A0_0 l0_0.length c0_0] 28 (g := w.heap.size) rfl)
  generalize hW : (w.alloc (.cells #[.slice A0_0 l0_0.length c0_0] 28)) = W at ST ⊢
  clear hW
  go_loopg [8] k (fun kq v8 w' => ∃ (x8 : Int), v8 = .int .i64 x8 ∧ Aside0 (impl_isDisk.l0 kq l0_0 (l0_0.length : Int) x8 l0_0 = some r) ∧ Aside0 (LW.St w w' [LW.box w.heap.size #[.slice A0_0 l0_0.length c0_0] 28]))
  case atStart => exact ⟨0, rfl, H, ST⟩
  case round =>
    clear H ST
    obtain ⟨x8, rfl, HA, ST⟩ := hrel
    cases gk with
    | zero => exact absurd HA.out (by simp [impl_isDisk.l0])
    | succ k1 =>
      have H := HA.out
      clear HA
      simp only [impl_isDisk.l0] at H
      by_cases c8 : x8 < (l0_0.length : Int)
      · rw [if_pos c8] at H
        have q8 := decide_eq_true c8
        by_cases p0 : 0 ≤ x8
        · rw [if_pos p0, if_pos c8] at H
          obtain ⟨t, A7, H⟩ := Option.bind_eq_some_iff.mp H
          replace A7 := Zh A7
          obtain ⟨ad, B1, d1, B2, d2, e, E0, E1, E2, _, _, _, _⟩ := at_T55 HR.out x8 p0 c8
          cases e
          have hx0 := (ST.out.b.cell (Zi w _ E0)).trans E0
          have hx1 := (ST.out.b.cell (Zi w _ E1)).trans E1
          have hx2 := (ST.out.b.cell (Zi w _ E2)).trans E2
          have p1 := eq_true p0
          have p2 := eq_true c8
          clear E0 E1 E2 p0 c8
          go_wp2_with fail
          replace ST := Zh (ST.out.alloc #[.string (rd_T55 l0_0 x8).f0, .slice B1 (rd_T55 l0_0 x8).f1.length d1, .slice B2 (rd_T55 l0_0 x8).f2.length d2] 55 (g := wr.heap.size) rfl)
          clear hx0 hx1 hx2
          cases t with
          | false =>
            rw [if_neg (by decide)] at H
            obtain rfl := Option.some.inj H
            clear H
            replace ST := Zh ST.out.drew
            refine start_ (n := 30) (S := fun w' => w'.cell? ⟨wr.heap.size, 0, none⟩ = some (.string (rd_T55 l0_0 x8).f0) ∧ w'.cell? ⟨wr.heap.size, 1, none⟩ = some (.slice B1 (rd_T55 l0_0 x8).f1.length d1) ∧ w'.cell? ⟨wr.heap.size, 2, none⟩ = some (.slice B2 (rd_T55 l0_0 x8).f2.length d2)) (ds := []) #[false, false, false, false, false, false, false, false, false, false, false, false, false, false, false, false, false, false, false, false, false, false, false, false, false, false, false, false, false, false] (by kernel_rfl) rfl rfl ⟨ST.out.cell 0 rfl 0 rfl, ST.out.cell 0 rfl 1 rfl, ST.out.cell 0 rfl 2 rfl⟩ (fun hHeld => ?_)
            generalize (wr.alloc (.cells #[.string (rd_T55 l0_0 x8).f0, .slice B1 (rd_T55 l0_0 x8).f1.length d1, .slice B2 (rd_T55 l0_0 x8).f2.length d2] 55)).drew = w8 at ST hHeld ⊢
            refine SQ.p0 0 13 ?_
            refine SQ.t0 1 14 hHeld ?_
            refine one_ (i := 2) (N := some 15) #[true, true, true, false, false, false, false, false, false, false, false, false, false, false, false, false, false, false, false, false, false, false, false, false, false, false, false, false, false, false] rfl rfl (by kernel_rfl) (by decide) (fun K hK => ?_)
            refine goes_ Tryd.func93 (by kernel_rfl) rfl #[.string (rd_T55 l0_0 x8).f0] (by rfl) rfl rfl (by (try simp only [List.map_toArray, List.map_cons, List.map_nil]); first | done | rfl) ?_
            with_reducible refine (impl_isFileName.calls (rd_T55 l0_0 x8).f0 _ _ A7.out).mono ?_
            rintro e w9 ⟨rfl, hb⟩
            refine ⟨_, rfl, ?_⟩
            replace ST := Zh (ST.out.step hb)
            clear hb hHeld
            refine hK.out _ _ ⟨ST.out.cell 0 rfl 0 rfl, ST.out.cell 0 rfl 1 rfl, ST.out.cell 0 rfl 2 rfl⟩ (fun hHeld => ?_)
            clear hK K
            refine norm_ (a' := ?_) ?_ ?_
            rotate_left
            · show Act.put _ (some 15) _ = _
              simp only [Act.put, List.setIfInBounds_toArray, List.set_cons_zero, List.set_cons_succ, i64_w, i32_w]
              rfl
            refine SQ.p0 3 16 ?_
            refine SQ.p0 4 17 ?_
            refine SQ.o0 5 18 ?_
            refine SQ.o0 6 19 ?_
            refine SQ.o0 7 20 ?_
            refine SQ.o0 8 21 ?_
            refine SQ.o0 9 22 ?_
            refine SQ.o0 10 23 ?_
            refine SQ.o0 11 24 ?_
            refine SQ.o0 12 25 ?_
            refine SQ.p0 13 26 ?_
            refine SQ.p0 14 27 ?_
            refine SQ.o0 15 28 ?_
            refine SQ.o0 16 29 ?_
            refine SQ.o0 17 30 ?_
            refine SQ.o0 18 31 ?_
            refine SQ.o0 19 32 ?_
            refine SQ.o0 20 33 ?_
            refine SQ.o0 21 34 ?_
            refine SQ.o0 22 35 ?_
            refine SQ.o0 23 36 ?_
            refine SQ.o0 24 37 ?_
            refine SQ.o0 25 38 ?_
            refine SQ.o0 26 39 ?_
            refine SQ.o0 27 40 ?_
            refine SQ.o0 28 41 ?_
            refine SQ.p0 29 42 ?_
            refine done_ (by kernel_rfl) ?_
            clear hHeld
            go_wp2
            go_ret
            exact ⟨rfl, ST.out.b⟩
          | true =>
            rw [if_pos rfl] at H
            by_cases c9 : (wrap64 ((((rd_T55 l0_0 x8).f1).length : Int) + (((rd_T55 l0_0 x8).f2).length : Int))) > 20000
            · rw [if_pos c9] at H
              obtain rfl := Option.some.inj H
              have q9 : decide (20000 < wrap64 ((((rd_T55 l0_0 x8).f1).length : Int) + (((rd_T55 l0_0 x8).f2).length : Int))) = true := decide_eq_true c9
              clear H c9
              replace ST := Zh ST.out.drew
              refine start_ (n := 30) (S := fun w' => w'.cell? ⟨wr.heap.size, 0, none⟩ = some (.string (rd_T55 l0_0 x8).f0) ∧ w'.cell? ⟨wr.heap.size, 1, none⟩ = some (.slice B1 (rd_T55 l0_0 x8).f1.length d1) ∧ w'.cell? ⟨wr.heap.size, 2, none⟩ = some (.slice B2 (rd_T55 l0_0 x8).f2.length d2)) (ds := []) #[false, false, false, false, false, false, false, false, false, false, false, false, false, false, false, false, false, false, false, false, false, false, false, false, false, false, false, false, false, false] (by kernel_rfl) rfl rfl ⟨ST.out.cell 0 rfl 0 rfl, ST.out.cell 0 rfl 1 rfl, ST.out.cell 0 rfl 2 rfl⟩ (fun hHeld => ?_)
              generalize (wr.alloc (.cells #[.string (rd_T55 l0_0 x8).f0, .slice B1 (rd_T55 l0_0 x8).f1.length d1, .slice B2 (rd_T55 l0_0 x8).f2.length d2] 55)).drew = w8 at ST hHeld ⊢
              refine SQ.p0 0 13 ?_
              refine SQ.t0 1 14 hHeld ?_
              refine one_ (i := 2) (N := some 15) #[true, true, true, false, false, false, false, false, false, false, false, false, false, false, false, false, false, false, false, false, false, false, false, false, false, false, false, false, false, false] rfl rfl (by kernel_rfl) (by decide) (fun K hK => ?_)
              refine goes_ Tryd.func93 (by kernel_rfl) rfl #[.string (rd_T55 l0_0 x8).f0] (by rfl) rfl rfl (by (try simp only [List.map_toArray, List.map_cons, List.map_nil]); first | done | rfl) ?_
              with_reducible refine (impl_isFileName.calls (rd_T55 l0_0 x8).f0 _ _ A7.out).mono ?_
              rintro e w9 ⟨rfl, hb⟩
              refine ⟨_, rfl, ?_⟩
              replace ST := Zh (ST.out.step hb)
              clear hb hHeld
              refine hK.out _ _ ⟨ST.out.cell 0 rfl 0 rfl, ST.out.cell 0 rfl 1 rfl, ST.out.cell 0 rfl 2 rfl⟩ (fun hHeld => ?_)
              clear hK K
              refine norm_ (a' := ?_) ?_ ?_
              rotate_left
              · show Act.put _ (some 15) _ = _
                simp only [Act.put, List.setIfInBounds_toArray, List.set_cons_zero, List.set_cons_succ, i64_w, i32_w]
                rfl
              refine SQ.p0 3 16 ?_
              refine SQ.p0 4 17 ?_
              refine SQ.p0 5 18 ?_
              refine SQ.t0 6 19 hHeld ?_
              refine SQ.p0 7 20 ?_
              refine SQ.p0 8 21 ?_
              refine SQ.t0 9 22 hHeld ?_
              refine SQ.p0 10 23 ?_
              refine SQ.p0 11 24 ?_
              refine SQ.p0 12 25 ?_
              refine SQ.p0 13 26 ?_
              refine SQ.p0 14 27 ?_
              refine SQ.o0 15 28 ?_
              refine SQ.o0 16 29 ?_
              refine SQ.o0 17 30 ?_
              refine SQ.o0 18 31 ?_
              refine SQ.o0 19 32 ?_
              refine SQ.o0 20 33 ?_
              refine SQ.o0 21 34 ?_
              refine SQ.o0 22 35 ?_
              refine SQ.o0 23 36 ?_
              refine SQ.o0 24 37 ?_
              refine SQ.o0 25 38 ?_
              refine SQ.o0 26 39 ?_
              refine SQ.o0 27 40 ?_
              refine SQ.o0 28 41 ?_
              refine SQ.p0 29 42 ?_
              refine done_ (by kernel_rfl) ?_
              clear hHeld
              go_wp2
              go_ret
              exact ⟨rfl, ST.out.b⟩
            rw [if_neg c9] at H
            have q9 : decide (20000 < wrap64 ((((rd_T55 l0_0 x8).f1).length : Int) + (((rd_T55 l0_0 x8).f2).length : Int))) = false := decide_eq_false c9
            clear c9
            by_cases c10 : x8 > 0
            · rw [if_pos c10] at H
              have q10 : decide (0 < x8) = true := decide_eq_true c10
              clear c10
              by_cases c11 : 0 ≤ wrap64 (x8 - 1)
              · rw [if_pos c11] at H
                by_cases c12 : wrap64 (x8 - 1) < (l0_0.length : Int)
                · rw [if_pos c12] at H
                  obtain ⟨ad2, B3, d3, B4, d4, e, E0, _, _, _, _, _, _⟩ := at_T55 HR.out (wrap64 (x8 - 1)) c11 c12
                  cases e
                  have HP := Zh E0
                  have p3 := eq_true c11
                  have p4 := eq_true c12
                  clear E0 c11 c12
                  replace ST := Zh ST.out.drew
                  refine start_ (n := 30) (S := fun w' => w'.cell? ⟨wr.heap.size, 0, none⟩ = some (.string (rd_T55 l0_0 x8).f0) ∧ w'.cell? ⟨wr.heap.size, 1, none⟩ = some (.slice B1 (rd_T55 l0_0 x8).f1.length d1) ∧ w'.cell? ⟨wr.heap.size, 2, none⟩ = some (.slice B2 (rd_T55 l0_0 x8).f2.length d2) ∧ w'.cell? ⟨w.heap.size, 0, none⟩ = some (.slice (some ad) l0_0.length c0_0) ∧ w'.cell? (ad.add ((wrap64 (x8 - 1)).toNat * 3)) = some (.string (rd_T55 l0_0 (wrap64 (x8 - 1))).f0)) (ds := []) #[false, false, false, false, false, false, false, false, false, false, false, false, false, false, false, false, false, false, false, false, false, false, false, false, false, false, false, false, false, false] (by kernel_rfl) rfl rfl ⟨ST.out.cell 0 rfl 0 rfl, ST.out.cell 0 rfl 1 rfl, ST.out.cell 0 rfl 2 rfl, ST.out.cell 1 rfl 0 rfl, (ST.out.b.cell (Zi w _ HP.out)).trans HP.out⟩ (fun hHeld => ?_)
                  generalize (wr.alloc (.cells #[.string (rd_T55 l0_0 x8).f0, .slice B1 (rd_T55 l0_0 x8).f1.length d1, .slice B2 (rd_T55 l0_0 x8).f2.length d2] 55)).drew = w8 at ST hHeld ⊢
                  refine SQ.p0 0 13 ?_
                  refine SQ.t0 1 14 hHeld ?_
                  refine one_ (i := 2) (N := some 15) #[true, true, true, false, false, false, false, false, false, false, false, false, false, false, false, false, false, false, false, false, false, false, false, false, false, false, false, false, false, false] rfl rfl (by kernel_rfl) (by decide) (fun K hK => ?_)
                  refine goes_ Tryd.func93 (by kernel_rfl) rfl #[.string (rd_T55 l0_0 x8).f0] (by rfl) rfl rfl (by (try simp only [List.map_toArray, List.map_cons, List.map_nil]); first | done | rfl) ?_
                  with_reducible refine (impl_isFileName.calls (rd_T55 l0_0 x8).f0 _ _ A7.out).mono ?_
                  rintro e w9 ⟨rfl, hb⟩
                  refine ⟨_, rfl, ?_⟩
                  replace ST := Zh (ST.out.step hb)
                  clear hb hHeld
                  refine hK.out _ _ ⟨ST.out.cell 0 rfl 0 rfl, ST.out.cell 0 rfl 1 rfl, ST.out.cell 0 rfl 2 rfl, ST.out.cell 1 rfl 0 rfl, (ST.out.b.cell (Zi w _ HP.out)).trans HP.out⟩ (fun hHeld => ?_)
                  clear hK K
                  refine norm_ (a' := ?_) ?_ ?_
                  rotate_left
                  · show Act.put _ (some 15) _ = _
                    simp only [Act.put, List.setIfInBounds_toArray, List.set_cons_zero, List.set_cons_succ, i64_w, i32_w]
                    rfl
                  refine SQ.p0 3 16 ?_
                  refine SQ.p0 4 17 ?_
                  refine SQ.p0 5 18 ?_
                  refine SQ.t0 6 19 hHeld ?_
                  refine SQ.p0 7 20 ?_
                  refine SQ.p0 8 21 ?_
                  refine SQ.t0 9 22 hHeld ?_
                  refine SQ.p0 10 23 ?_
                  refine SQ.p0 11 24 ?_
                  refine SQ.p0 12 25 ?_
                  refine SQ.p0 13 26 ?_
                  refine SQ.p0 14 27 ?_
                  refine SQ.p0 15 28 ?_
                  refine SQ.p0 16 29 ?_
                  refine SQ.p0 17 30 ?_
                  refine SQ.p0 18 31 ?_
                  refine SQ.t0 19 32 hHeld ?_
                  refine SQ.p0 20 33 ?_
                  refine SQ.p0 21 34 ?_
                  refine SQ.p0 22 35 ?_
                  refine SQ.p0 23 36 ?_
                  refine SQ.t0 24 37 hHeld ?_
                  refine SQ.p0 25 38 ?_
                  refine SQ.t0 26 39 hHeld ?_
                  refine SQ.p0 27 40 ?_
                  refine SQ.p0 28 41 ?_
                  refine SQ.p0 29 42 ?_
                  refine done_ (by kernel_rfl) ?_
                  clear hHeld
                  cases hl : Op.bytesLess (rd_T55 l0_0 (wrap64 (x8 - 1))).f0.toList (rd_T55 l0_0 x8).f0.toList with
                  | true =>
                    rw [if_pos hl] at H
                    have H' := Zh H
                    clear H
                    go_wp2
                    go_roundg k1
                    case measure => omega
                    case rel => exact ⟨_, rfl, H', ⟨ST.out.tail⟩⟩
                  | false =>
                    rw [if_neg (by rw [hl]; decide)] at H
                    obtain rfl := Option.some.inj H
                    clear H
                    go_wp2
                    go_ret
                    exact ⟨rfl, ST.out.b⟩
                rw [if_neg c12] at H; exact absurd H (by simp)
              rw [if_neg c11] at H; exact absurd H (by simp)
            rw [if_neg c10] at H
            have q10 : decide (0 < x8) = false := decide_eq_false c10
            have H' := Zh H
            clear H c10
            replace ST := Zh ST.out.drew
            refine start_ (n := 30) (S := fun w' => w'.cell? ⟨wr.heap.size, 0, none⟩ = some (.string (rd_T55 l0_0 x8).f0) ∧ w'.cell? ⟨wr.heap.size, 1, none⟩ = some (.slice B1 (rd_T55 l0_0 x8).f1.length d1) ∧ w'.cell? ⟨wr.heap.size, 2, none⟩ = some (.slice B2 (rd_T55 l0_0 x8).f2.length d2)) (ds := []) #[false, false, false, false, false, false, false, false, false, false, false, false, false, false, false, false, false, false, false, false, false, false, false, false, false, false, false, false, false, false] (by kernel_rfl) rfl rfl ⟨ST.out.cell 0 rfl 0 rfl, ST.out.cell 0 rfl 1 rfl, ST.out.cell 0 rfl 2 rfl⟩ (fun hHeld => ?_)
            generalize (wr.alloc (.cells #[.string (rd_T55 l0_0 x8).f0, .slice B1 (rd_T55 l0_0 x8).f1.length d1, .slice B2 (rd_T55 l0_0 x8).f2.length d2] 55)).drew = w8 at ST hHeld ⊢
            refine SQ.p0 0 13 ?_
            refine SQ.t0 1 14 hHeld ?_
            refine one_ (i := 2) (N := some 15) #[true, true, true, false, false, false, false, false, false, false, false, false, false, false, false, false, false, false, false, false, false, false, false, false, false, false, false, false, false, false] rfl rfl (by kernel_rfl) (by decide) (fun K hK => ?_)
            refine goes_ Tryd.func93 (by kernel_rfl) rfl #[.string (rd_T55 l0_0 x8).f0] (by rfl) rfl rfl (by (try simp only [List.map_toArray, List.map_cons, List.map_nil]); first | done | rfl) ?_
            with_reducible refine (impl_isFileName.calls (rd_T55 l0_0 x8).f0 _ _ A7.out).mono ?_
            rintro e w9 ⟨rfl, hb⟩
            refine ⟨_, rfl, ?_⟩
            replace ST := Zh (ST.out.step hb)
            clear hb hHeld
            refine hK.out _ _ ⟨ST.out.cell 0 rfl 0 rfl, ST.out.cell 0 rfl 1 rfl, ST.out.cell 0 rfl 2 rfl⟩ (fun hHeld => ?_)
            clear hK K
            refine norm_ (a' := ?_) ?_ ?_
            rotate_left
            · show Act.put _ (some 15) _ = _
              simp only [Act.put, List.setIfInBounds_toArray, List.set_cons_zero, List.set_cons_succ, i64_w, i32_w]
              rfl
            refine SQ.p0 3 16 ?_
            refine SQ.p0 4 17 ?_
            refine SQ.p0 5 18 ?_
            refine SQ.t0 6 19 hHeld ?_
            refine SQ.p0 7 20 ?_
            refine SQ.p0 8 21 ?_
            refine SQ.t0 9 22 hHeld ?_
            refine SQ.p0 10 23 ?_
            refine SQ.p0 11 24 ?_
            refine SQ.p0 12 25 ?_
            refine SQ.p0 13 26 ?_
            refine SQ.p0 14 27 ?_
            refine SQ.p0 15 28 ?_
            refine SQ.p0 16 29 ?_
            refine SQ.p0 17 30 ?_
            refine SQ.o0 18 31 ?_
            refine SQ.o0 19 32 ?_
            refine SQ.o0 20 33 ?_
            refine SQ.o0 21 34 ?_
            refine SQ.o0 22 35 ?_
            refine SQ.o0 23 36 ?_
            refine SQ.o0 24 37 ?_
            refine SQ.o0 25 38 ?_
            refine SQ.o0 26 39 ?_
            refine SQ.o0 27 40 ?_
            refine SQ.p0 28 41 ?_
            refine SQ.p0 29 42 ?_
            refine done_ (by kernel_rfl) ?_
            clear hHeld
            go_wp2
            go_roundg k1
            case measure => omega
            case rel => exact ⟨_, rfl, H', ⟨ST.out.tail⟩⟩
        rw [if_neg p0] at H; exact absurd H (by simp)
      rw [if_neg c8] at H
      have q8 := decide_eq_false c8
      obtain rfl := Option.some.inj H
      have hc0 := ST.out.cell 0 rfl 0 (u := .slice A0_0 l0_0.length c0_0) rfl
      clear H c8
      go_wp2
      go_ret
      exact ⟨rfl, ST.out.b⟩
end Go.Proofs.YtcgojdhbphocgaaDoor.F

namespace Go.Proofs.YtcgojdhbphocgaaDoor.F
open Go.RowKit Go.Proofs.YtcgojdhbphocgaaDoorW.PrintWords Go.Proofs.YtcgojdhbphocgaaDoorW.PrintWords.Kd Go.Proofs.YtcgojdhbphocgaaDoorW.PrintMore.Kd Go.Proofs.YtcgojdhbphocgaaDoorW.PrintLast Go.Proofs.YtcgojdhbphocgaaDoorW.PrintMore
attribute [local go_sem] max2_int min2_int max_two min_two max_three min_three max_four min_four   -- for this text's walks alone
set_option linter.unusedVariables false
set_option linter.unusedSimpArgs false
def impl_torn.f (l0 : List Int) (a1 : Int) (a2 : Int) : Option (List Int) := (some (([] : List Int) : List Int)).bind fun y747 => (if 0 ≤ (mn (mx a1 0) (l0.length : Int)) then (if (mn (mx a1 0) (l0.length : Int)) ≤ (l0.length : Int) then (if y747.length + (l0.take ((mn (mx a1 0) (l0.length : Int)) : Int).toNat).length < 140737488355328 then ((some (y747 ++ (l0.take ((mn (mx a1 0) (l0.length : Int)) : Int).toNat) : List Int)).bind fun y751 => (if a2 ≥ 0 then (if a2 < (y751.length : Int) then (if 0 ≤ a2 then (some (y751.set (a2 : Int).toNat (Go.bits .xor .u8 255 (rd y751 a2)))) else (none)) else (some y751)) else (some y751))) else (none)) else (none)) else (none))
set_option maxHeartbeats 8000000 in
set_option maxRecDepth 100000 in
theorem impl_torn.calls (A0 : Option Addr) (c0 : Nat) (l0 : List Int) (a1 : Int) (a2 : Int) (r : List Int) (w : World) (hr0 : Kd.C (Kd.int .u8) w A0 l0.length l0) (hc0 : l0.length ≤ c0) (h : impl_torn.f l0 a1 a2 = some r) :
  Calls Tryd.prog 73 #[.slice A0 l0.length c0, .int .i64 a1, .int .i64 a2] w fun e w' => ∃ v0_ : Value, e = .returned (v0_) ∧ Kd.R (Kd.int .u8) 5 w' w.heap.size (fun _ => True) v0_ r ∧ Below w.heap.size w w' := by
 have HR0 := Zh hr0
 have HC0 := Zh hc0
 clear hr0 hc0
 have HB := Zh (Below.refl w.heap.size w)
 have H : ((some (([] : List Int) : List Int)).bind fun y747 => (if 0 ≤ (mn (mx a1 0) (l0.length : Int)) then (if (mn (mx a1 0) (l0.length : Int)) ≤ (l0.length : Int) then (if y747.length + (l0.take ((mn (mx a1 0) (l0.length : Int)) : Int).toNat).length < 140737488355328 then ((some (y747 ++ (l0.take ((mn (mx a1 0) (l0.length : Int)) : Int).toNat) : List Int)).bind fun y751 => (if a2 ≥ 0 then (if a2 < (y751.length : Int) then (if 0 ≤ a2 then (some (y751.set (a2 : Int).toNat (Go.bits .xor .u8 255 (rd y751 a2)))) else (none)) else (some y751)) else (some y751))) else (none)) else (none)) else (none))) = some r := h
 clear h
 obtain ⟨y747, hy747⟩ : ∃ y_ : List Int, y_ = (([] : List Int)) := ⟨_, rfl⟩
 replace H : (if 0 ≤ (mn (mx a1 0) (l0.length : Int)) then (if (mn (mx a1 0) (l0.length : Int)) ≤ (l0.length : Int) then (if y747.length + (l0.take ((mn (mx a1 0) (l0.length : Int)) : Int).toNat).length < 140737488355328 then ((some (y747 ++ (l0.take ((mn (mx a1 0) (l0.length : Int)) : Int).toNat) : List Int)).bind fun y751 => (if a2 ≥ 0 then (if a2 < (y751.length : Int) then (if 0 ≤ a2 then (some (y751.set (a2 : Int).toNat (Go.bits .xor .u8 255 (rd y751 a2)))) else (none)) else (some y751)) else (some y751))) else (none)) else (none)) else (none)) = some r := by first | (rw [hy747]; with_reducible exact H) | (have H2_ := (Option.bind_some _ _).symm.trans H; rw [hy747]; with_reducible exact H2_) | (have H2_ := (Option.bind_some _ _).symm.trans H; with_reducible exact H2_) | with_reducible exact H | (rw [hy747]; exact H) | exact H
 have Ny747 := Zh hy747
 clear hy747
 obtain ⟨ji4, hji4⟩ : ∃ j_ : Int, (mx a1 0) = j_ := ⟨_, rfl⟩
 replace H : (if 0 ≤ (mn (ji4) (l0.length : Int)) then (if (mn (ji4) (l0.length : Int)) ≤ (l0.length : Int) then (if y747.length + (l0.take ((mn (ji4) (l0.length : Int)) : Int).toNat).length < 140737488355328 then ((some (y747 ++ (l0.take ((mn (ji4) (l0.length : Int)) : Int).toNat) : List Int)).bind fun y751 => (if a2 ≥ 0 then (if a2 < (y751.length : Int) then (if 0 ≤ a2 then (some (y751.set (a2 : Int).toNat (Go.bits .xor .u8 255 (rd y751 a2)))) else (none)) else (some y751)) else (some y751))) else (none)) else (none)) else (none)) = some r := by first | (rw [hji4] at H; exact H) | (simp only [hji4] at H ⊢; exact H)
 (try (have hji4l : 0 ≤ ji4 := by (rw [← hji4]; unfold mx; (repeat' split) <;> omega)))
 (try (have hji4m : 0 ≤ ji4 := by omega))
 have hji4_ : (if a1 < 0 then 0 else a1) = ji4 := hji4
 obtain ⟨ji5, hji5⟩ : ∃ j_ : Int, (mn (ji4) (l0.length : Int)) = j_ := ⟨_, rfl⟩
 replace H : (if 0 ≤ (ji5) then (if (ji5) ≤ (l0.length : Int) then (if y747.length + (l0.take ((ji5) : Int).toNat).length < 140737488355328 then ((some (y747 ++ (l0.take ((ji5) : Int).toNat) : List Int)).bind fun y751 => (if a2 ≥ 0 then (if a2 < (y751.length : Int) then (if 0 ≤ a2 then (some (y751.set (a2 : Int).toNat (Go.bits .xor .u8 255 (rd y751 a2)))) else (none)) else (some y751)) else (some y751))) else (none)) else (none)) else (none)) = some r := by first | (rw [hji5] at H; exact H) | (simp only [hji5] at H ⊢; exact H)
 have hji5_ : (if (l0.length : Int) < (ji4) then (l0.length : Int) else (ji4)) = ji5 := hji5
 by_cases c6 : 0 ≤ (ji5)
 ·
  rw [if_pos c6] at H
  have c6b0 := eq_true c6
  have c6b1 : decide (0 ≤ (ji5)) = true := decide_eq_true c6
  clear c6
  by_cases c7 : (ji5) ≤ (l0.length : Int)
  ·
   rw [if_pos c7] at H
   have c7b0 := eq_true c7
   have c7b1 : decide ((ji5) ≤ (l0.length : Int)) = true := decide_eq_true c7
   clear c7
   by_cases c8 : y747.length + (l0.take ((ji5) : Int).toNat).length < 140737488355328
   ·
    rw [if_pos c8] at H
    have LMc8 := Zh c8
    clear c8
    obtain ⟨y751, hy751⟩ : ∃ y_ : List Int, y_ = (y747 ++ (l0.take ((ji5) : Int).toNat)) := ⟨_, rfl⟩
    replace H : (if a2 ≥ 0 then (if a2 < (y751.length : Int) then (if 0 ≤ a2 then (some (y751.set (a2 : Int).toNat (Go.bits .xor .u8 255 (rd y751 a2)))) else (none)) else (some y751)) else (some y751)) = some r := by first | (rw [hy751]; with_reducible exact H) | (have H2_ := (Option.bind_some _ _).symm.trans H; rw [hy751]; with_reducible exact H2_) | (have H2_ := (Option.bind_some _ _).symm.trans H; with_reducible exact H2_) | with_reducible exact H | (rw [hy751]; exact H) | exact H
    have Ny751 := Zh hy751
    clear hy751
    by_cases c9 : a2 ≥ 0
    ·
     rw [if_pos c9] at H
     have c9b0 : decide (0 ≤ a2) = true := decide_eq_true c9
     clear c9
     by_cases c10 : a2 < (y751.length : Int)
     ·
      rw [if_pos c10] at H
      have c10b0 : decide (a2 < (y751.length : Int)) = true := decide_eq_true c10
      clear c10
      by_cases c11 : 0 ≤ a2
      ·
       rw [if_pos c11] at H
       have c11b0 : decide (0 ≤ a2) = true := decide_eq_true c11
       clear c11
       obtain ⟨y755, hy755⟩ : ∃ y_ : List Int, y_ = (y751.set (a2 : Int).toNat (Go.bits .xor .u8 255 (rd y751 a2))) := ⟨_, rfl⟩
       replace H : (some y755) = some r := by first | (rw [hy755]; with_reducible exact H) | (have H2_ := (Option.bind_some _ _).symm.trans H; rw [hy755]; with_reducible exact H2_) | (have H2_ := (Option.bind_some _ _).symm.trans H; with_reducible exact H2_) | with_reducible exact H | (rw [hy755]; exact H) | exact H
       have Ny755 := Zh hy755
       clear hy755
       obtain rfl := Option.some.inj H
       go_enter Tryd.func73, Tryd.ntmps73
       go_wp2_with (first | ((with_reducible refine gate_dst (N := 8) rfl ?_); (try (refine gate_guard (by rfl) ?_; dsimp only)); refine R_lit (Kd.int .u8) _ 5 ?hg (N := 8) ?hd (xs := ([] : List Int)) (inner := []) (ok := fun _ => True) (okp := fun _ => True) ?hr ?hp (fun _ hk => hk) trivial (Below.refl _ _) (Nat.le_refl _) (by simp) ?_; (case hd => rfl); (case hg => rfl); (case hr => first | (go_simp; done) | (go_simp; rfl)); (case hp => exact (Reps.none _ _)); intro v748 w13 ho14 hb hg_ hnew_; clear hg_ hnew_; (first | rw [← Ny747.out] at ho14 | (simp only [Int.reduceToNat] at ho14; rw [← Ny747.out] at ho14)); have HO749 := Zh (R_lower ho14 (below_size Zs)); replace HB := Zh (Zl Zs hb); clear hb ho14; obtain ⟨i015, hi015, _, hsz15, _⟩ := info_parts info5; obtain ⟨hcut15, hA15, hC15⟩ := print_take_of (P := Tryd.prog) (Value.int .u8) 0 41 5 .i64 Tryd.underlying41 hi015 hsz15 A0 c0 l0 (ji5) (Zo) (Zo) HC0.out; have HR750 := Zh (C_of_reads (h1 := fun _ => rfl) (hA15 _ (Kd.reads_of_C HR0.out))); have HC750 := Zh hC15; clear hA15 hC15 hi015 hsz15) | ((with_reducible refine gate_builtin (b := .append) (xs := #[.tmp 8, .tmp 15]) rfl ?_); (try (refine gate_guard (by rfl) ?_; dsimp only)); at_builtin; refine R_append_rows (Kd.int .u8) (w0 := w) w.heap.size rfl (.tmp 8) (.tmp 15) 41 5 (.int .u8 0) 1 rfl Tryd.underlying41 info5 rfl (by decide) (by omega) v748 y747 (l0.take ((ji5) : Int).toNat) _ _ _ (fun _ => True) (fun _ => False) rfl rfl ?aO ?aR (fun _ _ h => h) (fun _ h => h.elim) ?aF ?aB ?aS ?aL ?_; (case aR => first | ((conv => arg 5; rw [← show (l0.take ((ji5) : Int).toNat).length = (ji5).toNat from (by rw [List.length_take]; have h_ : ((ji5) : Int) ≤ (l0.length : Int) := Zo; omega)]); (repeat (first | exact (C_below HR750.out HB.out) | (with_reducible refine C_alloc ?_ _) | (with_reducible refine C_drewN ?_ _) | (with_reducible refine C_drew ?_)))) | (rw [← show (l0.take ((ji5) : Int).toNat).length = (ji5).toNat from (by rw [List.length_take]; have h_ : ((ji5) : Int) ≤ (l0.length : Int) := Zo; omega)]; repeat (first | exact (C_below HR750.out HB.out) | (with_reducible refine C_alloc ?_ _) | (with_reducible refine C_drewN ?_ _) | (with_reducible refine C_drew ?_))) | (repeat (first | exact (C_below HR750.out HB.out) | (with_reducible refine C_alloc ?_ _) | (with_reducible refine C_drewN ?_ _) | (with_reducible refine C_drew ?_)))); (case aB => exact Zs); (case aF => exact (fun _ _ => trivial)); (case aO => exact (ZR HO749.out)); (case aS => exact (below_size Zs)); (case aL => have := LMc8.out; have hlx_ := (show (l0.take ((ji5) : Int).toNat).length = (ji5).toNat from (by rw [List.length_take]; have h_ : ((ji5) : Int) ≤ (l0.length : Int) := Zo; omega)); omega); intro v752 w16 ho hb hg hat; rw [← Ny751.out] at ho; have n0_ := Zh (hb); have n1_ := Zh (ho); clear HB; clear HO749; have HB := n0_; have HO753 := n1_; clear n0_ n1_; clear ho hb hg hat; obtain ⟨Ao17, co17, eo17⟩ := R_slice HO753.out; subst eo17; have p754 : 0 ≤ (a2 : Int) := Zo; have q754 : a2 < (y751.length : Int) := Zo; obtain ⟨ad754, e754, hx754_0⟩ := Kd.at_int (R_reads' HO753.out).2.2 a2 p754 q754; cases e754; replace p754 := eq_true p754; replace q754 := eq_true q754; have p12 : 0 ≤ (a2 : Int) := Zo; have q12 : (a2 : Int) < ((y751.length : Int) : Int) := Zo; obtain ⟨go12, co12, eo12, gb12, gl12, cl12, HG12⟩ := R_form HO753.out (by omega); (first | cases eo12 | (injection eo12 with ea_ en_ ec_; (first | subst ea_ | (injection ea_ with ea_; subst ea_)); subst ec_; clear en_)); have GB12 := Zh gb12; have GG12 := Zh HG12; clear gb12 gl12 HG12; (first | simp only [add_plain] at hx754_0 | skip); obtain ⟨hx12_0, hf12_0⟩ := R_celln 0 HO753.out (a2 : Int) p12 q12; replace p12 := eq_true p12; replace q12 := eq_true q12; obtain ⟨hy18_, hz18_⟩ := R_celln 0 HO753.out (a2 : Int) (Zo) (Zo); have HP18 := R_putg HO753.out (a2 : Int) (Go.bits .xor .u8 255 (rd y751 a2))) | ((with_reducible refine gate_store (t := 5) (p := 32) rfl ?_); refine store_event (t := 5) (p := 32) (v := ?vo_w19) (w1 := (w16.setCell ⟨go12, (a2 : Int).toNat, none⟩ (.int .u8 (Go.bits .xor .u8 255 (rd y751 a2))))) ?hg ?ho ?hn ?hr ?_; (case ho => rfl); (case hg => rfl); (case hn => rfl); (case hr => first | (go_simp; done) | (go_simp; rfl)); intro w19 hw; have hg : w16.grownBy w19 (some go12) := (by rw [hw]; exact HP18.2); have hp_ : Kd.R (Kd.int .u8) 5 w19 w.heap.size (fun _ => True) (.slice (some ⟨go12, 0, none⟩) y751.length co17) y755 := (by rw [hw, Ny755.out]; exact HP18.1); clear HP18; replace HO753 := Zh (hp_); replace HB := Zh ((by rw [hw]; exact Zg (HB.out) GB12.out : Below w.heap.size w w19)); clear hg hw hp_))
       go_ret
       exact ⟨_, by first | rfl | (simp [errW_none, errW_some] <;> rfl) | (simp only [← hji4, ← hji5]; first | rfl | (simp [errW_none, errW_some] <;> rfl)) | (simp [*, errW_none, errW_some] <;> rfl), ZR HO753.out, Zs⟩
      rw [if_neg c11] at H
      exact absurd H (by simp)
     rw [if_neg c10] at H
     have c10b0 : decide (a2 < (y751.length : Int)) = false := decide_eq_false c10
     clear c10
     obtain rfl := Option.some.inj H
     go_enter Tryd.func73, Tryd.ntmps73
     go_wp2_with (first | ((with_reducible refine gate_dst (N := 8) rfl ?_); (try (refine gate_guard (by rfl) ?_; dsimp only)); refine R_lit (Kd.int .u8) _ 5 ?hg (N := 8) ?hd (xs := ([] : List Int)) (inner := []) (ok := fun _ => True) (okp := fun _ => True) ?hr ?hp (fun _ hk => hk) trivial (Below.refl _ _) (Nat.le_refl _) (by simp) ?_; (case hd => rfl); (case hg => rfl); (case hr => first | (go_simp; done) | (go_simp; rfl)); (case hp => exact (Reps.none _ _)); intro v748 w20 ho21 hb hg_ hnew_; clear hg_ hnew_; (first | rw [← Ny747.out] at ho21 | (simp only [Int.reduceToNat] at ho21; rw [← Ny747.out] at ho21)); have HO749 := Zh (R_lower ho21 (below_size Zs)); replace HB := Zh (Zl Zs hb); clear hb ho21; obtain ⟨i022, hi022, _, hsz22, _⟩ := info_parts info5; obtain ⟨hcut22, hA22, hC22⟩ := print_take_of (P := Tryd.prog) (Value.int .u8) 0 41 5 .i64 Tryd.underlying41 hi022 hsz22 A0 c0 l0 (ji5) (Zo) (Zo) HC0.out; have HR750 := Zh (C_of_reads (h1 := fun _ => rfl) (hA22 _ (Kd.reads_of_C HR0.out))); have HC750 := Zh hC22; clear hA22 hC22 hi022 hsz22) | ((with_reducible refine gate_builtin (b := .append) (xs := #[.tmp 8, .tmp 15]) rfl ?_); (try (refine gate_guard (by rfl) ?_; dsimp only)); at_builtin; refine R_append_rows (Kd.int .u8) (w0 := w) w.heap.size rfl (.tmp 8) (.tmp 15) 41 5 (.int .u8 0) 1 rfl Tryd.underlying41 info5 rfl (by decide) (by omega) v748 y747 (l0.take ((ji5) : Int).toNat) _ _ _ (fun _ => True) (fun _ => False) rfl rfl ?aO ?aR (fun _ _ h => h) (fun _ h => h.elim) ?aF ?aB ?aS ?aL ?_; (case aR => first | ((conv => arg 5; rw [← show (l0.take ((ji5) : Int).toNat).length = (ji5).toNat from (by rw [List.length_take]; have h_ : ((ji5) : Int) ≤ (l0.length : Int) := Zo; omega)]); (repeat (first | exact (C_below HR750.out HB.out) | (with_reducible refine C_alloc ?_ _) | (with_reducible refine C_drewN ?_ _) | (with_reducible refine C_drew ?_)))) | (rw [← show (l0.take ((ji5) : Int).toNat).length = (ji5).toNat from (by rw [List.length_take]; have h_ : ((ji5) : Int) ≤ (l0.length : Int) := Zo; omega)]; repeat (first | exact (C_below HR750.out HB.out) | (with_reducible refine C_alloc ?_ _) | (with_reducible refine C_drewN ?_ _) | (with_reducible refine C_drew ?_))) | (repeat (first | exact (C_below HR750.out HB.out) | (with_reducible refine C_alloc ?_ _) | (with_reducible refine C_drewN ?_ _) | (with_reducible refine C_drew ?_)))); (case aB => exact Zs); (case aF => exact (fun _ _ => trivial)); (case aO => exact (ZR HO749.out)); (case aS => exact (below_size Zs)); (case aL => have := LMc8.out; have hlx_ := (show (l0.take ((ji5) : Int).toNat).length = (ji5).toNat from (by rw [List.length_take]; have h_ : ((ji5) : Int) ≤ (l0.length : Int) := Zo; omega)); omega); intro v752 w23 ho hb hg hat; rw [← Ny751.out] at ho; have n0_ := Zh (hb); have n1_ := Zh (ho); clear HB; clear HO749; have HB := n0_; have HO753 := n1_; clear n0_ n1_; clear ho hb hg hat; obtain ⟨Ao24, co24, eo24⟩ := R_slice HO753.out; subst eo24))
     go_ret
     exact ⟨_, by first | rfl | (simp [errW_none, errW_some] <;> rfl) | (simp only [← hji4, ← hji5]; first | rfl | (simp [errW_none, errW_some] <;> rfl)) | (simp [*, errW_none, errW_some] <;> rfl), ZR HO753.out, Zs⟩
    rw [if_neg c9] at H
    have c9b0 : decide (0 ≤ a2) = false := decide_eq_false c9
    clear c9
    obtain rfl := Option.some.inj H
    go_enter Tryd.func73, Tryd.ntmps73
    go_wp2_with (first | ((with_reducible refine gate_dst (N := 8) rfl ?_); (try (refine gate_guard (by rfl) ?_; dsimp only)); refine R_lit (Kd.int .u8) _ 5 ?hg (N := 8) ?hd (xs := ([] : List Int)) (inner := []) (ok := fun _ => True) (okp := fun _ => True) ?hr ?hp (fun _ hk => hk) trivial (Below.refl _ _) (Nat.le_refl _) (by simp) ?_; (case hd => rfl); (case hg => rfl); (case hr => first | (go_simp; done) | (go_simp; rfl)); (case hp => exact (Reps.none _ _)); intro v748 w25 ho26 hb hg_ hnew_; clear hg_ hnew_; (first | rw [← Ny747.out] at ho26 | (simp only [Int.reduceToNat] at ho26; rw [← Ny747.out] at ho26)); have HO749 := Zh (R_lower ho26 (below_size Zs)); replace HB := Zh (Zl Zs hb); clear hb ho26; obtain ⟨i027, hi027, _, hsz27, _⟩ := info_parts info5; obtain ⟨hcut27, hA27, hC27⟩ := print_take_of (P := Tryd.prog) (Value.int .u8) 0 41 5 .i64 Tryd.underlying41 hi027 hsz27 A0 c0 l0 (ji5) (Zo) (Zo) HC0.out; have HR750 := Zh (C_of_reads (h1 := fun _ => rfl) (hA27 _ (Kd.reads_of_C HR0.out))); have HC750 := Zh hC27; clear hA27 hC27 hi027 hsz27) | ((with_reducible refine gate_builtin (b := .append) (xs := #[.tmp 8, .tmp 15]) rfl ?_); (try (refine gate_guard (by rfl) ?_; dsimp only)); at_builtin; refine R_append_rows (Kd.int .u8) (w0 := w) w.heap.size rfl (.tmp 8) (.tmp 15) 41 5 (.int .u8 0) 1 rfl Tryd.underlying41 info5 rfl (by decide) (by omega) v748 y747 (l0.take ((ji5) : Int).toNat) _ _ _ (fun _ => True) (fun _ => False) rfl rfl ?aO ?aR (fun _ _ h => h) (fun _ h => h.elim) ?aF ?aB ?aS ?aL ?_; (case aR => first | ((conv => arg 5; rw [← show (l0.take ((ji5) : Int).toNat).length = (ji5).toNat from (by rw [List.length_take]; have h_ : ((ji5) : Int) ≤ (l0.length : Int) := Zo; omega)]); (repeat (first | exact (C_below HR750.out HB.out) | (with_reducible refine C_alloc ?_ _) | (with_reducible refine C_drewN ?_ _) | (with_reducible refine C_drew ?_)))) | (rw [← show (l0.take ((ji5) : Int).toNat).length = (ji5).toNat from (by rw [List.length_take]; have h_ : ((ji5) : Int) ≤ (l0.length : Int) := Zo; omega)]; repeat (first | exact (C_below HR750.out HB.out) | (with_reducible refine C_alloc ?_ _) | (with_reducible refine C_drewN ?_ _) | (with_reducible refine C_drew ?_))) | (repeat (first | exact (C_below HR750.out HB.out) | (with_reducible refine C_alloc ?_ _) | (with_reducible refine C_drewN ?_ _) | (with_reducible refine C_drew ?_)))); (case aB => exact Zs); (case aF => exact (fun _ _ => trivial)); (case aO => exact (ZR HO749.out)); (case aS => exact (below_size Zs)); (case aL => have := LMc8.out; have hlx_ := (show (l0.take ((ji5) : Int).toNat).length = (ji5).toNat from (by rw [List.length_take]; have h_ : ((ji5) : Int) ≤ (l0.length : Int) := Zo; omega)); omega); intro v752 w28 ho hb hg hat; rw [← Ny751.out] at ho; have n0_ := Zh (hb); have n1_ := Zh (ho); clear HB; clear HO749; have HB := n0_; have HO753 := n1_; clear n0_ n1_; clear ho hb hg hat))
    go_ret
    exact ⟨_, by first | rfl | (simp [errW_none, errW_some] <;> rfl) | (simp only [← hji4, ← hji5]; first | rfl | (simp [errW_none, errW_some] <;> rfl)) | (simp [*, errW_none, errW_some] <;> rfl), ZR HO753.out, Zs⟩
   rw [if_neg c8] at H
   exact absurd H (by simp)
  rw [if_neg c7] at H
  exact absurd H (by simp)
 rw [if_neg c6] at H
 exact absurd H (by simp)
end Go.Proofs.YtcgojdhbphocgaaDoor.F

namespace Go.Proofs.YtcgojdhbphocgaaDoor.F
open Go.RowKit Go.Proofs.YtcgojdhbphocgaaDoorW.PrintWords Go.Proofs.YtcgojdhbphocgaaDoorW.PrintLast Go.Proofs.YtcgojdhbphocgaaDoorW.PrintMore
open Go.Proofs.YtcgojdhbphocgaaDoor
set_option linter.unusedVariables false
set_option linter.unusedSimpArgs false
theorem St_tail {w0 w : World} {i : LW.It} {l : List LW.It} (h : LW.St w0 w (i :: l)) : LW.St w0 w l := ⟨h.b, h.i.2.2.2⟩
def impl_Crash.one (a b : List Int) (i : Int) (y : S55) : Option S55 := (impl_torn.f y.f2 (if i < (a.length : Int) then rd a i else 0) (if i < (b.length : Int) then rd b i else -1)).bind fun t => if y.f1.length + t.length ≤ 140737488355328 then some ⟨y.f0, y.f1 ++ t, []⟩ else none
def impl_Crash.l0 (a b : List Int) : Nat → List S55 → Int → Option (List S55)
  | 0, _, _ => none
  | k + 1, x, i => if i < (x.length : Int) then (if 0 ≤ i then (impl_Crash.one a b i (rd_T55 x i)).bind fun y => impl_Crash.l0 a b k (x.set i.toNat y) (wrap64 (i + 1)) else none) else some x
def impl_Crash.f (k : Nat) (l0_0 : List S55) (a b : List Int) : Option (List S55) := (impl_isDisk.f k l0_0).bind fun t => if t = true then (impl_copyDisk.f k l0_0).bind fun o => impl_Crash.l0 a b k o 0 else some []
set_option maxHeartbeats 8000000 in
set_option maxRecDepth 100000 in
theorem impl_Crash.calls (k : Nat) (A0_0 : Option Addr) (c0_0 : Nat) (l0_0 : List S55) (A1 : Option Addr) (c1 : Nat) (l1 : List Int) (A2 : Option Addr) (c2 : Nat) (l2 : List Int) (r : List S55) (w : World) (hr0_0 : Kd.C k55 w A0_0 l0_0.length l0_0) (hc0_0 : l0_0.length ≤ c0_0) (hr1 : Kd.C (Kd.int .i64) w A1 l1.length l1) (hc1 : l1.length ≤ c1) (hr2 : Kd.C (Kd.int .i64) w A2 l2.length l2) (hc2 : l2.length ≤ c2) (h : impl_Crash.f k l0_0 l1 l2 = some r) :
    Calls Tryd.prog 37 #[.agg #[.slice A0_0 l0_0.length c0_0], .slice A1 l1.length c1, .slice A2 l2.length c2] w fun e w' => ∃ v0_ : Value, e = .returned (.agg #[v0_]) ∧ Kd.S k55 55 w' w.heap.size (fun _ => True) v0_ r ∧ Below w.heap.size w w' := by
  have HR := Zh hr0_0
  have HC := Zh hc0_0
  have HR1 := Zh hr1
  have HR2 := Zh hr2
  clear hr0_0 hc0_0 hr1 hc1 hr2 hc2
  have ST := Zh (LW.St.start w)
  have hu28 := Tryd.underlying28
  have hu55 := Tryd.underlying55
  unfold impl_Crash.f at h
  replace h := Option.bind_eq_some_iff.mp h
  obtain ⟨t, HA1, h⟩ := h
  replace HA1 := Zh HA1
  have H := Zh h
  clear h
  go_enter Tryd.func37, Tryd.ntmps37
  go_wp2_with fail
  replace ST := Zh (ST.out.alloc #[.slice A0_0 l0_0.length c0_0] 28 (g := w.heap.size) rfl)
  replace ST := Zh (ST.out.alloc #[.slice none 0 0] 28 (g := w.heap.size + 1) (by simp))
  with_reducible refine (impl_isDisk.calls k _ _ l0_0 t _ (Kd.C_below HR.out ST.out.b) HC.out HA1.out).mono ?_
  rintro e w1 ⟨rfl, hb⟩
  replace ST := Zh (ST.out.step hb)
  clear hb
  have h := H.out
  clear H
  by_cases ct : t = true
  · subst ct
    rw [if_pos rfl] at h
    replace h := Option.bind_eq_some_iff.mp h
    obtain ⟨o, HA2, h⟩ := h
    replace HA2 := Zh HA2
    have H := Zh h
    clear h
    have hc1 := ST.out.cell 1 rfl 0 (u := .slice A0_0 l0_0.length c0_0) rfl
    have hl1 := ST.out.lt 1 rfl
    go_wp2_with fail
    with_reducible refine (impl_copyDisk.calls k _ _ l0_0 o _ (Kd.C_below HR.out ST.out.b) HC.out HA2.out).mono ?_
    rintro e w2 ⟨v2, rfl, ho, hb⟩
    obtain ⟨Ao, co, rfl⟩ := Kd.S_slice ho
    replace ST := Zh (ST.out.row hb ho)
    clear hb ho hc1 hl1
    go_wp2_with fail
    replace ST := Zh (ST.out.alloc #[.slice Ao o.length co] 28 (g := w2.heap.size) rfl)
    generalize (w2.alloc (.cells #[.slice Ao o.length co] 28)) = W at ST ⊢
    go_loopg [21] k (fun gg v21 w' => ∃ (i : Int) (x : List S55) (F : Nat → Prop), v21 = .int .i64 i ∧ x.length = o.length ∧ Aside0 (impl_Crash.l0 l1 l2 gg x i = some r) ∧ Aside0 (LW.St w w' [LW.box w2.heap.size #[.slice Ao o.length co] 28, LW.row k55 55 w.heap.size (.slice Ao o.length co) x F, LW.box (w.heap.size + 1) #[.slice none 0 0] 28, LW.box w.heap.size #[.slice A0_0 l0_0.length c0_0] 28]))
    case atStart => exact ⟨0, o, _, rfl, rfl, H, ST⟩
    case round =>
      clear ST H
      obtain ⟨i, x, F, rfl, hx, HA, ST⟩ := hrel
      cases gk with
      | zero => exact absurd HA.out (by simp [impl_Crash.l0])
      | succ k1 =>
        have H := HA.out
        clear HA
        simp only [impl_Crash.l0] at H
        have HX := Zh hx
        by_cases c3 : i < (x.length : Int)
        · rw [if_pos c3] at H
          by_cases c4 : 0 ≤ i
          · rw [if_pos c4] at H
            obtain ⟨y, HY, H⟩ := Option.bind_eq_some_iff.mp H
            unfold impl_Crash.one at HY
            obtain ⟨tt, HT, HY⟩ := Option.bind_eq_some_iff.mp HY
            obtain ⟨m1, hm1⟩ : ∃ m, m = if i < (l1.length : Int) then rd l1 i else 0 := ⟨_, rfl⟩
            obtain ⟨m2, hm2⟩ : ∃ m, m = if i < (l2.length : Int) then rd l2 i else -1 := ⟨_, rfl⟩
            rw [← hm1, ← hm2] at HT
            by_cases c5 : (rd_T55 x i).f1.length + tt.length ≤ 140737488355328
            · rw [if_pos c5] at HY
              obtain rfl := Option.some.inj HY
              clear HY
              have H' := Zh H
              have HTT := Zh HT
              have HSZ := Zh c5
              have HM1 := Zh hm1
              have HM2 := Zh hm2
              have HI0 := Zh c4
              have c3o : i < (o.length : Int) := by rw [← hx]; exact c3
              have HIL := Zh c3o
              clear H HT c5 hm1 hm2
              have q3 := decide_eq_true c3o
              obtain ⟨g, cg, hv, _, _, _⟩ := Kd.S_form (ST.out.own 1 rfl) (by omega)
              injection hv with hv1 hv2 hv3
              subst hv1
              clear hv2 hv3 hx
              have p0 := eq_true c4
              have p1 := eq_true c3o
              have hc2 := ST.out.cell 0 rfl 0 (u := .slice (some ⟨g, 0, none⟩) o.length co) rfl
              have hl2 := ST.out.lt 0 rfl
              clear c3 c4 c3o
              go_upto_if 31 with fail
              go_cut [10] (fun v10 wc => v10 = .int .i64 m1 ∧ wc = wr)
              case first =>
                have hm := HM1.out
                by_cases d1 : i < (l1.length : Int)
                · rw [if_pos d1] at hm
                  obtain ⟨ad, e, hx0⟩ := Kd.at_int (Kd.C_below HR1.out ST.out.b) i HI0.out d1
                  cases e
                  have s1 := decide_eq_true d1
                  have s2 := eq_true d1
                  have s3 := eq_true HI0.out
                  clear d1
                  rw [s1]
                  go_wp2
                  go_meet
                  case rel => exact ⟨by rw [hm], rfl⟩
                rw [if_neg d1] at hm
                have s1 := decide_eq_false d1
                clear d1
                rw [s1]
                go_wp2
                go_meet
                case rel => exact ⟨by rw [hm], rfl⟩
              case rest =>
              obtain ⟨rfl, rfl⟩ := hcut
              go_upto_if 39 with fail
              go_cut [11] (fun v11 wd => v11 = .int .i64 m2 ∧ wd = wc)
              case first =>
                have hm := HM2.out
                by_cases d1 : i < (l2.length : Int)
                · rw [if_pos d1] at hm
                  obtain ⟨ad, e, hx0⟩ := Kd.at_int (Kd.C_below HR2.out ST.out.b) i HI0.out d1
                  cases e
                  have s1 := decide_eq_true d1
                  have s2 := eq_true d1
                  have s3 := eq_true HI0.out
                  clear d1
                  rw [s1]
                  go_wp2
                  go_meet
                  case rel => exact ⟨by rw [hm], rfl⟩
                rw [if_neg d1] at hm
                have s1 := decide_eq_false d1
                clear d1
                rw [s1]
                go_wp2
                go_meet
                case rel => exact ⟨by rw [hm], rfl⟩
              case rest =>
              obtain ⟨rfl, rfl⟩ := hcut
              go_wp2_with fail
              replace ST := Zh ST.out.drew
              clear hc2 hl2
              obtain ⟨u1, u2, ok1, ok2, hy0, hy1, hy2, hz1, hz2, hR1, hR2, hng, hFu, back⟩ := lendSynced ST.out 1 rfl i HI0.out HIL.out
              obtain ⟨B1, d1, rfl⟩ := Kd.R_slice hR1
              obtain ⟨B2, d2, rfl⟩ := Kd.R_slice hR2
              have HRR := Zh hR2
              clear back hng hFu hR1 hR2 hz1 hz2 hy0
              refine start_ (n := 16) (S := fun w' => w'.cell? ⟨g, i.toNat * 3 + 1, none⟩ = some (.slice B1 (rd_T55 x i).f1.length d1) ∧ w'.cell? ⟨g, i.toNat * 3 + 2, none⟩ = some (.slice B2 (rd_T55 x i).f2.length d2)) (ds := [12, 15]) #[false, false, false, false, false, false, false, false, false, false, false, false, false, false, false, false] (by kernel_rfl) rfl rfl ⟨hy1, hy2⟩ (fun hHeld => ?_)
              generalize wc.drew = w8 at ST hHeld HRR hy1 hy2 ⊢
              refine SQ.p0 0 44 ?_
              refine SQ.p0 1 45 ?_
              refine SQ.p0 2 46 ?_
              refine SQ.p0 3 47 ?_
              refine SQ.t0 4 48 hHeld ?_
              refine SQ.p0 5 49 ?_
              refine SQ.p0 6 50 ?_
              refine SQ.p0 7 51 ?_
              refine SQ.t0 8 52 hHeld ?_
              refine SQ.p0 9 53 ?_
              refine SQ.p0 10 54 ?_
              refine one_ (i := 11) (N := some 55) #[true, true, true, true, true, true, true, true, true, true, true, true, false, false, false, false] rfl rfl (by kernel_rfl) (by decide) (fun K hK => ?_)
              refine goes_ Tryd.func73 (by kernel_rfl) rfl #[.slice B2 (rd_T55 x i).f2.length d2, .int .i64 m1, .int .i64 m2] (by rfl) rfl rfl (by (try simp only [List.map_toArray, List.map_cons, List.map_nil]); first | done | rfl) ?_
              with_reducible refine (impl_torn.calls _ _ (rd_T55 x i).f2 m1 m2 tt _ (Kd.R_reads' HRR.out).2.2 (Kd.R_reads' HRR.out).2.1 HTT.out).mono ?_
              rintro e w9 ⟨v9, rfl, ho, hb⟩
              refine ⟨_, rfl, ?_⟩
              obtain ⟨A9, c9, rfl⟩ := Kd.R_slice ho
              have k1c := (hb.cell (Zi w8 _ hy1)).trans hy1
              have k2c := (hb.cell (Zi w8 _ hy2)).trans hy2
              replace ST := Zh (ST.out.rowR rfl hb ho)
              clear hb ho hy1 hy2 HRR HTT hHeld
              obtain ⟨u1, u2, ok1, ok2, hy0, hy1, hy2, hz1, hz2, hR1, hR2, hng, hFu, back⟩ := lendSynced ST.out 2 rfl i HI0.out HIL.out
              obtain rfl : u1 = .slice B1 (rd_T55 x i).f1.length d1 := Option.some.inj (hy1.symm.trans k1c)
              obtain rfl : u2 = .slice B2 (rd_T55 x i).f2.length d2 := Option.some.inj (hy2.symm.trans k2c)
              have HBK := Zh back
              have HRR := Zh hR1
              have HNG := Zh hng
              have HFU := Zh hFu
              clear back hR1 hR2 hng hFu k1c k2c hy0
              refine hK.out _ _ ⟨hy1, hy2⟩ (fun hHeld => ?_)
              clear hK K
              refine norm_ (a' := ?_) ?_ ?_
              rotate_left
              · show Act.put _ (some 55) _ = _
                simp only [Act.put, List.setIfInBounds_toArray, List.set_cons_zero, List.set_cons_succ, i64_w, i32_w]
                rfl
              refine last_ (i := 12) (N := some 56) #[true, true, true, true, true, true, true, true, true, true, true, true, true, false, false, false] rfl rfl (by kernel_rfl) (by decide) (fun K hK => ?_)
              refine Kd.R_append_rows_step (Kd.int .u8) (w0 := w) w.heap.size (by rfl) (.tmp 48) (.tmp 55) 41 5 (.int .u8 0) 1 rfl Tryd.underlying41 info5 rfl (by decide) (by omega) (.slice B1 (rd_T55 x i).f1.length d1) (rd_T55 x i).f1 tt _ _ _ (fun k => ok1 k ∨ w9.heap.size ≤ k) (fun _ => False) (by rfl) (by rfl) (Kd.R_mono HRR.out (fun k hk => .inl hk)) (ST.out.reads 0 rfl).2.2 (fun _ _ h => h) (fun _ h => h.elim) (fun k hk => .inr hk) ST.out.b ST.out.b.size (by have := HSZ.out; omega) ?_
              intro v1 w10 q1 q2 q3 q4
              obtain ⟨A3, c3, rfl⟩ := Kd.R_slice q1
              have hgl := blk_lt_of hy1
              have hgb := q3.block g hgl (fun he => HNG.out g (HRR.out.1 g he.symm) rfl)
              have hcg1 := (cell_blk hgb).trans hy1
              have hcg2 := (cell_blk hgb).trans hy2
              have hfg1 := (frozen_blk hgb).trans hz1
              have hfg2 := (frozen_blk hgb).trans hz2
              have Q := Zh (And.intro q1 (And.intro q2 (And.intro q3 q4)))
              clear q1 q2 q3 q4 hgb hy1 hy2 hz1 hz2 hgl hHeld
              refine hK.out _ _ ?_
              clear hK K
              refine norm_ (a' := ?_) ?_ ?_
              rotate_left
              · show Act.put _ (some 56) _ = _
                simp only [Act.put, List.setIfInBounds_toArray, List.set_cons_zero, List.set_cons_succ, i64_w, i32_w]
                rfl
              refine SQ.p0 13 57 ?_
              refine SQ.p0 14 58 ?_
              refine last_ (i := 15) (N := none) #[true, true, true, true, true, true, true, true, true, true, true, true, true, true, true, true] rfl rfl (by kernel_rfl) (by decide) (fun K hK => ?_)
              refine skip_ (w1 := ?_) (by rfl) rfl ?_ ?_
              rotate_left
              · go_simp
                rfl
              refine hK.out _ _ ?_
              clear hK K
              refine done_ (by kernel_rfl) ?_
              go_wp2
              obtain ⟨q1, q2, q3, q4⟩ := Q.out
              rw [List.length_append] at q1 q4
              have hST := St_tail (HBK.out (.slice A3 ((rd_T55 x i).f1.length + tt.length) c3) w10 ((rd_T55 x i).f1 ++ tt) (fun ok hok => Kd.R_mono (Kd.R_tight rfl q1) (fun k hk => hok k hk.symm)) q2 q3 q4)
              clear q1 q2 q3 q4
              go_roundg k1
              case measure => omega
              case rel => exact ⟨_, _, _, rfl, (by rw [List.length_set]; exact HX.out), H', ⟨hST⟩⟩
            rw [if_neg c5] at HY; exact absurd HY (by simp)
          rw [if_neg c4] at H; exact absurd H (by simp)
        rw [if_neg c3] at H
        obtain rfl := Option.some.inj H
        rw [hx] at c3
        have q3 := decide_eq_false c3
        clear H c3
        have hc2 := ST.out.cell 0 rfl 0 (u := .slice Ao o.length co) rfl
        have hl2 := ST.out.lt 0 rfl
        have hc3 := ST.out.cell 2 rfl 0 (u := .slice none 0 0) rfl
        have hl3 := ST.out.lt 2 rfl
        have hf3 := ST.out.frozen 2 rfl 0
        go_wp2_with fail
        replace ST := Zh (ST.out.set 2 rfl 0 (.slice Ao o.length co))
        refine Zq (results_cell_row rfl _ _ (w.heap.size + 1) 28 #[.slice Ao o.length co] (0, 0) _ rfl (ST.out.blk 2 rfl) Tryd.underlying28 rfl (by kernel_rfl)) rfl ?_
        exact ⟨_, rfl, Kd.S_mono (ST.out.own 1 rfl) (fun _ _ => trivial), ST.out.b⟩
  rw [if_neg ct] at h
  obtain rfl : t = false := by simpa using ct
  obtain rfl := Option.some.inj h
  clear h ct
  have hc3 := ST.out.cell 0 rfl 0 (u := .slice none 0 0) rfl
  have hl3 := ST.out.lt 0 rfl
  have hf3 := ST.out.frozen 0 rfl 0
  go_wp2_with fail
  replace ST := Zh (ST.out.set 0 rfl 0 (.slice none 0 0))
  refine Zq (results_cell_row rfl _ _ (w.heap.size + 1) 28 #[.slice none 0 0] (0, 0) _ rfl (ST.out.blk 0 rfl) Tryd.underlying28 rfl (by kernel_rfl)) rfl ?_
  exact ⟨_, rfl, Kd.S_nil _ _ _ _ _, ST.out.b⟩
end Go.Proofs.YtcgojdhbphocgaaDoor.F

namespace Go.Proofs.YtcgojdhbphocgaaDoor.F
open Go.Proofs.YtcgojdhbphocgaaDoor
open Go.RowKit Go.Proofs.YtcgojdhbphocgaaDoorW.PrintWords Go.Proofs.YtcgojdhbphocgaaDoorW.PrintWords.Kd Go.Proofs.YtcgojdhbphocgaaDoorW.PrintMore.Kd Go.Proofs.YtcgojdhbphocgaaDoorW.PrintLast Go.Proofs.YtcgojdhbphocgaaDoorW.PrintMore
attribute [local go_sem] max2_int min2_int max_two min_two max_three min_three max_four min_four   -- for this text's walks alone
set_option linter.unusedVariables false
set_option linter.unusedSimpArgs false
def impl_File_content.f (a0_0 : ByteArray) (l0_1 : List Int) (l0_2 : List Int) : Option (List Int) := (some (([] : List Int) : List Int)).bind fun y207 => (if y207.length + l0_1.length < 140737488355328 then ((some (y207 ++ l0_1 : List Int)).bind fun y210 => (if y210.length + l0_2.length < 140737488355328 then (some (y210 ++ l0_2)) else (none))) else (none))
def impl_File_content.T1 : Bool × List (List Nat × List Nat) := (true, [([], []), ([], []), ([1], [1]), ([0, 2], [0, 2]), ([], []), ([4], [4]), ([3, 5, 3], [3, 5]), ([6, 6, 0, 1, 2, 3, 4, 5, 6], [6])])
def impl_File_content.B1 : List Nat := [0, 0, 2, 7, 0, 16, 63, 127]
theorem impl_File_content.tab1 : rtab .any (opsOf Tryd.f75 1) = impl_File_content.T1 := by kernel_rfl
theorem impl_File_content.bits1 : waitsOk impl_File_content.T1.2 impl_File_content.B1 = true := by kernel_rfl
set_option maxHeartbeats 8000000 in
set_option maxRecDepth 100000 in
theorem impl_File_content.calls (a0_0 : ByteArray) (A0_1 : Option Addr) (c0_1 : Nat) (l0_1 : List Int) (A0_2 : Option Addr) (c0_2 : Nat) (l0_2 : List Int) (r : List Int) (w : World) (hr0_1 : Kd.C (Kd.int .u8) w A0_1 l0_1.length l0_1) (hc0_1 : l0_1.length ≤ c0_1) (hr0_2 : Kd.C (Kd.int .u8) w A0_2 l0_2.length l0_2) (hc0_2 : l0_2.length ≤ c0_2) (h : impl_File_content.f a0_0 l0_1 l0_2 = some r) :
  Calls Tryd.prog 75 #[.agg #[.string a0_0, .slice A0_1 l0_1.length c0_1, .slice A0_2 l0_2.length c0_2]] w fun e w' => ∃ v0_ : Value, e = .returned (v0_) ∧ Kd.R (Kd.int .u8) 5 w' w.heap.size (fun _ => True) v0_ r ∧ Below w.heap.size w w' := by
 have hu55 := Tryd.underlying55
 have HR0_1 := Zh hr0_1
 have HC0_1 := Zh hc0_1
 clear hr0_1 hc0_1
 have HR0_2 := Zh hr0_2
 have HC0_2 := Zh hc0_2
 clear hr0_2 hc0_2
 have HB := Zh (Below.refl w.heap.size w)
 have H : ((some (([] : List Int) : List Int)).bind fun y207 => (if y207.length + l0_1.length < 140737488355328 then ((some (y207 ++ l0_1 : List Int)).bind fun y210 => (if y210.length + l0_2.length < 140737488355328 then (some (y210 ++ l0_2)) else (none))) else (none))) = some r := h
 clear h
 obtain ⟨y207, hy207⟩ : ∃ y_ : List Int, y_ = (([] : List Int)) := ⟨_, rfl⟩
 replace H : (if y207.length + l0_1.length < 140737488355328 then ((some (y207 ++ l0_1 : List Int)).bind fun y210 => (if y210.length + l0_2.length < 140737488355328 then (some (y210 ++ l0_2)) else (none))) else (none)) = some r := by first | (rw [hy207]; with_reducible exact H) | (have H2_ := (Option.bind_some _ _).symm.trans H; rw [hy207]; with_reducible exact H2_) | (have H2_ := (Option.bind_some _ _).symm.trans H; with_reducible exact H2_) | with_reducible exact H | (rw [hy207]; exact H) | exact H
 have Ny207 := Zh hy207
 clear hy207
 by_cases c2 : y207.length + l0_1.length < 140737488355328
 ·
  rw [if_pos c2] at H
  have LMc2 := Zh c2
  clear c2
  obtain ⟨y210, hy210⟩ : ∃ y_ : List Int, y_ = (y207 ++ l0_1) := ⟨_, rfl⟩
  replace H : (if y210.length + l0_2.length < 140737488355328 then (some (y210 ++ l0_2)) else (none)) = some r := by first | (rw [hy210]; with_reducible exact H) | (have H2_ := (Option.bind_some _ _).symm.trans H; rw [hy210]; with_reducible exact H2_) | (have H2_ := (Option.bind_some _ _).symm.trans H; with_reducible exact H2_) | with_reducible exact H | (rw [hy210]; exact H) | exact H
  have Ny210 := Zh hy210
  clear hy210
  by_cases c3 : y210.length + l0_2.length < 140737488355328
  ·
   rw [if_pos c3] at H
   have LMc3 := Zh c3
   clear c3
   obtain ⟨y213, hy213⟩ : ∃ y_ : List Int, y_ = (y210 ++ l0_2) := ⟨_, rfl⟩
   replace H : (some y213) = some r := by first | (rw [hy213]; with_reducible exact H) | (have H2_ := (Option.bind_some _ _).symm.trans H; rw [hy213]; with_reducible exact H2_) | (have H2_ := (Option.bind_some _ _).symm.trans H; with_reducible exact H2_) | with_reducible exact H | (rw [hy213]; exact H) | exact H
   have Ny213 := Zh hy213
   clear hy213
   obtain rfl := Option.some.inj H
   go_enter Tryd.func75, Tryd.ntmps75
   try go_wp2_with (first | ((with_reducible refine gate_dst (N := 1) rfl ?_); refine box_event ?hg (N := 1) ?hd (cs := #[.string a0_0, .slice A0_1 l0_1.length c0_1, .slice A0_2 l0_2.length c0_2]) (t := 55) ?hr ?_; (case hd => rfl); (case hg => rfl); (case hr => first | (go_simp; done) | (go_simp; rfl)); intro gb206 hg w4 hbox hb; have BK206 := Zh (hbox); have GW206 := Zh ((by rw [hg]; exact (below_size Zs) : w.heap.size ≤ gb206)); have GE206 := Zh ((by rw [hg]; exact (below_size Zs) : w.heap.size ≤ gb206)); replace HB := Zh (Zl Zs hb); clear hb hbox hg))
   replace BK206 := Zh (Zb BK206.out)
   replace HB := Zh (Ze HB.out)
   refine start_ (n := 8) (S := fun w' => w'.cell? ⟨gb206, 0, none⟩ = some (.string a0_0) ∧ w'.cell? ⟨gb206, 1, none⟩ = some (.slice A0_1 l0_1.length c0_1) ∧ w'.cell? ⟨gb206, 2, none⟩ = some (.slice A0_2 l0_2.length c0_2)) (ds := []) #[false, false, false, false, false, false, false, false] (by kernel_rfl) rfl rfl ⟨(blk_cell BK206.out 0).trans rfl, (blk_cell BK206.out 1).trans rfl, (blk_cell BK206.out 2).trans rfl⟩ (fun hHeld => ?_); refine with_tabW impl_File_content.tab1 impl_File_content.bits1 (fun HT_ HW_ => ?_)
   generalize w4.drew = w5 at BK206 HB hHeld ⊢
   refine SQ.pu 1 4 HT_ ?_
   refine SQ.pu 4 7 HT_ ?_
   refine SQ.tk 2 5 HT_ HW_ hHeld ?_
   refine SQ.tk 5 8 HT_ HW_ hHeld ?_
   refine one_ (i := 0) (N := some 3) #[true, true, true, false, true, true, false, false] rfl rfl (one_of HT_.out (by kernel_rfl)) (by decide) (fun K hK => ?_)
   refine R_lit_step (Kd.int .u8) _ 5 ?hg (N := 3) ?hd (xs := ([] : List Int)) (inner := []) (ok := fun _ => True) (okp := fun _ => True) ?hr ?hp (fun _ hk => hk) trivial (Below.refl _ _) (Nat.le_refl _) (by simp) ?_; (case hd => rfl); (case hg => rfl); (case hr => first | (go_simp; done) | (go_simp; rfl)); (case hp => exact (Reps.none _ _))
   intro v208 w6 ho7 hb hg_ hnew_
   clear hg_ hnew_
   (first | rw [← Ny207.out] at ho7 | (simp only [Int.reduceToNat] at ho7; rw [← Ny207.out] at ho7))
   have HO209 := Zh (R_lower ho7 (below_size Zs))
   replace BK206 := Zh (Zm (g := gb206) (o := .cells #[.string a0_0, .slice A0_1 l0_1.length c0_1, .slice A0_2 l0_2.length c0_2] 55 (0, 0)) Zk hb)
   replace HB := Zh (Zl Zs hb)
   clear hb ho7
   refine hK.out _ _ ⟨(blk_cell BK206.out 0).trans rfl, (blk_cell BK206.out 1).trans rfl, (blk_cell BK206.out 2).trans rfl⟩ (fun hHeld => ?_)
   clear hK K
   refine norm_ (a' := ?_) ?_ ?_
   rotate_left
   ·
    show Act.put _ (some 3) _ = _
    simp only [Act.put, List.setIfInBounds_toArray, List.set_cons_zero, List.set_cons_succ, i64_w, i32_w]
    rfl
   refine one_ (i := 3) (N := some 6) #[true, true, true, true, true, true, false, false] rfl rfl (one_of HT_.out (by kernel_rfl)) (by decide) (fun K hK => ?_)
   refine R_append_rows_step (Kd.int .u8) (w0 := w) w.heap.size (by rfl) (.tmp 3) (.tmp 5) 41 5 (.int .u8 0) 1 rfl Tryd.underlying41 info5 rfl (by decide) (by omega) v208 y207 l0_1 _ _ _ (fun _ => True) (fun _ => False) rfl rfl ?aO ?aR (fun _ _ h => h) (fun _ h => h.elim) ?aF ?aB ?aS ?aL ?_
   (case aR => repeat (first | exact (C_below HR0_1.out HB.out) | (with_reducible refine C_alloc ?_ _) | (with_reducible refine C_drewN ?_ _) | (with_reducible refine C_drew ?_)))
   (case aB => exact Zs)
   (case aF => exact (fun _ _ => trivial))
   (case aO => exact (ZR HO209.out))
   (case aS => exact (below_size Zs))
   (case aL => have := LMc2.out; omega)
   intro v211 w8 ho hb hg hat
   rw [← Ny210.out] at ho
   have n0_ := Zh (blk_grown (g := gb206) (o := .cells #[.string a0_0, .slice A0_1 l0_1.length c0_1, .slice A0_2 l0_2.length c0_2] 55 (0, 0)) Zk hg (R_ne HO209.out BK206.out (by decide)))
   have n1_ := Zh (hb)
   have n2_ := Zh (ho)
   clear BK206
   clear HB
   clear HO209
   have BK206 := n0_
   have HB := n1_
   have HO212 := n2_
   clear n0_ n1_ n2_
   clear ho hb hg hat
   refine hK.out _ _ ⟨(blk_cell BK206.out 0).trans rfl, (blk_cell BK206.out 1).trans rfl, (blk_cell BK206.out 2).trans rfl⟩ (fun hHeld => ?_)
   clear hK K
   refine norm_ (a' := ?_) ?_ ?_
   rotate_left
   ·
    show Act.put _ (some 6) _ = _
    simp only [Act.put, List.setIfInBounds_toArray, List.set_cons_zero, List.set_cons_succ, i64_w, i32_w]
    rfl
   refine one_ (i := 6) (N := some 9) #[true, true, true, true, true, true, true, false] rfl rfl (one_of HT_.out (by kernel_rfl)) (by decide) (fun K hK => ?_)
   refine R_append_rows_step (Kd.int .u8) (w0 := w) w.heap.size (by rfl) (.tmp 6) (.tmp 8) 41 5 (.int .u8 0) 1 rfl Tryd.underlying41 info5 rfl (by decide) (by omega) v211 y210 l0_2 _ _ _ (fun _ => True) (fun _ => False) rfl rfl ?aO ?aR (fun _ _ h => h) (fun _ h => h.elim) ?aF ?aB ?aS ?aL ?_
   (case aR => repeat (first | exact (C_below HR0_2.out HB.out) | (with_reducible refine C_alloc ?_ _) | (with_reducible refine C_drewN ?_ _) | (with_reducible refine C_drew ?_)))
   (case aB => exact Zs)
   (case aF => exact (fun _ _ => trivial))
   (case aO => exact (ZR HO212.out))
   (case aS => exact (below_size Zs))
   (case aL => have := LMc3.out; omega)
   intro v214 w9 ho hb hg hat
   rw [← Ny213.out] at ho
   have n0_ := Zh (blk_grown (g := gb206) (o := .cells #[.string a0_0, .slice A0_1 l0_1.length c0_1, .slice A0_2 l0_2.length c0_2] 55 (0, 0)) Zk hg (R_ne HO212.out BK206.out (by decide)))
   have n1_ := Zh (hb)
   have n2_ := Zh (ho)
   clear BK206
   clear HB
   clear HO212
   have BK206 := n0_
   have HB := n1_
   have HO215 := n2_
   clear n0_ n1_ n2_
   clear ho hb hg hat
   refine hK.out _ _ ⟨(blk_cell BK206.out 0).trans rfl, (blk_cell BK206.out 1).trans rfl, (blk_cell BK206.out 2).trans rfl⟩ (fun hHeld => ?_)
   clear hK K
   refine norm_ (a' := ?_) ?_ ?_
   rotate_left
   ·
    show Act.put _ (some 9) _ = _
    simp only [Act.put, List.setIfInBounds_toArray, List.set_cons_zero, List.set_cons_succ, i64_w, i32_w]
    rfl
   refine SQ.pu 7 2 HT_ ?_
   refine done_ (done_of HT_.out (by kernel_rfl)) ?_
   try go_wp2
   go_ret
   exact ⟨_, ZE, ZR HO215.out, Zs⟩
  rw [if_neg c3] at H
  exact absurd H (by simp)
 rw [if_neg c2] at H
 exact absurd H (by simp)
end Go.Proofs.YtcgojdhbphocgaaDoor.F

namespace Go.Proofs.YtcgojdhbphocgaaDoor.F
open Go.RowKit Go.Proofs.YtcgojdhbphocgaaDoorW.PrintWords Go.Proofs.YtcgojdhbphocgaaDoorW.PrintLast Go.Proofs.YtcgojdhbphocgaaDoorW.PrintMore
set_option linter.unusedVariables false
set_option linter.unusedSimpArgs false
def PredF (g : Nat) (lb : Array Value) (p : ByteArray → Bool) (w : World) : Prop := ∀ w1 : World, Below w.heap.size w w1 → ∀ (s : ByteArray) (v1 v2 : Value), Calls Tryd.prog g (#[.agg #[.string s, v1, v2]] ++ lb) w1 fun e w' => e = .returned (.bool (p s)) ∧ Below w1.heap.size w1 w'
def idxF (p : ByteArray → Bool) : List S55 → Int → Int
  | [], _ => -1
  | x :: t, i => if p x.f0 = true then i else idxF p t (i + 1)
set_option maxHeartbeats 4000000 in
theorem indexFile.calls (g : Nat) (lb : Array Value) (p : ByteArray → Bool) (eg : ∀ args w, (callFunc g args).run Tryd.prog w = .ok (.enter g args) w) (A : Option Addr) (c : Nat) (l : List S55) (w : World) (hr : Kd.C k55 w A l.length l) (hl : l.length ≤ 9223372036854775807) (hp : PredF g lb p w) :
    Calls Tryd.prog 102 #[.slice A l.length c, .func (.func g) #[] lb] w fun e w' => e = .returned (.int .i64 (idxF p l 0)) ∧ Below w.heap.size w w' := by
  have HR0 := Zh hr
  clear hr
  have HP := Zh hp
  clear hp
  have hu55 := Tryd.underlying55
  go_enter Tryd.func102, Tryd.ntmps102
  go_wp2
  go_loopg [5, 8] l.length (fun gg _ v8 w' => ∃ kk : Nat, kk ≤ l.length ∧ l.length - kk ≤ gg ∧ v8 = .int .i64 kk ∧ Aside0 (Below w.heap.size w w') ∧ Aside0 (idxF p (l.drop kk) kk = idxF p l 0))
  case atStart => exact ⟨0, Nat.zero_le _, by omega, rfl, ⟨Below.refl _ _⟩, ⟨rfl⟩⟩
  case round =>
    obtain ⟨kk, hkk, hg, rfl, HB, HA⟩ := hrel
    by_cases hlt : kk < l.length
    · have hltz : (kk : Int) < (l.length : Int) := by omega
      obtain ⟨ad, A1, c1, A2, c2, e, hx0, hx1, hx2, _, _, _, _⟩ := at_T55 HR0.out (kk : Int) (by omega) (by omega)
      cases e
      replace hx0 := (HB.out.cell (Zi w _ hx0)).trans hx0
      replace hx1 := (HB.out.cell (Zi w _ hx1)).trans hx1
      replace hx2 := (HB.out.cell (Zi w _ hx2)).trans hx2
      rw [Int.toNat_natCast] at hx0 hx1 hx2
      have hrd : rd_T55 l (kk : Int) = l[kk] := by simp [rd_T55, List.getD_eq_getElem?_getD, List.getElem?_eq_getElem hlt]
      have hA := HA.out
      rw [List.drop_eq_getElem_cons hlt] at hA
      rw [hrd] at hx0 hx1 hx2
      clear HA hrd
      generalize l[kk] = y at hx0 hx1 hx2 hA
      have hcall := HP.out wr HB.out y.f0 (.slice A1 y.f1.length c1) (.slice A2 y.f2.length c2)
      cases hq : p y.f0 with
      | true =>
        simp only [idxF, hq, if_true] at hA
        rw [hq] at hcall
        have HA := Zh hA
        clear hA
        go_wp2_with (go_at_fn g; refine hcall.mono ?_; rintro e w' ⟨rfl, hb⟩; replace HB := Zh (Zl HB.out hb); clear hb)
        go_ret
        exact ⟨by rw [← HA.out]; rfl, HB.out⟩
      | false =>
        simp only [idxF, hq, Bool.false_eq_true, if_false] at hA
        rw [hq] at hcall
        have HA := Zh hA
        clear hA
        go_wp2_with (go_at_fn g; refine hcall.mono ?_; rintro e w' ⟨rfl, hb⟩; replace HB := Zh (Zl HB.out hb); clear hb)
        go_roundg (l.length - (kk + 1))
        case measure => omega
        case rel => exact ⟨kk + 1, by omega, by omega, by go_num, HB, ⟨by have := HA.out; simpa using this⟩⟩
    have hltz : ¬ (kk : Int) < (l.length : Int) := by omega
    have : kk = l.length := by omega
    subst this
    go_wp2
    go_ret
    refine ⟨?_, HB.out⟩
    rw [← HA.out, List.drop_length]
    rfl
set_option maxHeartbeats 4000000 in
theorem fileOf1.pred (B : Nat) (name : ByteArray) (w : World) (hb : w.cell? ⟨B, 0, none⟩ = some (.string name)) : PredF 103 #[.pointer (some ⟨B, 0, none⟩)] (fun s => s.toList == name.toList) w := by
  intro w1 hB s v1 v2
  have hlt := Nat.lt_of_lt_of_le (Zi w _ hb) hB.size
  have hx := (hB.cell (Zi w _ hb)).trans hb
  clear hb hB
  have hu55 := Tryd.underlying55
  have hlt2 : B < w1.heap.size := hlt
  clear hlt
  go_enter Tryd.func103, Tryd.ntmps103
  go_wp2
  go_ret
  exact ⟨rfl, Zf (Below.refl _ _) _⟩
def impl_fileOf.f (l0_0 : List S55) (a1 : ByteArray) : Option Int := if l0_0.length ≤ 9223372036854775807 then some (idxF (fun s => s.toList == a1.toList) l0_0 0) else none
set_option maxHeartbeats 4000000 in
theorem impl_fileOf.calls (A0_0 : Option Addr) (c0_0 : Nat) (l0_0 : List S55) (a1 : ByteArray) (r : Int) (w : World) (hr0_0 : Kd.C k55 w A0_0 l0_0.length l0_0) (hc0_0 : l0_0.length ≤ c0_0) (h : impl_fileOf.f l0_0 a1 = some r) :
    Calls Tryd.prog 74 #[.agg #[.slice A0_0 l0_0.length c0_0], .string a1] w fun e w' => e = .returned (.int .i64 r) ∧ Below w.heap.size w w' := by
  unfold impl_fileOf.f at h
  split at h
  · rename_i hl
    have h := Option.some.inj h
    subst h
    have HR := Zh hr0_0
    have HL := Zh hl
    clear hr0_0 hl
    have e6 : ∀ args w, (callFunc 102 args).run Tryd.prog w = .ok (.enter 102 args) w := enters_of Tryd.func102 (by kernel_rfl) rfl
    have e7 : ∀ args w, (callFunc 103 args).run Tryd.prog w = .ok (.enter 103 args) w := enters_of Tryd.func103 (by kernel_rfl) rfl
    have hmf : ∀ (fn : Fn) (first cap : Array Value) (w : World), (Instr.makeFunc fn first cap).run Tryd.prog w = .ok (.func fn first cap) w := fun _ _ _ _ => rfl
    have hcall := indexFile.calls 103 #[.pointer (some ⟨w.heap.size + 1, 0, none⟩)] (fun s => s.toList == a1.toList) e7 A0_0 c0_0 l0_0 ((w.alloc (.cells #[.slice A0_0 l0_0.length c0_0] 28)).alloc (.cells #[.string a1] 9)) (Kd.C_alloc (Kd.C_alloc HR.out _) _) HL.out (fileOf1.pred _ _ _ (by simp))
    go_enter Tryd.func74, Tryd.ntmps74
    go_wp2_with (go_at_fn 102; refine hcall.mono ?_; rintro e w' ⟨rfl, hb⟩)
    go_ret
    exact ⟨rfl, Zl (Zf (Zf (Below.refl _ _) _) _) hb⟩
  cases h
end Go.Proofs.YtcgojdhbphocgaaDoor.F

namespace Go.Proofs.YtcgojdhbphocgaaDoor.F
open Go.RowKit Go.Proofs.YtcgojdhbphocgaaDoorW.PrintWords Go.Proofs.YtcgojdhbphocgaaDoorW.PrintLast Go.Proofs.YtcgojdhbphocgaaDoorW.PrintMore
open Go.Proofs.YtcgojdhbphocgaaDoor
set_option linter.unusedVariables false
set_option linter.unusedSimpArgs false
theorem setFile {w0 w : World} {l : List LW.It} {g n c : Nat} {xs : List S55} {F G : Nat → Prop} {v1 : Value} {ys : List Int} (h : LW.St w0 w l) (q p : Nat) (hn : q ≠ p)
    (hq : l[q]? = some (LW.row k55 55 w0.heap.size (.slice (some ⟨g, 0, none⟩) n c) xs F)) (hp : l[p]? = some (LW.row (Kd.int .u8) 5 w0.heap.size v1 ys G)) (i : Int) (h0 : 0 ≤ i) (h1 : i < n) (a : ByteArray) :
    LW.St w0 (((w.setCell ⟨g, i.toNat * 3, none⟩ (.string a)).setCell ⟨g, i.toNat * 3 + 1, none⟩ v1).setCell ⟨g, i.toNat * 3 + 2, none⟩ (.slice none 0 0))
      ((l.set q (LW.row k55 55 w0.heap.size (.slice (some ⟨g, 0, none⟩) n c) (xs.set i.toNat ⟨a, ys, []⟩) (fun k => F k ∨ G k))).set p LW.gone) := by
  have hS := h.own q hq
  have hR := Kd.S_R (h.own p hp)
  have hd := LW.Its.disj h.i q p _ _ hn hq hp
  have hFg : F g := (Kd.S_R hS).1 g (by simp [Value.ownBlock])
  have hbg := (h.i.all _ (List.mem_of_getElem? hq)).2 g hFg
  have hS2 : Kd.S k55 55 w w0.heap.size (fun k => (F k ∨ G k) ∧ ¬ G k) (.slice (some ⟨g, 0, none⟩) n c) xs := Kd.S_mono hS (fun k hk => ⟨.inl hk, fun h2 => hd k hk h2⟩)
  obtain ⟨oki, cs, hcl, hM, hcc, hfr, hoki, hH⟩ := Kd.S_elem hS2 z55 i h0 h1
  obtain ⟨pp, u1, u2, rfl, hA1, hA2⟩ := k55_openA hM
  have hP := (Kd.S_seg (okg := G) (seg := [.string a, v1, .slice none 0 0]) (j := 0) hH h0 h1 (show 0 + 3 ≤ 3 by decide) (x' := (⟨a, ys, []⟩ : S55)) (k55_mkM _ _ _ (⟨a, ys, []⟩ : S55) hR (Kd.R_nil _ _ _ _ _) AP.nil_ne) (fun k hk => .inr hk) (fun k hk => ⟨.inr hk, fun he => hd k (he ▸ hFg) hk⟩))
  refine h.merge q p hn hq hp (LW.row k55 55 w0.heap.size (.slice (some ⟨g, 0, none⟩) n c) (xs.set i.toNat ⟨a, ys, []⟩) (fun k => F k ∨ G k)) (fun k hk => hk) hP.1 (Zg (Zg (Zg h.b hbg.1) hbg.1) hbg.1) ⟨?_, fun k hk hne => ?_⟩
  · simp [World.setCell]
  have hkg : k ≠ g := fun he => hne (he ▸ hFg)
  rw [Below.heap_setCell _ _ _ k hkg, Below.heap_setCell _ _ _ k hkg, Below.heap_setCell _ _ _ k hkg]
def impl_syncFile.f (k : Nat) (l0_0 : List S55) (a1 : ByteArray) : Option (List S55 × Bool) := (impl_copyDisk.f k l0_0).bind fun o => (impl_fileOf.f l0_0 a1).bind fun i => (impl_isDisk.f k l0_0).bind fun t => if t = true then (if i < 0 then some (o, false) else (if i < (l0_0.length : Int) then (if i < (o.length : Int) then (impl_File_content.f (rd_T55 l0_0 i).f0 (rd_T55 l0_0 i).f1 (rd_T55 l0_0 i).f2).bind fun b => some (o.set i.toNat (⟨a1, b, []⟩ : S55), true) else none) else none)) else some (o, false)
set_option maxHeartbeats 8000000 in
set_option maxRecDepth 100000 in
theorem impl_syncFile.calls (k : Nat) (A0_0 : Option Addr) (c0_0 : Nat) (l0_0 : List S55) (a1 : ByteArray) (r1 : List S55) (r2 : Bool) (w : World) (hr0_0 : Kd.C k55 w A0_0 l0_0.length l0_0) (hc0_0 : l0_0.length ≤ c0_0) (h : impl_syncFile.f k l0_0 a1 = some (r1, r2)) :
    Calls Tryd.prog 45 #[.agg #[.slice A0_0 l0_0.length c0_0], .string a1] w fun e w' => ∃ v0_ : Value, e = .returned (.tuple #[.agg #[v0_], .bool r2]) ∧ Kd.S k55 55 w' w.heap.size (fun _ => True) v0_ r1 ∧ Below w.heap.size w w' := by
  have HR := Zh hr0_0
  have HC := Zh hc0_0
  clear hr0_0 hc0_0
  have ST := Zh (LW.St.start w)
  unfold impl_syncFile.f at h
  replace h := Option.bind_eq_some_iff.mp h
  obtain ⟨o, HA1, h⟩ := h
  replace h := Option.bind_eq_some_iff.mp h
  obtain ⟨i, HA2, h⟩ := h
  replace h := Option.bind_eq_some_iff.mp h
  obtain ⟨t, HA3, h⟩ := h
  replace HA1 := Zh HA1
  replace HA2 := Zh HA2
  replace HA3 := Zh HA3
  have H := Zh h
  clear h
  go_enter Tryd.func45, Tryd.ntmps45
  go_wp2_with fail
  replace ST := Zh (ST.out.alloc #[.slice A0_0 l0_0.length c0_0] 28 (g := w.heap.size) rfl)
  replace ST := Zh (ST.out.alloc #[.slice none 0 0] 28 (g := w.heap.size + 1) (by simp))
  with_reducible refine (impl_copyDisk.calls k _ _ l0_0 o _ (Kd.C_below HR.out ST.out.b) HC.out HA1.out).mono ?_
  rintro e w1 ⟨v1, rfl, ho, hb⟩
  obtain ⟨A1, c1, rfl⟩ := Kd.S_slice ho
  replace ST := Zh (ST.out.row hb ho)
  clear hb ho
  have hc1 := ST.out.cell 1 rfl 0 (u := .slice none 0 0) rfl
  have hl1 := ST.out.lt 1 rfl
  have hc2 := ST.out.cell 2 rfl 0 (u := .slice A0_0 l0_0.length c0_0) rfl
  have hl2 := ST.out.lt 2 rfl
  go_wp2_with fail
  replace ST := Zh (ST.out.alloc #[.slice A1 o.length c1] 28 (g := w1.heap.size) rfl)
  with_reducible refine (impl_fileOf.calls _ _ l0_0 a1 i _ (Kd.C_below HR.out ST.out.b) HC.out HA2.out).mono ?_
  rintro e w2 ⟨rfl, hb⟩
  replace ST := Zh (ST.out.step hb)
  clear hb
  clear hc1 hl1 hc2 hl2
  have hc1 := ST.out.cell 0 rfl 0 (u := .slice A1 o.length c1) rfl
  have hl1 := ST.out.lt 0 rfl
  have hc2 := ST.out.cell 3 rfl 0 (u := .slice A0_0 l0_0.length c0_0) rfl
  have hl2 := ST.out.lt 3 rfl
  go_wp2_with fail
  with_reducible refine (impl_isDisk.calls k _ _ l0_0 t _ (Kd.C_below HR.out ST.out.b) HC.out HA3.out).mono ?_
  rintro e w3 ⟨rfl, hb⟩
  replace ST := Zh (ST.out.step hb)
  clear hb
  clear hc1 hl1 hc2 hl2
  have hc1 := ST.out.cell 0 rfl 0 (u := .slice A1 o.length c1) rfl
  have hl1 := ST.out.lt 0 rfl
  have hc2 := ST.out.cell 2 rfl 0 (u := .slice none 0 0) rfl
  have hl2 := ST.out.lt 2 rfl
  have h := H.out
  clear H
  by_cases ct : t = true
  · subst ct
    rw [if_pos rfl] at h
    by_cases ci : i < 0
    · rw [if_pos ci] at h
      obtain ⟨rfl, rfl⟩ := Prod.mk.inj (Option.some.inj h)
      clear h
      have cib : decide (i < 0) = true := decide_eq_true ci
      clear ci
      have hf2 := ST.out.frozen 2 rfl 0
      go_wp2_with fail
      replace ST := Zh (ST.out.set 2 rfl 0 (.slice A1 o.length c1))
      refine Zq (results_ct rfl _ _ (w.heap.size + 1) 28 #[.slice A1 o.length c1] (0, 0) _ rfl (ST.out.blk 2 rfl) Tryd.underlying28 rfl (by kernel_rfl)) rfl ?_
      exact ⟨_, rfl, Kd.S_mono (ST.out.own 1 rfl) (fun _ _ => trivial), ST.out.b⟩
    rw [if_neg ci] at h
    by_cases cl : i < (l0_0.length : Int)
    · rw [if_pos cl] at h
      by_cases cj : i < (o.length : Int)
      · rw [if_pos cj] at h
        replace h := Option.bind_eq_some_iff.mp h
        obtain ⟨b, HA4, h⟩ := h
        obtain ⟨rfl, rfl⟩ := Prod.mk.inj (Option.some.inj h)
        replace HA4 := Zh HA4
        clear h
        have cib : decide (i < 0) = false := decide_eq_false ci
        have ci0 : 0 ≤ i := by omega
        obtain ⟨g, cg, hv, _, _, _⟩ := Kd.S_form (ST.out.own 1 rfl) (by omega)
        injection hv with hv1 hv2 hv3
        subst hv1
        have HI0 := Zh ci0
        have HIL := Zh cl
        have HIO := Zh cj
        have ci0b := eq_true ci0
        have clb := eq_true cl
        have cjb := eq_true cj
        clear ci cl cj ci0 hv2 hv3
        obtain ⟨ad, B1, d1, B2, d2, e, hx0, hx1, hx2, hl1', hi1, hl2', hi2⟩ := at_T55 HR.out i HI0.out HIL.out
        cases e
        go_wp2_with fail
        clear hc1 hl1 hc2 hl2
        have E0 := Zh hx0
        have E1 := Zh hx1
        have E2 := Zh hx2
        have HI1 := Zh hi1
        have HL1 := Zh hl1'
        have HI2 := Zh hi2
        have HL2 := Zh hl2'
        clear hx0 hx1 hx2 hl1' hi1 hl2' hi2
        replace ST := Zh ST.out.drew
        refine start_ (n := 13) (S := fun w' => w'.cell? ⟨w1.heap.size, 0, none⟩ = some (.slice (some ⟨g, 0, none⟩) o.length c1) ∧ w'.cell? ⟨w.heap.size, 0, none⟩ = some (.slice (some ad) l0_0.length c0_0) ∧ w'.cell? (ad.add (i.toNat * 3)) = some (.string (rd_T55 l0_0 i).f0) ∧ w'.cell? ⟨(ad.add (i.toNat * 3)).block, (ad.add (i.toNat * 3)).off + 1, none⟩ = some (.slice B1 (rd_T55 l0_0 i).f1.length d1) ∧ w'.cell? ⟨(ad.add (i.toNat * 3)).block, (ad.add (i.toNat * 3)).off + 2, none⟩ = some (.slice B2 (rd_T55 l0_0 i).f2.length d2)) (ds := [12]) #[false, false, false, false, false, false, false, false, false, false, false, false, false] (by kernel_rfl) rfl rfl ⟨ST.out.cell 0 rfl 0 rfl, ST.out.cell 3 rfl 0 rfl, (ST.out.b.cell (Zi w _ E0.out)).trans E0.out, (ST.out.b.cell (Zi w _ E1.out)).trans E1.out, (ST.out.b.cell (Zi w _ E2.out)).trans E2.out⟩ (fun hHeld => ?_)
        generalize w3.drew = w4 at ST hHeld ⊢
        refine pure_ (i := 0) (N := some 21) (v := ?_) (a' := ?_) #[true, false, false, false, false, false, false, false, false, false, false, false, false] rfl rfl (by kernel_rfl) (fun _ _ _ h => h) (Or.inl ⟨by rfl, ?_⟩) ?_ ?_
        rotate_left
        · intro w'
          go_simp
          with_reducible rfl
        rotate_left
        · simp only [Act.put, List.setIfInBounds_toArray, List.set_cons_zero, List.set_cons_succ, i64_w, i32_w]
          rfl
        refine pure_ (i := 2) (N := some 23) (v := ?_) (a' := ?_) #[true, false, true, false, false, false, false, false, false, false, false, false, false] rfl rfl (by kernel_rfl) (fun _ _ _ h => h) (Or.inl ⟨by rfl, ?_⟩) ?_ ?_
        rotate_left
        · intro w'
          go_simp
          with_reducible rfl
        rotate_left
        · simp only [Act.put, List.setIfInBounds_toArray, List.set_cons_zero, List.set_cons_succ, i64_w, i32_w]
          rfl
        refine pure_ (i := 3) (N := some 24) (v := ?_) (a' := ?_) #[true, false, true, true, false, false, false, false, false, false, false, false, false] rfl rfl (by kernel_rfl) (fun _ _ _ h => h) (Or.inl ⟨by rfl, ?_⟩) ?_ ?_
        rotate_left
        · intro w'
          go_simp
          with_reducible rfl
        rotate_left
        · simp only [Act.put, List.setIfInBounds_toArray, List.set_cons_zero, List.set_cons_succ, i64_w, i32_w]
          rfl
        refine pure_ (i := 4) (N := some 25) (v := ?_) (a' := ?_) #[true, false, true, true, true, false, false, false, false, false, false, false, false] rfl rfl (by kernel_rfl) (fun _ _ _ h => h) (Or.inl ⟨by rfl, ?_⟩) ?_ ?_
        rotate_left
        · intro w'
          go_simp
          with_reducible rfl
        rotate_left
        · simp only [Act.put, List.setIfInBounds_toArray, List.set_cons_zero, List.set_cons_succ, i64_w, i32_w]
          rfl
        refine pure_ (i := 6) (N := some 27) (v := ?_) (a' := ?_) #[true, false, true, true, true, false, true, false, false, false, false, false, false] rfl rfl (by kernel_rfl) (fun _ _ _ h => h) (Or.inl ⟨by rfl, ?_⟩) ?_ ?_
        rotate_left
        · intro w'
          go_simp
          with_reducible rfl
        rotate_left
        · simp only [Act.put, List.setIfInBounds_toArray, List.set_cons_zero, List.set_cons_succ, i64_w, i32_w]
          rfl
        refine take_ (i := 1) (N := some 22) (v := ?_) (a' := ?_) #[true, true, true, true, true, false, true, false, false, false, false, false, false] rfl rfl (by kernel_rfl) (fun _ _ _ h => h) (Or.inl ⟨by rfl, ?_⟩) hHeld ?_ ?_
        rotate_left
        · rintro w' ⟨s0, s1, s2, s3, s4⟩
          go_simp
          with_reducible rfl
        rotate_left
        · simp only [Act.put, List.setIfInBounds_toArray, List.set_cons_zero, List.set_cons_succ, i64_w, i32_w]
          rfl
        refine take_ (i := 5) (N := some 26) (v := ?_) (a' := ?_) #[true, true, true, true, true, true, true, false, false, false, false, false, false] rfl rfl (by kernel_rfl) (fun _ _ _ h => h) (Or.inl ⟨by rfl, ?_⟩) hHeld ?_ ?_
        rotate_left
        · rintro w' ⟨s0, s1, s2, s3, s4⟩
          go_simp
          with_reducible rfl
        rotate_left
        · simp only [Act.put, List.setIfInBounds_toArray, List.set_cons_zero, List.set_cons_succ, i64_w, i32_w]
          rfl
        refine pure_ (i := 7) (N := some 28) (v := ?_) (a' := ?_) #[true, true, true, true, true, true, true, true, false, false, false, false, false] rfl rfl (by kernel_rfl) (fun _ _ _ h => h) (Or.inl ⟨by rfl, ?_⟩) ?_ ?_
        rotate_left
        · intro w'
          go_simp
          with_reducible rfl
        rotate_left
        · simp only [Act.put, List.setIfInBounds_toArray, List.set_cons_zero, List.set_cons_succ, i64_w, i32_w]
          rfl
        refine take_ (i := 8) (N := some 29) (v := ?_) (a' := ?_) #[true, true, true, true, true, true, true, true, true, false, false, false, false] rfl rfl (by kernel_rfl) (fun _ _ _ h => h) (Or.inl ⟨by rfl, ?_⟩) hHeld ?_ ?_
        rotate_left
        · rintro w' ⟨s0, s1, s2, s3, s4⟩
          go_simp
          with_reducible rfl
        rotate_left
        · simp only [Act.put, List.setIfInBounds_toArray, List.set_cons_zero, List.set_cons_succ, i64_w, i32_w]
          rfl
        refine one_ (i := 9) (N := some 30) #[true, true, true, true, true, true, true, true, true, true, false, false, false] rfl rfl (by kernel_rfl) (by decide) (fun K hK => ?_)
        refine goes_ Tryd.func75 (by kernel_rfl) rfl #[.agg #[.string (rd_T55 l0_0 i).f0, .slice B1 (rd_T55 l0_0 i).f1.length d1, .slice B2 (rd_T55 l0_0 i).f2.length d2]] (by rfl) rfl rfl (by (try simp only [List.map_toArray, List.map_cons, List.map_nil]); first | done | rfl) ?_
        with_reducible refine (impl_File_content.calls (rd_T55 l0_0 i).f0 _ _ (rd_T55 l0_0 i).f1 _ _ (rd_T55 l0_0 i).f2 b _ (Kd.C_below HI1.out ST.out.b) HL1.out (Kd.C_below HI2.out ST.out.b) HL2.out HA4.out).mono ?_
        rintro e w5 ⟨v5, rfl, ho, hb⟩
        refine ⟨_, rfl, ?_⟩
        obtain ⟨A5, c5, rfl⟩ := Kd.R_slice ho
        replace ST := Zh (ST.out.rowR rfl hb ho)
        clear hb ho
        refine hK.out _ _ ⟨ST.out.cell 1 rfl 0 rfl, ST.out.cell 4 rfl 0 rfl, (ST.out.b.cell (Zi w _ E0.out)).trans E0.out, (ST.out.b.cell (Zi w _ E1.out)).trans E1.out, (ST.out.b.cell (Zi w _ E2.out)).trans E2.out⟩ (fun hHeld => ?_)
        clear hK K
        refine norm_ (a' := ?_) ?_ ?_
        rotate_left
        · show Act.put _ (some 30) _ = _
          simp only [Act.put, List.setIfInBounds_toArray, List.set_cons_zero, List.set_cons_succ, i64_w, i32_w]
          rfl
        obtain ⟨oki, cs, hcl, hM, hcc, hfr, hoki, hH⟩ := Kd.S_elem (ST.out.own 2 rfl) z55 i HI0.out HIO.out
        obtain ⟨pp, u1, u2, rfl, hA1, hA2⟩ := k55_openA hM
        have hy0 : w5.cell? ⟨g, i.toNat * 3, none⟩ = some (.string (o.getD i.toNat z55).f0) := hcc 0 _ rfl
        have hy1 : w5.cell? ⟨g, i.toNat * 3 + 1, none⟩ = some u1 := hcc 1 _ rfl
        have hy2 : w5.cell? ⟨g, i.toNat * 3 + 2, none⟩ = some u2 := hcc 2 _ rfl
        have hf0 : w5.frozen? ⟨g, i.toNat * 3, none⟩ = false := hfr 0
        have hf1 : w5.frozen? ⟨g, i.toNat * 3 + 1, none⟩ = false := hfr 1
        have hf2 : w5.frozen? ⟨g, i.toNat * 3 + 2, none⟩ = false := hfr 2
        clear hcl hM hcc hfr hoki hH hA1 hA2
        refine pure_ (i := 10) (N := some 31) (v := ?_) (a' := ?_) #[true, true, true, true, true, true, true, true, true, true, true, false, false] rfl rfl (by kernel_rfl) (fun _ _ _ h => h) (Or.inl ⟨by rfl, ?_⟩) ?_ ?_
        rotate_left
        · intro w'
          go_simp
          with_reducible rfl
        rotate_left
        · simp only [Act.put, List.setIfInBounds_toArray, List.set_cons_zero, List.set_cons_succ, i64_w, i32_w]
          rfl
        refine pure_ (i := 11) (N := some 32) (v := ?_) (a' := ?_) #[true, true, true, true, true, true, true, true, true, true, true, true, false] rfl rfl (by kernel_rfl) (fun _ _ _ h => h) (Or.inl ⟨by rfl, ?_⟩) ?_ ?_
        rotate_left
        · intro w'
          go_simp
          with_reducible rfl
        rotate_left
        · simp only [Act.put, List.setIfInBounds_toArray, List.set_cons_zero, List.set_cons_succ, i64_w, i32_w]
          rfl
        refine last_ (i := 12) (N := none) #[true, true, true, true, true, true, true, true, true, true, true, true, true] rfl rfl (by kernel_rfl) (by decide) (fun K hK => ?_)
        refine skip_ (w1 := ?_) (by rfl) rfl ?_ ?_
        rotate_left
        · go_simp
          rfl
        refine hK.out _ _ ?_
        clear hK K
        refine done_ (by kernel_rfl) ?_
        clear hy0 hy1 hy2 hf0 hf1 hf2 hHeld
        replace ST := Zh (setFile ST.out 2 0 (by decide) rfl rfl i HI0.out HIO.out a1)
        generalize (((w5.setCell ⟨g, i.toNat * 3, none⟩ (.string a1)).setCell ⟨g, i.toNat * 3 + 1, none⟩ (.slice A5 b.length c5)).setCell ⟨g, i.toNat * 3 + 2, none⟩ (.slice none 0 0)) = w6 at ST ⊢
        have hc1 := ST.out.cell 1 rfl 0 (u := .slice (some ⟨g, 0, none⟩) o.length c1) rfl
        have hl1 := ST.out.lt 1 rfl
        have hc2 := ST.out.cell 3 rfl 0 (u := .slice none 0 0) rfl
        have hl2 := ST.out.lt 3 rfl
        have hf2 := ST.out.frozen 3 rfl 0
        go_wp2
        replace ST := Zh (ST.out.set 3 rfl 0 (.slice (some ⟨g, 0, none⟩) o.length c1))
        refine Zq (results_ct rfl _ _ (w.heap.size + 1) 28 #[.slice (some ⟨g, 0, none⟩) o.length c1] (0, 0) _ rfl (ST.out.blk 3 rfl) Tryd.underlying28 rfl (by kernel_rfl)) rfl ?_
        exact ⟨_, rfl, Kd.S_mono (ST.out.own 2 rfl) (fun _ _ => trivial), ST.out.b⟩
      rw [if_neg cj] at h
      exact absurd h (by simp)
    rw [if_neg cl] at h
    exact absurd h (by simp)
  rw [if_neg ct] at h
  obtain rfl : t = false := by simpa using ct
  obtain ⟨rfl, rfl⟩ := Prod.mk.inj (Option.some.inj h)
  clear h ct
  have hf2 := ST.out.frozen 2 rfl 0
  go_wp2_with fail
  replace ST := Zh (ST.out.set 2 rfl 0 (.slice A1 o.length c1))
  refine Zq (results_ct rfl _ _ (w.heap.size + 1) 28 #[.slice A1 o.length c1] (0, 0) _ rfl (ST.out.blk 2 rfl) Tryd.underlying28 rfl (by kernel_rfl)) rfl ?_
  exact ⟨_, rfl, Kd.S_mono (ST.out.own 1 rfl) (fun _ _ => trivial), ST.out.b⟩
end Go.Proofs.YtcgojdhbphocgaaDoor.F

namespace Go.Proofs.YtcgojdhbphocgaaDoor.F
open Go.RowKit Go.Proofs.YtcgojdhbphocgaaDoorW.PrintWords Go.Proofs.YtcgojdhbphocgaaDoorW.PrintWords.Kd Go.Proofs.YtcgojdhbphocgaaDoorW.PrintMore.Kd Go.Proofs.YtcgojdhbphocgaaDoorW.PrintLast Go.Proofs.YtcgojdhbphocgaaDoorW.PrintMore
attribute [local go_sem] max2_int min2_int max_two min_two max_three min_three max_four min_four   -- for this text's walks alone
set_option linter.unusedVariables false
set_option linter.unusedSimpArgs false
def impl_WalSync.f (k : Nat) (l0_0 : List (S55)) : Option ((List (S55)) × Bool) := (impl_syncFile.f k l0_0 (⟨#[108, 111, 103]⟩ : ByteArray)).bind fun bt218 => (some (bt218.1, bt218.2))
set_option maxHeartbeats 8000000 in
set_option maxRecDepth 100000 in
theorem impl_WalSync.calls (k : Nat) (A0_0 : Option Addr) (c0_0 : Nat) (l0_0 : List (S55)) (r1 : List (S55)) (r2 : Bool) (w : World) (hr0_0 : Kd.C k55 w A0_0 l0_0.length l0_0) (hc0_0 : l0_0.length ≤ c0_0) (h : impl_WalSync.f k l0_0 = some (r1, r2)) :
  Calls Tryd.prog 14 #[.agg #[.slice A0_0 l0_0.length c0_0]] w fun e w' => ∃ v0_ : Value, e = .returned (.tuple #[.agg #[v0_], .bool r2]) ∧ Kd.S k55 55 w' w.heap.size (fun _ => True) v0_ r1 ∧ Below w.heap.size w w' := by
 have hu28 := Tryd.underlying28
 have HR0_0 := Zh hr0_0
 have HC0_0 := Zh hc0_0
 clear hr0_0 hc0_0
 have HB := Zh (Below.refl w.heap.size w)
 have H : ((impl_syncFile.f k l0_0 (⟨#[108, 111, 103]⟩ : ByteArray)).bind fun bt218 => (some (bt218.1, bt218.2))) = some (r1, r2) := h
 clear h
 replace H := Option.bind_eq_some_iff.mp H
 obtain ⟨⟨t218, t221⟩, A20, H⟩ := H
 replace H : (some (t218, t221)) = some (r1, r2) := H
 have A2 := Zh A20
 clear A20
 simp only [Option.some.injEq, Prod.mk.injEq] at H
 obtain ⟨rfl, rfl⟩ := H
 go_enter Tryd.func14, Tryd.ntmps14
 go_wp2_with (first | ((with_reducible refine gate_dst (N := 1) rfl ?_); refine box_event ?hg (N := 1) ?hd (cs := #[.slice A0_0 l0_0.length c0_0]) (t := 28) ?hr ?_; (case hd => rfl); (case hg => rfl); (case hr => first | (go_simp; done) | (go_simp; rfl)); intro gb216 hg w3 hbox hb; have BK216 := Zh (hbox); have GW216 := Zh ((by rw [hg]; exact (below_size Zs) : w.heap.size ≤ gb216)); have GE216 := Zh ((by rw [hg]; exact (below_size Zs) : w.heap.size ≤ gb216)); replace HB := Zh (Zl Zs hb); clear hb hbox hg) | ((with_reducible refine gate_dst (N := 2) rfl ?_); refine box_event ?hg (N := 2) ?hd (cs := #[.slice none 0 0]) (t := 28) ?hr ?_; (case hd => rfl); (case hg => rfl); (case hr => first | (go_simp; done) | (go_simp; rfl)); intro gb217 hg w4 hbox hb; have BK217 := Zh (hbox); have GW217 := Zh ((by rw [hg]; exact (below_size Zs) : w.heap.size ≤ gb217)); have GE217 := Zh ((by rw [hg]; exact (below_size Zs) : w.heap.size ≤ gb217)); replace HB := Zh (Zl Zs hb); have NB216_217 := Zh ((by rw [hg]; exact Nat.ne_of_lt (blk_lt (g := gb216) (o := .cells #[.slice A0_0 l0_0.length c0_0] 28 (0, 0)) Zk) : gb216 ≠ gb217)); have NB217_216 := Zh ((by rw [hg]; exact Nat.ne_of_gt (blk_lt (g := gb216) (o := .cells #[.slice A0_0 l0_0.length c0_0] 28 (0, 0)) Zk) : gb217 ≠ gb216)); replace BK216 := Zh (Zm (g := gb216) (o := .cells #[.slice A0_0 l0_0.length c0_0] 28 (0, 0)) Zk hb); clear hb hbox hg; have hnb5 := NB216_217.out; have hnc5 := NB217_216.out; have hcz6_0 : w4.cell? ⟨gb216, 0, none⟩ = some (.slice A0_0 l0_0.length c0_0) := (blk_cell BK216.out 0).trans rfl; have hfz6_0 := Zn BK216.out 0) | ((with_reducible refine gate_callee (f := 45) rfl ?_); refine ZG (some 5) Tryd.func45 #[.agg #[.slice A0_0 l0_0.length c0_0], .string (⟨#[108, 111, 103]⟩ : ByteArray)] rfl ?_; (with_reducible refine (impl_syncFile.calls k _ _ l0_0 (⟨#[108, 111, 103]⟩ : ByteArray) t218 t221 _ ?side1 ?side2 A2.out).mono ?_); (case side1 => repeat (first | exact (C_below HR0_0.out HB.out) | (with_reducible refine C_alloc ?_ _) | (with_reducible refine C_drewN ?_ _) | (with_reducible refine C_drew ?_))); (case side2 => exact HC0_0.out); rintro e w7 ⟨v219, rfl, ho0, hb⟩; refine ⟨_, rfl, ?_⟩; have HO220 := Zh (S_lower ho0 (below_size Zs)); replace BK216 := Zh (Zm (g := gb216) (o := .cells #[.slice A0_0 l0_0.length c0_0] 28 (0, 0)) Zk hb); replace BK217 := Zh (Zm (g := gb217) (o := .cells #[.slice none 0 0] 28 (0, 0)) Zk hb); replace HB := Zh (Zl Zs hb); (try clear hb); (try clear hb2); (try clear hk); (try clear hi); (try clear ho0); obtain ⟨Ao8, co8, eo8⟩ := S_slice HO220.out; subst eo8; have hcz9_0 : w7.cell? ⟨gb217, 0, none⟩ = some (.slice none 0 0) := (blk_cell BK217.out 0).trans rfl; have hfz9_0 := Zn BK217.out 0))
 refine Zq (results_ct rfl _ _ gb217 28 #[.slice Ao8 t218.length co8] (0, 0) _ rfl (by (with_reducible repeat (first | refine Za ?_ _ | refine Zb ?_ | refine blk_alloc ?_ _)); refine blk_put (cs := #[.slice none 0 0]) ?_ 0 _ rfl; (with_reducible repeat (first | refine Za ?_ _ | refine Zb ?_ | refine blk_alloc ?_ _)); exact BK217.out) Tryd.underlying28 rfl (by kernel_rfl)) rfl ?_
 exact ⟨_, ZE, ZS (S_mono (S_far (p := ⟨gb217, 0, none⟩) (S_types HO220.out BK217.out (by decide)) (fun _ hk => hk.2) (.slice Ao8 t218.length co8)) (fun _ hk => trivial)), Zs⟩
def binary_littleEndian_Uint32.f  (l1 : List Int) : Option (Int) := if 3 < (l1.length : Int) then (if 0 < (l1.length : Int) then (if 1 < (l1.length : Int) then (if 2 < (l1.length : Int) then (some (Go.bits .or .u32 (Go.bits .or .u32 (Go.bits .or .u32 ((rd l1 0) % 4294967296) ((((rd l1 1) % 4294967296) * 256) % 4294967296)) ((((rd l1 2) % 4294967296) * 65536) % 4294967296)) ((((rd l1 3) % 4294967296) * 16777216) % 4294967296))) else (none)) else (none)) else (none)) else (none)
set_option maxHeartbeats 8000000 in
set_option maxRecDepth 100000 in
theorem binary_littleEndian_Uint32.calls  (A1 : Option Addr) (c1 : Nat) (l1 : List Int) (r : Int) (w : World) (hr1 : Kd.C (Kd.int .u8) w A1 l1.length l1) (hc1 : l1.length ≤ c1) (h : binary_littleEndian_Uint32.f l1 = some r) :
  Calls Tryd.prog 105 #[.agg #[], .slice A1 l1.length c1] w fun e w' => e = .returned (.int .u32 r) ∧ Below w.heap.size w w' := by
 have hu94 := Tryd.underlying94
 have HR1 := Zh hr1
 have HC1 := Zh hc1
 clear hr1 hc1
 have HB := Zh (Below.refl w.heap.size w)
 have H : (if 3 < (l1.length : Int) then (if 0 < (l1.length : Int) then (if 1 < (l1.length : Int) then (if 2 < (l1.length : Int) then (some (Go.bits .or .u32 (Go.bits .or .u32 (Go.bits .or .u32 ((rd l1 0) % 4294967296) ((((rd l1 1) % 4294967296) * 256) % 4294967296)) ((((rd l1 2) % 4294967296) * 65536) % 4294967296)) ((((rd l1 3) % 4294967296) * 16777216) % 4294967296))) else (none)) else (none)) else (none)) else (none)) = some r := h
 clear h
 by_cases c3 : 3 < (l1.length : Int)
 ·
  rw [if_pos c3] at H
  have c3b0 : decide (3 < (l1.length : Int)) = true := decide_eq_true c3
  have c3b1 : decide (3 < l1.length) = true := decide_eq_true (by omega)
  clear c3
  by_cases c4 : 0 < (l1.length : Int)
  ·
   rw [if_pos c4] at H
   have c4b0 : decide (0 < (l1.length : Int)) = true := decide_eq_true c4
   have c4b1 : decide (0 < l1.length) = true := decide_eq_true (by omega)
   clear c4
   by_cases c5 : 1 < (l1.length : Int)
   ·
    rw [if_pos c5] at H
    have c5b0 : decide (1 < (l1.length : Int)) = true := decide_eq_true c5
    have c5b1 : decide (1 < l1.length) = true := decide_eq_true (by omega)
    clear c5
    by_cases c6 : 2 < (l1.length : Int)
    ·
     rw [if_pos c6] at H
     have c6b0 : decide (2 < (l1.length : Int)) = true := decide_eq_true c6
     have c6b1 : decide (2 < l1.length) = true := decide_eq_true (by omega)
     clear c6
     obtain rfl := Option.some.inj H
     go_enter Tryd.func105, Tryd.ntmps105
     go_wp2_with (first | ((with_reducible refine gate_dst (N := 2) rfl ?_); refine box_event ?hg (N := 2) ?hd (cs := #[]) (t := 94) ?hr ?_; (case hd => rfl); (case hg => rfl); (case hr => first | (go_simp; done) | (go_simp; rfl)); intro gb354 hg w7 hbox hb; have BK354 := Zh (hbox); have GW354 := Zh ((by rw [hg]; exact (below_size Zs) : w.heap.size ≤ gb354)); have GE354 := Zh ((by rw [hg]; exact (below_size Zs) : w.heap.size ≤ gb354)); replace HB := Zh (Zl Zs hb); clear hb hbox hg; have p355 : 0 ≤ (3 : Int) := (by omega); have q355 : 3 < (l1.length : Int) := Zo; obtain ⟨ad355, e355, hx355_0⟩ := Kd.at_int HR1.out 3 p355 q355; cases e355; (try simp only [show (3 : Int).toNat = 3 from rfl, Nat.reduceMul, Nat.reduceEqDiff, Go.Addr.add, ↓reduceIte] at hx355_0); have qi355 : (3 < l1.length) = True := eq_true (by omega); (try rw [show ((3 : Int)).toNat = 3 from rfl] at hx355_0); replace hx355_0 := Zc HB.out hx355_0; replace p355 := eq_true p355; replace q355 := eq_true q355; have p356 : 0 ≤ (0 : Int) := (by omega); have q356 : 0 < (l1.length : Int) := Zo; obtain ⟨ad356, e356, hx356_0⟩ := Kd.at_int HR1.out 0 p356 q356; obtain rfl : ad355 = ad356 := (by injection e356); have qi356 : (0 < l1.length) = True := eq_true (by omega); (try rw [show ((0 : Int)).toNat = 0 from rfl] at hx356_0); (try rw [Addr.add_zero'] at hx356_0); replace hx356_0 := Zc HB.out hx356_0; replace p356 := eq_true p356; replace q356 := eq_true q356; have p357 : 0 ≤ (1 : Int) := (by omega); have q357 : 1 < (l1.length : Int) := Zo; obtain ⟨ad357, e357, hx357_0⟩ := Kd.at_int HR1.out 1 p357 q357; obtain rfl : ad355 = ad357 := (by injection e357); (try simp only [show (1 : Int).toNat = 1 from rfl, Nat.reduceMul, Nat.reduceEqDiff, Go.Addr.add, ↓reduceIte] at hx357_0); have qi357 : (1 < l1.length) = True := eq_true (by omega); (try rw [show ((1 : Int)).toNat = 1 from rfl] at hx357_0); replace hx357_0 := Zc HB.out hx357_0; replace p357 := eq_true p357; replace q357 := eq_true q357; have p358 : 0 ≤ (2 : Int) := (by omega); have q358 : 2 < (l1.length : Int) := Zo; obtain ⟨ad358, e358, hx358_0⟩ := Kd.at_int HR1.out 2 p358 q358; obtain rfl : ad355 = ad358 := (by injection e358); (try simp only [show (2 : Int).toNat = 2 from rfl, Nat.reduceMul, Nat.reduceEqDiff, Go.Addr.add, ↓reduceIte] at hx358_0); have qi358 : (2 < l1.length) = True := eq_true (by omega); (try rw [show ((2 : Int)).toNat = 2 from rfl] at hx358_0); replace hx358_0 := Zc HB.out hx358_0; replace p358 := eq_true p358; replace q358 := eq_true q358; have p359 : 0 ≤ (3 : Int) := (by omega); have q359 : 3 < (l1.length : Int) := Zo; obtain ⟨ad359, e359, hx359_0⟩ := Kd.at_int HR1.out 3 p359 q359; obtain rfl : ad355 = ad359 := (by injection e359); (try simp only [show (3 : Int).toNat = 3 from rfl, Nat.reduceMul, Nat.reduceEqDiff, Go.Addr.add, ↓reduceIte] at hx359_0); have qi359 : (3 < l1.length) = True := eq_true (by omega); (try rw [show ((3 : Int)).toNat = 3 from rfl] at hx359_0); replace hx359_0 := Zc HB.out hx359_0; replace p359 := eq_true p359; replace q359 := eq_true q359))
     repeat (go_quiet (first | ((with_reducible refine gate_dst (N := 2) rfl ?_); refine box_event ?hg (N := 2) ?hd (cs := #[]) (t := 94) ?hr ?_; (case hd => rfl); (case hg => rfl); (case hr => first | (go_simp; done) | (go_simp; rfl)); intro gb354 hg w7 hbox hb; have BK354 := Zh (hbox); have GW354 := Zh ((by rw [hg]; exact (below_size Zs) : w.heap.size ≤ gb354)); have GE354 := Zh ((by rw [hg]; exact (below_size Zs) : w.heap.size ≤ gb354)); replace HB := Zh (Zl Zs hb); clear hb hbox hg; have p355 : 0 ≤ (3 : Int) := (by omega); have q355 : 3 < (l1.length : Int) := Zo; obtain ⟨ad355, e355, hx355_0⟩ := Kd.at_int HR1.out 3 p355 q355; cases e355; (try simp only [show (3 : Int).toNat = 3 from rfl, Nat.reduceMul, Nat.reduceEqDiff, Go.Addr.add, ↓reduceIte] at hx355_0); have qi355 : (3 < l1.length) = True := eq_true (by omega); (try rw [show ((3 : Int)).toNat = 3 from rfl] at hx355_0); replace hx355_0 := Zc HB.out hx355_0; replace p355 := eq_true p355; replace q355 := eq_true q355; have p356 : 0 ≤ (0 : Int) := (by omega); have q356 : 0 < (l1.length : Int) := Zo; obtain ⟨ad356, e356, hx356_0⟩ := Kd.at_int HR1.out 0 p356 q356; obtain rfl : ad355 = ad356 := (by injection e356); have qi356 : (0 < l1.length) = True := eq_true (by omega); (try rw [show ((0 : Int)).toNat = 0 from rfl] at hx356_0); (try rw [Addr.add_zero'] at hx356_0); replace hx356_0 := Zc HB.out hx356_0; replace p356 := eq_true p356; replace q356 := eq_true q356; have p357 : 0 ≤ (1 : Int) := (by omega); have q357 : 1 < (l1.length : Int) := Zo; obtain ⟨ad357, e357, hx357_0⟩ := Kd.at_int HR1.out 1 p357 q357; obtain rfl : ad355 = ad357 := (by injection e357); (try simp only [show (1 : Int).toNat = 1 from rfl, Nat.reduceMul, Nat.reduceEqDiff, Go.Addr.add, ↓reduceIte] at hx357_0); have qi357 : (1 < l1.length) = True := eq_true (by omega); (try rw [show ((1 : Int)).toNat = 1 from rfl] at hx357_0); replace hx357_0 := Zc HB.out hx357_0; replace p357 := eq_true p357; replace q357 := eq_true q357; have p358 : 0 ≤ (2 : Int) := (by omega); have q358 : 2 < (l1.length : Int) := Zo; obtain ⟨ad358, e358, hx358_0⟩ := Kd.at_int HR1.out 2 p358 q358; obtain rfl : ad355 = ad358 := (by injection e358); (try simp only [show (2 : Int).toNat = 2 from rfl, Nat.reduceMul, Nat.reduceEqDiff, Go.Addr.add, ↓reduceIte] at hx358_0); have qi358 : (2 < l1.length) = True := eq_true (by omega); (try rw [show ((2 : Int)).toNat = 2 from rfl] at hx358_0); replace hx358_0 := Zc HB.out hx358_0; replace p358 := eq_true p358; replace q358 := eq_true q358; have p359 : 0 ≤ (3 : Int) := (by omega); have q359 : 3 < (l1.length : Int) := Zo; obtain ⟨ad359, e359, hx359_0⟩ := Kd.at_int HR1.out 3 p359 q359; obtain rfl : ad355 = ad359 := (by injection e359); (try simp only [show (3 : Int).toNat = 3 from rfl, Nat.reduceMul, Nat.reduceEqDiff, Go.Addr.add, ↓reduceIte] at hx359_0); have qi359 : (3 < l1.length) = True := eq_true (by omega); (try rw [show ((3 : Int)).toNat = 3 from rfl] at hx359_0); replace hx359_0 := Zc HB.out hx359_0; replace p359 := eq_true p359; replace q359 := eq_true q359)); try go_wp2_with (first | ((with_reducible refine gate_dst (N := 2) rfl ?_); refine box_event ?hg (N := 2) ?hd (cs := #[]) (t := 94) ?hr ?_; (case hd => rfl); (case hg => rfl); (case hr => first | (go_simp; done) | (go_simp; rfl)); intro gb354 hg w7 hbox hb; have BK354 := Zh (hbox); have GW354 := Zh ((by rw [hg]; exact (below_size Zs) : w.heap.size ≤ gb354)); have GE354 := Zh ((by rw [hg]; exact (below_size Zs) : w.heap.size ≤ gb354)); replace HB := Zh (Zl Zs hb); clear hb hbox hg; have p355 : 0 ≤ (3 : Int) := (by omega); have q355 : 3 < (l1.length : Int) := Zo; obtain ⟨ad355, e355, hx355_0⟩ := Kd.at_int HR1.out 3 p355 q355; cases e355; (try simp only [show (3 : Int).toNat = 3 from rfl, Nat.reduceMul, Nat.reduceEqDiff, Go.Addr.add, ↓reduceIte] at hx355_0); have qi355 : (3 < l1.length) = True := eq_true (by omega); (try rw [show ((3 : Int)).toNat = 3 from rfl] at hx355_0); replace hx355_0 := Zc HB.out hx355_0; replace p355 := eq_true p355; replace q355 := eq_true q355; have p356 : 0 ≤ (0 : Int) := (by omega); have q356 : 0 < (l1.length : Int) := Zo; obtain ⟨ad356, e356, hx356_0⟩ := Kd.at_int HR1.out 0 p356 q356; obtain rfl : ad355 = ad356 := (by injection e356); have qi356 : (0 < l1.length) = True := eq_true (by omega); (try rw [show ((0 : Int)).toNat = 0 from rfl] at hx356_0); (try rw [Addr.add_zero'] at hx356_0); replace hx356_0 := Zc HB.out hx356_0; replace p356 := eq_true p356; replace q356 := eq_true q356; have p357 : 0 ≤ (1 : Int) := (by omega); have q357 : 1 < (l1.length : Int) := Zo; obtain ⟨ad357, e357, hx357_0⟩ := Kd.at_int HR1.out 1 p357 q357; obtain rfl : ad355 = ad357 := (by injection e357); (try simp only [show (1 : Int).toNat = 1 from rfl, Nat.reduceMul, Nat.reduceEqDiff, Go.Addr.add, ↓reduceIte] at hx357_0); have qi357 : (1 < l1.length) = True := eq_true (by omega); (try rw [show ((1 : Int)).toNat = 1 from rfl] at hx357_0); replace hx357_0 := Zc HB.out hx357_0; replace p357 := eq_true p357; replace q357 := eq_true q357; have p358 : 0 ≤ (2 : Int) := (by omega); have q358 : 2 < (l1.length : Int) := Zo; obtain ⟨ad358, e358, hx358_0⟩ := Kd.at_int HR1.out 2 p358 q358; obtain rfl : ad355 = ad358 := (by injection e358); (try simp only [show (2 : Int).toNat = 2 from rfl, Nat.reduceMul, Nat.reduceEqDiff, Go.Addr.add, ↓reduceIte] at hx358_0); have qi358 : (2 < l1.length) = True := eq_true (by omega); (try rw [show ((2 : Int)).toNat = 2 from rfl] at hx358_0); replace hx358_0 := Zc HB.out hx358_0; replace p358 := eq_true p358; replace q358 := eq_true q358; have p359 : 0 ≤ (3 : Int) := (by omega); have q359 : 3 < (l1.length : Int) := Zo; obtain ⟨ad359, e359, hx359_0⟩ := Kd.at_int HR1.out 3 p359 q359; obtain rfl : ad355 = ad359 := (by injection e359); (try simp only [show (3 : Int).toNat = 3 from rfl, Nat.reduceMul, Nat.reduceEqDiff, Go.Addr.add, ↓reduceIte] at hx359_0); have qi359 : (3 < l1.length) = True := eq_true (by omega); (try rw [show ((3 : Int)).toNat = 3 from rfl] at hx359_0); replace hx359_0 := Zc HB.out hx359_0; replace p359 := eq_true p359; replace q359 := eq_true q359)))
     go_ret
     exact ⟨ZE, Zs⟩
    rw [if_neg c6] at H
    exact absurd H (by simp)
   rw [if_neg c5] at H
   exact absurd H (by simp)
  rw [if_neg c4] at H
  exact absurd H (by simp)
 rw [if_neg c3] at H
 exact absurd H (by simp)
mutual
def impl_crc32.l0 : Nat → Int → List Int → Int → Int → Option (Int)
 | 0, _, _, _, _ => none
 | k + 1, x3, x7, x8, x9 => if x9 < x8 then (if 0 ≤ x9 then (if x9 < (x7.length : Int) then (impl_crc32.l1 k (Go.bits .xor .u32 x3 ((rd x7 x9) % 4294967296)) x7 x8 x9 0) else (none)) else (none)) else (some (Go.bits .xor .u32 4294967295 x3))
def impl_crc32.l1 : Nat → Int → List Int → Int → Int → Int → Option (Int)
 | 0, _, _, _, _, _ => none
 | k + 1, x3, x7, x8, x9, x17 => if x17 < 8 then (if (Go.bits .and .u32 x3 1) = 1 then (impl_crc32.l1 k (Go.bits .xor .u32 (x3 / 2) 3988292384) x7 x8 x9 (wrap64 (x17 + 1))) else (impl_crc32.l1 k (x3 / 2) x7 x8 x9 (wrap64 (x17 + 1)))) else (impl_crc32.l0 k x3 x7 x8 (wrap64 (x9 + 1)))
end
def impl_crc32.f (k : Nat) (l0 : List Int) : Option (Int) := impl_crc32.l0 k 4294967295 l0 (l0.length : Int) 0
set_option maxHeartbeats 8000000 in
set_option maxRecDepth 100000 in
theorem impl_crc32.calls (k : Nat) (A0 : Option Addr) (c0 : Nat) (l0 : List Int) (r : Int) (w : World) (hr0 : Kd.C (Kd.int .u8) w A0 l0.length l0) (hc0 : l0.length ≤ c0) (h : impl_crc32.f k l0 = some r) :
  Calls Tryd.prog 92 #[.slice A0 l0.length c0] w fun e w' => e = .returned (.int .u32 r) ∧ Drawn0 w w' := by
 have HR0 := Zh hr0
 have HC0 := Zh hc0
 clear hr0 hc0
 have H : (impl_crc32.l0 k 4294967295 l0 (l0.length : Int) 0) = some r := h
 clear h
 have H' := Zh H
 clear H
 go_enter Tryd.func92, Tryd.ntmps92
 go_wp2
 go_loopg [3, 9] k (fun kq v3 v9 w' => ∃ (x3_1 : Int) (x9_1 : Int), v3 = .int .u32 x3_1 ∧ v9 = .int .i64 x9_1 ∧ Aside0 (impl_crc32.l0 kq x3_1 l0 (l0.length : Int) x9_1 = some r) ∧ Aside0 (kq ≤ k) ∧ Drawn0 w w')
 case atStart => exact ⟨(4294967295), (0), (by first | rfl | (simp; done) | (simp [*]; done)), (by first | rfl | (simp; done) | (simp [*]; done)), H', ⟨Nat.le_refl _⟩, by repeat (first | exact Drawn0.refl _ | apply Drawn0.step)⟩
 case round =>
  clear H'
  obtain ⟨x3_1, x9_1, rfl, rfl, HA, HK1, ⟨m1, rfl⟩⟩ := hrel
  cases gk with
  | zero => exact absurd HA.out (by simp [impl_crc32.l0])
  | succ k1 =>
   have H := HA.out
   clear HA
   simp only [impl_crc32.l0] at H
   by_cases c2 : x9_1 < (l0.length : Int)
   ·
    rw [if_pos c2] at H
    have c2b0 : decide (x9_1 < (l0.length : Int)) = true := decide_eq_true c2
    clear c2
    by_cases c3 : 0 ≤ x9_1
    ·
     rw [if_pos c3] at H
     have c3b0 : decide (0 ≤ x9_1) = true := decide_eq_true c3
     clear c3
     by_cases c4 : x9_1 < (l0.length : Int)
     ·
      rw [if_pos c4] at H
      have c4b0 : decide (x9_1 < (l0.length : Int)) = true := decide_eq_true c4
      clear c4
      have H' := Zh H
      clear H
      have p353 : 0 ≤ (x9_1 : Int) := Zo
      have q353 : x9_1 < (l0.length : Int) := Zo
      obtain ⟨ad353, e353, hx353_0⟩ := Kd.at_int HR0.out x9_1 p353 q353
      cases e353
      replace p353 := eq_true p353
      replace q353 := eq_true q353
      go_wp2
      go_loopg [3, 17] k1 (fun kq v3 v17 w' => ∃ (x3_2 : Int) (x17_2 : Int), v3 = .int .u32 x3_2 ∧ v17 = .int .i64 x17_2 ∧ Aside0 (impl_crc32.l1 kq x3_2 l0 (l0.length : Int) x9_1 x17_2 = some r) ∧ Aside0 (kq ≤ k1) ∧ Drawn0 w w')
      case atStart => exact ⟨(Go.bits .xor .u32 x3_1 ((rd l0 x9_1) % 4294967296)), (0), (by first | rfl | (simp; done) | (simp [*]; done)), (by first | rfl | (simp; done) | (simp [*]; done)), H', ⟨Nat.le_refl _⟩, by repeat (first | exact Drawn0.refl _ | apply Drawn0.step)⟩
      case round =>
       clear H'
       try clear c2
       try clear c2b0
       try clear p2
       try clear c3
       try clear c3b0
       try clear p3
       try clear q3
       try clear hx3
       try clear c4
       try clear c4b0
       try clear hx353_0
       try clear p353
       try clear q353
       obtain ⟨x3_2, x17_2, rfl, rfl, HA, HK2, ⟨m2, rfl⟩⟩ := hrel
       cases gk with
       | zero => exact absurd HA.out (by simp [impl_crc32.l1])
       | succ k2 =>
        have H := HA.out
        clear HA
        simp only [impl_crc32.l1] at H
        by_cases c5 : x17_2 < 8
        ·
         rw [if_pos c5] at H
         have c5b0 : decide (x17_2 < 8) = true := decide_eq_true c5
         clear c5
         by_cases c6 : (Go.bits .and .u32 x3_2 1) = 1
         ·
          rw [if_pos c6] at H
          have c6b0 : ((Go.bits .and .u32 x3_2 1) == 1) = true := beq_iff_eq.mpr c6
          have c6b1 : ((Go.bits .and .u32 x3_2 1) != 1) = false := bne_eq_false_iff_eq.mpr c6
          clear c6
          have H' := Zh H
          clear H
          go_wp2
          go_roundg k2
          case measure => have := HK1.out; have := HK2.out; omega
          case rel => exact ⟨(Go.bits .xor .u32 (x3_2 / 2) 3988292384), (wrap64 (x17_2 + 1)), (by first | rfl | (simp; done) | (simp [*]; done)), (by first | rfl | (simp; done) | (simp [*]; done)), H', ⟨by have := HK1.out; have := HK2.out; omega⟩, by repeat (first | exact Drawn0.refl _ | apply Drawn0.step)⟩
         rw [if_neg c6] at H
         have c6b0 : ((Go.bits .and .u32 x3_2 1) == 1) = false := beq_eq_false_iff_ne.mpr c6
         have c6b1 : ((Go.bits .and .u32 x3_2 1) != 1) = true := bne_iff_ne.mpr c6
         have H' := Zh H
         clear H
         go_wp2
         go_roundg k2
         case measure => have := HK1.out; have := HK2.out; omega
         case rel => exact ⟨(x3_2 / 2), (wrap64 (x17_2 + 1)), (by first | rfl | (simp; done) | (simp [*]; done)), (by first | rfl | (simp; done) | (simp [*]; done)), H', ⟨by have := HK1.out; have := HK2.out; omega⟩, by repeat (first | exact Drawn0.refl _ | apply Drawn0.step)⟩
        rw [if_neg c5] at H
        have c5b0 : decide (x17_2 < 8) = false := decide_eq_false c5
        clear c5
        have H' := Zh H
        clear H
        go_wp2
        go_roundg k2
        case measure => have := HK1.out; have := HK2.out; omega
        case rel => exact ⟨(x3_2), (wrap64 (x9_1 + 1)), (by first | rfl | (simp; done) | (simp [*]; done)), (by first | rfl | (simp; done) | (simp [*]; done)), H', ⟨by have := HK1.out; have := HK2.out; omega⟩, by repeat (first | exact Drawn0.refl _ | apply Drawn0.step)⟩
     rw [if_neg c4] at H
     exact absurd H (by simp)
    rw [if_neg c3] at H
    exact absurd H (by simp)
   rw [if_neg c2] at H
   have c2b0 : decide (x9_1 < (l0.length : Int)) = false := decide_eq_false c2
   clear c2
   obtain rfl := Option.some.inj H
   go_wp2
   go_ret
   exact ⟨by first | rfl | (simp; done) | (simp [*]; done), by repeat (first | exact Drawn0.refl _ | apply Drawn0.step)⟩
mutual
def impl_scanFrames.l0 : Nat → List Int → List (List Int) → Int → Option ((List (List Int)) × Int)
 | 0, _, _, _ => none
 | k + 1, x0, x4, x5 => if 0 ≤ x5 then (if x5 ≤ (x0.length : Int) then (if ((x0.drop (x5 : Int).toNat).length : Int) < 8 then (some (x4, x5)) else ((binary_littleEndian_Uint32.f (x0.drop (x5 : Int).toNat)).bind fun t364 => (if t364 < 1 then (impl_scanFrames.j1 k x0 x4 x5 (x0.drop (x5 : Int).toNat) t364 true) else (if t364 > 600 then (impl_scanFrames.j1 k x0 x4 x5 (x0.drop (x5 : Int).toNat) t364 true) else (impl_scanFrames.j1 k x0 x4 x5 (x0.drop (x5 : Int).toNat) t364 (decide (((x0.drop (x5 : Int).toNat).length : Int) < (wrap64 (8 + (wrap64 (t364))))))))))) else (none)) else (none)
def impl_scanFrames.j1 : Nat → List Int → List (List Int) → Int → List Int → Int → Bool → Option ((List (List Int)) × Int)
 | 0, _, _, _, _, _, _ => none
 | k + 1, x0, x4, x5, x6, x7, x34 => if x34 = true then (some (x4, x5)) else (if 8 ≤ ((8 + x7) % 4294967296) then (if ((8 + x7) % 4294967296) ≤ (x6.length : Int) then (if 4 ≤ (x6.length : Int) then ((binary_littleEndian_Uint32.f (x6.drop 4)).bind fun t367 => ((impl_crc32.f k ((x6.take (((8 + x7) % 4294967296) : Int).toNat).drop 8)).bind fun t368 => (if t367 = t368 then ((some (([] : List Int) : List Int)).bind fun y369 => (if y369.length + ((x6.take (((8 + x7) % 4294967296) : Int).toNat).drop 8).length < 140737488355328 then (if x4.length < 5864062014805 then (impl_scanFrames.l0 k x0 (x4 ++ [(y369 ++ ((x6.take (((8 + x7) % 4294967296) : Int).toNat).drop 8))]) (wrap64 (x5 + (wrap64 (8 + (wrap64 (x7))))))) else (none)) else (none))) else (some (x4, x5))))) else (none)) else (none)) else (none))
end
def impl_scanFrames.f (k : Nat) (l0 : List Int) : Option ((List (List Int)) × Int) := impl_scanFrames.l0 k l0 (([] : List (List Int))) 0
set_option maxHeartbeats 8000000 in
set_option maxRecDepth 100000 in
theorem impl_scanFrames.calls (k : Nat) (A0 : Option Addr) (c0 : Nat) (l0 : List Int) (r1 : List (List Int)) (r2 : Int) (w : World) (hr0 : Kd.C (Kd.int .u8) w A0 l0.length l0) (hc0 : l0.length ≤ c0) (h : impl_scanFrames.f k l0 = some (r1, r2)) :
  Calls Tryd.prog 81 #[.slice A0 l0.length c0] w fun e w' => ∃ v0_ : Value, e = .returned (.tuple #[v0_, .int .i64 r2]) ∧ Kd.S (Kd.slice 5 (Kd.int .u8)) 41 w' w.heap.size (fun _ => True) v0_ r1 ∧ Below w.heap.size w w' := by
 have hu94 := Tryd.underlying94
 have HR0 := Zh hr0
 have HC0 := Zh hc0
 clear hr0 hc0
 have HB := Zh (Below.refl w.heap.size w)
 have H : (impl_scanFrames.l0 k l0 (([] : List (List Int))) 0) = some (r1, r2) := h
 clear h
 obtain ⟨y360, hy360⟩ : ∃ y_ : List (List Int), y_ = (([] : List (List Int))) := ⟨_, rfl⟩
 replace H : (impl_scanFrames.l0 k l0 y360 0) = some (r1, r2) := by first | (rw [hy360]; with_reducible exact H) | (have H2_ := (Option.bind_some _ _).symm.trans H; rw [hy360]; with_reducible exact H2_) | (have H2_ := (Option.bind_some _ _).symm.trans H; with_reducible exact H2_) | with_reducible exact H | (rw [hy360]; exact H) | exact H
 have Ny360 := Zh hy360
 clear hy360
 have H' := Zh H
 clear H
 go_enter Tryd.func81, Tryd.ntmps81
 go_wp2_with (first | ((with_reducible refine gate_dst (N := 9) rfl ?_); (try (refine gate_guard (by rfl) ?_; dsimp only)); refine S_lit (Kd.slice 5 (Kd.int .u8)) _ 41 ?hg (N := 9) ?hd (xs := ([] : List (List Int))) (inner := []) (ok := fun _ => True) (okp := fun _ => True) ?hr ?hp (fun _ hk => hk) trivial (Below.refl _ _) (Nat.le_refl _) (by simp) ?_; (case hd => rfl); (case hg => rfl); (case hr => first | (go_simp; done) | (go_simp; rfl)); (case hp => exact (Reps.none _ _)); intro v361 w2 ho3 hb hg_ hnew_; clear hg_ hnew_; (first | rw [← Ny360.out] at ho3 | (simp only [Int.reduceToNat] at ho3; rw [← Ny360.out] at ho3)); have HO362 := Zh (S_lower ho3 (below_size Zs)); replace HB := Zh (Zl Zs hb); clear hb ho3))
 go_loopg [4, 5] k (fun kq v4 v5 w' => ∃ (x4_1 : List (List Int)) (x5_1 : Int), v5 = .int .i64 x5_1 ∧ Aside0 (impl_scanFrames.l0 kq l0 x4_1 x5_1 = some (r1, r2)) ∧ Aside0 (kq ≤ k) ∧ Aside0 (Kd.S (Kd.slice 5 (Kd.int .u8)) 41 w' w.heap.size (fun _ => True) v4 x4_1) ∧ Aside0 (Below w.heap.size w w'))
 case atStart => exact ⟨(y360), (0), (by first | rfl | (simp; done) | (simp [*]; done)), H', ⟨Nat.le_refl _⟩, ⟨ZS HO362.out⟩, ⟨Zs⟩⟩
 case round =>
  clear H'
  try clear p2
  obtain ⟨x4_1, x5_1, rfl, HA, HK1, HO_4, HB⟩ := hrel
  cases gk with
  | zero => exact absurd HA.out (by simp [impl_scanFrames.l0])
  | succ k1 =>
   have H := HA.out
   clear HA
   simp only [impl_scanFrames.l0] at H
   by_cases c4 : 0 ≤ x5_1
   ·
    rw [if_pos c4] at H
    have c4b0 := eq_true c4
    have c4b1 : decide (0 ≤ x5_1) = true := decide_eq_true c4
    clear c4
    by_cases c5 : x5_1 ≤ (l0.length : Int)
    ·
     rw [if_pos c5] at H
     have c5b0 := eq_true c5
     have c5b1 : decide (x5_1 ≤ (l0.length : Int)) = true := decide_eq_true c5
     clear c5
     by_cases c6 : ((l0.drop (x5_1 : Int).toNat).length : Int) < 8
     ·
      rw [if_pos c6] at H
      have c6b0 : decide (((l0.drop (x5_1 : Int).toNat).length : Int) < 8) = true := decide_eq_true c6
      have c6b0x : decide (((l0.length - x5_1.toNat : Nat) : Int) < 8) = true := by have h_ := c6b0; rw [List.length_drop] at h_; exact h_
      have c6b1 : decide ((l0.drop (x5_1 : Int).toNat).length < 8) = true := decide_eq_true (by omega)
      have c6b1x : decide ((l0.length - x5_1.toNat) < 8) = true := by have h_ := c6b1; rw [List.length_drop] at h_; exact h_
      clear c6
      simp only [Option.some.injEq, Prod.mk.injEq] at H
      obtain ⟨rfl, rfl⟩ := H
      obtain ⟨i07, hi07, _, hsz7, _⟩ := info_parts info5
      obtain ⟨A7, hcut7, hA7, hC7⟩ := print_drop_of (P := Tryd.prog) (Value.int .u8) 0 41 5 .i64 Tryd.underlying41 hi07 hsz7 A0 c0 l0 x5_1 (Zo) (Zo) HC0.out
      have HR363 := Zh (C_of_reads (h1 := fun _ => rfl) (hA7 _ (Kd.reads_of_C HR0.out)))
      have HC363 := Zh hC7
      clear hA7 hC7 hi07 hsz7
      go_wp2
      go_ret2
      exact ⟨_, ZE, ZS HO_4.out, Zs⟩
     rw [if_neg c6] at H
     have c6b0 : decide (((l0.drop (x5_1 : Int).toNat).length : Int) < 8) = false := decide_eq_false c6
     have c6b0x : decide (((l0.length - x5_1.toNat : Nat) : Int) < 8) = false := by have h_ := c6b0; rw [List.length_drop] at h_; exact h_
     have c6b1 : decide ((l0.drop (x5_1 : Int).toNat).length < 8) = false := decide_eq_false (by omega)
     have c6b1x : decide ((l0.length - x5_1.toNat) < 8) = false := by have h_ := c6b1; rw [List.length_drop] at h_; exact h_
     clear c6
     replace H := Option.bind_eq_some_iff.mp H
     obtain ⟨t364, A80, H⟩ := H
     replace H : (if t364 < 1 then (impl_scanFrames.j1 k1 l0 x4_1 x5_1 (l0.drop (x5_1 : Int).toNat) t364 true) else (if t364 > 600 then (impl_scanFrames.j1 k1 l0 x4_1 x5_1 (l0.drop (x5_1 : Int).toNat) t364 true) else (impl_scanFrames.j1 k1 l0 x4_1 x5_1 (l0.drop (x5_1 : Int).toNat) t364 (decide (((l0.drop (x5_1 : Int).toNat).length : Int) < (wrap64 (8 + (wrap64 (t364))))))))) = some (r1, r2) := H
     have A8 := Zh A80
     clear A80
     have HC9 := Zh H
     clear H
     obtain ⟨i010, hi010, _, hsz10, _⟩ := info_parts info5
     obtain ⟨A10, hcut10, hA10, hC10⟩ := print_drop_of (P := Tryd.prog) (Value.int .u8) 0 41 5 .i64 Tryd.underlying41 hi010 hsz10 A0 c0 l0 x5_1 (Zo) (Zo) HC0.out
     have HR363 := Zh (C_of_reads (h1 := fun _ => rfl) (hA10 _ (Kd.reads_of_C HR0.out)))
     have HC363 := Zh hC10
     clear hA10 hC10 hi010 hsz10
     go_upto_region 7 with (first | ((with_reducible refine gate_callee (f := 105) rfl ?_); refine goesL_ (some 20) rfl rfl Tryd.func105 (by kernel_rfl) rfl #[.agg #[], .slice A10 (l0.drop (x5_1 : Int).toNat).length (c0 - x5_1.toNat)] rfl (by (try simp only [List.map_toArray, List.map_cons, List.map_nil]); first | done | (rw [show (l0.drop (x5_1 : Int).toNat).length = (l0.length - x5_1.toNat) from List.length_drop] <;> rfl) | rfl | (simp only [List.length_drop, List.length_take]; rfl)) ?_; (with_reducible refine (binary_littleEndian_Uint32.calls  _ _ (l0.drop (x5_1 : Int).toNat) t364 _ ?side1 ?side2 A8.out).mono ?_); (case side1 => repeat (first | exact (C_below HR363.out HB.out) | (with_reducible refine C_alloc ?_ _) | (with_reducible refine C_drewN ?_ _) | (with_reducible refine C_drew ?_))); (case side2 => exact HC363.out); rintro e w11 ⟨rfl, hb⟩; refine ⟨_, rfl, ?_⟩; replace HO_4 := Zh (S_below (ZS HO_4.out) hb); replace HB := Zh (Zl Zs hb); (try clear hb); (try clear hb2); (try clear hk); (try clear hi)))
     (try simp only [Act.put, List.setIfInBounds_toArray, List.set_cons_zero, List.set_cons_succ])
     go_cut [34] (fun v34 wc => ∃ (kq : Nat) (x34_8 : Bool), v34 = .bool x34_8 ∧ Aside0 (impl_scanFrames.j1 kq l0 x4_1 x5_1 (l0.drop (x5_1 : Int).toNat) t364 x34_8 = some (r1, r2)) ∧ Aside0 (kq ≤ k1) ∧ Aside0 (Kd.S (Kd.slice 5 (Kd.int .u8)) 41 wc w.heap.size (fun _ => True) u4 x4_1) ∧ Aside0 (Below w.heap.size w wc))
     case first =>
      have H := HC9.out
      clear HC9
      by_cases c12 : t364 < 1
      ·
       rw [if_pos c12] at H
       have c12b0 : decide (t364 < 1) = true := decide_eq_true c12
       clear c12
       (first | rw [c12b0] | (simp only [i64_w, i32_w]; rw [c12b0]) | skip)
       have H' := Zh H
       clear H
       go_wp2
       go_meet
       case rel => exact ⟨_, (true), (by first | rfl | (simp; done) | (simp [*]; done)), H', ⟨by have := HK1.out; first | omega | exact Nat.le_refl _⟩, ⟨ZS HO_4.out⟩, ⟨Zs⟩⟩
      rw [if_neg c12] at H
      have c12b0 : decide (t364 < 1) = false := decide_eq_false c12
      clear c12
      (first | rw [c12b0] | (simp only [i64_w, i32_w]; rw [c12b0]) | skip)
      by_cases c13 : t364 > 600
      ·
       rw [if_pos c13] at H
       have c13b0 : decide (600 < t364) = true := decide_eq_true c13
       clear c13
       have H' := Zh H
       clear H
       go_wp2
       go_meet
       case rel => exact ⟨_, (true), (by first | rfl | (simp; done) | (simp [*]; done)), H', ⟨by have := HK1.out; first | omega | exact Nat.le_refl _⟩, ⟨ZS HO_4.out⟩, ⟨Zs⟩⟩
      rw [if_neg c13] at H
      have c13b0 : decide (600 < t364) = false := decide_eq_false c13
      clear c13
      have H' := Zh H
      clear H
      go_wp2
      go_meet
      case rel => exact ⟨_, (decide (((l0.drop (x5_1 : Int).toNat).length : Int) < (wrap64 (8 + (wrap64 (t364)))))), (by first | rfl | (simp; done) | (simp [*]; done)), H', ⟨by have := HK1.out; first | omega | exact Nat.le_refl _⟩, ⟨ZS HO_4.out⟩, ⟨Zs⟩⟩
     case rest =>
      clear HC9
      try clear c1
      try clear p2
      try clear c4
      try clear c4b0
      try clear c4b1
      try clear c5
      try clear c5b0
      try clear c5b1
      try clear c6
      try clear c6b0
      try clear c6b1
      try clear p6
      try clear c8
      try clear c10
      try clear c12
      try clear c12b0
      try clear c13
      try clear c13b0
      try clear p2
      obtain ⟨kq, x34_8, rfl, HA, HJ8, HO_4, HB⟩ := hcut
      cases kq with
      | zero => exact absurd HA.out (by simp [impl_scanFrames.j1])
      | succ kj8 =>
       have H := HA.out
       clear HA
       simp only [impl_scanFrames.j1] at H
       by_cases c14 : x34_8 = true
       ·
        subst c14
        have H1 : (some (x4_1, x5_1)) = some (r1, r2) := by rw [if_pos rfl] at H; exact H
        clear H
        have H := H1
        clear H1
        simp only [Option.some.injEq, Prod.mk.injEq] at H
        obtain ⟨rfl, rfl⟩ := H
        go_wp2
        go_ret2
        exact ⟨_, ZE, ZS HO_4.out, Zs⟩
       replace c14 := Bool.eq_false_iff.mpr c14
       subst c14
       have H1 : (if 8 ≤ ((8 + t364) % 4294967296) then (if ((8 + t364) % 4294967296) ≤ ((l0.drop (x5_1 : Int).toNat).length : Int) then (if 4 ≤ ((l0.drop (x5_1 : Int).toNat).length : Int) then ((binary_littleEndian_Uint32.f ((l0.drop (x5_1 : Int).toNat).drop 4)).bind fun t367 => ((impl_crc32.f kj8 (((l0.drop (x5_1 : Int).toNat).take (((8 + t364) % 4294967296) : Int).toNat).drop 8)).bind fun t368 => (if t367 = t368 then ((some (([] : List Int) : List Int)).bind fun y369 => (if y369.length + (((l0.drop (x5_1 : Int).toNat).take (((8 + t364) % 4294967296) : Int).toNat).drop 8).length < 140737488355328 then (if x4_1.length < 5864062014805 then (impl_scanFrames.l0 kj8 l0 (x4_1 ++ [(y369 ++ (((l0.drop (x5_1 : Int).toNat).take (((8 + t364) % 4294967296) : Int).toNat).drop 8))]) (wrap64 (x5_1 + (wrap64 (8 + (wrap64 (t364))))))) else (none)) else (none))) else (some (x4_1, x5_1))))) else (none)) else (none)) else (none)) = some (r1, r2) := by rw [if_neg (show ¬ (false = true) by decide)] at H; exact H
       clear H
       have H := H1
       clear H1
       by_cases c15 : 8 ≤ ((8 + t364) % 4294967296)
       ·
        rw [if_pos c15] at H
        have c15b0 := eq_true c15
        have c15b1 : decide (8 ≤ ((8 + t364) % 4294967296)) = true := decide_eq_true c15
        by_cases c16 : ((8 + t364) % 4294967296) ≤ ((l0.drop (x5_1 : Int).toNat).length : Int)
        ·
         rw [if_pos c16] at H
         have c16b0 := eq_true c16
         have c16b0x := eq_true (show ((8 + t364) % 4294967296) ≤ ((l0.length - x5_1.toNat : Nat) : Int) from by have h_ := c16; rw [List.length_drop] at h_; exact h_)
         have c16b1 : decide (((8 + t364) % 4294967296) ≤ ((l0.drop (x5_1 : Int).toNat).length : Int)) = true := decide_eq_true c16
         have c16b1x : decide (((8 + t364) % 4294967296) ≤ ((l0.length - x5_1.toNat : Nat) : Int)) = true := by have h_ := c16b1; rw [List.length_drop] at h_; exact h_
         by_cases c17 : 4 ≤ ((l0.drop (x5_1 : Int).toNat).length : Int)
         ·
          rw [if_pos c17] at H
          have c17b0 := eq_true c17
          have c17b0x := eq_true (show 4 ≤ ((l0.length - x5_1.toNat : Nat) : Int) from by have h_ := c17; rw [List.length_drop] at h_; exact h_)
          have c17b1 : decide (4 ≤ ((l0.drop (x5_1 : Int).toNat).length : Int)) = true := decide_eq_true c17
          have c17b1x : decide (4 ≤ ((l0.length - x5_1.toNat : Nat) : Int)) = true := by have h_ := c17b1; rw [List.length_drop] at h_; exact h_
          clear c17
          replace H := Option.bind_eq_some_iff.mp H
          obtain ⟨t367, A180, H⟩ := H
          replace H : ((impl_crc32.f kj8 (((l0.drop (x5_1 : Int).toNat).take (((8 + t364) % 4294967296) : Int).toNat).drop 8)).bind fun t368 => (if t367 = t368 then ((some (([] : List Int) : List Int)).bind fun y369 => (if y369.length + (((l0.drop (x5_1 : Int).toNat).take (((8 + t364) % 4294967296) : Int).toNat).drop 8).length < 140737488355328 then (if x4_1.length < 5864062014805 then (impl_scanFrames.l0 kj8 l0 (x4_1 ++ [(y369 ++ (((l0.drop (x5_1 : Int).toNat).take (((8 + t364) % 4294967296) : Int).toNat).drop 8))]) (wrap64 (x5_1 + (wrap64 (8 + (wrap64 (t364))))))) else (none)) else (none))) else (some (x4_1, x5_1)))) = some (r1, r2) := H
          have A18 := Zh A180
          clear A180
          replace H := Option.bind_eq_some_iff.mp H
          obtain ⟨t368, A190, H⟩ := H
          replace H : (if t367 = t368 then ((some (([] : List Int) : List Int)).bind fun y369 => (if y369.length + (((l0.drop (x5_1 : Int).toNat).take (((8 + t364) % 4294967296) : Int).toNat).drop 8).length < 140737488355328 then (if x4_1.length < 5864062014805 then (impl_scanFrames.l0 kj8 l0 (x4_1 ++ [(y369 ++ (((l0.drop (x5_1 : Int).toNat).take (((8 + t364) % 4294967296) : Int).toNat).drop 8))]) (wrap64 (x5_1 + (wrap64 (8 + (wrap64 (t364))))))) else (none)) else (none))) else (some (x4_1, x5_1))) = some (r1, r2) := H
          have A19 := Zh A190
          clear A190
          by_cases c20 : t367 = t368
          ·
           rw [if_pos c20] at H
           have c20b0 : (t367 == t368) = true := beq_iff_eq.mpr c20
           have c20b1 : (t367 != t368) = false := bne_eq_false_iff_eq.mpr c20
           clear c20
           obtain ⟨y369, hy369⟩ : ∃ y_ : List Int, y_ = (([] : List Int)) := ⟨_, rfl⟩
           replace H : (if y369.length + (((l0.drop (x5_1 : Int).toNat).take (((8 + t364) % 4294967296) : Int).toNat).drop 8).length < 140737488355328 then (if x4_1.length < 5864062014805 then (impl_scanFrames.l0 kj8 l0 (x4_1 ++ [(y369 ++ (((l0.drop (x5_1 : Int).toNat).take (((8 + t364) % 4294967296) : Int).toNat).drop 8))]) (wrap64 (x5_1 + (wrap64 (8 + (wrap64 (t364))))))) else (none)) else (none)) = some (r1, r2) := by first | (rw [hy369]; with_reducible exact H) | (have H2_ := (Option.bind_some _ _).symm.trans H; rw [hy369]; with_reducible exact H2_) | (have H2_ := (Option.bind_some _ _).symm.trans H; with_reducible exact H2_) | with_reducible exact H | (rw [hy369]; exact H) | exact H
           have Ny369 := Zh hy369
           clear hy369
           by_cases c21 : y369.length + (((l0.drop (x5_1 : Int).toNat).take (((8 + t364) % 4294967296) : Int).toNat).drop 8).length < 140737488355328
           ·
            rw [if_pos c21] at H
            have LMc21 := Zh c21
            clear c21
            obtain ⟨y372, hy372⟩ : ∃ y_ : List Int, y_ = (y369 ++ (((l0.drop (x5_1 : Int).toNat).take (((8 + t364) % 4294967296) : Int).toNat).drop 8)) := ⟨_, rfl⟩
            replace H : (if x4_1.length < 5864062014805 then (impl_scanFrames.l0 kj8 l0 (x4_1 ++ [y372]) (wrap64 (x5_1 + (wrap64 (8 + (wrap64 (t364))))))) else (none)) = some (r1, r2) := by first | (rw [hy372]; with_reducible exact H) | (have H2_ := (Option.bind_some _ _).symm.trans H; rw [hy372]; with_reducible exact H2_) | (have H2_ := (Option.bind_some _ _).symm.trans H; with_reducible exact H2_) | with_reducible exact H | (rw [hy372]; exact H) | exact H
            have Ny372 := Zh hy372
            clear hy372
            by_cases c22 : x4_1.length < 5864062014805
            ·
             rw [if_pos c22] at H
             have LMc22 := Zh c22
             clear c22
             obtain ⟨y375, hy375⟩ : ∃ y_ : List (List Int), y_ = (x4_1 ++ [y372]) := ⟨_, rfl⟩
             replace H : (impl_scanFrames.l0 kj8 l0 y375 (wrap64 (x5_1 + (wrap64 (8 + (wrap64 (t364))))))) = some (r1, r2) := by first | (rw [hy375]; with_reducible exact H) | (have H2_ := (Option.bind_some _ _).symm.trans H; rw [hy375]; with_reducible exact H2_) | (have H2_ := (Option.bind_some _ _).symm.trans H; with_reducible exact H2_) | with_reducible exact H | (rw [hy375]; exact H) | exact H
             have Ny375 := Zh hy375
             clear hy375
             have H' := Zh H
             clear H
             obtain ⟨i023, hi023, _, hsz23, _⟩ := info_parts info5
             obtain ⟨A23, hcut23, hA23, hC23⟩ := print_mid_of (P := Tryd.prog) (Value.int .u8) 0 41 5 .i64 .u32 Tryd.underlying41 hi023 hsz23 A10 (c0 - x5_1.toNat) (l0.drop (x5_1 : Int).toNat) 8 ((8 + t364) % 4294967296) (by omega) (by first | omega | exact Zo) (Zo) HC363.out
             have HR365 := Zh (C_of_reads (h1 := fun _ => rfl) (hA23 _ (Kd.reads_of_C HR363.out)))
             have HC365 := Zh hC23
             clear hA23 hC23 hi023 hsz23
             try simp only [List.length_drop] at hcut23
             try go_wp2
             replace HO_4 := Zh (S_drew HO_4.out)
             replace HB := Zh (Ze HB.out)
             obtain ⟨i025, hi025, _, hsz25, _⟩ := info_parts info5
             obtain ⟨A25, hcut25, hA25, hC25⟩ := print_drop_of (P := Tryd.prog) (Value.int .u8) 0 41 5 .i64 Tryd.underlying41 hi025 hsz25 A10 (c0 - x5_1.toNat) (l0.drop (x5_1 : Int).toNat) 4 (by omega) (Zo) HC363.out
             have HR366 := Zh (C_of_reads (h1 := fun _ => rfl) (hA25 _ (Kd.reads_of_C HR363.out)))
             have HC366 := Zh hC25
             clear hA25 hC25 hi025 hsz25
             try simp only [List.length_drop] at hcut25
             refine start_ (n := 7) (S := fun w' => True) (ds := []) #[false, false, false, false, false, false, false] (by kernel_rfl) rfl rfl trivial (fun hHeld => ?_)
             generalize wc.drew = w24 at HO_4 HB HR366 hHeld ⊢
             refine pure_ (i := 1) (N := some 42) (v := ?_) (a' := ?_) #[false, true, false, false, false, false, false] rfl rfl (by kernel_rfl) (fun _ _ _ h => h) (Or.inl ⟨by rfl, ?_⟩) ?_ ?_
             rotate_left
             ·
              intro w'
              go_simp
              with_reducible rfl
             rotate_left
             ·
              simp only [Act.put, List.setIfInBounds_toArray, List.set_cons_zero, List.set_cons_succ, i64_w, i32_w]
              rfl
             refine pure_ (i := 2) (N := some 43) (v := ?_) (a' := ?_) #[false, true, true, false, false, false, false] rfl rfl (by kernel_rfl) (fun _ _ _ h => h) (Or.inl ⟨by rfl, ?_⟩) ?_ ?_
             rotate_left
             ·
              intro w'
              go_simp
              with_reducible rfl
             rotate_left
             ·
              simp only [Act.put, List.setIfInBounds_toArray, List.set_cons_zero, List.set_cons_succ, i64_w, i32_w]
              rfl
             refine pure_ (i := 4) (N := some 45) (v := ?_) (a' := ?_) #[false, true, true, false, true, false, false] rfl rfl (by kernel_rfl) (fun _ _ _ h => h) (Or.inl ⟨by rfl, ?_⟩) ?_ ?_
             rotate_left
             ·
              intro w'
              go_simp
              with_reducible rfl
             rotate_left
             ·
              simp only [Act.put, List.setIfInBounds_toArray, List.set_cons_zero, List.set_cons_succ, i64_w, i32_w]
              rfl
             refine take_ (i := 0) (N := some 41) (v := ?_) (a' := ?_) #[true, true, true, false, true, false, false] rfl rfl (by kernel_rfl) (fun _ _ _ h => h) (Or.inl ⟨by rfl, ?_⟩) hHeld ?_ ?_
             rotate_left
             ·
              intro w' _
              go_simp
              with_reducible rfl
             rotate_left
             ·
              simp only [Act.put, List.setIfInBounds_toArray, List.set_cons_zero, List.set_cons_succ, i64_w, i32_w]
              rfl
             refine one_ (i := 3) (N := some 44) #[true, true, true, true, true, false, false] rfl rfl (by kernel_rfl) (by decide) (fun K hK => ?_)
             refine goes_ Tryd.func105 (by kernel_rfl) rfl #[.agg #[], .slice A25 ((l0.drop (x5_1 : Int).toNat).drop 4).length ((c0 - x5_1.toNat) - 4)] (by rfl) rfl rfl (by (try simp only [List.map_toArray, List.map_cons, List.map_nil]); first | done | (rw [show ((l0.drop (x5_1 : Int).toNat).drop 4).length = ((l0.drop (x5_1 : Int).toNat).length - 4) from List.length_drop] <;> rfl) | rfl | (simp only [List.length_drop, List.length_take]; rfl)) ?_
             with_reducible refine (binary_littleEndian_Uint32.calls  _ _ ((l0.drop (x5_1 : Int).toNat).drop 4) t367 _ ?side1 ?side2 A18.out).mono ?_
             (case side1 => repeat (first | exact (C_below HR366.out HB.out) | (with_reducible refine C_alloc ?_ _) | (with_reducible refine C_drewN ?_ _) | (with_reducible refine C_drew ?_)))
             (case side2 => exact HC366.out)
             rintro e w26 ⟨rfl, hb⟩
             refine ⟨_, rfl, ?_⟩
             replace HO_4 := Zh (S_below (ZS HO_4.out) hb)
             replace HB := Zh (Zl Zs hb)
             (try clear hb)
             (try clear hb2)
             (try clear hk)
             (try clear hi)
             refine hK.out _ _ trivial (fun hHeld => ?_)
             clear hK K
             refine norm_ (a' := ?_) ?_ ?_
             rotate_left
             ·
              show Act.put _ (some 44) _ = _
              simp only [Act.put, List.setIfInBounds_toArray, List.set_cons_zero, List.set_cons_succ, i64_w, i32_w]
              rfl
             refine one_ (i := 5) (N := some 46) #[true, true, true, true, true, true, false] rfl rfl (by kernel_rfl) (by decide) (fun K hK => ?_)
             refine goes_ Tryd.func92 (by kernel_rfl) rfl #[.slice A23 (((l0.drop (x5_1 : Int).toNat).take (((8 + t364) % 4294967296) : Int).toNat).drop 8).length ((c0 - x5_1.toNat) - 8)] (by rfl) rfl rfl (by (try simp only [List.map_toArray, List.map_cons, List.map_nil]); first | done | (rw [show (((l0.drop (x5_1 : Int).toNat).take (((8 + t364) % 4294967296) : Int).toNat).drop 8).length = (((8 + t364) % 4294967296).toNat - 8) from (by rw [List.length_drop, List.length_take]; have h_ : (((8 + t364) % 4294967296) : Int) ≤ ((l0.drop (x5_1 : Int).toNat).length : Int) := Zo; omega)] <;> rfl) | rfl | (simp only [List.length_drop, List.length_take]; rfl)) ?_
             with_reducible refine (impl_crc32.calls kj8 _ _ (((l0.drop (x5_1 : Int).toNat).take (((8 + t364) % 4294967296) : Int).toNat).drop 8) t368 _ ?side1 ?side2 A19.out).mono ?_
             (case side1 => repeat (first | exact (C_below HR365.out HB.out) | (with_reducible refine C_alloc ?_ _) | (with_reducible refine C_drewN ?_ _) | (with_reducible refine C_drew ?_)))
             (case side2 => exact HC365.out)
             rintro e w' ⟨rfl, ⟨nd, rfl⟩⟩
             refine ⟨_, rfl, ?_⟩
             refine hK.out _ _ trivial (fun hHeld => ?_)
             clear hK K
             refine norm_ (a' := ?_) ?_ ?_
             rotate_left
             ·
              show Act.put _ (some 46) _ = _
              simp only [Act.put, List.setIfInBounds_toArray, List.set_cons_zero, List.set_cons_succ, i64_w, i32_w]
              rfl
             refine pure_ (i := 6) (N := some 47) (v := ?_) (a' := ?_) #[true, true, true, true, true, true, true] rfl rfl (by kernel_rfl) (fun _ _ _ h => h) (Or.inl ⟨by rfl, ?_⟩) ?_ ?_
             rotate_left
             ·
              intro w'
              go_simp
              with_reducible rfl
             rotate_left
             ·
              simp only [Act.put, List.setIfInBounds_toArray, List.set_cons_zero, List.set_cons_succ, i64_w, i32_w]
              rfl
             refine done_ (by kernel_rfl) ?_
             try go_wp2_with (first | ((with_reducible refine gate_dst (N := 51) rfl ?_); (try (refine gate_guard (by rfl) ?_; dsimp only)); refine R_lit (Kd.int .u8) _ 5 ?hg (N := 51) ?hd (xs := ([] : List Int)) (inner := []) (ok := fun _ => True) (okp := fun _ => True) ?hr ?hp (fun _ hk => hk) trivial (Below.refl _ _) (Nat.le_refl _) (by simp) ?_; (case hd => rfl); (case hg => rfl); (case hr => first | (go_simp; done) | (go_simp; rfl)); (case hp => exact (Reps.none _ _)); intro v370 w27 ho28 hb hg_ hnew_; clear hg_ hnew_; (first | rw [← Ny369.out] at ho28 | (simp only [Int.reduceToNat] at ho28; rw [← Ny369.out] at ho28)); replace HO_4 := Zh (S_elder' (ZS HO_4.out) (R_base ho28) hb); have HO371 := Zh (R_lower ho28 (below_size Zs)); replace HB := Zh (Zl Zs hb); clear hb ho28) | ((with_reducible refine gate_builtin (b := .append) (xs := #[.tmp 51, .tmp 52]) rfl ?_); (try (refine gate_guard (by rfl) ?_; dsimp only)); at_builtin; refine R_append_rows (Kd.int .u8) (w0 := w) w.heap.size rfl (.tmp 51) (.tmp 52) 41 5 (.int .u8 0) 1 rfl Tryd.underlying41 info5 rfl (by decide) (by omega) v370 y369 (((l0.drop (x5_1 : Int).toNat).take (((8 + t364) % 4294967296) : Int).toNat).drop 8) _ _ _ (fun _ => True) (fun _ => False) rfl rfl ?aO ?aR (fun _ _ h => h) (fun _ h => h.elim) ?aF ?aB ?aS ?aL ?_; (case aR => first | ((conv => arg 5; rw [← show (((l0.drop (x5_1 : Int).toNat).take (((8 + t364) % 4294967296) : Int).toNat).drop 8).length = (((8 + t364) % 4294967296).toNat - 8) from (by rw [List.length_drop, List.length_take]; have h_ : (((8 + t364) % 4294967296) : Int) ≤ ((l0.drop (x5_1 : Int).toNat).length : Int) := Zo; omega)]); (repeat (first | exact (C_below HR365.out HB.out) | (with_reducible refine C_alloc ?_ _) | (with_reducible refine C_drewN ?_ _) | (with_reducible refine C_drew ?_)))) | (rw [← show (((l0.drop (x5_1 : Int).toNat).take (((8 + t364) % 4294967296) : Int).toNat).drop 8).length = (((8 + t364) % 4294967296).toNat - 8) from (by rw [List.length_drop, List.length_take]; have h_ : (((8 + t364) % 4294967296) : Int) ≤ ((l0.drop (x5_1 : Int).toNat).length : Int) := Zo; omega)]; repeat (first | exact (C_below HR365.out HB.out) | (with_reducible refine C_alloc ?_ _) | (with_reducible refine C_drewN ?_ _) | (with_reducible refine C_drew ?_))) | (repeat (first | exact (C_below HR365.out HB.out) | (with_reducible refine C_alloc ?_ _) | (with_reducible refine C_drewN ?_ _) | (with_reducible refine C_drew ?_)))); (case aB => exact Zs); (case aF => exact (fun _ _ => trivial)); (case aO => exact (ZR HO371.out)); (case aS => exact (below_size Zs)); (case aL => have := LMc21.out; have hlx_ := (show (((l0.drop (x5_1 : Int).toNat).take (((8 + t364) % 4294967296) : Int).toNat).drop 8).length = (((8 + t364) % 4294967296).toNat - 8) from (by rw [List.length_drop, List.length_take]; have h_ : (((8 + t364) % 4294967296) : Int) ≤ ((l0.drop (x5_1 : Int).toNat).length : Int) := Zo; omega)); omega); intro v373 w29 ho hb hg hat; rw [← Ny372.out] at ho; have n0_ := Zh (S_after (ok := (fun _ => True)) (ZS HO_4.out) hg hat); have n1_ := Zh (hb); have n2_ := Zh (ho); clear HO_4; clear HB; clear HO371; have HO_4 := n0_; have HB := n1_; have HO374 := n2_; clear n0_ n1_ n2_; clear ho hb hg hat; obtain ⟨Ao31, co31, eo31⟩ := R_slice HO374.out; subst eo31) | ((with_reducible refine gate_builtin (b := .append) (xs := #[.tmp 50, .tmp 54]) rfl ?_); (try (refine gate_guard (by rfl) ?_; dsimp only)); at_builtin; refine S_append (Kd.slice 5 (Kd.int .u8)) (w0 := w) w.heap.size rfl (.tmp 50) (.tmp 54) 36 41 (.slice none 0 0) 24 rfl Tryd.underlying36 info41 rfl (by decide) (by omega) u4 x4_1 y372 [.slice Ao31 y372.length co31] (fun _ => True) (fun k_ => some k_ = (.slice Ao31 y372.length co31 : Value).ownBlock) rfl rfl ?aP (fun k_ hk_ => ((R_mono (ok' := fun k_ => ((fun _ => True)) k_ ∧ some k_ ≠ (u4 : Value).ownBlock) (R_apart' (HO374.out) (S_typed HO_4.out) (by decide)) (fun k_ hk => ⟨trivial, hk.2⟩))).1 k_ hk_.symm) ?aF ?aO ?aB ?aS ?aL ?_; (case aP => exact M_row (R_mono (R_tight rfl (R_mono (ok' := fun k_ => ((fun _ => True)) k_ ∧ some k_ ≠ (u4 : Value).ownBlock) (R_apart' (HO374.out) (S_typed HO_4.out) (by decide)) (fun k_ hk => ⟨trivial, hk.2⟩))) (fun _ h_ => h_))); (case aB => exact Zs); (case aF => exact (fun _ _ => trivial)); (case aO => exact (ZS (S_mono HO_4.out (fun k_ hk => ⟨trivial, fun e_ => hk.2 e_⟩)))); (case aS => exact (below_size Zs)); (case aL => have := LMc22.out; omega); intro v376 w30 ho hb hg hat; rw [← Ny375.out] at ho; have n0_ := Zh (hb); have n1_ := Zh (ho); clear HB; clear HO_4; clear HO374; have HB := n0_; have HO377 := n1_; clear n0_ n1_; clear ho hb hg hat))
             go_roundg kj8
             case measure => have := HK1.out; have := HJ8.out; omega
             case rel => exact ⟨(y375), (wrap64 (x5_1 + (wrap64 (8 + (wrap64 (t364)))))), (by first | rfl | (simp; done) | (simp [*]; done)), H', ⟨by have := HK1.out; have := HJ8.out; omega⟩, ⟨ZS HO377.out⟩, ⟨Zs⟩⟩
            rw [if_neg c22] at H
            exact absurd H (by simp)
           rw [if_neg c21] at H
           exact absurd H (by simp)
          rw [if_neg c20] at H
          have c20b0 : (t367 == t368) = false := beq_eq_false_iff_ne.mpr c20
          have c20b1 : (t367 != t368) = true := bne_iff_ne.mpr c20
          simp only [Option.some.injEq, Prod.mk.injEq] at H
          obtain ⟨rfl, rfl⟩ := H
          obtain ⟨i032, hi032, _, hsz32, _⟩ := info_parts info5
          obtain ⟨A32, hcut32, hA32, hC32⟩ := print_mid_of (P := Tryd.prog) (Value.int .u8) 0 41 5 .i64 .u32 Tryd.underlying41 hi032 hsz32 A10 (c0 - x5_1.toNat) (l0.drop (x5_1 : Int).toNat) 8 ((8 + t364) % 4294967296) (by omega) (by first | omega | exact Zo) (Zo) HC363.out
          have HR365 := Zh (C_of_reads (h1 := fun _ => rfl) (hA32 _ (Kd.reads_of_C HR363.out)))
          have HC365 := Zh hC32
          clear hA32 hC32 hi032 hsz32
          try simp only [List.length_drop] at hcut32
          try go_wp2
          replace HO_4 := Zh (S_drew HO_4.out)
          replace HB := Zh (Ze HB.out)
          obtain ⟨i034, hi034, _, hsz34, _⟩ := info_parts info5
          obtain ⟨A34, hcut34, hA34, hC34⟩ := print_drop_of (P := Tryd.prog) (Value.int .u8) 0 41 5 .i64 Tryd.underlying41 hi034 hsz34 A10 (c0 - x5_1.toNat) (l0.drop (x5_1 : Int).toNat) 4 (by omega) (Zo) HC363.out
          have HR366 := Zh (C_of_reads (h1 := fun _ => rfl) (hA34 _ (Kd.reads_of_C HR363.out)))
          have HC366 := Zh hC34
          clear hA34 hC34 hi034 hsz34
          try simp only [List.length_drop] at hcut34
          refine start_ (n := 7) (S := fun w' => True) (ds := []) #[false, false, false, false, false, false, false] (by kernel_rfl) rfl rfl trivial (fun hHeld => ?_)
          generalize wc.drew = w33 at HO_4 HB HR366 hHeld ⊢
          refine pure_ (i := 1) (N := some 42) (v := ?_) (a' := ?_) #[false, true, false, false, false, false, false] rfl rfl (by kernel_rfl) (fun _ _ _ h => h) (Or.inl ⟨by rfl, ?_⟩) ?_ ?_
          rotate_left
          ·
           intro w'
           go_simp
           with_reducible rfl
          rotate_left
          ·
           simp only [Act.put, List.setIfInBounds_toArray, List.set_cons_zero, List.set_cons_succ, i64_w, i32_w]
           rfl
          refine pure_ (i := 2) (N := some 43) (v := ?_) (a' := ?_) #[false, true, true, false, false, false, false] rfl rfl (by kernel_rfl) (fun _ _ _ h => h) (Or.inl ⟨by rfl, ?_⟩) ?_ ?_
          rotate_left
          ·
           intro w'
           go_simp
           with_reducible rfl
          rotate_left
          ·
           simp only [Act.put, List.setIfInBounds_toArray, List.set_cons_zero, List.set_cons_succ, i64_w, i32_w]
           rfl
          refine pure_ (i := 4) (N := some 45) (v := ?_) (a' := ?_) #[false, true, true, false, true, false, false] rfl rfl (by kernel_rfl) (fun _ _ _ h => h) (Or.inl ⟨by rfl, ?_⟩) ?_ ?_
          rotate_left
          ·
           intro w'
           go_simp
           with_reducible rfl
          rotate_left
          ·
           simp only [Act.put, List.setIfInBounds_toArray, List.set_cons_zero, List.set_cons_succ, i64_w, i32_w]
           rfl
          refine take_ (i := 0) (N := some 41) (v := ?_) (a' := ?_) #[true, true, true, false, true, false, false] rfl rfl (by kernel_rfl) (fun _ _ _ h => h) (Or.inl ⟨by rfl, ?_⟩) hHeld ?_ ?_
          rotate_left
          ·
           intro w' _
           go_simp
           with_reducible rfl
          rotate_left
          ·
           simp only [Act.put, List.setIfInBounds_toArray, List.set_cons_zero, List.set_cons_succ, i64_w, i32_w]
           rfl
          refine one_ (i := 3) (N := some 44) #[true, true, true, true, true, false, false] rfl rfl (by kernel_rfl) (by decide) (fun K hK => ?_)
          refine goes_ Tryd.func105 (by kernel_rfl) rfl #[.agg #[], .slice A34 ((l0.drop (x5_1 : Int).toNat).drop 4).length ((c0 - x5_1.toNat) - 4)] (by rfl) rfl rfl (by (try simp only [List.map_toArray, List.map_cons, List.map_nil]); first | done | (rw [show ((l0.drop (x5_1 : Int).toNat).drop 4).length = ((l0.drop (x5_1 : Int).toNat).length - 4) from List.length_drop] <;> rfl) | rfl | (simp only [List.length_drop, List.length_take]; rfl)) ?_
          with_reducible refine (binary_littleEndian_Uint32.calls  _ _ ((l0.drop (x5_1 : Int).toNat).drop 4) t367 _ ?side1 ?side2 A18.out).mono ?_
          (case side1 => repeat (first | exact (C_below HR366.out HB.out) | (with_reducible refine C_alloc ?_ _) | (with_reducible refine C_drewN ?_ _) | (with_reducible refine C_drew ?_)))
          (case side2 => exact HC366.out)
          rintro e w35 ⟨rfl, hb⟩
          refine ⟨_, rfl, ?_⟩
          replace HO_4 := Zh (S_below (ZS HO_4.out) hb)
          replace HB := Zh (Zl Zs hb)
          (try clear hb)
          (try clear hb2)
          (try clear hk)
          (try clear hi)
          refine hK.out _ _ trivial (fun hHeld => ?_)
          clear hK K
          refine norm_ (a' := ?_) ?_ ?_
          rotate_left
          ·
           show Act.put _ (some 44) _ = _
           simp only [Act.put, List.setIfInBounds_toArray, List.set_cons_zero, List.set_cons_succ, i64_w, i32_w]
           rfl
          refine one_ (i := 5) (N := some 46) #[true, true, true, true, true, true, false] rfl rfl (by kernel_rfl) (by decide) (fun K hK => ?_)
          refine goes_ Tryd.func92 (by kernel_rfl) rfl #[.slice A32 (((l0.drop (x5_1 : Int).toNat).take (((8 + t364) % 4294967296) : Int).toNat).drop 8).length ((c0 - x5_1.toNat) - 8)] (by rfl) rfl rfl (by (try simp only [List.map_toArray, List.map_cons, List.map_nil]); first | done | (rw [show (((l0.drop (x5_1 : Int).toNat).take (((8 + t364) % 4294967296) : Int).toNat).drop 8).length = (((8 + t364) % 4294967296).toNat - 8) from (by rw [List.length_drop, List.length_take]; have h_ : (((8 + t364) % 4294967296) : Int) ≤ ((l0.drop (x5_1 : Int).toNat).length : Int) := Zo; omega)] <;> rfl) | rfl | (simp only [List.length_drop, List.length_take]; rfl)) ?_
          with_reducible refine (impl_crc32.calls kj8 _ _ (((l0.drop (x5_1 : Int).toNat).take (((8 + t364) % 4294967296) : Int).toNat).drop 8) t368 _ ?side1 ?side2 A19.out).mono ?_
          (case side1 => repeat (first | exact (C_below HR365.out HB.out) | (with_reducible refine C_alloc ?_ _) | (with_reducible refine C_drewN ?_ _) | (with_reducible refine C_drew ?_)))
          (case side2 => exact HC365.out)
          rintro e w' ⟨rfl, ⟨nd, rfl⟩⟩
          refine ⟨_, rfl, ?_⟩
          refine hK.out _ _ trivial (fun hHeld => ?_)
          clear hK K
          refine norm_ (a' := ?_) ?_ ?_
          rotate_left
          ·
           show Act.put _ (some 46) _ = _
           simp only [Act.put, List.setIfInBounds_toArray, List.set_cons_zero, List.set_cons_succ, i64_w, i32_w]
           rfl
          refine pure_ (i := 6) (N := some 47) (v := ?_) (a' := ?_) #[true, true, true, true, true, true, true] rfl rfl (by kernel_rfl) (fun _ _ _ h => h) (Or.inl ⟨by rfl, ?_⟩) ?_ ?_
          rotate_left
          ·
           intro w'
           go_simp
           with_reducible rfl
          rotate_left
          ·
           simp only [Act.put, List.setIfInBounds_toArray, List.set_cons_zero, List.set_cons_succ, i64_w, i32_w]
           rfl
          refine done_ (by kernel_rfl) ?_
          try go_wp2
          go_ret2
          exact ⟨_, ZE, ZS HO_4.out, Zs⟩
         rw [if_neg c17] at H
         exact absurd H (by simp)
        rw [if_neg c16] at H
        exact absurd H (by simp)
       rw [if_neg c15] at H
       exact absurd H (by simp)
    rw [if_neg c5] at H
    exact absurd H (by simp)
   rw [if_neg c4] at H
   exact absurd H (by simp)
def bytes_Equal.f (l0 : List Int) (l1 : List Int) : Option (Bool) := some ((strOfNums l0).toList == (strOfNums l1).toList)
set_option maxHeartbeats 8000000 in
set_option maxRecDepth 100000 in
theorem bytes_Equal.calls (A0 : Option Addr) (c0 : Nat) (l0 : List Int) (A1 : Option Addr) (c1 : Nat) (l1 : List Int) (r : Bool) (w : World) (hr0 : Kd.C (Kd.int .u8) w A0 l0.length l0) (hc0 : l0.length ≤ c0) (hr1 : Kd.C (Kd.int .u8) w A1 l1.length l1) (hc1 : l1.length ≤ c1) (h : bytes_Equal.f l0 l1 = some r) :
  Calls Tryd.prog 106 #[.slice A0 l0.length c0, .slice A1 l1.length c1] w fun e w' => e = .returned (.bool r) ∧ Drawn0 w w' := by
 have HR0 := Zh hr0
 have HC0 := Zh hc0
 clear hr0 hc0
 have HR1 := Zh hr1
 have HC1 := Zh hc1
 clear hr1 hc1
 have H : (some ((strOfNums l0).toList == (strOfNums l1).toList)) = some r := h
 clear h
 obtain rfl := Option.some.inj H
 have hcv3 := C_string (P := Tryd.prog) (A := A0) (c := c0) Tryd.underlying41 Tryd.underlying5 Tryd.underlying9 HR0.out
 have hcv4 := fun (nq_ : Nat) => C_string (P := Tryd.prog) (A := A0) (c := c0) Tryd.underlying41 Tryd.underlying5 Tryd.underlying9 (C_drewN HR0.out nq_)
 have hcv5 := C_string (P := Tryd.prog) (A := A1) (c := c1) Tryd.underlying41 Tryd.underlying5 Tryd.underlying9 HR1.out
 have hcv6 := fun (nq_ : Nat) => C_string (P := Tryd.prog) (A := A1) (c := c1) Tryd.underlying41 Tryd.underlying5 Tryd.underlying9 (C_drewN HR1.out nq_)
 go_enter Tryd.func106, Tryd.ntmps106
 go_wp2
 go_ret
 exact ⟨by first | rfl | (simp; done) | (simp [*]; done), by repeat (first | exact Drawn0.refl _ | apply Drawn0.step)⟩
def binary_littleEndian_AppendUint32.f  (l1 : List Int) (a2 : Int) : Option (List Int) := (some (([(a2) % 256, (a2 / 256) % 256, (a2 / 65536) % 256, (a2 / 16777216) % 256] : List Int) : List Int)).bind fun y379 => (if l1.length + y379.length < 140737488355328 then (some (l1 ++ y379)) else (none))
set_option maxHeartbeats 8000000 in
set_option maxRecDepth 100000 in
theorem binary_littleEndian_AppendUint32.calls  (P1_ : Nat → Prop) (u9000_ : Value) (l1 : List Int) (a2 : Int) (r : List Int) (w0 w : World) (hB : Below w0.heap.size w0 w) (ho1 : Kd.R (Kd.int .u8) 5 w w0.heap.size P1_ u9000_ l1) (h : binary_littleEndian_AppendUint32.f l1 a2 = some r) :
  Calls Tryd.prog 91 #[.agg #[], u9000_, .int .u32 a2] w fun e w' => ∃ v0_ : Value, e = .returned (v0_) ∧ Kd.R (Kd.int .u8) 5 w' w0.heap.size (fun k_ => (P1_ k_ ∨ w.heap.size ≤ k_)) v0_ r ∧ Below w0.heap.size w0 w' ∧ Kept w w' (fun k_ => P1_ k_) := by
 have hu94 := Tryd.underlying94
 have HO1 := Zh (show Kd.R (Kd.int .u8) 5 w w0.heap.size (fun k_ => (P1_ k_ ∨ w.heap.size ≤ k_)) u9000_ l1 from R_mono ho1 (fun k_ hk => (.inl hk)))
 have HK := Zh (Kept.refl w (fun k_ => P1_ k_))
 have HW0 := Zh hB.size
 have HB := Zh hB
 clear hB
 have H : ((some (([(a2) % 256, (a2 / 256) % 256, (a2 / 65536) % 256, (a2 / 16777216) % 256] : List Int) : List Int)).bind fun y379 => (if l1.length + y379.length < 140737488355328 then (some (l1 ++ y379)) else (none))) = some r := h
 clear h
 obtain ⟨y379, hy379⟩ : ∃ y_ : List Int, y_ = (([(a2) % 256, (a2 / 256) % 256, (a2 / 65536) % 256, (a2 / 16777216) % 256] : List Int)) := ⟨_, rfl⟩
 replace H : (if l1.length + y379.length < 140737488355328 then (some (l1 ++ y379)) else (none)) = some r := by first | (rw [hy379]; with_reducible exact H) | (have H2_ := (Option.bind_some _ _).symm.trans H; rw [hy379]; with_reducible exact H2_) | (have H2_ := (Option.bind_some _ _).symm.trans H; with_reducible exact H2_) | with_reducible exact H | (rw [hy379]; exact H) | exact H
 have Ny379 := Zh hy379
 clear hy379
 by_cases c4 : l1.length + y379.length < 140737488355328
 ·
  rw [if_pos c4] at H
  have LMc4 := Zh c4
  clear c4
  obtain ⟨y382, hy382⟩ : ∃ y_ : List Int, y_ = (l1 ++ y379) := ⟨_, rfl⟩
  replace H : (some y382) = some r := by first | (rw [hy382]; with_reducible exact H) | (have H2_ := (Option.bind_some _ _).symm.trans H; rw [hy382]; with_reducible exact H2_) | (have H2_ := (Option.bind_some _ _).symm.trans H; with_reducible exact H2_) | with_reducible exact H | (rw [hy382]; exact H) | exact H
  have Ny382 := Zh hy382
  clear hy382
  obtain rfl := Option.some.inj H
  go_enter Tryd.func91, Tryd.ntmps91
  go_wp2_with (first | ((with_reducible refine gate_dst (N := 3) rfl ?_); refine box_event ?hg (N := 3) ?hd (cs := #[]) (t := 94) ?hr ?_; (case hd => rfl); (case hg => rfl); (case hr => first | (go_simp; done) | (go_simp; rfl)); intro gb378 hg w5 hbox hb; replace HO1 := Zh (R_below (ZR HO1.out) hb); have BK378 := Zh (hbox); have GW378 := Zh ((by rw [hg]; exact (by first | exact HK.out.1 | exact (show Kept w _ (fun k_ => P1_ k_) from by repeat (first | (with_reducible first | exact HK.out | apply Kept.alloc | apply Kept.drewN | apply Kept.drew) | exact HK.out)).1) : w.heap.size ≤ gb378)); replace HK := Zh (Kept.below (S := (fun k_ => P1_ k_)) (by repeat (first | (with_reducible first | exact HK.out | apply Kept.alloc | apply Kept.drewN | apply Kept.drew) | exact HK.out)) hb); have GE378 := Zh ((by rw [hg]; exact (below_size Zs) : w0.heap.size ≤ gb378)); replace HB := Zh (Zl Zs hb); clear hb hbox hg) | ((with_reducible refine gate_dst (N := 19) rfl ?_); refine R_lit (Kd.int .u8) _ 5 ?hg (N := 19) ?hd (xs := ([(a2) % 256, (a2 / 256) % 256, (a2 / 65536) % 256, (a2 / 16777216) % 256] : List Int)) (inner := [.int .u8 ((a2) % 256), .int .u8 ((a2 / 256) % 256), .int .u8 ((a2 / 65536) % 256), .int .u8 ((a2 / 16777216) % 256)]) (ok := fun _ => True) (okp := fun _ => True) ?hr ?hp (fun _ hk => hk) trivial (Below.refl _ _) (Nat.le_refl _) (by simp) ?_; (case hd => rfl); (case hg => rfl); (case hr => first | (go_simp; done) | (go_simp; rfl)); (case hp => exact (Reps.one (show Kd.M (Kd.int .u8) _ _ _ ((a2) % 256) [.int .u8 ((a2) % 256)] from rfl) (Reps.one (show Kd.M (Kd.int .u8) _ _ _ ((a2 / 256) % 256) [.int .u8 ((a2 / 256) % 256)] from rfl) (Reps.one (show Kd.M (Kd.int .u8) _ _ _ ((a2 / 65536) % 256) [.int .u8 ((a2 / 65536) % 256)] from rfl) (Reps.one (show Kd.M (Kd.int .u8) _ _ _ ((a2 / 16777216) % 256) [.int .u8 ((a2 / 16777216) % 256)] from rfl) (Reps.none _ _)))))); intro v380 w6 ho7 hb hg_ hnew_; clear hg_ hnew_; (first | rw [← Ny379.out] at ho7 | (simp only [Int.reduceToNat] at ho7; rw [← Ny379.out] at ho7)); have HO381 := Zh (R_lower (R_new' (R_newM (M := fun k_ => (P1_ k_ ∨ w.heap.size ≤ k_)) ho7 (by first | exact HK.out.1 | exact (show Kept w _ (fun k_ => P1_ k_) from by repeat (first | (with_reducible first | exact HK.out | apply Kept.alloc | apply Kept.drewN | apply Kept.drew | refine Kept.setCell ?_ (.inr GW378.out) _) | exact HK.out)).1) (fun k_ h_ => .inr h_)) (R_lt (ZR HO1.out))) (below_size Zs)); replace HO1 := Zh (R_elder' (ZR HO1.out) (R_base ho7) hb); replace BK378 := Zh (Zm (g := gb378) (o := .cells #[] 94 (0, 0)) Zk hb); replace HK := Zh (Kept.below (S := (fun k_ => P1_ k_)) (by repeat (first | (with_reducible first | exact HK.out | apply Kept.alloc | apply Kept.drewN | apply Kept.drew | refine Kept.setCell ?_ (.inr GW378.out) _) | exact HK.out)) hb); replace HB := Zh (Zl Zs hb); clear hb ho7; obtain ⟨Ao9, co9, eo9⟩ := R_slice HO381.out; subst eo9) | ((with_reducible refine gate_builtin (b := .append) (xs := #[.tmp 7, .tmp 19]) rfl ?_); at_builtin; refine R_append_rows (Kd.int .u8) (w0 := w0) w0.heap.size rfl (.tmp 7) (.tmp 19) 41 5 (.int .u8 0) 1 rfl Tryd.underlying41 info5 rfl (by decide) (by omega) u9000_ l1 y379 _ _ _ (fun k_ => (P1_ k_ ∨ w.heap.size ≤ k_) ∧ some k_ ≠ (.slice Ao9 y379.length co9 : Value).ownBlock) (fun _ => False) rfl rfl ?aO ?aR (fun _ _ h => h) (fun _ h => h.elim) ?aF ?aB ?aS ?aL ?_; (case aR => repeat (first | exact (R_reads' HO381.out).2.2 | (with_reducible refine C_alloc ?_ _) | (with_reducible refine C_drewN ?_ _) | (with_reducible refine C_drew ?_))); (case aB => exact Zs); (case aF => exact (fun k_ hk => ⟨(.inr (Nat.le_trans (by first | exact HK.out.1 | exact (show Kept w _ (fun k_ => P1_ k_) from by repeat (first | (with_reducible first | exact HK.out | apply Kept.alloc | apply Kept.drewN | apply Kept.drew | refine Kept.setCell ?_ (.inr GW378.out) _) | exact HK.out)).1) hk)), Kd.fresh' (R_lt (ZR HO381.out)) k_ hk⟩)); (case aO => exact (ZR HO1.out)); (case aS => exact (below_size Zs)); (case aL => have := LMc4.out; omega); intro v383 w8 ho hb hg hat; rw [← Ny382.out] at ho; have n0_ := Zh (blk_grown (g := gb378) (o := .cells #[] 94 (0, 0)) Zk hg (R_ne HO1.out BK378.out (by decide))); have n1_ := Zh (R_after (ok := (fun k_ => (P1_ k_ ∨ w.heap.size ≤ k_))) (ZR (R_mono HO381.out (fun _ hk => ⟨hk.1.1, hk.2⟩))) hg hat); have n2_ := Zh (hb); have n3_ := Zh (Kept.of_grown (S := (fun k_ => P1_ k_)) hg (by repeat (first | (with_reducible first | exact HK.out | apply Kept.alloc | apply Kept.drewN | apply Kept.drew | refine Kept.setCell ?_ (.inr GW378.out) _) | exact HK.out)) (fun k_ e_ => (HO1.out.1 k_ e_).1)); have n4_ := Zh (ho); clear BK378; clear HO381; clear HB; clear HK; clear HO1; have BK378 := n0_; have HO381 := n1_; have HB := n2_; have HK := n3_; have HO384 := n4_; clear n0_ n1_ n2_ n3_ n4_; clear ho hb hg hat))
  go_ret
  exact ⟨_, ZE, ZR (R_mono HO384.out (fun _ hk => hk.1)), Zs, by repeat (first | (with_reducible first | exact HK.out | apply Kept.alloc | apply Kept.drewN | apply Kept.drew | refine Kept.setCell ?_ (.inr GW378.out) _) | exact HK.out)⟩
 rw [if_neg c4] at H
 exact absurd H (by simp)
def impl_frame.j0 : Nat → List Int → Bool → Option (List Int)
 | 0, _, _ => none
 | k + 1, x0, x11 => if x11 = true then (some ([] : List Int)) else ((binary_littleEndian_AppendUint32.f ([] : List Int) (((x0.length : Int)) % 4294967296)).bind fun t385 => ((impl_crc32.f k x0).bind fun t388 => ((binary_littleEndian_AppendUint32.f t385 t388).bind fun t389 => (if t389.length + x0.length < 140737488355328 then (some (t389 ++ x0)) else (none)))))
def impl_frame.f (k : Nat) (l0 : List Int) : Option (List Int) := if (l0.length : Int) < 1 then (impl_frame.j0 k l0 true) else (impl_frame.j0 k l0 (decide ((l0.length : Int) > 600)))
set_option maxHeartbeats 8000000 in
set_option maxRecDepth 100000 in
theorem impl_frame.calls (k : Nat) (A0 : Option Addr) (c0 : Nat) (l0 : List Int) (r : List Int) (w : World) (hr0 : Kd.C (Kd.int .u8) w A0 l0.length l0) (hc0 : l0.length ≤ c0) (h : impl_frame.f k l0 = some r) :
  Calls Tryd.prog 60 #[.slice A0 l0.length c0] w fun e w' => ∃ v0_ : Value, e = .returned (v0_) ∧ Kd.R (Kd.int .u8) 5 w' w.heap.size (fun _ => True) v0_ r ∧ Below w.heap.size w w' := by
 have hu94 := Tryd.underlying94
 have HR0 := Zh hr0
 have HC0 := Zh hc0
 clear hr0 hc0
 have HB := Zh (Below.refl w.heap.size w)
 have H : (if (l0.length : Int) < 1 then (impl_frame.j0 k l0 true) else (impl_frame.j0 k l0 (decide ((l0.length : Int) > 600)))) = some r := h
 clear h
 have HC2 := Zh H
 clear H
 go_enter Tryd.func60, Tryd.ntmps60
 go_upto_region 1 with (fail)
 go_cut [11] (fun v11 wc => ∃ (kq : Nat) (x11_1 : Bool), v11 = .bool x11_1 ∧ Aside0 (impl_frame.j0 kq l0 x11_1 = some r) ∧ Aside0 (kq ≤ k) ∧ Aside0 (Below w.heap.size w wc))
 case first =>
  have H := HC2.out
  clear HC2
  by_cases c3 : (l0.length : Int) < 1
  ·
   rw [if_pos c3] at H
   have c3b0 : decide ((l0.length : Int) < 1) = true := decide_eq_true c3
   have c3b1 : decide (l0.length < 1) = true := decide_eq_true (by omega)
   clear c3
   (first | rw [c3b0] | (simp only [i64_w, i32_w]; rw [c3b0]) | skip)
   have H' := Zh H
   clear H
   go_wp2
   go_meet
   case rel => exact ⟨_, (true), (by first | rfl | (simp; done) | (simp [*]; done)), H', ⟨by first | omega | exact Nat.le_refl _⟩, ⟨Zs⟩⟩
  rw [if_neg c3] at H
  have c3b0 : decide ((l0.length : Int) < 1) = false := decide_eq_false c3
  have c3b1 : decide (l0.length < 1) = false := decide_eq_false (by omega)
  clear c3
  (first | rw [c3b0] | (simp only [i64_w, i32_w]; rw [c3b0]) | skip)
  have H' := Zh H
  clear H
  go_wp2
  go_meet
  case rel => exact ⟨_, (decide ((l0.length : Int) > 600)), (by first | rfl | (simp; done) | (simp [*]; done)), H', ⟨by first | omega | exact Nat.le_refl _⟩, ⟨Zs⟩⟩
 case rest =>
  clear HC2
  try clear p2
  try clear c3
  try clear c3b0
  try clear c3b1
  obtain ⟨kq, x11_1, rfl, HA, HJ1, HB⟩ := hcut
  cases kq with
  | zero => exact absurd HA.out (by simp [impl_frame.j0])
  | succ kj1 =>
   have H := HA.out
   clear HA
   simp only [impl_frame.j0] at H
   by_cases c4 : x11_1 = true
   ·
    subst c4
    have H1 : (some ([] : List Int)) = some r := by rw [if_pos rfl] at H; exact H
    clear H
    have H := H1
    clear H1
    obtain rfl := Option.some.inj H
    go_wp2
    go_ret
    exact ⟨_, ZE, by first | exact R_nil _ _ _ _ _ | exact N_nil _ _ _ _ _ | exact V_nil _ _ _ _ _ | exact Q_nil _ _ _ _ _ | exact S_nil _ _ _ _ _, Zs⟩
   replace c4 := Bool.eq_false_iff.mpr c4
   subst c4
   have H1 : ((binary_littleEndian_AppendUint32.f ([] : List Int) (((l0.length : Int)) % 4294967296)).bind fun t385 => ((impl_crc32.f kj1 l0).bind fun t388 => ((binary_littleEndian_AppendUint32.f t385 t388).bind fun t389 => (if t389.length + l0.length < 140737488355328 then (some (t389 ++ l0)) else (none))))) = some r := by rw [if_neg (show ¬ (false = true) by decide)] at H; exact H
   clear H
   have H := H1
   clear H1
   replace H := Option.bind_eq_some_iff.mp H
   obtain ⟨t385, A50, H⟩ := H
   replace H : ((impl_crc32.f kj1 l0).bind fun t388 => ((binary_littleEndian_AppendUint32.f t385 t388).bind fun t389 => (if t389.length + l0.length < 140737488355328 then (some (t389 ++ l0)) else (none)))) = some r := H
   have A5 := Zh A50
   clear A50
   replace H := Option.bind_eq_some_iff.mp H
   obtain ⟨t388, A60, H⟩ := H
   replace H : ((binary_littleEndian_AppendUint32.f t385 t388).bind fun t389 => (if t389.length + l0.length < 140737488355328 then (some (t389 ++ l0)) else (none))) = some r := H
   have A6 := Zh A60
   clear A60
   replace H := Option.bind_eq_some_iff.mp H
   obtain ⟨t389, A70, H⟩ := H
   replace H : (if t389.length + l0.length < 140737488355328 then (some (t389 ++ l0)) else (none)) = some r := H
   have A7 := Zh A70
   clear A70
   by_cases c8 : t389.length + l0.length < 140737488355328
   ·
    rw [if_pos c8] at H
    have LMc8 := Zh c8
    clear c8
    obtain ⟨y392, hy392⟩ : ∃ y_ : List Int, y_ = (t389 ++ l0) := ⟨_, rfl⟩
    replace H : (some y392) = some r := by first | (rw [hy392]; with_reducible exact H) | (have H2_ := (Option.bind_some _ _).symm.trans H; rw [hy392]; with_reducible exact H2_) | (have H2_ := (Option.bind_some _ _).symm.trans H; with_reducible exact H2_) | with_reducible exact H | (rw [hy392]; exact H) | exact H
    have Ny392 := Zh hy392
    clear hy392
    obtain rfl := Option.some.inj H
    try go_wp2_with (first | ((with_reducible refine gate_callee (f := 91) rfl ?_); refine ZG (some 16) Tryd.func91 #[.agg #[], .slice none 0 0, .int .u32 (((l0.length : Int)) % 4294967296)] rfl ?_; (refine (binary_littleEndian_AppendUint32.calls  (fun k_ => some k_ = (.slice none 0 0 : Value).ownBlock) (.slice none 0 0) ([] : List Int) (((l0.length : Int)) % 4294967296) t385 w _ ?side1 ?side2 A5.out).mono ?_); (case side1 => repeat (first | (with_reducible first | exact HB.out | apply Zf | apply Zd | apply Ze) | exact HB.out)); (case side2 => exact R_nil _ _ _ _ _); rintro e w9 ⟨v386, rfl, ho0, hb, hkp⟩; refine ⟨_, rfl, ?_⟩; have HO387 := Zh (R_mono (ok' := fun k_ => True) ho0 (fun k_ hk_ => trivial)); replace HB := Zh (hb); (try clear hb); (try clear hkp); (try clear ho0)))
    replace HO387 := Zh (R_drew HO387.out)
    replace HB := Zh (Ze HB.out)
    refine start_ (n := 6) (S := fun w' => True) (ds := []) #[false, false, false, false, false, false] (by kernel_rfl) rfl rfl trivial (fun hHeld => ?_)
    generalize w9.drew = w10 at HO387 HB hHeld ⊢
    refine pure_ (i := 1) (N := some 18) (v := ?_) (a' := ?_) #[false, true, false, false, false, false] rfl rfl (by kernel_rfl) (fun _ _ _ h => h) (Or.inl ⟨by rfl, ?_⟩) ?_ ?_
    rotate_left
    ·
     intro w'
     go_simp
     with_reducible rfl
    rotate_left
    ·
     simp only [Act.put, List.setIfInBounds_toArray, List.set_cons_zero, List.set_cons_succ, i64_w, i32_w]
     rfl
    refine pure_ (i := 2) (N := some 19) (v := ?_) (a' := ?_) #[false, true, true, false, false, false] rfl rfl (by kernel_rfl) (fun _ _ _ h => h) (Or.inl ⟨by rfl, ?_⟩) ?_ ?_
    rotate_left
    ·
     intro w'
     go_simp
     with_reducible rfl
    rotate_left
    ·
     simp only [Act.put, List.setIfInBounds_toArray, List.set_cons_zero, List.set_cons_succ, i64_w, i32_w]
     rfl
    refine take_ (i := 0) (N := some 17) (v := ?_) (a' := ?_) #[true, true, true, false, false, false] rfl rfl (by kernel_rfl) (fun _ _ _ h => h) (Or.inl ⟨by rfl, ?_⟩) hHeld ?_ ?_
    rotate_left
    ·
     intro w' _
     go_simp
     with_reducible rfl
    rotate_left
    ·
     simp only [Act.put, List.setIfInBounds_toArray, List.set_cons_zero, List.set_cons_succ, i64_w, i32_w]
     rfl
    refine one_ (i := 3) (N := some 20) #[true, true, true, true, false, false] rfl rfl (by kernel_rfl) (by decide) (fun K hK => ?_)
    refine goes_ Tryd.func92 (by kernel_rfl) rfl #[.slice A0 l0.length c0] (by rfl) rfl rfl (by (try simp only [List.map_toArray, List.map_cons, List.map_nil]); first | done | rfl | (simp only [List.length_drop, List.length_take]; rfl)) ?_
    with_reducible refine (impl_crc32.calls kj1 _ _ l0 t388 _ ?side1 ?side2 A6.out).mono ?_
    (case side1 => repeat (first | exact (C_below HR0.out HB.out) | (with_reducible refine C_alloc ?_ _) | (with_reducible refine C_drewN ?_ _) | (with_reducible refine C_drew ?_)))
    (case side2 => exact HC0.out)
    rintro e w' ⟨rfl, ⟨nd, rfl⟩⟩
    refine ⟨_, rfl, ?_⟩
    obtain ⟨Ao11, co11, eo11⟩ := R_slice HO387.out
    (first | subst eo11 | (injection eo11 with f1_ f2_ f3_; have f4_ := f1_.symm; have f5_ := f3_.symm; clear f1_ f2_ f3_; subst f4_; subst f5_))
    refine hK.out _ _ trivial (fun hHeld => ?_)
    clear hK K
    refine norm_ (a' := ?_) ?_ ?_
    rotate_left
    ·
     show Act.put _ (some 20) _ = _
     simp only [Act.put, List.setIfInBounds_toArray, List.set_cons_zero, List.set_cons_succ, i64_w, i32_w]
     rfl
    refine one_ (i := 4) (N := some 21) #[true, true, true, true, true, false] rfl rfl (by kernel_rfl) (by decide) (fun K hK => ?_)
    refine goes_ Tryd.func91 (by kernel_rfl) rfl #[.agg #[], .slice Ao11 t385.length co11, .int .u32 t388] (by rfl) rfl rfl (by (try simp only [List.map_toArray, List.map_cons, List.map_nil]); first | done | rfl | (simp only [List.length_drop, List.length_take]; rfl)) ?_
    with_reducible refine (binary_littleEndian_AppendUint32.calls  (fun k_ => some k_ = (.slice Ao11 t385.length co11 : Value).ownBlock) (.slice Ao11 t385.length co11) t385 t388 t389 w _ ?side1 ?side2 A7.out).mono ?_
    (case side1 => repeat (first | (with_reducible first | exact HB.out | apply Zf | apply Zd | apply Ze) | exact HB.out))
    (case side2 => exact R_tight rfl HO387.out)
    rintro e w12 ⟨v390, rfl, ho0, hb, hkp⟩
    refine ⟨_, rfl, ?_⟩
    have n0_ := Zh (R_mono (ok' := fun k_ => True) ho0 (fun k_ hk_ => trivial))
    have n1_ := Zh (hb)
    clear HB
    clear HO387
    have HO391 := n0_
    have HB := n1_
    clear n0_ n1_
    (try clear hb)
    (try clear hkp)
    (try clear ho0)
    refine hK.out _ _ trivial (fun hHeld => ?_)
    clear hK K
    refine norm_ (a' := ?_) ?_ ?_
    rotate_left
    ·
     show Act.put _ (some 21) _ = _
     simp only [Act.put, List.setIfInBounds_toArray, List.set_cons_zero, List.set_cons_succ, i64_w, i32_w]
     rfl
    refine pure_ (i := 5) (N := some 3) (v := ?_) (a' := ?_) #[true, true, true, true, true, true] rfl rfl (by kernel_rfl) (fun _ _ _ h => h) (Or.inl ⟨by rfl, ?_⟩) ?_ ?_
    rotate_left
    ·
     intro w'
     go_simp
     with_reducible rfl
    rotate_left
    ·
     simp only [Act.put, List.setIfInBounds_toArray, List.set_cons_zero, List.set_cons_succ, i64_w, i32_w]
     rfl
    refine done_ (by kernel_rfl) ?_
    try go_wp2_with (first | ((with_reducible refine gate_builtin (b := .append) (xs := #[.tmp 22, .tmp 23]) rfl ?_); (try (refine gate_guard (by rfl) ?_; dsimp only)); at_builtin; refine R_append_rows (Kd.int .u8) (w0 := w) w.heap.size rfl (.tmp 22) (.tmp 23) 41 5 (.int .u8 0) 1 rfl Tryd.underlying41 info5 rfl (by decide) (by omega) v390 t389 l0 _ _ _ (fun _ => True) (fun _ => False) rfl rfl ?aO ?aR (fun _ _ h => h) (fun _ h => h.elim) ?aF ?aB ?aS ?aL ?_; (case aR => repeat (first | exact (C_below HR0.out HB.out) | (with_reducible refine C_alloc ?_ _) | (with_reducible refine C_drewN ?_ _) | (with_reducible refine C_drew ?_))); (case aB => exact Zs); (case aF => exact (fun _ _ => trivial)); (case aO => exact (ZR HO391.out)); (case aS => exact (below_size Zs)); (case aL => have := LMc8.out; omega); intro v393 w13 ho hb hg hat; rw [← Ny392.out] at ho; have n0_ := Zh (hb); have n1_ := Zh (ho); clear HB; clear HO391; have HB := n0_; have HO394 := n1_; clear n0_ n1_; clear ho hb hg hat))
    go_ret
    exact ⟨_, ZE, ZR HO394.out, Zs⟩
   rw [if_neg c8] at H
   exact absurd H (by simp)
end Go.Proofs.YtcgojdhbphocgaaDoor.F
