/- Merged texts below the law FnExactWalRepair: Go functions as Lean functions, their contracts, and plain lemmas. -/
import Derived.Test.YtcgojdhbphocgaaDoorQFnExactWalRepair13
import Derived.Laws.Cover1
import Derived.Test.YtcgojdhbphocgaaDoorProg
import Derived.Below
import Derived.Deep.Draws
import Derived.Deep.AppendLies
import Derived.Maps.AppendAt
import Derived.OwnWalk
import Derived.Laws.BytesArg
import Derived.Laws.MakeOwn
import Derived.Laws.OwnMore
import Derived.Deep.OwnRows
import Derived.Tactics
import Derived.Lib.ConvBytes
import Derived.Laws.Slices
import Derived.WalkKit
import Derived.KernelRfl
import Derived.RowKit3
import Derived.Deep.LoopGhost
import Derived.Deep.QuietTactic
import Derived.BigQuiet
import Derived.WideLaws
import Derived.Deep.DeepCutAuto
import Derived.Deep.CutBlock
import Derived.Deep.RegionHeld3
import Derived.Laws.Rows
import Derived.Lib.AppendStr
import Derived.ArgAppend
import Derived.Laws.IdiomCopy
import Derived.OrdersHeld
import Derived.Laws.BitsLemmas
import Derived.RowKit
import Derived.Test.YtcgojdhbphocgaaDoorVFnExactWalRepairWords
import Derived.Test.YtcgojdhbphocgaaDoorVFnExactWalRepairLast
import Derived.Test.YtcgojdhbphocgaaDoorVFnExactWalRepairTab
import Derived.Test.YtcgojdhbphocgaaDoorVFnExactWalRepairFour
import Derived.Test.YtcgojdhbphocgaaDoorVFnExactWalRepairQPut
import Derived.Test.YtcgojdhbphocgaaDoorVFnExactWalRepairApart
import Derived.Test.YtcgojdhbphocgaaDoorVFnExactWalRepairArr
import Derived.Test.YtcgojdhbphocgaaDoorVFnExactWalRepairZeros
import Derived.Test.YtcgojdhbphocgaaDoorVFnExactWalRepairFoot
import Derived.Test.YtcgojdhbphocgaaDoorVFnExactWalRepairKept
import Derived.Test.YtcgojdhbphocgaaDoorVFnExactWalRepairShare
import Derived.Test.YtcgojdhbphocgaaDoorVFnExactWalRepairN
import Derived.Test.YtcgojdhbphocgaaDoorVFnExactWalRepairFootNe
import Derived.Test.YtcgojdhbphocgaaDoorVFnExactWalRepairAt
import Derived.Test.YtcgojdhbphocgaaDoorVFnExactWalRepairEqStruct
import Derived.Test.YtcgojdhbphocgaaDoorVFnExactWalRepairRepsOne
import Derived.Test.YtcgojdhbphocgaaDoorVFnExactWalRepairInv
import Derived.Test.YtcgojdhbphocgaaDoorVFnExactWalRepairInvWords
import Derived.Test.YtcgojdhbphocgaaDoorVFnExactWalRepairGuard
import Derived.Test.YtcgojdhbphocgaaDoorVFnExactWalRepairNEv
import Derived.Test.YtcgojdhbphocgaaDoorVFnExactWalRepairMore
import Derived.Shelf.Strings.SlTrimAscii
namespace Go.Proofs.YtcgojdhbphocgaaDoor.F
open Go.Proofs.YtcgojdhbphocgaaDoor
open Go.RowKit Go.Proofs.YtcgojdhbphocgaaDoorW.PrintWords Go.Proofs.YtcgojdhbphocgaaDoorW.PrintWords.Kd Go.Proofs.YtcgojdhbphocgaaDoorW.PrintMore.Kd Go.Proofs.YtcgojdhbphocgaaDoorW.PrintLast Go.Proofs.YtcgojdhbphocgaaDoorW.PrintMore
attribute [local go_sem] max2_int min2_int max_two min_two max_three min_three max_four min_four   -- for this text's walks alone
set_option linter.unusedVariables false
set_option linter.unusedSimpArgs false
def errW : Option Int → Value
 | none => .nilIface
 | some c => .iface 0 (.int .i64 c)
theorem errW_none : errW none = .nilIface := rfl
theorem errW_some (c : Int) : errW (some c) = .iface 0 (.int .i64 c) := rfl
theorem info5 : (Tryd.prog.info? 5).map (fun i => (i.zero, i.size, i.bytes)) = some (some (.int .u8 0), 1, 1) := by kernel_rfl
theorem info41 : (Tryd.prog.info? 41).map (fun i => (i.zero, i.size, i.bytes)) = some (some (.slice none 0 0), 1, 24) := by kernel_rfl
theorem info55 : (Tryd.prog.info? 55).map (fun i => (i.zero, i.size, i.bytes)) = some (some (.agg #[(.string ⟨#[]⟩), (.slice none 0 0), (.slice none 0 0)]), 3, 64) := by kernel_rfl
structure S83 where
 f0 : ByteArray
 f1 : (List Int)
 f2 : (List Int)
def z83 : S83 := ⟨(⟨#[]⟩ : ByteArray), ([] : List Int), ([] : List Int)⟩
def k83 : Kd S83 := Kd.iso (Kd.pair Kd.string (Kd.pair (Kd.slice 5 (Kd.int .u8)) (Kd.slice 5 (Kd.int .u8)))) (fun x : S83 => (x.f0, x.f1, x.f2))
theorem k83_open {w : World} {x : S83} {cs : List Value} (h : k83.K w x cs) : ∃ A1 c1 A2 c2, cs = [.string x.f0, .slice A1 x.f1.length c1, .slice A2 x.f2.length c2] ∧ x.f1.length ≤ c1 ∧ (Kd.int .u8).C w A1 x.f1.length x.f1 ∧ x.f2.length ≤ c2 ∧ (Kd.int .u8).C w A2 x.f2.length x.f2 := by
 obtain ⟨_, _, rfl, rfl, ⟨_, _, rfl, ⟨A1, c1, rfl, l1, g1⟩, ⟨A2, c2, rfl, l2, g2⟩⟩⟩ := h
 exact ⟨A1, c1, A2, c2, rfl, l1, g1, l2, g2⟩
def rd_T83 (xs : List S83) (i : Int) : S83 := xs.getD i.toNat z83
theorem at_T83 {w : World} {A : Option Addr} {n : Nat} {xs : List S83} (h : Kd.C k83 w A n xs) (i : Int) (h0 : 0 ≤ i) (h1 : i < n) : ∃ ad A1 c1 A2 c2, A = some ad ∧ w.cell? (ad.add (i.toNat * 3)) = some (.string (rd_T83 xs i).f0) ∧ w.cell? ⟨(ad.add (i.toNat * 3)).block, (ad.add (i.toNat * 3)).off + 1, none⟩ = some (.slice A1 (rd_T83 xs i).f1.length c1) ∧ w.cell? ⟨(ad.add (i.toNat * 3)).block, (ad.add (i.toNat * 3)).off + 2, none⟩ = some (.slice A2 (rd_T83 xs i).f2.length c2) ∧ (rd_T83 xs i).f1.length ≤ c1 ∧ (Kd.int .u8).C w A1 (rd_T83 xs i).f1.length (rd_T83 xs i).f1 ∧ (rd_T83 xs i).f2.length ≤ c2 ∧ (Kd.int .u8).C w A2 (rd_T83 xs i).f2.length (rd_T83 xs i).f2 := by
 obtain ⟨ad, c, e, _, hK, hc0⟩ := C_get h z83 i h0 h1
 have hc : ∀ j u, c[j]? = some u → w.cell? (ad.add (i.toNat * 3 + j)) = some u := hc0
 obtain ⟨A1, c1, A2, c2, rfl, l1, g1, l2, g2⟩ := k83_open hK
 exact ⟨ad, A1, c1, A2, c2, e, hc 0 _ rfl, by rw [← add_field _ _ 1 (by omega)]; exact hc 1 _ rfl, by rw [← add_field _ _ 2 (by omega)]; exact hc 2 _ rfl, l1, g1, l2, g2⟩
structure S55 where
 f0 : ByteArray
 f1 : (List Int)
 f2 : (List Int)
def z55 : S55 := ⟨(⟨#[]⟩ : ByteArray), ([] : List Int), ([] : List Int)⟩
def k55 : Kd S55 := Kd.iso (Kd.pair Kd.string (AP.apair (Kd.slice 5 (Kd.int .u8)) (Kd.slice 5 (Kd.int .u8)))) (fun x : S55 => (x.f0, x.f1, x.f2))
theorem k55_open {w : World} {x : S55} {cs : List Value} (h : k55.K w x cs) : ∃ A1 c1 A2 c2, cs = [.string x.f0, .slice A1 x.f1.length c1, .slice A2 x.f2.length c2] ∧ x.f1.length ≤ c1 ∧ (Kd.int .u8).C w A1 x.f1.length x.f1 ∧ x.f2.length ≤ c2 ∧ (Kd.int .u8).C w A2 x.f2.length x.f2 := by
 obtain ⟨_, _, rfl, rfl, ⟨_, _, rfl, ⟨A1, c1, rfl, l1, g1⟩, ⟨A2, c2, rfl, l2, g2⟩⟩⟩ := h
 exact ⟨A1, c1, A2, c2, rfl, l1, g1, l2, g2⟩
theorem k55_openM {w : World} {base : Nat} {ok : Nat → Prop} {x : S55} {cs : List Value} (h : k55.M w base ok x cs) : ∃ v1 v2, cs = [.string x.f0, v1, v2] ∧ (Kd.int .u8).R 5 w base ok v1 x.f1 ∧ (Kd.int .u8).R 5 w base ok v2 x.f2 := by
 obtain ⟨_, _, rfl, rfl, ⟨_, _, rfl, p, ⟨v1, rfl, g1⟩, ⟨v2, rfl, g2⟩⟩⟩ := h
 exact ⟨v1, v2, rfl, R_mono g1 (fun _ hk => hk.1), R_mono g2 (fun _ hk => hk.1)⟩
theorem k55_openA {w : World} {base : Nat} {ok : Nat → Prop} {x : S55} {cs : List Value} (h : k55.M w base ok x cs) : ∃ p : Nat → Prop, ∃ v1 v2, cs = [.string x.f0, v1, v2] ∧ (Kd.int .u8).R 5 w base (fun k => ok k ∧ p k) v1 x.f1 ∧ (Kd.int .u8).R 5 w base (fun k => ok k ∧ ¬ p k) v2 x.f2 := by
 obtain ⟨_, _, rfl, rfl, ⟨_, _, rfl, p, ⟨v1, rfl, g1⟩, ⟨v2, rfl, g2⟩⟩⟩ := h
 exact ⟨p, v1, v2, rfl, g1, g2⟩
theorem k55_mk (w : World) (x : S55) {A1 : Option Addr} {c1 : Nat} (l1 : x.f1.length ≤ c1) (g1 : (Kd.int .u8).C w A1 x.f1.length x.f1) {A2 : Option Addr} {c2 : Nat} (l2 : x.f2.length ≤ c2) (g2 : (Kd.int .u8).C w A2 x.f2.length x.f2) : k55.K w x [.string x.f0, .slice A1 x.f1.length c1, .slice A2 x.f2.length c2] := ⟨[.string x.f0], [.slice A1 x.f1.length c1, .slice A2 x.f2.length c2], rfl, rfl, ⟨[.slice A1 x.f1.length c1], [.slice A2 x.f2.length c2], rfl, ⟨A1, c1, rfl, l1, g1⟩, ⟨A2, c2, rfl, l2, g2⟩⟩⟩
theorem k55_mkM (w : World) (base : Nat) (ok : Nat → Prop) (x : S55) {v1 : Value} (g1 : (Kd.int .u8).R 5 w base ok v1 x.f1) {v2 : Value} (g2 : (Kd.int .u8).R 5 w base ok v2 x.f2) (hne : ∀ k, some k = v1.ownBlock → ¬ some k = v2.ownBlock) : k55.M w base ok x [.string x.f0, v1, v2] := ⟨[.string x.f0], [v1, v2], rfl, rfl, ⟨[v1], [v2], rfl, _, ⟨v1, rfl, (AP.split_of rfl rfl g1 g2 hne).1⟩, ⟨v2, rfl, (AP.split_of rfl rfl g1 g2 hne).2⟩⟩⟩
theorem k55_openF {W : World} {ok : Nat → Prop} {x : S55} {cs : List Value} (h : Kd.FK k55 W ok x cs) : ∃ A1 c1 A2 c2, cs = [.string x.f0, .slice A1 x.f1.length c1, .slice A2 x.f2.length c2] ∧ x.f1.length ≤ c1 ∧ Kd.F (Kd.int .u8) W ok A1 x.f1.length x.f1 ∧ x.f2.length ≤ c2 ∧ Kd.F (Kd.int .u8) W ok A2 x.f2.length x.f2 := by
 obtain ⟨A1, c1, A2, c2, rfl, l1, _, l2, _⟩ := k55_open (FK_now h)
 exact ⟨A1, c1, A2, c2, rfl, l1, (fun W' hW => by obtain ⟨A1_, c1_, A2_, c2_, he, l1_, g1_, l2_, g2_⟩ := k55_open (h W' hW); injection (Option.some.inj (show some (Value.slice A1 x.f1.length c1) = some (Value.slice A1_ x.f1.length c1_) from congrArg (fun l => l[1]?) he)) with ha_ _ _; rw [ha_]; exact g1_), l2, (fun W' hW => by obtain ⟨A1_, c1_, A2_, c2_, he, l1_, g1_, l2_, g2_⟩ := k55_open (h W' hW); injection (Option.some.inj (show some (Value.slice A2 x.f2.length c2) = some (Value.slice A2_ x.f2.length c2_) from congrArg (fun l => l[2]?) he)) with ha_ _ _; rw [ha_]; exact g2_)⟩
theorem k55_mkF (W : World) (ok : Nat → Prop) (x : S55) {A1 : Option Addr} {c1 : Nat} (l1 : x.f1.length ≤ c1) (g1 : Kd.F (Kd.int .u8) W ok A1 x.f1.length x.f1) {A2 : Option Addr} {c2 : Nat} (l2 : x.f2.length ≤ c2) (g2 : Kd.F (Kd.int .u8) W ok A2 x.f2.length x.f2) : Kd.FK k55 W ok x [.string x.f0, .slice A1 x.f1.length c1, .slice A2 x.f2.length c2] := fun W2 hW => k55_mk W2 x l1 (g1 W2 hW) l2 (g2 W2 hW)
def rd_T55 (xs : List S55) (i : Int) : S55 := xs.getD i.toNat z55
theorem at_T55 {w : World} {A : Option Addr} {n : Nat} {xs : List S55} (h : Kd.C k55 w A n xs) (i : Int) (h0 : 0 ≤ i) (h1 : i < n) : ∃ ad A1 c1 A2 c2, A = some ad ∧ w.cell? (ad.add (i.toNat * 3)) = some (.string (rd_T55 xs i).f0) ∧ w.cell? ⟨(ad.add (i.toNat * 3)).block, (ad.add (i.toNat * 3)).off + 1, none⟩ = some (.slice A1 (rd_T55 xs i).f1.length c1) ∧ w.cell? ⟨(ad.add (i.toNat * 3)).block, (ad.add (i.toNat * 3)).off + 2, none⟩ = some (.slice A2 (rd_T55 xs i).f2.length c2) ∧ (rd_T55 xs i).f1.length ≤ c1 ∧ (Kd.int .u8).C w A1 (rd_T55 xs i).f1.length (rd_T55 xs i).f1 ∧ (rd_T55 xs i).f2.length ≤ c2 ∧ (Kd.int .u8).C w A2 (rd_T55 xs i).f2.length (rd_T55 xs i).f2 := by
 obtain ⟨ad, c, e, _, hK, hc0⟩ := C_get h z55 i h0 h1
 have hc : ∀ j u, c[j]? = some u → w.cell? (ad.add (i.toNat * 3 + j)) = some u := hc0
 obtain ⟨A1, c1, A2, c2, rfl, l1, g1, l2, g2⟩ := k55_open hK
 exact ⟨ad, A1, c1, A2, c2, e, hc 0 _ rfl, by rw [← add_field _ _ 1 (by omega)]; exact hc 1 _ rfl, by rw [← add_field _ _ 2 (by omega)]; exact hc 2 _ rfl, l1, g1, l2, g2⟩
theorem Zs {n : Nat} {w w1 : World} (h : Below n w w1 := by repeat (first | (with_reducible first | exact HB.out | apply below_alloc | apply pw_below_drewN | apply below_drew1) | refine below_set ?_ (Aside0.out (by assumption)) | exact HB.out)) : Below n w w1 := h
theorem Zk {w : World} {g : Nat} {o : Obj} (h : w.heap[g]? = some o := by (with_reducible repeat (first | refine blk_drewN ?_ _ | refine blk_drew ?_ | refine blk_alloc ?_ _)); exact Aside0.out (by assumption)) : w.heap[g]? = some o := h
theorem Zo {p : Prop} [Decidable p] (h : decide p = true := by first | (with_reducible assumption) | assumption) : p := of_decide_eq_true h
theorem Zc {w w1 : World} {a : Addr} {v : Value} (hb : Below w.heap.size w w1) (h : w.cell? a = some v) : w1.cell? a = some v := (hb.cell (World.block_lt_of_cell? w _ h)).trans h
abbrev Za := @blk_drewN
abbrev Zb := @blk_drew
abbrev Zd := @pw_below_drewN
abbrev Ze := @below_drew1
abbrev Zf := @below_alloc
abbrev Zg := @below_set
abbrev Zh := @Aside0.mk
abbrev Zi := @World.block_lt_of_cell?
abbrev Zl := @below_step
abbrev Zm := @blk_below
abbrev Zn := @blk_frozen
abbrev Zp := @blk_far
end Go.Proofs.YtcgojdhbphocgaaDoor.F

namespace Go.Proofs.YtcgojdhbphocgaaDoor.F
open Go.RowKit Go.Proofs.YtcgojdhbphocgaaDoorW.PrintWords Go.Proofs.YtcgojdhbphocgaaDoorW.PrintWords.Kd Go.Proofs.YtcgojdhbphocgaaDoorW.PrintMore.Kd Go.Proofs.YtcgojdhbphocgaaDoorW.PrintLast Go.Proofs.YtcgojdhbphocgaaDoorW.PrintMore
attribute [local go_sem] max2_int min2_int max_two min_two max_three min_three max_four min_four   -- for this text's walks alone
set_option linter.unusedVariables false
set_option linter.unusedSimpArgs false
def laws_szByteS.f (l0 : List Int) (a1 : Int) : Option (Int) := if (wrap64 (a1 - (l0.length : Int))) < 0 then (some (-1)) else (some (wrap64 (a1 - (l0.length : Int))))
set_option maxHeartbeats 8000000 in
set_option maxRecDepth 100000 in
theorem laws_szByteS.calls (A0 : Option Addr) (c0 : Nat) (l0 : List Int) (a1 : Int) (r : Int) (w : World) (hr0 : Kd.C (Kd.int .u8) w A0 l0.length l0) (hc0 : l0.length ≤ c0) (h : laws_szByteS.f l0 a1 = some r) :
  Calls Tryd.prog 104 #[.slice A0 l0.length c0, .int .i64 a1] w fun e w' => e = .returned (.int .i64 r) ∧ Drawn0 w w' := by
 have HR0 := Zh hr0
 have HC0 := Zh hc0
 clear hr0 hc0
 have H : (if (wrap64 (a1 - (l0.length : Int))) < 0 then (some (-1)) else (some (wrap64 (a1 - (l0.length : Int))))) = some r := h
 clear h
 by_cases c3 : (wrap64 (a1 - (l0.length : Int))) < 0
 ·
  rw [if_pos c3] at H
  have c3b0 : decide ((wrap64 (a1 - (l0.length : Int))) < 0) = true := decide_eq_true c3
  clear c3
  obtain rfl := Option.some.inj H
  go_enter Tryd.func104, Tryd.ntmps104
  go_wp2
  go_ret
  exact ⟨by first | rfl | (simp; done) | (simp [*]; done), by repeat (first | exact Drawn0.refl _ | apply Drawn0.step)⟩
 rw [if_neg c3] at H
 have c3b0 : decide ((wrap64 (a1 - (l0.length : Int))) < 0) = false := decide_eq_false c3
 clear c3
 obtain rfl := Option.some.inj H
 go_enter Tryd.func104, Tryd.ntmps104
 go_wp2
 go_ret
 exact ⟨by first | rfl | (simp; done) | (simp [*]; done), by repeat (first | exact Drawn0.refl _ | apply Drawn0.step)⟩
def laws_szFile.f (a0_0 : ByteArray) (l0_1 : List Int) (l0_2 : List Int) (a1 : Int) : Option (Int) := if (wrap64 (a1 - (a0_0.size : Int))) < 0 then (some (-1)) else ((laws_szByteS.f l0_1 (wrap64 (a1 - (a0_0.size : Int)))).bind fun t102 => (if t102 < 0 then (some (-1)) else ((laws_szByteS.f l0_2 t102).bind fun t103 => (if t103 < 0 then (some (-1)) else (some t103)))))
set_option maxHeartbeats 8000000 in
set_option maxRecDepth 100000 in
theorem laws_szFile.calls (a0_0 : ByteArray) (A0_1 : Option Addr) (c0_1 : Nat) (l0_1 : List Int) (A0_2 : Option Addr) (c0_2 : Nat) (l0_2 : List Int) (a1 : Int) (r : Int) (w : World) (hr0_1 : Kd.C (Kd.int .u8) w A0_1 l0_1.length l0_1) (hc0_1 : l0_1.length ≤ c0_1) (hr0_2 : Kd.C (Kd.int .u8) w A0_2 l0_2.length l0_2) (hc0_2 : l0_2.length ≤ c0_2) (h : laws_szFile.f a0_0 l0_1 l0_2 a1 = some r) :
  Calls Tryd.prog 76 #[.agg #[.string a0_0, .slice A0_1 l0_1.length c0_1, .slice A0_2 l0_2.length c0_2], .int .i64 a1] w fun e w' => e = .returned (.int .i64 r) ∧ Below w.heap.size w w' := by
 have hu83 := Tryd.underlying83
 have HR0_1 := Zh hr0_1
 have HC0_1 := Zh hc0_1
 clear hr0_1 hc0_1
 have HR0_2 := Zh hr0_2
 have HC0_2 := Zh hc0_2
 clear hr0_2 hc0_2
 have HB := Zh (Below.refl w.heap.size w)
 have H : (if (wrap64 (a1 - (a0_0.size : Int))) < 0 then (some (-1)) else ((laws_szByteS.f l0_1 (wrap64 (a1 - (a0_0.size : Int)))).bind fun t102 => (if t102 < 0 then (some (-1)) else ((laws_szByteS.f l0_2 t102).bind fun t103 => (if t103 < 0 then (some (-1)) else (some t103)))))) = some r := h
 clear h
 by_cases c3 : (wrap64 (a1 - (a0_0.size : Int))) < 0
 ·
  rw [if_pos c3] at H
  have c3b0 : decide ((wrap64 (a1 - (a0_0.size : Int))) < 0) = true := decide_eq_true c3
  clear c3
  obtain rfl := Option.some.inj H
  go_enter Tryd.func76, Tryd.ntmps76
  go_wp2_with (first | ((with_reducible refine gate_dst (N := 2) rfl ?_); refine box_event ?hg (N := 2) ?hd (cs := #[.string a0_0, .slice A0_1 l0_1.length c0_1, .slice A0_2 l0_2.length c0_2]) (t := 83) ?hr ?_; (case hd => rfl); (case hg => rfl); (case hr => first | (go_simp; done) | (go_simp; rfl)); intro gb101 hg w4 hbox hb; have n0_ := Zh (Zl Zs hb); have n1_ := Zh (hbox); have n2_ := Zh ((by rw [hg]; exact (below_size Zs) : w.heap.size ≤ gb101)); have n3_ := Zh ((by rw [hg]; exact (below_size Zs) : w.heap.size ≤ gb101)); clear HB; have HB := n0_; have BK101 := n1_; have GW101 := n2_; have GE101 := n3_; clear n0_ n1_ n2_ n3_; clear hb hbox hg; have hcz5_0 : w4.cell? ⟨gb101, 0, none⟩ = some (.string a0_0) := (blk_cell BK101.out 0).trans rfl; have hcz5_1 : w4.cell? ⟨gb101, 1, none⟩ = some (.slice A0_1 l0_1.length c0_1) := (blk_cell BK101.out 1).trans rfl; have hcz5_2 : w4.cell? ⟨gb101, 2, none⟩ = some (.slice A0_2 l0_2.length c0_2) := (blk_cell BK101.out 2).trans rfl; have hfz5_0 := Zn BK101.out 0; have hfz5_1 := Zn BK101.out 1; have hfz5_2 := Zn BK101.out 2))
  go_ret
  exact ⟨by first | rfl | (simp [errW_none, errW_some] <;> rfl) | (simp [*, errW_none, errW_some] <;> rfl), by repeat (first | (with_reducible first | exact HB.out | apply Zf | apply Zd | apply Ze | refine Zg ?_ GE101.out) | exact HB.out)⟩
 rw [if_neg c3] at H
 have c3b0 : decide ((wrap64 (a1 - (a0_0.size : Int))) < 0) = false := decide_eq_false c3
 clear c3
 replace H := Option.bind_eq_some_iff.mp H
 obtain ⟨t102, A60, H⟩ := H
 replace H : (if t102 < 0 then (some (-1)) else ((laws_szByteS.f l0_2 t102).bind fun t103 => (if t103 < 0 then (some (-1)) else (some t103)))) = some r := H
 have A6 := Zh A60
 clear A60
 by_cases c7 : t102 < 0
 ·
  rw [if_pos c7] at H
  have c7b0 : decide (t102 < 0) = true := decide_eq_true c7
  clear c7
  obtain rfl := Option.some.inj H
  go_enter Tryd.func76, Tryd.ntmps76
  go_wp2_with (first | ((with_reducible refine gate_dst (N := 2) rfl ?_); refine box_event ?hg (N := 2) ?hd (cs := #[.string a0_0, .slice A0_1 l0_1.length c0_1, .slice A0_2 l0_2.length c0_2]) (t := 83) ?hr ?_; (case hd => rfl); (case hg => rfl); (case hr => first | (go_simp; done) | (go_simp; rfl)); intro gb101 hg w8 hbox hb; have n0_ := Zh (Zl Zs hb); have n1_ := Zh (hbox); have n2_ := Zh ((by rw [hg]; exact (below_size Zs) : w.heap.size ≤ gb101)); have n3_ := Zh ((by rw [hg]; exact (below_size Zs) : w.heap.size ≤ gb101)); clear HB; have HB := n0_; have BK101 := n1_; have GW101 := n2_; have GE101 := n3_; clear n0_ n1_ n2_ n3_; clear hb hbox hg; have hcz9_0 : w8.cell? ⟨gb101, 0, none⟩ = some (.string a0_0) := (blk_cell BK101.out 0).trans rfl; have hcz9_1 : w8.cell? ⟨gb101, 1, none⟩ = some (.slice A0_1 l0_1.length c0_1) := (blk_cell BK101.out 1).trans rfl; have hcz9_2 : w8.cell? ⟨gb101, 2, none⟩ = some (.slice A0_2 l0_2.length c0_2) := (blk_cell BK101.out 2).trans rfl; have hfz9_0 := Zn BK101.out 0; have hfz9_1 := Zn BK101.out 1; have hfz9_2 := Zn BK101.out 2) | ((with_reducible refine gate_callee (f := 104) rfl ?_); refine goesL_ (some 15) rfl rfl Tryd.func104 (by kernel_rfl) rfl #[.slice A0_1 l0_1.length c0_1, .int .i64 (wrap64 (a1 - (a0_0.size : Int)))] rfl (by (try simp only [List.map_toArray, List.map_cons, List.map_nil]); first | done | rfl | (simp only [List.length_drop, List.length_take]; rfl)) ?_; (with_reducible refine (laws_szByteS.calls _ _ l0_1 (wrap64 (a1 - (a0_0.size : Int))) t102 _ ?side1 ?side2 A6.out).mono ?_); (case side1 => repeat (first | exact (C_below HR0_1.out HB.out) | (with_reducible refine C_alloc ?_ _) | (with_reducible refine C_drewN ?_ _) | (with_reducible refine C_drew ?_))); (case side2 => exact HC0_1.out); rintro e w' ⟨rfl, ⟨nd, rfl⟩⟩; refine ⟨_, rfl, ?_⟩))
  go_ret
  exact ⟨by first | rfl | (simp [errW_none, errW_some] <;> rfl) | (simp [*, errW_none, errW_some] <;> rfl), by repeat (first | (with_reducible first | exact HB.out | apply Zf | apply Zd | apply Ze | refine Zg ?_ GE101.out) | exact HB.out)⟩
 rw [if_neg c7] at H
 have c7b0 : decide (t102 < 0) = false := decide_eq_false c7
 clear c7
 replace H := Option.bind_eq_some_iff.mp H
 obtain ⟨t103, A100, H⟩ := H
 replace H : (if t103 < 0 then (some (-1)) else (some t103)) = some r := H
 have A10 := Zh A100
 clear A100
 by_cases c11 : t103 < 0
 ·
  rw [if_pos c11] at H
  have c11b0 : decide (t103 < 0) = true := decide_eq_true c11
  clear c11
  obtain rfl := Option.some.inj H
  go_enter Tryd.func76, Tryd.ntmps76
  go_wp2_with (first | ((with_reducible refine gate_dst (N := 2) rfl ?_); refine box_event ?hg (N := 2) ?hd (cs := #[.string a0_0, .slice A0_1 l0_1.length c0_1, .slice A0_2 l0_2.length c0_2]) (t := 83) ?hr ?_; (case hd => rfl); (case hg => rfl); (case hr => first | (go_simp; done) | (go_simp; rfl)); intro gb101 hg w12 hbox hb; have n0_ := Zh (Zl Zs hb); have n1_ := Zh (hbox); have n2_ := Zh ((by rw [hg]; exact (below_size Zs) : w.heap.size ≤ gb101)); have n3_ := Zh ((by rw [hg]; exact (below_size Zs) : w.heap.size ≤ gb101)); clear HB; have HB := n0_; have BK101 := n1_; have GW101 := n2_; have GE101 := n3_; clear n0_ n1_ n2_ n3_; clear hb hbox hg; have hcz13_0 : w12.cell? ⟨gb101, 0, none⟩ = some (.string a0_0) := (blk_cell BK101.out 0).trans rfl; have hcz13_1 : w12.cell? ⟨gb101, 1, none⟩ = some (.slice A0_1 l0_1.length c0_1) := (blk_cell BK101.out 1).trans rfl; have hcz13_2 : w12.cell? ⟨gb101, 2, none⟩ = some (.slice A0_2 l0_2.length c0_2) := (blk_cell BK101.out 2).trans rfl; have hfz13_0 := Zn BK101.out 0; have hfz13_1 := Zn BK101.out 1; have hfz13_2 := Zn BK101.out 2) | ((with_reducible refine gate_callee (f := 104) rfl ?_); refine goesL_ (some 15) rfl rfl Tryd.func104 (by kernel_rfl) rfl #[.slice A0_1 l0_1.length c0_1, .int .i64 (wrap64 (a1 - (a0_0.size : Int)))] rfl (by (try simp only [List.map_toArray, List.map_cons, List.map_nil]); first | done | rfl | (simp only [List.length_drop, List.length_take]; rfl)) ?_; (with_reducible refine (laws_szByteS.calls _ _ l0_1 (wrap64 (a1 - (a0_0.size : Int))) t102 _ ?side1 ?side2 A6.out).mono ?_); (case side1 => repeat (first | exact (C_below HR0_1.out HB.out) | (with_reducible refine C_alloc ?_ _) | (with_reducible refine C_drewN ?_ _) | (with_reducible refine C_drew ?_))); (case side2 => exact HC0_1.out); rintro e w' ⟨rfl, ⟨nd, rfl⟩⟩; refine ⟨_, rfl, ?_⟩) | ((with_reducible refine gate_callee (f := 104) rfl ?_); refine goesL_ (some 21) rfl rfl Tryd.func104 (by kernel_rfl) rfl #[.slice A0_2 l0_2.length c0_2, .int .i64 t102] rfl (by (try simp only [List.map_toArray, List.map_cons, List.map_nil]); first | done | rfl | (simp only [List.length_drop, List.length_take]; rfl)) ?_; (with_reducible refine (laws_szByteS.calls _ _ l0_2 t102 t103 _ ?side1 ?side2 A10.out).mono ?_); (case side1 => repeat (first | exact (C_below HR0_2.out Zs) | (with_reducible refine C_alloc ?_ _) | (with_reducible refine C_drewN ?_ _) | (with_reducible refine C_drew ?_))); (case side2 => exact HC0_2.out); rintro e w' ⟨rfl, ⟨nd, rfl⟩⟩; refine ⟨_, rfl, ?_⟩))
  go_ret
  exact ⟨by first | rfl | (simp [errW_none, errW_some] <;> rfl) | (simp [*, errW_none, errW_some] <;> rfl), by repeat (first | (with_reducible first | exact HB.out | apply Zf | apply Zd | apply Ze | refine Zg ?_ GE101.out) | exact HB.out)⟩
 rw [if_neg c11] at H
 have c11b0 : decide (t103 < 0) = false := decide_eq_false c11
 clear c11
 obtain rfl := Option.some.inj H
 go_enter Tryd.func76, Tryd.ntmps76
 go_wp2_with (first | ((with_reducible refine gate_dst (N := 2) rfl ?_); refine box_event ?hg (N := 2) ?hd (cs := #[.string a0_0, .slice A0_1 l0_1.length c0_1, .slice A0_2 l0_2.length c0_2]) (t := 83) ?hr ?_; (case hd => rfl); (case hg => rfl); (case hr => first | (go_simp; done) | (go_simp; rfl)); intro gb101 hg w14 hbox hb; have n0_ := Zh (Zl Zs hb); have n1_ := Zh (hbox); have n2_ := Zh ((by rw [hg]; exact (below_size Zs) : w.heap.size ≤ gb101)); have n3_ := Zh ((by rw [hg]; exact (below_size Zs) : w.heap.size ≤ gb101)); clear HB; have HB := n0_; have BK101 := n1_; have GW101 := n2_; have GE101 := n3_; clear n0_ n1_ n2_ n3_; clear hb hbox hg; have hcz15_0 : w14.cell? ⟨gb101, 0, none⟩ = some (.string a0_0) := (blk_cell BK101.out 0).trans rfl; have hcz15_1 : w14.cell? ⟨gb101, 1, none⟩ = some (.slice A0_1 l0_1.length c0_1) := (blk_cell BK101.out 1).trans rfl; have hcz15_2 : w14.cell? ⟨gb101, 2, none⟩ = some (.slice A0_2 l0_2.length c0_2) := (blk_cell BK101.out 2).trans rfl; have hfz15_0 := Zn BK101.out 0; have hfz15_1 := Zn BK101.out 1; have hfz15_2 := Zn BK101.out 2) | ((with_reducible refine gate_callee (f := 104) rfl ?_); refine goesL_ (some 15) rfl rfl Tryd.func104 (by kernel_rfl) rfl #[.slice A0_1 l0_1.length c0_1, .int .i64 (wrap64 (a1 - (a0_0.size : Int)))] rfl (by (try simp only [List.map_toArray, List.map_cons, List.map_nil]); first | done | rfl | (simp only [List.length_drop, List.length_take]; rfl)) ?_; (with_reducible refine (laws_szByteS.calls _ _ l0_1 (wrap64 (a1 - (a0_0.size : Int))) t102 _ ?side1 ?side2 A6.out).mono ?_); (case side1 => repeat (first | exact (C_below HR0_1.out HB.out) | (with_reducible refine C_alloc ?_ _) | (with_reducible refine C_drewN ?_ _) | (with_reducible refine C_drew ?_))); (case side2 => exact HC0_1.out); rintro e w' ⟨rfl, ⟨nd, rfl⟩⟩; refine ⟨_, rfl, ?_⟩) | ((with_reducible refine gate_callee (f := 104) rfl ?_); refine goesL_ (some 21) rfl rfl Tryd.func104 (by kernel_rfl) rfl #[.slice A0_2 l0_2.length c0_2, .int .i64 t102] rfl (by (try simp only [List.map_toArray, List.map_cons, List.map_nil]); first | done | rfl | (simp only [List.length_drop, List.length_take]; rfl)) ?_; (with_reducible refine (laws_szByteS.calls _ _ l0_2 t102 t103 _ ?side1 ?side2 A10.out).mono ?_); (case side1 => repeat (first | exact (C_below HR0_2.out Zs) | (with_reducible refine C_alloc ?_ _) | (with_reducible refine C_drewN ?_ _) | (with_reducible refine C_drew ?_))); (case side2 => exact HC0_2.out); rintro e w' ⟨rfl, ⟨nd, rfl⟩⟩; refine ⟨_, rfl, ?_⟩))
 go_ret
 exact ⟨by first | rfl | (simp [errW_none, errW_some] <;> rfl) | (simp [*, errW_none, errW_some] <;> rfl), by repeat (first | (with_reducible first | exact HB.out | apply Zf | apply Zd | apply Ze | refine Zg ?_ GE101.out) | exact HB.out)⟩
def laws_szFileS.l0 : Nat → List (S83) → Int → Int → Option (Int)
 | 0, _, _, _ => none
 | k + 1, x0, x1, x5 => if x5 < (x0.length : Int) then (if 0 ≤ x5 then ((laws_szFile.f ((rd_T83 x0 x5).f0) ((rd_T83 x0 x5).f1) ((rd_T83 x0 x5).f2) x1).bind fun t105 => (if t105 < 0 then (some (-1)) else (laws_szFileS.l0 k x0 t105 (wrap64 (x5 + 1))))) else (none)) else (some x1)
def laws_szFileS.f (k : Nat) (l0 : List (S83)) (a1 : Int) : Option (Int) := if (wrap64 (a1 - (l0.length : Int))) < 0 then (some (-1)) else (laws_szFileS.l0 k l0 (wrap64 (a1 - (l0.length : Int))) 0)
set_option maxHeartbeats 8000000 in
set_option maxRecDepth 100000 in
theorem laws_szFileS.calls (k : Nat) (A0 : Option Addr) (c0 : Nat) (l0 : List (S83)) (a1 : Int) (r : Int) (w : World) (hr0 : Kd.C k83 w A0 l0.length l0) (hc0 : l0.length ≤ c0) (h : laws_szFileS.f k l0 a1 = some r) :
  Calls Tryd.prog 42 #[.slice A0 l0.length c0, .int .i64 a1] w fun e w' => e = .returned (.int .i64 r) ∧ Below w.heap.size w w' := by
 have hu83 := Tryd.underlying83
 have HR0 := Zh hr0
 have HC0 := Zh hc0
 clear hr0 hc0
 have HB := Zh (Below.refl w.heap.size w)
 have H : (if (wrap64 (a1 - (l0.length : Int))) < 0 then (some (-1)) else (laws_szFileS.l0 k l0 (wrap64 (a1 - (l0.length : Int))) 0)) = some r := h
 clear h
 by_cases c3 : (wrap64 (a1 - (l0.length : Int))) < 0
 ·
  rw [if_pos c3] at H
  have c3b0 : decide ((wrap64 (a1 - (l0.length : Int))) < 0) = true := decide_eq_true c3
  clear c3
  obtain rfl := Option.some.inj H
  go_enter Tryd.func42, Tryd.ntmps42
  go_wp2
  go_ret
  exact ⟨by first | rfl | (simp [errW_none, errW_some] <;> rfl) | (simp [*, errW_none, errW_some] <;> rfl), by repeat (first | (with_reducible first | exact HB.out | apply Zf | apply Zd | apply Ze) | exact HB.out)⟩
 rw [if_neg c3] at H
 have c3b0 : decide ((wrap64 (a1 - (l0.length : Int))) < 0) = false := decide_eq_false c3
 clear c3
 have H' := Zh H
 clear H
 go_enter Tryd.func42, Tryd.ntmps42
 go_wp2
 go_loopg [1, 5] k (fun kq v1 v5 w' => ∃ (x1_1 : Int) (x5_1 : Int), v1 = .int .i64 x1_1 ∧ v5 = .int .i64 x5_1 ∧ Aside0 (laws_szFileS.l0 kq l0 x1_1 x5_1 = some r) ∧ Aside0 (kq ≤ k) ∧ Aside0 (Below w.heap.size w w'))
 case atStart => exact ⟨(wrap64 (a1 - (l0.length : Int))), (0), (by first | rfl | (simp; done) | (simp [*]; done)), (by first | rfl | (simp; done) | (simp [*]; done)), H', ⟨Nat.le_refl _⟩, ⟨by repeat (first | (with_reducible first | exact HB.out | apply Zf | apply Zd | apply Ze) | exact HB.out)⟩⟩
 case round =>
  clear H'
  try clear p2
  try clear c3
  try clear c3b0
  obtain ⟨x1_1, x5_1, rfl, rfl, HA, HK1, HB⟩ := hrel
  cases gk with
  | zero => exact absurd HA.out (by simp [laws_szFileS.l0])
  | succ k1 =>
   have H := HA.out
   clear HA
   simp only [laws_szFileS.l0] at H
   by_cases c4 : x5_1 < (l0.length : Int)
   ·
    rw [if_pos c4] at H
    have c4b0 : decide (x5_1 < (l0.length : Int)) = true := decide_eq_true c4
    clear c4
    by_cases c5 : 0 ≤ x5_1
    ·
     rw [if_pos c5] at H
     have c5b0 : decide (0 ≤ x5_1) = true := decide_eq_true c5
     clear c5
     replace H := Option.bind_eq_some_iff.mp H
     obtain ⟨t105, A60, H⟩ := H
     replace H : (if t105 < 0 then (some (-1)) else (laws_szFileS.l0 k1 l0 t105 (wrap64 (x5_1 + 1)))) = some r := H
     have A6 := Zh A60
     clear A60
     by_cases c7 : t105 < 0
     ·
      rw [if_pos c7] at H
      have c7b0 : decide (t105 < 0) = true := decide_eq_true c7
      clear c7
      obtain rfl := Option.some.inj H
      have p104 : 0 ≤ (x5_1 : Int) := Zo
      have q104 : x5_1 < (l0.length : Int) := Zo
      obtain ⟨ad104, A104_1, c104_1, A104_2, c104_2, e104, hx104_0, hx104_1, hx104_2, hl104_1, hi104_1, hl104_2, hi104_2⟩ := at_T83 HR0.out x5_1 p104 q104
      cases e104
      replace hx104_0 := Zc HB.out hx104_0
      replace hx104_1 := Zc HB.out hx104_1
      replace hx104_2 := Zc HB.out hx104_2
      have HR104_1 := Zh hi104_1
      have HC104_1 := Zh hl104_1
      clear hi104_1 hl104_1
      have HR104_2 := Zh hi104_2
      have HC104_2 := Zh hl104_2
      clear hi104_2 hl104_2
      replace p104 := eq_true p104
      replace q104 := eq_true q104
      go_wp2_with (first | ((with_reducible refine gate_callee (f := 76) rfl ?_); refine goesL_ (some 23) rfl rfl Tryd.func76 (by kernel_rfl) rfl #[.agg #[.string ((rd_T83 l0 x5_1).f0), .slice A104_1 ((rd_T83 l0 x5_1).f1).length c104_1, .slice A104_2 ((rd_T83 l0 x5_1).f2).length c104_2], .int .i64 x1_1] rfl (by (try simp only [List.map_toArray, List.map_cons, List.map_nil]); first | done | rfl | (simp only [List.length_drop, List.length_take]; rfl)) ?_; (with_reducible refine (laws_szFile.calls ((rd_T83 l0 x5_1).f0) _ _ ((rd_T83 l0 x5_1).f1) _ _ ((rd_T83 l0 x5_1).f2) x1_1 t105 _ ?side1 ?side2 ?side3 ?side4 A6.out).mono ?_); (case side1 => repeat (first | exact (C_below HR104_1.out HB.out) | (with_reducible refine C_alloc ?_ _) | (with_reducible refine C_drewN ?_ _) | (with_reducible refine C_drew ?_))); (case side2 => exact HC104_1.out); (case side3 => repeat (first | exact (C_below HR104_2.out HB.out) | (with_reducible refine C_alloc ?_ _) | (with_reducible refine C_drewN ?_ _) | (with_reducible refine C_drew ?_))); (case side4 => exact HC104_2.out); rintro e w8 ⟨rfl, hb⟩; refine ⟨_, rfl, ?_⟩; have n0_ := Zh (Zl Zs hb); clear HB; have HB := n0_; clear n0_; (try clear hb); (try clear hb2); (try clear hk); (try clear hi)))
      go_ret
      exact ⟨by first | rfl | (simp [errW_none, errW_some] <;> rfl) | (simp [*, errW_none, errW_some] <;> rfl), by repeat (first | (with_reducible first | exact HB.out | apply Zf | apply Zd | apply Ze) | exact HB.out)⟩
     rw [if_neg c7] at H
     have c7b0 : decide (t105 < 0) = false := decide_eq_false c7
     clear c7
     have H' := Zh H
     clear H
     have p104 : 0 ≤ (x5_1 : Int) := Zo
     have q104 : x5_1 < (l0.length : Int) := Zo
     obtain ⟨ad104, A104_1, c104_1, A104_2, c104_2, e104, hx104_0, hx104_1, hx104_2, hl104_1, hi104_1, hl104_2, hi104_2⟩ := at_T83 HR0.out x5_1 p104 q104
     cases e104
     replace hx104_0 := Zc HB.out hx104_0
     replace hx104_1 := Zc HB.out hx104_1
     replace hx104_2 := Zc HB.out hx104_2
     have HR104_1 := Zh hi104_1
     have HC104_1 := Zh hl104_1
     clear hi104_1 hl104_1
     have HR104_2 := Zh hi104_2
     have HC104_2 := Zh hl104_2
     clear hi104_2 hl104_2
     replace p104 := eq_true p104
     replace q104 := eq_true q104
     go_wp2_with (first | ((with_reducible refine gate_callee (f := 76) rfl ?_); refine goesL_ (some 23) rfl rfl Tryd.func76 (by kernel_rfl) rfl #[.agg #[.string ((rd_T83 l0 x5_1).f0), .slice A104_1 ((rd_T83 l0 x5_1).f1).length c104_1, .slice A104_2 ((rd_T83 l0 x5_1).f2).length c104_2], .int .i64 x1_1] rfl (by (try simp only [List.map_toArray, List.map_cons, List.map_nil]); first | done | rfl | (simp only [List.length_drop, List.length_take]; rfl)) ?_; (with_reducible refine (laws_szFile.calls ((rd_T83 l0 x5_1).f0) _ _ ((rd_T83 l0 x5_1).f1) _ _ ((rd_T83 l0 x5_1).f2) x1_1 t105 _ ?side1 ?side2 ?side3 ?side4 A6.out).mono ?_); (case side1 => repeat (first | exact (C_below HR104_1.out HB.out) | (with_reducible refine C_alloc ?_ _) | (with_reducible refine C_drewN ?_ _) | (with_reducible refine C_drew ?_))); (case side2 => exact HC104_1.out); (case side3 => repeat (first | exact (C_below HR104_2.out HB.out) | (with_reducible refine C_alloc ?_ _) | (with_reducible refine C_drewN ?_ _) | (with_reducible refine C_drew ?_))); (case side4 => exact HC104_2.out); rintro e w9 ⟨rfl, hb⟩; refine ⟨_, rfl, ?_⟩; have n0_ := Zh (Zl Zs hb); clear HB; have HB := n0_; clear n0_; (try clear hb); (try clear hb2); (try clear hk); (try clear hi)))
     go_roundg k1
     case measure => have := HK1.out; omega
     case rel => exact ⟨(t105), (wrap64 (x5_1 + 1)), (by first | rfl | (simp; done) | (simp [*]; done)), (by first | rfl | (simp; done) | (simp [*]; done)), H', ⟨by have := HK1.out; omega⟩, ⟨by repeat (first | (with_reducible first | exact HB.out | apply Zf | apply Zd | apply Ze) | exact HB.out)⟩⟩
    rw [if_neg c5] at H
    exact absurd H (by simp)
   rw [if_neg c4] at H
   have c4b0 : decide (x5_1 < (l0.length : Int)) = false := decide_eq_false c4
   clear c4
   obtain rfl := Option.some.inj H
   go_wp2
   go_ret
   exact ⟨by first | rfl | (simp [errW_none, errW_some] <;> rfl) | (simp [*, errW_none, errW_some] <;> rfl), by repeat (first | (with_reducible first | exact HB.out | apply Zf | apply Zd | apply Ze) | exact HB.out)⟩
def laws_szDisk.f (k : Nat) (l0_0 : List (S83)) (a1 : Int) : Option (Int) := (laws_szFileS.f k l0_0 a1).bind fun t107 => (if t107 < 0 then (some (-1)) else (some t107))
set_option maxHeartbeats 8000000 in
set_option maxRecDepth 100000 in
theorem laws_szDisk.calls (k : Nat) (A0_0 : Option Addr) (c0_0 : Nat) (l0_0 : List (S83)) (a1 : Int) (r : Int) (w : World) (hr0_0 : Kd.C k83 w A0_0 l0_0.length l0_0) (hc0_0 : l0_0.length ≤ c0_0) (h : laws_szDisk.f k l0_0 a1 = some r) :
  Calls Tryd.prog 11 #[.agg #[.slice A0_0 l0_0.length c0_0], .int .i64 a1] w fun e w' => e = .returned (.int .i64 r) ∧ Below w.heap.size w w' := by
 have hu24 := Tryd.underlying24
 have HR0_0 := Zh hr0_0
 have HC0_0 := Zh hc0_0
 clear hr0_0 hc0_0
 have HB := Zh (Below.refl w.heap.size w)
 have H : ((laws_szFileS.f k l0_0 a1).bind fun t107 => (if t107 < 0 then (some (-1)) else (some t107))) = some r := h
 clear h
 replace H := Option.bind_eq_some_iff.mp H
 obtain ⟨t107, A30, H⟩ := H
 replace H : (if t107 < 0 then (some (-1)) else (some t107)) = some r := H
 have A3 := Zh A30
 clear A30
 by_cases c4 : t107 < 0
 ·
  rw [if_pos c4] at H
  have c4b0 : decide (t107 < 0) = true := decide_eq_true c4
  clear c4
  obtain rfl := Option.some.inj H
  go_enter Tryd.func11, Tryd.ntmps11
  go_wp2_with (first | ((with_reducible refine gate_dst (N := 2) rfl ?_); refine box_event ?hg (N := 2) ?hd (cs := #[.slice A0_0 l0_0.length c0_0]) (t := 24) ?hr ?_; (case hd => rfl); (case hg => rfl); (case hr => first | (go_simp; done) | (go_simp; rfl)); intro gb106 hg w5 hbox hb; have n0_ := Zh (Zl Zs hb); have n1_ := Zh (hbox); have n2_ := Zh ((by rw [hg]; exact (below_size Zs) : w.heap.size ≤ gb106)); have n3_ := Zh ((by rw [hg]; exact (below_size Zs) : w.heap.size ≤ gb106)); clear HB; have HB := n0_; have BK106 := n1_; have GW106 := n2_; have GE106 := n3_; clear n0_ n1_ n2_ n3_; clear hb hbox hg; have hcz6_0 : w5.cell? ⟨gb106, 0, none⟩ = some (.slice A0_0 l0_0.length c0_0) := (blk_cell BK106.out 0).trans rfl; have hfz6_0 := Zn BK106.out 0) | ((with_reducible refine gate_callee (f := 42) rfl ?_); refine goesL_ (some 8) rfl rfl Tryd.func42 (by kernel_rfl) rfl #[.slice A0_0 l0_0.length c0_0, .int .i64 a1] rfl (by (try simp only [List.map_toArray, List.map_cons, List.map_nil]); first | done | rfl | (simp only [List.length_drop, List.length_take]; rfl)) ?_; (with_reducible refine (laws_szFileS.calls k _ _ l0_0 a1 t107 _ ?side1 ?side2 A3.out).mono ?_); (case side1 => repeat (first | exact (C_below HR0_0.out HB.out) | (with_reducible refine C_alloc ?_ _) | (with_reducible refine C_drewN ?_ _) | (with_reducible refine C_drew ?_))); (case side2 => exact HC0_0.out); rintro e w7 ⟨rfl, hb⟩; refine ⟨_, rfl, ?_⟩; have n0_ := Zh (Zm (g := gb106) (o := .cells #[.slice A0_0 l0_0.length c0_0] 24 (0, 0)) Zk hb); have n1_ := Zh (Zl Zs hb); clear BK106; clear HB; have BK106 := n0_; have HB := n1_; clear n0_ n1_; (try clear hb); (try clear hb2); (try clear hk); (try clear hi)))
  go_ret
  exact ⟨by first | rfl | (simp [errW_none, errW_some] <;> rfl) | (simp [*, errW_none, errW_some] <;> rfl), by repeat (first | (with_reducible first | exact HB.out | apply Zf | apply Zd | apply Ze | refine Zg ?_ GE106.out) | exact HB.out)⟩
 rw [if_neg c4] at H
 have c4b0 : decide (t107 < 0) = false := decide_eq_false c4
 clear c4
 obtain rfl := Option.some.inj H
 go_enter Tryd.func11, Tryd.ntmps11
 go_wp2_with (first | ((with_reducible refine gate_dst (N := 2) rfl ?_); refine box_event ?hg (N := 2) ?hd (cs := #[.slice A0_0 l0_0.length c0_0]) (t := 24) ?hr ?_; (case hd => rfl); (case hg => rfl); (case hr => first | (go_simp; done) | (go_simp; rfl)); intro gb106 hg w8 hbox hb; have n0_ := Zh (Zl Zs hb); have n1_ := Zh (hbox); have n2_ := Zh ((by rw [hg]; exact (below_size Zs) : w.heap.size ≤ gb106)); have n3_ := Zh ((by rw [hg]; exact (below_size Zs) : w.heap.size ≤ gb106)); clear HB; have HB := n0_; have BK106 := n1_; have GW106 := n2_; have GE106 := n3_; clear n0_ n1_ n2_ n3_; clear hb hbox hg; have hcz9_0 : w8.cell? ⟨gb106, 0, none⟩ = some (.slice A0_0 l0_0.length c0_0) := (blk_cell BK106.out 0).trans rfl; have hfz9_0 := Zn BK106.out 0) | ((with_reducible refine gate_callee (f := 42) rfl ?_); refine goesL_ (some 8) rfl rfl Tryd.func42 (by kernel_rfl) rfl #[.slice A0_0 l0_0.length c0_0, .int .i64 a1] rfl (by (try simp only [List.map_toArray, List.map_cons, List.map_nil]); first | done | rfl | (simp only [List.length_drop, List.length_take]; rfl)) ?_; (with_reducible refine (laws_szFileS.calls k _ _ l0_0 a1 t107 _ ?side1 ?side2 A3.out).mono ?_); (case side1 => repeat (first | exact (C_below HR0_0.out HB.out) | (with_reducible refine C_alloc ?_ _) | (with_reducible refine C_drewN ?_ _) | (with_reducible refine C_drew ?_))); (case side2 => exact HC0_0.out); rintro e w10 ⟨rfl, hb⟩; refine ⟨_, rfl, ?_⟩; have n0_ := Zh (Zm (g := gb106) (o := .cells #[.slice A0_0 l0_0.length c0_0] 24 (0, 0)) Zk hb); have n1_ := Zh (Zl Zs hb); clear BK106; clear HB; have BK106 := n0_; have HB := n1_; clear n0_ n1_; (try clear hb); (try clear hb2); (try clear hk); (try clear hi)))
 go_ret
 exact ⟨by first | rfl | (simp [errW_none, errW_some] <;> rfl) | (simp [*, errW_none, errW_some] <;> rfl), by repeat (first | (with_reducible first | exact HB.out | apply Zf | apply Zd | apply Ze | refine Zg ?_ GE106.out) | exact HB.out)⟩
def laws_toByteS.l0 : Nat → List Int → List Int → Int → Option (List Int)
 | 0, _, _, _ => none
 | k + 1, x0, x3, x4 => if x4 < (x0.length : Int) then (if 0 ≤ x4 then (if x4 < (x3.length : Int) then (laws_toByteS.l0 k x0 (x3.set (x4 : Int).toNat (rd x0 x4)) (wrap64 (x4 + 1))) else (none)) else (none)) else (some x3)
def laws_toByteS.f (k : Nat) (l0 : List Int) : Option (List Int) := if 0 ≤ (l0.length : Int) then (if ((l0.length : Int) : Int).toNat ≤ 281474976710656 then (laws_toByteS.l0 k l0 (List.replicate ((l0.length : Int) : Int).toNat 0) 0) else (none)) else (none)
set_option maxHeartbeats 8000000 in
set_option maxRecDepth 100000 in
theorem laws_toByteS.calls (k : Nat) (A0 : Option Addr) (c0 : Nat) (l0 : List Int) (r : List Int) (w : World) (hr0 : Kd.C (Kd.int .u8) w A0 l0.length l0) (hc0 : l0.length ≤ c0) (h : laws_toByteS.f k l0 = some r) :
  Calls Tryd.prog 28 #[.slice A0 l0.length c0] w fun e w' => ∃ v0_ : Value, e = .returned (v0_) ∧ Kd.R (Kd.int .u8) 5 w' w.heap.size (fun _ => True) v0_ r ∧ Below w.heap.size w w' := by
 have HR0 := Zh hr0
 have HC0 := Zh hc0
 clear hr0 hc0
 have HB := Zh (Below.refl w.heap.size w)
 have H : (if 0 ≤ (l0.length : Int) then (if ((l0.length : Int) : Int).toNat ≤ 281474976710656 then (laws_toByteS.l0 k l0 (List.replicate ((l0.length : Int) : Int).toNat 0) 0) else (none)) else (none)) = some r := h
 clear h
 by_cases c2 : 0 ≤ (l0.length : Int)
 ·
  rw [if_pos c2] at H
  have c2b0 := eq_true c2
  have c2b1 : decide (0 ≤ (l0.length : Int)) = true := decide_eq_true c2
  clear c2
  by_cases c3 : ((l0.length : Int) : Int).toNat ≤ 281474976710656
  ·
   rw [if_pos c3] at H
   have c3b0 := eq_true c3
   have c3b1 : decide (((l0.length : Int) : Int).toNat ≤ 281474976710656) = true := decide_eq_true c3
   clear c3
   obtain ⟨y198, hy198⟩ : ∃ y_ : List Int, y_ = (List.replicate ((l0.length : Int) : Int).toNat 0) := ⟨_, rfl⟩
   replace H : (laws_toByteS.l0 k l0 y198 0) = some r := by first | (rw [hy198]; with_reducible exact H) | (have H2_ := (Option.bind_some _ _).symm.trans H; rw [hy198]; with_reducible exact H2_) | (have H2_ := (Option.bind_some _ _).symm.trans H; with_reducible exact H2_) | with_reducible exact H | (rw [hy198]; exact H) | exact H
   have Ny198 := Zh hy198
   clear hy198
   have H' := Zh H
   clear H
   go_enter Tryd.func28, Tryd.ntmps28
   go_wp2_with (first | ((with_reducible refine gate_dst (N := 7) rfl ?_); refine R_make (Kd.int .u8) _ 5 rfl (N := 7) rfl 41 _ _ rfl (l0.length : Int) rfl rfl Tryd.underlying41 (.int .u8 0) 1 info5 rfl (by decide) (by omega) 0 (ok := fun _ => True) (okp := fun _ => True) rfl (fun _ hk => hk) trivial (Zo) (Nat.le_trans (Nat.mul_le_mul_right _ (Zo : (l0.length : Int).toNat ≤ 281474976710656)) (by omega)) (Below.refl _ _) (Nat.le_refl _) ?_; intro v199 w4 ho5 hb hg_ hnew_; clear hg_ hnew_; (first | rw [← Ny198.out] at ho5 | (simp only [Int.reduceToNat] at ho5; rw [← Ny198.out] at ho5)); have n0_ := Zh (R_lower ho5 (below_size Zs)); have n1_ := Zh (Zl Zs hb); clear HB; have HO200 := n0_; have HB := n1_; clear n0_ n1_; clear hb ho5))
   go_loopg [4] k (fun kq v4 w' => ∃ (x3_1 : List Int) (x4_1 : Int), v4 = .int .i64 x4_1 ∧ Aside0 (laws_toByteS.l0 kq l0 x3_1 x4_1 = some r) ∧ Aside0 (kq ≤ k) ∧ Aside0 (Kd.R (Kd.int .u8) 5 w' w.heap.size (fun _ => True) v199 x3_1) ∧ Aside0 (Below w.heap.size w w'))
   case atStart => exact ⟨(y198), (0), (by first | rfl | (simp; done) | (simp [*]; done)), H', ⟨Nat.le_refl _⟩, ⟨by (with_reducible repeat (first | apply R_alloc | apply R_drewN | apply R_drew)); exact HO200.out⟩, ⟨by repeat (first | (with_reducible first | exact HB.out | apply Zf | apply Zd | apply Ze) | exact HB.out)⟩⟩
   case round =>
    clear H'
    try clear c2
    try clear c2b0
    try clear c2b1
    try clear p2
    try clear c3
    try clear c3b0
    try clear c3b1
    obtain ⟨x3_1, x4_1, rfl, HA, HK1, HO_3, HB⟩ := hrel
    cases gk with
    | zero => exact absurd HA.out (by simp [laws_toByteS.l0])
    | succ k1 =>
     have H := HA.out
     clear HA
     simp only [laws_toByteS.l0] at H
     by_cases c6 : x4_1 < (l0.length : Int)
     ·
      rw [if_pos c6] at H
      have c6b0 : decide (x4_1 < (l0.length : Int)) = true := decide_eq_true c6
      clear c6
      by_cases c7 : 0 ≤ x4_1
      ·
       rw [if_pos c7] at H
       have c7b0 : decide (0 ≤ x4_1) = true := decide_eq_true c7
       clear c7
       by_cases c8 : x4_1 < (x3_1.length : Int)
       ·
        rw [if_pos c8] at H
        have c8b0 : decide (x4_1 < (x3_1.length : Int)) = true := decide_eq_true c8
        clear c8
        obtain ⟨y202, hy202⟩ : ∃ y_ : List Int, y_ = (x3_1.set (x4_1 : Int).toNat (rd l0 x4_1)) := ⟨_, rfl⟩
        replace H : (laws_toByteS.l0 k1 l0 y202 (wrap64 (x4_1 + 1))) = some r := by first | (rw [hy202]; with_reducible exact H) | (have H2_ := (Option.bind_some _ _).symm.trans H; rw [hy202]; with_reducible exact H2_) | (have H2_ := (Option.bind_some _ _).symm.trans H; with_reducible exact H2_) | with_reducible exact H | (rw [hy202]; exact H) | exact H
        have Ny202 := Zh hy202
        clear hy202
        have H' := Zh H
        clear H
        have p201 : 0 ≤ (x4_1 : Int) := Zo
        have q201 : x4_1 < (l0.length : Int) := Zo
        obtain ⟨ad201, e201, hx201_0⟩ := Kd.at_int HR0.out x4_1 p201 q201
        cases e201
        replace hx201_0 := Zc HB.out hx201_0
        replace p201 := eq_true p201
        replace q201 := eq_true q201
        have p9 : 0 ≤ (x4_1 : Int) := Zo
        have q9 : (x4_1 : Int) < ((x3_1.length : Int) : Int) := Zo
        obtain ⟨go9, co9, eo9, gb9, gl9, cl9, HG9⟩ := R_form HO_3.out (by omega)
        (first | cases eo9 | (injection eo9 with ea_ en_ ec_; (first | subst ea_ | (injection ea_ with ea_; subst ea_)); subst ec_; clear en_))
        have GB9 := Zh gb9
        have GG9 := Zh HG9
        clear gb9 gl9 HG9
        obtain ⟨hx9_0, hf9_0⟩ := R_celln 0 HO_3.out (x4_1 : Int) p9 q9
        replace p9 := eq_true p9
        replace q9 := eq_true q9
        have HP10 := R_putg HO_3.out (x4_1 : Int) (rd l0 x4_1)
        go_wp2_with (first | ((with_reducible refine gate_store (t := 5) (p := 20) rfl ?_); refine store_event (t := 5) (p := 20) (v := ?vo_w11) (w1 := (wr.setCell ⟨go9, (x4_1 : Int).toNat, none⟩ (.int .u8 (rd l0 x4_1)))) ?hg ?ho ?hn ?hr ?_; (case ho => rfl); (case hg => rfl); (case hn => rfl); (case hr => first | (go_simp; done) | (go_simp; rfl)); intro w11 hw; have hg : wr.grownBy w11 (some go9) := (by rw [hw]; exact HP10.2); have hp_ : Kd.R (Kd.int .u8) 5 w11 w.heap.size (fun _ => True) (.slice (some ⟨go9, 0, none⟩) x3_1.length co9) y202 := (by rw [hw, Ny202.out]; exact HP10.1); clear HP10; have n0_ := Zh (hp_); have n1_ := Zh ((by rw [hw]; exact Zg (HB.out) GB9.out : Below w.heap.size w w11)); clear HO_3; clear HB; have HO_3 := n0_; have HB := n1_; clear n0_ n1_; clear hg hw hp_))
        go_roundg k1
        case measure => have := HK1.out; omega
        case rel => exact ⟨(y202), (wrap64 (x4_1 + 1)), (by first | rfl | (simp; done) | (simp [*]; done)), H', ⟨by have := HK1.out; omega⟩, ⟨by (with_reducible repeat (first | apply R_alloc | apply R_drewN | apply R_drew)); exact HO_3.out⟩, ⟨by repeat (first | (with_reducible first | exact HB.out | apply Zf | apply Zd | apply Ze) | exact HB.out)⟩⟩
       rw [if_neg c8] at H
       exact absurd H (by simp)
      rw [if_neg c7] at H
      exact absurd H (by simp)
     rw [if_neg c6] at H
     have c6b0 : decide (x4_1 < (l0.length : Int)) = false := decide_eq_false c6
     clear c6
     obtain rfl := Option.some.inj H
     go_wp2
     go_ret
     exact ⟨_, by first | rfl | (simp [errW_none, errW_some] <;> rfl) | (simp [*, errW_none, errW_some] <;> rfl), by (with_reducible repeat (first | apply R_alloc | apply R_drewN | apply R_drew)); exact HO_3.out, by repeat (first | (with_reducible first | exact HB.out | apply Zf | apply Zd | apply Ze) | exact HB.out)⟩
  rw [if_neg c3] at H
  exact absurd H (by simp)
 rw [if_neg c2] at H
 exact absurd H (by simp)
def laws_toFile.f (k : Nat) (a0_0 : ByteArray) (l0_1 : List Int) (l0_2 : List Int) : Option (ByteArray × List Int × List Int) := (laws_toByteS.f k l0_1).bind fun t206 => ((laws_toByteS.f k l0_2).bind fun t209 => (some (a0_0, t206, t209)))
set_option maxHeartbeats 8000000 in
set_option maxRecDepth 100000 in
theorem laws_toFile.calls (k : Nat) (a0_0 : ByteArray) (A0_1 : Option Addr) (c0_1 : Nat) (l0_1 : List Int) (A0_2 : Option Addr) (c0_2 : Nat) (l0_2 : List Int) (r1 : ByteArray) (r2 : List Int) (r3 : List Int) (w : World) (hr0_1 : Kd.C (Kd.int .u8) w A0_1 l0_1.length l0_1) (hc0_1 : l0_1.length ≤ c0_1) (hr0_2 : Kd.C (Kd.int .u8) w A0_2 l0_2.length l0_2) (hc0_2 : l0_2.length ≤ c0_2) (h : laws_toFile.f k a0_0 l0_1 l0_2 = some (r1, r2, r3)) :
  Calls Tryd.prog 78 #[.agg #[.string a0_0, .slice A0_1 l0_1.length c0_1, .slice A0_2 l0_2.length c0_2]] w fun e w' => ∃ v1_ v2_ : Value, e = .returned (.agg #[.string r1, v1_, v2_]) ∧ Kd.R (Kd.int .u8) 5 w' w.heap.size (fun k_ => some k_ ≠ (v2_ : Value).ownBlock) v1_ r2 ∧ Kd.R (Kd.int .u8) 5 w' w.heap.size (fun k_ => some k_ ≠ (v1_ : Value).ownBlock) v2_ r3 ∧ Below w.heap.size w w' := by
 have hu83 := Tryd.underlying83
 have hu55 := Tryd.underlying55
 have HR0_1 := Zh hr0_1
 have HC0_1 := Zh hc0_1
 clear hr0_1 hc0_1
 have HR0_2 := Zh hr0_2
 have HC0_2 := Zh hc0_2
 clear hr0_2 hc0_2
 have HB := Zh (Below.refl w.heap.size w)
 have H : ((laws_toByteS.f k l0_1).bind fun t206 => ((laws_toByteS.f k l0_2).bind fun t209 => (some (a0_0, t206, t209)))) = some (r1, r2, r3) := h
 clear h
 replace H := Option.bind_eq_some_iff.mp H
 obtain ⟨t206, A20, H⟩ := H
 replace H : ((laws_toByteS.f k l0_2).bind fun t209 => (some (a0_0, t206, t209))) = some (r1, r2, r3) := H
 have A2 := Zh A20
 clear A20
 replace H := Option.bind_eq_some_iff.mp H
 obtain ⟨t209, A30, H⟩ := H
 replace H : (some (a0_0, t206, t209)) = some (r1, r2, r3) := H
 have A3 := Zh A30
 clear A30
 simp only [Option.some.injEq, Prod.mk.injEq] at H
 obtain ⟨rfl, rfl, rfl⟩ := H
 go_enter Tryd.func78, Tryd.ntmps78
 go_wp2_with (first | ((with_reducible refine gate_dst (N := 1) rfl ?_); refine box_event ?hg (N := 1) ?hd (cs := #[.string a0_0, .slice A0_1 l0_1.length c0_1, .slice A0_2 l0_2.length c0_2]) (t := 83) ?hr ?_; (case hd => rfl); (case hg => rfl); (case hr => first | (go_simp; done) | (go_simp; rfl)); intro gb203 hg w4 hbox hb; have n0_ := Zh (Zl Zs hb); have n1_ := Zh (hbox); have n2_ := Zh ((by rw [hg]; exact (below_size Zs) : w.heap.size ≤ gb203)); have n3_ := Zh ((by rw [hg]; exact (below_size Zs) : w.heap.size ≤ gb203)); clear HB; have HB := n0_; have BK203 := n1_; have GW203 := n2_; have GE203 := n3_; clear n0_ n1_ n2_ n3_; clear hb hbox hg) | ((with_reducible refine gate_dst (N := 2) rfl ?_); refine box_event ?hg (N := 2) ?hd (cs := #[.string (⟨#[]⟩ : ByteArray), .slice none 0 0, .slice none 0 0]) (t := 55) ?hr ?_; (case hd => rfl); (case hg => rfl); (case hr => first | (go_simp; done) | (go_simp; rfl)); intro gb204 hg w5 hbox hb; have n0_ := Zh (Zm (g := gb203) (o := .cells #[.string a0_0, .slice A0_1 l0_1.length c0_1, .slice A0_2 l0_2.length c0_2] 83 (0, 0)) Zk hb); have n1_ := Zh (Zl Zs hb); have n2_ := Zh (hbox); have n3_ := Zh ((by rw [hg]; exact (below_size Zs) : w.heap.size ≤ gb204)); have n4_ := Zh ((by rw [hg]; exact (below_size Zs) : w.heap.size ≤ gb204)); have n5_ := Zh ((by rw [hg]; exact Nat.ne_of_lt (blk_lt (g := gb203) (o := .cells #[.string a0_0, .slice A0_1 l0_1.length c0_1, .slice A0_2 l0_2.length c0_2] 83 (0, 0)) Zk) : gb203 ≠ gb204)); have n6_ := Zh ((by rw [hg]; exact Nat.ne_of_gt (blk_lt (g := gb203) (o := .cells #[.string a0_0, .slice A0_1 l0_1.length c0_1, .slice A0_2 l0_2.length c0_2] 83 (0, 0)) Zk) : gb204 ≠ gb203)); clear BK203; clear HB; have BK203 := n0_; have HB := n1_; have BK204 := n2_; have GW204 := n3_; have GE204 := n4_; have NB203_204 := n5_; have NB204_203 := n6_; clear n0_ n1_ n2_ n3_ n4_ n5_ n6_; clear hb hbox hg) | ((with_reducible refine gate_dst (N := 3) rfl ?_); refine box_event ?hg (N := 3) ?hd (cs := #[.string (⟨#[]⟩ : ByteArray), .slice none 0 0, .slice none 0 0]) (t := 55) ?hr ?_; (case hd => rfl); (case hg => rfl); (case hr => first | (go_simp; done) | (go_simp; rfl)); intro gb205 hg w6 hbox hb; have n0_ := Zh (Zm (g := gb203) (o := .cells #[.string a0_0, .slice A0_1 l0_1.length c0_1, .slice A0_2 l0_2.length c0_2] 83 (0, 0)) Zk hb); have n1_ := Zh (Zm (g := gb204) (o := .cells #[.string (⟨#[]⟩ : ByteArray), .slice none 0 0, .slice none 0 0] 55 (0, 0)) Zk hb); have n2_ := Zh (Zl Zs hb); have n3_ := Zh (hbox); have n4_ := Zh ((by rw [hg]; exact (below_size Zs) : w.heap.size ≤ gb205)); have n5_ := Zh ((by rw [hg]; exact (below_size Zs) : w.heap.size ≤ gb205)); have n6_ := Zh ((by rw [hg]; exact Nat.ne_of_lt (blk_lt (g := gb203) (o := .cells #[.string a0_0, .slice A0_1 l0_1.length c0_1, .slice A0_2 l0_2.length c0_2] 83 (0, 0)) Zk) : gb203 ≠ gb205)); have n7_ := Zh ((by rw [hg]; exact Nat.ne_of_gt (blk_lt (g := gb203) (o := .cells #[.string a0_0, .slice A0_1 l0_1.length c0_1, .slice A0_2 l0_2.length c0_2] 83 (0, 0)) Zk) : gb205 ≠ gb203)); have n8_ := Zh ((by rw [hg]; exact Nat.ne_of_lt (blk_lt (g := gb204) (o := .cells #[.string (⟨#[]⟩ : ByteArray), .slice none 0 0, .slice none 0 0] 55 (0, 0)) Zk) : gb204 ≠ gb205)); have n9_ := Zh ((by rw [hg]; exact Nat.ne_of_gt (blk_lt (g := gb204) (o := .cells #[.string (⟨#[]⟩ : ByteArray), .slice none 0 0, .slice none 0 0] 55 (0, 0)) Zk) : gb205 ≠ gb204)); clear BK203; clear BK204; clear HB; have BK203 := n0_; have BK204 := n1_; have HB := n2_; have BK205 := n3_; have GW205 := n4_; have GE205 := n5_; have NB203_205 := n6_; have NB205_203 := n7_; have NB204_205 := n8_; have NB205_204 := n9_; clear n0_ n1_ n2_ n3_ n4_ n5_ n6_ n7_ n8_ n9_; clear hb hbox hg; have hnb7 := NB203_204.out; have hnc7 := NB204_203.out; have hnb8 := NB203_205.out; have hnc8 := NB205_203.out; have hcz9_0 : w6.cell? ⟨gb203, 0, none⟩ = some (.string a0_0) := (blk_cell BK203.out 0).trans rfl; have hcz9_1 : w6.cell? ⟨gb203, 1, none⟩ = some (.slice A0_1 l0_1.length c0_1) := (blk_cell BK203.out 1).trans rfl; have hcz9_2 : w6.cell? ⟨gb203, 2, none⟩ = some (.slice A0_2 l0_2.length c0_2) := (blk_cell BK203.out 2).trans rfl; have hfz9_0 := Zn BK203.out 0; have hfz9_1 := Zn BK203.out 1; have hfz9_2 := Zn BK203.out 2; have hnb10 := NB205_204.out; have hnc10 := NB204_205.out; have hcz11_0 : w6.cell? ⟨gb205, 0, none⟩ = some (.string (⟨#[]⟩ : ByteArray)) := (blk_cell BK205.out 0).trans rfl; have hcz11_1 : w6.cell? ⟨gb205, 1, none⟩ = some (.slice none 0 0) := (blk_cell BK205.out 1).trans rfl; have hcz11_2 : w6.cell? ⟨gb205, 2, none⟩ = some (.slice none 0 0) := (blk_cell BK205.out 2).trans rfl; have hfz11_0 := Zn BK205.out 0; have hfz11_1 := Zn BK205.out 1; have hfz11_2 := Zn BK205.out 2) | ((with_reducible refine gate_callee (f := 28) rfl ?_); refine goesL_ (some 9) rfl rfl Tryd.func28 (by kernel_rfl) rfl #[.slice A0_1 l0_1.length c0_1] rfl (by (try simp only [List.map_toArray, List.map_cons, List.map_nil]); first | done | rfl | (simp only [List.length_drop, List.length_take]; rfl)) ?_; (with_reducible refine (laws_toByteS.calls k _ _ l0_1 t206 _ ?side1 ?side2 A2.out).mono ?_); (case side1 => exact C_below HR0_1.out Zs); (case side2 => exact HC0_1.out); rintro e w12 ⟨v207, rfl, ho0, hb⟩; refine ⟨_, rfl, ?_⟩; have n0_ := Zh (R_lower ho0 (below_size Zs)); have n1_ := Zh (Zm (g := gb203) (o := .cells #[.string a0_0, .slice A0_1 l0_1.length c0_1, .slice A0_2 l0_2.length c0_2] 83 (0, 0)) (by (with_reducible repeat (first | refine Za ?_ _ | refine Zb ?_ | refine blk_alloc ?_ _)); refine Zp ?_ NB203_205.out _; (with_reducible repeat (first | refine Za ?_ _ | refine Zb ?_ | refine blk_alloc ?_ _)); exact BK203.out) hb); have n2_ := Zh (Zm (g := gb204) (o := .cells #[.string (⟨#[]⟩ : ByteArray), .slice none 0 0, .slice none 0 0] 55 (0, 0)) (by (with_reducible repeat (first | refine Za ?_ _ | refine Zb ?_ | refine blk_alloc ?_ _)); refine Zp ?_ NB204_205.out _; (with_reducible repeat (first | refine Za ?_ _ | refine Zb ?_ | refine blk_alloc ?_ _)); exact BK204.out) hb); have n3_ := Zh (Zm (g := gb205) (o := .cells #[.string a0_0, .slice none 0 0, .slice none 0 0] 55 (0, 0)) (by (with_reducible repeat (first | refine Za ?_ _ | refine Zb ?_ | refine blk_alloc ?_ _)); refine blk_put (cs := #[.string (⟨#[]⟩ : ByteArray), .slice none 0 0, .slice none 0 0]) ?_ 0 _ rfl; (with_reducible repeat (first | refine Za ?_ _ | refine Zb ?_ | refine blk_alloc ?_ _)); exact BK205.out) hb); have n4_ := Zh (Zl Zs hb); clear BK203; clear BK204; clear BK205; clear HB; have HO208 := n0_; have BK203 := n1_; have BK204 := n2_; have BK205 := n3_; have HB := n4_; clear n0_ n1_ n2_ n3_ n4_; (try clear hb); (try clear hb2); (try clear hk); (try clear hi); (try clear ho0); obtain ⟨Ao13, co13, eo13⟩ := R_slice HO208.out; subst eo13; have hcz14_0 : w12.cell? ⟨gb205, 0, none⟩ = some (.string a0_0) := (blk_cell BK205.out 0).trans rfl; have hcz14_1 : w12.cell? ⟨gb205, 1, none⟩ = some (.slice none 0 0) := (blk_cell BK205.out 1).trans rfl; have hcz14_2 : w12.cell? ⟨gb205, 2, none⟩ = some (.slice none 0 0) := (blk_cell BK205.out 2).trans rfl; have hfz14_0 := Zn BK205.out 0; have hfz14_1 := Zn BK205.out 1; have hfz14_2 := Zn BK205.out 2; have hcz15_0 : w12.cell? ⟨gb203, 0, none⟩ = some (.string a0_0) := (blk_cell BK203.out 0).trans rfl; have hcz15_1 : w12.cell? ⟨gb203, 1, none⟩ = some (.slice A0_1 l0_1.length c0_1) := (blk_cell BK203.out 1).trans rfl; have hcz15_2 : w12.cell? ⟨gb203, 2, none⟩ = some (.slice A0_2 l0_2.length c0_2) := (blk_cell BK203.out 2).trans rfl; have hfz15_0 := Zn BK203.out 0; have hfz15_1 := Zn BK203.out 1; have hfz15_2 := Zn BK203.out 2) | ((with_reducible refine gate_callee (f := 28) rfl ?_); refine goesL_ (some 13) rfl rfl Tryd.func28 (by kernel_rfl) rfl #[.slice A0_2 l0_2.length c0_2] rfl (by (try simp only [List.map_toArray, List.map_cons, List.map_nil]); first | done | rfl | (simp only [List.length_drop, List.length_take]; rfl)) ?_; (with_reducible refine (laws_toByteS.calls k _ _ l0_2 t209 _ ?side1 ?side2 A3.out).mono ?_); (case side1 => exact C_below HR0_2.out Zs); (case side2 => exact HC0_2.out); rintro e w16 ⟨v210, rfl, ho0, hb⟩; refine ⟨_, rfl, ?_⟩; have n0_ := Zh (R_elder' (by (with_reducible repeat (first | apply R_alloc | apply R_drewN | apply R_drew)); exact (R_mono (R_far (p := ⟨gb205, 1, none⟩) (R_types HO208.out BK205.out (by decide)) (fun _ hk => hk.2) (.slice Ao13 t206.length co13)) (fun _ h_ => h_.1))) (R_base ho0) hb); have n1_ := Zh (R_lower (R_new' ho0 (R_lt (by (with_reducible repeat (first | apply R_alloc | apply R_drewN | apply R_drew)); exact (R_mono (R_far (p := ⟨gb205, 1, none⟩) (R_types HO208.out BK205.out (by decide)) (fun _ hk => hk.2) (.slice Ao13 t206.length co13)) (fun _ h_ => h_.1))))) (below_size Zs)); have n2_ := Zh (Zm (g := gb203) (o := .cells #[.string a0_0, .slice A0_1 l0_1.length c0_1, .slice A0_2 l0_2.length c0_2] 83 (0, 0)) (by (with_reducible repeat (first | refine Za ?_ _ | refine Zb ?_ | refine blk_alloc ?_ _)); refine Zp ?_ NB203_205.out _; (with_reducible repeat (first | refine Za ?_ _ | refine Zb ?_ | refine blk_alloc ?_ _)); exact BK203.out) hb); have n3_ := Zh (Zm (g := gb204) (o := .cells #[.string (⟨#[]⟩ : ByteArray), .slice none 0 0, .slice none 0 0] 55 (0, 0)) (by (with_reducible repeat (first | refine Za ?_ _ | refine Zb ?_ | refine blk_alloc ?_ _)); refine Zp ?_ NB204_205.out _; (with_reducible repeat (first | refine Za ?_ _ | refine Zb ?_ | refine blk_alloc ?_ _)); exact BK204.out) hb); have n4_ := Zh (Zm (g := gb205) (o := .cells #[.string a0_0, .slice Ao13 t206.length co13, .slice none 0 0] 55 (0, 0)) (by (with_reducible repeat (first | refine Za ?_ _ | refine Zb ?_ | refine blk_alloc ?_ _)); refine blk_put (cs := #[.string a0_0, .slice none 0 0, .slice none 0 0]) ?_ 1 _ rfl; (with_reducible repeat (first | refine Za ?_ _ | refine Zb ?_ | refine blk_alloc ?_ _)); exact BK205.out) hb); have n5_ := Zh (Zl Zs hb); clear HO208; clear BK203; clear BK204; clear BK205; clear HB; have HO208 := n0_; have HO211 := n1_; have BK203 := n2_; have BK204 := n3_; have BK205 := n4_; have HB := n5_; clear n0_ n1_ n2_ n3_ n4_ n5_; (try clear hb); (try clear hb2); (try clear hk); (try clear hi); (try clear ho0); obtain ⟨Ao17, co17, eo17⟩ := R_slice HO211.out; subst eo17; have hcz18_0 : w16.cell? ⟨gb205, 0, none⟩ = some (.string a0_0) := (blk_cell BK205.out 0).trans rfl; have hcz18_1 : w16.cell? ⟨gb205, 1, none⟩ = some (.slice Ao13 t206.length co13) := (blk_cell BK205.out 1).trans rfl; have hcz18_2 : w16.cell? ⟨gb205, 2, none⟩ = some (.slice none 0 0) := (blk_cell BK205.out 2).trans rfl; have hfz18_0 := Zn BK205.out 0; have hfz18_1 := Zn BK205.out 1; have hfz18_2 := Zn BK205.out 2; have hcz19_0 : w16.cell? ⟨gb204, 0, none⟩ = some (.string (⟨#[]⟩ : ByteArray)) := (blk_cell BK204.out 0).trans rfl; have hcz19_1 : w16.cell? ⟨gb204, 1, none⟩ = some (.slice none 0 0) := (blk_cell BK204.out 1).trans rfl; have hcz19_2 : w16.cell? ⟨gb204, 2, none⟩ = some (.slice none 0 0) := (blk_cell BK204.out 2).trans rfl; have hfz19_0 := Zn BK204.out 0; have hfz19_1 := Zn BK204.out 1; have hfz19_2 := Zn BK204.out 2))
 refine bodyPost_ret (results_cell_row rfl _ _ gb204 55 #[.string a0_0, .slice Ao13 t206.length co13, .slice Ao17 t209.length co17] (0, 0) _ rfl (by (with_reducible repeat (first | refine Za ?_ _ | refine Zb ?_ | refine blk_alloc ?_ _)); refine blk_put (cs := #[.string a0_0, .slice Ao13 t206.length co13, .slice none 0 0]) ?_ 2 _ rfl; (with_reducible repeat (first | refine Za ?_ _ | refine Zb ?_ | refine blk_alloc ?_ _)); refine blk_put (cs := #[.string a0_0, .slice none 0 0, .slice none 0 0]) ?_ 1 _ rfl; (with_reducible repeat (first | refine Za ?_ _ | refine Zb ?_ | refine blk_alloc ?_ _)); refine blk_put (cs := #[.string (⟨#[]⟩ : ByteArray), .slice none 0 0, .slice none 0 0]) ?_ 0 _ rfl; (with_reducible repeat (first | refine Za ?_ _ | refine Zb ?_ | refine blk_alloc ?_ _)); refine Zp ?_ NB204_205.out _; (with_reducible repeat (first | refine Za ?_ _ | refine Zb ?_ | refine blk_alloc ?_ _)); exact BK204.out) Tryd.underlying55 rfl (by kernel_rfl)) rfl ?_
 exact ⟨_, _, by first | rfl | (simp [errW_none, errW_some] <;> rfl) | (simp [*, errW_none, errW_some] <;> rfl), by (with_reducible repeat (first | apply R_alloc | apply R_drewN | apply R_drew)); exact R_mono (R_far (p := ⟨gb204, 2, none⟩) (R_far (p := ⟨gb204, 1, none⟩) (R_far (p := ⟨gb204, 0, none⟩) (R_far (p := ⟨gb205, 2, none⟩) (R_types (R_types HO208.out BK205.out (by decide)) BK204.out (by decide)) (fun _ hk => hk.1.2) (.slice Ao17 t209.length co17)) (fun _ hk => hk.2) (.string a0_0)) (fun _ hk => hk.2) (.slice Ao13 t206.length co13)) (fun _ hk => hk.2) (.slice Ao17 t209.length co17)) (fun _ hk => hk.1.1.2), by (with_reducible repeat (first | apply R_alloc | apply R_drewN | apply R_drew)); exact R_mono (R_far (p := ⟨gb204, 2, none⟩) (R_far (p := ⟨gb204, 1, none⟩) (R_far (p := ⟨gb204, 0, none⟩) (R_far (p := ⟨gb205, 2, none⟩) (R_types (R_types HO211.out BK205.out (by decide)) BK204.out (by decide)) (fun _ hk => hk.1.2) (.slice Ao17 t209.length co17)) (fun _ hk => hk.2) (.string a0_0)) (fun _ hk => hk.2) (.slice Ao13 t206.length co13)) (fun _ hk => hk.2) (.slice Ao17 t209.length co17)) (fun _ hk => hk.1.1.2), by repeat (first | (with_reducible first | exact HB.out | apply Zf | apply Zd | apply Ze | refine Zg ?_ GE203.out | refine Zg ?_ GE204.out | refine Zg ?_ GE205.out) | exact HB.out)⟩
def laws_toFileS.l0 : Nat → List (S83) → List (S55) → Int → Option ((List (S55)))
 | 0, _, _, _ => none
 | k + 1, x0, x3, x4 => if x4 < (x0.length : Int) then (if 0 ≤ x4 then ((laws_toFile.f k ((rd_T83 x0 x4).f0) ((rd_T83 x0 x4).f1) ((rd_T83 x0 x4).f2)).bind fun bt216 => (if x4 < (x3.length : Int) then (laws_toFileS.l0 k x0 (x3.set (x4 : Int).toNat (⟨bt216.1, bt216.2.1, bt216.2.2⟩ : S55)) (wrap64 (x4 + 1))) else (none))) else (none)) else (some x3)
def laws_toFileS.f (k : Nat) (l0 : List (S83)) : Option ((List (S55))) := if 0 ≤ (l0.length : Int) then (if ((l0.length : Int) : Int).toNat ≤ 4398046511104 then (laws_toFileS.l0 k l0 (List.replicate ((l0.length : Int) : Int).toNat z55) 0) else (none)) else (none)
set_option maxHeartbeats 8000000 in
set_option maxRecDepth 100000 in
theorem laws_toFileS.calls (k : Nat) (A0 : Option Addr) (c0 : Nat) (l0 : List (S83)) (r : List (S55)) (w : World) (hr0 : Kd.C k83 w A0 l0.length l0) (hc0 : l0.length ≤ c0) (h : laws_toFileS.f k l0 = some r) :
  Calls Tryd.prog 44 #[.slice A0 l0.length c0] w fun e w' => ∃ v0_ : Value, e = .returned (v0_) ∧ Kd.S k55 55 w' w.heap.size (fun _ => True) v0_ r ∧ Below w.heap.size w w' := by
 have hu83 := Tryd.underlying83
 have hu55 := Tryd.underlying55
 have HR0 := Zh hr0
 have HC0 := Zh hc0
 clear hr0 hc0
 have HB := Zh (Below.refl w.heap.size w)
 have H : (if 0 ≤ (l0.length : Int) then (if ((l0.length : Int) : Int).toNat ≤ 4398046511104 then (laws_toFileS.l0 k l0 (List.replicate ((l0.length : Int) : Int).toNat z55) 0) else (none)) else (none)) = some r := h
 clear h
 by_cases c2 : 0 ≤ (l0.length : Int)
 ·
  rw [if_pos c2] at H
  have c2b0 := eq_true c2
  have c2b1 : decide (0 ≤ (l0.length : Int)) = true := decide_eq_true c2
  clear c2
  by_cases c3 : ((l0.length : Int) : Int).toNat ≤ 4398046511104
  ·
   rw [if_pos c3] at H
   have c3b0 := eq_true c3
   have c3b1 : decide (((l0.length : Int) : Int).toNat ≤ 4398046511104) = true := decide_eq_true c3
   clear c3
   obtain ⟨y212, hy212⟩ : ∃ y_ : List (S55), y_ = (List.replicate ((l0.length : Int) : Int).toNat z55) := ⟨_, rfl⟩
   replace H : (laws_toFileS.l0 k l0 y212 0) = some r := by first | (rw [hy212]; with_reducible exact H) | (have H2_ := (Option.bind_some _ _).symm.trans H; rw [hy212]; with_reducible exact H2_) | (have H2_ := (Option.bind_some _ _).symm.trans H; with_reducible exact H2_) | with_reducible exact H | (rw [hy212]; exact H) | exact H
   have Ny212 := Zh hy212
   clear hy212
   have H' := Zh H
   clear H
   go_enter Tryd.func44, Tryd.ntmps44
   go_wp2_with (first | ((with_reducible refine gate_dst (N := 7) rfl ?_); refine S_make k55 _ 55 rfl (N := 7) rfl 26 _ _ rfl (l0.length : Int) rfl rfl Tryd.underlying26 (.agg #[(.string ⟨#[]⟩), (.slice none 0 0), (.slice none 0 0)]) 64 info55 rfl (by decide) (by omega) z55 (ok := fun _ => True) (okp := fun _ => True) (k55_mkM _ _ _ z55 (R_nil _ _ _ _ _) (R_nil _ _ _ _ _) AP.ne_nil) (fun _ hk => hk) trivial (Zo) (Nat.le_trans (Nat.mul_le_mul_right _ (Zo : (l0.length : Int).toNat ≤ 4398046511104)) (by omega)) (Below.refl _ _) (Nat.le_refl _) ?_; intro v213 w4 ho5 hb hg_ hnew_; clear hg_ hnew_; (first | rw [← Ny212.out] at ho5 | (simp only [Int.reduceToNat] at ho5; rw [← Ny212.out] at ho5)); have n0_ := Zh (S_lower ho5 (below_size Zs)); have n1_ := Zh (Zl Zs hb); clear HB; have HO214 := n0_; have HB := n1_; clear n0_ n1_; clear hb ho5))
   go_loopg [4] k (fun kq v4 w' => ∃ (x3_1 : List (S55)) (x4_1 : Int), v4 = .int .i64 x4_1 ∧ Aside0 (laws_toFileS.l0 kq l0 x3_1 x4_1 = some r) ∧ Aside0 (kq ≤ k) ∧ Aside0 (Kd.S k55 55 w' w.heap.size (fun _ => True) v213 x3_1) ∧ Aside0 (Below w.heap.size w w'))
   case atStart => exact ⟨(y212), (0), (by first | rfl | (simp; done) | (simp [*]; done)), H', ⟨Nat.le_refl _⟩, ⟨by (with_reducible repeat (first | apply S_alloc | apply S_drewN | apply S_drew)); exact HO214.out⟩, ⟨by repeat (first | (with_reducible first | exact HB.out | apply Zf | apply Zd | apply Ze) | exact HB.out)⟩⟩
   case round =>
    clear H'
    try clear c2
    try clear c2b0
    try clear c2b1
    try clear p2
    try clear c3
    try clear c3b0
    try clear c3b1
    try clear c4
    obtain ⟨x3_1, x4_1, rfl, HA, HK1, HO_3, HB⟩ := hrel
    cases gk with
    | zero => exact absurd HA.out (by simp [laws_toFileS.l0])
    | succ k1 =>
     have H := HA.out
     clear HA
     simp only [laws_toFileS.l0] at H
     by_cases c6 : x4_1 < (l0.length : Int)
     ·
      rw [if_pos c6] at H
      have c6b0 : decide (x4_1 < (l0.length : Int)) = true := decide_eq_true c6
      clear c6
      by_cases c7 : 0 ≤ x4_1
      ·
       rw [if_pos c7] at H
       have c7b0 : decide (0 ≤ x4_1) = true := decide_eq_true c7
       clear c7
       replace H := Option.bind_eq_some_iff.mp H
       obtain ⟨⟨t216, t217, t220⟩, A80, H⟩ := H
       replace H : (if x4_1 < (x3_1.length : Int) then (laws_toFileS.l0 k1 l0 (x3_1.set (x4_1 : Int).toNat (⟨t216, t217, t220⟩ : S55)) (wrap64 (x4_1 + 1))) else (none)) = some r := H
       have A8 := Zh A80
       clear A80
       by_cases c9 : x4_1 < (x3_1.length : Int)
       ·
        rw [if_pos c9] at H
        have c9b0 : decide (x4_1 < (x3_1.length : Int)) = true := decide_eq_true c9
        clear c9
        obtain ⟨y223, hy223⟩ : ∃ y_ : List (S55), y_ = (x3_1.set (x4_1 : Int).toNat (⟨t216, t217, t220⟩ : S55)) := ⟨_, rfl⟩
        replace H : (laws_toFileS.l0 k1 l0 y223 (wrap64 (x4_1 + 1))) = some r := by first | (rw [hy223]; with_reducible exact H) | (have H2_ := (Option.bind_some _ _).symm.trans H; rw [hy223]; with_reducible exact H2_) | (have H2_ := (Option.bind_some _ _).symm.trans H; with_reducible exact H2_) | with_reducible exact H | (rw [hy223]; exact H) | exact H
        have Ny223 := Zh hy223
        clear hy223
        have H' := Zh H
        clear H
        have p215 : 0 ≤ (x4_1 : Int) := Zo
        have q215 : x4_1 < (l0.length : Int) := Zo
        obtain ⟨ad215, A215_1, c215_1, A215_2, c215_2, e215, hx215_0, hx215_1, hx215_2, hl215_1, hi215_1, hl215_2, hi215_2⟩ := at_T83 HR0.out x4_1 p215 q215
        cases e215
        replace hx215_0 := Zc HB.out hx215_0
        replace hx215_1 := Zc HB.out hx215_1
        replace hx215_2 := Zc HB.out hx215_2
        have HR215_1 := Zh hi215_1
        have HC215_1 := Zh hl215_1
        clear hi215_1 hl215_1
        have HR215_2 := Zh hi215_2
        have HC215_2 := Zh hl215_2
        clear hi215_2 hl215_2
        replace p215 := eq_true p215
        replace q215 := eq_true q215
        go_wp2_with (first | ((with_reducible refine gate_callee (f := 78) rfl ?_); refine goesL_ (some 20) rfl rfl Tryd.func78 (by kernel_rfl) rfl #[.agg #[.string ((rd_T83 l0 x4_1).f0), .slice A215_1 ((rd_T83 l0 x4_1).f1).length c215_1, .slice A215_2 ((rd_T83 l0 x4_1).f2).length c215_2]] rfl (by (try simp only [List.map_toArray, List.map_cons, List.map_nil]); first | done | rfl | (simp only [List.length_drop, List.length_take]; rfl)) ?_; (with_reducible refine (laws_toFile.calls k1 ((rd_T83 l0 x4_1).f0) _ _ ((rd_T83 l0 x4_1).f1) _ _ ((rd_T83 l0 x4_1).f2) t216 t217 t220 _ ?side1 ?side2 ?side3 ?side4 A8.out).mono ?_); (case side1 => repeat (first | exact (C_below HR215_1.out HB.out) | (with_reducible refine C_alloc ?_ _) | (with_reducible refine C_drewN ?_ _) | (with_reducible refine C_drew ?_))); (case side2 => exact HC215_1.out); (case side3 => repeat (first | exact (C_below HR215_2.out HB.out) | (with_reducible refine C_alloc ?_ _) | (with_reducible refine C_drewN ?_ _) | (with_reducible refine C_drew ?_))); (case side4 => exact HC215_2.out); rintro e w11 ⟨v218, v221, rfl, ho0, ho1, hb⟩; refine ⟨_, rfl, ?_⟩; have n0_ := Zh (S_mono (S_told (S_told (S_old (by (with_reducible repeat (first | apply S_alloc | apply S_drewN | apply S_drew)); exact HO_3.out) hb) (R_base ho0)) (R_base ho1)) (fun _ h_ => h_.1)); have n1_ := Zh (R_lower ho0 (below_size Zs)); have n2_ := Zh (R_lower ho1 (below_size Zs)); have n3_ := Zh (Zl Zs hb); clear HO_3; clear HB; have HO_3 := n0_; have HO219 := n1_; have HO222 := n2_; have HB := n3_; clear n0_ n1_ n2_ n3_; (try clear hb); (try clear hb2); (try clear hk); (try clear hi); (try clear ho0); (try clear ho1); have p10 : 0 ≤ (x4_1 : Int) := Zo; have q10 : (x4_1 : Int) < ((x3_1.length : Int) : Int) := Zo; obtain ⟨go10, co10, eo10, gb10, gl10, cl10, HG10⟩ := S_form HO_3.out (by omega); (first | cases eo10 | (injection eo10 with ea_ en_ ec_; (first | subst ea_ | (injection ea_ with ea_; subst ea_)); subst ec_; clear en_)); have GB10 := Zh gb10; have GG10 := Zh HG10; clear gb10 gl10 HG10; obtain ⟨_, ce10, hcl10, hM10, hcc10, hfr10, _, _⟩ := S_elem HO_3.out z55 (x4_1 : Int) p10 q10; obtain ⟨ve10_1, ve10_2, rfl, ge10_1, ge10_2⟩ := k55_openM hM10; have hx10_0 : w11.cell? ⟨go10, (x4_1 : Int).toNat * 3, none⟩ = some (.string ((rd_T55 x3_1 x4_1).f0)) := hcc10 0 _ rfl; have hx10_1 : w11.cell? ⟨go10, (x4_1 : Int).toNat * 3 + 1, none⟩ = some (ve10_1) := hcc10 1 _ rfl; have hx10_2 : w11.cell? ⟨go10, (x4_1 : Int).toNat * 3 + 2, none⟩ = some (ve10_2) := hcc10 2 _ rfl; have hf10_0 : w11.frozen? ⟨go10, (x4_1 : Int).toNat * 3, none⟩ = false := hfr10 0; have hf10_1 : w11.frozen? ⟨go10, (x4_1 : Int).toNat * 3 + 1, none⟩ = false := hfr10 1; have hf10_2 : w11.frozen? ⟨go10, (x4_1 : Int).toNat * 3 + 2, none⟩ = false := hfr10 2; clear hcl10 hcc10 hfr10; (try clear hM10); replace p10 := eq_true p10; replace q10 := eq_true q10; obtain ⟨Ao14, co14, eo14⟩ := R_slice HO219.out; subst eo14; obtain ⟨Ao15, co15, eo15⟩ := R_slice HO222.out; subst eo15; have n_ := Zh (S_mono (ok' := (fun k_ => some k_ ≠ (.slice Ao14 t217.length co14 : Value).ownBlock ∧ some k_ ≠ (.slice Ao15 t220.length co15 : Value).ownBlock)) HO_3.out (fun k_ hk => ⟨hk.1.2, hk.2⟩)); clear HO_3; have HO_3 := n_; clear n_; have HX12 := Zh (show Kd.S k55 55 w11 w.heap.size (fun k_ => ((fun _ => True)) k_ ∧ ¬ ((fun k_ => some k_ = (.slice Ao14 t217.length co14 : Value).ownBlock ∨ some k_ = (.slice Ao15 t220.length co15 : Value).ownBlock)) k_) (.slice (some ⟨go10, 0, none⟩) x3_1.length co10) x3_1 from (by (with_reducible repeat (first | apply S_alloc | apply S_drewN | apply S_drew)); exact S_mono HO_3.out (fun k_ hk => ⟨trivial, fun e_ => e_.elim (fun h_ => hk.1 h_) (fun h_ => hk.2 h_)⟩))); obtain ⟨oki12, ce12, hcl12, hM12, hcc12, hfr12, hoki12, hH12⟩ := S_elem HX12.out z55 (x4_1 : Int) (Zo) (by have h_ : (x4_1 : Int) < ((x3_1.length : Int) : Int) := Zo; first | exact h_ | (have e_ := (S_reads' HO_3.out).1; omega) | simpa using h_); obtain ⟨ve12_1, ve12_2, rfl, ge12_1, ge12_2⟩ := k55_openM hM12; have HP12 := S_seg hH12 (Zo) (by have h_ : (x4_1 : Int) < ((x3_1.length : Int) : Int) := Zo; first | exact h_ | (have e_ := (S_reads' HO_3.out).1; omega) | simpa using h_) (seg := [.string t216, .slice Ao14 t217.length co14, .slice Ao15 t220.length co15]) (j := 0) (show 3 ≤ 3 from by decide) (x' := (⟨t216, t217, t220⟩ : S55)) (k55_mkM _ _ _ (⟨t216, t217, t220⟩ : S55) (R_mono (R_tight rfl (R_mono (ok' := fun k_ => ((fun _ => True)) k_ ∧ k_ ≠ go10) (R_apart' (HO219.out) (S_typed HO_3.out) (by decide)) (fun k_ hk => ⟨trivial, fun e_ => (hk.2) (by rw [e_]; rfl)⟩))) (fun _ h_ => Or.inr (Or.inl h_))) (R_mono (R_tight rfl (R_mono (ok' := fun k_ => ((fun _ => True)) k_ ∧ k_ ≠ go10) (R_apart' (HO222.out) (S_typed HO_3.out) (by decide)) (fun k_ hk => ⟨trivial, fun e_ => (hk.2) (by rw [e_]; rfl)⟩))) (fun _ h_ => Or.inr (Or.inr (h_)))) (AP.ne_of (HO219.out) (HO222.out) (by first | exact .inl (fun k_ hk_ => by first | exact hk_ | exact hk_.1 | exact hk_.2 | exact hk_.1.1 | exact hk_.1.2 | exact hk_.2.1 | exact hk_.2.2) | exact .inr (fun k_ hk_ => by first | exact hk_ | exact hk_.1 | exact hk_.2 | exact hk_.1.1 | exact hk_.1.2 | exact hk_.2.1 | exact hk_.2.2)))) (fun _ hk => hk) (fun k_ hk_ => hk_.elim (fun h_ => ((R_mono (ok' := fun k_ => ((fun _ => True)) k_ ∧ k_ ≠ go10) (R_apart' (HO219.out) (S_typed HO_3.out) (by decide)) (fun k_ hk => ⟨trivial, fun e_ => (hk.2) (by rw [e_]; rfl)⟩))).1 k_ h_.symm) (fun h_ => ((R_mono (ok' := fun k_ => ((fun _ => True)) k_ ∧ k_ ≠ go10) (R_apart' (HO222.out) (S_typed HO_3.out) (by decide)) (fun k_ hk => ⟨trivial, fun e_ => (hk.2) (by rw [e_]; rfl)⟩))).1 k_ h_.symm)); have hx12_0 := hcc12 0 _ rfl; (try simp only [show (k55).sz = 3 from rfl, Nat.mul_one, Nat.add_zero] at hx12_0); have hf12_0 := hfr12 0; (try simp only [show (k55).sz = 3 from rfl, Nat.mul_one, Nat.add_zero] at hf12_0); have hx12_1 := hcc12 1 _ rfl; (try simp only [show (k55).sz = 3 from rfl, Nat.mul_one, Nat.add_zero] at hx12_1); have hf12_1 := hfr12 1; (try simp only [show (k55).sz = 3 from rfl, Nat.mul_one, Nat.add_zero] at hf12_1); have hx12_2 := hcc12 2 _ rfl; (try simp only [show (k55).sz = 3 from rfl, Nat.mul_one, Nat.add_zero] at hx12_2); have hf12_2 := hfr12 2; (try simp only [show (k55).sz = 3 from rfl, Nat.mul_one, Nat.add_zero] at hf12_2); clear hcl12 hcc12 hfr12; (try clear hM12); (try clear hoki12); (try clear hH12)) | ((with_reducible refine gate_store (t := 55) (p := 21) rfl ?_); refine store_event (t := 55) (p := 21) (v := ?vo_w13) (w1 := (((w11.setCell ⟨go10, (x4_1 : Int).toNat * 3, none⟩ (.string t216)).setCell ⟨go10, (x4_1 : Int).toNat * 3 + 1, none⟩ (.slice Ao14 t217.length co14)).setCell ⟨go10, (x4_1 : Int).toNat * 3 + 2, none⟩ (.slice Ao15 t220.length co15))) ?hg ?ho ?hn ?hr ?_; (case ho => rfl); (case hg => rfl); (case hn => rfl); (case hr => first | (go_simp; done) | (go_simp; rfl)); intro w13 hw; have hg : w11.grownBy w13 (some go10) := (by rw [hw]; exact HP12.2); have hp_ : Kd.S k55 55 w13 w.heap.size (fun _ => True) (.slice (some ⟨go10, 0, none⟩) x3_1.length co10) y223 := (by rw [hw, Ny223.out]; exact HP12.1); clear HP12; have n0_ := Zh (hp_); have n1_ := Zh ((by rw [hw]; exact Zg (Zg (Zg (HB.out) GB10.out) GB10.out) GB10.out : Below w.heap.size w w13)); clear HO_3; clear HB; clear HO219; clear HO222; have HO_3 := n0_; have HB := n1_; clear n0_ n1_; clear hg hw hp_))
        go_roundg k1
        case measure => have := HK1.out; omega
        case rel => exact ⟨(y223), (wrap64 (x4_1 + 1)), (by first | rfl | (simp; done) | (simp [*]; done)), H', ⟨by have := HK1.out; omega⟩, ⟨by (with_reducible repeat (first | apply S_alloc | apply S_drewN | apply S_drew)); exact HO_3.out⟩, ⟨by repeat (first | (with_reducible first | exact HB.out | apply Zf | apply Zd | apply Ze) | exact HB.out)⟩⟩
       rw [if_neg c9] at H
       exact absurd H (by simp)
      rw [if_neg c7] at H
      exact absurd H (by simp)
     rw [if_neg c6] at H
     have c6b0 : decide (x4_1 < (l0.length : Int)) = false := decide_eq_false c6
     clear c6
     obtain rfl := Option.some.inj H
     go_wp2
     go_ret
     exact ⟨_, by first | rfl | (simp [errW_none, errW_some] <;> rfl) | (simp [*, errW_none, errW_some] <;> rfl), by (with_reducible repeat (first | apply S_alloc | apply S_drewN | apply S_drew)); exact HO_3.out, by repeat (first | (with_reducible first | exact HB.out | apply Zf | apply Zd | apply Ze) | exact HB.out)⟩
  rw [if_neg c3] at H
  exact absurd H (by simp)
 rw [if_neg c2] at H
 exact absurd H (by simp)
def laws_toDisk.f (k : Nat) (l0_0 : List (S83)) : Option ((List (S55))) := (laws_toFileS.f k l0_0).bind fun t227 => (some t227)
set_option maxHeartbeats 8000000 in
set_option maxRecDepth 100000 in
theorem laws_toDisk.calls (k : Nat) (A0_0 : Option Addr) (c0_0 : Nat) (l0_0 : List (S83)) (r : List (S55)) (w : World) (hr0_0 : Kd.C k83 w A0_0 l0_0.length l0_0) (hc0_0 : l0_0.length ≤ c0_0) (h : laws_toDisk.f k l0_0 = some r) :
  Calls Tryd.prog 13 #[.agg #[.slice A0_0 l0_0.length c0_0]] w fun e w' => ∃ v0_ : Value, e = .returned (.agg #[v0_]) ∧ Kd.S k55 55 w' w.heap.size (fun _ => True) v0_ r ∧ Below w.heap.size w w' := by
 have hu24 := Tryd.underlying24
 have hu28 := Tryd.underlying28
 have HR0_0 := Zh hr0_0
 have HC0_0 := Zh hc0_0
 clear hr0_0 hc0_0
 have HB := Zh (Below.refl w.heap.size w)
 have H : ((laws_toFileS.f k l0_0).bind fun t227 => (some t227)) = some r := h
 clear h
 replace H := Option.bind_eq_some_iff.mp H
 obtain ⟨t227, A20, H⟩ := H
 replace H : (some t227) = some r := H
 have A2 := Zh A20
 clear A20
 obtain rfl := Option.some.inj H
 go_enter Tryd.func13, Tryd.ntmps13
 go_wp2_with (first | ((with_reducible refine gate_dst (N := 1) rfl ?_); refine box_event ?hg (N := 1) ?hd (cs := #[.slice A0_0 l0_0.length c0_0]) (t := 24) ?hr ?_; (case hd => rfl); (case hg => rfl); (case hr => first | (go_simp; done) | (go_simp; rfl)); intro gb224 hg w3 hbox hb; have n0_ := Zh (Zl Zs hb); have n1_ := Zh (hbox); have n2_ := Zh ((by rw [hg]; exact (below_size Zs) : w.heap.size ≤ gb224)); have n3_ := Zh ((by rw [hg]; exact (below_size Zs) : w.heap.size ≤ gb224)); clear HB; have HB := n0_; have BK224 := n1_; have GW224 := n2_; have GE224 := n3_; clear n0_ n1_ n2_ n3_; clear hb hbox hg) | ((with_reducible refine gate_dst (N := 2) rfl ?_); refine box_event ?hg (N := 2) ?hd (cs := #[.slice none 0 0]) (t := 28) ?hr ?_; (case hd => rfl); (case hg => rfl); (case hr => first | (go_simp; done) | (go_simp; rfl)); intro gb225 hg w4 hbox hb; have n0_ := Zh (Zm (g := gb224) (o := .cells #[.slice A0_0 l0_0.length c0_0] 24 (0, 0)) Zk hb); have n1_ := Zh (Zl Zs hb); have n2_ := Zh (hbox); have n3_ := Zh ((by rw [hg]; exact (below_size Zs) : w.heap.size ≤ gb225)); have n4_ := Zh ((by rw [hg]; exact (below_size Zs) : w.heap.size ≤ gb225)); have n5_ := Zh ((by rw [hg]; exact Nat.ne_of_lt (blk_lt (g := gb224) (o := .cells #[.slice A0_0 l0_0.length c0_0] 24 (0, 0)) Zk) : gb224 ≠ gb225)); have n6_ := Zh ((by rw [hg]; exact Nat.ne_of_gt (blk_lt (g := gb224) (o := .cells #[.slice A0_0 l0_0.length c0_0] 24 (0, 0)) Zk) : gb225 ≠ gb224)); clear BK224; clear HB; have BK224 := n0_; have HB := n1_; have BK225 := n2_; have GW225 := n3_; have GE225 := n4_; have NB224_225 := n5_; have NB225_224 := n6_; clear n0_ n1_ n2_ n3_ n4_ n5_ n6_; clear hb hbox hg) | ((with_reducible refine gate_dst (N := 3) rfl ?_); refine box_event ?hg (N := 3) ?hd (cs := #[.slice none 0 0]) (t := 28) ?hr ?_; (case hd => rfl); (case hg => rfl); (case hr => first | (go_simp; done) | (go_simp; rfl)); intro gb226 hg w5 hbox hb; have n0_ := Zh (Zm (g := gb224) (o := .cells #[.slice A0_0 l0_0.length c0_0] 24 (0, 0)) Zk hb); have n1_ := Zh (Zm (g := gb225) (o := .cells #[.slice none 0 0] 28 (0, 0)) Zk hb); have n2_ := Zh (Zl Zs hb); have n3_ := Zh (hbox); have n4_ := Zh ((by rw [hg]; exact (below_size Zs) : w.heap.size ≤ gb226)); have n5_ := Zh ((by rw [hg]; exact (below_size Zs) : w.heap.size ≤ gb226)); have n6_ := Zh ((by rw [hg]; exact Nat.ne_of_lt (blk_lt (g := gb224) (o := .cells #[.slice A0_0 l0_0.length c0_0] 24 (0, 0)) Zk) : gb224 ≠ gb226)); have n7_ := Zh ((by rw [hg]; exact Nat.ne_of_gt (blk_lt (g := gb224) (o := .cells #[.slice A0_0 l0_0.length c0_0] 24 (0, 0)) Zk) : gb226 ≠ gb224)); have n8_ := Zh ((by rw [hg]; exact Nat.ne_of_lt (blk_lt (g := gb225) (o := .cells #[.slice none 0 0] 28 (0, 0)) Zk) : gb225 ≠ gb226)); have n9_ := Zh ((by rw [hg]; exact Nat.ne_of_gt (blk_lt (g := gb225) (o := .cells #[.slice none 0 0] 28 (0, 0)) Zk) : gb226 ≠ gb225)); clear BK224; clear BK225; clear HB; have BK224 := n0_; have BK225 := n1_; have HB := n2_; have BK226 := n3_; have GW226 := n4_; have GE226 := n5_; have NB224_226 := n6_; have NB226_224 := n7_; have NB225_226 := n8_; have NB226_225 := n9_; clear n0_ n1_ n2_ n3_ n4_ n5_ n6_ n7_ n8_ n9_; clear hb hbox hg; have hnb6 := NB224_225.out; have hnc6 := NB225_224.out; have hnb7 := NB224_226.out; have hnc7 := NB226_224.out; have hcz8_0 : w5.cell? ⟨gb224, 0, none⟩ = some (.slice A0_0 l0_0.length c0_0) := (blk_cell BK224.out 0).trans rfl; have hfz8_0 := Zn BK224.out 0) | ((with_reducible refine gate_callee (f := 44) rfl ?_); refine goesL_ (some 6) rfl rfl Tryd.func44 (by kernel_rfl) rfl #[.slice A0_0 l0_0.length c0_0] rfl (by (try simp only [List.map_toArray, List.map_cons, List.map_nil]); first | done | rfl | (simp only [List.length_drop, List.length_take]; rfl)) ?_; (with_reducible refine (laws_toFileS.calls k _ _ l0_0 t227 _ ?side1 ?side2 A2.out).mono ?_); (case side1 => repeat (first | exact (C_below HR0_0.out HB.out) | (with_reducible refine C_alloc ?_ _) | (with_reducible refine C_drewN ?_ _) | (with_reducible refine C_drew ?_))); (case side2 => exact HC0_0.out); rintro e w9 ⟨v228, rfl, ho0, hb⟩; refine ⟨_, rfl, ?_⟩; have n0_ := Zh (S_lower ho0 (below_size Zs)); have n1_ := Zh (Zm (g := gb224) (o := .cells #[.slice A0_0 l0_0.length c0_0] 24 (0, 0)) Zk hb); have n2_ := Zh (Zm (g := gb225) (o := .cells #[.slice none 0 0] 28 (0, 0)) Zk hb); have n3_ := Zh (Zm (g := gb226) (o := .cells #[.slice none 0 0] 28 (0, 0)) Zk hb); have n4_ := Zh (Zl Zs hb); clear BK224; clear BK225; clear BK226; clear HB; have HO229 := n0_; have BK224 := n1_; have BK225 := n2_; have BK226 := n3_; have HB := n4_; clear n0_ n1_ n2_ n3_ n4_; (try clear hb); (try clear hb2); (try clear hk); (try clear hi); (try clear ho0); obtain ⟨Ao10, co10, eo10⟩ := S_slice HO229.out; subst eo10; have hnb11 := NB226_225.out; have hnc11 := NB225_226.out; have hcz12_0 : w9.cell? ⟨gb226, 0, none⟩ = some (.slice none 0 0) := (blk_cell BK226.out 0).trans rfl; have hfz12_0 := Zn BK226.out 0; have hcz13_0 : w9.cell? ⟨gb225, 0, none⟩ = some (.slice none 0 0) := (blk_cell BK225.out 0).trans rfl; have hfz13_0 := Zn BK225.out 0))
 refine bodyPost_ret (results_cell_row rfl _ _ gb225 28 #[.slice Ao10 t227.length co10] (0, 0) _ rfl (by (with_reducible repeat (first | refine Za ?_ _ | refine Zb ?_ | refine blk_alloc ?_ _)); refine blk_put (cs := #[.slice none 0 0]) ?_ 0 _ rfl; (with_reducible repeat (first | refine Za ?_ _ | refine Zb ?_ | refine blk_alloc ?_ _)); refine Zp ?_ NB225_226.out _; (with_reducible repeat (first | refine Za ?_ _ | refine Zb ?_ | refine blk_alloc ?_ _)); exact BK225.out) Tryd.underlying28 rfl (by kernel_rfl)) rfl ?_
 exact ⟨_, by first | rfl | (simp [errW_none, errW_some] <;> rfl) | (simp [*, errW_none, errW_some] <;> rfl), by (with_reducible repeat (first | apply S_alloc | apply S_drewN | apply S_drew)); exact S_mono (S_far (p := ⟨gb225, 0, none⟩) (S_far (p := ⟨gb226, 0, none⟩) (S_types (S_types HO229.out BK226.out (by decide)) BK225.out (by decide)) (fun _ hk => hk.1.2) (.slice Ao10 t227.length co10)) (fun _ hk => hk.2) (.slice Ao10 t227.length co10)) (fun _ hk => trivial), by repeat (first | (with_reducible first | exact HB.out | apply Zf | apply Zd | apply Ze | refine Zg ?_ GE224.out | refine Zg ?_ GE225.out | refine Zg ?_ GE226.out) | exact HB.out)⟩
end Go.Proofs.YtcgojdhbphocgaaDoor.F

namespace Go.Proofs.YtcgojdhbphocgaaDoor.SQ
open Go.RowKit Go.Proofs.YtcgojdhbphocgaaDoorW.PrintWords Go.Proofs.YtcgojdhbphocgaaDoorW.PrintLast Go.Proofs.YtcgojdhbphocgaaDoorW.PrintMore
section
variable {P : Program} {md : Region.Mode} {ops : Array Oper} {ds : List Nat} {S : World → Prop} {Q : Exit → Act → World → Prop} {oi : Oper} {v : Value} {fuel : Nat} {l : Array Bool} {a a' : Act} {w : World} {T : Bool × List (List Nat × List Nat)} {B : List Nat}
theorem pu (i N : Nat) (hT : Aside0 (rtab md ops = T)) (h : wpAnyLast P md ops Q S ds fuel (l.setIfInBounds i true) a' w)
    (hk : anyT T l.toList (l.setIfInBounds i true).toList i = true := by kernel_rfl) (hi : ops[i]? = some oi := by rfl) (hN : oi.dst = some N := by rfl) (hQ : ∀ c a w, Q (.panic c) (a.put oi.dst v) w → Q (.panic c) a w := by exact fun _ _ _ h => h)
    (hw : Region.wanted oi (yielded ops a.tmps) = true := by rfl) (hv : ∀ w', (execOp a.eval oi).run P w' = .ok (.value v) w' := by intro w'; go_simp; with_reducible rfl)
    (ha : a.put (some N) v = a' := by simp only [Act.put, List.setIfInBounds_toArray, List.set_cons_zero, List.set_cons_succ, i64_w, i32_w]; rfl) : wpAnyLast P md ops Q S ds (fuel + 1) l a w :=
  pure_ (l.setIfInBounds i true) hi hN (any_of hT.out hk) hQ (.inl ⟨hw, hv⟩) ha h
theorem of (i N : Nat) (hT : Aside0 (rtab md ops = T)) (h : wpAnyLast P md ops Q S ds fuel (l.setIfInBounds i true) a' w)
    (hk : anyT T l.toList (l.setIfInBounds i true).toList i = true := by kernel_rfl) (hi : ops[i]? = some oi := by rfl) (hN : oi.dst = some N := by rfl) (hQ : ∀ c a w, Q (.panic c) (a.put oi.dst undef) w → Q (.panic c) a w := by exact fun _ _ _ h => h)
    (hw : Region.wanted oi (yielded ops a.tmps) = false := by rfl)
    (ha : a.put (some N) undef = a' := by simp only [Act.put, List.setIfInBounds_toArray, List.set_cons_zero, List.set_cons_succ, i64_w, i32_w]; rfl) : wpAnyLast P md ops Q S ds (fuel + 1) l a w :=
  pure_ (l.setIfInBounds i true) hi hN (any_of hT.out hk) hQ (.inr ⟨hw, rfl⟩) ha h
theorem tk (i N : Nat) (hT : Aside0 (rtab md ops = T)) (hB : Aside0 (waitsOk T.2 B = true)) (hS : S w) (h : wpAnyLast P md ops Q S ds fuel (l.setIfInBounds i true) a' w)
    (hk : takeW T B ds l.toList (l.setIfInBounds i true).toList i = true := by kernel_rfl) (hi : ops[i]? = some oi := by rfl) (hN : oi.dst = some N := by rfl) (hQ : ∀ c a w, Q (.panic c) (a.put oi.dst v) w → Q (.panic c) a w := by exact fun _ _ _ h => h)
    (hw : Region.wanted oi (yielded ops a.tmps) = true := by rfl) (hv : ∀ w', S w' → (execOp a.eval oi).run P w' = .ok (.value v) w' := by intro w' hs_; go_simp; with_reducible rfl)
    (ha : a.put (some N) v = a' := by simp only [Act.put, List.setIfInBounds_toArray, List.set_cons_zero, List.set_cons_succ, i64_w, i32_w]; rfl) : wpAnyLast P md ops Q S ds (fuel + 1) l a w :=
  take_ (l.setIfInBounds i true) hi hN (take_ofW hT.out hB.out hk) hQ (.inl ⟨hw, hv⟩) hS ha h
end
end Go.Proofs.YtcgojdhbphocgaaDoor.SQ

namespace Go.Proofs.YtcgojdhbphocgaaDoor.F
open Go.RowKit Go.Proofs.YtcgojdhbphocgaaDoorW.PrintWords Go.Proofs.YtcgojdhbphocgaaDoorW.PrintWords.Kd Go.Proofs.YtcgojdhbphocgaaDoorW.PrintMore.Kd Go.Proofs.YtcgojdhbphocgaaDoorW.PrintLast Go.Proofs.YtcgojdhbphocgaaDoorW.PrintMore
attribute [local go_sem] max2_int min2_int max_two min_two max_three min_three max_four min_four   -- for this text's walks alone
set_option linter.unusedVariables false
set_option linter.unusedSimpArgs false
def laws_eqByteS.l0 : Nat → List Int → List Int → Int → Option (Bool)
 | 0, _, _, _ => none
 | k + 1, x0, x1, x5 => if x5 < (x0.length : Int) then (if 0 ≤ x5 then (if x5 < (x1.length : Int) then (if (rd x0 x5) = (rd x1 x5) then (laws_eqByteS.l0 k x0 x1 (wrap64 (x5 + 1))) else (some false)) else (none)) else (none)) else (some true)
def laws_eqByteS.f (k : Nat) (l0 : List Int) (l1 : List Int) : Option (Bool) := if (l0.length : Int) = (l1.length : Int) then (laws_eqByteS.l0 k l0 l1 0) else (some false)
set_option maxHeartbeats 8000000 in
set_option maxRecDepth 100000 in
theorem laws_eqByteS.calls (k : Nat) (A0 : Option Addr) (c0 : Nat) (l0 : List Int) (A1 : Option Addr) (c1 : Nat) (l1 : List Int) (r : Bool) (w : World) (hr0 : Kd.C (Kd.int .u8) w A0 l0.length l0) (hc0 : l0.length ≤ c0) (hr1 : Kd.C (Kd.int .u8) w A1 l1.length l1) (hc1 : l1.length ≤ c1) (h : laws_eqByteS.f k l0 l1 = some r) :
  Calls Tryd.prog 30 #[.slice A0 l0.length c0, .slice A1 l1.length c1] w fun e w' => e = .returned (.bool r) ∧ Drawn0 w w' := by
 have HR0 := Zh hr0
 have HC0 := Zh hc0
 clear hr0 hc0
 have HR1 := Zh hr1
 have HC1 := Zh hc1
 clear hr1 hc1
 have H : (if (l0.length : Int) = (l1.length : Int) then (laws_eqByteS.l0 k l0 l1 0) else (some false)) = some r := h
 clear h
 by_cases c3 : (l0.length : Int) = (l1.length : Int)
 ·
  rw [if_pos c3] at H
  have c3b0 : ((l0.length : Int) == (l1.length : Int)) = true := beq_iff_eq.mpr c3
  have c3b1 : ((l0.length : Int) != (l1.length : Int)) = false := bne_eq_false_iff_eq.mpr c3
  have c3b2 : (l0.length == l1.length) = true := by first | simpa using c3 | (simp at c3 ⊢; omega)
  clear c3
  have H' := Zh H
  clear H
  go_enter Tryd.func30, Tryd.ntmps30
  go_wp2
  repeat (go_quiet (fail); try go_wp2)
  go_loopg [5] k (fun kq v5 w' => ∃ (x5_1 : Int), v5 = .int .i64 x5_1 ∧ Aside0 (laws_eqByteS.l0 kq l0 l1 x5_1 = some r) ∧ Aside0 (kq ≤ k) ∧ Drawn0 w w')
  case atStart => exact ⟨(0), (by first | rfl | (simp; done) | (simp [*]; done)), H', ⟨Nat.le_refl _⟩, by repeat (first | exact Drawn0.refl _ | apply Drawn0.step)⟩
  case round =>
   clear H'
   try clear c1
   try clear p2
   try clear c3
   try clear c3b0
   try clear c3b1
   try clear c3b2
   obtain ⟨x5_1, rfl, HA, HK1, ⟨m1, rfl⟩⟩ := hrel
   cases gk with
   | zero => exact absurd HA.out (by simp [laws_eqByteS.l0])
   | succ k1 =>
    have H := HA.out
    clear HA
    simp only [laws_eqByteS.l0] at H
    by_cases c4 : x5_1 < (l0.length : Int)
    ·
     rw [if_pos c4] at H
     have c4b0 : decide (x5_1 < (l0.length : Int)) = true := decide_eq_true c4
     clear c4
     by_cases c5 : 0 ≤ x5_1
     ·
      rw [if_pos c5] at H
      have c5b0 : decide (0 ≤ x5_1) = true := decide_eq_true c5
      clear c5
      by_cases c6 : x5_1 < (l1.length : Int)
      ·
       rw [if_pos c6] at H
       have c6b0 : decide (x5_1 < (l1.length : Int)) = true := decide_eq_true c6
       clear c6
       by_cases c7 : (rd l0 x5_1) = (rd l1 x5_1)
       ·
        rw [if_pos c7] at H
        have c7b0 : ((rd l0 x5_1) == (rd l1 x5_1)) = true := beq_iff_eq.mpr c7
        have c7b1 : ((rd l0 x5_1) != (rd l1 x5_1)) = false := bne_eq_false_iff_eq.mpr c7
        clear c7
        have H' := Zh H
        clear H
        have p273 : 0 ≤ (x5_1 : Int) := Zo
        have q273 : x5_1 < (l0.length : Int) := Zo
        obtain ⟨ad273, e273, hx273_0⟩ := Kd.at_int HR0.out x5_1 p273 q273
        cases e273
        replace p273 := eq_true p273
        replace q273 := eq_true q273
        have p274 : 0 ≤ (x5_1 : Int) := Zo
        have q274 : x5_1 < (l1.length : Int) := Zo
        obtain ⟨ad274, e274, hx274_0⟩ := Kd.at_int HR1.out x5_1 p274 q274
        cases e274
        replace p274 := eq_true p274
        replace q274 := eq_true q274
        go_wp2
        repeat (go_quiet (fail); try go_wp2)
        go_roundg k1
        case measure => have := HK1.out; omega
        case rel => exact ⟨(wrap64 (x5_1 + 1)), (by first | rfl | (simp; done) | (simp [*]; done)), H', ⟨by have := HK1.out; omega⟩, by repeat (first | exact Drawn0.refl _ | apply Drawn0.step)⟩
       rw [if_neg c7] at H
       have c7b0 : ((rd l0 x5_1) == (rd l1 x5_1)) = false := beq_eq_false_iff_ne.mpr c7
       have c7b1 : ((rd l0 x5_1) != (rd l1 x5_1)) = true := bne_iff_ne.mpr c7
       obtain rfl := Option.some.inj H
       have p273 : 0 ≤ (x5_1 : Int) := Zo
       have q273 : x5_1 < (l0.length : Int) := Zo
       obtain ⟨ad273, e273, hx273_0⟩ := Kd.at_int HR0.out x5_1 p273 q273
       cases e273
       replace p273 := eq_true p273
       replace q273 := eq_true q273
       have p274 : 0 ≤ (x5_1 : Int) := Zo
       have q274 : x5_1 < (l1.length : Int) := Zo
       obtain ⟨ad274, e274, hx274_0⟩ := Kd.at_int HR1.out x5_1 p274 q274
       cases e274
       replace p274 := eq_true p274
       replace q274 := eq_true q274
       go_wp2
       repeat (go_quiet (fail); try go_wp2)
       go_ret
       exact ⟨by first | rfl | (simp; done) | (simp [*]; done), by repeat (first | exact Drawn0.refl _ | apply Drawn0.step)⟩
      rw [if_neg c6] at H
      exact absurd H (by simp)
     rw [if_neg c5] at H
     exact absurd H (by simp)
    rw [if_neg c4] at H
    have c4b0 : decide (x5_1 < (l0.length : Int)) = false := decide_eq_false c4
    clear c4
    obtain rfl := Option.some.inj H
    go_wp2
    repeat (go_quiet (fail); try go_wp2)
    go_ret
    exact ⟨by first | rfl | (simp; done) | (simp [*]; done), by repeat (first | exact Drawn0.refl _ | apply Drawn0.step)⟩
 rw [if_neg c3] at H
 have c3b0 : ((l0.length : Int) == (l1.length : Int)) = false := beq_eq_false_iff_ne.mpr c3
 have c3b1 : ((l0.length : Int) != (l1.length : Int)) = true := bne_iff_ne.mpr c3
 have c3b2 : (l0.length == l1.length) = false := by first | simpa using c3 | (simp at c3 ⊢; omega)
 obtain rfl := Option.some.inj H
 go_enter Tryd.func30, Tryd.ntmps30
 go_wp2
 repeat (go_quiet (fail); try go_wp2)
 go_ret
 exact ⟨by first | rfl | (simp; done) | (simp [*]; done), by repeat (first | exact Drawn0.refl _ | apply Drawn0.step)⟩
def laws_eqFile.f (k : Nat) (a0_0 : ByteArray) (l0_1 : List Int) (l0_2 : List Int) (a1_0 : ByteArray) (l1_1 : List Int) (l1_2 : List Int) : Option (Bool) := if a0_0.toList = a1_0.toList then ((laws_eqByteS.f k l0_1 l1_1).bind fun t277 => (if t277 = true then ((laws_eqByteS.f k l0_2 l1_2).bind fun t278 => (if t278 = true then (some true) else (some false))) else (some false))) else (some false)
set_option maxHeartbeats 8000000 in
set_option maxRecDepth 100000 in
theorem laws_eqFile.calls (k : Nat) (a0_0 : ByteArray) (A0_1 : Option Addr) (c0_1 : Nat) (l0_1 : List Int) (A0_2 : Option Addr) (c0_2 : Nat) (l0_2 : List Int) (a1_0 : ByteArray) (A1_1 : Option Addr) (c1_1 : Nat) (l1_1 : List Int) (A1_2 : Option Addr) (c1_2 : Nat) (l1_2 : List Int) (r : Bool) (w : World) (hr0_1 : Kd.C (Kd.int .u8) w A0_1 l0_1.length l0_1) (hc0_1 : l0_1.length ≤ c0_1) (hr0_2 : Kd.C (Kd.int .u8) w A0_2 l0_2.length l0_2) (hc0_2 : l0_2.length ≤ c0_2) (hr1_1 : Kd.C (Kd.int .u8) w A1_1 l1_1.length l1_1) (hc1_1 : l1_1.length ≤ c1_1) (hr1_2 : Kd.C (Kd.int .u8) w A1_2 l1_2.length l1_2) (hc1_2 : l1_2.length ≤ c1_2) (h : laws_eqFile.f k a0_0 l0_1 l0_2 a1_0 l1_1 l1_2 = some r) :
  Calls Tryd.prog 79 #[.agg #[.string a0_0, .slice A0_1 l0_1.length c0_1, .slice A0_2 l0_2.length c0_2], .agg #[.string a1_0, .slice A1_1 l1_1.length c1_1, .slice A1_2 l1_2.length c1_2]] w fun e w' => e = .returned (.bool r) ∧ Below w.heap.size w w' := by
 have hu55 := Tryd.underlying55
 have HR0_1 := Zh hr0_1
 have HC0_1 := Zh hc0_1
 clear hr0_1 hc0_1
 have HR0_2 := Zh hr0_2
 have HC0_2 := Zh hc0_2
 clear hr0_2 hc0_2
 have HR1_1 := Zh hr1_1
 have HC1_1 := Zh hc1_1
 clear hr1_1 hc1_1
 have HR1_2 := Zh hr1_2
 have HC1_2 := Zh hc1_2
 clear hr1_2 hc1_2
 have HB := Zh (Below.refl w.heap.size w)
 have H : (if a0_0.toList = a1_0.toList then ((laws_eqByteS.f k l0_1 l1_1).bind fun t277 => (if t277 = true then ((laws_eqByteS.f k l0_2 l1_2).bind fun t278 => (if t278 = true then (some true) else (some false))) else (some false))) else (some false)) = some r := h
 clear h
 by_cases c3 : a0_0.toList = a1_0.toList
 ·
  rw [if_pos c3] at H
  have c3b0 : (a0_0.toList == a1_0.toList) = true := beq_iff_eq.mpr c3
  have c3b1 : (a0_0.toList != a1_0.toList) = false := bne_eq_false_iff_eq.mpr c3
  clear c3
  replace H := Option.bind_eq_some_iff.mp H
  obtain ⟨t277, A40, H⟩ := H
  replace H : (if t277 = true then ((laws_eqByteS.f k l0_2 l1_2).bind fun t278 => (if t278 = true then (some true) else (some false))) else (some false)) = some r := H
  have A4 := Zh A40
  clear A40
  by_cases c5 : t277 = true
  ·
   subst c5
   have H1 : ((laws_eqByteS.f k l0_2 l1_2).bind fun t278 => (if t278 = true then (some true) else (some false))) = some r := by rw [if_pos rfl] at H; exact H
   clear H
   have H := H1
   clear H1
   replace H := Option.bind_eq_some_iff.mp H
   obtain ⟨t278, A60, H⟩ := H
   replace H : (if t278 = true then (some true) else (some false)) = some r := H
   have A6 := Zh A60
   clear A60
   by_cases c7 : t278 = true
   ·
    subst c7
    have H1 : (some true) = some r := by rw [if_pos rfl] at H; exact H
    clear H
    have H := H1
    clear H1
    obtain rfl := Option.some.inj H
    go_enter Tryd.func79, Tryd.ntmps79
    go_wp2_with (first | ((with_reducible refine gate_dst (N := 2) rfl ?_); refine box_event ?hg (N := 2) ?hd (cs := #[.string a0_0, .slice A0_1 l0_1.length c0_1, .slice A0_2 l0_2.length c0_2]) (t := 55) ?hr ?_; (case hd => rfl); (case hg => rfl); (case hr => first | (go_simp; done) | (go_simp; rfl)); intro gb275 hg w8 hbox hb; have n0_ := Zh (Zl Zs hb); have n1_ := Zh (hbox); have n2_ := Zh ((by rw [hg]; exact (below_size Zs) : w.heap.size ≤ gb275)); have n3_ := Zh ((by rw [hg]; exact (below_size Zs) : w.heap.size ≤ gb275)); clear HB; have HB := n0_; have BK275 := n1_; have GW275 := n2_; have GE275 := n3_; clear n0_ n1_ n2_ n3_; clear hb hbox hg) | ((with_reducible refine gate_dst (N := 3) rfl ?_); refine box_event ?hg (N := 3) ?hd (cs := #[.string a1_0, .slice A1_1 l1_1.length c1_1, .slice A1_2 l1_2.length c1_2]) (t := 55) ?hr ?_; (case hd => rfl); (case hg => rfl); (case hr => first | (go_simp; done) | (go_simp; rfl)); intro gb276 hg w9 hbox hb; have n0_ := Zh (Zm (g := gb275) (o := .cells #[.string a0_0, .slice A0_1 l0_1.length c0_1, .slice A0_2 l0_2.length c0_2] 55 (0, 0)) Zk hb); have n1_ := Zh (Zl Zs hb); have n2_ := Zh (hbox); have n3_ := Zh ((by rw [hg]; exact (below_size Zs) : w.heap.size ≤ gb276)); have n4_ := Zh ((by rw [hg]; exact (below_size Zs) : w.heap.size ≤ gb276)); have n5_ := Zh ((by rw [hg]; exact Nat.ne_of_lt (blk_lt (g := gb275) (o := .cells #[.string a0_0, .slice A0_1 l0_1.length c0_1, .slice A0_2 l0_2.length c0_2] 55 (0, 0)) Zk) : gb275 ≠ gb276)); have n6_ := Zh ((by rw [hg]; exact Nat.ne_of_gt (blk_lt (g := gb275) (o := .cells #[.string a0_0, .slice A0_1 l0_1.length c0_1, .slice A0_2 l0_2.length c0_2] 55 (0, 0)) Zk) : gb276 ≠ gb275)); clear BK275; clear HB; have BK275 := n0_; have HB := n1_; have BK276 := n2_; have GW276 := n3_; have GE276 := n4_; have NB275_276 := n5_; have NB276_275 := n6_; clear n0_ n1_ n2_ n3_ n4_ n5_ n6_; clear hb hbox hg; have hnb10 := NB275_276.out; have hnc10 := NB276_275.out; have hcz11_0 : w9.cell? ⟨gb275, 0, none⟩ = some (.string a0_0) := (blk_cell BK275.out 0).trans rfl; have hcz11_1 : w9.cell? ⟨gb275, 1, none⟩ = some (.slice A0_1 l0_1.length c0_1) := (blk_cell BK275.out 1).trans rfl; have hcz11_2 : w9.cell? ⟨gb275, 2, none⟩ = some (.slice A0_2 l0_2.length c0_2) := (blk_cell BK275.out 2).trans rfl; have hfz11_0 := Zn BK275.out 0; have hfz11_1 := Zn BK275.out 1; have hfz11_2 := Zn BK275.out 2; have hcz12_0 : w9.cell? ⟨gb276, 0, none⟩ = some (.string a1_0) := (blk_cell BK276.out 0).trans rfl; have hcz12_1 : w9.cell? ⟨gb276, 1, none⟩ = some (.slice A1_1 l1_1.length c1_1) := (blk_cell BK276.out 1).trans rfl; have hcz12_2 : w9.cell? ⟨gb276, 2, none⟩ = some (.slice A1_2 l1_2.length c1_2) := (blk_cell BK276.out 2).trans rfl; have hfz12_0 := Zn BK276.out 0; have hfz12_1 := Zn BK276.out 1; have hfz12_2 := Zn BK276.out 2) | ((with_reducible refine gate_callee (f := 30) rfl ?_); refine goesL_ (some 14) rfl rfl Tryd.func30 (by kernel_rfl) rfl #[.slice A0_1 l0_1.length c0_1, .slice A1_1 l1_1.length c1_1] rfl (by (try simp only [List.map_toArray, List.map_cons, List.map_nil]); first | done | rfl | (simp only [List.length_drop, List.length_take]; rfl)) ?_; (with_reducible refine (laws_eqByteS.calls k _ _ l0_1 _ _ l1_1 true _ ?side1 ?side2 ?side3 ?side4 A4.out).mono ?_); (case side1 => repeat (first | exact (C_below HR0_1.out HB.out) | (with_reducible refine C_alloc ?_ _) | (with_reducible refine C_drewN ?_ _) | (with_reducible refine C_drew ?_))); (case side2 => exact HC0_1.out); (case side3 => repeat (first | exact (C_below HR1_1.out HB.out) | (with_reducible refine C_alloc ?_ _) | (with_reducible refine C_drewN ?_ _) | (with_reducible refine C_drew ?_))); (case side4 => exact HC1_1.out); rintro e w' ⟨rfl, ⟨nd, rfl⟩⟩; refine ⟨_, rfl, ?_⟩) | ((with_reducible refine gate_callee (f := 30) rfl ?_); refine goesL_ (some 20) rfl rfl Tryd.func30 (by kernel_rfl) rfl #[.slice A0_2 l0_2.length c0_2, .slice A1_2 l1_2.length c1_2] rfl (by (try simp only [List.map_toArray, List.map_cons, List.map_nil]); first | done | rfl | (simp only [List.length_drop, List.length_take]; rfl)) ?_; (with_reducible refine (laws_eqByteS.calls k _ _ l0_2 _ _ l1_2 true _ ?side1 ?side2 ?side3 ?side4 A6.out).mono ?_); (case side1 => repeat (first | exact (C_below HR0_2.out Zs) | (with_reducible refine C_alloc ?_ _) | (with_reducible refine C_drewN ?_ _) | (with_reducible refine C_drew ?_))); (case side2 => exact HC0_2.out); (case side3 => repeat (first | exact (C_below HR1_2.out Zs) | (with_reducible refine C_alloc ?_ _) | (with_reducible refine C_drewN ?_ _) | (with_reducible refine C_drew ?_))); (case side4 => exact HC1_2.out); rintro e w' ⟨rfl, ⟨nd, rfl⟩⟩; refine ⟨_, rfl, ?_⟩))
    go_ret
    exact ⟨by first | rfl | (simp [errW_none, errW_some] <;> rfl) | (simp [*, errW_none, errW_some] <;> rfl), by repeat (first | (with_reducible first | exact HB.out | apply Zf | apply Zd | apply Ze | refine Zg ?_ GE275.out | refine Zg ?_ GE276.out) | exact HB.out)⟩
   replace c7 := Bool.eq_false_iff.mpr c7
   subst c7
   have H1 : (some false) = some r := by rw [if_neg (show ¬ (false = true) by decide)] at H; exact H
   clear H
   have H := H1
   clear H1
   obtain rfl := Option.some.inj H
   go_enter Tryd.func79, Tryd.ntmps79
   go_wp2_with (first | ((with_reducible refine gate_dst (N := 2) rfl ?_); refine box_event ?hg (N := 2) ?hd (cs := #[.string a0_0, .slice A0_1 l0_1.length c0_1, .slice A0_2 l0_2.length c0_2]) (t := 55) ?hr ?_; (case hd => rfl); (case hg => rfl); (case hr => first | (go_simp; done) | (go_simp; rfl)); intro gb275 hg w13 hbox hb; have n0_ := Zh (Zl Zs hb); have n1_ := Zh (hbox); have n2_ := Zh ((by rw [hg]; exact (below_size Zs) : w.heap.size ≤ gb275)); have n3_ := Zh ((by rw [hg]; exact (below_size Zs) : w.heap.size ≤ gb275)); clear HB; have HB := n0_; have BK275 := n1_; have GW275 := n2_; have GE275 := n3_; clear n0_ n1_ n2_ n3_; clear hb hbox hg) | ((with_reducible refine gate_dst (N := 3) rfl ?_); refine box_event ?hg (N := 3) ?hd (cs := #[.string a1_0, .slice A1_1 l1_1.length c1_1, .slice A1_2 l1_2.length c1_2]) (t := 55) ?hr ?_; (case hd => rfl); (case hg => rfl); (case hr => first | (go_simp; done) | (go_simp; rfl)); intro gb276 hg w14 hbox hb; have n0_ := Zh (Zm (g := gb275) (o := .cells #[.string a0_0, .slice A0_1 l0_1.length c0_1, .slice A0_2 l0_2.length c0_2] 55 (0, 0)) Zk hb); have n1_ := Zh (Zl Zs hb); have n2_ := Zh (hbox); have n3_ := Zh ((by rw [hg]; exact (below_size Zs) : w.heap.size ≤ gb276)); have n4_ := Zh ((by rw [hg]; exact (below_size Zs) : w.heap.size ≤ gb276)); have n5_ := Zh ((by rw [hg]; exact Nat.ne_of_lt (blk_lt (g := gb275) (o := .cells #[.string a0_0, .slice A0_1 l0_1.length c0_1, .slice A0_2 l0_2.length c0_2] 55 (0, 0)) Zk) : gb275 ≠ gb276)); have n6_ := Zh ((by rw [hg]; exact Nat.ne_of_gt (blk_lt (g := gb275) (o := .cells #[.string a0_0, .slice A0_1 l0_1.length c0_1, .slice A0_2 l0_2.length c0_2] 55 (0, 0)) Zk) : gb276 ≠ gb275)); clear BK275; clear HB; have BK275 := n0_; have HB := n1_; have BK276 := n2_; have GW276 := n3_; have GE276 := n4_; have NB275_276 := n5_; have NB276_275 := n6_; clear n0_ n1_ n2_ n3_ n4_ n5_ n6_; clear hb hbox hg; have hnb15 := NB275_276.out; have hnc15 := NB276_275.out; have hcz16_0 : w14.cell? ⟨gb275, 0, none⟩ = some (.string a0_0) := (blk_cell BK275.out 0).trans rfl; have hcz16_1 : w14.cell? ⟨gb275, 1, none⟩ = some (.slice A0_1 l0_1.length c0_1) := (blk_cell BK275.out 1).trans rfl; have hcz16_2 : w14.cell? ⟨gb275, 2, none⟩ = some (.slice A0_2 l0_2.length c0_2) := (blk_cell BK275.out 2).trans rfl; have hfz16_0 := Zn BK275.out 0; have hfz16_1 := Zn BK275.out 1; have hfz16_2 := Zn BK275.out 2; have hcz17_0 : w14.cell? ⟨gb276, 0, none⟩ = some (.string a1_0) := (blk_cell BK276.out 0).trans rfl; have hcz17_1 : w14.cell? ⟨gb276, 1, none⟩ = some (.slice A1_1 l1_1.length c1_1) := (blk_cell BK276.out 1).trans rfl; have hcz17_2 : w14.cell? ⟨gb276, 2, none⟩ = some (.slice A1_2 l1_2.length c1_2) := (blk_cell BK276.out 2).trans rfl; have hfz17_0 := Zn BK276.out 0; have hfz17_1 := Zn BK276.out 1; have hfz17_2 := Zn BK276.out 2) | ((with_reducible refine gate_callee (f := 30) rfl ?_); refine goesL_ (some 14) rfl rfl Tryd.func30 (by kernel_rfl) rfl #[.slice A0_1 l0_1.length c0_1, .slice A1_1 l1_1.length c1_1] rfl (by (try simp only [List.map_toArray, List.map_cons, List.map_nil]); first | done | rfl | (simp only [List.length_drop, List.length_take]; rfl)) ?_; (with_reducible refine (laws_eqByteS.calls k _ _ l0_1 _ _ l1_1 true _ ?side1 ?side2 ?side3 ?side4 A4.out).mono ?_); (case side1 => repeat (first | exact (C_below HR0_1.out HB.out) | (with_reducible refine C_alloc ?_ _) | (with_reducible refine C_drewN ?_ _) | (with_reducible refine C_drew ?_))); (case side2 => exact HC0_1.out); (case side3 => repeat (first | exact (C_below HR1_1.out HB.out) | (with_reducible refine C_alloc ?_ _) | (with_reducible refine C_drewN ?_ _) | (with_reducible refine C_drew ?_))); (case side4 => exact HC1_1.out); rintro e w' ⟨rfl, ⟨nd, rfl⟩⟩; refine ⟨_, rfl, ?_⟩) | ((with_reducible refine gate_callee (f := 30) rfl ?_); refine goesL_ (some 20) rfl rfl Tryd.func30 (by kernel_rfl) rfl #[.slice A0_2 l0_2.length c0_2, .slice A1_2 l1_2.length c1_2] rfl (by (try simp only [List.map_toArray, List.map_cons, List.map_nil]); first | done | rfl | (simp only [List.length_drop, List.length_take]; rfl)) ?_; (with_reducible refine (laws_eqByteS.calls k _ _ l0_2 _ _ l1_2 false _ ?side1 ?side2 ?side3 ?side4 A6.out).mono ?_); (case side1 => repeat (first | exact (C_below HR0_2.out Zs) | (with_reducible refine C_alloc ?_ _) | (with_reducible refine C_drewN ?_ _) | (with_reducible refine C_drew ?_))); (case side2 => exact HC0_2.out); (case side3 => repeat (first | exact (C_below HR1_2.out Zs) | (with_reducible refine C_alloc ?_ _) | (with_reducible refine C_drewN ?_ _) | (with_reducible refine C_drew ?_))); (case side4 => exact HC1_2.out); rintro e w' ⟨rfl, ⟨nd, rfl⟩⟩; refine ⟨_, rfl, ?_⟩))
   go_ret
   exact ⟨by first | rfl | (simp [errW_none, errW_some] <;> rfl) | (simp [*, errW_none, errW_some] <;> rfl), by repeat (first | (with_reducible first | exact HB.out | apply Zf | apply Zd | apply Ze | refine Zg ?_ GE275.out | refine Zg ?_ GE276.out) | exact HB.out)⟩
  replace c5 := Bool.eq_false_iff.mpr c5
  subst c5
  have H1 : (some false) = some r := by rw [if_neg (show ¬ (false = true) by decide)] at H; exact H
  clear H
  have H := H1
  clear H1
  obtain rfl := Option.some.inj H
  go_enter Tryd.func79, Tryd.ntmps79
  go_wp2_with (first | ((with_reducible refine gate_dst (N := 2) rfl ?_); refine box_event ?hg (N := 2) ?hd (cs := #[.string a0_0, .slice A0_1 l0_1.length c0_1, .slice A0_2 l0_2.length c0_2]) (t := 55) ?hr ?_; (case hd => rfl); (case hg => rfl); (case hr => first | (go_simp; done) | (go_simp; rfl)); intro gb275 hg w18 hbox hb; have n0_ := Zh (Zl Zs hb); have n1_ := Zh (hbox); have n2_ := Zh ((by rw [hg]; exact (below_size Zs) : w.heap.size ≤ gb275)); have n3_ := Zh ((by rw [hg]; exact (below_size Zs) : w.heap.size ≤ gb275)); clear HB; have HB := n0_; have BK275 := n1_; have GW275 := n2_; have GE275 := n3_; clear n0_ n1_ n2_ n3_; clear hb hbox hg) | ((with_reducible refine gate_dst (N := 3) rfl ?_); refine box_event ?hg (N := 3) ?hd (cs := #[.string a1_0, .slice A1_1 l1_1.length c1_1, .slice A1_2 l1_2.length c1_2]) (t := 55) ?hr ?_; (case hd => rfl); (case hg => rfl); (case hr => first | (go_simp; done) | (go_simp; rfl)); intro gb276 hg w19 hbox hb; have n0_ := Zh (Zm (g := gb275) (o := .cells #[.string a0_0, .slice A0_1 l0_1.length c0_1, .slice A0_2 l0_2.length c0_2] 55 (0, 0)) Zk hb); have n1_ := Zh (Zl Zs hb); have n2_ := Zh (hbox); have n3_ := Zh ((by rw [hg]; exact (below_size Zs) : w.heap.size ≤ gb276)); have n4_ := Zh ((by rw [hg]; exact (below_size Zs) : w.heap.size ≤ gb276)); have n5_ := Zh ((by rw [hg]; exact Nat.ne_of_lt (blk_lt (g := gb275) (o := .cells #[.string a0_0, .slice A0_1 l0_1.length c0_1, .slice A0_2 l0_2.length c0_2] 55 (0, 0)) Zk) : gb275 ≠ gb276)); have n6_ := Zh ((by rw [hg]; exact Nat.ne_of_gt (blk_lt (g := gb275) (o := .cells #[.string a0_0, .slice A0_1 l0_1.length c0_1, .slice A0_2 l0_2.length c0_2] 55 (0, 0)) Zk) : gb276 ≠ gb275)); clear BK275; clear HB; have BK275 := n0_; have HB := n1_; have BK276 := n2_; have GW276 := n3_; have GE276 := n4_; have NB275_276 := n5_; have NB276_275 := n6_; clear n0_ n1_ n2_ n3_ n4_ n5_ n6_; clear hb hbox hg; have hnb20 := NB275_276.out; have hnc20 := NB276_275.out; have hcz21_0 : w19.cell? ⟨gb275, 0, none⟩ = some (.string a0_0) := (blk_cell BK275.out 0).trans rfl; have hcz21_1 : w19.cell? ⟨gb275, 1, none⟩ = some (.slice A0_1 l0_1.length c0_1) := (blk_cell BK275.out 1).trans rfl; have hcz21_2 : w19.cell? ⟨gb275, 2, none⟩ = some (.slice A0_2 l0_2.length c0_2) := (blk_cell BK275.out 2).trans rfl; have hfz21_0 := Zn BK275.out 0; have hfz21_1 := Zn BK275.out 1; have hfz21_2 := Zn BK275.out 2; have hcz22_0 : w19.cell? ⟨gb276, 0, none⟩ = some (.string a1_0) := (blk_cell BK276.out 0).trans rfl; have hcz22_1 : w19.cell? ⟨gb276, 1, none⟩ = some (.slice A1_1 l1_1.length c1_1) := (blk_cell BK276.out 1).trans rfl; have hcz22_2 : w19.cell? ⟨gb276, 2, none⟩ = some (.slice A1_2 l1_2.length c1_2) := (blk_cell BK276.out 2).trans rfl; have hfz22_0 := Zn BK276.out 0; have hfz22_1 := Zn BK276.out 1; have hfz22_2 := Zn BK276.out 2) | ((with_reducible refine gate_callee (f := 30) rfl ?_); refine goesL_ (some 14) rfl rfl Tryd.func30 (by kernel_rfl) rfl #[.slice A0_1 l0_1.length c0_1, .slice A1_1 l1_1.length c1_1] rfl (by (try simp only [List.map_toArray, List.map_cons, List.map_nil]); first | done | rfl | (simp only [List.length_drop, List.length_take]; rfl)) ?_; (with_reducible refine (laws_eqByteS.calls k _ _ l0_1 _ _ l1_1 false _ ?side1 ?side2 ?side3 ?side4 A4.out).mono ?_); (case side1 => repeat (first | exact (C_below HR0_1.out HB.out) | (with_reducible refine C_alloc ?_ _) | (with_reducible refine C_drewN ?_ _) | (with_reducible refine C_drew ?_))); (case side2 => exact HC0_1.out); (case side3 => repeat (first | exact (C_below HR1_1.out HB.out) | (with_reducible refine C_alloc ?_ _) | (with_reducible refine C_drewN ?_ _) | (with_reducible refine C_drew ?_))); (case side4 => exact HC1_1.out); rintro e w' ⟨rfl, ⟨nd, rfl⟩⟩; refine ⟨_, rfl, ?_⟩))
  go_ret
  exact ⟨by first | rfl | (simp [errW_none, errW_some] <;> rfl) | (simp [*, errW_none, errW_some] <;> rfl), by repeat (first | (with_reducible first | exact HB.out | apply Zf | apply Zd | apply Ze | refine Zg ?_ GE275.out | refine Zg ?_ GE276.out) | exact HB.out)⟩
 rw [if_neg c3] at H
 have c3b0 : (a0_0.toList == a1_0.toList) = false := beq_eq_false_iff_ne.mpr c3
 have c3b1 : (a0_0.toList != a1_0.toList) = true := bne_iff_ne.mpr c3
 obtain rfl := Option.some.inj H
 go_enter Tryd.func79, Tryd.ntmps79
 go_wp2_with (first | ((with_reducible refine gate_dst (N := 2) rfl ?_); refine box_event ?hg (N := 2) ?hd (cs := #[.string a0_0, .slice A0_1 l0_1.length c0_1, .slice A0_2 l0_2.length c0_2]) (t := 55) ?hr ?_; (case hd => rfl); (case hg => rfl); (case hr => first | (go_simp; done) | (go_simp; rfl)); intro gb275 hg w23 hbox hb; have n0_ := Zh (Zl Zs hb); have n1_ := Zh (hbox); have n2_ := Zh ((by rw [hg]; exact (below_size Zs) : w.heap.size ≤ gb275)); have n3_ := Zh ((by rw [hg]; exact (below_size Zs) : w.heap.size ≤ gb275)); clear HB; have HB := n0_; have BK275 := n1_; have GW275 := n2_; have GE275 := n3_; clear n0_ n1_ n2_ n3_; clear hb hbox hg) | ((with_reducible refine gate_dst (N := 3) rfl ?_); refine box_event ?hg (N := 3) ?hd (cs := #[.string a1_0, .slice A1_1 l1_1.length c1_1, .slice A1_2 l1_2.length c1_2]) (t := 55) ?hr ?_; (case hd => rfl); (case hg => rfl); (case hr => first | (go_simp; done) | (go_simp; rfl)); intro gb276 hg w24 hbox hb; have n0_ := Zh (Zm (g := gb275) (o := .cells #[.string a0_0, .slice A0_1 l0_1.length c0_1, .slice A0_2 l0_2.length c0_2] 55 (0, 0)) Zk hb); have n1_ := Zh (Zl Zs hb); have n2_ := Zh (hbox); have n3_ := Zh ((by rw [hg]; exact (below_size Zs) : w.heap.size ≤ gb276)); have n4_ := Zh ((by rw [hg]; exact (below_size Zs) : w.heap.size ≤ gb276)); have n5_ := Zh ((by rw [hg]; exact Nat.ne_of_lt (blk_lt (g := gb275) (o := .cells #[.string a0_0, .slice A0_1 l0_1.length c0_1, .slice A0_2 l0_2.length c0_2] 55 (0, 0)) Zk) : gb275 ≠ gb276)); have n6_ := Zh ((by rw [hg]; exact Nat.ne_of_gt (blk_lt (g := gb275) (o := .cells #[.string a0_0, .slice A0_1 l0_1.length c0_1, .slice A0_2 l0_2.length c0_2] 55 (0, 0)) Zk) : gb276 ≠ gb275)); clear BK275; clear HB; have BK275 := n0_; have HB := n1_; have BK276 := n2_; have GW276 := n3_; have GE276 := n4_; have NB275_276 := n5_; have NB276_275 := n6_; clear n0_ n1_ n2_ n3_ n4_ n5_ n6_; clear hb hbox hg; have hnb25 := NB275_276.out; have hnc25 := NB276_275.out; have hcz26_0 : w24.cell? ⟨gb275, 0, none⟩ = some (.string a0_0) := (blk_cell BK275.out 0).trans rfl; have hcz26_1 : w24.cell? ⟨gb275, 1, none⟩ = some (.slice A0_1 l0_1.length c0_1) := (blk_cell BK275.out 1).trans rfl; have hcz26_2 : w24.cell? ⟨gb275, 2, none⟩ = some (.slice A0_2 l0_2.length c0_2) := (blk_cell BK275.out 2).trans rfl; have hfz26_0 := Zn BK275.out 0; have hfz26_1 := Zn BK275.out 1; have hfz26_2 := Zn BK275.out 2; have hcz27_0 : w24.cell? ⟨gb276, 0, none⟩ = some (.string a1_0) := (blk_cell BK276.out 0).trans rfl; have hcz27_1 : w24.cell? ⟨gb276, 1, none⟩ = some (.slice A1_1 l1_1.length c1_1) := (blk_cell BK276.out 1).trans rfl; have hcz27_2 : w24.cell? ⟨gb276, 2, none⟩ = some (.slice A1_2 l1_2.length c1_2) := (blk_cell BK276.out 2).trans rfl; have hfz27_0 := Zn BK276.out 0; have hfz27_1 := Zn BK276.out 1; have hfz27_2 := Zn BK276.out 2))
 go_ret
 exact ⟨by first | rfl | (simp [errW_none, errW_some] <;> rfl) | (simp [*, errW_none, errW_some] <;> rfl), by repeat (first | (with_reducible first | exact HB.out | apply Zf | apply Zd | apply Ze | refine Zg ?_ GE275.out | refine Zg ?_ GE276.out) | exact HB.out)⟩
end Go.Proofs.YtcgojdhbphocgaaDoor.F

namespace Go.Proofs.YtcgojdhbphocgaaDoor.F
open Go.Proofs.YtcgojdhbphocgaaDoor
open Go.RowKit Go.Proofs.YtcgojdhbphocgaaDoorW.PrintWords Go.Proofs.YtcgojdhbphocgaaDoorW.PrintWords.Kd Go.Proofs.YtcgojdhbphocgaaDoorW.PrintMore.Kd Go.Proofs.YtcgojdhbphocgaaDoorW.PrintLast Go.Proofs.YtcgojdhbphocgaaDoorW.PrintMore
attribute [local go_sem] max2_int min2_int max_two min_two max_three min_three max_four min_four   -- for this text's walks alone
set_option linter.unusedVariables false
set_option linter.unusedSimpArgs false
def laws_eqFileS.l0 : Nat → List (S55) → List (S55) → Int → Option (Bool)
 | 0, _, _, _ => none
 | k + 1, x0, x1, x5 => if x5 < (x0.length : Int) then (if 0 ≤ x5 then (if x5 < (x1.length : Int) then ((laws_eqFile.f k ((rd_T55 x0 x5).f0) ((rd_T55 x0 x5).f1) ((rd_T55 x0 x5).f2) ((rd_T55 x1 x5).f0) ((rd_T55 x1 x5).f1) ((rd_T55 x1 x5).f2)).bind fun t281 => (if t281 = true then (laws_eqFileS.l0 k x0 x1 (wrap64 (x5 + 1))) else (some false))) else (none)) else (none)) else (some true)
def laws_eqFileS.f (k : Nat) (l0 : List (S55)) (l1 : List (S55)) : Option (Bool) := if (l0.length : Int) = (l1.length : Int) then (laws_eqFileS.l0 k l0 l1 0) else (some false)
def laws_eqFileS.T6 : Bool × List (List Nat × List Nat) := (true, [([], []), ([], []), ([0, 1], [0, 1]), ([2], [2]), ([], []), ([], []), ([4, 5], [4, 5]), ([6], [6]), ([3, 7], [3, 7]), ([8], [8])])
def laws_eqFileS.B6 : List Nat := [0, 0, 3, 7, 0, 0, 48, 112, 255, 511]
theorem laws_eqFileS.tab6 : rtab .any (opsOf Tryd.f46 6) = laws_eqFileS.T6 := by kernel_rfl
theorem laws_eqFileS.bits6 : waitsOk laws_eqFileS.T6.2 laws_eqFileS.B6 = true := by kernel_rfl
set_option maxHeartbeats 8000000 in
set_option maxRecDepth 100000 in
theorem laws_eqFileS.calls (k : Nat) (A0 : Option Addr) (c0 : Nat) (l0 : List (S55)) (A1 : Option Addr) (c1 : Nat) (l1 : List (S55)) (r : Bool) (w : World) (hr0 : Kd.C k55 w A0 l0.length l0) (hc0 : l0.length ≤ c0) (hr1 : Kd.C k55 w A1 l1.length l1) (hc1 : l1.length ≤ c1) (h : laws_eqFileS.f k l0 l1 = some r) :
  Calls Tryd.prog 46 #[.slice A0 l0.length c0, .slice A1 l1.length c1] w fun e w' => e = .returned (.bool r) ∧ Below w.heap.size w w' := by
 have hu55 := Tryd.underlying55
 have HR0 := Zh hr0
 have HC0 := Zh hc0
 clear hr0 hc0
 have HR1 := Zh hr1
 have HC1 := Zh hc1
 clear hr1 hc1
 have HB := Zh (Below.refl w.heap.size w)
 have H : (if (l0.length : Int) = (l1.length : Int) then (laws_eqFileS.l0 k l0 l1 0) else (some false)) = some r := h
 clear h
 by_cases c3 : (l0.length : Int) = (l1.length : Int)
 ·
  rw [if_pos c3] at H
  have c3b0 : ((l0.length : Int) == (l1.length : Int)) = true := beq_iff_eq.mpr c3
  have c3b1 : ((l0.length : Int) != (l1.length : Int)) = false := bne_eq_false_iff_eq.mpr c3
  have c3b2 : (l0.length == l1.length) = true := by first | simpa using c3 | (simp at c3 ⊢; omega)
  clear c3
  have H' := Zh H
  clear H
  go_enter Tryd.func46, Tryd.ntmps46
  go_wp2
  go_loopg [5] k (fun kq v5 w' => ∃ (x5_1 : Int), v5 = .int .i64 x5_1 ∧ Aside0 (laws_eqFileS.l0 kq l0 l1 x5_1 = some r) ∧ Aside0 (kq ≤ k) ∧ Aside0 (Below w.heap.size w w'))
  case atStart => exact ⟨(0), (by first | rfl | (simp; done) | (simp [*]; done)), H', ⟨Nat.le_refl _⟩, ⟨by repeat (first | (with_reducible first | exact HB.out | apply Zf | apply Zd | apply Ze) | exact HB.out)⟩⟩
  case round =>
   clear H'
   try clear c1
   try clear p2
   try clear c3
   try clear c3b0
   try clear c3b1
   try clear c3b2
   obtain ⟨x5_1, rfl, HA, HK1, HB⟩ := hrel
   cases gk with
   | zero => exact absurd HA.out (by simp [laws_eqFileS.l0])
   | succ k1 =>
    have H := HA.out
    clear HA
    simp only [laws_eqFileS.l0] at H
    by_cases c4 : x5_1 < (l0.length : Int)
    ·
     rw [if_pos c4] at H
     have c4b0 : decide (x5_1 < (l0.length : Int)) = true := decide_eq_true c4
     clear c4
     by_cases c5 : 0 ≤ x5_1
     ·
      rw [if_pos c5] at H
      have c5b0 : decide (0 ≤ x5_1) = true := decide_eq_true c5
      clear c5
      by_cases c6 : x5_1 < (l1.length : Int)
      ·
       rw [if_pos c6] at H
       have c6b0 : decide (x5_1 < (l1.length : Int)) = true := decide_eq_true c6
       clear c6
       replace H := Option.bind_eq_some_iff.mp H
       obtain ⟨t281, A70, H⟩ := H
       replace H : (if t281 = true then (laws_eqFileS.l0 k1 l0 l1 (wrap64 (x5_1 + 1))) else (some false)) = some r := H
       have A7 := Zh A70
       clear A70
       by_cases c8 : t281 = true
       ·
        subst c8
        have H1 : (laws_eqFileS.l0 k1 l0 l1 (wrap64 (x5_1 + 1))) = some r := by rw [if_pos rfl] at H; exact H
        clear H
        have H := H1
        clear H1
        have H' := Zh H
        clear H
        try go_wp2
        have n0_ := Zh (Ze HB.out)
        clear HB
        have HB := n0_
        clear n0_
        have p279 : 0 ≤ (x5_1 : Int) := Zo
        have q279 : x5_1 < (l0.length : Int) := Zo
        obtain ⟨ad279, A279_1, c279_1, A279_2, c279_2, e279, hx279_0, hx279_1, hx279_2, hl279_1, hi279_1, hl279_2, hi279_2⟩ := at_T55 HR0.out x5_1 p279 q279
        have hw279_2 := hx279_2
        have hw279_1 := hx279_1
        have hw279_0 := hx279_0
        cases e279
        replace hx279_0 := Zc HB.out hx279_0
        replace hx279_1 := Zc HB.out hx279_1
        replace hx279_2 := Zc HB.out hx279_2
        have HR279_1 := Zh hi279_1
        have HC279_1 := Zh hl279_1
        clear hi279_1 hl279_1
        have HR279_2 := Zh hi279_2
        have HC279_2 := Zh hl279_2
        clear hi279_2 hl279_2
        replace p279 := eq_true p279
        replace q279 := eq_true q279
        have p280 : 0 ≤ (x5_1 : Int) := Zo
        have q280 : x5_1 < (l1.length : Int) := Zo
        obtain ⟨ad280, A280_1, c280_1, A280_2, c280_2, e280, hx280_0, hx280_1, hx280_2, hl280_1, hi280_1, hl280_2, hi280_2⟩ := at_T55 HR1.out x5_1 p280 q280
        have hw280_2 := hx280_2
        have hw280_1 := hx280_1
        have hw280_0 := hx280_0
        cases e280
        replace hx280_0 := Zc HB.out hx280_0
        replace hx280_1 := Zc HB.out hx280_1
        replace hx280_2 := Zc HB.out hx280_2
        have HR280_1 := Zh hi280_1
        have HC280_1 := Zh hl280_1
        clear hi280_1 hl280_1
        have HR280_2 := Zh hi280_2
        have HC280_2 := Zh hl280_2
        clear hi280_2 hl280_2
        replace p280 := eq_true p280
        replace q280 := eq_true q280
        refine start_ (n := 10) (S := fun w' => w'.cell? (ad279.add ((x5_1).toNat * 3)) = some (.string ((rd_T55 l0 x5_1).f0)) ∧ w'.cell? ⟨(ad279.add ((x5_1).toNat * 3)).block, (ad279.add ((x5_1).toNat * 3)).off + 1, none⟩ = some (.slice A279_1 ((rd_T55 l0 x5_1).f1).length c279_1) ∧ w'.cell? ⟨(ad279.add ((x5_1).toNat * 3)).block, (ad279.add ((x5_1).toNat * 3)).off + 2, none⟩ = some (.slice A279_2 ((rd_T55 l0 x5_1).f2).length c279_2) ∧ w'.cell? (ad280.add ((x5_1).toNat * 3)) = some (.string ((rd_T55 l1 x5_1).f0)) ∧ w'.cell? ⟨(ad280.add ((x5_1).toNat * 3)).block, (ad280.add ((x5_1).toNat * 3)).off + 1, none⟩ = some (.slice A280_1 ((rd_T55 l1 x5_1).f1).length c280_1) ∧ w'.cell? ⟨(ad280.add ((x5_1).toNat * 3)).block, (ad280.add ((x5_1).toNat * 3)).off + 2, none⟩ = some (.slice A280_2 ((rd_T55 l1 x5_1).f2).length c280_2)) (ds := []) #[false, false, false, false, false, false, false, false, false, false] (by kernel_rfl) rfl rfl ⟨((HB.out.cell (Zi w _ hw279_0)).trans hw279_0), ((HB.out.cell (Zi w _ hw279_1)).trans hw279_1), ((HB.out.cell (Zi w _ hw279_2)).trans hw279_2), ((HB.out.cell (Zi w _ hw280_0)).trans hw280_0), ((HB.out.cell (Zi w _ hw280_1)).trans hw280_1), ((HB.out.cell (Zi w _ hw280_2)).trans hw280_2)⟩ (fun hHeld => ?_); refine with_tabW laws_eqFileS.tab6 laws_eqFileS.bits6 (fun HT_ HW_ => ?_)
        generalize wr.drew = w9 at HB HR279_1 HR279_2 HR280_1 HR280_2 hx279_0 hx279_1 hx279_2 hx280_0 hx280_1 hx280_2 hHeld ⊢
        refine SQ.pu 0 17 HT_ ?_
        refine SQ.pu 1 18 HT_ ?_
        refine SQ.pu 2 19 HT_ ?_
        refine SQ.pu 4 21 HT_ ?_
        refine SQ.pu 5 22 HT_ ?_
        refine SQ.pu 6 23 HT_ ?_
        refine SQ.tk 3 20 HT_ HW_ hHeld ?_
        refine SQ.tk 7 24 HT_ HW_ hHeld ?_
        refine one_ (i := 8) (N := some 25) #[true, true, true, true, true, true, true, true, true, false] rfl rfl (one_of HT_.out (by kernel_rfl)) (by decide) (fun K hK => ?_)
        refine goes_ Tryd.func79 (by kernel_rfl) rfl #[.agg #[.string ((rd_T55 l0 x5_1).f0), .slice A279_1 ((rd_T55 l0 x5_1).f1).length c279_1, .slice A279_2 ((rd_T55 l0 x5_1).f2).length c279_2], .agg #[.string ((rd_T55 l1 x5_1).f0), .slice A280_1 ((rd_T55 l1 x5_1).f1).length c280_1, .slice A280_2 ((rd_T55 l1 x5_1).f2).length c280_2]] (by rfl) rfl rfl (by (try simp only [List.map_toArray, List.map_cons, List.map_nil]); first | done | rfl | (simp only [List.length_drop, List.length_take]; rfl)) ?_
        with_reducible refine (laws_eqFile.calls k1 ((rd_T55 l0 x5_1).f0) _ _ ((rd_T55 l0 x5_1).f1) _ _ ((rd_T55 l0 x5_1).f2) ((rd_T55 l1 x5_1).f0) _ _ ((rd_T55 l1 x5_1).f1) _ _ ((rd_T55 l1 x5_1).f2) true _ ?side1 ?side2 ?side3 ?side4 ?side5 ?side6 ?side7 ?side8 A7.out).mono ?_
        (case side1 => repeat (first | exact (C_below HR279_1.out HB.out) | (with_reducible refine C_alloc ?_ _) | (with_reducible refine C_drewN ?_ _) | (with_reducible refine C_drew ?_)))
        (case side2 => exact HC279_1.out)
        (case side3 => repeat (first | exact (C_below HR279_2.out HB.out) | (with_reducible refine C_alloc ?_ _) | (with_reducible refine C_drewN ?_ _) | (with_reducible refine C_drew ?_)))
        (case side4 => exact HC279_2.out)
        (case side5 => repeat (first | exact (C_below HR280_1.out HB.out) | (with_reducible refine C_alloc ?_ _) | (with_reducible refine C_drewN ?_ _) | (with_reducible refine C_drew ?_)))
        (case side6 => exact HC280_1.out)
        (case side7 => repeat (first | exact (C_below HR280_2.out HB.out) | (with_reducible refine C_alloc ?_ _) | (with_reducible refine C_drewN ?_ _) | (with_reducible refine C_drew ?_)))
        (case side8 => exact HC280_2.out)
        rintro e w10 ⟨rfl, hb⟩
        refine ⟨_, rfl, ?_⟩
        have n0_ := Zh (Zl Zs hb)
        clear HB
        have HB := n0_
        clear n0_
        (try clear hb)
        (try clear hb2)
        (try clear hk)
        (try clear hi)
        refine hK.out _ _ ⟨((HB.out.cell (Zi w _ hw279_0)).trans hw279_0), ((HB.out.cell (Zi w _ hw279_1)).trans hw279_1), ((HB.out.cell (Zi w _ hw279_2)).trans hw279_2), ((HB.out.cell (Zi w _ hw280_0)).trans hw280_0), ((HB.out.cell (Zi w _ hw280_1)).trans hw280_1), ((HB.out.cell (Zi w _ hw280_2)).trans hw280_2)⟩ (fun hHeld => ?_)
        clear hK K
        refine norm_ (a' := ?_) ?_ ?_
        rotate_left
        ·
         show Act.put _ (some 25) _ = _
         simp only [Act.put, List.setIfInBounds_toArray, List.set_cons_zero, List.set_cons_succ, i64_w, i32_w]
         rfl
        refine SQ.pu 9 26 HT_ ?_
        refine done_ (done_of HT_.out (by kernel_rfl)) ?_
        try go_wp2
        go_roundg k1
        case measure => have := HK1.out; omega
        case rel => exact ⟨(wrap64 (x5_1 + 1)), (by first | rfl | (simp; done) | (simp [*]; done)), H', ⟨by have := HK1.out; omega⟩, ⟨by repeat (first | (with_reducible first | exact HB.out | apply Zf | apply Zd | apply Ze) | exact HB.out)⟩⟩
       replace c8 := Bool.eq_false_iff.mpr c8
       subst c8
       have H1 : (some false) = some r := by rw [if_neg (show ¬ (false = true) by decide)] at H; exact H
       clear H
       have H := H1
       clear H1
       obtain rfl := Option.some.inj H
       try go_wp2
       have n0_ := Zh (Ze HB.out)
       clear HB
       have HB := n0_
       clear n0_
       have p279 : 0 ≤ (x5_1 : Int) := Zo
       have q279 : x5_1 < (l0.length : Int) := Zo
       obtain ⟨ad279, A279_1, c279_1, A279_2, c279_2, e279, hx279_0, hx279_1, hx279_2, hl279_1, hi279_1, hl279_2, hi279_2⟩ := at_T55 HR0.out x5_1 p279 q279
       have hw279_2 := hx279_2
       have hw279_1 := hx279_1
       have hw279_0 := hx279_0
       cases e279
       replace hx279_0 := Zc HB.out hx279_0
       replace hx279_1 := Zc HB.out hx279_1
       replace hx279_2 := Zc HB.out hx279_2
       have HR279_1 := Zh hi279_1
       have HC279_1 := Zh hl279_1
       clear hi279_1 hl279_1
       have HR279_2 := Zh hi279_2
       have HC279_2 := Zh hl279_2
       clear hi279_2 hl279_2
       replace p279 := eq_true p279
       replace q279 := eq_true q279
       have p280 : 0 ≤ (x5_1 : Int) := Zo
       have q280 : x5_1 < (l1.length : Int) := Zo
       obtain ⟨ad280, A280_1, c280_1, A280_2, c280_2, e280, hx280_0, hx280_1, hx280_2, hl280_1, hi280_1, hl280_2, hi280_2⟩ := at_T55 HR1.out x5_1 p280 q280
       have hw280_2 := hx280_2
       have hw280_1 := hx280_1
       have hw280_0 := hx280_0
       cases e280
       replace hx280_0 := Zc HB.out hx280_0
       replace hx280_1 := Zc HB.out hx280_1
       replace hx280_2 := Zc HB.out hx280_2
       have HR280_1 := Zh hi280_1
       have HC280_1 := Zh hl280_1
       clear hi280_1 hl280_1
       have HR280_2 := Zh hi280_2
       have HC280_2 := Zh hl280_2
       clear hi280_2 hl280_2
       replace p280 := eq_true p280
       replace q280 := eq_true q280
       refine start_ (n := 10) (S := fun w' => w'.cell? (ad279.add ((x5_1).toNat * 3)) = some (.string ((rd_T55 l0 x5_1).f0)) ∧ w'.cell? ⟨(ad279.add ((x5_1).toNat * 3)).block, (ad279.add ((x5_1).toNat * 3)).off + 1, none⟩ = some (.slice A279_1 ((rd_T55 l0 x5_1).f1).length c279_1) ∧ w'.cell? ⟨(ad279.add ((x5_1).toNat * 3)).block, (ad279.add ((x5_1).toNat * 3)).off + 2, none⟩ = some (.slice A279_2 ((rd_T55 l0 x5_1).f2).length c279_2) ∧ w'.cell? (ad280.add ((x5_1).toNat * 3)) = some (.string ((rd_T55 l1 x5_1).f0)) ∧ w'.cell? ⟨(ad280.add ((x5_1).toNat * 3)).block, (ad280.add ((x5_1).toNat * 3)).off + 1, none⟩ = some (.slice A280_1 ((rd_T55 l1 x5_1).f1).length c280_1) ∧ w'.cell? ⟨(ad280.add ((x5_1).toNat * 3)).block, (ad280.add ((x5_1).toNat * 3)).off + 2, none⟩ = some (.slice A280_2 ((rd_T55 l1 x5_1).f2).length c280_2)) (ds := []) #[false, false, false, false, false, false, false, false, false, false] (by kernel_rfl) rfl rfl ⟨((HB.out.cell (Zi w _ hw279_0)).trans hw279_0), ((HB.out.cell (Zi w _ hw279_1)).trans hw279_1), ((HB.out.cell (Zi w _ hw279_2)).trans hw279_2), ((HB.out.cell (Zi w _ hw280_0)).trans hw280_0), ((HB.out.cell (Zi w _ hw280_1)).trans hw280_1), ((HB.out.cell (Zi w _ hw280_2)).trans hw280_2)⟩ (fun hHeld => ?_); refine with_tabW laws_eqFileS.tab6 laws_eqFileS.bits6 (fun HT_ HW_ => ?_)
       generalize wr.drew = w11 at HB HR279_1 HR279_2 HR280_1 HR280_2 hx279_0 hx279_1 hx279_2 hx280_0 hx280_1 hx280_2 hHeld ⊢
       refine SQ.pu 0 17 HT_ ?_
       refine SQ.pu 1 18 HT_ ?_
       refine SQ.pu 2 19 HT_ ?_
       refine SQ.pu 4 21 HT_ ?_
       refine SQ.pu 5 22 HT_ ?_
       refine SQ.pu 6 23 HT_ ?_
       refine SQ.tk 3 20 HT_ HW_ hHeld ?_
       refine SQ.tk 7 24 HT_ HW_ hHeld ?_
       refine one_ (i := 8) (N := some 25) #[true, true, true, true, true, true, true, true, true, false] rfl rfl (one_of HT_.out (by kernel_rfl)) (by decide) (fun K hK => ?_)
       refine goes_ Tryd.func79 (by kernel_rfl) rfl #[.agg #[.string ((rd_T55 l0 x5_1).f0), .slice A279_1 ((rd_T55 l0 x5_1).f1).length c279_1, .slice A279_2 ((rd_T55 l0 x5_1).f2).length c279_2], .agg #[.string ((rd_T55 l1 x5_1).f0), .slice A280_1 ((rd_T55 l1 x5_1).f1).length c280_1, .slice A280_2 ((rd_T55 l1 x5_1).f2).length c280_2]] (by rfl) rfl rfl (by (try simp only [List.map_toArray, List.map_cons, List.map_nil]); first | done | rfl | (simp only [List.length_drop, List.length_take]; rfl)) ?_
       with_reducible refine (laws_eqFile.calls k1 ((rd_T55 l0 x5_1).f0) _ _ ((rd_T55 l0 x5_1).f1) _ _ ((rd_T55 l0 x5_1).f2) ((rd_T55 l1 x5_1).f0) _ _ ((rd_T55 l1 x5_1).f1) _ _ ((rd_T55 l1 x5_1).f2) false _ ?side1 ?side2 ?side3 ?side4 ?side5 ?side6 ?side7 ?side8 A7.out).mono ?_
       (case side1 => repeat (first | exact (C_below HR279_1.out HB.out) | (with_reducible refine C_alloc ?_ _) | (with_reducible refine C_drewN ?_ _) | (with_reducible refine C_drew ?_)))
       (case side2 => exact HC279_1.out)
       (case side3 => repeat (first | exact (C_below HR279_2.out HB.out) | (with_reducible refine C_alloc ?_ _) | (with_reducible refine C_drewN ?_ _) | (with_reducible refine C_drew ?_)))
       (case side4 => exact HC279_2.out)
       (case side5 => repeat (first | exact (C_below HR280_1.out HB.out) | (with_reducible refine C_alloc ?_ _) | (with_reducible refine C_drewN ?_ _) | (with_reducible refine C_drew ?_)))
       (case side6 => exact HC280_1.out)
       (case side7 => repeat (first | exact (C_below HR280_2.out HB.out) | (with_reducible refine C_alloc ?_ _) | (with_reducible refine C_drewN ?_ _) | (with_reducible refine C_drew ?_)))
       (case side8 => exact HC280_2.out)
       rintro e w12 ⟨rfl, hb⟩
       refine ⟨_, rfl, ?_⟩
       have n0_ := Zh (Zl Zs hb)
       clear HB
       have HB := n0_
       clear n0_
       (try clear hb)
       (try clear hb2)
       (try clear hk)
       (try clear hi)
       refine hK.out _ _ ⟨((HB.out.cell (Zi w _ hw279_0)).trans hw279_0), ((HB.out.cell (Zi w _ hw279_1)).trans hw279_1), ((HB.out.cell (Zi w _ hw279_2)).trans hw279_2), ((HB.out.cell (Zi w _ hw280_0)).trans hw280_0), ((HB.out.cell (Zi w _ hw280_1)).trans hw280_1), ((HB.out.cell (Zi w _ hw280_2)).trans hw280_2)⟩ (fun hHeld => ?_)
       clear hK K
       refine norm_ (a' := ?_) ?_ ?_
       rotate_left
       ·
        show Act.put _ (some 25) _ = _
        simp only [Act.put, List.setIfInBounds_toArray, List.set_cons_zero, List.set_cons_succ, i64_w, i32_w]
        rfl
       refine SQ.pu 9 26 HT_ ?_
       refine done_ (done_of HT_.out (by kernel_rfl)) ?_
       try go_wp2
       go_ret
       exact ⟨by first | rfl | (simp [errW_none, errW_some] <;> rfl) | (simp [*, errW_none, errW_some] <;> rfl), by repeat (first | (with_reducible first | exact HB.out | apply Zf | apply Zd | apply Ze) | exact HB.out)⟩
      rw [if_neg c6] at H
      exact absurd H (by simp)
     rw [if_neg c5] at H
     exact absurd H (by simp)
    rw [if_neg c4] at H
    have c4b0 : decide (x5_1 < (l0.length : Int)) = false := decide_eq_false c4
    clear c4
    obtain rfl := Option.some.inj H
    go_wp2
    go_ret
    exact ⟨by first | rfl | (simp [errW_none, errW_some] <;> rfl) | (simp [*, errW_none, errW_some] <;> rfl), by repeat (first | (with_reducible first | exact HB.out | apply Zf | apply Zd | apply Ze) | exact HB.out)⟩
 rw [if_neg c3] at H
 have c3b0 : ((l0.length : Int) == (l1.length : Int)) = false := beq_eq_false_iff_ne.mpr c3
 have c3b1 : ((l0.length : Int) != (l1.length : Int)) = true := bne_iff_ne.mpr c3
 have c3b2 : (l0.length == l1.length) = false := by first | simpa using c3 | (simp at c3 ⊢; omega)
 obtain rfl := Option.some.inj H
 go_enter Tryd.func46, Tryd.ntmps46
 go_wp2
 go_ret
 exact ⟨by first | rfl | (simp [errW_none, errW_some] <;> rfl) | (simp [*, errW_none, errW_some] <;> rfl), by repeat (first | (with_reducible first | exact HB.out | apply Zf | apply Zd | apply Ze) | exact HB.out)⟩
end Go.Proofs.YtcgojdhbphocgaaDoor.F

namespace Go.Proofs.YtcgojdhbphocgaaDoor.F
open Go.RowKit Go.Proofs.YtcgojdhbphocgaaDoorW.PrintWords Go.Proofs.YtcgojdhbphocgaaDoorW.PrintWords.Kd Go.Proofs.YtcgojdhbphocgaaDoorW.PrintMore.Kd Go.Proofs.YtcgojdhbphocgaaDoorW.PrintLast Go.Proofs.YtcgojdhbphocgaaDoorW.PrintMore
attribute [local go_sem] max2_int min2_int max_two min_two max_three min_three max_four min_four   -- for this text's walks alone
set_option linter.unusedVariables false
set_option linter.unusedSimpArgs false
def laws_eqDisk.f (k : Nat) (l0_0 : List (S55)) (l1_0 : List (S55)) : Option (Bool) := (laws_eqFileS.f k l0_0 l1_0).bind fun t284 => (if t284 = true then (some true) else (some false))
set_option maxHeartbeats 8000000 in
set_option maxRecDepth 100000 in
theorem laws_eqDisk.calls (k : Nat) (A0_0 : Option Addr) (c0_0 : Nat) (l0_0 : List (S55)) (A1_0 : Option Addr) (c1_0 : Nat) (l1_0 : List (S55)) (r : Bool) (w : World) (hr0_0 : Kd.C k55 w A0_0 l0_0.length l0_0) (hc0_0 : l0_0.length ≤ c0_0) (hr1_0 : Kd.C k55 w A1_0 l1_0.length l1_0) (hc1_0 : l1_0.length ≤ c1_0) (h : laws_eqDisk.f k l0_0 l1_0 = some r) :
  Calls Tryd.prog 15 #[.agg #[.slice A0_0 l0_0.length c0_0], .agg #[.slice A1_0 l1_0.length c1_0]] w fun e w' => e = .returned (.bool r) ∧ Below w.heap.size w w' := by
 have hu28 := Tryd.underlying28
 have HR0_0 := Zh hr0_0
 have HC0_0 := Zh hc0_0
 clear hr0_0 hc0_0
 have HR1_0 := Zh hr1_0
 have HC1_0 := Zh hc1_0
 clear hr1_0 hc1_0
 have HB := Zh (Below.refl w.heap.size w)
 have H : ((laws_eqFileS.f k l0_0 l1_0).bind fun t284 => (if t284 = true then (some true) else (some false))) = some r := h
 clear h
 replace H := Option.bind_eq_some_iff.mp H
 obtain ⟨t284, A30, H⟩ := H
 replace H : (if t284 = true then (some true) else (some false)) = some r := H
 have A3 := Zh A30
 clear A30
 by_cases c4 : t284 = true
 ·
  subst c4
  have H1 : (some true) = some r := by rw [if_pos rfl] at H; exact H
  clear H
  have H := H1
  clear H1
  obtain rfl := Option.some.inj H
  go_enter Tryd.func15, Tryd.ntmps15
  go_wp2_with (first | ((with_reducible refine gate_dst (N := 2) rfl ?_); refine box_event ?hg (N := 2) ?hd (cs := #[.slice A0_0 l0_0.length c0_0]) (t := 28) ?hr ?_; (case hd => rfl); (case hg => rfl); (case hr => first | (go_simp; done) | (go_simp; rfl)); intro gb282 hg w5 hbox hb; have n0_ := Zh (Zl Zs hb); have n1_ := Zh (hbox); have n2_ := Zh ((by rw [hg]; exact (below_size Zs) : w.heap.size ≤ gb282)); have n3_ := Zh ((by rw [hg]; exact (below_size Zs) : w.heap.size ≤ gb282)); clear HB; have HB := n0_; have BK282 := n1_; have GW282 := n2_; have GE282 := n3_; clear n0_ n1_ n2_ n3_; clear hb hbox hg) | ((with_reducible refine gate_dst (N := 3) rfl ?_); refine box_event ?hg (N := 3) ?hd (cs := #[.slice A1_0 l1_0.length c1_0]) (t := 28) ?hr ?_; (case hd => rfl); (case hg => rfl); (case hr => first | (go_simp; done) | (go_simp; rfl)); intro gb283 hg w6 hbox hb; have n0_ := Zh (Zm (g := gb282) (o := .cells #[.slice A0_0 l0_0.length c0_0] 28 (0, 0)) Zk hb); have n1_ := Zh (Zl Zs hb); have n2_ := Zh (hbox); have n3_ := Zh ((by rw [hg]; exact (below_size Zs) : w.heap.size ≤ gb283)); have n4_ := Zh ((by rw [hg]; exact (below_size Zs) : w.heap.size ≤ gb283)); have n5_ := Zh ((by rw [hg]; exact Nat.ne_of_lt (blk_lt (g := gb282) (o := .cells #[.slice A0_0 l0_0.length c0_0] 28 (0, 0)) Zk) : gb282 ≠ gb283)); have n6_ := Zh ((by rw [hg]; exact Nat.ne_of_gt (blk_lt (g := gb282) (o := .cells #[.slice A0_0 l0_0.length c0_0] 28 (0, 0)) Zk) : gb283 ≠ gb282)); clear BK282; clear HB; have BK282 := n0_; have HB := n1_; have BK283 := n2_; have GW283 := n3_; have GE283 := n4_; have NB282_283 := n5_; have NB283_282 := n6_; clear n0_ n1_ n2_ n3_ n4_ n5_ n6_; clear hb hbox hg; have hnb7 := NB282_283.out; have hnc7 := NB283_282.out; have hcz8_0 : w6.cell? ⟨gb282, 0, none⟩ = some (.slice A0_0 l0_0.length c0_0) := (blk_cell BK282.out 0).trans rfl; have hfz8_0 := Zn BK282.out 0; have hcz9_0 : w6.cell? ⟨gb283, 0, none⟩ = some (.slice A1_0 l1_0.length c1_0) := (blk_cell BK283.out 0).trans rfl; have hfz9_0 := Zn BK283.out 0) | ((with_reducible refine gate_callee (f := 46) rfl ?_); refine goesL_ (some 9) rfl rfl Tryd.func46 (by kernel_rfl) rfl #[.slice A0_0 l0_0.length c0_0, .slice A1_0 l1_0.length c1_0] rfl (by (try simp only [List.map_toArray, List.map_cons, List.map_nil]); first | done | rfl | (simp only [List.length_drop, List.length_take]; rfl)) ?_; (with_reducible refine (laws_eqFileS.calls k _ _ l0_0 _ _ l1_0 true _ ?side1 ?side2 ?side3 ?side4 A3.out).mono ?_); (case side1 => repeat (first | exact (C_below HR0_0.out HB.out) | (with_reducible refine C_alloc ?_ _) | (with_reducible refine C_drewN ?_ _) | (with_reducible refine C_drew ?_))); (case side2 => exact HC0_0.out); (case side3 => repeat (first | exact (C_below HR1_0.out HB.out) | (with_reducible refine C_alloc ?_ _) | (with_reducible refine C_drewN ?_ _) | (with_reducible refine C_drew ?_))); (case side4 => exact HC1_0.out); rintro e w10 ⟨rfl, hb⟩; refine ⟨_, rfl, ?_⟩; have n0_ := Zh (Zm (g := gb282) (o := .cells #[.slice A0_0 l0_0.length c0_0] 28 (0, 0)) Zk hb); have n1_ := Zh (Zm (g := gb283) (o := .cells #[.slice A1_0 l1_0.length c1_0] 28 (0, 0)) Zk hb); have n2_ := Zh (Zl Zs hb); clear BK282; clear BK283; clear HB; have BK282 := n0_; have BK283 := n1_; have HB := n2_; clear n0_ n1_ n2_; (try clear hb); (try clear hb2); (try clear hk); (try clear hi)))
  go_ret
  exact ⟨by first | rfl | (simp [errW_none, errW_some] <;> rfl) | (simp [*, errW_none, errW_some] <;> rfl), by repeat (first | (with_reducible first | exact HB.out | apply Zf | apply Zd | apply Ze | refine Zg ?_ GE282.out | refine Zg ?_ GE283.out) | exact HB.out)⟩
 replace c4 := Bool.eq_false_iff.mpr c4
 subst c4
 have H1 : (some false) = some r := by rw [if_neg (show ¬ (false = true) by decide)] at H; exact H
 clear H
 have H := H1
 clear H1
 obtain rfl := Option.some.inj H
 go_enter Tryd.func15, Tryd.ntmps15
 go_wp2_with (first | ((with_reducible refine gate_dst (N := 2) rfl ?_); refine box_event ?hg (N := 2) ?hd (cs := #[.slice A0_0 l0_0.length c0_0]) (t := 28) ?hr ?_; (case hd => rfl); (case hg => rfl); (case hr => first | (go_simp; done) | (go_simp; rfl)); intro gb282 hg w11 hbox hb; have n0_ := Zh (Zl Zs hb); have n1_ := Zh (hbox); have n2_ := Zh ((by rw [hg]; exact (below_size Zs) : w.heap.size ≤ gb282)); have n3_ := Zh ((by rw [hg]; exact (below_size Zs) : w.heap.size ≤ gb282)); clear HB; have HB := n0_; have BK282 := n1_; have GW282 := n2_; have GE282 := n3_; clear n0_ n1_ n2_ n3_; clear hb hbox hg) | ((with_reducible refine gate_dst (N := 3) rfl ?_); refine box_event ?hg (N := 3) ?hd (cs := #[.slice A1_0 l1_0.length c1_0]) (t := 28) ?hr ?_; (case hd => rfl); (case hg => rfl); (case hr => first | (go_simp; done) | (go_simp; rfl)); intro gb283 hg w12 hbox hb; have n0_ := Zh (Zm (g := gb282) (o := .cells #[.slice A0_0 l0_0.length c0_0] 28 (0, 0)) Zk hb); have n1_ := Zh (Zl Zs hb); have n2_ := Zh (hbox); have n3_ := Zh ((by rw [hg]; exact (below_size Zs) : w.heap.size ≤ gb283)); have n4_ := Zh ((by rw [hg]; exact (below_size Zs) : w.heap.size ≤ gb283)); have n5_ := Zh ((by rw [hg]; exact Nat.ne_of_lt (blk_lt (g := gb282) (o := .cells #[.slice A0_0 l0_0.length c0_0] 28 (0, 0)) Zk) : gb282 ≠ gb283)); have n6_ := Zh ((by rw [hg]; exact Nat.ne_of_gt (blk_lt (g := gb282) (o := .cells #[.slice A0_0 l0_0.length c0_0] 28 (0, 0)) Zk) : gb283 ≠ gb282)); clear BK282; clear HB; have BK282 := n0_; have HB := n1_; have BK283 := n2_; have GW283 := n3_; have GE283 := n4_; have NB282_283 := n5_; have NB283_282 := n6_; clear n0_ n1_ n2_ n3_ n4_ n5_ n6_; clear hb hbox hg; have hnb13 := NB282_283.out; have hnc13 := NB283_282.out; have hcz14_0 : w12.cell? ⟨gb282, 0, none⟩ = some (.slice A0_0 l0_0.length c0_0) := (blk_cell BK282.out 0).trans rfl; have hfz14_0 := Zn BK282.out 0; have hcz15_0 : w12.cell? ⟨gb283, 0, none⟩ = some (.slice A1_0 l1_0.length c1_0) := (blk_cell BK283.out 0).trans rfl; have hfz15_0 := Zn BK283.out 0) | ((with_reducible refine gate_callee (f := 46) rfl ?_); refine goesL_ (some 9) rfl rfl Tryd.func46 (by kernel_rfl) rfl #[.slice A0_0 l0_0.length c0_0, .slice A1_0 l1_0.length c1_0] rfl (by (try simp only [List.map_toArray, List.map_cons, List.map_nil]); first | done | rfl | (simp only [List.length_drop, List.length_take]; rfl)) ?_; (with_reducible refine (laws_eqFileS.calls k _ _ l0_0 _ _ l1_0 false _ ?side1 ?side2 ?side3 ?side4 A3.out).mono ?_); (case side1 => repeat (first | exact (C_below HR0_0.out HB.out) | (with_reducible refine C_alloc ?_ _) | (with_reducible refine C_drewN ?_ _) | (with_reducible refine C_drew ?_))); (case side2 => exact HC0_0.out); (case side3 => repeat (first | exact (C_below HR1_0.out HB.out) | (with_reducible refine C_alloc ?_ _) | (with_reducible refine C_drewN ?_ _) | (with_reducible refine C_drew ?_))); (case side4 => exact HC1_0.out); rintro e w16 ⟨rfl, hb⟩; refine ⟨_, rfl, ?_⟩; have n0_ := Zh (Zm (g := gb282) (o := .cells #[.slice A0_0 l0_0.length c0_0] 28 (0, 0)) Zk hb); have n1_ := Zh (Zm (g := gb283) (o := .cells #[.slice A1_0 l1_0.length c1_0] 28 (0, 0)) Zk hb); have n2_ := Zh (Zl Zs hb); clear BK282; clear BK283; clear HB; have BK282 := n0_; have BK283 := n1_; have HB := n2_; clear n0_ n1_ n2_; (try clear hb); (try clear hb2); (try clear hk); (try clear hi)))
 go_ret
 exact ⟨by first | rfl | (simp [errW_none, errW_some] <;> rfl) | (simp [*, errW_none, errW_some] <;> rfl), by repeat (first | (with_reducible first | exact HB.out | apply Zf | apply Zd | apply Ze | refine Zg ?_ GE282.out | refine Zg ?_ GE283.out) | exact HB.out)⟩
def laws_heldByteS.l0 : Nat → List Int → Int → Int → Option (Int)
 | 0, _, _, _ => none
 | k + 1, x0, x1, x5 => if x5 < (x0.length : Int) then (if 0 ≤ x5 then (if (rd x0 x5) = ((x1) % 256) then (laws_heldByteS.l0 k x0 (wrap64 (x1 + 1)) (wrap64 (x5 + 1))) else (some (-1))) else (none)) else (some x1)
def laws_heldByteS.f (k : Nat) (l0 : List Int) (a1 : Int) : Option (Int) := laws_heldByteS.l0 k l0 a1 0
set_option maxHeartbeats 8000000 in
set_option maxRecDepth 100000 in
theorem laws_heldByteS.calls (k : Nat) (A0 : Option Addr) (c0 : Nat) (l0 : List Int) (a1 : Int) (r : Int) (w : World) (hr0 : Kd.C (Kd.int .u8) w A0 l0.length l0) (hc0 : l0.length ≤ c0) (h : laws_heldByteS.f k l0 a1 = some r) :
  Calls Tryd.prog 53 #[.slice A0 l0.length c0, .int .i64 a1] w fun e w' => e = .returned (.int .i64 r) ∧ Drawn0 w w' := by
 have HR0 := Zh hr0
 have HC0 := Zh hc0
 clear hr0 hc0
 have H : (laws_heldByteS.l0 k l0 a1 0) = some r := h
 clear h
 have H' := Zh H
 clear H
 go_enter Tryd.func53, Tryd.ntmps53
 go_wp2
 go_loopg [1, 5] k (fun kq v1 v5 w' => ∃ (x1_1 : Int) (x5_1 : Int), v1 = .int .i64 x1_1 ∧ v5 = .int .i64 x5_1 ∧ Aside0 (laws_heldByteS.l0 kq l0 x1_1 x5_1 = some r) ∧ Aside0 (kq ≤ k) ∧ Drawn0 w w')
 case atStart => exact ⟨(a1), (0), (by first | rfl | (simp; done) | (simp [*]; done)), (by first | rfl | (simp; done) | (simp [*]; done)), H', ⟨Nat.le_refl _⟩, by repeat (first | exact Drawn0.refl _ | apply Drawn0.step)⟩
 case round =>
  clear H'
  try clear p2
  obtain ⟨x1_1, x5_1, rfl, rfl, HA, HK1, ⟨m1, rfl⟩⟩ := hrel
  cases gk with
  | zero => exact absurd HA.out (by simp [laws_heldByteS.l0])
  | succ k1 =>
   have H := HA.out
   clear HA
   simp only [laws_heldByteS.l0] at H
   by_cases c3 : x5_1 < (l0.length : Int)
   ·
    rw [if_pos c3] at H
    have c3b0 : decide (x5_1 < (l0.length : Int)) = true := decide_eq_true c3
    clear c3
    by_cases c4 : 0 ≤ x5_1
    ·
     rw [if_pos c4] at H
     have c4b0 : decide (0 ≤ x5_1) = true := decide_eq_true c4
     clear c4
     by_cases c5 : (rd l0 x5_1) = ((x1_1) % 256)
     ·
      rw [if_pos c5] at H
      have c5b0 : ((rd l0 x5_1) == ((x1_1) % 256)) = true := beq_iff_eq.mpr c5
      have c5b1 : ((rd l0 x5_1) != ((x1_1) % 256)) = false := bne_eq_false_iff_eq.mpr c5
      clear c5
      have H' := Zh H
      clear H
      have p289 : 0 ≤ (x5_1 : Int) := Zo
      have q289 : x5_1 < (l0.length : Int) := Zo
      obtain ⟨ad289, e289, hx289_0⟩ := Kd.at_int HR0.out x5_1 p289 q289
      cases e289
      replace p289 := eq_true p289
      replace q289 := eq_true q289
      go_wp2
      go_roundg k1
      case measure => have := HK1.out; omega
      case rel => exact ⟨(wrap64 (x1_1 + 1)), (wrap64 (x5_1 + 1)), (by first | rfl | (simp; done) | (simp [*]; done)), (by first | rfl | (simp; done) | (simp [*]; done)), H', ⟨by have := HK1.out; omega⟩, by repeat (first | exact Drawn0.refl _ | apply Drawn0.step)⟩
     rw [if_neg c5] at H
     have c5b0 : ((rd l0 x5_1) == ((x1_1) % 256)) = false := beq_eq_false_iff_ne.mpr c5
     have c5b1 : ((rd l0 x5_1) != ((x1_1) % 256)) = true := bne_iff_ne.mpr c5
     obtain rfl := Option.some.inj H
     have p289 : 0 ≤ (x5_1 : Int) := Zo
     have q289 : x5_1 < (l0.length : Int) := Zo
     obtain ⟨ad289, e289, hx289_0⟩ := Kd.at_int HR0.out x5_1 p289 q289
     cases e289
     replace p289 := eq_true p289
     replace q289 := eq_true q289
     go_wp2
     go_ret
     exact ⟨by first | rfl | (simp; done) | (simp [*]; done), by repeat (first | exact Drawn0.refl _ | apply Drawn0.step)⟩
    rw [if_neg c4] at H
    exact absurd H (by simp)
   rw [if_neg c3] at H
   have c3b0 : decide (x5_1 < (l0.length : Int)) = false := decide_eq_false c3
   clear c3
   obtain rfl := Option.some.inj H
   go_wp2
   go_ret
   exact ⟨by first | rfl | (simp; done) | (simp [*]; done), by repeat (first | exact Drawn0.refl _ | apply Drawn0.step)⟩
def laws_markText.l0 : Nat → Int → ByteArray → Option (ByteArray)
 | 0, _, _ => none
 | k + 1, x0, x3 => if x0 > 0 then ((some (([(wrap64 (48 + (Int.tmod x0 10))) % 256] : List Int) : List Int)).bind fun y286 => (if (strOfNums y286).size + x3.size ≤ 9223372036854775807 then (laws_markText.l0 k (wrap64 (Int.tdiv x0 10)) ((strOfNums y286) ++ x3)) else (none))) else (if 1 + x3.size ≤ 9223372036854775807 then (some ((⟨#[109]⟩ : ByteArray) ++ x3)) else (none))
def laws_markText.f (k : Nat) (a0 : Int) : Option (ByteArray) := if a0 ≤ 0 then (some (⟨#[109, 48]⟩ : ByteArray)) else (laws_markText.l0 k a0 (⟨#[]⟩ : ByteArray))
set_option maxHeartbeats 8000000 in
set_option maxRecDepth 100000 in
theorem laws_markText.calls (k : Nat) (a0 : Int) (r : ByteArray) (w : World) (h : laws_markText.f k a0 = some r) :
  Calls Tryd.prog 80 #[.int .i64 a0] w fun e w' => e = .returned (.string r) ∧ Below w.heap.size w w' := by
 have HB := Zh (Below.refl w.heap.size w)
 have H : (if a0 ≤ 0 then (some (⟨#[109, 48]⟩ : ByteArray)) else (laws_markText.l0 k a0 (⟨#[]⟩ : ByteArray))) = some r := h
 clear h
 by_cases c2 : a0 ≤ 0
 ·
  rw [if_pos c2] at H
  have c2b0 : decide (a0 ≤ 0) = true := decide_eq_true c2
  clear c2
  obtain rfl := Option.some.inj H
  go_enter Tryd.func80, Tryd.ntmps80
  go_wp2
  go_ret
  exact ⟨by first | rfl | (simp [errW_none, errW_some] <;> rfl) | (simp [*, errW_none, errW_some] <;> rfl), by repeat (first | (with_reducible first | exact HB.out | apply Zf | apply Zd | apply Ze) | exact HB.out)⟩
 rw [if_neg c2] at H
 have c2b0 : decide (a0 ≤ 0) = false := decide_eq_false c2
 clear c2
 have H' := Zh H
 clear H
 go_enter Tryd.func80, Tryd.ntmps80
 go_wp2
 go_loopg [0, 3] k (fun kq v0 v3 w' => ∃ (x0_1 : Int) (x3_1 : ByteArray), v0 = .int .i64 x0_1 ∧ v3 = .string x3_1 ∧ Aside0 (laws_markText.l0 kq x0_1 x3_1 = some r) ∧ Aside0 (kq ≤ k) ∧ Aside0 (Below w.heap.size w w'))
 case atStart => exact ⟨(a0), ((⟨#[]⟩ : ByteArray)), (by first | rfl | (simp; done) | (simp [*]; done)), (by first | rfl | (simp; done) | (simp [*]; done)), H', ⟨Nat.le_refl _⟩, ⟨by repeat (first | (with_reducible first | exact HB.out | apply Zf | apply Zd | apply Ze) | exact HB.out)⟩⟩
 case round =>
  clear H'
  try clear c2
  try clear c2b0
  try clear p2
  obtain ⟨x0_1, x3_1, rfl, rfl, HA, HK1, HB⟩ := hrel
  cases gk with
  | zero => exact absurd HA.out (by simp [laws_markText.l0])
  | succ k1 =>
   have H := HA.out
   clear HA
   simp only [laws_markText.l0] at H
   by_cases c3 : x0_1 > 0
   ·
    rw [if_pos c3] at H
    have c3b0 : decide (0 < x0_1) = true := decide_eq_true c3
    clear c3
    obtain ⟨y286, hy286⟩ : ∃ y_ : List Int, y_ = (([(wrap64 (48 + (Int.tmod x0_1 10))) % 256] : List Int)) := ⟨_, rfl⟩
    replace H : (if (strOfNums y286).size + x3_1.size ≤ 9223372036854775807 then (laws_markText.l0 k1 (wrap64 (Int.tdiv x0_1 10)) ((strOfNums y286) ++ x3_1)) else (none)) = some r := by first | (rw [hy286]; with_reducible exact H) | (have H2_ := (Option.bind_some _ _).symm.trans H; rw [hy286]; with_reducible exact H2_) | (have H2_ := (Option.bind_some _ _).symm.trans H; with_reducible exact H2_) | with_reducible exact H | (rw [hy286]; exact H) | exact H
    have Ny286 := Zh hy286
    clear hy286
    by_cases c4 : (strOfNums y286).size + x3_1.size ≤ 9223372036854775807
    ·
     rw [if_pos c4] at H
     have c4b0 := eq_true c4
     have c4b1 : decide ((strOfNums y286).size + x3_1.size ≤ 9223372036854775807) = true := decide_eq_true c4
     try have c4b2 : (9223372036854775807 < (strOfNums y286).size + x3_1.size) = False := eq_false (Nat.not_lt.2 c4)
     have H' := Zh H
     clear H
     go_wp2_with (first | ((with_reducible refine gate_dst (N := 12) rfl ?_); refine R_lit (Kd.int .u8) _ 5 ?hg (N := 12) ?hd (xs := ([(wrap64 (48 + (Int.tmod x0_1 10))) % 256] : List Int)) (inner := [.int .u8 ((wrap64 (48 + (Int.tmod x0_1 10))) % 256)]) (ok := fun _ => True) (okp := fun _ => True) ?hr ?hp (fun _ hk => hk) trivial (Below.refl _ _) (Nat.le_refl _) (by simp) ?_; (case hd => rfl); (case hg => rfl); (case hr => first | (go_simp; done) | (go_simp; rfl)); (case hp => exact (Reps.one (show Kd.M (Kd.int .u8) _ _ _ ((wrap64 (48 + (Int.tmod x0_1 10))) % 256) [.int .u8 ((wrap64 (48 + (Int.tmod x0_1 10))) % 256)] from rfl) (Reps.none _ _))); intro v287 w5 ho6 hb hg_ hnew_; clear hg_ hnew_; (first | rw [← Ny286.out] at ho6 | (simp only [Int.reduceToNat] at ho6; rw [← Ny286.out] at ho6)); have n0_ := Zh (R_lower ho6 (below_size Zs)); have n1_ := Zh (Zl Zs hb); clear HB; have HO288 := n0_; have HB := n1_; clear n0_ n1_; clear hb ho6; have hcv7 := own_string (P := Tryd.prog) Tryd.underlying41 Tryd.underlying5 Tryd.underlying9 (Kd.own_of_R HO288.out); have hcv8 := fun (nq_ : Nat) => own_string (P := Tryd.prog) Tryd.underlying41 Tryd.underlying5 Tryd.underlying9 (Kd.own_of_R (R_drewN HO288.out nq_))))
     go_roundg k1
     case measure => have := HK1.out; omega
     case rel => exact ⟨(wrap64 (Int.tdiv x0_1 10)), ((strOfNums y286) ++ x3_1), (by first | rfl | (simp; done) | (simp [*]; done)), (by first | rfl | (simp; done) | (simp [*]; done)), H', ⟨by have := HK1.out; omega⟩, ⟨by repeat (first | (with_reducible first | exact HB.out | apply Zf | apply Zd | apply Ze) | exact HB.out)⟩⟩
    rw [if_neg c4] at H
    exact absurd H (by simp)
   rw [if_neg c3] at H
   have c3b0 : decide (0 < x0_1) = false := decide_eq_false c3
   clear c3
   by_cases c9 : 1 + x3_1.size ≤ 9223372036854775807
   ·
    rw [if_pos c9] at H
    have c9b0 := eq_true c9
    have c9b1 : decide (1 + x3_1.size ≤ 9223372036854775807) = true := decide_eq_true c9
    try have c9b2 : (9223372036854775807 < 1 + x3_1.size) = False := eq_false (Nat.not_lt.2 c9)
    obtain rfl := Option.some.inj H
    go_wp2
    go_ret
    exact ⟨by first | rfl | (simp [errW_none, errW_some] <;> rfl) | (simp [*, errW_none, errW_some] <;> rfl), by repeat (first | (with_reducible first | exact HB.out | apply Zf | apply Zd | apply Ze) | exact HB.out)⟩
   rw [if_neg c9] at H
   exact absurd H (by simp)
end Go.Proofs.YtcgojdhbphocgaaDoor.F

namespace Go.Proofs.YtcgojdhbphocgaaDoor.F
open Go.Proofs.YtcgojdhbphocgaaDoor
open Go.RowKit Go.Proofs.YtcgojdhbphocgaaDoorW.PrintWords Go.Proofs.YtcgojdhbphocgaaDoorW.PrintWords.Kd Go.Proofs.YtcgojdhbphocgaaDoorW.PrintMore.Kd Go.Proofs.YtcgojdhbphocgaaDoorW.PrintLast Go.Proofs.YtcgojdhbphocgaaDoorW.PrintMore
attribute [local go_sem] max2_int min2_int max_two min_two max_three min_three max_four min_four   -- for this text's walks alone
set_option linter.unusedVariables false
set_option linter.unusedSimpArgs false
def laws_heldFileS.l0 : Nat → List (S55) → Int → Int → Option (Int)
 | 0, _, _, _ => none
 | k + 1, x0, x1, x5 => if x5 < (x0.length : Int) then (if 0 ≤ x5 then ((laws_markText.f k x1).bind fun t291 => (if ((rd_T55 x0 x5).f0).toList = t291.toList then ((laws_heldByteS.f k ((rd_T55 x0 x5).f1) (wrap64 (x1 + 1))).bind fun t293 => (if t293 < 0 then (some (-1)) else ((laws_heldByteS.f k ((rd_T55 x0 x5).f2) t293).bind fun t295 => (if t295 < 0 then (some (-1)) else (laws_heldFileS.l0 k x0 t295 (wrap64 (x5 + 1))))))) else (some (-1)))) else (none)) else (some x1)
def laws_heldFileS.f (k : Nat) (l0 : List (S55)) (a1 : Int) : Option (Int) := laws_heldFileS.l0 k l0 a1 0
def laws_heldFileS.T4 : Bool × List (List Nat × List Nat) := (true, [([], []), ([], []), ([0, 1], [0, 1]), ([2], [2]), ([3], [3]), ([], []), ([5], [5]), ([4, 6], [4, 6])])
def laws_heldFileS.B4 : List Nat := [0, 0, 3, 7, 15, 0, 32, 127]
theorem laws_heldFileS.tab4 : rtab .any (opsOf Tryd.f48 4) = laws_heldFileS.T4 := by kernel_rfl
theorem laws_heldFileS.bits4 : waitsOk laws_heldFileS.T4.2 laws_heldFileS.B4 = true := by kernel_rfl
set_option maxHeartbeats 8000000 in
set_option maxRecDepth 100000 in
theorem laws_heldFileS.calls (k : Nat) (A0 : Option Addr) (c0 : Nat) (l0 : List (S55)) (a1 : Int) (r : Int) (w : World) (hr0 : Kd.C k55 w A0 l0.length l0) (hc0 : l0.length ≤ c0) (h : laws_heldFileS.f k l0 a1 = some r) :
  Calls Tryd.prog 48 #[.slice A0 l0.length c0, .int .i64 a1] w fun e w' => e = .returned (.int .i64 r) ∧ Below w.heap.size w w' := by
 have HR0 := Zh hr0
 have HC0 := Zh hc0
 clear hr0 hc0
 have HB := Zh (Below.refl w.heap.size w)
 have H : (laws_heldFileS.l0 k l0 a1 0) = some r := h
 clear h
 have H' := Zh H
 clear H
 go_enter Tryd.func48, Tryd.ntmps48
 go_wp2
 go_loopg [1, 5] k (fun kq v1 v5 w' => ∃ (x1_1 : Int) (x5_1 : Int), v1 = .int .i64 x1_1 ∧ v5 = .int .i64 x5_1 ∧ Aside0 (laws_heldFileS.l0 kq l0 x1_1 x5_1 = some r) ∧ Aside0 (kq ≤ k) ∧ Aside0 (Below w.heap.size w w'))
 case atStart => exact ⟨(a1), (0), (by first | rfl | (simp; done) | (simp [*]; done)), (by first | rfl | (simp; done) | (simp [*]; done)), H', ⟨Nat.le_refl _⟩, ⟨by repeat (first | (with_reducible first | exact HB.out | apply Zf | apply Zd | apply Ze) | exact HB.out)⟩⟩
 case round =>
  clear H'
  try clear p2
  obtain ⟨x1_1, x5_1, rfl, rfl, HA, HK1, HB⟩ := hrel
  cases gk with
  | zero => exact absurd HA.out (by simp [laws_heldFileS.l0])
  | succ k1 =>
   have H := HA.out
   clear HA
   simp only [laws_heldFileS.l0] at H
   by_cases c3 : x5_1 < (l0.length : Int)
   ·
    rw [if_pos c3] at H
    have c3b0 : decide (x5_1 < (l0.length : Int)) = true := decide_eq_true c3
    clear c3
    by_cases c4 : 0 ≤ x5_1
    ·
     rw [if_pos c4] at H
     have c4b0 : decide (0 ≤ x5_1) = true := decide_eq_true c4
     clear c4
     replace H := Option.bind_eq_some_iff.mp H
     obtain ⟨t291, A50, H⟩ := H
     replace H : (if ((rd_T55 l0 x5_1).f0).toList = t291.toList then ((laws_heldByteS.f k1 ((rd_T55 l0 x5_1).f1) (wrap64 (x1_1 + 1))).bind fun t293 => (if t293 < 0 then (some (-1)) else ((laws_heldByteS.f k1 ((rd_T55 l0 x5_1).f2) t293).bind fun t295 => (if t295 < 0 then (some (-1)) else (laws_heldFileS.l0 k1 l0 t295 (wrap64 (x5_1 + 1))))))) else (some (-1))) = some r := H
     have A5 := Zh A50
     clear A50
     by_cases c6 : ((rd_T55 l0 x5_1).f0).toList = t291.toList
     ·
      rw [if_pos c6] at H
      have c6b0 : (((rd_T55 l0 x5_1).f0).toList == t291.toList) = true := beq_iff_eq.mpr c6
      have c6b1 : (((rd_T55 l0 x5_1).f0).toList != t291.toList) = false := bne_eq_false_iff_eq.mpr c6
      clear c6
      replace H := Option.bind_eq_some_iff.mp H
      obtain ⟨t293, A70, H⟩ := H
      replace H : (if t293 < 0 then (some (-1)) else ((laws_heldByteS.f k1 ((rd_T55 l0 x5_1).f2) t293).bind fun t295 => (if t295 < 0 then (some (-1)) else (laws_heldFileS.l0 k1 l0 t295 (wrap64 (x5_1 + 1)))))) = some r := H
      have A7 := Zh A70
      clear A70
      by_cases c8 : t293 < 0
      ·
       rw [if_pos c8] at H
       have c8b0 : decide (t293 < 0) = true := decide_eq_true c8
       clear c8
       obtain rfl := Option.some.inj H
       try go_wp2
       have n0_ := Zh (Ze HB.out)
       clear HB
       have HB := n0_
       clear n0_
       have p290 : 0 ≤ (x5_1 : Int) := Zo
       have q290 : x5_1 < (l0.length : Int) := Zo
       obtain ⟨ad290, A290_1, c290_1, A290_2, c290_2, e290, hx290_0, hx290_1, hx290_2, hl290_1, hi290_1, hl290_2, hi290_2⟩ := at_T55 HR0.out x5_1 p290 q290
       have hw290_2 := hx290_2
       have hw290_1 := hx290_1
       have hw290_0 := hx290_0
       cases e290
       replace hx290_0 := Zc HB.out hx290_0
       replace hx290_1 := Zc HB.out hx290_1
       replace hx290_2 := Zc HB.out hx290_2
       have HR290_1 := Zh hi290_1
       have HC290_1 := Zh hl290_1
       clear hi290_1 hl290_1
       have HR290_2 := Zh hi290_2
       have HC290_2 := Zh hl290_2
       clear hi290_2 hl290_2
       replace p290 := eq_true p290
       replace q290 := eq_true q290
       refine start_ (n := 8) (S := fun w' => w'.cell? (ad290.add ((x5_1).toNat * 3)) = some (.string ((rd_T55 l0 x5_1).f0)) ∧ w'.cell? ⟨(ad290.add ((x5_1).toNat * 3)).block, (ad290.add ((x5_1).toNat * 3)).off + 1, none⟩ = some (.slice A290_1 ((rd_T55 l0 x5_1).f1).length c290_1) ∧ w'.cell? ⟨(ad290.add ((x5_1).toNat * 3)).block, (ad290.add ((x5_1).toNat * 3)).off + 2, none⟩ = some (.slice A290_2 ((rd_T55 l0 x5_1).f2).length c290_2)) (ds := []) #[false, false, false, false, false, false, false, false] (by kernel_rfl) rfl rfl ⟨((HB.out.cell (Zi w _ hw290_0)).trans hw290_0), ((HB.out.cell (Zi w _ hw290_1)).trans hw290_1), ((HB.out.cell (Zi w _ hw290_2)).trans hw290_2)⟩ (fun hHeld => ?_); refine with_tabW laws_heldFileS.tab4 laws_heldFileS.bits4 (fun HT_ HW_ => ?_)
       generalize wr.drew = w9 at HB HR290_1 HR290_2 hx290_0 hx290_1 hx290_2 hHeld ⊢
       refine SQ.pu 0 12 HT_ ?_
       refine SQ.pu 1 13 HT_ ?_
       refine SQ.pu 2 14 HT_ ?_
       refine SQ.pu 3 15 HT_ ?_
       refine SQ.pu 5 17 HT_ ?_
       refine SQ.tk 4 16 HT_ HW_ hHeld ?_
       refine one_ (i := 6) (N := some 18) #[true, true, true, true, true, true, true, false] rfl rfl (one_of HT_.out (by kernel_rfl)) (by decide) (fun K hK => ?_)
       refine goes_ Tryd.func80 (by kernel_rfl) rfl #[.int .i64 x1_1] (by rfl) rfl rfl (by (try simp only [List.map_toArray, List.map_cons, List.map_nil]); first | done | rfl | (simp only [List.length_drop, List.length_take]; rfl)) ?_
       with_reducible refine (laws_markText.calls k1 x1_1 t291 _ A5.out).mono ?_
       rintro e w10 ⟨rfl, hb⟩
       refine ⟨_, rfl, ?_⟩
       have n0_ := Zh (Zl Zs hb)
       clear HB
       have HB := n0_
       clear n0_
       (try clear hb)
       (try clear hb2)
       (try clear hk)
       (try clear hi)
       refine hK.out _ _ ⟨((HB.out.cell (Zi w _ hw290_0)).trans hw290_0), ((HB.out.cell (Zi w _ hw290_1)).trans hw290_1), ((HB.out.cell (Zi w _ hw290_2)).trans hw290_2)⟩ (fun hHeld => ?_)
       clear hK K
       refine norm_ (a' := ?_) ?_ ?_
       rotate_left
       ·
        show Act.put _ (some 18) _ = _
        simp only [Act.put, List.setIfInBounds_toArray, List.set_cons_zero, List.set_cons_succ, i64_w, i32_w]
        rfl
       refine SQ.pu 7 19 HT_ ?_
       refine done_ (done_of HT_.out (by kernel_rfl)) ?_
       have p292 : 0 ≤ (x5_1 : Int) := Zo
       have q292 : x5_1 < (l0.length : Int) := Zo
       obtain ⟨ad292, A292_1, c292_1, A292_2, c292_2, e292, hx292_0, hx292_1, hx292_2, hl292_1, hi292_1, hl292_2, hi292_2⟩ := at_T55 HR0.out x5_1 p292 q292
       obtain rfl : ad290 = ad292 := (by injection e292)
       (try clear hx290_0); (try clear hx290_1); (try clear hx290_2); (try clear hx290_3); (try clear hHeld)
       replace hx292_0 := Zc HB.out hx292_0
       replace hx292_1 := Zc HB.out hx292_1
       replace hx292_2 := Zc HB.out hx292_2
       have HR292_1 := Zh hi292_1
       have HC292_1 := Zh hl292_1
       clear hi292_1 hl292_1
       have HR292_2 := Zh hi292_2
       have HC292_2 := Zh hl292_2
       clear hi292_2 hl292_2
       replace p292 := eq_true p292
       replace q292 := eq_true q292
       try go_wp2_with (first | ((with_reducible refine gate_callee (f := 53) rfl ?_); refine goesL_ (some 28) rfl rfl Tryd.func53 (by kernel_rfl) rfl #[.slice A292_1 ((rd_T55 l0 x5_1).f1).length c292_1, .int .i64 (wrap64 (x1_1 + 1))] rfl (by (try simp only [List.map_toArray, List.map_cons, List.map_nil]); first | done | rfl | (simp only [List.length_drop, List.length_take]; rfl)) ?_; (with_reducible refine (laws_heldByteS.calls k1 _ _ ((rd_T55 l0 x5_1).f1) (wrap64 (x1_1 + 1)) t293 _ ?side1 ?side2 A7.out).mono ?_); (case side1 => repeat (first | exact (C_below HR292_1.out HB.out) | (with_reducible refine C_alloc ?_ _) | (with_reducible refine C_drewN ?_ _) | (with_reducible refine C_drew ?_))); (case side2 => exact HC292_1.out); rintro e w' ⟨rfl, ⟨nd, rfl⟩⟩; refine ⟨_, rfl, ?_⟩))
       go_ret
       exact ⟨by first | rfl | (simp [errW_none, errW_some] <;> rfl) | (simp [*, errW_none, errW_some] <;> rfl), by repeat (first | (with_reducible first | exact HB.out | apply Zf | apply Zd | apply Ze) | exact HB.out)⟩
      rw [if_neg c8] at H
      have c8b0 : decide (t293 < 0) = false := decide_eq_false c8
      clear c8
      replace H := Option.bind_eq_some_iff.mp H
      obtain ⟨t295, A110, H⟩ := H
      replace H : (if t295 < 0 then (some (-1)) else (laws_heldFileS.l0 k1 l0 t295 (wrap64 (x5_1 + 1)))) = some r := H
      have A11 := Zh A110
      clear A110
      by_cases c12 : t295 < 0
      ·
       rw [if_pos c12] at H
       have c12b0 : decide (t295 < 0) = true := decide_eq_true c12
       clear c12
       obtain rfl := Option.some.inj H
       try go_wp2
       have n0_ := Zh (Ze HB.out)
       clear HB
       have HB := n0_
       clear n0_
       have p290 : 0 ≤ (x5_1 : Int) := Zo
       have q290 : x5_1 < (l0.length : Int) := Zo
       obtain ⟨ad290, A290_1, c290_1, A290_2, c290_2, e290, hx290_0, hx290_1, hx290_2, hl290_1, hi290_1, hl290_2, hi290_2⟩ := at_T55 HR0.out x5_1 p290 q290
       have hw290_2 := hx290_2
       have hw290_1 := hx290_1
       have hw290_0 := hx290_0
       cases e290
       replace hx290_0 := Zc HB.out hx290_0
       replace hx290_1 := Zc HB.out hx290_1
       replace hx290_2 := Zc HB.out hx290_2
       have HR290_1 := Zh hi290_1
       have HC290_1 := Zh hl290_1
       clear hi290_1 hl290_1
       have HR290_2 := Zh hi290_2
       have HC290_2 := Zh hl290_2
       clear hi290_2 hl290_2
       replace p290 := eq_true p290
       replace q290 := eq_true q290
       refine start_ (n := 8) (S := fun w' => w'.cell? (ad290.add ((x5_1).toNat * 3)) = some (.string ((rd_T55 l0 x5_1).f0)) ∧ w'.cell? ⟨(ad290.add ((x5_1).toNat * 3)).block, (ad290.add ((x5_1).toNat * 3)).off + 1, none⟩ = some (.slice A290_1 ((rd_T55 l0 x5_1).f1).length c290_1) ∧ w'.cell? ⟨(ad290.add ((x5_1).toNat * 3)).block, (ad290.add ((x5_1).toNat * 3)).off + 2, none⟩ = some (.slice A290_2 ((rd_T55 l0 x5_1).f2).length c290_2)) (ds := []) #[false, false, false, false, false, false, false, false] (by kernel_rfl) rfl rfl ⟨((HB.out.cell (Zi w _ hw290_0)).trans hw290_0), ((HB.out.cell (Zi w _ hw290_1)).trans hw290_1), ((HB.out.cell (Zi w _ hw290_2)).trans hw290_2)⟩ (fun hHeld => ?_); refine with_tabW laws_heldFileS.tab4 laws_heldFileS.bits4 (fun HT_ HW_ => ?_)
       generalize wr.drew = w13 at HB HR290_1 HR290_2 hx290_0 hx290_1 hx290_2 hHeld ⊢
       refine SQ.pu 0 12 HT_ ?_
       refine SQ.pu 1 13 HT_ ?_
       refine SQ.pu 2 14 HT_ ?_
       refine SQ.pu 3 15 HT_ ?_
       refine SQ.pu 5 17 HT_ ?_
       refine SQ.tk 4 16 HT_ HW_ hHeld ?_
       refine one_ (i := 6) (N := some 18) #[true, true, true, true, true, true, true, false] rfl rfl (one_of HT_.out (by kernel_rfl)) (by decide) (fun K hK => ?_)
       refine goes_ Tryd.func80 (by kernel_rfl) rfl #[.int .i64 x1_1] (by rfl) rfl rfl (by (try simp only [List.map_toArray, List.map_cons, List.map_nil]); first | done | rfl | (simp only [List.length_drop, List.length_take]; rfl)) ?_
       with_reducible refine (laws_markText.calls k1 x1_1 t291 _ A5.out).mono ?_
       rintro e w14 ⟨rfl, hb⟩
       refine ⟨_, rfl, ?_⟩
       have n0_ := Zh (Zl Zs hb)
       clear HB
       have HB := n0_
       clear n0_
       (try clear hb)
       (try clear hb2)
       (try clear hk)
       (try clear hi)
       refine hK.out _ _ ⟨((HB.out.cell (Zi w _ hw290_0)).trans hw290_0), ((HB.out.cell (Zi w _ hw290_1)).trans hw290_1), ((HB.out.cell (Zi w _ hw290_2)).trans hw290_2)⟩ (fun hHeld => ?_)
       clear hK K
       refine norm_ (a' := ?_) ?_ ?_
       rotate_left
       ·
        show Act.put _ (some 18) _ = _
        simp only [Act.put, List.setIfInBounds_toArray, List.set_cons_zero, List.set_cons_succ, i64_w, i32_w]
        rfl
       refine SQ.pu 7 19 HT_ ?_
       refine done_ (done_of HT_.out (by kernel_rfl)) ?_
       have p292 : 0 ≤ (x5_1 : Int) := Zo
       have q292 : x5_1 < (l0.length : Int) := Zo
       obtain ⟨ad292, A292_1, c292_1, A292_2, c292_2, e292, hx292_0, hx292_1, hx292_2, hl292_1, hi292_1, hl292_2, hi292_2⟩ := at_T55 HR0.out x5_1 p292 q292
       obtain rfl : ad290 = ad292 := (by injection e292)
       (try clear hx290_0); (try clear hx290_1); (try clear hx290_2); (try clear hx290_3); (try clear hHeld)
       replace hx292_0 := Zc HB.out hx292_0
       replace hx292_1 := Zc HB.out hx292_1
       replace hx292_2 := Zc HB.out hx292_2
       have HR292_1 := Zh hi292_1
       have HC292_1 := Zh hl292_1
       clear hi292_1 hl292_1
       have HR292_2 := Zh hi292_2
       have HC292_2 := Zh hl292_2
       clear hi292_2 hl292_2
       replace p292 := eq_true p292
       replace q292 := eq_true q292
       try go_wp2_with (first | ((with_reducible refine gate_callee (f := 53) rfl ?_); refine goesL_ (some 28) rfl rfl Tryd.func53 (by kernel_rfl) rfl #[.slice A292_1 ((rd_T55 l0 x5_1).f1).length c292_1, .int .i64 (wrap64 (x1_1 + 1))] rfl (by (try simp only [List.map_toArray, List.map_cons, List.map_nil]); first | done | rfl | (simp only [List.length_drop, List.length_take]; rfl)) ?_; (with_reducible refine (laws_heldByteS.calls k1 _ _ ((rd_T55 l0 x5_1).f1) (wrap64 (x1_1 + 1)) t293 _ ?side1 ?side2 A7.out).mono ?_); (case side1 => repeat (first | exact (C_below HR292_1.out HB.out) | (with_reducible refine C_alloc ?_ _) | (with_reducible refine C_drewN ?_ _) | (with_reducible refine C_drew ?_))); (case side2 => exact HC292_1.out); rintro e w' ⟨rfl, ⟨nd, rfl⟩⟩; refine ⟨_, rfl, ?_⟩; have p294 : 0 ≤ (x5_1 : Int) := Zo; have q294 : x5_1 < (l0.length : Int) := Zo; obtain ⟨ad294, A294_1, c294_1, A294_2, c294_2, e294, hx294_0, hx294_1, hx294_2, hl294_1, hi294_1, hl294_2, hi294_2⟩ := at_T55 HR0.out x5_1 p294 q294; obtain rfl : ad290 = ad294 := (by injection e294); replace hx294_0 := Zc HB.out hx294_0; replace hx294_1 := Zc HB.out hx294_1; replace hx294_2 := Zc HB.out hx294_2; have HR294_1 := Zh hi294_1; have HC294_1 := Zh hl294_1; clear hi294_1 hl294_1; have HR294_2 := Zh hi294_2; have HC294_2 := Zh hl294_2; clear hi294_2 hl294_2; replace p294 := eq_true p294; replace q294 := eq_true q294; have ea_ := Option.some.inj (hx292_1.symm.trans hx294_1); injection ea_ with ea_ en_ ec_; subst ea_; subst ec_; clear en_; have ea_ := Option.some.inj (hx292_2.symm.trans hx294_2); injection ea_ with ea_ en_ ec_; subst ea_; subst ec_; clear en_) | ((with_reducible refine gate_callee (f := 53) rfl ?_); refine goesL_ (some 37) rfl rfl Tryd.func53 (by kernel_rfl) rfl #[.slice A292_2 ((rd_T55 l0 x5_1).f2).length c292_2, .int .i64 t293] rfl (by (try simp only [List.map_toArray, List.map_cons, List.map_nil]); first | done | rfl | (simp only [List.length_drop, List.length_take]; rfl)) ?_; (with_reducible refine (laws_heldByteS.calls k1 _ _ ((rd_T55 l0 x5_1).f2) t293 t295 _ ?side1 ?side2 A11.out).mono ?_); (case side1 => repeat (first | exact (C_below HR294_2.out Zs) | (with_reducible refine C_alloc ?_ _) | (with_reducible refine C_drewN ?_ _) | (with_reducible refine C_drew ?_))); (case side2 => exact HC294_2.out); rintro e w' ⟨rfl, ⟨nd, rfl⟩⟩; refine ⟨_, rfl, ?_⟩))
       go_ret
       exact ⟨by first | rfl | (simp [errW_none, errW_some] <;> rfl) | (simp [*, errW_none, errW_some] <;> rfl), by repeat (first | (with_reducible first | exact HB.out | apply Zf | apply Zd | apply Ze) | exact HB.out)⟩
      rw [if_neg c12] at H
      have c12b0 : decide (t295 < 0) = false := decide_eq_false c12
      clear c12
      have H' := Zh H
      clear H
      try go_wp2
      have n0_ := Zh (Ze HB.out)
      clear HB
      have HB := n0_
      clear n0_
      have p290 : 0 ≤ (x5_1 : Int) := Zo
      have q290 : x5_1 < (l0.length : Int) := Zo
      obtain ⟨ad290, A290_1, c290_1, A290_2, c290_2, e290, hx290_0, hx290_1, hx290_2, hl290_1, hi290_1, hl290_2, hi290_2⟩ := at_T55 HR0.out x5_1 p290 q290
      have hw290_2 := hx290_2
      have hw290_1 := hx290_1
      have hw290_0 := hx290_0
      cases e290
      replace hx290_0 := Zc HB.out hx290_0
      replace hx290_1 := Zc HB.out hx290_1
      replace hx290_2 := Zc HB.out hx290_2
      have HR290_1 := Zh hi290_1
      have HC290_1 := Zh hl290_1
      clear hi290_1 hl290_1
      have HR290_2 := Zh hi290_2
      have HC290_2 := Zh hl290_2
      clear hi290_2 hl290_2
      replace p290 := eq_true p290
      replace q290 := eq_true q290
      refine start_ (n := 8) (S := fun w' => w'.cell? (ad290.add ((x5_1).toNat * 3)) = some (.string ((rd_T55 l0 x5_1).f0)) ∧ w'.cell? ⟨(ad290.add ((x5_1).toNat * 3)).block, (ad290.add ((x5_1).toNat * 3)).off + 1, none⟩ = some (.slice A290_1 ((rd_T55 l0 x5_1).f1).length c290_1) ∧ w'.cell? ⟨(ad290.add ((x5_1).toNat * 3)).block, (ad290.add ((x5_1).toNat * 3)).off + 2, none⟩ = some (.slice A290_2 ((rd_T55 l0 x5_1).f2).length c290_2)) (ds := []) #[false, false, false, false, false, false, false, false] (by kernel_rfl) rfl rfl ⟨((HB.out.cell (Zi w _ hw290_0)).trans hw290_0), ((HB.out.cell (Zi w _ hw290_1)).trans hw290_1), ((HB.out.cell (Zi w _ hw290_2)).trans hw290_2)⟩ (fun hHeld => ?_); refine with_tabW laws_heldFileS.tab4 laws_heldFileS.bits4 (fun HT_ HW_ => ?_)
      generalize wr.drew = w15 at HB HR290_1 HR290_2 hx290_0 hx290_1 hx290_2 hHeld ⊢
      refine SQ.pu 0 12 HT_ ?_
      refine SQ.pu 1 13 HT_ ?_
      refine SQ.pu 2 14 HT_ ?_
      refine SQ.pu 3 15 HT_ ?_
      refine SQ.pu 5 17 HT_ ?_
      refine SQ.tk 4 16 HT_ HW_ hHeld ?_
      refine one_ (i := 6) (N := some 18) #[true, true, true, true, true, true, true, false] rfl rfl (one_of HT_.out (by kernel_rfl)) (by decide) (fun K hK => ?_)
      refine goes_ Tryd.func80 (by kernel_rfl) rfl #[.int .i64 x1_1] (by rfl) rfl rfl (by (try simp only [List.map_toArray, List.map_cons, List.map_nil]); first | done | rfl | (simp only [List.length_drop, List.length_take]; rfl)) ?_
      with_reducible refine (laws_markText.calls k1 x1_1 t291 _ A5.out).mono ?_
      rintro e w16 ⟨rfl, hb⟩
      refine ⟨_, rfl, ?_⟩
      have n0_ := Zh (Zl Zs hb)
      clear HB
      have HB := n0_
      clear n0_
      (try clear hb)
      (try clear hb2)
      (try clear hk)
      (try clear hi)
      refine hK.out _ _ ⟨((HB.out.cell (Zi w _ hw290_0)).trans hw290_0), ((HB.out.cell (Zi w _ hw290_1)).trans hw290_1), ((HB.out.cell (Zi w _ hw290_2)).trans hw290_2)⟩ (fun hHeld => ?_)
      clear hK K
      refine norm_ (a' := ?_) ?_ ?_
      rotate_left
      ·
       show Act.put _ (some 18) _ = _
       simp only [Act.put, List.setIfInBounds_toArray, List.set_cons_zero, List.set_cons_succ, i64_w, i32_w]
       rfl
      refine SQ.pu 7 19 HT_ ?_
      refine done_ (done_of HT_.out (by kernel_rfl)) ?_
      have p292 : 0 ≤ (x5_1 : Int) := Zo
      have q292 : x5_1 < (l0.length : Int) := Zo
      obtain ⟨ad292, A292_1, c292_1, A292_2, c292_2, e292, hx292_0, hx292_1, hx292_2, hl292_1, hi292_1, hl292_2, hi292_2⟩ := at_T55 HR0.out x5_1 p292 q292
      obtain rfl : ad290 = ad292 := (by injection e292)
      (try clear hx290_0); (try clear hx290_1); (try clear hx290_2); (try clear hx290_3); (try clear hHeld)
      replace hx292_0 := Zc HB.out hx292_0
      replace hx292_1 := Zc HB.out hx292_1
      replace hx292_2 := Zc HB.out hx292_2
      have HR292_1 := Zh hi292_1
      have HC292_1 := Zh hl292_1
      clear hi292_1 hl292_1
      have HR292_2 := Zh hi292_2
      have HC292_2 := Zh hl292_2
      clear hi292_2 hl292_2
      replace p292 := eq_true p292
      replace q292 := eq_true q292
      try go_wp2_with (first | ((with_reducible refine gate_callee (f := 53) rfl ?_); refine goesL_ (some 28) rfl rfl Tryd.func53 (by kernel_rfl) rfl #[.slice A292_1 ((rd_T55 l0 x5_1).f1).length c292_1, .int .i64 (wrap64 (x1_1 + 1))] rfl (by (try simp only [List.map_toArray, List.map_cons, List.map_nil]); first | done | rfl | (simp only [List.length_drop, List.length_take]; rfl)) ?_; (with_reducible refine (laws_heldByteS.calls k1 _ _ ((rd_T55 l0 x5_1).f1) (wrap64 (x1_1 + 1)) t293 _ ?side1 ?side2 A7.out).mono ?_); (case side1 => repeat (first | exact (C_below HR292_1.out HB.out) | (with_reducible refine C_alloc ?_ _) | (with_reducible refine C_drewN ?_ _) | (with_reducible refine C_drew ?_))); (case side2 => exact HC292_1.out); rintro e w' ⟨rfl, ⟨nd, rfl⟩⟩; refine ⟨_, rfl, ?_⟩; have p294 : 0 ≤ (x5_1 : Int) := Zo; have q294 : x5_1 < (l0.length : Int) := Zo; obtain ⟨ad294, A294_1, c294_1, A294_2, c294_2, e294, hx294_0, hx294_1, hx294_2, hl294_1, hi294_1, hl294_2, hi294_2⟩ := at_T55 HR0.out x5_1 p294 q294; obtain rfl : ad290 = ad294 := (by injection e294); replace hx294_0 := Zc HB.out hx294_0; replace hx294_1 := Zc HB.out hx294_1; replace hx294_2 := Zc HB.out hx294_2; have HR294_1 := Zh hi294_1; have HC294_1 := Zh hl294_1; clear hi294_1 hl294_1; have HR294_2 := Zh hi294_2; have HC294_2 := Zh hl294_2; clear hi294_2 hl294_2; replace p294 := eq_true p294; replace q294 := eq_true q294; have ea_ := Option.some.inj (hx292_1.symm.trans hx294_1); injection ea_ with ea_ en_ ec_; subst ea_; subst ec_; clear en_; have ea_ := Option.some.inj (hx292_2.symm.trans hx294_2); injection ea_ with ea_ en_ ec_; subst ea_; subst ec_; clear en_) | ((with_reducible refine gate_callee (f := 53) rfl ?_); refine goesL_ (some 37) rfl rfl Tryd.func53 (by kernel_rfl) rfl #[.slice A292_2 ((rd_T55 l0 x5_1).f2).length c292_2, .int .i64 t293] rfl (by (try simp only [List.map_toArray, List.map_cons, List.map_nil]); first | done | rfl | (simp only [List.length_drop, List.length_take]; rfl)) ?_; (with_reducible refine (laws_heldByteS.calls k1 _ _ ((rd_T55 l0 x5_1).f2) t293 t295 _ ?side1 ?side2 A11.out).mono ?_); (case side1 => repeat (first | exact (C_below HR294_2.out Zs) | (with_reducible refine C_alloc ?_ _) | (with_reducible refine C_drewN ?_ _) | (with_reducible refine C_drew ?_))); (case side2 => exact HC294_2.out); rintro e w' ⟨rfl, ⟨nd, rfl⟩⟩; refine ⟨_, rfl, ?_⟩))
      go_roundg k1
      case measure => have := HK1.out; omega
      case rel => exact ⟨(t295), (wrap64 (x5_1 + 1)), (by first | rfl | (simp; done) | (simp [*]; done)), (by first | rfl | (simp; done) | (simp [*]; done)), H', ⟨by have := HK1.out; omega⟩, ⟨by repeat (first | (with_reducible first | exact HB.out | apply Zf | apply Zd | apply Ze) | exact HB.out)⟩⟩
     rw [if_neg c6] at H
     have c6b0 : (((rd_T55 l0 x5_1).f0).toList == t291.toList) = false := beq_eq_false_iff_ne.mpr c6
     have c6b1 : (((rd_T55 l0 x5_1).f0).toList != t291.toList) = true := bne_iff_ne.mpr c6
     obtain rfl := Option.some.inj H
     try go_wp2
     have n0_ := Zh (Ze HB.out)
     clear HB
     have HB := n0_
     clear n0_
     have p290 : 0 ≤ (x5_1 : Int) := Zo
     have q290 : x5_1 < (l0.length : Int) := Zo
     obtain ⟨ad290, A290_1, c290_1, A290_2, c290_2, e290, hx290_0, hx290_1, hx290_2, hl290_1, hi290_1, hl290_2, hi290_2⟩ := at_T55 HR0.out x5_1 p290 q290
     have hw290_2 := hx290_2
     have hw290_1 := hx290_1
     have hw290_0 := hx290_0
     cases e290
     replace hx290_0 := Zc HB.out hx290_0
     replace hx290_1 := Zc HB.out hx290_1
     replace hx290_2 := Zc HB.out hx290_2
     have HR290_1 := Zh hi290_1
     have HC290_1 := Zh hl290_1
     clear hi290_1 hl290_1
     have HR290_2 := Zh hi290_2
     have HC290_2 := Zh hl290_2
     clear hi290_2 hl290_2
     replace p290 := eq_true p290
     replace q290 := eq_true q290
     refine start_ (n := 8) (S := fun w' => w'.cell? (ad290.add ((x5_1).toNat * 3)) = some (.string ((rd_T55 l0 x5_1).f0)) ∧ w'.cell? ⟨(ad290.add ((x5_1).toNat * 3)).block, (ad290.add ((x5_1).toNat * 3)).off + 1, none⟩ = some (.slice A290_1 ((rd_T55 l0 x5_1).f1).length c290_1) ∧ w'.cell? ⟨(ad290.add ((x5_1).toNat * 3)).block, (ad290.add ((x5_1).toNat * 3)).off + 2, none⟩ = some (.slice A290_2 ((rd_T55 l0 x5_1).f2).length c290_2)) (ds := []) #[false, false, false, false, false, false, false, false] (by kernel_rfl) rfl rfl ⟨((HB.out.cell (Zi w _ hw290_0)).trans hw290_0), ((HB.out.cell (Zi w _ hw290_1)).trans hw290_1), ((HB.out.cell (Zi w _ hw290_2)).trans hw290_2)⟩ (fun hHeld => ?_); refine with_tabW laws_heldFileS.tab4 laws_heldFileS.bits4 (fun HT_ HW_ => ?_)
     generalize wr.drew = w17 at HB HR290_1 HR290_2 hx290_0 hx290_1 hx290_2 hHeld ⊢
     refine SQ.pu 0 12 HT_ ?_
     refine SQ.pu 1 13 HT_ ?_
     refine SQ.pu 2 14 HT_ ?_
     refine SQ.pu 3 15 HT_ ?_
     refine SQ.pu 5 17 HT_ ?_
     refine SQ.tk 4 16 HT_ HW_ hHeld ?_
     refine one_ (i := 6) (N := some 18) #[true, true, true, true, true, true, true, false] rfl rfl (one_of HT_.out (by kernel_rfl)) (by decide) (fun K hK => ?_)
     refine goes_ Tryd.func80 (by kernel_rfl) rfl #[.int .i64 x1_1] (by rfl) rfl rfl (by (try simp only [List.map_toArray, List.map_cons, List.map_nil]); first | done | rfl | (simp only [List.length_drop, List.length_take]; rfl)) ?_
     with_reducible refine (laws_markText.calls k1 x1_1 t291 _ A5.out).mono ?_
     rintro e w18 ⟨rfl, hb⟩
     refine ⟨_, rfl, ?_⟩
     have n0_ := Zh (Zl Zs hb)
     clear HB
     have HB := n0_
     clear n0_
     (try clear hb)
     (try clear hb2)
     (try clear hk)
     (try clear hi)
     refine hK.out _ _ ⟨((HB.out.cell (Zi w _ hw290_0)).trans hw290_0), ((HB.out.cell (Zi w _ hw290_1)).trans hw290_1), ((HB.out.cell (Zi w _ hw290_2)).trans hw290_2)⟩ (fun hHeld => ?_)
     clear hK K
     refine norm_ (a' := ?_) ?_ ?_
     rotate_left
     ·
      show Act.put _ (some 18) _ = _
      simp only [Act.put, List.setIfInBounds_toArray, List.set_cons_zero, List.set_cons_succ, i64_w, i32_w]
      rfl
     refine SQ.pu 7 19 HT_ ?_
     refine done_ (done_of HT_.out (by kernel_rfl)) ?_
     try go_wp2
     go_ret
     exact ⟨by first | rfl | (simp [errW_none, errW_some] <;> rfl) | (simp [*, errW_none, errW_some] <;> rfl), by repeat (first | (with_reducible first | exact HB.out | apply Zf | apply Zd | apply Ze) | exact HB.out)⟩
    rw [if_neg c4] at H
    exact absurd H (by simp)
   rw [if_neg c3] at H
   have c3b0 : decide (x5_1 < (l0.length : Int)) = false := decide_eq_false c3
   clear c3
   obtain rfl := Option.some.inj H
   go_wp2
   go_ret
   exact ⟨by first | rfl | (simp [errW_none, errW_some] <;> rfl) | (simp [*, errW_none, errW_some] <;> rfl), by repeat (first | (with_reducible first | exact HB.out | apply Zf | apply Zd | apply Ze) | exact HB.out)⟩
end Go.Proofs.YtcgojdhbphocgaaDoor.F

namespace Go.Proofs.YtcgojdhbphocgaaDoor.F
open Go.RowKit Go.Proofs.YtcgojdhbphocgaaDoorW.PrintWords Go.Proofs.YtcgojdhbphocgaaDoorW.PrintWords.Kd Go.Proofs.YtcgojdhbphocgaaDoorW.PrintMore.Kd Go.Proofs.YtcgojdhbphocgaaDoorW.PrintLast Go.Proofs.YtcgojdhbphocgaaDoorW.PrintMore
attribute [local go_sem] max2_int min2_int max_two min_two max_three min_three max_four min_four   -- for this text's walks alone
set_option linter.unusedVariables false
set_option linter.unusedSimpArgs false
def laws_heldDisk.f (k : Nat) (l0_0 : List (S55)) (a1 : Int) : Option (Int) := (laws_heldFileS.f k l0_0 a1).bind fun t297 => (if t297 < 0 then (some (-1)) else (some t297))
set_option maxHeartbeats 8000000 in
set_option maxRecDepth 100000 in
theorem laws_heldDisk.calls (k : Nat) (A0_0 : Option Addr) (c0_0 : Nat) (l0_0 : List (S55)) (a1 : Int) (r : Int) (w : World) (hr0_0 : Kd.C k55 w A0_0 l0_0.length l0_0) (hc0_0 : l0_0.length ≤ c0_0) (h : laws_heldDisk.f k l0_0 a1 = some r) :
  Calls Tryd.prog 17 #[.agg #[.slice A0_0 l0_0.length c0_0], .int .i64 a1] w fun e w' => e = .returned (.int .i64 r) ∧ Below w.heap.size w w' := by
 have hu28 := Tryd.underlying28
 have HR0_0 := Zh hr0_0
 have HC0_0 := Zh hc0_0
 clear hr0_0 hc0_0
 have HB := Zh (Below.refl w.heap.size w)
 have H : ((laws_heldFileS.f k l0_0 a1).bind fun t297 => (if t297 < 0 then (some (-1)) else (some t297))) = some r := h
 clear h
 replace H := Option.bind_eq_some_iff.mp H
 obtain ⟨t297, A30, H⟩ := H
 replace H : (if t297 < 0 then (some (-1)) else (some t297)) = some r := H
 have A3 := Zh A30
 clear A30
 by_cases c4 : t297 < 0
 ·
  rw [if_pos c4] at H
  have c4b0 : decide (t297 < 0) = true := decide_eq_true c4
  clear c4
  obtain rfl := Option.some.inj H
  go_enter Tryd.func17, Tryd.ntmps17
  go_wp2_with (first | ((with_reducible refine gate_dst (N := 2) rfl ?_); refine box_event ?hg (N := 2) ?hd (cs := #[.slice A0_0 l0_0.length c0_0]) (t := 28) ?hr ?_; (case hd => rfl); (case hg => rfl); (case hr => first | (go_simp; done) | (go_simp; rfl)); intro gb296 hg w5 hbox hb; have n0_ := Zh (Zl Zs hb); have n1_ := Zh (hbox); have n2_ := Zh ((by rw [hg]; exact (below_size Zs) : w.heap.size ≤ gb296)); have n3_ := Zh ((by rw [hg]; exact (below_size Zs) : w.heap.size ≤ gb296)); clear HB; have HB := n0_; have BK296 := n1_; have GW296 := n2_; have GE296 := n3_; clear n0_ n1_ n2_ n3_; clear hb hbox hg; have hcz6_0 : w5.cell? ⟨gb296, 0, none⟩ = some (.slice A0_0 l0_0.length c0_0) := (blk_cell BK296.out 0).trans rfl; have hfz6_0 := Zn BK296.out 0) | ((with_reducible refine gate_callee (f := 48) rfl ?_); refine goesL_ (some 8) rfl rfl Tryd.func48 (by kernel_rfl) rfl #[.slice A0_0 l0_0.length c0_0, .int .i64 a1] rfl (by (try simp only [List.map_toArray, List.map_cons, List.map_nil]); first | done | rfl | (simp only [List.length_drop, List.length_take]; rfl)) ?_; (with_reducible refine (laws_heldFileS.calls k _ _ l0_0 a1 t297 _ ?side1 ?side2 A3.out).mono ?_); (case side1 => repeat (first | exact (C_below HR0_0.out HB.out) | (with_reducible refine C_alloc ?_ _) | (with_reducible refine C_drewN ?_ _) | (with_reducible refine C_drew ?_))); (case side2 => exact HC0_0.out); rintro e w7 ⟨rfl, hb⟩; refine ⟨_, rfl, ?_⟩; have n0_ := Zh (Zm (g := gb296) (o := .cells #[.slice A0_0 l0_0.length c0_0] 28 (0, 0)) Zk hb); have n1_ := Zh (Zl Zs hb); clear BK296; clear HB; have BK296 := n0_; have HB := n1_; clear n0_ n1_; (try clear hb); (try clear hb2); (try clear hk); (try clear hi)))
  go_ret
  exact ⟨by first | rfl | (simp [errW_none, errW_some] <;> rfl) | (simp [*, errW_none, errW_some] <;> rfl), by repeat (first | (with_reducible first | exact HB.out | apply Zf | apply Zd | apply Ze | refine Zg ?_ GE296.out) | exact HB.out)⟩
 rw [if_neg c4] at H
 have c4b0 : decide (t297 < 0) = false := decide_eq_false c4
 clear c4
 obtain rfl := Option.some.inj H
 go_enter Tryd.func17, Tryd.ntmps17
 go_wp2_with (first | ((with_reducible refine gate_dst (N := 2) rfl ?_); refine box_event ?hg (N := 2) ?hd (cs := #[.slice A0_0 l0_0.length c0_0]) (t := 28) ?hr ?_; (case hd => rfl); (case hg => rfl); (case hr => first | (go_simp; done) | (go_simp; rfl)); intro gb296 hg w8 hbox hb; have n0_ := Zh (Zl Zs hb); have n1_ := Zh (hbox); have n2_ := Zh ((by rw [hg]; exact (below_size Zs) : w.heap.size ≤ gb296)); have n3_ := Zh ((by rw [hg]; exact (below_size Zs) : w.heap.size ≤ gb296)); clear HB; have HB := n0_; have BK296 := n1_; have GW296 := n2_; have GE296 := n3_; clear n0_ n1_ n2_ n3_; clear hb hbox hg; have hcz9_0 : w8.cell? ⟨gb296, 0, none⟩ = some (.slice A0_0 l0_0.length c0_0) := (blk_cell BK296.out 0).trans rfl; have hfz9_0 := Zn BK296.out 0) | ((with_reducible refine gate_callee (f := 48) rfl ?_); refine goesL_ (some 8) rfl rfl Tryd.func48 (by kernel_rfl) rfl #[.slice A0_0 l0_0.length c0_0, .int .i64 a1] rfl (by (try simp only [List.map_toArray, List.map_cons, List.map_nil]); first | done | rfl | (simp only [List.length_drop, List.length_take]; rfl)) ?_; (with_reducible refine (laws_heldFileS.calls k _ _ l0_0 a1 t297 _ ?side1 ?side2 A3.out).mono ?_); (case side1 => repeat (first | exact (C_below HR0_0.out HB.out) | (with_reducible refine C_alloc ?_ _) | (with_reducible refine C_drewN ?_ _) | (with_reducible refine C_drew ?_))); (case side2 => exact HC0_0.out); rintro e w10 ⟨rfl, hb⟩; refine ⟨_, rfl, ?_⟩; have n0_ := Zh (Zm (g := gb296) (o := .cells #[.slice A0_0 l0_0.length c0_0] 28 (0, 0)) Zk hb); have n1_ := Zh (Zl Zs hb); clear BK296; clear HB; have BK296 := n0_; have HB := n1_; clear n0_ n1_; (try clear hb); (try clear hb2); (try clear hk); (try clear hi)))
 go_ret
 exact ⟨by first | rfl | (simp [errW_none, errW_some] <;> rfl) | (simp [*, errW_none, errW_some] <;> rfl), by repeat (first | (with_reducible first | exact HB.out | apply Zf | apply Zd | apply Ze | refine Zg ?_ GE296.out) | exact HB.out)⟩
end Go.Proofs.YtcgojdhbphocgaaDoor.F

namespace Go.Proofs.YtcgojdhbphocgaaDoor.F
open Go.Proofs.YtcgojdhbphocgaaDoor
open Go.RowKit Go.Proofs.YtcgojdhbphocgaaDoorW.PrintWords Go.Proofs.YtcgojdhbphocgaaDoorW.PrintWords.Kd Go.Proofs.YtcgojdhbphocgaaDoorW.PrintMore.Kd Go.Proofs.YtcgojdhbphocgaaDoorW.PrintLast Go.Proofs.YtcgojdhbphocgaaDoorW.PrintMore
attribute [local go_sem] max2_int min2_int max_two min_two max_three min_three max_four min_four   -- for this text's walks alone
set_option linter.unusedVariables false
set_option linter.unusedSimpArgs false
def impl_copyDisk.l0 : Nat → List (S55) → Int → Int → List (S55) → Option ((List (S55)))
 | 0, _, _, _, _ => none
 | k + 1, x8, x9, x10, x233000 => if x10 < x9 then (if 0 ≤ x10 then (if x10 < (x8.length : Int) then ((some (([] : List Int) : List Int)).bind fun y235 => (if y235.length + ((rd_T55 x8 x10).f1).length < 140737488355328 then ((some (([] : List Int) : List Int)).bind fun y241 => (if y241.length + ((rd_T55 x8 x10).f2).length < 140737488355328 then (if x233000.length < 2199023255552 then (impl_copyDisk.l0 k x8 x9 (wrap64 (x10 + 1)) (x233000 ++ [(⟨(rd_T55 x8 x10).f0, (y235 ++ ((rd_T55 x8 x10).f1)), (y241 ++ ((rd_T55 x8 x10).f2))⟩ : S55)])) else (none)) else (none))) else (none))) else (none)) else (none)) else (some x233000)
def impl_copyDisk.f (k : Nat) (l0_0 : List (S55)) : Option ((List (S55))) := impl_copyDisk.l0 k l0_0 (l0_0.length : Int) 0 ([] : List (S55))
def impl_copyDisk.T5 : Bool × List (List Nat × List Nat) := (true, [([], []), ([0], [0]), ([], []), ([2], [2]), ([], []), ([], []), ([5], [5]), ([4, 6], [4, 6]), ([], []), ([], []), ([9], [9]), ([8, 10, 7], [8, 10]), ([3, 7, 11], [3, 7, 11]), ([12], [12]), ([1, 13, 11], [1, 13]), ([0, 1, 2, 3, 4, 5, 6, 7, 8, 9, 10, 11, 12, 13, 14], []), ([15, 14, 14, 0, 1, 2, 3, 4, 5, 6, 7, 8, 9, 10, 11, 12, 13, 14], [14, 15])])
def impl_copyDisk.B5 : List Nat := [0, 1, 0, 4, 0, 0, 32, 112, 0, 0, 512, 2032, 4092, 8188, 16383, 32767, 65535]
theorem impl_copyDisk.tab5 : rtab .any (opsOf Tryd.f56 5) = impl_copyDisk.T5 := by kernel_rfl
theorem impl_copyDisk.bits5 : waitsOk impl_copyDisk.T5.2 impl_copyDisk.B5 = true := by kernel_rfl
set_option maxHeartbeats 8000000 in
set_option maxRecDepth 100000 in
theorem impl_copyDisk.calls (k : Nat) (A0_0 : Option Addr) (c0_0 : Nat) (l0_0 : List (S55)) (r : List (S55)) (w : World) (hr0_0 : Kd.C k55 w A0_0 l0_0.length l0_0) (hc0_0 : l0_0.length ≤ c0_0) (h : impl_copyDisk.f k l0_0 = some r) :
  Calls Tryd.prog 56 #[.agg #[.slice A0_0 l0_0.length c0_0]] w fun e w' => ∃ v0_ : Value, e = .returned (.agg #[v0_]) ∧ Kd.S k55 55 w' w.heap.size (fun _ => True) v0_ r ∧ Below w.heap.size w w' := by
 have hu28 := Tryd.underlying28
 have hu55 := Tryd.underlying55
 have HR0_0 := Zh hr0_0
 have HC0_0 := Zh hc0_0
 clear hr0_0 hc0_0
 have HB := Zh (Below.refl w.heap.size w)
 have H : (impl_copyDisk.l0 k l0_0 (l0_0.length : Int) 0 ([] : List (S55))) = some r := h
 clear h
 have H' := Zh H
 clear H
 go_enter Tryd.func56, Tryd.ntmps56
 go_wp2_with (first | ((with_reducible refine gate_dst (N := 1) rfl ?_); refine box_event ?hg (N := 1) ?hd (cs := #[.slice A0_0 l0_0.length c0_0]) (t := 28) ?hr ?_; (case hd => rfl); (case hg => rfl); (case hr => first | (go_simp; done) | (go_simp; rfl)); intro gb230 hg w2 hbox hb; have n0_ := Zh (Zl Zs hb); have n1_ := Zh (hbox); have n2_ := Zh ((by rw [hg]; exact (below_size Zs) : w.heap.size ≤ gb230)); have n3_ := Zh ((by rw [hg]; exact (below_size Zs) : w.heap.size ≤ gb230)); clear HB; have HB := n0_; have BK230 := n1_; have GW230 := n2_; have GE230 := n3_; clear n0_ n1_ n2_ n3_; clear hb hbox hg) | ((with_reducible refine gate_dst (N := 2) rfl ?_); refine box_event ?hg (N := 2) ?hd (cs := #[.slice none 0 0]) (t := 28) ?hr ?_; (case hd => rfl); (case hg => rfl); (case hr => first | (go_simp; done) | (go_simp; rfl)); intro gb231 hg w3 hbox hb; have n0_ := Zh (Zm (g := gb230) (o := .cells #[.slice A0_0 l0_0.length c0_0] 28 (0, 0)) Zk hb); have n1_ := Zh (Zl Zs hb); have n2_ := Zh (hbox); have n3_ := Zh ((by rw [hg]; exact (below_size Zs) : w.heap.size ≤ gb231)); have n4_ := Zh ((by rw [hg]; exact (below_size Zs) : w.heap.size ≤ gb231)); have n5_ := Zh ((by rw [hg]; exact Nat.ne_of_lt (blk_lt (g := gb230) (o := .cells #[.slice A0_0 l0_0.length c0_0] 28 (0, 0)) Zk) : gb230 ≠ gb231)); have n6_ := Zh ((by rw [hg]; exact Nat.ne_of_gt (blk_lt (g := gb230) (o := .cells #[.slice A0_0 l0_0.length c0_0] 28 (0, 0)) Zk) : gb231 ≠ gb230)); clear BK230; clear HB; have BK230 := n0_; have HB := n1_; have BK231 := n2_; have GW231 := n3_; have GE231 := n4_; have NB230_231 := n5_; have NB231_230 := n6_; clear n0_ n1_ n2_ n3_ n4_ n5_ n6_; clear hb hbox hg) | ((with_reducible refine gate_dst (N := 3) rfl ?_); refine box_event ?hg (N := 3) ?hd (cs := #[.slice none 0 0]) (t := 28) ?hr ?_; (case hd => rfl); (case hg => rfl); (case hr => first | (go_simp; done) | (go_simp; rfl)); intro gb232 hg w4 hbox hb; have n0_ := Zh (Zm (g := gb230) (o := .cells #[.slice A0_0 l0_0.length c0_0] 28 (0, 0)) Zk hb); have n1_ := Zh (Zm (g := gb231) (o := .cells #[.slice none 0 0] 28 (0, 0)) Zk hb); have n2_ := Zh (Zl Zs hb); have n3_ := Zh (hbox); have n4_ := Zh ((by rw [hg]; exact (below_size Zs) : w.heap.size ≤ gb232)); have n5_ := Zh ((by rw [hg]; exact (below_size Zs) : w.heap.size ≤ gb232)); have n6_ := Zh ((by rw [hg]; exact Nat.ne_of_lt (blk_lt (g := gb230) (o := .cells #[.slice A0_0 l0_0.length c0_0] 28 (0, 0)) Zk) : gb230 ≠ gb232)); have n7_ := Zh ((by rw [hg]; exact Nat.ne_of_gt (blk_lt (g := gb230) (o := .cells #[.slice A0_0 l0_0.length c0_0] 28 (0, 0)) Zk) : gb232 ≠ gb230)); have n8_ := Zh ((by rw [hg]; exact Nat.ne_of_lt (blk_lt (g := gb231) (o := .cells #[.slice none 0 0] 28 (0, 0)) Zk) : gb231 ≠ gb232)); have n9_ := Zh ((by rw [hg]; exact Nat.ne_of_gt (blk_lt (g := gb231) (o := .cells #[.slice none 0 0] 28 (0, 0)) Zk) : gb232 ≠ gb231)); clear BK230; clear BK231; clear HB; have BK230 := n0_; have BK231 := n1_; have HB := n2_; have BK232 := n3_; have GW232 := n4_; have GE232 := n5_; have NB230_232 := n6_; have NB232_230 := n7_; have NB231_232 := n8_; have NB232_231 := n9_; clear n0_ n1_ n2_ n3_ n4_ n5_ n6_ n7_ n8_ n9_; clear hb hbox hg; have hnb5 := NB232_230.out; have hnc5 := NB230_232.out; have hnb6 := NB232_231.out; have hnc6 := NB231_232.out; have hcz7_0 : w4.cell? ⟨gb232, 0, none⟩ = some (.slice none 0 0) := (blk_cell BK232.out 0).trans rfl; have hfz7_0 := Zn BK232.out 0; have hnb8 := NB230_231.out; have hnc8 := NB231_230.out; have hcz9_0 : w4.cell? ⟨gb230, 0, none⟩ = some (.slice A0_0 l0_0.length c0_0) := (blk_cell BK230.out 0).trans rfl; have hfz9_0 := Zn BK230.out 0))
 go_loopg [10] k (fun kq v10 w' => ∃ (x10_1 : Int) (x233000_1 : List (S55)) (u233000 : Value), v10 = .int .i64 x10_1 ∧ Aside0 (impl_copyDisk.l0 kq l0_0 (l0_0.length : Int) x10_1 x233000_1 = some r) ∧ Aside0 (kq ≤ k) ∧ Aside0 (Kd.S k55 55 w' w.heap.size (fun _ => True) u233000 x233000_1) ∧ Aside0 (w'.heap[gb230]? = some (.cells #[(.slice A0_0 l0_0.length c0_0)] 28 (0, 0))) ∧ Aside0 (w'.heap[gb231]? = some (.cells #[(.slice none 0 0)] 28 (0, 0))) ∧ Aside0 (w'.heap[gb232]? = some (.cells #[u233000] 28 (0, 0))) ∧ Aside0 (Below w.heap.size w w'))
 case atStart => exact ⟨(0), (([] : List (S55))), (.slice none 0 0), (by first | rfl | (simp; done) | (simp [*]; done)), H', ⟨Nat.le_refl _⟩, ⟨by first | exact S_nil _ _ _ _ _ | exact N_nil _ _ _ _ _ | exact V_nil _ _ _ _ _ | exact Q_nil _ _ _ _ _ | exact R_nil _ _ _ _ _⟩, ⟨by (with_reducible repeat (first | refine Za ?_ _ | refine Zb ?_ | refine blk_alloc ?_ _)); refine Zp ?_ NB230_232.out _; (with_reducible repeat (first | refine Za ?_ _ | refine Zb ?_ | refine blk_alloc ?_ _)); exact BK230.out⟩, ⟨by (with_reducible repeat (first | refine Za ?_ _ | refine Zb ?_ | refine blk_alloc ?_ _)); refine Zp ?_ NB231_232.out _; (with_reducible repeat (first | refine Za ?_ _ | refine Zb ?_ | refine blk_alloc ?_ _)); exact BK231.out⟩, ⟨by (with_reducible repeat (first | refine Za ?_ _ | refine Zb ?_ | refine blk_alloc ?_ _)); refine blk_put (cs := #[.slice none 0 0]) ?_ 0 _ rfl; (with_reducible repeat (first | refine Za ?_ _ | refine Zb ?_ | refine blk_alloc ?_ _)); exact BK232.out⟩, ⟨by repeat (first | (with_reducible first | exact HB.out | apply Zf | apply Zd | apply Ze | refine Zg ?_ GE230.out | refine Zg ?_ GE231.out | refine Zg ?_ GE232.out) | exact HB.out)⟩⟩
 case round =>
  clear H'
  try clear p2
  try clear c5
  try clear c6
  try clear c8
  try clear hcz7_0
  try clear hcz9_0
  try clear hfz7_0
  try clear hfz9_0
  obtain ⟨x10_1, x233000_1, u233000, rfl, HA, HK1, HO_233000, BK230, BK231, BK232, HB⟩ := hrel
  cases gk with
  | zero => exact absurd HA.out (by simp [impl_copyDisk.l0])
  | succ k1 =>
   have H := HA.out
   clear HA
   simp only [impl_copyDisk.l0] at H
   by_cases c10 : x10_1 < (l0_0.length : Int)
   ·
    rw [if_pos c10] at H
    have c10b0 : decide (x10_1 < (l0_0.length : Int)) = true := decide_eq_true c10
    clear c10
    by_cases c11 : 0 ≤ x10_1
    ·
     rw [if_pos c11] at H
     have c11b0 : decide (0 ≤ x10_1) = true := decide_eq_true c11
     clear c11
     by_cases c12 : x10_1 < (l0_0.length : Int)
     ·
      rw [if_pos c12] at H
      have c12b0 : decide (x10_1 < (l0_0.length : Int)) = true := decide_eq_true c12
      clear c12
      obtain ⟨y235, hy235⟩ : ∃ y_ : List Int, y_ = (([] : List Int)) := ⟨_, rfl⟩
      replace H : (if y235.length + ((rd_T55 l0_0 x10_1).f1).length < 140737488355328 then ((some (([] : List Int) : List Int)).bind fun y241 => (if y241.length + ((rd_T55 l0_0 x10_1).f2).length < 140737488355328 then (if x233000_1.length < 2199023255552 then (impl_copyDisk.l0 k1 l0_0 (l0_0.length : Int) (wrap64 (x10_1 + 1)) (x233000_1 ++ [(⟨(rd_T55 l0_0 x10_1).f0, (y235 ++ ((rd_T55 l0_0 x10_1).f1)), (y241 ++ ((rd_T55 l0_0 x10_1).f2))⟩ : S55)])) else (none)) else (none))) else (none)) = some r := by first | (rw [hy235]; with_reducible exact H) | (have H2_ := (Option.bind_some _ _).symm.trans H; rw [hy235]; with_reducible exact H2_) | (have H2_ := (Option.bind_some _ _).symm.trans H; with_reducible exact H2_) | with_reducible exact H | (rw [hy235]; exact H) | exact H
      have Ny235 := Zh hy235
      clear hy235
      by_cases c13 : y235.length + ((rd_T55 l0_0 x10_1).f1).length < 140737488355328
      ·
       rw [if_pos c13] at H
       have LMc13 := Zh c13
       clear c13
       obtain ⟨y238, hy238⟩ : ∃ y_ : List Int, y_ = (y235 ++ ((rd_T55 l0_0 x10_1).f1)) := ⟨_, rfl⟩
       replace H : ((some (([] : List Int) : List Int)).bind fun y241 => (if y241.length + ((rd_T55 l0_0 x10_1).f2).length < 140737488355328 then (if x233000_1.length < 2199023255552 then (impl_copyDisk.l0 k1 l0_0 (l0_0.length : Int) (wrap64 (x10_1 + 1)) (x233000_1 ++ [(⟨(rd_T55 l0_0 x10_1).f0, y238, (y241 ++ ((rd_T55 l0_0 x10_1).f2))⟩ : S55)])) else (none)) else (none))) = some r := by first | (rw [hy238]; with_reducible exact H) | (have H2_ := (Option.bind_some _ _).symm.trans H; rw [hy238]; with_reducible exact H2_) | (have H2_ := (Option.bind_some _ _).symm.trans H; with_reducible exact H2_) | with_reducible exact H | (rw [hy238]; exact H) | exact H
       have Ny238 := Zh hy238
       clear hy238
       obtain ⟨y241, hy241⟩ : ∃ y_ : List Int, y_ = (([] : List Int)) := ⟨_, rfl⟩
       replace H : (if y241.length + ((rd_T55 l0_0 x10_1).f2).length < 140737488355328 then (if x233000_1.length < 2199023255552 then (impl_copyDisk.l0 k1 l0_0 (l0_0.length : Int) (wrap64 (x10_1 + 1)) (x233000_1 ++ [(⟨(rd_T55 l0_0 x10_1).f0, y238, (y241 ++ ((rd_T55 l0_0 x10_1).f2))⟩ : S55)])) else (none)) else (none)) = some r := by first | (rw [hy241]; with_reducible exact H) | (have H2_ := (Option.bind_some _ _).symm.trans H; rw [hy241]; with_reducible exact H2_) | (have H2_ := (Option.bind_some _ _).symm.trans H; with_reducible exact H2_) | with_reducible exact H | (rw [hy241]; exact H) | exact H
       have Ny241 := Zh hy241
       clear hy241
       by_cases c14 : y241.length + ((rd_T55 l0_0 x10_1).f2).length < 140737488355328
       ·
        rw [if_pos c14] at H
        have LMc14 := Zh c14
        clear c14
        obtain ⟨y244, hy244⟩ : ∃ y_ : List Int, y_ = (y241 ++ ((rd_T55 l0_0 x10_1).f2)) := ⟨_, rfl⟩
        replace H : (if x233000_1.length < 2199023255552 then (impl_copyDisk.l0 k1 l0_0 (l0_0.length : Int) (wrap64 (x10_1 + 1)) (x233000_1 ++ [(⟨(rd_T55 l0_0 x10_1).f0, y238, y244⟩ : S55)])) else (none)) = some r := by first | (rw [hy244]; with_reducible exact H) | (have H2_ := (Option.bind_some _ _).symm.trans H; rw [hy244]; with_reducible exact H2_) | (have H2_ := (Option.bind_some _ _).symm.trans H; with_reducible exact H2_) | with_reducible exact H | (rw [hy244]; exact H) | exact H
        have Ny244 := Zh hy244
        clear hy244
        by_cases c15 : x233000_1.length < 2199023255552
        ·
         rw [if_pos c15] at H
         have LMc15 := Zh c15
         clear c15
         obtain ⟨y247, hy247⟩ : ∃ y_ : List (S55), y_ = (x233000_1 ++ [(⟨(rd_T55 l0_0 x10_1).f0, y238, y244⟩ : S55)]) := ⟨_, rfl⟩
         replace H : (impl_copyDisk.l0 k1 l0_0 (l0_0.length : Int) (wrap64 (x10_1 + 1)) y247) = some r := by first | (rw [hy247]; with_reducible exact H) | (have H2_ := (Option.bind_some _ _).symm.trans H; rw [hy247]; with_reducible exact H2_) | (have H2_ := (Option.bind_some _ _).symm.trans H; with_reducible exact H2_) | with_reducible exact H | (rw [hy247]; exact H) | exact H
         have Ny247 := Zh hy247
         clear hy247
         have H' := Zh H
         clear H
         have p233 : 0 ≤ (x10_1 : Int) := Zo
         have q233 : x10_1 < (l0_0.length : Int) := Zo
         obtain ⟨ad233, A233_1, c233_1, A233_2, c233_2, e233, hx233_0, hx233_1, hx233_2, hl233_1, hi233_1, hl233_2, hi233_2⟩ := at_T55 HR0_0.out x10_1 p233 q233
         cases e233
         replace hx233_0 := Zc HB.out hx233_0
         replace hx233_1 := Zc HB.out hx233_1
         replace hx233_2 := Zc HB.out hx233_2
         have HR233_1 := Zh hi233_1
         have HC233_1 := Zh hl233_1
         clear hi233_1 hl233_1
         have HR233_2 := Zh hi233_2
         have HC233_2 := Zh hl233_2
         clear hi233_2 hl233_2
         replace p233 := eq_true p233
         replace q233 := eq_true q233
         try go_wp2_with (first | ((with_reducible refine gate_dst (N := 5) rfl ?_); refine box_event ?hg (N := 5) ?hd (cs := #[.string (⟨#[]⟩ : ByteArray), .slice none 0 0, .slice none 0 0]) (t := 55) ?hr ?_; (case hd => rfl); (case hg => rfl); (case hr => first | (go_simp; done) | (go_simp; rfl)); intro gb234 hg w16 hbox hb; have n0_ := Zh (S_below (S_elderB (by (with_reducible repeat (first | apply S_alloc | apply S_drewN | apply S_drew)); exact HO_233000.out) gb234 (Nat.le_of_eq hg.symm)) hb); have n1_ := Zh (Zm (g := gb230) (o := .cells #[.slice (some ad233) l0_0.length c0_0] 28 (0, 0)) Zk hb); have n2_ := Zh (Zm (g := gb231) (o := .cells #[.slice none 0 0] 28 (0, 0)) Zk hb); have n3_ := Zh (Zm (g := gb232) (o := .cells #[u233000] 28 (0, 0)) Zk hb); have n4_ := Zh (Zl Zs hb); have n5_ := Zh (hbox); have n6_ := Zh ((by rw [hg]; exact (below_size Zs) : w.heap.size ≤ gb234)); have n7_ := Zh ((by rw [hg]; exact (below_size Zs) : w.heap.size ≤ gb234)); have n8_ := Zh ((by rw [hg]; exact Nat.ne_of_lt (blk_lt (g := gb230) (o := .cells #[.slice (some ad233) l0_0.length c0_0] 28 (0, 0)) Zk) : gb230 ≠ gb234)); have n9_ := Zh ((by rw [hg]; exact Nat.ne_of_gt (blk_lt (g := gb230) (o := .cells #[.slice (some ad233) l0_0.length c0_0] 28 (0, 0)) Zk) : gb234 ≠ gb230)); have n10_ := Zh ((by rw [hg]; exact Nat.ne_of_lt (blk_lt (g := gb231) (o := .cells #[.slice none 0 0] 28 (0, 0)) Zk) : gb231 ≠ gb234)); have n11_ := Zh ((by rw [hg]; exact Nat.ne_of_gt (blk_lt (g := gb231) (o := .cells #[.slice none 0 0] 28 (0, 0)) Zk) : gb234 ≠ gb231)); have n12_ := Zh ((by rw [hg]; exact Nat.ne_of_lt (blk_lt (g := gb232) (o := .cells #[u233000] 28 (0, 0)) Zk) : gb232 ≠ gb234)); have n13_ := Zh ((by rw [hg]; exact Nat.ne_of_gt (blk_lt (g := gb232) (o := .cells #[u233000] 28 (0, 0)) Zk) : gb234 ≠ gb232)); clear HO_233000; clear BK230; clear BK231; clear BK232; clear HB; have HO_233000 := n0_; have BK230 := n1_; have BK231 := n2_; have BK232 := n3_; have HB := n4_; have BK234 := n5_; have GW234 := n6_; have GE234 := n7_; have NB230_234 := n8_; have NB234_230 := n9_; have NB231_234 := n10_; have NB234_231 := n11_; have NB232_234 := n12_; have NB234_232 := n13_; clear n0_ n1_ n2_ n3_ n4_ n5_ n6_ n7_ n8_ n9_ n10_ n11_ n12_ n13_; clear hb hbox hg; have hnb17 := NB234_230.out; have hnc17 := NB230_234.out; have hnb18 := NB234_231.out; have hnc18 := NB231_234.out; have hnb19 := NB234_232.out; have hnc19 := NB232_234.out; have hcz20_0 : w16.cell? ⟨gb234, 0, none⟩ = some (.string (⟨#[]⟩ : ByteArray)) := (blk_cell BK234.out 0).trans rfl; have hcz20_1 : w16.cell? ⟨gb234, 1, none⟩ = some (.slice none 0 0) := (blk_cell BK234.out 1).trans rfl; have hcz20_2 : w16.cell? ⟨gb234, 2, none⟩ = some (.slice none 0 0) := (blk_cell BK234.out 2).trans rfl; have hfz20_0 := Zn BK234.out 0; have hfz20_1 := Zn BK234.out 1; have hfz20_2 := Zn BK234.out 2; obtain ⟨Ao21, co21, eo21⟩ := S_slice HO_233000.out; subst eo21))
         have n0_ : Aside0 (Kd.S k55 55 (((w16.setCell ⟨gb234, 0, none⟩ (.string ((rd_T55 l0_0 x10_1).f0))).setCell ⟨gb234, 1, none⟩ (.slice A233_1 ((rd_T55 l0_0 x10_1).f1).length c233_1)).setCell ⟨gb234, 2, none⟩ (.slice A233_2 ((rd_T55 l0_0 x10_1).f2).length c233_2)) w.heap.size (fun k_ => k_ ≠ gb234) (.slice Ao21 x233000_1.length co21) x233000_1) := ⟨by (with_reducible repeat (first | apply S_alloc | apply S_drewN | apply S_drew)); exact S_mono (S_far (p := ⟨gb234, 2, none⟩) (S_far (p := ⟨gb234, 1, none⟩) (S_far (p := ⟨gb234, 0, none⟩) (S_mono HO_233000.out (fun k_ hk => (⟨hk, hk.2⟩ : _ ∧ k_ ≠ gb234))) (fun _ hk => hk.2) (.string ((rd_T55 l0_0 x10_1).f0))) (fun _ hk => hk.2) (.slice A233_1 ((rd_T55 l0_0 x10_1).f1).length c233_1)) (fun _ hk => hk.2) (.slice A233_2 ((rd_T55 l0_0 x10_1).f2).length c233_2)) (fun _ hk => hk.1.2)⟩
         have n1_ : Aside0 ((((w16.setCell ⟨gb234, 0, none⟩ (.string ((rd_T55 l0_0 x10_1).f0))).setCell ⟨gb234, 1, none⟩ (.slice A233_1 ((rd_T55 l0_0 x10_1).f1).length c233_1)).setCell ⟨gb234, 2, none⟩ (.slice A233_2 ((rd_T55 l0_0 x10_1).f2).length c233_2)).heap[gb230]? = some (.cells #[.slice (some ad233) l0_0.length c0_0] 28 (0, 0))) := ⟨by (with_reducible repeat (first | refine Za ?_ _ | refine Zb ?_ | refine blk_alloc ?_ _)); refine Zp ?_ NB230_234.out _; (with_reducible repeat (first | refine Za ?_ _ | refine Zb ?_ | refine blk_alloc ?_ _)); refine Zp ?_ NB230_234.out _; (with_reducible repeat (first | refine Za ?_ _ | refine Zb ?_ | refine blk_alloc ?_ _)); refine Zp ?_ NB230_234.out _; (with_reducible repeat (first | refine Za ?_ _ | refine Zb ?_ | refine blk_alloc ?_ _)); exact BK230.out⟩
         have n2_ : Aside0 ((((w16.setCell ⟨gb234, 0, none⟩ (.string ((rd_T55 l0_0 x10_1).f0))).setCell ⟨gb234, 1, none⟩ (.slice A233_1 ((rd_T55 l0_0 x10_1).f1).length c233_1)).setCell ⟨gb234, 2, none⟩ (.slice A233_2 ((rd_T55 l0_0 x10_1).f2).length c233_2)).heap[gb231]? = some (.cells #[.slice none 0 0] 28 (0, 0))) := ⟨by (with_reducible repeat (first | refine Za ?_ _ | refine Zb ?_ | refine blk_alloc ?_ _)); refine Zp ?_ NB231_234.out _; (with_reducible repeat (first | refine Za ?_ _ | refine Zb ?_ | refine blk_alloc ?_ _)); refine Zp ?_ NB231_234.out _; (with_reducible repeat (first | refine Za ?_ _ | refine Zb ?_ | refine blk_alloc ?_ _)); refine Zp ?_ NB231_234.out _; (with_reducible repeat (first | refine Za ?_ _ | refine Zb ?_ | refine blk_alloc ?_ _)); exact BK231.out⟩
         have n3_ : Aside0 ((((w16.setCell ⟨gb234, 0, none⟩ (.string ((rd_T55 l0_0 x10_1).f0))).setCell ⟨gb234, 1, none⟩ (.slice A233_1 ((rd_T55 l0_0 x10_1).f1).length c233_1)).setCell ⟨gb234, 2, none⟩ (.slice A233_2 ((rd_T55 l0_0 x10_1).f2).length c233_2)).heap[gb232]? = some (.cells #[.slice Ao21 x233000_1.length co21] 28 (0, 0))) := ⟨by (with_reducible repeat (first | refine Za ?_ _ | refine Zb ?_ | refine blk_alloc ?_ _)); refine Zp ?_ NB232_234.out _; (with_reducible repeat (first | refine Za ?_ _ | refine Zb ?_ | refine blk_alloc ?_ _)); refine Zp ?_ NB232_234.out _; (with_reducible repeat (first | refine Za ?_ _ | refine Zb ?_ | refine blk_alloc ?_ _)); refine Zp ?_ NB232_234.out _; (with_reducible repeat (first | refine Za ?_ _ | refine Zb ?_ | refine blk_alloc ?_ _)); exact BK232.out⟩
         have n4_ : Aside0 ((((w16.setCell ⟨gb234, 0, none⟩ (.string ((rd_T55 l0_0 x10_1).f0))).setCell ⟨gb234, 1, none⟩ (.slice A233_1 ((rd_T55 l0_0 x10_1).f1).length c233_1)).setCell ⟨gb234, 2, none⟩ (.slice A233_2 ((rd_T55 l0_0 x10_1).f2).length c233_2)).heap[gb234]? = some (.cells #[.string ((rd_T55 l0_0 x10_1).f0), .slice A233_1 ((rd_T55 l0_0 x10_1).f1).length c233_1, .slice A233_2 ((rd_T55 l0_0 x10_1).f2).length c233_2] 55 (0, 0))) := ⟨by (with_reducible repeat (first | refine Za ?_ _ | refine Zb ?_ | refine blk_alloc ?_ _)); refine blk_put (cs := #[.string ((rd_T55 l0_0 x10_1).f0), .slice A233_1 ((rd_T55 l0_0 x10_1).f1).length c233_1, .slice none 0 0]) ?_ 2 _ rfl; (with_reducible repeat (first | refine Za ?_ _ | refine Zb ?_ | refine blk_alloc ?_ _)); refine blk_put (cs := #[.string ((rd_T55 l0_0 x10_1).f0), .slice none 0 0, .slice none 0 0]) ?_ 1 _ rfl; (with_reducible repeat (first | refine Za ?_ _ | refine Zb ?_ | refine blk_alloc ?_ _)); refine blk_put (cs := #[.string (⟨#[]⟩ : ByteArray), .slice none 0 0, .slice none 0 0]) ?_ 0 _ rfl; (with_reducible repeat (first | refine Za ?_ _ | refine Zb ?_ | refine blk_alloc ?_ _)); exact BK234.out⟩
         have n5_ : Aside0 (Below w.heap.size w (((w16.setCell ⟨gb234, 0, none⟩ (.string ((rd_T55 l0_0 x10_1).f0))).setCell ⟨gb234, 1, none⟩ (.slice A233_1 ((rd_T55 l0_0 x10_1).f1).length c233_1)).setCell ⟨gb234, 2, none⟩ (.slice A233_2 ((rd_T55 l0_0 x10_1).f2).length c233_2))) := ⟨by repeat (first | (with_reducible first | exact HB.out | apply Zf | apply Zd | apply Ze | refine Zg ?_ GE230.out | refine Zg ?_ GE231.out | refine Zg ?_ GE232.out | refine Zg ?_ GE234.out) | exact HB.out)⟩
         (try clear HO_233000)
         (try clear BK230)
         (try clear BK231)
         (try clear BK232)
         (try clear BK234)
         (try clear HB)
         generalize (((w16.setCell ⟨gb234, 0, none⟩ (.string ((rd_T55 l0_0 x10_1).f0))).setCell ⟨gb234, 1, none⟩ (.slice A233_1 ((rd_T55 l0_0 x10_1).f1).length c233_1)).setCell ⟨gb234, 2, none⟩ (.slice A233_2 ((rd_T55 l0_0 x10_1).f2).length c233_2)) = w22 at n0_ n1_ n2_ n3_ n4_ n5_ ⊢
         have HO_233000 := n0_
         have BK230 := n1_
         have BK231 := n2_
         have BK232 := n3_
         have BK234 := n4_
         have HB := n5_
         clear n0_ n1_ n2_ n3_ n4_ n5_
         have n0_ := Zh (S_drew HO_233000.out)
         have n1_ := Zh (Zb BK230.out)
         have n2_ := Zh (Zb BK231.out)
         have n3_ := Zh (Zb BK232.out)
         have n4_ := Zh (Zb BK234.out)
         have n5_ := Zh (Ze HB.out)
         clear HO_233000
         clear BK230
         clear BK231
         clear BK232
         clear BK234
         clear HB
         have HO_233000 := n0_
         have BK230 := n1_
         have BK231 := n2_
         have BK232 := n3_
         have BK234 := n4_
         have HB := n5_
         clear n0_ n1_ n2_ n3_ n4_ n5_
         refine start_ (n := 17) (S := fun w' => w'.cell? ⟨gb232, 0, none⟩ = some (.slice Ao21 x233000_1.length co21) ∧ w'.cell? ⟨gb234, 0, none⟩ = some (.string ((rd_T55 l0_0 x10_1).f0)) ∧ w'.cell? ⟨gb234, 1, none⟩ = some (.slice A233_1 ((rd_T55 l0_0 x10_1).f1).length c233_1) ∧ w'.cell? ⟨gb234, 2, none⟩ = some (.slice A233_2 ((rd_T55 l0_0 x10_1).f2).length c233_2)) (ds := [16]) #[false, false, false, false, false, false, false, false, false, false, false, false, false, false, false, false, false] (by kernel_rfl) rfl rfl ⟨(blk_cell BK232.out 0).trans rfl, (blk_cell BK234.out 0).trans rfl, (blk_cell BK234.out 1).trans rfl, (blk_cell BK234.out 2).trans rfl⟩ (fun hHeld => ?_); refine with_tabW impl_copyDisk.tab5 impl_copyDisk.bits5 (fun HT_ HW_ => ?_)
         generalize w22.drew = w23 at HO_233000 BK230 BK231 BK232 BK234 HB hHeld ⊢
         refine SQ.pu 0 14 HT_ ?_
         refine SQ.pu 2 16 HT_ ?_
         refine SQ.pu 5 19 HT_ ?_
         refine SQ.pu 9 23 HT_ ?_
         refine SQ.tk 1 15 HT_ HW_ hHeld ?_
         refine SQ.tk 3 17 HT_ HW_ hHeld ?_
         refine SQ.tk 6 20 HT_ HW_ hHeld ?_
         refine SQ.tk 10 24 HT_ HW_ hHeld ?_
         refine join_ (σ := Value × Value × Value) 6 #[true, true, true, true, true, true, true, true, true, true, true, false, false, false, false, false, false] (fun s_ => [(18, s_.1), (21, s_.2.1), (22, s_.2.2)]) (fun s_ w' => (w'.cell? ⟨gb232, 0, none⟩ = some (.slice Ao21 x233000_1.length co21) ∧ w'.cell? ⟨gb234, 0, none⟩ = some (.string ((rd_T55 l0_0 x10_1).f0)) ∧ w'.cell? ⟨gb234, 1, none⟩ = some (.slice A233_1 ((rd_T55 l0_0 x10_1).f1).length c233_1) ∧ w'.cell? ⟨gb234, 2, none⟩ = some (.slice A233_2 ((rd_T55 l0_0 x10_1).f2).length c233_2)) ∧ (Kd.R (Kd.int .u8) 5 w' w.heap.size (fun k_ => some k_ ≠ (s_.2.2 : Value).ownBlock) s_.2.1 y238) ∧ (Kd.R (Kd.int .u8) 5 w' w.heap.size (fun k_ => some k_ ≠ (s_.2.1 : Value).ownBlock) s_.2.2 y241) ∧ (Kd.S k55 55 w' w.heap.size (fun k_ => some k_ ≠ (s_.2.1 : Value).ownBlock ∧ some k_ ≠ (s_.2.2 : Value).ownBlock ∧ k_ ≠ gb234) (.slice Ao21 x233000_1.length co21) x233000_1) ∧ (w'.heap[gb230]? = some (.cells #[.slice (some ad233) l0_0.length c0_0] 28 (0, 0))) ∧ (w'.heap[gb231]? = some (.cells #[.slice none 0 0] 28 (0, 0))) ∧ (w'.heap[gb232]? = some (.cells #[.slice Ao21 x233000_1.length co21] 28 (0, 0))) ∧ (w'.heap[gb234]? = some (.cells #[.string ((rd_T55 l0_0 x10_1).f0), .slice A233_1 ((rd_T55 l0_0 x10_1).f1).length c233_1, .slice A233_2 ((rd_T55 l0_0 x10_1).f2).length c233_2] 55 (0, 0))) ∧ (Below w.heap.size w w')) ?_ ?_
         rotate_left
         ·
          intro hCont
          refine two_ (i := 4) (j := 8) (Ni := some 18) (Nj := some 22) #[true, true, true, true, true, true, true, false, false, true, true, false, false, false, false, false, false] #[true, true, true, true, false, true, true, false, true, true, true, false, false, false, false, false, false] rfl rfl rfl rfl (two_of HT_.out (by kernel_rfl)) (by decide) (by decide) (fun K hK => ?_) (fun K hK => ?_)
          ·
           skip
           refine R_lit_step (Kd.int .u8) _ 5 ?hg (N := 18) ?hd (xs := ([] : List Int)) (inner := []) (ok := fun _ => True) (okp := fun _ => True) ?hr ?hp (fun _ hk => hk) trivial (Below.refl _ _) (Nat.le_refl _) (by simp) ?_; (case hd => rfl); (case hg => rfl); (case hr => first | (go_simp; done) | (go_simp; rfl)); (case hp => exact (Reps.none _ _))
           intro v236 w24 ho25 hb hg_ hnew_
           clear hg_ hnew_
           (first | rw [← Ny235.out] at ho25 | (simp only [Int.reduceToNat] at ho25; rw [← Ny235.out] at ho25))
           have n0_ := Zh (S_elder' (by (with_reducible repeat (first | apply S_alloc | apply S_drewN | apply S_drew)); exact HO_233000.out) (R_base ho25) hb)
           have n1_ := Zh (R_lower ho25 (below_size Zs))
           have n2_ := Zh (Zm (g := gb230) (o := .cells #[.slice (some ad233) l0_0.length c0_0] 28 (0, 0)) Zk hb)
           have n3_ := Zh (Zm (g := gb231) (o := .cells #[.slice none 0 0] 28 (0, 0)) Zk hb)
           have n4_ := Zh (Zm (g := gb232) (o := .cells #[.slice Ao21 x233000_1.length co21] 28 (0, 0)) Zk hb)
           have n5_ := Zh (Zm (g := gb234) (o := .cells #[.string ((rd_T55 l0_0 x10_1).f0), .slice A233_1 ((rd_T55 l0_0 x10_1).f1).length c233_1, .slice A233_2 ((rd_T55 l0_0 x10_1).f2).length c233_2] 55 (0, 0)) Zk hb)
           have n6_ := Zh (Zl Zs hb)
           clear HO_233000
           clear BK230
           clear BK231
           clear BK232
           clear BK234
           clear HB
           have HO_233000 := n0_
           have HO237 := n1_
           have BK230 := n2_
           have BK231 := n3_
           have BK232 := n4_
           have BK234 := n5_
           have HB := n6_
           clear n0_ n1_ n2_ n3_ n4_ n5_ n6_
           clear hb ho25
           refine hK.out _ _ ⟨(blk_cell BK232.out 0).trans rfl, (blk_cell BK234.out 0).trans rfl, (blk_cell BK234.out 1).trans rfl, (blk_cell BK234.out 2).trans rfl⟩ (fun hHeld => ?_)
           clear hK K
           refine norm_ (a' := ?_) ?_ ?_
           rotate_left
           ·
            show Act.put _ (some 18) _ = _
            simp only [Act.put, List.setIfInBounds_toArray, List.set_cons_zero, List.set_cons_succ, i64_w, i32_w]
            rfl
           refine two_ (i := 7) (j := 8) (Ni := some 21) (Nj := some 22) #[true, true, true, true, true, true, true, true, false, true, true, false, false, false, false, false, false] #[true, true, true, true, true, true, true, false, true, true, true, false, false, false, false, false, false] rfl rfl rfl rfl (two_of HT_.out (by kernel_rfl)) (by decide) (by decide) (fun K hK => ?_) (fun K hK => ?_)
           ·
            skip
            refine R_append_rows_step (Kd.int .u8) (w0 := w) w.heap.size (by rfl) (.tmp 18) (.tmp 20) 41 5 (.int .u8 0) 1 rfl Tryd.underlying41 info5 rfl (by decide) (by omega) v236 y235 ((rd_T55 l0_0 x10_1).f1) _ _ _ (fun _ => True) (fun _ => False) rfl rfl ?aO ?aR (fun _ _ h => h) (fun _ h => h.elim) ?aF ?aB ?aS ?aL ?_
            (case aR => repeat (first | exact (C_below HR233_1.out HB.out) | (with_reducible refine C_alloc ?_ _) | (with_reducible refine C_drewN ?_ _) | (with_reducible refine C_drew ?_)))
            (case aB => exact Zs)
            (case aF => exact (fun _ _ => trivial))
            (case aO => exact (by (with_reducible repeat (first | apply R_alloc | apply R_drewN | apply R_drew)); exact HO237.out))
            (case aS => exact (below_size Zs))
            (case aL => have := LMc13.out; omega)
            intro v239 w26 ho hb hg hat
            rw [← Ny238.out] at ho
            have n0_ := Zh (S_after (ok := (fun k_ => k_ ≠ gb234)) (by (with_reducible repeat (first | apply S_alloc | apply S_drewN | apply S_drew)); exact HO_233000.out) hg hat)
            have n1_ := Zh (blk_grown (g := gb230) (o := .cells #[.slice (some ad233) l0_0.length c0_0] 28 (0, 0)) Zk hg (R_ne HO237.out BK230.out (by decide)))
            have n2_ := Zh (blk_grown (g := gb231) (o := .cells #[.slice none 0 0] 28 (0, 0)) Zk hg (R_ne HO237.out BK231.out (by decide)))
            have n3_ := Zh (blk_grown (g := gb232) (o := .cells #[.slice Ao21 x233000_1.length co21] 28 (0, 0)) Zk hg (R_ne HO237.out BK232.out (by decide)))
            have n4_ := Zh (blk_grown (g := gb234) (o := .cells #[.string ((rd_T55 l0_0 x10_1).f0), .slice A233_1 ((rd_T55 l0_0 x10_1).f1).length c233_1, .slice A233_2 ((rd_T55 l0_0 x10_1).f2).length c233_2] 55 (0, 0)) Zk hg (R_ne HO237.out BK234.out (by decide)))
            have n5_ := Zh (hb)
            have n6_ := Zh (ho)
            clear HO_233000
            clear BK230
            clear BK231
            clear BK232
            clear BK234
            clear HB
            clear HO237
            have HO_233000 := n0_
            have BK230 := n1_
            have BK231 := n2_
            have BK232 := n3_
            have BK234 := n4_
            have HB := n5_
            have HO240 := n6_
            clear n0_ n1_ n2_ n3_ n4_ n5_ n6_
            clear ho hb hg hat
            refine hK.out _ _ ⟨(blk_cell BK232.out 0).trans rfl, (blk_cell BK234.out 0).trans rfl, (blk_cell BK234.out 1).trans rfl, (blk_cell BK234.out 2).trans rfl⟩ (fun hHeld => ?_)
            clear hK K
            refine norm_ (a' := ?_) ?_ ?_
            rotate_left
            ·
             show Act.put _ (some 21) _ = _
             simp only [Act.put, List.setIfInBounds_toArray, List.set_cons_zero, List.set_cons_succ, i64_w, i32_w]
             rfl
            refine one_ (i := 8) (N := some 22) #[true, true, true, true, true, true, true, true, true, true, true, false, false, false, false, false, false] rfl rfl (one_of HT_.out (by kernel_rfl)) (by decide) (fun K hK => ?_)
            refine R_lit_step (Kd.int .u8) _ 5 ?hg (N := 22) ?hd (xs := ([] : List Int)) (inner := []) (ok := fun _ => True) (okp := fun _ => True) ?hr ?hp (fun _ hk => hk) trivial (Below.refl _ _) (Nat.le_refl _) (by simp) ?_; (case hd => rfl); (case hg => rfl); (case hr => first | (go_simp; done) | (go_simp; rfl)); (case hp => exact (Reps.none _ _))
            intro v242 w27 ho28 hb hg_ hnew_
            clear hg_ hnew_
            (first | rw [← Ny241.out] at ho28 | (simp only [Int.reduceToNat] at ho28; rw [← Ny241.out] at ho28))
            have n0_ := Zh (S_elder' (by (with_reducible repeat (first | apply S_alloc | apply S_drewN | apply S_drew)); exact HO_233000.out) (R_base ho28) hb)
            have n1_ := Zh (R_elder' (by (with_reducible repeat (first | apply R_alloc | apply R_drewN | apply R_drew)); exact HO240.out) (R_base ho28) hb)
            have n2_ := Zh (R_lower (R_new' ho28 (R_lt (by (with_reducible repeat (first | apply R_alloc | apply R_drewN | apply R_drew)); exact HO240.out))) (below_size Zs))
            have n3_ := Zh (Zm (g := gb230) (o := .cells #[.slice (some ad233) l0_0.length c0_0] 28 (0, 0)) Zk hb)
            have n4_ := Zh (Zm (g := gb231) (o := .cells #[.slice none 0 0] 28 (0, 0)) Zk hb)
            have n5_ := Zh (Zm (g := gb232) (o := .cells #[.slice Ao21 x233000_1.length co21] 28 (0, 0)) Zk hb)
            have n6_ := Zh (Zm (g := gb234) (o := .cells #[.string ((rd_T55 l0_0 x10_1).f0), .slice A233_1 ((rd_T55 l0_0 x10_1).f1).length c233_1, .slice A233_2 ((rd_T55 l0_0 x10_1).f2).length c233_2] 55 (0, 0)) Zk hb)
            have n7_ := Zh (Zl Zs hb)
            clear HO_233000
            clear HO240
            clear BK230
            clear BK231
            clear BK232
            clear BK234
            clear HB
            have HO_233000 := n0_
            have HO240 := n1_
            have HO243 := n2_
            have BK230 := n3_
            have BK231 := n4_
            have BK232 := n5_
            have BK234 := n6_
            have HB := n7_
            clear n0_ n1_ n2_ n3_ n4_ n5_ n6_ n7_
            clear hb ho28
            refine hK.out _ _ ⟨(blk_cell BK232.out 0).trans rfl, (blk_cell BK234.out 0).trans rfl, (blk_cell BK234.out 1).trans rfl, (blk_cell BK234.out 2).trans rfl⟩ (fun hHeld => ?_)
            clear hK K
            refine norm_ (a' := ?_) ?_ ?_
            rotate_left
            ·
             show Act.put _ (some 22) _ = _
             simp only [Act.put, List.setIfInBounds_toArray, List.set_cons_zero, List.set_cons_succ, i64_w, i32_w]
             rfl
            exact norm_ (by simp only [putAll, Act.put, List.setIfInBounds_toArray, List.set_cons_zero, List.set_cons_succ]) (hCont (v236, v239, v242) _ ⟨hHeld, (by (with_reducible repeat (first | apply R_alloc | apply R_drewN | apply R_drew)); exact R_mono HO240.out (fun _ hk => hk.2)), (by (with_reducible repeat (first | apply R_alloc | apply R_drewN | apply R_drew)); exact R_mono HO243.out (fun _ hk => hk.2)), (by (with_reducible repeat (first | apply S_alloc | apply S_drewN | apply S_drew)); exact S_mono HO_233000.out (fun _ hk => ⟨hk.1.2, ⟨hk.2, hk.1.1⟩⟩)), Zk, Zk, Zk, Zk, Zs⟩)
           skip
           refine R_lit_step (Kd.int .u8) _ 5 ?hg (N := 22) ?hd (xs := ([] : List Int)) (inner := []) (ok := fun _ => True) (okp := fun _ => True) ?hr ?hp (fun _ hk => hk) trivial (Below.refl _ _) (Nat.le_refl _) (by simp) ?_; (case hd => rfl); (case hg => rfl); (case hr => first | (go_simp; done) | (go_simp; rfl)); (case hp => exact (Reps.none _ _))
           intro v242 w26 ho27 hb hg_ hnew_
           clear hg_ hnew_
           (first | rw [← Ny241.out] at ho27 | (simp only [Int.reduceToNat] at ho27; rw [← Ny241.out] at ho27))
           have n0_ := Zh (S_elder' (by (with_reducible repeat (first | apply S_alloc | apply S_drewN | apply S_drew)); exact HO_233000.out) (R_base ho27) hb)
           have n1_ := Zh (R_elder' (by (with_reducible repeat (first | apply R_alloc | apply R_drewN | apply R_drew)); exact HO237.out) (R_base ho27) hb)
           have n2_ := Zh (R_lower (R_new' ho27 (R_lt (by (with_reducible repeat (first | apply R_alloc | apply R_drewN | apply R_drew)); exact HO237.out))) (below_size Zs))
           have n3_ := Zh (Zm (g := gb230) (o := .cells #[.slice (some ad233) l0_0.length c0_0] 28 (0, 0)) Zk hb)
           have n4_ := Zh (Zm (g := gb231) (o := .cells #[.slice none 0 0] 28 (0, 0)) Zk hb)
           have n5_ := Zh (Zm (g := gb232) (o := .cells #[.slice Ao21 x233000_1.length co21] 28 (0, 0)) Zk hb)
           have n6_ := Zh (Zm (g := gb234) (o := .cells #[.string ((rd_T55 l0_0 x10_1).f0), .slice A233_1 ((rd_T55 l0_0 x10_1).f1).length c233_1, .slice A233_2 ((rd_T55 l0_0 x10_1).f2).length c233_2] 55 (0, 0)) Zk hb)
           have n7_ := Zh (Zl Zs hb)
           clear HO_233000
           clear HO237
           clear BK230
           clear BK231
           clear BK232
           clear BK234
           clear HB
           have HO_233000 := n0_
           have HO237 := n1_
           have HO243 := n2_
           have BK230 := n3_
           have BK231 := n4_
           have BK232 := n5_
           have BK234 := n6_
           have HB := n7_
           clear n0_ n1_ n2_ n3_ n4_ n5_ n6_ n7_
           clear hb ho27
           refine hK.out _ _ ⟨(blk_cell BK232.out 0).trans rfl, (blk_cell BK234.out 0).trans rfl, (blk_cell BK234.out 1).trans rfl, (blk_cell BK234.out 2).trans rfl⟩ (fun hHeld => ?_)
           clear hK K
           refine norm_ (a' := ?_) ?_ ?_
           rotate_left
           ·
            show Act.put _ (some 22) _ = _
            simp only [Act.put, List.setIfInBounds_toArray, List.set_cons_zero, List.set_cons_succ, i64_w, i32_w]
            rfl
           refine one_ (i := 7) (N := some 21) #[true, true, true, true, true, true, true, true, true, true, true, false, false, false, false, false, false] rfl rfl (one_of HT_.out (by kernel_rfl)) (by decide) (fun K hK => ?_)
           refine R_append_rows_step (Kd.int .u8) (w0 := w) w.heap.size (by rfl) (.tmp 18) (.tmp 20) 41 5 (.int .u8 0) 1 rfl Tryd.underlying41 info5 rfl (by decide) (by omega) v236 y235 ((rd_T55 l0_0 x10_1).f1) _ _ _ (fun k_ => some k_ ≠ (v242 : Value).ownBlock) (fun _ => False) rfl rfl ?aO ?aR (fun _ _ h => h) (fun _ h => h.elim) ?aF ?aB ?aS ?aL ?_
           (case aR => repeat (first | exact (C_below HR233_1.out HB.out) | (with_reducible refine C_alloc ?_ _) | (with_reducible refine C_drewN ?_ _) | (with_reducible refine C_drew ?_)))
           (case aB => exact Zs)
           (case aF => exact (fun k_ hk => Kd.fresh' (R_lt (by (with_reducible repeat (first | apply R_alloc | apply R_drewN | apply R_drew)); exact HO243.out)) k_ hk))
           (case aO => exact (by (with_reducible repeat (first | apply R_alloc | apply R_drewN | apply R_drew)); exact R_mono HO237.out (fun _ hk => hk.2)))
           (case aS => exact (below_size Zs))
           (case aL => have := LMc13.out; omega)
           intro v239 w28 ho hb hg hat
           rw [← Ny238.out] at ho
           have n0_ := Zh (S_after (ok := (fun k_ => some k_ ≠ (v242 : Value).ownBlock ∧ k_ ≠ gb234)) (by (with_reducible repeat (first | apply S_alloc | apply S_drewN | apply S_drew)); exact S_mono HO_233000.out (fun _ hk => ⟨⟨hk.2, hk.1.1⟩, hk.1.2⟩)) hg hat)
           have n1_ := Zh (blk_grown (g := gb230) (o := .cells #[.slice (some ad233) l0_0.length c0_0] 28 (0, 0)) Zk hg (R_ne HO237.out BK230.out (by decide)))
           have n2_ := Zh (blk_grown (g := gb231) (o := .cells #[.slice none 0 0] 28 (0, 0)) Zk hg (R_ne HO237.out BK231.out (by decide)))
           have n3_ := Zh (blk_grown (g := gb232) (o := .cells #[.slice Ao21 x233000_1.length co21] 28 (0, 0)) Zk hg (R_ne HO237.out BK232.out (by decide)))
           have n4_ := Zh (blk_grown (g := gb234) (o := .cells #[.string ((rd_T55 l0_0 x10_1).f0), .slice A233_1 ((rd_T55 l0_0 x10_1).f1).length c233_1, .slice A233_2 ((rd_T55 l0_0 x10_1).f2).length c233_2] 55 (0, 0)) Zk hg (R_ne HO237.out BK234.out (by decide)))
           have n5_ := Zh (R_after (ok := (fun _ => True)) (by (with_reducible repeat (first | apply R_alloc | apply R_drewN | apply R_drew)); exact HO243.out) hg hat)
           have n6_ := Zh (hb)
           have n7_ := Zh (ho)
           clear HO_233000
           clear BK230
           clear BK231
           clear BK232
           clear BK234
           clear HO243
           clear HB
           clear HO237
           have HO_233000 := n0_
           have BK230 := n1_
           have BK231 := n2_
           have BK232 := n3_
           have BK234 := n4_
           have HO243 := n5_
           have HB := n6_
           have HO240 := n7_
           clear n0_ n1_ n2_ n3_ n4_ n5_ n6_ n7_
           clear ho hb hg hat
           refine hK.out _ _ ⟨(blk_cell BK232.out 0).trans rfl, (blk_cell BK234.out 0).trans rfl, (blk_cell BK234.out 1).trans rfl, (blk_cell BK234.out 2).trans rfl⟩ (fun hHeld => ?_)
           clear hK K
           refine norm_ (a' := ?_) ?_ ?_
           rotate_left
           ·
            show Act.put _ (some 21) _ = _
            simp only [Act.put, List.setIfInBounds_toArray, List.set_cons_zero, List.set_cons_succ, i64_w, i32_w]
            rfl
           exact norm_ (by simp only [putAll, Act.put, List.setIfInBounds_toArray, List.set_cons_zero, List.set_cons_succ]) (hCont (v236, v239, v242) _ ⟨hHeld, (by (with_reducible repeat (first | apply R_alloc | apply R_drewN | apply R_drew)); exact HO240.out), (by (with_reducible repeat (first | apply R_alloc | apply R_drewN | apply R_drew)); exact R_mono HO243.out (fun _ hk => hk.2)), (by (with_reducible repeat (first | apply S_alloc | apply S_drewN | apply S_drew)); exact S_mono HO_233000.out (fun _ hk => ⟨hk.2, ⟨hk.1.1, hk.1.2⟩⟩)), Zk, Zk, Zk, Zk, Zs⟩)
          skip
          refine R_lit_step (Kd.int .u8) _ 5 ?hg (N := 22) ?hd (xs := ([] : List Int)) (inner := []) (ok := fun _ => True) (okp := fun _ => True) ?hr ?hp (fun _ hk => hk) trivial (Below.refl _ _) (Nat.le_refl _) (by simp) ?_; (case hd => rfl); (case hg => rfl); (case hr => first | (go_simp; done) | (go_simp; rfl)); (case hp => exact (Reps.none _ _))
          intro v242 w24 ho25 hb hg_ hnew_
          clear hg_ hnew_
          (first | rw [← Ny241.out] at ho25 | (simp only [Int.reduceToNat] at ho25; rw [← Ny241.out] at ho25))
          have n0_ := Zh (S_elder' (by (with_reducible repeat (first | apply S_alloc | apply S_drewN | apply S_drew)); exact HO_233000.out) (R_base ho25) hb)
          have n1_ := Zh (R_lower ho25 (below_size Zs))
          have n2_ := Zh (Zm (g := gb230) (o := .cells #[.slice (some ad233) l0_0.length c0_0] 28 (0, 0)) Zk hb)
          have n3_ := Zh (Zm (g := gb231) (o := .cells #[.slice none 0 0] 28 (0, 0)) Zk hb)
          have n4_ := Zh (Zm (g := gb232) (o := .cells #[.slice Ao21 x233000_1.length co21] 28 (0, 0)) Zk hb)
          have n5_ := Zh (Zm (g := gb234) (o := .cells #[.string ((rd_T55 l0_0 x10_1).f0), .slice A233_1 ((rd_T55 l0_0 x10_1).f1).length c233_1, .slice A233_2 ((rd_T55 l0_0 x10_1).f2).length c233_2] 55 (0, 0)) Zk hb)
          have n6_ := Zh (Zl Zs hb)
          clear HO_233000
          clear BK230
          clear BK231
          clear BK232
          clear BK234
          clear HB
          have HO_233000 := n0_
          have HO243 := n1_
          have BK230 := n2_
          have BK231 := n3_
          have BK232 := n4_
          have BK234 := n5_
          have HB := n6_
          clear n0_ n1_ n2_ n3_ n4_ n5_ n6_
          clear hb ho25
          refine hK.out _ _ ⟨(blk_cell BK232.out 0).trans rfl, (blk_cell BK234.out 0).trans rfl, (blk_cell BK234.out 1).trans rfl, (blk_cell BK234.out 2).trans rfl⟩ (fun hHeld => ?_)
          clear hK K
          refine norm_ (a' := ?_) ?_ ?_
          rotate_left
          ·
           show Act.put _ (some 22) _ = _
           simp only [Act.put, List.setIfInBounds_toArray, List.set_cons_zero, List.set_cons_succ, i64_w, i32_w]
           rfl
          refine one_ (i := 4) (N := some 18) #[true, true, true, true, true, true, true, false, true, true, true, false, false, false, false, false, false] rfl rfl (one_of HT_.out (by kernel_rfl)) (by decide) (fun K hK => ?_)
          refine R_lit_step (Kd.int .u8) _ 5 ?hg (N := 18) ?hd (xs := ([] : List Int)) (inner := []) (ok := fun _ => True) (okp := fun _ => True) ?hr ?hp (fun _ hk => hk) trivial (Below.refl _ _) (Nat.le_refl _) (by simp) ?_; (case hd => rfl); (case hg => rfl); (case hr => first | (go_simp; done) | (go_simp; rfl)); (case hp => exact (Reps.none _ _))
          intro v236 w26 ho27 hb hg_ hnew_
          clear hg_ hnew_
          (first | rw [← Ny235.out] at ho27 | (simp only [Int.reduceToNat] at ho27; rw [← Ny235.out] at ho27))
          have n0_ := Zh (S_elder' (by (with_reducible repeat (first | apply S_alloc | apply S_drewN | apply S_drew)); exact HO_233000.out) (R_base ho27) hb)
          have n1_ := Zh (R_elder' (by (with_reducible repeat (first | apply R_alloc | apply R_drewN | apply R_drew)); exact HO243.out) (R_base ho27) hb)
          have n2_ := Zh (R_lower (R_new' ho27 (R_lt (by (with_reducible repeat (first | apply R_alloc | apply R_drewN | apply R_drew)); exact HO243.out))) (below_size Zs))
          have n3_ := Zh (Zm (g := gb230) (o := .cells #[.slice (some ad233) l0_0.length c0_0] 28 (0, 0)) Zk hb)
          have n4_ := Zh (Zm (g := gb231) (o := .cells #[.slice none 0 0] 28 (0, 0)) Zk hb)
          have n5_ := Zh (Zm (g := gb232) (o := .cells #[.slice Ao21 x233000_1.length co21] 28 (0, 0)) Zk hb)
          have n6_ := Zh (Zm (g := gb234) (o := .cells #[.string ((rd_T55 l0_0 x10_1).f0), .slice A233_1 ((rd_T55 l0_0 x10_1).f1).length c233_1, .slice A233_2 ((rd_T55 l0_0 x10_1).f2).length c233_2] 55 (0, 0)) Zk hb)
          have n7_ := Zh (Zl Zs hb)
          clear HO_233000
          clear HO243
          clear BK230
          clear BK231
          clear BK232
          clear BK234
          clear HB
          have HO_233000 := n0_
          have HO243 := n1_
          have HO237 := n2_
          have BK230 := n3_
          have BK231 := n4_
          have BK232 := n5_
          have BK234 := n6_
          have HB := n7_
          clear n0_ n1_ n2_ n3_ n4_ n5_ n6_ n7_
          clear hb ho27
          refine hK.out _ _ ⟨(blk_cell BK232.out 0).trans rfl, (blk_cell BK234.out 0).trans rfl, (blk_cell BK234.out 1).trans rfl, (blk_cell BK234.out 2).trans rfl⟩ (fun hHeld => ?_)
          clear hK K
          refine norm_ (a' := ?_) ?_ ?_
          rotate_left
          ·
           show Act.put _ (some 18) _ = _
           simp only [Act.put, List.setIfInBounds_toArray, List.set_cons_zero, List.set_cons_succ, i64_w, i32_w]
           rfl
          refine one_ (i := 7) (N := some 21) #[true, true, true, true, true, true, true, true, true, true, true, false, false, false, false, false, false] rfl rfl (one_of HT_.out (by kernel_rfl)) (by decide) (fun K hK => ?_)
          refine R_append_rows_step (Kd.int .u8) (w0 := w) w.heap.size (by rfl) (.tmp 18) (.tmp 20) 41 5 (.int .u8 0) 1 rfl Tryd.underlying41 info5 rfl (by decide) (by omega) v236 y235 ((rd_T55 l0_0 x10_1).f1) _ _ _ (fun k_ => some k_ ≠ (v242 : Value).ownBlock) (fun _ => False) rfl rfl ?aO ?aR (fun _ _ h => h) (fun _ h => h.elim) ?aF ?aB ?aS ?aL ?_
          (case aR => repeat (first | exact (C_below HR233_1.out HB.out) | (with_reducible refine C_alloc ?_ _) | (with_reducible refine C_drewN ?_ _) | (with_reducible refine C_drew ?_)))
          (case aB => exact Zs)
          (case aF => exact (fun k_ hk => Kd.fresh' (R_lt (by (with_reducible repeat (first | apply R_alloc | apply R_drewN | apply R_drew)); exact HO243.out)) k_ hk))
          (case aO => exact (by (with_reducible repeat (first | apply R_alloc | apply R_drewN | apply R_drew)); exact R_mono HO237.out (fun _ hk => hk.2)))
          (case aS => exact (below_size Zs))
          (case aL => have := LMc13.out; omega)
          intro v239 w28 ho hb hg hat
          rw [← Ny238.out] at ho
          have n0_ := Zh (S_after (ok := (fun k_ => some k_ ≠ (v242 : Value).ownBlock ∧ k_ ≠ gb234)) (by (with_reducible repeat (first | apply S_alloc | apply S_drewN | apply S_drew)); exact S_mono HO_233000.out (fun _ hk => ⟨⟨hk.1.2, hk.1.1⟩, hk.2⟩)) hg hat)
          have n1_ := Zh (blk_grown (g := gb230) (o := .cells #[.slice (some ad233) l0_0.length c0_0] 28 (0, 0)) Zk hg (R_ne HO237.out BK230.out (by decide)))
          have n2_ := Zh (blk_grown (g := gb231) (o := .cells #[.slice none 0 0] 28 (0, 0)) Zk hg (R_ne HO237.out BK231.out (by decide)))
          have n3_ := Zh (blk_grown (g := gb232) (o := .cells #[.slice Ao21 x233000_1.length co21] 28 (0, 0)) Zk hg (R_ne HO237.out BK232.out (by decide)))
          have n4_ := Zh (blk_grown (g := gb234) (o := .cells #[.string ((rd_T55 l0_0 x10_1).f0), .slice A233_1 ((rd_T55 l0_0 x10_1).f1).length c233_1, .slice A233_2 ((rd_T55 l0_0 x10_1).f2).length c233_2] 55 (0, 0)) Zk hg (R_ne HO237.out BK234.out (by decide)))
          have n5_ := Zh (R_after (ok := (fun _ => True)) (by (with_reducible repeat (first | apply R_alloc | apply R_drewN | apply R_drew)); exact HO243.out) hg hat)
          have n6_ := Zh (hb)
          have n7_ := Zh (ho)
          clear HO_233000
          clear BK230
          clear BK231
          clear BK232
          clear BK234
          clear HO243
          clear HB
          clear HO237
          have HO_233000 := n0_
          have BK230 := n1_
          have BK231 := n2_
          have BK232 := n3_
          have BK234 := n4_
          have HO243 := n5_
          have HB := n6_
          have HO240 := n7_
          clear n0_ n1_ n2_ n3_ n4_ n5_ n6_ n7_
          clear ho hb hg hat
          refine hK.out _ _ ⟨(blk_cell BK232.out 0).trans rfl, (blk_cell BK234.out 0).trans rfl, (blk_cell BK234.out 1).trans rfl, (blk_cell BK234.out 2).trans rfl⟩ (fun hHeld => ?_)
          clear hK K
          refine norm_ (a' := ?_) ?_ ?_
          rotate_left
          ·
           show Act.put _ (some 21) _ = _
           simp only [Act.put, List.setIfInBounds_toArray, List.set_cons_zero, List.set_cons_succ, i64_w, i32_w]
           rfl
          exact norm_ (by simp only [putAll, Act.put, List.setIfInBounds_toArray, List.set_cons_zero, List.set_cons_succ]) (hCont (v236, v239, v242) _ ⟨hHeld, (by (with_reducible repeat (first | apply R_alloc | apply R_drewN | apply R_drew)); exact HO240.out), (by (with_reducible repeat (first | apply R_alloc | apply R_drewN | apply R_drew)); exact R_mono HO243.out (fun _ hk => hk.2)), (by (with_reducible repeat (first | apply S_alloc | apply S_drewN | apply S_drew)); exact S_mono HO_233000.out (fun _ hk => ⟨hk.2, ⟨hk.1.1, hk.1.2⟩⟩)), Zk, Zk, Zk, Zk, Zs⟩)
         rintro ⟨v236, v239, v242⟩ w29 ⟨hS_, h0_, h1_, h2_, h3_, h4_, h5_, h6_, h7_⟩
         have n0_ : Aside0 (Kd.R (Kd.int .u8) 5 w29 w.heap.size (fun k_ => some k_ ≠ (v242 : Value).ownBlock) v239 y238) := ⟨h0_⟩
         have n1_ : Aside0 (Kd.R (Kd.int .u8) 5 w29 w.heap.size (fun k_ => some k_ ≠ (v239 : Value).ownBlock) v242 y241) := ⟨h1_⟩
         have n2_ : Aside0 (Kd.S k55 55 w29 w.heap.size (fun k_ => some k_ ≠ (v239 : Value).ownBlock ∧ some k_ ≠ (v242 : Value).ownBlock ∧ k_ ≠ gb234) (.slice Ao21 x233000_1.length co21) x233000_1) := ⟨h2_⟩
         have n3_ : Aside0 (w29.heap[gb230]? = some (.cells #[.slice (some ad233) l0_0.length c0_0] 28 (0, 0))) := ⟨h3_⟩
         have n4_ : Aside0 (w29.heap[gb231]? = some (.cells #[.slice none 0 0] 28 (0, 0))) := ⟨h4_⟩
         have n5_ : Aside0 (w29.heap[gb232]? = some (.cells #[.slice Ao21 x233000_1.length co21] 28 (0, 0))) := ⟨h5_⟩
         have n6_ : Aside0 (w29.heap[gb234]? = some (.cells #[.string ((rd_T55 l0_0 x10_1).f0), .slice A233_1 ((rd_T55 l0_0 x10_1).f1).length c233_1, .slice A233_2 ((rd_T55 l0_0 x10_1).f2).length c233_2] 55 (0, 0))) := ⟨h6_⟩
         have n7_ : Aside0 (Below w.heap.size w w29) := ⟨h7_⟩
         clear HO_233000
         clear BK230
         clear BK231
         clear BK232
         clear BK234
         clear HB
         clear h0_ h1_ h2_ h3_ h4_ h5_ h6_ h7_
         have HO240 := n0_
         have HO243 := n1_
         have HO_233000 := n2_
         have BK230 := n3_
         have BK231 := n4_
         have BK232 := n5_
         have BK234 := n6_
         have HB := n7_
         clear n0_ n1_ n2_ n3_ n4_ n5_ n6_ n7_
         have hHeld : w29.cell? ⟨gb232, 0, none⟩ = some (.slice Ao21 x233000_1.length co21) ∧ w29.cell? ⟨gb234, 0, none⟩ = some (.string ((rd_T55 l0_0 x10_1).f0)) ∧ w29.cell? ⟨gb234, 1, none⟩ = some (.slice A233_1 ((rd_T55 l0_0 x10_1).f1).length c233_1) ∧ w29.cell? ⟨gb234, 2, none⟩ = some (.slice A233_2 ((rd_T55 l0_0 x10_1).f2).length c233_2) := hS_
         refine norm_ (a' := ?_) ?_ ?_
         rotate_left
         ·
          simp only [putAll, Act.put, List.setIfInBounds_toArray, List.set_cons_zero, List.set_cons_succ]
          rfl
         refine one_ (i := 11) (N := some 25) #[true, true, true, true, true, true, true, true, true, true, true, true, false, false, false, false, false] rfl rfl (one_of HT_.out (by kernel_rfl)) (by decide) (fun K hK => ?_)
         refine R_append_rows_step (Kd.int .u8) (w0 := w) w.heap.size (by rfl) (.tmp 22) (.tmp 24) 41 5 (.int .u8 0) 1 rfl Tryd.underlying41 info5 rfl (by decide) (by omega) v242 y241 ((rd_T55 l0_0 x10_1).f2) _ _ _ (fun k_ => some k_ ≠ (v239 : Value).ownBlock) (fun _ => False) rfl rfl ?aO ?aR (fun _ _ h => h) (fun _ h => h.elim) ?aF ?aB ?aS ?aL ?_
         (case aR => repeat (first | exact (C_below HR233_2.out HB.out) | (with_reducible refine C_alloc ?_ _) | (with_reducible refine C_drewN ?_ _) | (with_reducible refine C_drew ?_)))
         (case aB => exact Zs)
         (case aF => exact (fun k_ hk => Kd.fresh' (R_lt (by (with_reducible repeat (first | apply R_alloc | apply R_drewN | apply R_drew)); exact HO240.out)) k_ hk))
         (case aO => exact (by (with_reducible repeat (first | apply R_alloc | apply R_drewN | apply R_drew)); exact HO243.out))
         (case aS => exact (below_size Zs))
         (case aL => have := LMc14.out; omega)
         intro v245 w30 ho hb hg hat
         rw [← Ny244.out] at ho
         have n0_ := Zh (S_after (ok := (fun k_ => some k_ ≠ (v239 : Value).ownBlock ∧ k_ ≠ gb234)) (by (with_reducible repeat (first | apply S_alloc | apply S_drewN | apply S_drew)); exact S_mono HO_233000.out (fun _ hk => ⟨⟨hk.1, hk.2.2⟩, hk.2.1⟩)) hg hat)
         have n1_ := Zh (blk_grown (g := gb230) (o := .cells #[.slice (some ad233) l0_0.length c0_0] 28 (0, 0)) Zk hg (R_ne HO243.out BK230.out (by decide)))
         have n2_ := Zh (blk_grown (g := gb231) (o := .cells #[.slice none 0 0] 28 (0, 0)) Zk hg (R_ne HO243.out BK231.out (by decide)))
         have n3_ := Zh (blk_grown (g := gb232) (o := .cells #[.slice Ao21 x233000_1.length co21] 28 (0, 0)) Zk hg (R_ne HO243.out BK232.out (by decide)))
         have n4_ := Zh (blk_grown (g := gb234) (o := .cells #[.string ((rd_T55 l0_0 x10_1).f0), .slice A233_1 ((rd_T55 l0_0 x10_1).f1).length c233_1, .slice A233_2 ((rd_T55 l0_0 x10_1).f2).length c233_2] 55 (0, 0)) Zk hg (R_ne HO243.out BK234.out (by decide)))
         have n5_ := Zh (R_after (ok := (fun _ => True)) (by (with_reducible repeat (first | apply R_alloc | apply R_drewN | apply R_drew)); exact R_mono HO240.out (fun _ hk => ⟨trivial, hk⟩)) hg hat)
         have n6_ := Zh (hb)
         have n7_ := Zh (ho)
         clear HO_233000
         clear BK230
         clear BK231
         clear BK232
         clear BK234
         clear HO240
         clear HB
         clear HO243
         have HO_233000 := n0_
         have BK230 := n1_
         have BK231 := n2_
         have BK232 := n3_
         have BK234 := n4_
         have HO240 := n5_
         have HB := n6_
         have HO246 := n7_
         clear n0_ n1_ n2_ n3_ n4_ n5_ n6_ n7_
         clear ho hb hg hat
         obtain ⟨Ao31, co31, eo31⟩ := R_slice HO246.out
         (first | subst eo31 | (injection eo31 with f1_ f2_ f3_; have f4_ := f1_.symm; have f5_ := f3_.symm; clear f1_ f2_ f3_; subst f4_; subst f5_))
         obtain ⟨Ao32, co32, eo32⟩ := R_slice HO240.out
         (first | subst eo32 | (injection eo32 with f1_ f2_ f3_; have f4_ := f1_.symm; have f5_ := f3_.symm; clear f1_ f2_ f3_; subst f4_; subst f5_))
         refine hK.out _ _ ⟨(blk_cell BK232.out 0).trans rfl, (blk_cell BK234.out 0).trans rfl, (blk_cell BK234.out 1).trans rfl, (blk_cell BK234.out 2).trans rfl⟩ (fun hHeld => ?_)
         clear hK K
         refine norm_ (a' := ?_) ?_ ?_
         rotate_left
         ·
          show Act.put _ (some 25) _ = _
          simp only [Act.put, List.setIfInBounds_toArray, List.set_cons_zero, List.set_cons_succ, i64_w, i32_w]
          rfl
         refine SQ.pu 12 26 HT_ ?_
         refine one_ (i := 13) (N := some 27) #[true, true, true, true, true, true, true, true, true, true, true, true, true, true, false, false, false] rfl rfl (one_of HT_.out (by kernel_rfl)) (by decide) (fun K hK => ?_)
         refine value_ (w1 := ?_) (v := ?_) (by rfl) rfl ?_ ?_
         rotate_left 2
         ·
          go_simp
          constructor
          ·
           rfl
          rfl
         refine hK.out _ _ ⟨(blk_cell (blk_alloc BK232.out _) 0).trans rfl, (blk_cell (blk_alloc BK234.out _) 0).trans rfl, (blk_cell (blk_alloc BK234.out _) 1).trans rfl, (blk_cell (blk_alloc BK234.out _) 2).trans rfl⟩ (fun hHeld => ?_)
         clear hK K
         refine norm_ (a' := ?_) ?_ ?_
         rotate_left
         ·
          show Act.put _ (some 27) _ = _
          simp only [Act.put, List.setIfInBounds_toArray, List.set_cons_zero, List.set_cons_succ, i64_w, i32_w]
          rfl
         refine one_ (i := 14) (N := some 28) #[true, true, true, true, true, true, true, true, true, true, true, true, true, true, true, false, false] rfl rfl (one_of HT_.out (by kernel_rfl)) (by decide) (fun K hK => ?_)
         refine S_append_step k55 (w0 := w) w.heap.size (by rfl) (.tmp 15) (.tmp 27) 26 55 (.agg #[(.string ⟨#[]⟩), (.slice none 0 0), (.slice none 0 0)]) 64 rfl Tryd.underlying26 info55 rfl (by decide) (by omega) (.slice Ao21 x233000_1.length co21) x233000_1 (⟨(rd_T55 l0_0 x10_1).f0, y238, y244⟩ : S55) [.string ((rd_T55 l0_0 x10_1).f0), .slice Ao32 y238.length co32, .slice Ao31 y244.length co31] (fun k_ => k_ ≠ gb234) (fun k_ => some k_ = (.slice Ao32 y238.length co32 : Value).ownBlock ∨ some k_ = (.slice Ao31 y244.length co31 : Value).ownBlock) rfl rfl ?aP (fun k_ hk_ => hk_.elim (fun h_ => ((R_mono (ok' := fun k_ => ((fun k_ => k_ ≠ gb234)) k_ ∧ some k_ ≠ (.slice Ao21 x233000_1.length co21 : Value).ownBlock) (R_types (R_apart' (HO240.out) (S_typed HO_233000.out) (by decide)) BK234.out (by decide)) (fun k_ hk => ⟨hk.2, hk.1.2⟩))).1 k_ h_.symm) (fun h_ => ((R_mono (ok' := fun k_ => ((fun k_ => k_ ≠ gb234)) k_ ∧ some k_ ≠ (.slice Ao21 x233000_1.length co21 : Value).ownBlock) (R_types (R_apart' (HO246.out) (S_typed HO_233000.out) (by decide)) BK234.out (by decide)) (fun k_ hk => ⟨hk.2, hk.1.2⟩))).1 k_ h_.symm)) ?aF ?aO ?aB ?aS ?aL ?_
         (case aP => exact k55_mkM _ _ _ (⟨(rd_T55 l0_0 x10_1).f0, y238, y244⟩ : S55) (R_mono (R_tight rfl (R_mono (ok' := fun k_ => ((fun k_ => k_ ≠ gb234)) k_ ∧ some k_ ≠ (.slice Ao21 x233000_1.length co21 : Value).ownBlock) (R_types (R_apart' (HO240.out) (S_typed HO_233000.out) (by decide)) BK234.out (by decide)) (fun k_ hk => ⟨hk.2, hk.1.2⟩))) (fun _ h_ => Or.inl h_)) (R_mono (R_tight rfl (R_mono (ok' := fun k_ => ((fun k_ => k_ ≠ gb234)) k_ ∧ some k_ ≠ (.slice Ao21 x233000_1.length co21 : Value).ownBlock) (R_types (R_apart' (HO246.out) (S_typed HO_233000.out) (by decide)) BK234.out (by decide)) (fun k_ hk => ⟨hk.2, hk.1.2⟩))) (fun _ h_ => Or.inr (h_))) (AP.ne_of (HO240.out) (HO246.out) (by first | exact .inl (fun k_ hk_ => by first | exact hk_ | exact hk_.1 | exact hk_.2 | exact hk_.1.1 | exact hk_.1.2 | exact hk_.2.1 | exact hk_.2.2) | exact .inr (fun k_ hk_ => by first | exact hk_ | exact hk_.1 | exact hk_.2 | exact hk_.1.1 | exact hk_.1.2 | exact hk_.2.1 | exact hk_.2.2))))
         (case aB => exact Zs)
         (case aF => exact (fun k_ hk => Kd.freshB (g := gb234) (o := .cells #[.string ((rd_T55 l0_0 x10_1).f0), .slice A233_1 ((rd_T55 l0_0 x10_1).f1).length c233_1, .slice A233_2 ((rd_T55 l0_0 x10_1).f2).length c233_2] 55 (0, 0)) Zk k_ hk))
         (case aO => exact (by (with_reducible repeat (first | apply S_alloc | apply S_drewN | apply S_drew)); exact S_mono HO_233000.out (fun k_ hk => ⟨hk.1.2, fun e_ => e_.elim (fun h_ => hk.1.1 h_) (fun h_ => hk.2 h_)⟩)))
         (case aS => exact (below_size Zs))
         (case aL => have := LMc15.out; omega)
         intro v248 w33 ho hb hg hat
         rw [← Ny247.out] at ho
         have n0_ := Zh (blk_grown (g := gb230) (o := .cells #[.slice (some ad233) l0_0.length c0_0] 28 (0, 0)) Zk hg (S_ne HO_233000.out BK230.out (by decide)))
         have n1_ := Zh (blk_grown (g := gb231) (o := .cells #[.slice none 0 0] 28 (0, 0)) Zk hg (S_ne HO_233000.out BK231.out (by decide)))
         have n2_ := Zh (blk_grown (g := gb232) (o := .cells #[.slice Ao21 x233000_1.length co21] 28 (0, 0)) Zk hg (S_ne HO_233000.out BK232.out (by decide)))
         have n3_ := Zh (blk_grown (g := gb234) (o := .cells #[.string ((rd_T55 l0_0 x10_1).f0), .slice A233_1 ((rd_T55 l0_0 x10_1).f1).length c233_1, .slice A233_2 ((rd_T55 l0_0 x10_1).f2).length c233_2] 55 (0, 0)) Zk hg (S_away HO_233000.out (fun _ hk => hk.1.2)))
         have n4_ := Zh (hb)
         have n5_ := Zh (ho)
         clear BK230
         clear BK231
         clear BK232
         clear BK234
         clear HB
         clear HO_233000
         clear HO240
         clear HO246
         have BK230 := n0_
         have BK231 := n1_
         have BK232 := n2_
         have BK234 := n3_
         have HB := n4_
         have HO249 := n5_
         clear n0_ n1_ n2_ n3_ n4_ n5_
         clear ho hb hg hat
         obtain ⟨Ao34, co34, eo34⟩ := S_slice HO249.out
         (first | subst eo34 | (injection eo34 with f1_ f2_ f3_; have f4_ := f1_.symm; have f5_ := f3_.symm; clear f1_ f2_ f3_; subst f4_; subst f5_))
         refine hK.out _ _ ⟨(blk_cell BK232.out 0).trans rfl, (blk_cell BK234.out 0).trans rfl, (blk_cell BK234.out 1).trans rfl, (blk_cell BK234.out 2).trans rfl⟩ (fun hHeld => ?_)
         clear hK K
         refine norm_ (a' := ?_) ?_ ?_
         rotate_left
         ·
          show Act.put _ (some 28) _ = _
          simp only [Act.put, List.setIfInBounds_toArray, List.set_cons_zero, List.set_cons_succ, i64_w, i32_w]
          rfl
         refine SQ.pu 15 29 HT_ ?_
         refine last_ (i := 16) (N := none) #[true, true, true, true, true, true, true, true, true, true, true, true, true, true, true, true, true] rfl rfl (one_of HT_.out (by kernel_rfl)) (by decide) (fun K hK => ?_)
         have hs35 : w33.cell? ⟨gb232, 0, none⟩ = some (.slice Ao21 x233000_1.length co21) := (blk_cell BK232.out 0).trans rfl
         have hfs35 := Zn BK232.out 0
         have hns35_0 := NB230_232.out
         have hns35_1 := NB231_232.out
         have hns35_3 := NB234_232.out
         have hms35_0 := NB232_230.out
         have hms35_1 := NB232_231.out
         have hms35_3 := NB232_234.out
         refine skip_ (w1 := ?_) (by rfl) rfl ?_ ?_
         rotate_left
         ·
          go_simp
          rfl
         refine hK.out _ _ ?_
         clear hK K
         refine done_ (done_of HT_.out (by kernel_rfl)) ?_
         try go_wp2
         go_roundg k1
         case measure => have := HK1.out; omega
         case rel => exact ⟨(wrap64 (x10_1 + 1)), (y247), (.slice Ao34 y247.length co34), (by first | rfl | (simp; done) | (simp [*]; done)), H', ⟨by have := HK1.out; omega⟩, ⟨by (with_reducible repeat (first | apply S_alloc | apply S_drewN | apply S_drew)); exact S_mono (S_far (p := ⟨gb232, 0, none⟩) (S_types HO249.out BK232.out (by decide)) (fun _ hk => hk.2) (.slice Ao34 y247.length co34)) (fun _ hk => trivial)⟩, ⟨by (with_reducible repeat (first | refine Za ?_ _ | refine Zb ?_ | refine blk_alloc ?_ _)); refine Zp ?_ NB230_232.out _; (with_reducible repeat (first | refine Za ?_ _ | refine Zb ?_ | refine blk_alloc ?_ _)); exact BK230.out⟩, ⟨by (with_reducible repeat (first | refine Za ?_ _ | refine Zb ?_ | refine blk_alloc ?_ _)); refine Zp ?_ NB231_232.out _; (with_reducible repeat (first | refine Za ?_ _ | refine Zb ?_ | refine blk_alloc ?_ _)); exact BK231.out⟩, ⟨by (with_reducible repeat (first | refine Za ?_ _ | refine Zb ?_ | refine blk_alloc ?_ _)); refine blk_put (cs := #[.slice Ao21 x233000_1.length co21]) ?_ 0 _ rfl; (with_reducible repeat (first | refine Za ?_ _ | refine Zb ?_ | refine blk_alloc ?_ _)); exact BK232.out⟩, ⟨by repeat (first | (with_reducible first | exact HB.out | apply Zf | apply Zd | apply Ze | refine Zg ?_ GE230.out | refine Zg ?_ GE231.out | refine Zg ?_ GE232.out | refine Zg ?_ GE234.out) | exact HB.out)⟩⟩
        rw [if_neg c15] at H
        exact absurd H (by simp)
       rw [if_neg c14] at H
       exact absurd H (by simp)
      rw [if_neg c13] at H
      exact absurd H (by simp)
     rw [if_neg c12] at H
     exact absurd H (by simp)
    rw [if_neg c11] at H
    exact absurd H (by simp)
   rw [if_neg c10] at H
   have c10b0 : decide (x10_1 < (l0_0.length : Int)) = false := decide_eq_false c10
   clear c10
   obtain rfl := Option.some.inj H
   have hnb36 := NB232_230.out
   have hnc36 := NB230_232.out
   have hnb37 := NB232_231.out
   have hnc37 := NB231_232.out
   have hcz38_0 : wr.cell? ⟨gb232, 0, none⟩ = some (u233000) := (blk_cell BK232.out 0).trans rfl
   have hfz38_0 := Zn BK232.out 0
   obtain ⟨Ao39, co39, eo39⟩ := S_slice HO_233000.out
   subst eo39
   have hnb40 := NB231_230.out
   have hnc40 := NB230_231.out
   have hcz41_0 : wr.cell? ⟨gb231, 0, none⟩ = some (.slice none 0 0) := (blk_cell BK231.out 0).trans rfl
   have hfz41_0 := Zn BK231.out 0
   go_wp2
   refine bodyPost_ret (results_cell_row rfl _ _ gb231 28 #[.slice Ao39 x233000_1.length co39] (0, 0) _ rfl (by (with_reducible repeat (first | refine Za ?_ _ | refine Zb ?_ | refine blk_alloc ?_ _)); refine blk_put (cs := #[.slice none 0 0]) ?_ 0 _ rfl; (with_reducible repeat (first | refine Za ?_ _ | refine Zb ?_ | refine blk_alloc ?_ _)); exact BK231.out) Tryd.underlying28 rfl (by kernel_rfl)) rfl ?_
   exact ⟨_, by first | rfl | (simp [errW_none, errW_some] <;> rfl) | (simp [*, errW_none, errW_some] <;> rfl), by (with_reducible repeat (first | apply S_alloc | apply S_drewN | apply S_drew)); exact S_mono (S_far (p := ⟨gb231, 0, none⟩) (S_types HO_233000.out BK231.out (by decide)) (fun _ hk => hk.2) (.slice Ao39 x233000_1.length co39)) (fun _ hk => trivial), by repeat (first | (with_reducible first | exact HB.out | apply Zf | apply Zd | apply Ze | refine Zg ?_ GE230.out | refine Zg ?_ GE231.out | refine Zg ?_ GE232.out) | exact HB.out)⟩
end Go.Proofs.YtcgojdhbphocgaaDoor.F

namespace Go.Proofs.YtcgojdhbphocgaaDoor.F
open Go.RowKit Go.Proofs.YtcgojdhbphocgaaDoorW.PrintWords Go.Proofs.YtcgojdhbphocgaaDoorW.PrintLast Go.Proofs.YtcgojdhbphocgaaDoorW.PrintMore
set_option linter.unusedVariables false
def lays160_ren : Go.Shelf.Ren := ⟨fun | 160 => 107 | 232 => 110 | 231 => 109 | 227 => 111 | 234 => 113 | 233 => 112 | 236 => 115 | 235 => 114 | 228 => 118 | 271 => 121 | 151 => 120 | 197 => 119 | 120 => 125 | 152 => 124 | 260 => 123 | 137 => 127 | 119 => 128 | 224 => 129 | 225 => 130 | 217 => 131 | 266 => 132 | n => n, fun | 9 => 9 | 4 => 4 | 3 => 3 | 5 => 5 | 117 => 113 | 116 => 112 | 0 => 0 | 124 => 116 | 21 => 21 | 105 => 119 | 46 => 107 | 119 => 124 | 139 => 127 | 138 => 126 | n => n, fun | 3 => 1 | 4 => 2 | n => n⟩
theorem lays160 : Go.Proofs.Lays.n160 Tryd.prog lays160_ren where
  mixed := by kernel_rfl
  f119 := Tryd.func128.trans (congrArg some (by kernel_rfl))
  f120 := Tryd.func125.trans (congrArg some (by kernel_rfl))
  f137 := Tryd.func127.trans (congrArg some (by kernel_rfl))
  f151 := Tryd.func120.trans (congrArg some (by kernel_rfl))
  f152 := Tryd.func124.trans (congrArg some (by kernel_rfl))
  f160 := Tryd.func107.trans (congrArg some (by kernel_rfl))
  f197 := Tryd.func119.trans (congrArg some (by kernel_rfl))
  f217 := Tryd.func131.trans (congrArg some (by kernel_rfl))
  f224 := Tryd.func129.trans (congrArg some (by kernel_rfl))
  f225 := Tryd.func130.trans (congrArg some (by kernel_rfl))
  f227 := Tryd.func111.trans (congrArg some (by kernel_rfl))
  f228 := Tryd.func118.trans (congrArg some (by kernel_rfl))
  f231 := Tryd.func109.trans (congrArg some (by kernel_rfl))
  f232 := Tryd.func110.trans (congrArg some (by kernel_rfl))
  f233 := Tryd.func112.trans (congrArg some (by kernel_rfl))
  f234 := Tryd.func113.trans (congrArg some (by kernel_rfl))
  f235 := Tryd.func114.trans (congrArg some (by kernel_rfl))
  f236 := Tryd.func115.trans (congrArg some (by kernel_rfl))
  f260 := Tryd.func123.trans (congrArg some (by kernel_rfl))
  f266 := Tryd.func132.trans (congrArg some (by kernel_rfl))
  f271 := Tryd.func121.trans (congrArg some (by kernel_rfl))
  t0 := Tryd.underlying0
  a0 := Tryd.isAgg0
  z0 := Tryd.sizeOf0
  v0 := Tryd.zeroValue0
  t3 := Tryd.underlying3
  a3 := Tryd.isAgg3
  z3 := Tryd.sizeOf3
  v3 := Tryd.zeroValue3
  t4 := Tryd.underlying4
  a4 := Tryd.isAgg4
  z4 := Tryd.sizeOf4
  v4 := Tryd.zeroValue4
  t5 := Tryd.underlying5
  a5 := Tryd.isAgg5
  z5 := Tryd.sizeOf5
  v5 := Tryd.zeroValue5
  t9 := Tryd.underlying9
  a9 := Tryd.isAgg9
  z9 := Tryd.sizeOf9
  v9 := Tryd.zeroValue9
  t21 := Tryd.underlying21
  a21 := Tryd.isAgg21
  z21 := Tryd.sizeOf21
  v21 := Tryd.zeroValue21
  t46 := Tryd.underlying107
  a46 := Tryd.isAgg107
  z46 := Tryd.sizeOf107
  v46 := Tryd.zeroValue107
  t105 := Tryd.underlying119
  a105 := Tryd.isAgg119
  z105 := Tryd.sizeOf119
  v105 := Tryd.zeroValue119
  t116 := Tryd.underlying112
  a116 := Tryd.isAgg112
  z116 := Tryd.sizeOf112
  t117 := Tryd.underlying113
  a117 := Tryd.isAgg113
  z117 := Tryd.sizeOf113
  v117 := Tryd.zeroValue113
  t119 := Tryd.underlying124
  a119 := Tryd.isAgg124
  z119 := Tryd.sizeOf124
  t124 := Tryd.underlying116
  a124 := Tryd.isAgg116
  z124 := Tryd.sizeOf116
  v124 := Tryd.zeroValue116
  t138 := Tryd.underlying126
  a138 := Tryd.isAgg126
  z138 := Tryd.sizeOf126
  v138 := Tryd.zeroValue126
  t139 := Tryd.underlying127
  a139 := Tryd.isAgg127
  z139 := Tryd.sizeOf127
  v139 := Tryd.zeroValue127
  g3 := by kernel_rfl
  g4 := by kernel_rfl
def trimF.f (s c : ByteArray) : Option ByteArray := if s.size ≤ 9223372036854775807 ∧ c.size < 4294967281 ∧ c.data.toList.all (fun b => decide (b.toNat < 128)) = true then some ⟨(Go.Lib.trimS s.data.toList c.data.toList).toArray⟩ else none
theorem trimF.calls (a0 a1 : ByteArray) (r : ByteArray) (w : World) (h : trimF.f a0 a1 = some r) :
    Calls Tryd.prog 107 #[.string a0, .string a1] w fun e w' => e = .returned (.string r) ∧ Below w.heap.size w w' := by
  unfold trimF.f at h
  split at h
  · rename_i hc
    have h := Option.some.inj h
    subst h
    exact Any.strings_Trim_laid lays160 (by kernel_rfl) a0 a1 w hc.1 hc.2.1 (ascii_of_all hc.2.2)
  cases h
end Go.Proofs.YtcgojdhbphocgaaDoor.F

namespace Go.Proofs.YtcgojdhbphocgaaDoor.F
open Go.RowKit Go.Proofs.YtcgojdhbphocgaaDoorW.PrintWords Go.Proofs.YtcgojdhbphocgaaDoorW.PrintWords.Kd Go.Proofs.YtcgojdhbphocgaaDoorW.PrintMore.Kd Go.Proofs.YtcgojdhbphocgaaDoorW.PrintLast Go.Proofs.YtcgojdhbphocgaaDoorW.PrintMore
attribute [local go_sem] max2_int min2_int max_two min_two max_three min_three max_four min_four   -- for this text's walks alone
set_option linter.unusedVariables false
set_option linter.unusedSimpArgs false
def impl_isFileName.f (a0 : ByteArray) : Option (Bool) := if (a0.size : Int) ≥ 1 then (if (a0.size : Int) ≤ 12 then ((trimF.f a0 (⟨#[97, 98, 99, 100, 101, 102, 103, 104, 105, 106, 107, 108, 109, 110, 111, 112, 113, 114, 115, 116, 117, 118, 119, 120, 121, 122, 48, 49, 50, 51, 52, 53, 54, 55, 56, 57]⟩ : ByteArray)).bind fun t251 => (some (t251.toList == ([] : List UInt8)))) else (some false)) else (some false)
set_option maxHeartbeats 8000000 in
set_option maxRecDepth 100000 in
theorem impl_isFileName.calls (a0 : ByteArray) (r : Bool) (w : World) (h : impl_isFileName.f a0 = some r) :
  Calls Tryd.prog 93 #[.string a0] w fun e w' => e = .returned (.bool r) ∧ Below w.heap.size w w' := by
 have HB := Zh (Below.refl w.heap.size w)
 have H : (if (a0.size : Int) ≥ 1 then (if (a0.size : Int) ≤ 12 then ((trimF.f a0 (⟨#[97, 98, 99, 100, 101, 102, 103, 104, 105, 106, 107, 108, 109, 110, 111, 112, 113, 114, 115, 116, 117, 118, 119, 120, 121, 122, 48, 49, 50, 51, 52, 53, 54, 55, 56, 57]⟩ : ByteArray)).bind fun t251 => (some (t251.toList == ([] : List UInt8)))) else (some false)) else (some false)) = some r := h
 clear h
 by_cases c2 : (a0.size : Int) ≥ 1
 ·
  rw [if_pos c2] at H
  have c2b0 : decide (1 ≤ (a0.size : Int)) = true := decide_eq_true c2
  have c2b1 : decide (1 ≤ a0.size) = true := decide_eq_true (by omega)
  clear c2
  by_cases c3 : (a0.size : Int) ≤ 12
  ·
   rw [if_pos c3] at H
   have c3b0 : decide ((a0.size : Int) ≤ 12) = true := decide_eq_true c3
   have c3b1 : decide (a0.size ≤ 12) = true := decide_eq_true (by omega)
   clear c3
   replace H := Option.bind_eq_some_iff.mp H
   obtain ⟨t251, A40, H⟩ := H
   replace H : (some (t251.toList == ([] : List UInt8))) = some r := H
   have A4 := Zh A40
   clear A40
   obtain rfl := Option.some.inj H
   go_enter Tryd.func93, Tryd.ntmps93
   go_wp2_with (first | (go_at_call 107; (with_reducible refine (trimF.calls a0 (⟨#[97, 98, 99, 100, 101, 102, 103, 104, 105, 106, 107, 108, 109, 110, 111, 112, 113, 114, 115, 116, 117, 118, 119, 120, 121, 122, 48, 49, 50, 51, 52, 53, 54, 55, 56, 57]⟩ : ByteArray) t251 _ A4.out).mono ?_); rintro e w5 ⟨rfl, hb⟩; have n0_ := Zh (Zl Zs hb); clear HB; have HB := n0_; clear n0_; (try clear hb); (try clear hb2); (try clear hk); (try clear hi)))
   go_ret
   exact ⟨by first | rfl | (simp [errW_none, errW_some] <;> rfl) | (simp [*, errW_none, errW_some] <;> rfl), by repeat (first | (with_reducible first | exact HB.out | apply Zf | apply Zd | apply Ze) | exact HB.out)⟩
  rw [if_neg c3] at H
  have c3b0 : decide ((a0.size : Int) ≤ 12) = false := decide_eq_false c3
  have c3b1 : decide (a0.size ≤ 12) = false := decide_eq_false (by omega)
  clear c3
  obtain rfl := Option.some.inj H
  go_enter Tryd.func93, Tryd.ntmps93
  go_wp2
  go_ret
  exact ⟨by first | rfl | (simp [errW_none, errW_some] <;> rfl) | (simp [*, errW_none, errW_some] <;> rfl), by repeat (first | (with_reducible first | exact HB.out | apply Zf | apply Zd | apply Ze) | exact HB.out)⟩
 rw [if_neg c2] at H
 have c2b0 : decide (1 ≤ (a0.size : Int)) = false := decide_eq_false c2
 have c2b1 : decide (1 ≤ a0.size) = false := decide_eq_false (by omega)
 clear c2
 obtain rfl := Option.some.inj H
 go_enter Tryd.func93, Tryd.ntmps93
 go_wp2
 go_ret
 exact ⟨by first | rfl | (simp [errW_none, errW_some] <;> rfl) | (simp [*, errW_none, errW_some] <;> rfl), by repeat (first | (with_reducible first | exact HB.out | apply Zf | apply Zd | apply Ze) | exact HB.out)⟩
end Go.Proofs.YtcgojdhbphocgaaDoor.F
