/- Merged texts below the law FnExactWalAppend: Go functions as Lean functions, their contracts, and plain lemmas. -/
import Derived.Test.YtcgojdhbphocgaaDoorQFnExactWalAppend13
import Derived.Laws.Cover1
import Derived.Test.YtcgojdhbphocgaaDoorProg
import Derived.Below
import Derived.Deep.Draws
import Derived.Deep.AppendLies
import Derived.Maps.AppendAt
import Derived.OwnWalk
import Derived.Laws.BytesArg
import Derived.Laws.MakeOwn
import Derived.Laws.OwnMore
import Derived.Deep.OwnRows
import Derived.Tactics
import Derived.Lib.ConvBytes
import Derived.Laws.Slices
import Derived.WalkKit
import Derived.KernelRfl
import Derived.RowKit3
import Derived.Deep.LoopGhost
import Derived.Deep.QuietTactic
import Derived.BigQuiet
import Derived.WideLaws
import Derived.Deep.DeepCutAuto
import Derived.Deep.CutBlock
import Derived.Deep.RegionHeld3
import Derived.Laws.Rows
import Derived.Lib.AppendStr
import Derived.ArgAppend
import Derived.Laws.IdiomCopy
import Derived.OrdersHeld
import Derived.Laws.BitsLemmas
import Derived.RowKit
import Derived.Test.YtcgojdhbphocgaaDoorVFnExactWalAppendWords
import Derived.Test.YtcgojdhbphocgaaDoorVFnExactWalAppendLast
import Derived.Test.YtcgojdhbphocgaaDoorVFnExactWalAppendTab
import Derived.Test.YtcgojdhbphocgaaDoorVFnExactWalAppendFour
import Derived.Test.YtcgojdhbphocgaaDoorVFnExactWalAppendQPut
import Derived.Test.YtcgojdhbphocgaaDoorVFnExactWalAppendApart
import Derived.Test.YtcgojdhbphocgaaDoorVFnExactWalAppendArr
import Derived.Test.YtcgojdhbphocgaaDoorVFnExactWalAppendZeros
import Derived.Test.YtcgojdhbphocgaaDoorVFnExactWalAppendFoot
import Derived.Test.YtcgojdhbphocgaaDoorVFnExactWalAppendKept
import Derived.Test.YtcgojdhbphocgaaDoorVFnExactWalAppendShare
import Derived.Test.YtcgojdhbphocgaaDoorVFnExactWalAppendN
import Derived.Test.YtcgojdhbphocgaaDoorVFnExactWalAppendFootNe
import Derived.Test.YtcgojdhbphocgaaDoorVFnExactWalAppendAt
import Derived.Test.YtcgojdhbphocgaaDoorVFnExactWalAppendEqStruct
import Derived.Test.YtcgojdhbphocgaaDoorVFnExactWalAppendRepsOne
import Derived.Test.YtcgojdhbphocgaaDoorVFnExactWalAppendInv
import Derived.Test.YtcgojdhbphocgaaDoorVFnExactWalAppendInvWords
import Derived.Test.YtcgojdhbphocgaaDoorVFnExactWalAppendGuard
import Derived.Test.YtcgojdhbphocgaaDoorVFnExactWalAppendNEv
import Derived.Test.YtcgojdhbphocgaaDoorVFnExactWalAppendMore
namespace Go.Proofs.YtcgojdhbphocgaaDoor.F
open Go.Proofs.YtcgojdhbphocgaaDoor
open Go.RowKit Go.Proofs.YtcgojdhbphocgaaDoorW.PrintWords Go.Proofs.YtcgojdhbphocgaaDoorW.PrintWords.Kd Go.Proofs.YtcgojdhbphocgaaDoorW.PrintMore.Kd Go.Proofs.YtcgojdhbphocgaaDoorW.PrintLast Go.Proofs.YtcgojdhbphocgaaDoorW.PrintMore
attribute [local go_sem] max2_int min2_int max_two min_two max_three min_three max_four min_four   -- for this text's walks alone
set_option linter.unusedVariables false
set_option linter.unusedSimpArgs false
def errW : Option Int → Value
 | none => .nilIface
 | some c => .iface 0 (.int .i64 c)
theorem errW_none : errW none = .nilIface := rfl
theorem errW_some (c : Int) : errW (some c) = .iface 0 (.int .i64 c) := rfl
theorem info5 : (Tryd.prog.info? 5).map (fun i => (i.zero, i.size, i.bytes)) = some (some (.int .u8 0), 1, 1) := by kernel_rfl
theorem info55 : (Tryd.prog.info? 55).map (fun i => (i.zero, i.size, i.bytes)) = some (some (.agg #[(.string ⟨#[]⟩), (.slice none 0 0), (.slice none 0 0)]), 3, 64) := by kernel_rfl
structure S83 where
 f0 : ByteArray
 f1 : (List Int)
 f2 : (List Int)
def z83 : S83 := ⟨(⟨#[]⟩ : ByteArray), ([] : List Int), ([] : List Int)⟩
def k83 : Kd S83 := Kd.iso (Kd.pair Kd.string (Kd.pair (Kd.slice 5 (Kd.int .u8)) (Kd.slice 5 (Kd.int .u8)))) (fun x : S83 => (x.f0, x.f1, x.f2))
theorem k83_open {w : World} {x : S83} {cs : List Value} (h : k83.K w x cs) : ∃ A1 c1 A2 c2, cs = [.string x.f0, .slice A1 x.f1.length c1, .slice A2 x.f2.length c2] ∧ x.f1.length ≤ c1 ∧ (Kd.int .u8).C w A1 x.f1.length x.f1 ∧ x.f2.length ≤ c2 ∧ (Kd.int .u8).C w A2 x.f2.length x.f2 := by
 obtain ⟨_, _, rfl, rfl, ⟨_, _, rfl, ⟨A1, c1, rfl, l1, g1⟩, ⟨A2, c2, rfl, l2, g2⟩⟩⟩ := h
 exact ⟨A1, c1, A2, c2, rfl, l1, g1, l2, g2⟩
def rd_T83 (xs : List S83) (i : Int) : S83 := xs.getD i.toNat z83
theorem at_T83 {w : World} {A : Option Addr} {n : Nat} {xs : List S83} (h : Kd.C k83 w A n xs) (i : Int) (h0 : 0 ≤ i) (h1 : i < n) : ∃ ad A1 c1 A2 c2, A = some ad ∧ w.cell? (ad.add (i.toNat * 3)) = some (.string (rd_T83 xs i).f0) ∧ w.cell? ⟨(ad.add (i.toNat * 3)).block, (ad.add (i.toNat * 3)).off + 1, none⟩ = some (.slice A1 (rd_T83 xs i).f1.length c1) ∧ w.cell? ⟨(ad.add (i.toNat * 3)).block, (ad.add (i.toNat * 3)).off + 2, none⟩ = some (.slice A2 (rd_T83 xs i).f2.length c2) ∧ (rd_T83 xs i).f1.length ≤ c1 ∧ (Kd.int .u8).C w A1 (rd_T83 xs i).f1.length (rd_T83 xs i).f1 ∧ (rd_T83 xs i).f2.length ≤ c2 ∧ (Kd.int .u8).C w A2 (rd_T83 xs i).f2.length (rd_T83 xs i).f2 := by
 obtain ⟨ad, c, e, _, hK, hc0⟩ := C_get h z83 i h0 h1
 have hc : ∀ j u, c[j]? = some u → w.cell? (ad.add (i.toNat * 3 + j)) = some u := hc0
 obtain ⟨A1, c1, A2, c2, rfl, l1, g1, l2, g2⟩ := k83_open hK
 exact ⟨ad, A1, c1, A2, c2, e, hc 0 _ rfl, by rw [← add_field _ _ 1 (by omega)]; exact hc 1 _ rfl, by rw [← add_field _ _ 2 (by omega)]; exact hc 2 _ rfl, l1, g1, l2, g2⟩
structure S55 where
 f0 : ByteArray
 f1 : (List Int)
 f2 : (List Int)
def z55 : S55 := ⟨(⟨#[]⟩ : ByteArray), ([] : List Int), ([] : List Int)⟩
def k55 : Kd S55 := Kd.iso (Kd.pair Kd.string (AP.apair (Kd.slice 5 (Kd.int .u8)) (Kd.slice 5 (Kd.int .u8)))) (fun x : S55 => (x.f0, x.f1, x.f2))
theorem k55_open {w : World} {x : S55} {cs : List Value} (h : k55.K w x cs) : ∃ A1 c1 A2 c2, cs = [.string x.f0, .slice A1 x.f1.length c1, .slice A2 x.f2.length c2] ∧ x.f1.length ≤ c1 ∧ (Kd.int .u8).C w A1 x.f1.length x.f1 ∧ x.f2.length ≤ c2 ∧ (Kd.int .u8).C w A2 x.f2.length x.f2 := by
 obtain ⟨_, _, rfl, rfl, ⟨_, _, rfl, ⟨A1, c1, rfl, l1, g1⟩, ⟨A2, c2, rfl, l2, g2⟩⟩⟩ := h
 exact ⟨A1, c1, A2, c2, rfl, l1, g1, l2, g2⟩
theorem k55_openM {w : World} {base : Nat} {ok : Nat → Prop} {x : S55} {cs : List Value} (h : k55.M w base ok x cs) : ∃ v1 v2, cs = [.string x.f0, v1, v2] ∧ (Kd.int .u8).R 5 w base ok v1 x.f1 ∧ (Kd.int .u8).R 5 w base ok v2 x.f2 := by
 obtain ⟨_, _, rfl, rfl, ⟨_, _, rfl, p, ⟨v1, rfl, g1⟩, ⟨v2, rfl, g2⟩⟩⟩ := h
 exact ⟨v1, v2, rfl, R_mono g1 (fun _ hk => hk.1), R_mono g2 (fun _ hk => hk.1)⟩
theorem k55_openA {w : World} {base : Nat} {ok : Nat → Prop} {x : S55} {cs : List Value} (h : k55.M w base ok x cs) : ∃ p : Nat → Prop, ∃ v1 v2, cs = [.string x.f0, v1, v2] ∧ (Kd.int .u8).R 5 w base (fun k => ok k ∧ p k) v1 x.f1 ∧ (Kd.int .u8).R 5 w base (fun k => ok k ∧ ¬ p k) v2 x.f2 := by
 obtain ⟨_, _, rfl, rfl, ⟨_, _, rfl, p, ⟨v1, rfl, g1⟩, ⟨v2, rfl, g2⟩⟩⟩ := h
 exact ⟨p, v1, v2, rfl, g1, g2⟩
theorem k55_mk (w : World) (x : S55) {A1 : Option Addr} {c1 : Nat} (l1 : x.f1.length ≤ c1) (g1 : (Kd.int .u8).C w A1 x.f1.length x.f1) {A2 : Option Addr} {c2 : Nat} (l2 : x.f2.length ≤ c2) (g2 : (Kd.int .u8).C w A2 x.f2.length x.f2) : k55.K w x [.string x.f0, .slice A1 x.f1.length c1, .slice A2 x.f2.length c2] := ⟨[.string x.f0], [.slice A1 x.f1.length c1, .slice A2 x.f2.length c2], rfl, rfl, ⟨[.slice A1 x.f1.length c1], [.slice A2 x.f2.length c2], rfl, ⟨A1, c1, rfl, l1, g1⟩, ⟨A2, c2, rfl, l2, g2⟩⟩⟩
theorem k55_mkM (w : World) (base : Nat) (ok : Nat → Prop) (x : S55) {v1 : Value} (g1 : (Kd.int .u8).R 5 w base ok v1 x.f1) {v2 : Value} (g2 : (Kd.int .u8).R 5 w base ok v2 x.f2) (hne : ∀ k, some k = v1.ownBlock → ¬ some k = v2.ownBlock) : k55.M w base ok x [.string x.f0, v1, v2] := ⟨[.string x.f0], [v1, v2], rfl, rfl, ⟨[v1], [v2], rfl, _, ⟨v1, rfl, (AP.split_of rfl rfl g1 g2 hne).1⟩, ⟨v2, rfl, (AP.split_of rfl rfl g1 g2 hne).2⟩⟩⟩
theorem k55_openF {W : World} {ok : Nat → Prop} {x : S55} {cs : List Value} (h : Kd.FK k55 W ok x cs) : ∃ A1 c1 A2 c2, cs = [.string x.f0, .slice A1 x.f1.length c1, .slice A2 x.f2.length c2] ∧ x.f1.length ≤ c1 ∧ Kd.F (Kd.int .u8) W ok A1 x.f1.length x.f1 ∧ x.f2.length ≤ c2 ∧ Kd.F (Kd.int .u8) W ok A2 x.f2.length x.f2 := by
 obtain ⟨A1, c1, A2, c2, rfl, l1, _, l2, _⟩ := k55_open (FK_now h)
 exact ⟨A1, c1, A2, c2, rfl, l1, (fun W' hW => by obtain ⟨A1_, c1_, A2_, c2_, he, l1_, g1_, l2_, g2_⟩ := k55_open (h W' hW); injection (Option.some.inj (show some (Value.slice A1 x.f1.length c1) = some (Value.slice A1_ x.f1.length c1_) from congrArg (fun l => l[1]?) he)) with ha_ _ _; rw [ha_]; exact g1_), l2, (fun W' hW => by obtain ⟨A1_, c1_, A2_, c2_, he, l1_, g1_, l2_, g2_⟩ := k55_open (h W' hW); injection (Option.some.inj (show some (Value.slice A2 x.f2.length c2) = some (Value.slice A2_ x.f2.length c2_) from congrArg (fun l => l[2]?) he)) with ha_ _ _; rw [ha_]; exact g2_)⟩
theorem k55_mkF (W : World) (ok : Nat → Prop) (x : S55) {A1 : Option Addr} {c1 : Nat} (l1 : x.f1.length ≤ c1) (g1 : Kd.F (Kd.int .u8) W ok A1 x.f1.length x.f1) {A2 : Option Addr} {c2 : Nat} (l2 : x.f2.length ≤ c2) (g2 : Kd.F (Kd.int .u8) W ok A2 x.f2.length x.f2) : Kd.FK k55 W ok x [.string x.f0, .slice A1 x.f1.length c1, .slice A2 x.f2.length c2] := fun W2 hW => k55_mk W2 x l1 (g1 W2 hW) l2 (g2 W2 hW)
def rd_T55 (xs : List S55) (i : Int) : S55 := xs.getD i.toNat z55
theorem at_T55 {w : World} {A : Option Addr} {n : Nat} {xs : List S55} (h : Kd.C k55 w A n xs) (i : Int) (h0 : 0 ≤ i) (h1 : i < n) : ∃ ad A1 c1 A2 c2, A = some ad ∧ w.cell? (ad.add (i.toNat * 3)) = some (.string (rd_T55 xs i).f0) ∧ w.cell? ⟨(ad.add (i.toNat * 3)).block, (ad.add (i.toNat * 3)).off + 1, none⟩ = some (.slice A1 (rd_T55 xs i).f1.length c1) ∧ w.cell? ⟨(ad.add (i.toNat * 3)).block, (ad.add (i.toNat * 3)).off + 2, none⟩ = some (.slice A2 (rd_T55 xs i).f2.length c2) ∧ (rd_T55 xs i).f1.length ≤ c1 ∧ (Kd.int .u8).C w A1 (rd_T55 xs i).f1.length (rd_T55 xs i).f1 ∧ (rd_T55 xs i).f2.length ≤ c2 ∧ (Kd.int .u8).C w A2 (rd_T55 xs i).f2.length (rd_T55 xs i).f2 := by
 obtain ⟨ad, c, e, _, hK, hc0⟩ := C_get h z55 i h0 h1
 have hc : ∀ j u, c[j]? = some u → w.cell? (ad.add (i.toNat * 3 + j)) = some u := hc0
 obtain ⟨A1, c1, A2, c2, rfl, l1, g1, l2, g2⟩ := k55_open hK
 exact ⟨ad, A1, c1, A2, c2, e, hc 0 _ rfl, by rw [← add_field _ _ 1 (by omega)]; exact hc 1 _ rfl, by rw [← add_field _ _ 2 (by omega)]; exact hc 2 _ rfl, l1, g1, l2, g2⟩
theorem Zs {n : Nat} {w w1 : World} (h : Below n w w1 := by repeat (first | (with_reducible first | exact HB.out | apply below_alloc | apply pw_below_drewN | apply below_drew1) | refine below_set ?_ (Aside0.out (by assumption)) | exact HB.out)) : Below n w w1 := h
theorem Zk {w : World} {g : Nat} {o : Obj} (h : w.heap[g]? = some o := by (with_reducible repeat (first | refine blk_drewN ?_ _ | refine blk_drew ?_ | refine blk_alloc ?_ _)); exact Aside0.out (by assumption)) : w.heap[g]? = some o := h
theorem Zo {p : Prop} [Decidable p] (h : decide p = true := by first | (with_reducible assumption) | assumption) : p := of_decide_eq_true h
theorem Zc {w w1 : World} {a : Addr} {v : Value} (hb : Below w.heap.size w w1) (h : w.cell? a = some v) : w1.cell? a = some v := (hb.cell (World.block_lt_of_cell? w _ h)).trans h
abbrev Za := @blk_drewN
abbrev Zb := @blk_drew
abbrev Zd := @pw_below_drewN
abbrev Ze := @below_drew1
abbrev Zf := @below_alloc
abbrev Zg := @below_set
abbrev Zh := @Aside0.mk
abbrev Zi := @World.block_lt_of_cell?
abbrev Zl := @below_step
abbrev Zm := @blk_below
abbrev Zn := @blk_frozen
abbrev Zp := @blk_far
end Go.Proofs.YtcgojdhbphocgaaDoor.F

namespace Go.Proofs.YtcgojdhbphocgaaDoor.F
open Go.RowKit Go.Proofs.YtcgojdhbphocgaaDoorW.PrintWords Go.Proofs.YtcgojdhbphocgaaDoorW.PrintWords.Kd Go.Proofs.YtcgojdhbphocgaaDoorW.PrintMore.Kd Go.Proofs.YtcgojdhbphocgaaDoorW.PrintLast Go.Proofs.YtcgojdhbphocgaaDoorW.PrintMore
attribute [local go_sem] max2_int min2_int max_two min_two max_three min_three max_four min_four   -- for this text's walks alone
set_option linter.unusedVariables false
set_option linter.unusedSimpArgs false
def laws_szByteS.f (l0 : List Int) (a1 : Int) : Option (Int) := if (wrap64 (a1 - (l0.length : Int))) < 0 then (some (-1)) else (some (wrap64 (a1 - (l0.length : Int))))
set_option maxHeartbeats 8000000 in
set_option maxRecDepth 100000 in
theorem laws_szByteS.calls (A0 : Option Addr) (c0 : Nat) (l0 : List Int) (a1 : Int) (r : Int) (w : World) (hr0 : Kd.C (Kd.int .u8) w A0 l0.length l0) (hc0 : l0.length ≤ c0) (h : laws_szByteS.f l0 a1 = some r) :
  Calls Tryd.prog 104 #[.slice A0 l0.length c0, .int .i64 a1] w fun e w' => e = .returned (.int .i64 r) ∧ Drawn0 w w' := by
 have HR0 := Zh hr0
 have HC0 := Zh hc0
 clear hr0 hc0
 have H : (if (wrap64 (a1 - (l0.length : Int))) < 0 then (some (-1)) else (some (wrap64 (a1 - (l0.length : Int))))) = some r := h
 clear h
 by_cases c3 : (wrap64 (a1 - (l0.length : Int))) < 0
 ·
  rw [if_pos c3] at H
  have c3b0 : decide ((wrap64 (a1 - (l0.length : Int))) < 0) = true := decide_eq_true c3
  clear c3
  obtain rfl := Option.some.inj H
  go_enter Tryd.func104, Tryd.ntmps104
  go_wp2
  go_ret
  exact ⟨by first | rfl | (simp; done) | (simp [*]; done), by repeat (first | exact Drawn0.refl _ | apply Drawn0.step)⟩
 rw [if_neg c3] at H
 have c3b0 : decide ((wrap64 (a1 - (l0.length : Int))) < 0) = false := decide_eq_false c3
 clear c3
 obtain rfl := Option.some.inj H
 go_enter Tryd.func104, Tryd.ntmps104
 go_wp2
 go_ret
 exact ⟨by first | rfl | (simp; done) | (simp [*]; done), by repeat (first | exact Drawn0.refl _ | apply Drawn0.step)⟩
def laws_szFile.f (a0_0 : ByteArray) (l0_1 : List Int) (l0_2 : List Int) (a1 : Int) : Option (Int) := if (wrap64 (a1 - (a0_0.size : Int))) < 0 then (some (-1)) else ((laws_szByteS.f l0_1 (wrap64 (a1 - (a0_0.size : Int)))).bind fun t102 => (if t102 < 0 then (some (-1)) else ((laws_szByteS.f l0_2 t102).bind fun t103 => (if t103 < 0 then (some (-1)) else (some t103)))))
set_option maxHeartbeats 8000000 in
set_option maxRecDepth 100000 in
theorem laws_szFile.calls (a0_0 : ByteArray) (A0_1 : Option Addr) (c0_1 : Nat) (l0_1 : List Int) (A0_2 : Option Addr) (c0_2 : Nat) (l0_2 : List Int) (a1 : Int) (r : Int) (w : World) (hr0_1 : Kd.C (Kd.int .u8) w A0_1 l0_1.length l0_1) (hc0_1 : l0_1.length ≤ c0_1) (hr0_2 : Kd.C (Kd.int .u8) w A0_2 l0_2.length l0_2) (hc0_2 : l0_2.length ≤ c0_2) (h : laws_szFile.f a0_0 l0_1 l0_2 a1 = some r) :
  Calls Tryd.prog 76 #[.agg #[.string a0_0, .slice A0_1 l0_1.length c0_1, .slice A0_2 l0_2.length c0_2], .int .i64 a1] w fun e w' => e = .returned (.int .i64 r) ∧ Below w.heap.size w w' := by
 have hu83 := Tryd.underlying83
 have HR0_1 := Zh hr0_1
 have HC0_1 := Zh hc0_1
 clear hr0_1 hc0_1
 have HR0_2 := Zh hr0_2
 have HC0_2 := Zh hc0_2
 clear hr0_2 hc0_2
 have HB := Zh (Below.refl w.heap.size w)
 have H : (if (wrap64 (a1 - (a0_0.size : Int))) < 0 then (some (-1)) else ((laws_szByteS.f l0_1 (wrap64 (a1 - (a0_0.size : Int)))).bind fun t102 => (if t102 < 0 then (some (-1)) else ((laws_szByteS.f l0_2 t102).bind fun t103 => (if t103 < 0 then (some (-1)) else (some t103)))))) = some r := h
 clear h
 by_cases c3 : (wrap64 (a1 - (a0_0.size : Int))) < 0
 ·
  rw [if_pos c3] at H
  have c3b0 : decide ((wrap64 (a1 - (a0_0.size : Int))) < 0) = true := decide_eq_true c3
  clear c3
  obtain rfl := Option.some.inj H
  go_enter Tryd.func76, Tryd.ntmps76
  go_wp2_with (first | ((with_reducible refine gate_dst (N := 2) rfl ?_); refine box_event ?hg (N := 2) ?hd (cs := #[.string a0_0, .slice A0_1 l0_1.length c0_1, .slice A0_2 l0_2.length c0_2]) (t := 83) ?hr ?_; (case hd => rfl); (case hg => rfl); (case hr => first | (go_simp; done) | (go_simp; rfl)); intro gb101 hg w4 hbox hb; have n0_ := Zh (Zl Zs hb); have n1_ := Zh (hbox); have n2_ := Zh ((by rw [hg]; exact (below_size Zs) : w.heap.size ≤ gb101)); have n3_ := Zh ((by rw [hg]; exact (below_size Zs) : w.heap.size ≤ gb101)); clear HB; have HB := n0_; have BK101 := n1_; have GW101 := n2_; have GE101 := n3_; clear n0_ n1_ n2_ n3_; clear hb hbox hg; have hcz5_0 : w4.cell? ⟨gb101, 0, none⟩ = some (.string a0_0) := (blk_cell BK101.out 0).trans rfl; have hcz5_1 : w4.cell? ⟨gb101, 1, none⟩ = some (.slice A0_1 l0_1.length c0_1) := (blk_cell BK101.out 1).trans rfl; have hcz5_2 : w4.cell? ⟨gb101, 2, none⟩ = some (.slice A0_2 l0_2.length c0_2) := (blk_cell BK101.out 2).trans rfl; have hfz5_0 := Zn BK101.out 0; have hfz5_1 := Zn BK101.out 1; have hfz5_2 := Zn BK101.out 2))
  go_ret
  exact ⟨by first | rfl | (simp [errW_none, errW_some] <;> rfl) | (simp [*, errW_none, errW_some] <;> rfl), by repeat (first | (with_reducible first | exact HB.out | apply Zf | apply Zd | apply Ze | refine Zg ?_ GE101.out) | exact HB.out)⟩
 rw [if_neg c3] at H
 have c3b0 : decide ((wrap64 (a1 - (a0_0.size : Int))) < 0) = false := decide_eq_false c3
 clear c3
 replace H := Option.bind_eq_some_iff.mp H
 obtain ⟨t102, A60, H⟩ := H
 replace H : (if t102 < 0 then (some (-1)) else ((laws_szByteS.f l0_2 t102).bind fun t103 => (if t103 < 0 then (some (-1)) else (some t103)))) = some r := H
 have A6 := Zh A60
 clear A60
 by_cases c7 : t102 < 0
 ·
  rw [if_pos c7] at H
  have c7b0 : decide (t102 < 0) = true := decide_eq_true c7
  clear c7
  obtain rfl := Option.some.inj H
  go_enter Tryd.func76, Tryd.ntmps76
  go_wp2_with (first | ((with_reducible refine gate_dst (N := 2) rfl ?_); refine box_event ?hg (N := 2) ?hd (cs := #[.string a0_0, .slice A0_1 l0_1.length c0_1, .slice A0_2 l0_2.length c0_2]) (t := 83) ?hr ?_; (case hd => rfl); (case hg => rfl); (case hr => first | (go_simp; done) | (go_simp; rfl)); intro gb101 hg w8 hbox hb; have n0_ := Zh (Zl Zs hb); have n1_ := Zh (hbox); have n2_ := Zh ((by rw [hg]; exact (below_size Zs) : w.heap.size ≤ gb101)); have n3_ := Zh ((by rw [hg]; exact (below_size Zs) : w.heap.size ≤ gb101)); clear HB; have HB := n0_; have BK101 := n1_; have GW101 := n2_; have GE101 := n3_; clear n0_ n1_ n2_ n3_; clear hb hbox hg; have hcz9_0 : w8.cell? ⟨gb101, 0, none⟩ = some (.string a0_0) := (blk_cell BK101.out 0).trans rfl; have hcz9_1 : w8.cell? ⟨gb101, 1, none⟩ = some (.slice A0_1 l0_1.length c0_1) := (blk_cell BK101.out 1).trans rfl; have hcz9_2 : w8.cell? ⟨gb101, 2, none⟩ = some (.slice A0_2 l0_2.length c0_2) := (blk_cell BK101.out 2).trans rfl; have hfz9_0 := Zn BK101.out 0; have hfz9_1 := Zn BK101.out 1; have hfz9_2 := Zn BK101.out 2) | ((with_reducible refine gate_callee (f := 104) rfl ?_); refine goesL_ (some 15) rfl rfl Tryd.func104 (by kernel_rfl) rfl #[.slice A0_1 l0_1.length c0_1, .int .i64 (wrap64 (a1 - (a0_0.size : Int)))] rfl (by (try simp only [List.map_toArray, List.map_cons, List.map_nil]); first | done | rfl | (simp only [List.length_drop, List.length_take]; rfl)) ?_; (with_reducible refine (laws_szByteS.calls _ _ l0_1 (wrap64 (a1 - (a0_0.size : Int))) t102 _ ?side1 ?side2 A6.out).mono ?_); (case side1 => repeat (first | exact (C_below HR0_1.out HB.out) | (with_reducible refine C_alloc ?_ _) | (with_reducible refine C_drewN ?_ _) | (with_reducible refine C_drew ?_))); (case side2 => exact HC0_1.out); rintro e w' ⟨rfl, ⟨nd, rfl⟩⟩; refine ⟨_, rfl, ?_⟩))
  go_ret
  exact ⟨by first | rfl | (simp [errW_none, errW_some] <;> rfl) | (simp [*, errW_none, errW_some] <;> rfl), by repeat (first | (with_reducible first | exact HB.out | apply Zf | apply Zd | apply Ze | refine Zg ?_ GE101.out) | exact HB.out)⟩
 rw [if_neg c7] at H
 have c7b0 : decide (t102 < 0) = false := decide_eq_false c7
 clear c7
 replace H := Option.bind_eq_some_iff.mp H
 obtain ⟨t103, A100, H⟩ := H
 replace H : (if t103 < 0 then (some (-1)) else (some t103)) = some r := H
 have A10 := Zh A100
 clear A100
 by_cases c11 : t103 < 0
 ·
  rw [if_pos c11] at H
  have c11b0 : decide (t103 < 0) = true := decide_eq_true c11
  clear c11
  obtain rfl := Option.some.inj H
  go_enter Tryd.func76, Tryd.ntmps76
  go_wp2_with (first | ((with_reducible refine gate_dst (N := 2) rfl ?_); refine box_event ?hg (N := 2) ?hd (cs := #[.string a0_0, .slice A0_1 l0_1.length c0_1, .slice A0_2 l0_2.length c0_2]) (t := 83) ?hr ?_; (case hd => rfl); (case hg => rfl); (case hr => first | (go_simp; done) | (go_simp; rfl)); intro gb101 hg w12 hbox hb; have n0_ := Zh (Zl Zs hb); have n1_ := Zh (hbox); have n2_ := Zh ((by rw [hg]; exact (below_size Zs) : w.heap.size ≤ gb101)); have n3_ := Zh ((by rw [hg]; exact (below_size Zs) : w.heap.size ≤ gb101)); clear HB; have HB := n0_; have BK101 := n1_; have GW101 := n2_; have GE101 := n3_; clear n0_ n1_ n2_ n3_; clear hb hbox hg; have hcz13_0 : w12.cell? ⟨gb101, 0, none⟩ = some (.string a0_0) := (blk_cell BK101.out 0).trans rfl; have hcz13_1 : w12.cell? ⟨gb101, 1, none⟩ = some (.slice A0_1 l0_1.length c0_1) := (blk_cell BK101.out 1).trans rfl; have hcz13_2 : w12.cell? ⟨gb101, 2, none⟩ = some (.slice A0_2 l0_2.length c0_2) := (blk_cell BK101.out 2).trans rfl; have hfz13_0 := Zn BK101.out 0; have hfz13_1 := Zn BK101.out 1; have hfz13_2 := Zn BK101.out 2) | ((with_reducible refine gate_callee (f := 104) rfl ?_); refine goesL_ (some 15) rfl rfl Tryd.func104 (by kernel_rfl) rfl #[.slice A0_1 l0_1.length c0_1, .int .i64 (wrap64 (a1 - (a0_0.size : Int)))] rfl (by (try simp only [List.map_toArray, List.map_cons, List.map_nil]); first | done | rfl | (simp only [List.length_drop, List.length_take]; rfl)) ?_; (with_reducible refine (laws_szByteS.calls _ _ l0_1 (wrap64 (a1 - (a0_0.size : Int))) t102 _ ?side1 ?side2 A6.out).mono ?_); (case side1 => repeat (first | exact (C_below HR0_1.out HB.out) | (with_reducible refine C_alloc ?_ _) | (with_reducible refine C_drewN ?_ _) | (with_reducible refine C_drew ?_))); (case side2 => exact HC0_1.out); rintro e w' ⟨rfl, ⟨nd, rfl⟩⟩; refine ⟨_, rfl, ?_⟩) | ((with_reducible refine gate_callee (f := 104) rfl ?_); refine goesL_ (some 21) rfl rfl Tryd.func104 (by kernel_rfl) rfl #[.slice A0_2 l0_2.length c0_2, .int .i64 t102] rfl (by (try simp only [List.map_toArray, List.map_cons, List.map_nil]); first | done | rfl | (simp only [List.length_drop, List.length_take]; rfl)) ?_; (with_reducible refine (laws_szByteS.calls _ _ l0_2 t102 t103 _ ?side1 ?side2 A10.out).mono ?_); (case side1 => repeat (first | exact (C_below HR0_2.out Zs) | (with_reducible refine C_alloc ?_ _) | (with_reducible refine C_drewN ?_ _) | (with_reducible refine C_drew ?_))); (case side2 => exact HC0_2.out); rintro e w' ⟨rfl, ⟨nd, rfl⟩⟩; refine ⟨_, rfl, ?_⟩))
  go_ret
  exact ⟨by first | rfl | (simp [errW_none, errW_some] <;> rfl) | (simp [*, errW_none, errW_some] <;> rfl), by repeat (first | (with_reducible first | exact HB.out | apply Zf | apply Zd | apply Ze | refine Zg ?_ GE101.out) | exact HB.out)⟩
 rw [if_neg c11] at H
 have c11b0 : decide (t103 < 0) = false := decide_eq_false c11
 clear c11
 obtain rfl := Option.some.inj H
 go_enter Tryd.func76, Tryd.ntmps76
 go_wp2_with (first | ((with_reducible refine gate_dst (N := 2) rfl ?_); refine box_event ?hg (N := 2) ?hd (cs := #[.string a0_0, .slice A0_1 l0_1.length c0_1, .slice A0_2 l0_2.length c0_2]) (t := 83) ?hr ?_; (case hd => rfl); (case hg => rfl); (case hr => first | (go_simp; done) | (go_simp; rfl)); intro gb101 hg w14 hbox hb; have n0_ := Zh (Zl Zs hb); have n1_ := Zh (hbox); have n2_ := Zh ((by rw [hg]; exact (below_size Zs) : w.heap.size ≤ gb101)); have n3_ := Zh ((by rw [hg]; exact (below_size Zs) : w.heap.size ≤ gb101)); clear HB; have HB := n0_; have BK101 := n1_; have GW101 := n2_; have GE101 := n3_; clear n0_ n1_ n2_ n3_; clear hb hbox hg; have hcz15_0 : w14.cell? ⟨gb101, 0, none⟩ = some (.string a0_0) := (blk_cell BK101.out 0).trans rfl; have hcz15_1 : w14.cell? ⟨gb101, 1, none⟩ = some (.slice A0_1 l0_1.length c0_1) := (blk_cell BK101.out 1).trans rfl; have hcz15_2 : w14.cell? ⟨gb101, 2, none⟩ = some (.slice A0_2 l0_2.length c0_2) := (blk_cell BK101.out 2).trans rfl; have hfz15_0 := Zn BK101.out 0; have hfz15_1 := Zn BK101.out 1; have hfz15_2 := Zn BK101.out 2) | ((with_reducible refine gate_callee (f := 104) rfl ?_); refine goesL_ (some 15) rfl rfl Tryd.func104 (by kernel_rfl) rfl #[.slice A0_1 l0_1.length c0_1, .int .i64 (wrap64 (a1 - (a0_0.size : Int)))] rfl (by (try simp only [List.map_toArray, List.map_cons, List.map_nil]); first | done | rfl | (simp only [List.length_drop, List.length_take]; rfl)) ?_; (with_reducible refine (laws_szByteS.calls _ _ l0_1 (wrap64 (a1 - (a0_0.size : Int))) t102 _ ?side1 ?side2 A6.out).mono ?_); (case side1 => repeat (first | exact (C_below HR0_1.out HB.out) | (with_reducible refine C_alloc ?_ _) | (with_reducible refine C_drewN ?_ _) | (with_reducible refine C_drew ?_))); (case side2 => exact HC0_1.out); rintro e w' ⟨rfl, ⟨nd, rfl⟩⟩; refine ⟨_, rfl, ?_⟩) | ((with_reducible refine gate_callee (f := 104) rfl ?_); refine goesL_ (some 21) rfl rfl Tryd.func104 (by kernel_rfl) rfl #[.slice A0_2 l0_2.length c0_2, .int .i64 t102] rfl (by (try simp only [List.map_toArray, List.map_cons, List.map_nil]); first | done | rfl | (simp only [List.length_drop, List.length_take]; rfl)) ?_; (with_reducible refine (laws_szByteS.calls _ _ l0_2 t102 t103 _ ?side1 ?side2 A10.out).mono ?_); (case side1 => repeat (first | exact (C_below HR0_2.out Zs) | (with_reducible refine C_alloc ?_ _) | (with_reducible refine C_drewN ?_ _) | (with_reducible refine C_drew ?_))); (case side2 => exact HC0_2.out); rintro e w' ⟨rfl, ⟨nd, rfl⟩⟩; refine ⟨_, rfl, ?_⟩))
 go_ret
 exact ⟨by first | rfl | (simp [errW_none, errW_some] <;> rfl) | (simp [*, errW_none, errW_some] <;> rfl), by repeat (first | (with_reducible first | exact HB.out | apply Zf | apply Zd | apply Ze | refine Zg ?_ GE101.out) | exact HB.out)⟩
def laws_szFileS.l0 : Nat → List (S83) → Int → Int → Option (Int)
 | 0, _, _, _ => none
 | k + 1, x0, x1, x5 => if x5 < (x0.length : Int) then (if 0 ≤ x5 then ((laws_szFile.f ((rd_T83 x0 x5).f0) ((rd_T83 x0 x5).f1) ((rd_T83 x0 x5).f2) x1).bind fun t105 => (if t105 < 0 then (some (-1)) else (laws_szFileS.l0 k x0 t105 (wrap64 (x5 + 1))))) else (none)) else (some x1)
def laws_szFileS.f (k : Nat) (l0 : List (S83)) (a1 : Int) : Option (Int) := if (wrap64 (a1 - (l0.length : Int))) < 0 then (some (-1)) else (laws_szFileS.l0 k l0 (wrap64 (a1 - (l0.length : Int))) 0)
set_option maxHeartbeats 8000000 in
set_option maxRecDepth 100000 in
theorem laws_szFileS.calls (k : Nat) (A0 : Option Addr) (c0 : Nat) (l0 : List (S83)) (a1 : Int) (r : Int) (w : World) (hr0 : Kd.C k83 w A0 l0.length l0) (hc0 : l0.length ≤ c0) (h : laws_szFileS.f k l0 a1 = some r) :
  Calls Tryd.prog 42 #[.slice A0 l0.length c0, .int .i64 a1] w fun e w' => e = .returned (.int .i64 r) ∧ Below w.heap.size w w' := by
 have hu83 := Tryd.underlying83
 have HR0 := Zh hr0
 have HC0 := Zh hc0
 clear hr0 hc0
 have HB := Zh (Below.refl w.heap.size w)
 have H : (if (wrap64 (a1 - (l0.length : Int))) < 0 then (some (-1)) else (laws_szFileS.l0 k l0 (wrap64 (a1 - (l0.length : Int))) 0)) = some r := h
 clear h
 by_cases c3 : (wrap64 (a1 - (l0.length : Int))) < 0
 ·
  rw [if_pos c3] at H
  have c3b0 : decide ((wrap64 (a1 - (l0.length : Int))) < 0) = true := decide_eq_true c3
  clear c3
  obtain rfl := Option.some.inj H
  go_enter Tryd.func42, Tryd.ntmps42
  go_wp2
  go_ret
  exact ⟨by first | rfl | (simp [errW_none, errW_some] <;> rfl) | (simp [*, errW_none, errW_some] <;> rfl), by repeat (first | (with_reducible first | exact HB.out | apply Zf | apply Zd | apply Ze) | exact HB.out)⟩
 rw [if_neg c3] at H
 have c3b0 : decide ((wrap64 (a1 - (l0.length : Int))) < 0) = false := decide_eq_false c3
 clear c3
 have H' := Zh H
 clear H
 go_enter Tryd.func42, Tryd.ntmps42
 go_wp2
 go_loopg [1, 5] k (fun kq v1 v5 w' => ∃ (x1_1 : Int) (x5_1 : Int), v1 = .int .i64 x1_1 ∧ v5 = .int .i64 x5_1 ∧ Aside0 (laws_szFileS.l0 kq l0 x1_1 x5_1 = some r) ∧ Aside0 (kq ≤ k) ∧ Aside0 (Below w.heap.size w w'))
 case atStart => exact ⟨(wrap64 (a1 - (l0.length : Int))), (0), (by first | rfl | (simp; done) | (simp [*]; done)), (by first | rfl | (simp; done) | (simp [*]; done)), H', ⟨Nat.le_refl _⟩, ⟨by repeat (first | (with_reducible first | exact HB.out | apply Zf | apply Zd | apply Ze) | exact HB.out)⟩⟩
 case round =>
  clear H'
  try clear p2
  try clear c3
  try clear c3b0
  obtain ⟨x1_1, x5_1, rfl, rfl, HA, HK1, HB⟩ := hrel
  cases gk with
  | zero => exact absurd HA.out (by simp [laws_szFileS.l0])
  | succ k1 =>
   have H := HA.out
   clear HA
   simp only [laws_szFileS.l0] at H
   by_cases c4 : x5_1 < (l0.length : Int)
   ·
    rw [if_pos c4] at H
    have c4b0 : decide (x5_1 < (l0.length : Int)) = true := decide_eq_true c4
    clear c4
    by_cases c5 : 0 ≤ x5_1
    ·
     rw [if_pos c5] at H
     have c5b0 : decide (0 ≤ x5_1) = true := decide_eq_true c5
     clear c5
     replace H := Option.bind_eq_some_iff.mp H
     obtain ⟨t105, A60, H⟩ := H
     replace H : (if t105 < 0 then (some (-1)) else (laws_szFileS.l0 k1 l0 t105 (wrap64 (x5_1 + 1)))) = some r := H
     have A6 := Zh A60
     clear A60
     by_cases c7 : t105 < 0
     ·
      rw [if_pos c7] at H
      have c7b0 : decide (t105 < 0) = true := decide_eq_true c7
      clear c7
      obtain rfl := Option.some.inj H
      have p104 : 0 ≤ (x5_1 : Int) := Zo
      have q104 : x5_1 < (l0.length : Int) := Zo
      obtain ⟨ad104, A104_1, c104_1, A104_2, c104_2, e104, hx104_0, hx104_1, hx104_2, hl104_1, hi104_1, hl104_2, hi104_2⟩ := at_T83 HR0.out x5_1 p104 q104
      cases e104
      replace hx104_0 := Zc HB.out hx104_0
      replace hx104_1 := Zc HB.out hx104_1
      replace hx104_2 := Zc HB.out hx104_2
      have HR104_1 := Zh hi104_1
      have HC104_1 := Zh hl104_1
      clear hi104_1 hl104_1
      have HR104_2 := Zh hi104_2
      have HC104_2 := Zh hl104_2
      clear hi104_2 hl104_2
      replace p104 := eq_true p104
      replace q104 := eq_true q104
      go_wp2_with (first | ((with_reducible refine gate_callee (f := 76) rfl ?_); refine goesL_ (some 23) rfl rfl Tryd.func76 (by kernel_rfl) rfl #[.agg #[.string ((rd_T83 l0 x5_1).f0), .slice A104_1 ((rd_T83 l0 x5_1).f1).length c104_1, .slice A104_2 ((rd_T83 l0 x5_1).f2).length c104_2], .int .i64 x1_1] rfl (by (try simp only [List.map_toArray, List.map_cons, List.map_nil]); first | done | rfl | (simp only [List.length_drop, List.length_take]; rfl)) ?_; (with_reducible refine (laws_szFile.calls ((rd_T83 l0 x5_1).f0) _ _ ((rd_T83 l0 x5_1).f1) _ _ ((rd_T83 l0 x5_1).f2) x1_1 t105 _ ?side1 ?side2 ?side3 ?side4 A6.out).mono ?_); (case side1 => repeat (first | exact (C_below HR104_1.out HB.out) | (with_reducible refine C_alloc ?_ _) | (with_reducible refine C_drewN ?_ _) | (with_reducible refine C_drew ?_))); (case side2 => exact HC104_1.out); (case side3 => repeat (first | exact (C_below HR104_2.out HB.out) | (with_reducible refine C_alloc ?_ _) | (with_reducible refine C_drewN ?_ _) | (with_reducible refine C_drew ?_))); (case side4 => exact HC104_2.out); rintro e w8 ⟨rfl, hb⟩; refine ⟨_, rfl, ?_⟩; have n0_ := Zh (Zl Zs hb); clear HB; have HB := n0_; clear n0_; (try clear hb); (try clear hb2); (try clear hk); (try clear hi)))
      go_ret
      exact ⟨by first | rfl | (simp [errW_none, errW_some] <;> rfl) | (simp [*, errW_none, errW_some] <;> rfl), by repeat (first | (with_reducible first | exact HB.out | apply Zf | apply Zd | apply Ze) | exact HB.out)⟩
     rw [if_neg c7] at H
     have c7b0 : decide (t105 < 0) = false := decide_eq_false c7
     clear c7
     have H' := Zh H
     clear H
     have p104 : 0 ≤ (x5_1 : Int) := Zo
     have q104 : x5_1 < (l0.length : Int) := Zo
     obtain ⟨ad104, A104_1, c104_1, A104_2, c104_2, e104, hx104_0, hx104_1, hx104_2, hl104_1, hi104_1, hl104_2, hi104_2⟩ := at_T83 HR0.out x5_1 p104 q104
     cases e104
     replace hx104_0 := Zc HB.out hx104_0
     replace hx104_1 := Zc HB.out hx104_1
     replace hx104_2 := Zc HB.out hx104_2
     have HR104_1 := Zh hi104_1
     have HC104_1 := Zh hl104_1
     clear hi104_1 hl104_1
     have HR104_2 := Zh hi104_2
     have HC104_2 := Zh hl104_2
     clear hi104_2 hl104_2
     replace p104 := eq_true p104
     replace q104 := eq_true q104
     go_wp2_with (first | ((with_reducible refine gate_callee (f := 76) rfl ?_); refine goesL_ (some 23) rfl rfl Tryd.func76 (by kernel_rfl) rfl #[.agg #[.string ((rd_T83 l0 x5_1).f0), .slice A104_1 ((rd_T83 l0 x5_1).f1).length c104_1, .slice A104_2 ((rd_T83 l0 x5_1).f2).length c104_2], .int .i64 x1_1] rfl (by (try simp only [List.map_toArray, List.map_cons, List.map_nil]); first | done | rfl | (simp only [List.length_drop, List.length_take]; rfl)) ?_; (with_reducible refine (laws_szFile.calls ((rd_T83 l0 x5_1).f0) _ _ ((rd_T83 l0 x5_1).f1) _ _ ((rd_T83 l0 x5_1).f2) x1_1 t105 _ ?side1 ?side2 ?side3 ?side4 A6.out).mono ?_); (case side1 => repeat (first | exact (C_below HR104_1.out HB.out) | (with_reducible refine C_alloc ?_ _) | (with_reducible refine C_drewN ?_ _) | (with_reducible refine C_drew ?_))); (case side2 => exact HC104_1.out); (case side3 => repeat (first | exact (C_below HR104_2.out HB.out) | (with_reducible refine C_alloc ?_ _) | (with_reducible refine C_drewN ?_ _) | (with_reducible refine C_drew ?_))); (case side4 => exact HC104_2.out); rintro e w9 ⟨rfl, hb⟩; refine ⟨_, rfl, ?_⟩; have n0_ := Zh (Zl Zs hb); clear HB; have HB := n0_; clear n0_; (try clear hb); (try clear hb2); (try clear hk); (try clear hi)))
     go_roundg k1
     case measure => have := HK1.out; omega
     case rel => exact ⟨(t105), (wrap64 (x5_1 + 1)), (by first | rfl | (simp; done) | (simp [*]; done)), (by first | rfl | (simp; done) | (simp [*]; done)), H', ⟨by have := HK1.out; omega⟩, ⟨by repeat (first | (with_reducible first | exact HB.out | apply Zf | apply Zd | apply Ze) | exact HB.out)⟩⟩
    rw [if_neg c5] at H
    exact absurd H (by simp)
   rw [if_neg c4] at H
   have c4b0 : decide (x5_1 < (l0.length : Int)) = false := decide_eq_false c4
   clear c4
   obtain rfl := Option.some.inj H
   go_wp2
   go_ret
   exact ⟨by first | rfl | (simp [errW_none, errW_some] <;> rfl) | (simp [*, errW_none, errW_some] <;> rfl), by repeat (first | (with_reducible first | exact HB.out | apply Zf | apply Zd | apply Ze) | exact HB.out)⟩
def laws_szDisk.f (k : Nat) (l0_0 : List (S83)) (a1 : Int) : Option (Int) := (laws_szFileS.f k l0_0 a1).bind fun t107 => (if t107 < 0 then (some (-1)) else (some t107))
set_option maxHeartbeats 8000000 in
set_option maxRecDepth 100000 in
theorem laws_szDisk.calls (k : Nat) (A0_0 : Option Addr) (c0_0 : Nat) (l0_0 : List (S83)) (a1 : Int) (r : Int) (w : World) (hr0_0 : Kd.C k83 w A0_0 l0_0.length l0_0) (hc0_0 : l0_0.length ≤ c0_0) (h : laws_szDisk.f k l0_0 a1 = some r) :
  Calls Tryd.prog 11 #[.agg #[.slice A0_0 l0_0.length c0_0], .int .i64 a1] w fun e w' => e = .returned (.int .i64 r) ∧ Below w.heap.size w w' := by
 have hu24 := Tryd.underlying24
 have HR0_0 := Zh hr0_0
 have HC0_0 := Zh hc0_0
 clear hr0_0 hc0_0
 have HB := Zh (Below.refl w.heap.size w)
 have H : ((laws_szFileS.f k l0_0 a1).bind fun t107 => (if t107 < 0 then (some (-1)) else (some t107))) = some r := h
 clear h
 replace H := Option.bind_eq_some_iff.mp H
 obtain ⟨t107, A30, H⟩ := H
 replace H : (if t107 < 0 then (some (-1)) else (some t107)) = some r := H
 have A3 := Zh A30
 clear A30
 by_cases c4 : t107 < 0
 ·
  rw [if_pos c4] at H
  have c4b0 : decide (t107 < 0) = true := decide_eq_true c4
  clear c4
  obtain rfl := Option.some.inj H
  go_enter Tryd.func11, Tryd.ntmps11
  go_wp2_with (first | ((with_reducible refine gate_dst (N := 2) rfl ?_); refine box_event ?hg (N := 2) ?hd (cs := #[.slice A0_0 l0_0.length c0_0]) (t := 24) ?hr ?_; (case hd => rfl); (case hg => rfl); (case hr => first | (go_simp; done) | (go_simp; rfl)); intro gb106 hg w5 hbox hb; have n0_ := Zh (Zl Zs hb); have n1_ := Zh (hbox); have n2_ := Zh ((by rw [hg]; exact (below_size Zs) : w.heap.size ≤ gb106)); have n3_ := Zh ((by rw [hg]; exact (below_size Zs) : w.heap.size ≤ gb106)); clear HB; have HB := n0_; have BK106 := n1_; have GW106 := n2_; have GE106 := n3_; clear n0_ n1_ n2_ n3_; clear hb hbox hg; have hcz6_0 : w5.cell? ⟨gb106, 0, none⟩ = some (.slice A0_0 l0_0.length c0_0) := (blk_cell BK106.out 0).trans rfl; have hfz6_0 := Zn BK106.out 0) | ((with_reducible refine gate_callee (f := 42) rfl ?_); refine goesL_ (some 8) rfl rfl Tryd.func42 (by kernel_rfl) rfl #[.slice A0_0 l0_0.length c0_0, .int .i64 a1] rfl (by (try simp only [List.map_toArray, List.map_cons, List.map_nil]); first | done | rfl | (simp only [List.length_drop, List.length_take]; rfl)) ?_; (with_reducible refine (laws_szFileS.calls k _ _ l0_0 a1 t107 _ ?side1 ?side2 A3.out).mono ?_); (case side1 => repeat (first | exact (C_below HR0_0.out HB.out) | (with_reducible refine C_alloc ?_ _) | (with_reducible refine C_drewN ?_ _) | (with_reducible refine C_drew ?_))); (case side2 => exact HC0_0.out); rintro e w7 ⟨rfl, hb⟩; refine ⟨_, rfl, ?_⟩; have n0_ := Zh (Zm (g := gb106) (o := .cells #[.slice A0_0 l0_0.length c0_0] 24 (0, 0)) Zk hb); have n1_ := Zh (Zl Zs hb); clear BK106; clear HB; have BK106 := n0_; have HB := n1_; clear n0_ n1_; (try clear hb); (try clear hb2); (try clear hk); (try clear hi)))
  go_ret
  exact ⟨by first | rfl | (simp [errW_none, errW_some] <;> rfl) | (simp [*, errW_none, errW_some] <;> rfl), by repeat (first | (with_reducible first | exact HB.out | apply Zf | apply Zd | apply Ze | refine Zg ?_ GE106.out) | exact HB.out)⟩
 rw [if_neg c4] at H
 have c4b0 : decide (t107 < 0) = false := decide_eq_false c4
 clear c4
 obtain rfl := Option.some.inj H
 go_enter Tryd.func11, Tryd.ntmps11
 go_wp2_with (first | ((with_reducible refine gate_dst (N := 2) rfl ?_); refine box_event ?hg (N := 2) ?hd (cs := #[.slice A0_0 l0_0.length c0_0]) (t := 24) ?hr ?_; (case hd => rfl); (case hg => rfl); (case hr => first | (go_simp; done) | (go_simp; rfl)); intro gb106 hg w8 hbox hb; have n0_ := Zh (Zl Zs hb); have n1_ := Zh (hbox); have n2_ := Zh ((by rw [hg]; exact (below_size Zs) : w.heap.size ≤ gb106)); have n3_ := Zh ((by rw [hg]; exact (below_size Zs) : w.heap.size ≤ gb106)); clear HB; have HB := n0_; have BK106 := n1_; have GW106 := n2_; have GE106 := n3_; clear n0_ n1_ n2_ n3_; clear hb hbox hg; have hcz9_0 : w8.cell? ⟨gb106, 0, none⟩ = some (.slice A0_0 l0_0.length c0_0) := (blk_cell BK106.out 0).trans rfl; have hfz9_0 := Zn BK106.out 0) | ((with_reducible refine gate_callee (f := 42) rfl ?_); refine goesL_ (some 8) rfl rfl Tryd.func42 (by kernel_rfl) rfl #[.slice A0_0 l0_0.length c0_0, .int .i64 a1] rfl (by (try simp only [List.map_toArray, List.map_cons, List.map_nil]); first | done | rfl | (simp only [List.length_drop, List.length_take]; rfl)) ?_; (with_reducible refine (laws_szFileS.calls k _ _ l0_0 a1 t107 _ ?side1 ?side2 A3.out).mono ?_); (case side1 => repeat (first | exact (C_below HR0_0.out HB.out) | (with_reducible refine C_alloc ?_ _) | (with_reducible refine C_drewN ?_ _) | (with_reducible refine C_drew ?_))); (case side2 => exact HC0_0.out); rintro e w10 ⟨rfl, hb⟩; refine ⟨_, rfl, ?_⟩; have n0_ := Zh (Zm (g := gb106) (o := .cells #[.slice A0_0 l0_0.length c0_0] 24 (0, 0)) Zk hb); have n1_ := Zh (Zl Zs hb); clear BK106; clear HB; have BK106 := n0_; have HB := n1_; clear n0_ n1_; (try clear hb); (try clear hb2); (try clear hk); (try clear hi)))
 go_ret
 exact ⟨by first | rfl | (simp [errW_none, errW_some] <;> rfl) | (simp [*, errW_none, errW_some] <;> rfl), by repeat (first | (with_reducible first | exact HB.out | apply Zf | apply Zd | apply Ze | refine Zg ?_ GE106.out) | exact HB.out)⟩
def laws_toByteS.l0 : Nat → List Int → List Int → Int → Option (List Int)
 | 0, _, _, _ => none
 | k + 1, x0, x3, x4 => if x4 < (x0.length : Int) then (if 0 ≤ x4 then (if x4 < (x3.length : Int) then (laws_toByteS.l0 k x0 (x3.set (x4 : Int).toNat (rd x0 x4)) (wrap64 (x4 + 1))) else (none)) else (none)) else (some x3)
def laws_toByteS.f (k : Nat) (l0 : List Int) : Option (List Int) := if 0 ≤ (l0.length : Int) then (if ((l0.length : Int) : Int).toNat ≤ 281474976710656 then (laws_toByteS.l0 k l0 (List.replicate ((l0.length : Int) : Int).toNat 0) 0) else (none)) else (none)
set_option maxHeartbeats 8000000 in
set_option maxRecDepth 100000 in
theorem laws_toByteS.calls (k : Nat) (A0 : Option Addr) (c0 : Nat) (l0 : List Int) (r : List Int) (w : World) (hr0 : Kd.C (Kd.int .u8) w A0 l0.length l0) (hc0 : l0.length ≤ c0) (h : laws_toByteS.f k l0 = some r) :
  Calls Tryd.prog 28 #[.slice A0 l0.length c0] w fun e w' => ∃ v0_ : Value, e = .returned (v0_) ∧ Kd.R (Kd.int .u8) 5 w' w.heap.size (fun _ => True) v0_ r ∧ Below w.heap.size w w' := by
 have HR0 := Zh hr0
 have HC0 := Zh hc0
 clear hr0 hc0
 have HB := Zh (Below.refl w.heap.size w)
 have H : (if 0 ≤ (l0.length : Int) then (if ((l0.length : Int) : Int).toNat ≤ 281474976710656 then (laws_toByteS.l0 k l0 (List.replicate ((l0.length : Int) : Int).toNat 0) 0) else (none)) else (none)) = some r := h
 clear h
 by_cases c2 : 0 ≤ (l0.length : Int)
 ·
  rw [if_pos c2] at H
  have c2b0 := eq_true c2
  have c2b1 : decide (0 ≤ (l0.length : Int)) = true := decide_eq_true c2
  clear c2
  by_cases c3 : ((l0.length : Int) : Int).toNat ≤ 281474976710656
  ·
   rw [if_pos c3] at H
   have c3b0 := eq_true c3
   have c3b1 : decide (((l0.length : Int) : Int).toNat ≤ 281474976710656) = true := decide_eq_true c3
   clear c3
   obtain ⟨y198, hy198⟩ : ∃ y_ : List Int, y_ = (List.replicate ((l0.length : Int) : Int).toNat 0) := ⟨_, rfl⟩
   replace H : (laws_toByteS.l0 k l0 y198 0) = some r := by first | (rw [hy198]; with_reducible exact H) | (have H2_ := (Option.bind_some _ _).symm.trans H; rw [hy198]; with_reducible exact H2_) | (have H2_ := (Option.bind_some _ _).symm.trans H; with_reducible exact H2_) | with_reducible exact H | (rw [hy198]; exact H) | exact H
   have Ny198 := Zh hy198
   clear hy198
   have H' := Zh H
   clear H
   go_enter Tryd.func28, Tryd.ntmps28
   go_wp2_with (first | ((with_reducible refine gate_dst (N := 7) rfl ?_); refine R_make (Kd.int .u8) _ 5 rfl (N := 7) rfl 41 _ _ rfl (l0.length : Int) rfl rfl Tryd.underlying41 (.int .u8 0) 1 info5 rfl (by decide) (by omega) 0 (ok := fun _ => True) (okp := fun _ => True) rfl (fun _ hk => hk) trivial (Zo) (Nat.le_trans (Nat.mul_le_mul_right _ (Zo : (l0.length : Int).toNat ≤ 281474976710656)) (by omega)) (Below.refl _ _) (Nat.le_refl _) ?_; intro v199 w4 ho5 hb hg_ hnew_; clear hg_ hnew_; (first | rw [← Ny198.out] at ho5 | (simp only [Int.reduceToNat] at ho5; rw [← Ny198.out] at ho5)); have n0_ := Zh (R_lower ho5 (below_size Zs)); have n1_ := Zh (Zl Zs hb); clear HB; have HO200 := n0_; have HB := n1_; clear n0_ n1_; clear hb ho5))
   go_loopg [4] k (fun kq v4 w' => ∃ (x3_1 : List Int) (x4_1 : Int), v4 = .int .i64 x4_1 ∧ Aside0 (laws_toByteS.l0 kq l0 x3_1 x4_1 = some r) ∧ Aside0 (kq ≤ k) ∧ Aside0 (Kd.R (Kd.int .u8) 5 w' w.heap.size (fun _ => True) v199 x3_1) ∧ Aside0 (Below w.heap.size w w'))
   case atStart => exact ⟨(y198), (0), (by first | rfl | (simp; done) | (simp [*]; done)), H', ⟨Nat.le_refl _⟩, ⟨by (with_reducible repeat (first | apply R_alloc | apply R_drewN | apply R_drew)); exact HO200.out⟩, ⟨by repeat (first | (with_reducible first | exact HB.out | apply Zf | apply Zd | apply Ze) | exact HB.out)⟩⟩
   case round =>
    clear H'
    try clear c2
    try clear c2b0
    try clear c2b1
    try clear p2
    try clear c3
    try clear c3b0
    try clear c3b1
    obtain ⟨x3_1, x4_1, rfl, HA, HK1, HO_3, HB⟩ := hrel
    cases gk with
    | zero => exact absurd HA.out (by simp [laws_toByteS.l0])
    | succ k1 =>
     have H := HA.out
     clear HA
     simp only [laws_toByteS.l0] at H
     by_cases c6 : x4_1 < (l0.length : Int)
     ·
      rw [if_pos c6] at H
      have c6b0 : decide (x4_1 < (l0.length : Int)) = true := decide_eq_true c6
      clear c6
      by_cases c7 : 0 ≤ x4_1
      ·
       rw [if_pos c7] at H
       have c7b0 : decide (0 ≤ x4_1) = true := decide_eq_true c7
       clear c7
       by_cases c8 : x4_1 < (x3_1.length : Int)
       ·
        rw [if_pos c8] at H
        have c8b0 : decide (x4_1 < (x3_1.length : Int)) = true := decide_eq_true c8
        clear c8
        obtain ⟨y202, hy202⟩ : ∃ y_ : List Int, y_ = (x3_1.set (x4_1 : Int).toNat (rd l0 x4_1)) := ⟨_, rfl⟩
        replace H : (laws_toByteS.l0 k1 l0 y202 (wrap64 (x4_1 + 1))) = some r := by first | (rw [hy202]; with_reducible exact H) | (have H2_ := (Option.bind_some _ _).symm.trans H; rw [hy202]; with_reducible exact H2_) | (have H2_ := (Option.bind_some _ _).symm.trans H; with_reducible exact H2_) | with_reducible exact H | (rw [hy202]; exact H) | exact H
        have Ny202 := Zh hy202
        clear hy202
        have H' := Zh H
        clear H
        have p201 : 0 ≤ (x4_1 : Int) := Zo
        have q201 : x4_1 < (l0.length : Int) := Zo
        obtain ⟨ad201, e201, hx201_0⟩ := Kd.at_int HR0.out x4_1 p201 q201
        cases e201
        replace hx201_0 := Zc HB.out hx201_0
        replace p201 := eq_true p201
        replace q201 := eq_true q201
        have p9 : 0 ≤ (x4_1 : Int) := Zo
        have q9 : (x4_1 : Int) < ((x3_1.length : Int) : Int) := Zo
        obtain ⟨go9, co9, eo9, gb9, gl9, cl9, HG9⟩ := R_form HO_3.out (by omega)
        (first | cases eo9 | (injection eo9 with ea_ en_ ec_; (first | subst ea_ | (injection ea_ with ea_; subst ea_)); subst ec_; clear en_))
        have GB9 := Zh gb9
        have GG9 := Zh HG9
        clear gb9 gl9 HG9
        obtain ⟨hx9_0, hf9_0⟩ := R_celln 0 HO_3.out (x4_1 : Int) p9 q9
        replace p9 := eq_true p9
        replace q9 := eq_true q9
        have HP10 := R_putg HO_3.out (x4_1 : Int) (rd l0 x4_1)
        go_wp2_with (first | ((with_reducible refine gate_store (t := 5) (p := 20) rfl ?_); refine store_event (t := 5) (p := 20) (v := ?vo_w11) (w1 := (wr.setCell ⟨go9, (x4_1 : Int).toNat, none⟩ (.int .u8 (rd l0 x4_1)))) ?hg ?ho ?hn ?hr ?_; (case ho => rfl); (case hg => rfl); (case hn => rfl); (case hr => first | (go_simp; done) | (go_simp; rfl)); intro w11 hw; have hg : wr.grownBy w11 (some go9) := (by rw [hw]; exact HP10.2); have hp_ : Kd.R (Kd.int .u8) 5 w11 w.heap.size (fun _ => True) (.slice (some ⟨go9, 0, none⟩) x3_1.length co9) y202 := (by rw [hw, Ny202.out]; exact HP10.1); clear HP10; have n0_ := Zh (hp_); have n1_ := Zh ((by rw [hw]; exact Zg (HB.out) GB9.out : Below w.heap.size w w11)); clear HO_3; clear HB; have HO_3 := n0_; have HB := n1_; clear n0_ n1_; clear hg hw hp_))
        go_roundg k1
        case measure => have := HK1.out; omega
        case rel => exact ⟨(y202), (wrap64 (x4_1 + 1)), (by first | rfl | (simp; done) | (simp [*]; done)), H', ⟨by have := HK1.out; omega⟩, ⟨by (with_reducible repeat (first | apply R_alloc | apply R_drewN | apply R_drew)); exact HO_3.out⟩, ⟨by repeat (first | (with_reducible first | exact HB.out | apply Zf | apply Zd | apply Ze) | exact HB.out)⟩⟩
       rw [if_neg c8] at H
       exact absurd H (by simp)
      rw [if_neg c7] at H
      exact absurd H (by simp)
     rw [if_neg c6] at H
     have c6b0 : decide (x4_1 < (l0.length : Int)) = false := decide_eq_false c6
     clear c6
     obtain rfl := Option.some.inj H
     go_wp2
     go_ret
     exact ⟨_, by first | rfl | (simp [errW_none, errW_some] <;> rfl) | (simp [*, errW_none, errW_some] <;> rfl), by (with_reducible repeat (first | apply R_alloc | apply R_drewN | apply R_drew)); exact HO_3.out, by repeat (first | (with_reducible first | exact HB.out | apply Zf | apply Zd | apply Ze) | exact HB.out)⟩
  rw [if_neg c3] at H
  exact absurd H (by simp)
 rw [if_neg c2] at H
 exact absurd H (by simp)
def laws_toFile.f (k : Nat) (a0_0 : ByteArray) (l0_1 : List Int) (l0_2 : List Int) : Option (ByteArray × List Int × List Int) := (laws_toByteS.f k l0_1).bind fun t206 => ((laws_toByteS.f k l0_2).bind fun t209 => (some (a0_0, t206, t209)))
set_option maxHeartbeats 8000000 in
set_option maxRecDepth 100000 in
theorem laws_toFile.calls (k : Nat) (a0_0 : ByteArray) (A0_1 : Option Addr) (c0_1 : Nat) (l0_1 : List Int) (A0_2 : Option Addr) (c0_2 : Nat) (l0_2 : List Int) (r1 : ByteArray) (r2 : List Int) (r3 : List Int) (w : World) (hr0_1 : Kd.C (Kd.int .u8) w A0_1 l0_1.length l0_1) (hc0_1 : l0_1.length ≤ c0_1) (hr0_2 : Kd.C (Kd.int .u8) w A0_2 l0_2.length l0_2) (hc0_2 : l0_2.length ≤ c0_2) (h : laws_toFile.f k a0_0 l0_1 l0_2 = some (r1, r2, r3)) :
  Calls Tryd.prog 78 #[.agg #[.string a0_0, .slice A0_1 l0_1.length c0_1, .slice A0_2 l0_2.length c0_2]] w fun e w' => ∃ v1_ v2_ : Value, e = .returned (.agg #[.string r1, v1_, v2_]) ∧ Kd.R (Kd.int .u8) 5 w' w.heap.size (fun k_ => some k_ ≠ (v2_ : Value).ownBlock) v1_ r2 ∧ Kd.R (Kd.int .u8) 5 w' w.heap.size (fun k_ => some k_ ≠ (v1_ : Value).ownBlock) v2_ r3 ∧ Below w.heap.size w w' := by
 have hu83 := Tryd.underlying83
 have hu55 := Tryd.underlying55
 have HR0_1 := Zh hr0_1
 have HC0_1 := Zh hc0_1
 clear hr0_1 hc0_1
 have HR0_2 := Zh hr0_2
 have HC0_2 := Zh hc0_2
 clear hr0_2 hc0_2
 have HB := Zh (Below.refl w.heap.size w)
 have H : ((laws_toByteS.f k l0_1).bind fun t206 => ((laws_toByteS.f k l0_2).bind fun t209 => (some (a0_0, t206, t209)))) = some (r1, r2, r3) := h
 clear h
 replace H := Option.bind_eq_some_iff.mp H
 obtain ⟨t206, A20, H⟩ := H
 replace H : ((laws_toByteS.f k l0_2).bind fun t209 => (some (a0_0, t206, t209))) = some (r1, r2, r3) := H
 have A2 := Zh A20
 clear A20
 replace H := Option.bind_eq_some_iff.mp H
 obtain ⟨t209, A30, H⟩ := H
 replace H : (some (a0_0, t206, t209)) = some (r1, r2, r3) := H
 have A3 := Zh A30
 clear A30
 simp only [Option.some.injEq, Prod.mk.injEq] at H
 obtain ⟨rfl, rfl, rfl⟩ := H
 go_enter Tryd.func78, Tryd.ntmps78
 go_wp2_with (first | ((with_reducible refine gate_dst (N := 1) rfl ?_); refine box_event ?hg (N := 1) ?hd (cs := #[.string a0_0, .slice A0_1 l0_1.length c0_1, .slice A0_2 l0_2.length c0_2]) (t := 83) ?hr ?_; (case hd => rfl); (case hg => rfl); (case hr => first | (go_simp; done) | (go_simp; rfl)); intro gb203 hg w4 hbox hb; have n0_ := Zh (Zl Zs hb); have n1_ := Zh (hbox); have n2_ := Zh ((by rw [hg]; exact (below_size Zs) : w.heap.size ≤ gb203)); have n3_ := Zh ((by rw [hg]; exact (below_size Zs) : w.heap.size ≤ gb203)); clear HB; have HB := n0_; have BK203 := n1_; have GW203 := n2_; have GE203 := n3_; clear n0_ n1_ n2_ n3_; clear hb hbox hg) | ((with_reducible refine gate_dst (N := 2) rfl ?_); refine box_event ?hg (N := 2) ?hd (cs := #[.string (⟨#[]⟩ : ByteArray), .slice none 0 0, .slice none 0 0]) (t := 55) ?hr ?_; (case hd => rfl); (case hg => rfl); (case hr => first | (go_simp; done) | (go_simp; rfl)); intro gb204 hg w5 hbox hb; have n0_ := Zh (Zm (g := gb203) (o := .cells #[.string a0_0, .slice A0_1 l0_1.length c0_1, .slice A0_2 l0_2.length c0_2] 83 (0, 0)) Zk hb); have n1_ := Zh (Zl Zs hb); have n2_ := Zh (hbox); have n3_ := Zh ((by rw [hg]; exact (below_size Zs) : w.heap.size ≤ gb204)); have n4_ := Zh ((by rw [hg]; exact (below_size Zs) : w.heap.size ≤ gb204)); have n5_ := Zh ((by rw [hg]; exact Nat.ne_of_lt (blk_lt (g := gb203) (o := .cells #[.string a0_0, .slice A0_1 l0_1.length c0_1, .slice A0_2 l0_2.length c0_2] 83 (0, 0)) Zk) : gb203 ≠ gb204)); have n6_ := Zh ((by rw [hg]; exact Nat.ne_of_gt (blk_lt (g := gb203) (o := .cells #[.string a0_0, .slice A0_1 l0_1.length c0_1, .slice A0_2 l0_2.length c0_2] 83 (0, 0)) Zk) : gb204 ≠ gb203)); clear BK203; clear HB; have BK203 := n0_; have HB := n1_; have BK204 := n2_; have GW204 := n3_; have GE204 := n4_; have NB203_204 := n5_; have NB204_203 := n6_; clear n0_ n1_ n2_ n3_ n4_ n5_ n6_; clear hb hbox hg) | ((with_reducible refine gate_dst (N := 3) rfl ?_); refine box_event ?hg (N := 3) ?hd (cs := #[.string (⟨#[]⟩ : ByteArray), .slice none 0 0, .slice none 0 0]) (t := 55) ?hr ?_; (case hd => rfl); (case hg => rfl); (case hr => first | (go_simp; done) | (go_simp; rfl)); intro gb205 hg w6 hbox hb; have n0_ := Zh (Zm (g := gb203) (o := .cells #[.string a0_0, .slice A0_1 l0_1.length c0_1, .slice A0_2 l0_2.length c0_2] 83 (0, 0)) Zk hb); have n1_ := Zh (Zm (g := gb204) (o := .cells #[.string (⟨#[]⟩ : ByteArray), .slice none 0 0, .slice none 0 0] 55 (0, 0)) Zk hb); have n2_ := Zh (Zl Zs hb); have n3_ := Zh (hbox); have n4_ := Zh ((by rw [hg]; exact (below_size Zs) : w.heap.size ≤ gb205)); have n5_ := Zh ((by rw [hg]; exact (below_size Zs) : w.heap.size ≤ gb205)); have n6_ := Zh ((by rw [hg]; exact Nat.ne_of_lt (blk_lt (g := gb203) (o := .cells #[.string a0_0, .slice A0_1 l0_1.length c0_1, .slice A0_2 l0_2.length c0_2] 83 (0, 0)) Zk) : gb203 ≠ gb205)); have n7_ := Zh ((by rw [hg]; exact Nat.ne_of_gt (blk_lt (g := gb203) (o := .cells #[.string a0_0, .slice A0_1 l0_1.length c0_1, .slice A0_2 l0_2.length c0_2] 83 (0, 0)) Zk) : gb205 ≠ gb203)); have n8_ := Zh ((by rw [hg]; exact Nat.ne_of_lt (blk_lt (g := gb204) (o := .cells #[.string (⟨#[]⟩ : ByteArray), .slice none 0 0, .slice none 0 0] 55 (0, 0)) Zk) : gb204 ≠ gb205)); have n9_ := Zh ((by rw [hg]; exact Nat.ne_of_gt (blk_lt (g := gb204) (o := .cells #[.string (⟨#[]⟩ : ByteArray), .slice none 0 0, .slice none 0 0] 55 (0, 0)) Zk) : gb205 ≠ gb204)); clear BK203; clear BK204; clear HB; have BK203 := n0_; have BK204 := n1_; have HB := n2_; have BK205 := n3_; have GW205 := n4_; have GE205 := n5_; have NB203_205 := n6_; have NB205_203 := n7_; have NB204_205 := n8_; have NB205_204 := n9_; clear n0_ n1_ n2_ n3_ n4_ n5_ n6_ n7_ n8_ n9_; clear hb hbox hg; have hnb7 := NB203_204.out; have hnc7 := NB204_203.out; have hnb8 := NB203_205.out; have hnc8 := NB205_203.out; have hcz9_0 : w6.cell? ⟨gb203, 0, none⟩ = some (.string a0_0) := (blk_cell BK203.out 0).trans rfl; have hcz9_1 : w6.cell? ⟨gb203, 1, none⟩ = some (.slice A0_1 l0_1.length c0_1) := (blk_cell BK203.out 1).trans rfl; have hcz9_2 : w6.cell? ⟨gb203, 2, none⟩ = some (.slice A0_2 l0_2.length c0_2) := (blk_cell BK203.out 2).trans rfl; have hfz9_0 := Zn BK203.out 0; have hfz9_1 := Zn BK203.out 1; have hfz9_2 := Zn BK203.out 2; have hnb10 := NB205_204.out; have hnc10 := NB204_205.out; have hcz11_0 : w6.cell? ⟨gb205, 0, none⟩ = some (.string (⟨#[]⟩ : ByteArray)) := (blk_cell BK205.out 0).trans rfl; have hcz11_1 : w6.cell? ⟨gb205, 1, none⟩ = some (.slice none 0 0) := (blk_cell BK205.out 1).trans rfl; have hcz11_2 : w6.cell? ⟨gb205, 2, none⟩ = some (.slice none 0 0) := (blk_cell BK205.out 2).trans rfl; have hfz11_0 := Zn BK205.out 0; have hfz11_1 := Zn BK205.out 1; have hfz11_2 := Zn BK205.out 2) | ((with_reducible refine gate_callee (f := 28) rfl ?_); refine goesL_ (some 9) rfl rfl Tryd.func28 (by kernel_rfl) rfl #[.slice A0_1 l0_1.length c0_1] rfl (by (try simp only [List.map_toArray, List.map_cons, List.map_nil]); first | done | rfl | (simp only [List.length_drop, List.length_take]; rfl)) ?_; (with_reducible refine (laws_toByteS.calls k _ _ l0_1 t206 _ ?side1 ?side2 A2.out).mono ?_); (case side1 => exact C_below HR0_1.out Zs); (case side2 => exact HC0_1.out); rintro e w12 ⟨v207, rfl, ho0, hb⟩; refine ⟨_, rfl, ?_⟩; have n0_ := Zh (R_lower ho0 (below_size Zs)); have n1_ := Zh (Zm (g := gb203) (o := .cells #[.string a0_0, .slice A0_1 l0_1.length c0_1, .slice A0_2 l0_2.length c0_2] 83 (0, 0)) (by (with_reducible repeat (first | refine Za ?_ _ | refine Zb ?_ | refine blk_alloc ?_ _)); refine Zp ?_ NB203_205.out _; (with_reducible repeat (first | refine Za ?_ _ | refine Zb ?_ | refine blk_alloc ?_ _)); exact BK203.out) hb); have n2_ := Zh (Zm (g := gb204) (o := .cells #[.string (⟨#[]⟩ : ByteArray), .slice none 0 0, .slice none 0 0] 55 (0, 0)) (by (with_reducible repeat (first | refine Za ?_ _ | refine Zb ?_ | refine blk_alloc ?_ _)); refine Zp ?_ NB204_205.out _; (with_reducible repeat (first | refine Za ?_ _ | refine Zb ?_ | refine blk_alloc ?_ _)); exact BK204.out) hb); have n3_ := Zh (Zm (g := gb205) (o := .cells #[.string a0_0, .slice none 0 0, .slice none 0 0] 55 (0, 0)) (by (with_reducible repeat (first | refine Za ?_ _ | refine Zb ?_ | refine blk_alloc ?_ _)); refine blk_put (cs := #[.string (⟨#[]⟩ : ByteArray), .slice none 0 0, .slice none 0 0]) ?_ 0 _ rfl; (with_reducible repeat (first | refine Za ?_ _ | refine Zb ?_ | refine blk_alloc ?_ _)); exact BK205.out) hb); have n4_ := Zh (Zl Zs hb); clear BK203; clear BK204; clear BK205; clear HB; have HO208 := n0_; have BK203 := n1_; have BK204 := n2_; have BK205 := n3_; have HB := n4_; clear n0_ n1_ n2_ n3_ n4_; (try clear hb); (try clear hb2); (try clear hk); (try clear hi); (try clear ho0); obtain ⟨Ao13, co13, eo13⟩ := R_slice HO208.out; subst eo13; have hcz14_0 : w12.cell? ⟨gb205, 0, none⟩ = some (.string a0_0) := (blk_cell BK205.out 0).trans rfl; have hcz14_1 : w12.cell? ⟨gb205, 1, none⟩ = some (.slice none 0 0) := (blk_cell BK205.out 1).trans rfl; have hcz14_2 : w12.cell? ⟨gb205, 2, none⟩ = some (.slice none 0 0) := (blk_cell BK205.out 2).trans rfl; have hfz14_0 := Zn BK205.out 0; have hfz14_1 := Zn BK205.out 1; have hfz14_2 := Zn BK205.out 2; have hcz15_0 : w12.cell? ⟨gb203, 0, none⟩ = some (.string a0_0) := (blk_cell BK203.out 0).trans rfl; have hcz15_1 : w12.cell? ⟨gb203, 1, none⟩ = some (.slice A0_1 l0_1.length c0_1) := (blk_cell BK203.out 1).trans rfl; have hcz15_2 : w12.cell? ⟨gb203, 2, none⟩ = some (.slice A0_2 l0_2.length c0_2) := (blk_cell BK203.out 2).trans rfl; have hfz15_0 := Zn BK203.out 0; have hfz15_1 := Zn BK203.out 1; have hfz15_2 := Zn BK203.out 2) | ((with_reducible refine gate_callee (f := 28) rfl ?_); refine goesL_ (some 13) rfl rfl Tryd.func28 (by kernel_rfl) rfl #[.slice A0_2 l0_2.length c0_2] rfl (by (try simp only [List.map_toArray, List.map_cons, List.map_nil]); first | done | rfl | (simp only [List.length_drop, List.length_take]; rfl)) ?_; (with_reducible refine (laws_toByteS.calls k _ _ l0_2 t209 _ ?side1 ?side2 A3.out).mono ?_); (case side1 => exact C_below HR0_2.out Zs); (case side2 => exact HC0_2.out); rintro e w16 ⟨v210, rfl, ho0, hb⟩; refine ⟨_, rfl, ?_⟩; have n0_ := Zh (R_elder' (by (with_reducible repeat (first | apply R_alloc | apply R_drewN | apply R_drew)); exact (R_mono (R_far (p := ⟨gb205, 1, none⟩) (R_types HO208.out BK205.out (by decide)) (fun _ hk => hk.2) (.slice Ao13 t206.length co13)) (fun _ h_ => h_.1))) (R_base ho0) hb); have n1_ := Zh (R_lower (R_new' ho0 (R_lt (by (with_reducible repeat (first | apply R_alloc | apply R_drewN | apply R_drew)); exact (R_mono (R_far (p := ⟨gb205, 1, none⟩) (R_types HO208.out BK205.out (by decide)) (fun _ hk => hk.2) (.slice Ao13 t206.length co13)) (fun _ h_ => h_.1))))) (below_size Zs)); have n2_ := Zh (Zm (g := gb203) (o := .cells #[.string a0_0, .slice A0_1 l0_1.length c0_1, .slice A0_2 l0_2.length c0_2] 83 (0, 0)) (by (with_reducible repeat (first | refine Za ?_ _ | refine Zb ?_ | refine blk_alloc ?_ _)); refine Zp ?_ NB203_205.out _; (with_reducible repeat (first | refine Za ?_ _ | refine Zb ?_ | refine blk_alloc ?_ _)); exact BK203.out) hb); have n3_ := Zh (Zm (g := gb204) (o := .cells #[.string (⟨#[]⟩ : ByteArray), .slice none 0 0, .slice none 0 0] 55 (0, 0)) (by (with_reducible repeat (first | refine Za ?_ _ | refine Zb ?_ | refine blk_alloc ?_ _)); refine Zp ?_ NB204_205.out _; (with_reducible repeat (first | refine Za ?_ _ | refine Zb ?_ | refine blk_alloc ?_ _)); exact BK204.out) hb); have n4_ := Zh (Zm (g := gb205) (o := .cells #[.string a0_0, .slice Ao13 t206.length co13, .slice none 0 0] 55 (0, 0)) (by (with_reducible repeat (first | refine Za ?_ _ | refine Zb ?_ | refine blk_alloc ?_ _)); refine blk_put (cs := #[.string a0_0, .slice none 0 0, .slice none 0 0]) ?_ 1 _ rfl; (with_reducible repeat (first | refine Za ?_ _ | refine Zb ?_ | refine blk_alloc ?_ _)); exact BK205.out) hb); have n5_ := Zh (Zl Zs hb); clear HO208; clear BK203; clear BK204; clear BK205; clear HB; have HO208 := n0_; have HO211 := n1_; have BK203 := n2_; have BK204 := n3_; have BK205 := n4_; have HB := n5_; clear n0_ n1_ n2_ n3_ n4_ n5_; (try clear hb); (try clear hb2); (try clear hk); (try clear hi); (try clear ho0); obtain ⟨Ao17, co17, eo17⟩ := R_slice HO211.out; subst eo17; have hcz18_0 : w16.cell? ⟨gb205, 0, none⟩ = some (.string a0_0) := (blk_cell BK205.out 0).trans rfl; have hcz18_1 : w16.cell? ⟨gb205, 1, none⟩ = some (.slice Ao13 t206.length co13) := (blk_cell BK205.out 1).trans rfl; have hcz18_2 : w16.cell? ⟨gb205, 2, none⟩ = some (.slice none 0 0) := (blk_cell BK205.out 2).trans rfl; have hfz18_0 := Zn BK205.out 0; have hfz18_1 := Zn BK205.out 1; have hfz18_2 := Zn BK205.out 2; have hcz19_0 : w16.cell? ⟨gb204, 0, none⟩ = some (.string (⟨#[]⟩ : ByteArray)) := (blk_cell BK204.out 0).trans rfl; have hcz19_1 : w16.cell? ⟨gb204, 1, none⟩ = some (.slice none 0 0) := (blk_cell BK204.out 1).trans rfl; have hcz19_2 : w16.cell? ⟨gb204, 2, none⟩ = some (.slice none 0 0) := (blk_cell BK204.out 2).trans rfl; have hfz19_0 := Zn BK204.out 0; have hfz19_1 := Zn BK204.out 1; have hfz19_2 := Zn BK204.out 2))
 refine bodyPost_ret (results_cell_row rfl _ _ gb204 55 #[.string a0_0, .slice Ao13 t206.length co13, .slice Ao17 t209.length co17] (0, 0) _ rfl (by (with_reducible repeat (first | refine Za ?_ _ | refine Zb ?_ | refine blk_alloc ?_ _)); refine blk_put (cs := #[.string a0_0, .slice Ao13 t206.length co13, .slice none 0 0]) ?_ 2 _ rfl; (with_reducible repeat (first | refine Za ?_ _ | refine Zb ?_ | refine blk_alloc ?_ _)); refine blk_put (cs := #[.string a0_0, .slice none 0 0, .slice none 0 0]) ?_ 1 _ rfl; (with_reducible repeat (first | refine Za ?_ _ | refine Zb ?_ | refine blk_alloc ?_ _)); refine blk_put (cs := #[.string (⟨#[]⟩ : ByteArray), .slice none 0 0, .slice none 0 0]) ?_ 0 _ rfl; (with_reducible repeat (first | refine Za ?_ _ | refine Zb ?_ | refine blk_alloc ?_ _)); refine Zp ?_ NB204_205.out _; (with_reducible repeat (first | refine Za ?_ _ | refine Zb ?_ | refine blk_alloc ?_ _)); exact BK204.out) Tryd.underlying55 rfl (by kernel_rfl)) rfl ?_
 exact ⟨_, _, by first | rfl | (simp [errW_none, errW_some] <;> rfl) | (simp [*, errW_none, errW_some] <;> rfl), by (with_reducible repeat (first | apply R_alloc | apply R_drewN | apply R_drew)); exact R_mono (R_far (p := ⟨gb204, 2, none⟩) (R_far (p := ⟨gb204, 1, none⟩) (R_far (p := ⟨gb204, 0, none⟩) (R_far (p := ⟨gb205, 2, none⟩) (R_types (R_types HO208.out BK205.out (by decide)) BK204.out (by decide)) (fun _ hk => hk.1.2) (.slice Ao17 t209.length co17)) (fun _ hk => hk.2) (.string a0_0)) (fun _ hk => hk.2) (.slice Ao13 t206.length co13)) (fun _ hk => hk.2) (.slice Ao17 t209.length co17)) (fun _ hk => hk.1.1.2), by (with_reducible repeat (first | apply R_alloc | apply R_drewN | apply R_drew)); exact R_mono (R_far (p := ⟨gb204, 2, none⟩) (R_far (p := ⟨gb204, 1, none⟩) (R_far (p := ⟨gb204, 0, none⟩) (R_far (p := ⟨gb205, 2, none⟩) (R_types (R_types HO211.out BK205.out (by decide)) BK204.out (by decide)) (fun _ hk => hk.1.2) (.slice Ao17 t209.length co17)) (fun _ hk => hk.2) (.string a0_0)) (fun _ hk => hk.2) (.slice Ao13 t206.length co13)) (fun _ hk => hk.2) (.slice Ao17 t209.length co17)) (fun _ hk => hk.1.1.2), by repeat (first | (with_reducible first | exact HB.out | apply Zf | apply Zd | apply Ze | refine Zg ?_ GE203.out | refine Zg ?_ GE204.out | refine Zg ?_ GE205.out) | exact HB.out)⟩
def laws_toFileS.l0 : Nat → List (S83) → List (S55) → Int → Option ((List (S55)))
 | 0, _, _, _ => none
 | k + 1, x0, x3, x4 => if x4 < (x0.length : Int) then (if 0 ≤ x4 then ((laws_toFile.f k ((rd_T83 x0 x4).f0) ((rd_T83 x0 x4).f1) ((rd_T83 x0 x4).f2)).bind fun bt216 => (if x4 < (x3.length : Int) then (laws_toFileS.l0 k x0 (x3.set (x4 : Int).toNat (⟨bt216.1, bt216.2.1, bt216.2.2⟩ : S55)) (wrap64 (x4 + 1))) else (none))) else (none)) else (some x3)
def laws_toFileS.f (k : Nat) (l0 : List (S83)) : Option ((List (S55))) := if 0 ≤ (l0.length : Int) then (if ((l0.length : Int) : Int).toNat ≤ 4398046511104 then (laws_toFileS.l0 k l0 (List.replicate ((l0.length : Int) : Int).toNat z55) 0) else (none)) else (none)
set_option maxHeartbeats 8000000 in
set_option maxRecDepth 100000 in
theorem laws_toFileS.calls (k : Nat) (A0 : Option Addr) (c0 : Nat) (l0 : List (S83)) (r : List (S55)) (w : World) (hr0 : Kd.C k83 w A0 l0.length l0) (hc0 : l0.length ≤ c0) (h : laws_toFileS.f k l0 = some r) :
  Calls Tryd.prog 44 #[.slice A0 l0.length c0] w fun e w' => ∃ v0_ : Value, e = .returned (v0_) ∧ Kd.S k55 55 w' w.heap.size (fun _ => True) v0_ r ∧ Below w.heap.size w w' := by
 have hu83 := Tryd.underlying83
 have hu55 := Tryd.underlying55
 have HR0 := Zh hr0
 have HC0 := Zh hc0
 clear hr0 hc0
 have HB := Zh (Below.refl w.heap.size w)
 have H : (if 0 ≤ (l0.length : Int) then (if ((l0.length : Int) : Int).toNat ≤ 4398046511104 then (laws_toFileS.l0 k l0 (List.replicate ((l0.length : Int) : Int).toNat z55) 0) else (none)) else (none)) = some r := h
 clear h
 by_cases c2 : 0 ≤ (l0.length : Int)
 ·
  rw [if_pos c2] at H
  have c2b0 := eq_true c2
  have c2b1 : decide (0 ≤ (l0.length : Int)) = true := decide_eq_true c2
  clear c2
  by_cases c3 : ((l0.length : Int) : Int).toNat ≤ 4398046511104
  ·
   rw [if_pos c3] at H
   have c3b0 := eq_true c3
   have c3b1 : decide (((l0.length : Int) : Int).toNat ≤ 4398046511104) = true := decide_eq_true c3
   clear c3
   obtain ⟨y212, hy212⟩ : ∃ y_ : List (S55), y_ = (List.replicate ((l0.length : Int) : Int).toNat z55) := ⟨_, rfl⟩
   replace H : (laws_toFileS.l0 k l0 y212 0) = some r := by first | (rw [hy212]; with_reducible exact H) | (have H2_ := (Option.bind_some _ _).symm.trans H; rw [hy212]; with_reducible exact H2_) | (have H2_ := (Option.bind_some _ _).symm.trans H; with_reducible exact H2_) | with_reducible exact H | (rw [hy212]; exact H) | exact H
   have Ny212 := Zh hy212
   clear hy212
   have H' := Zh H
   clear H
   go_enter Tryd.func44, Tryd.ntmps44
   go_wp2_with (first | ((with_reducible refine gate_dst (N := 7) rfl ?_); refine S_make k55 _ 55 rfl (N := 7) rfl 26 _ _ rfl (l0.length : Int) rfl rfl Tryd.underlying26 (.agg #[(.string ⟨#[]⟩), (.slice none 0 0), (.slice none 0 0)]) 64 info55 rfl (by decide) (by omega) z55 (ok := fun _ => True) (okp := fun _ => True) (k55_mkM _ _ _ z55 (R_nil _ _ _ _ _) (R_nil _ _ _ _ _) AP.ne_nil) (fun _ hk => hk) trivial (Zo) (Nat.le_trans (Nat.mul_le_mul_right _ (Zo : (l0.length : Int).toNat ≤ 4398046511104)) (by omega)) (Below.refl _ _) (Nat.le_refl _) ?_; intro v213 w4 ho5 hb hg_ hnew_; clear hg_ hnew_; (first | rw [← Ny212.out] at ho5 | (simp only [Int.reduceToNat] at ho5; rw [← Ny212.out] at ho5)); have n0_ := Zh (S_lower ho5 (below_size Zs)); have n1_ := Zh (Zl Zs hb); clear HB; have HO214 := n0_; have HB := n1_; clear n0_ n1_; clear hb ho5))
   go_loopg [4] k (fun kq v4 w' => ∃ (x3_1 : List (S55)) (x4_1 : Int), v4 = .int .i64 x4_1 ∧ Aside0 (laws_toFileS.l0 kq l0 x3_1 x4_1 = some r) ∧ Aside0 (kq ≤ k) ∧ Aside0 (Kd.S k55 55 w' w.heap.size (fun _ => True) v213 x3_1) ∧ Aside0 (Below w.heap.size w w'))
   case atStart => exact ⟨(y212), (0), (by first | rfl | (simp; done) | (simp [*]; done)), H', ⟨Nat.le_refl _⟩, ⟨by (with_reducible repeat (first | apply S_alloc | apply S_drewN | apply S_drew)); exact HO214.out⟩, ⟨by repeat (first | (with_reducible first | exact HB.out | apply Zf | apply Zd | apply Ze) | exact HB.out)⟩⟩
   case round =>
    clear H'
    try clear c2
    try clear c2b0
    try clear c2b1
    try clear p2
    try clear c3
    try clear c3b0
    try clear c3b1
    try clear c4
    obtain ⟨x3_1, x4_1, rfl, HA, HK1, HO_3, HB⟩ := hrel
    cases gk with
    | zero => exact absurd HA.out (by simp [laws_toFileS.l0])
    | succ k1 =>
     have H := HA.out
     clear HA
     simp only [laws_toFileS.l0] at H
     by_cases c6 : x4_1 < (l0.length : Int)
     ·
      rw [if_pos c6] at H
      have c6b0 : decide (x4_1 < (l0.length : Int)) = true := decide_eq_true c6
      clear c6
      by_cases c7 : 0 ≤ x4_1
      ·
       rw [if_pos c7] at H
       have c7b0 : decide (0 ≤ x4_1) = true := decide_eq_true c7
       clear c7
       replace H := Option.bind_eq_some_iff.mp H
       obtain ⟨⟨t216, t217, t220⟩, A80, H⟩ := H
       replace H : (if x4_1 < (x3_1.length : Int) then (laws_toFileS.l0 k1 l0 (x3_1.set (x4_1 : Int).toNat (⟨t216, t217, t220⟩ : S55)) (wrap64 (x4_1 + 1))) else (none)) = some r := H
       have A8 := Zh A80
       clear A80
       by_cases c9 : x4_1 < (x3_1.length : Int)
       ·
        rw [if_pos c9] at H
        have c9b0 : decide (x4_1 < (x3_1.length : Int)) = true := decide_eq_true c9
        clear c9
        obtain ⟨y223, hy223⟩ : ∃ y_ : List (S55), y_ = (x3_1.set (x4_1 : Int).toNat (⟨t216, t217, t220⟩ : S55)) := ⟨_, rfl⟩
        replace H : (laws_toFileS.l0 k1 l0 y223 (wrap64 (x4_1 + 1))) = some r := by first | (rw [hy223]; with_reducible exact H) | (have H2_ := (Option.bind_some _ _).symm.trans H; rw [hy223]; with_reducible exact H2_) | (have H2_ := (Option.bind_some _ _).symm.trans H; with_reducible exact H2_) | with_reducible exact H | (rw [hy223]; exact H) | exact H
        have Ny223 := Zh hy223
        clear hy223
        have H' := Zh H
        clear H
        have p215 : 0 ≤ (x4_1 : Int) := Zo
        have q215 : x4_1 < (l0.length : Int) := Zo
        obtain ⟨ad215, A215_1, c215_1, A215_2, c215_2, e215, hx215_0, hx215_1, hx215_2, hl215_1, hi215_1, hl215_2, hi215_2⟩ := at_T83 HR0.out x4_1 p215 q215
        cases e215
        replace hx215_0 := Zc HB.out hx215_0
        replace hx215_1 := Zc HB.out hx215_1
        replace hx215_2 := Zc HB.out hx215_2
        have HR215_1 := Zh hi215_1
        have HC215_1 := Zh hl215_1
        clear hi215_1 hl215_1
        have HR215_2 := Zh hi215_2
        have HC215_2 := Zh hl215_2
        clear hi215_2 hl215_2
        replace p215 := eq_true p215
        replace q215 := eq_true q215
        go_wp2_with (first | ((with_reducible refine gate_callee (f := 78) rfl ?_); refine goesL_ (some 20) rfl rfl Tryd.func78 (by kernel_rfl) rfl #[.agg #[.string ((rd_T83 l0 x4_1).f0), .slice A215_1 ((rd_T83 l0 x4_1).f1).length c215_1, .slice A215_2 ((rd_T83 l0 x4_1).f2).length c215_2]] rfl (by (try simp only [List.map_toArray, List.map_cons, List.map_nil]); first | done | rfl | (simp only [List.length_drop, List.length_take]; rfl)) ?_; (with_reducible refine (laws_toFile.calls k1 ((rd_T83 l0 x4_1).f0) _ _ ((rd_T83 l0 x4_1).f1) _ _ ((rd_T83 l0 x4_1).f2) t216 t217 t220 _ ?side1 ?side2 ?side3 ?side4 A8.out).mono ?_); (case side1 => repeat (first | exact (C_below HR215_1.out HB.out) | (with_reducible refine C_alloc ?_ _) | (with_reducible refine C_drewN ?_ _) | (with_reducible refine C_drew ?_))); (case side2 => exact HC215_1.out); (case side3 => repeat (first | exact (C_below HR215_2.out HB.out) | (with_reducible refine C_alloc ?_ _) | (with_reducible refine C_drewN ?_ _) | (with_reducible refine C_drew ?_))); (case side4 => exact HC215_2.out); rintro e w11 ⟨v218, v221, rfl, ho0, ho1, hb⟩; refine ⟨_, rfl, ?_⟩; have n0_ := Zh (S_mono (S_told (S_told (S_old (by (with_reducible repeat (first | apply S_alloc | apply S_drewN | apply S_drew)); exact HO_3.out) hb) (R_base ho0)) (R_base ho1)) (fun _ h_ => h_.1)); have n1_ := Zh (R_lower ho0 (below_size Zs)); have n2_ := Zh (R_lower ho1 (below_size Zs)); have n3_ := Zh (Zl Zs hb); clear HO_3; clear HB; have HO_3 := n0_; have HO219 := n1_; have HO222 := n2_; have HB := n3_; clear n0_ n1_ n2_ n3_; (try clear hb); (try clear hb2); (try clear hk); (try clear hi); (try clear ho0); (try clear ho1); have p10 : 0 ≤ (x4_1 : Int) := Zo; have q10 : (x4_1 : Int) < ((x3_1.length : Int) : Int) := Zo; obtain ⟨go10, co10, eo10, gb10, gl10, cl10, HG10⟩ := S_form HO_3.out (by omega); (first | cases eo10 | (injection eo10 with ea_ en_ ec_; (first | subst ea_ | (injection ea_ with ea_; subst ea_)); subst ec_; clear en_)); have GB10 := Zh gb10; have GG10 := Zh HG10; clear gb10 gl10 HG10; obtain ⟨_, ce10, hcl10, hM10, hcc10, hfr10, _, _⟩ := S_elem HO_3.out z55 (x4_1 : Int) p10 q10; obtain ⟨ve10_1, ve10_2, rfl, ge10_1, ge10_2⟩ := k55_openM hM10; have hx10_0 : w11.cell? ⟨go10, (x4_1 : Int).toNat * 3, none⟩ = some (.string ((rd_T55 x3_1 x4_1).f0)) := hcc10 0 _ rfl; have hx10_1 : w11.cell? ⟨go10, (x4_1 : Int).toNat * 3 + 1, none⟩ = some (ve10_1) := hcc10 1 _ rfl; have hx10_2 : w11.cell? ⟨go10, (x4_1 : Int).toNat * 3 + 2, none⟩ = some (ve10_2) := hcc10 2 _ rfl; have hf10_0 : w11.frozen? ⟨go10, (x4_1 : Int).toNat * 3, none⟩ = false := hfr10 0; have hf10_1 : w11.frozen? ⟨go10, (x4_1 : Int).toNat * 3 + 1, none⟩ = false := hfr10 1; have hf10_2 : w11.frozen? ⟨go10, (x4_1 : Int).toNat * 3 + 2, none⟩ = false := hfr10 2; clear hcl10 hcc10 hfr10; (try clear hM10); replace p10 := eq_true p10; replace q10 := eq_true q10; obtain ⟨Ao14, co14, eo14⟩ := R_slice HO219.out; subst eo14; obtain ⟨Ao15, co15, eo15⟩ := R_slice HO222.out; subst eo15; have n_ := Zh (S_mono (ok' := (fun k_ => some k_ ≠ (.slice Ao14 t217.length co14 : Value).ownBlock ∧ some k_ ≠ (.slice Ao15 t220.length co15 : Value).ownBlock)) HO_3.out (fun k_ hk => ⟨hk.1.2, hk.2⟩)); clear HO_3; have HO_3 := n_; clear n_; have HX12 := Zh (show Kd.S k55 55 w11 w.heap.size (fun k_ => ((fun _ => True)) k_ ∧ ¬ ((fun k_ => some k_ = (.slice Ao14 t217.length co14 : Value).ownBlock ∨ some k_ = (.slice Ao15 t220.length co15 : Value).ownBlock)) k_) (.slice (some ⟨go10, 0, none⟩) x3_1.length co10) x3_1 from (by (with_reducible repeat (first | apply S_alloc | apply S_drewN | apply S_drew)); exact S_mono HO_3.out (fun k_ hk => ⟨trivial, fun e_ => e_.elim (fun h_ => hk.1 h_) (fun h_ => hk.2 h_)⟩))); obtain ⟨oki12, ce12, hcl12, hM12, hcc12, hfr12, hoki12, hH12⟩ := S_elem HX12.out z55 (x4_1 : Int) (Zo) (by have h_ : (x4_1 : Int) < ((x3_1.length : Int) : Int) := Zo; first | exact h_ | (have e_ := (S_reads' HO_3.out).1; omega) | simpa using h_); obtain ⟨ve12_1, ve12_2, rfl, ge12_1, ge12_2⟩ := k55_openM hM12; have HP12 := S_seg hH12 (Zo) (by have h_ : (x4_1 : Int) < ((x3_1.length : Int) : Int) := Zo; first | exact h_ | (have e_ := (S_reads' HO_3.out).1; omega) | simpa using h_) (seg := [.string t216, .slice Ao14 t217.length co14, .slice Ao15 t220.length co15]) (j := 0) (show 3 ≤ 3 from by decide) (x' := (⟨t216, t217, t220⟩ : S55)) (k55_mkM _ _ _ (⟨t216, t217, t220⟩ : S55) (R_mono (R_tight rfl (R_mono (ok' := fun k_ => ((fun _ => True)) k_ ∧ k_ ≠ go10) (R_apart' (HO219.out) (S_typed HO_3.out) (by decide)) (fun k_ hk => ⟨trivial, fun e_ => (hk.2) (by rw [e_]; rfl)⟩))) (fun _ h_ => Or.inr (Or.inl h_))) (R_mono (R_tight rfl (R_mono (ok' := fun k_ => ((fun _ => True)) k_ ∧ k_ ≠ go10) (R_apart' (HO222.out) (S_typed HO_3.out) (by decide)) (fun k_ hk => ⟨trivial, fun e_ => (hk.2) (by rw [e_]; rfl)⟩))) (fun _ h_ => Or.inr (Or.inr (h_)))) (AP.ne_of (HO219.out) (HO222.out) (by first | exact .inl (fun k_ hk_ => by first | exact hk_ | exact hk_.1 | exact hk_.2 | exact hk_.1.1 | exact hk_.1.2 | exact hk_.2.1 | exact hk_.2.2) | exact .inr (fun k_ hk_ => by first | exact hk_ | exact hk_.1 | exact hk_.2 | exact hk_.1.1 | exact hk_.1.2 | exact hk_.2.1 | exact hk_.2.2)))) (fun _ hk => hk) (fun k_ hk_ => hk_.elim (fun h_ => ((R_mono (ok' := fun k_ => ((fun _ => True)) k_ ∧ k_ ≠ go10) (R_apart' (HO219.out) (S_typed HO_3.out) (by decide)) (fun k_ hk => ⟨trivial, fun e_ => (hk.2) (by rw [e_]; rfl)⟩))).1 k_ h_.symm) (fun h_ => ((R_mono (ok' := fun k_ => ((fun _ => True)) k_ ∧ k_ ≠ go10) (R_apart' (HO222.out) (S_typed HO_3.out) (by decide)) (fun k_ hk => ⟨trivial, fun e_ => (hk.2) (by rw [e_]; rfl)⟩))).1 k_ h_.symm)); have hx12_0 := hcc12 0 _ rfl; (try simp only [show (k55).sz = 3 from rfl, Nat.mul_one, Nat.add_zero] at hx12_0); have hf12_0 := hfr12 0; (try simp only [show (k55).sz = 3 from rfl, Nat.mul_one, Nat.add_zero] at hf12_0); have hx12_1 := hcc12 1 _ rfl; (try simp only [show (k55).sz = 3 from rfl, Nat.mul_one, Nat.add_zero] at hx12_1); have hf12_1 := hfr12 1; (try simp only [show (k55).sz = 3 from rfl, Nat.mul_one, Nat.add_zero] at hf12_1); have hx12_2 := hcc12 2 _ rfl; (try simp only [show (k55).sz = 3 from rfl, Nat.mul_one, Nat.add_zero] at hx12_2); have hf12_2 := hfr12 2; (try simp only [show (k55).sz = 3 from rfl, Nat.mul_one, Nat.add_zero] at hf12_2); clear hcl12 hcc12 hfr12; (try clear hM12); (try clear hoki12); (try clear hH12)) | ((with_reducible refine gate_store (t := 55) (p := 21) rfl ?_); refine store_event (t := 55) (p := 21) (v := ?vo_w13) (w1 := (((w11.setCell ⟨go10, (x4_1 : Int).toNat * 3, none⟩ (.string t216)).setCell ⟨go10, (x4_1 : Int).toNat * 3 + 1, none⟩ (.slice Ao14 t217.length co14)).setCell ⟨go10, (x4_1 : Int).toNat * 3 + 2, none⟩ (.slice Ao15 t220.length co15))) ?hg ?ho ?hn ?hr ?_; (case ho => rfl); (case hg => rfl); (case hn => rfl); (case hr => first | (go_simp; done) | (go_simp; rfl)); intro w13 hw; have hg : w11.grownBy w13 (some go10) := (by rw [hw]; exact HP12.2); have hp_ : Kd.S k55 55 w13 w.heap.size (fun _ => True) (.slice (some ⟨go10, 0, none⟩) x3_1.length co10) y223 := (by rw [hw, Ny223.out]; exact HP12.1); clear HP12; have n0_ := Zh (hp_); have n1_ := Zh ((by rw [hw]; exact Zg (Zg (Zg (HB.out) GB10.out) GB10.out) GB10.out : Below w.heap.size w w13)); clear HO_3; clear HB; clear HO219; clear HO222; have HO_3 := n0_; have HB := n1_; clear n0_ n1_; clear hg hw hp_))
        go_roundg k1
        case measure => have := HK1.out; omega
        case rel => exact ⟨(y223), (wrap64 (x4_1 + 1)), (by first | rfl | (simp; done) | (simp [*]; done)), H', ⟨by have := HK1.out; omega⟩, ⟨by (with_reducible repeat (first | apply S_alloc | apply S_drewN | apply S_drew)); exact HO_3.out⟩, ⟨by repeat (first | (with_reducible first | exact HB.out | apply Zf | apply Zd | apply Ze) | exact HB.out)⟩⟩
       rw [if_neg c9] at H
       exact absurd H (by simp)
      rw [if_neg c7] at H
      exact absurd H (by simp)
     rw [if_neg c6] at H
     have c6b0 : decide (x4_1 < (l0.length : Int)) = false := decide_eq_false c6
     clear c6
     obtain rfl := Option.some.inj H
     go_wp2
     go_ret
     exact ⟨_, by first | rfl | (simp [errW_none, errW_some] <;> rfl) | (simp [*, errW_none, errW_some] <;> rfl), by (with_reducible repeat (first | apply S_alloc | apply S_drewN | apply S_drew)); exact HO_3.out, by repeat (first | (with_reducible first | exact HB.out | apply Zf | apply Zd | apply Ze) | exact HB.out)⟩
  rw [if_neg c3] at H
  exact absurd H (by simp)
 rw [if_neg c2] at H
 exact absurd H (by simp)
def laws_toDisk.f (k : Nat) (l0_0 : List (S83)) : Option ((List (S55))) := (laws_toFileS.f k l0_0).bind fun t227 => (some t227)
set_option maxHeartbeats 8000000 in
set_option maxRecDepth 100000 in
theorem laws_toDisk.calls (k : Nat) (A0_0 : Option Addr) (c0_0 : Nat) (l0_0 : List (S83)) (r : List (S55)) (w : World) (hr0_0 : Kd.C k83 w A0_0 l0_0.length l0_0) (hc0_0 : l0_0.length ≤ c0_0) (h : laws_toDisk.f k l0_0 = some r) :
  Calls Tryd.prog 13 #[.agg #[.slice A0_0 l0_0.length c0_0]] w fun e w' => ∃ v0_ : Value, e = .returned (.agg #[v0_]) ∧ Kd.S k55 55 w' w.heap.size (fun _ => True) v0_ r ∧ Below w.heap.size w w' := by
 have hu24 := Tryd.underlying24
 have hu28 := Tryd.underlying28
 have HR0_0 := Zh hr0_0
 have HC0_0 := Zh hc0_0
 clear hr0_0 hc0_0
 have HB := Zh (Below.refl w.heap.size w)
 have H : ((laws_toFileS.f k l0_0).bind fun t227 => (some t227)) = some r := h
 clear h
 replace H := Option.bind_eq_some_iff.mp H
 obtain ⟨t227, A20, H⟩ := H
 replace H : (some t227) = some r := H
 have A2 := Zh A20
 clear A20
 obtain rfl := Option.some.inj H
 go_enter Tryd.func13, Tryd.ntmps13
 go_wp2_with (first | ((with_reducible refine gate_dst (N := 1) rfl ?_); refine box_event ?hg (N := 1) ?hd (cs := #[.slice A0_0 l0_0.length c0_0]) (t := 24) ?hr ?_; (case hd => rfl); (case hg => rfl); (case hr => first | (go_simp; done) | (go_simp; rfl)); intro gb224 hg w3 hbox hb; have n0_ := Zh (Zl Zs hb); have n1_ := Zh (hbox); have n2_ := Zh ((by rw [hg]; exact (below_size Zs) : w.heap.size ≤ gb224)); have n3_ := Zh ((by rw [hg]; exact (below_size Zs) : w.heap.size ≤ gb224)); clear HB; have HB := n0_; have BK224 := n1_; have GW224 := n2_; have GE224 := n3_; clear n0_ n1_ n2_ n3_; clear hb hbox hg) | ((with_reducible refine gate_dst (N := 2) rfl ?_); refine box_event ?hg (N := 2) ?hd (cs := #[.slice none 0 0]) (t := 28) ?hr ?_; (case hd => rfl); (case hg => rfl); (case hr => first | (go_simp; done) | (go_simp; rfl)); intro gb225 hg w4 hbox hb; have n0_ := Zh (Zm (g := gb224) (o := .cells #[.slice A0_0 l0_0.length c0_0] 24 (0, 0)) Zk hb); have n1_ := Zh (Zl Zs hb); have n2_ := Zh (hbox); have n3_ := Zh ((by rw [hg]; exact (below_size Zs) : w.heap.size ≤ gb225)); have n4_ := Zh ((by rw [hg]; exact (below_size Zs) : w.heap.size ≤ gb225)); have n5_ := Zh ((by rw [hg]; exact Nat.ne_of_lt (blk_lt (g := gb224) (o := .cells #[.slice A0_0 l0_0.length c0_0] 24 (0, 0)) Zk) : gb224 ≠ gb225)); have n6_ := Zh ((by rw [hg]; exact Nat.ne_of_gt (blk_lt (g := gb224) (o := .cells #[.slice A0_0 l0_0.length c0_0] 24 (0, 0)) Zk) : gb225 ≠ gb224)); clear BK224; clear HB; have BK224 := n0_; have HB := n1_; have BK225 := n2_; have GW225 := n3_; have GE225 := n4_; have NB224_225 := n5_; have NB225_224 := n6_; clear n0_ n1_ n2_ n3_ n4_ n5_ n6_; clear hb hbox hg) | ((with_reducible refine gate_dst (N := 3) rfl ?_); refine box_event ?hg (N := 3) ?hd (cs := #[.slice none 0 0]) (t := 28) ?hr ?_; (case hd => rfl); (case hg => rfl); (case hr => first | (go_simp; done) | (go_simp; rfl)); intro gb226 hg w5 hbox hb; have n0_ := Zh (Zm (g := gb224) (o := .cells #[.slice A0_0 l0_0.length c0_0] 24 (0, 0)) Zk hb); have n1_ := Zh (Zm (g := gb225) (o := .cells #[.slice none 0 0] 28 (0, 0)) Zk hb); have n2_ := Zh (Zl Zs hb); have n3_ := Zh (hbox); have n4_ := Zh ((by rw [hg]; exact (below_size Zs) : w.heap.size ≤ gb226)); have n5_ := Zh ((by rw [hg]; exact (below_size Zs) : w.heap.size ≤ gb226)); have n6_ := Zh ((by rw [hg]; exact Nat.ne_of_lt (blk_lt (g := gb224) (o := .cells #[.slice A0_0 l0_0.length c0_0] 24 (0, 0)) Zk) : gb224 ≠ gb226)); have n7_ := Zh ((by rw [hg]; exact Nat.ne_of_gt (blk_lt (g := gb224) (o := .cells #[.slice A0_0 l0_0.length c0_0] 24 (0, 0)) Zk) : gb226 ≠ gb224)); have n8_ := Zh ((by rw [hg]; exact Nat.ne_of_lt (blk_lt (g := gb225) (o := .cells #[.slice none 0 0] 28 (0, 0)) Zk) : gb225 ≠ gb226)); have n9_ := Zh ((by rw [hg]; exact Nat.ne_of_gt (blk_lt (g := gb225) (o := .cells #[.slice none 0 0] 28 (0, 0)) Zk) : gb226 ≠ gb225)); clear BK224; clear BK225; clear HB; have BK224 := n0_; have BK225 := n1_; have HB := n2_; have BK226 := n3_; have GW226 := n4_; have GE226 := n5_; have NB224_226 := n6_; have NB226_224 := n7_; have NB225_226 := n8_; have NB226_225 := n9_; clear n0_ n1_ n2_ n3_ n4_ n5_ n6_ n7_ n8_ n9_; clear hb hbox hg; have hnb6 := NB224_225.out; have hnc6 := NB225_224.out; have hnb7 := NB224_226.out; have hnc7 := NB226_224.out; have hcz8_0 : w5.cell? ⟨gb224, 0, none⟩ = some (.slice A0_0 l0_0.length c0_0) := (blk_cell BK224.out 0).trans rfl; have hfz8_0 := Zn BK224.out 0) | ((with_reducible refine gate_callee (f := 44) rfl ?_); refine goesL_ (some 6) rfl rfl Tryd.func44 (by kernel_rfl) rfl #[.slice A0_0 l0_0.length c0_0] rfl (by (try simp only [List.map_toArray, List.map_cons, List.map_nil]); first | done | rfl | (simp only [List.length_drop, List.length_take]; rfl)) ?_; (with_reducible refine (laws_toFileS.calls k _ _ l0_0 t227 _ ?side1 ?side2 A2.out).mono ?_); (case side1 => repeat (first | exact (C_below HR0_0.out HB.out) | (with_reducible refine C_alloc ?_ _) | (with_reducible refine C_drewN ?_ _) | (with_reducible refine C_drew ?_))); (case side2 => exact HC0_0.out); rintro e w9 ⟨v228, rfl, ho0, hb⟩; refine ⟨_, rfl, ?_⟩; have n0_ := Zh (S_lower ho0 (below_size Zs)); have n1_ := Zh (Zm (g := gb224) (o := .cells #[.slice A0_0 l0_0.length c0_0] 24 (0, 0)) Zk hb); have n2_ := Zh (Zm (g := gb225) (o := .cells #[.slice none 0 0] 28 (0, 0)) Zk hb); have n3_ := Zh (Zm (g := gb226) (o := .cells #[.slice none 0 0] 28 (0, 0)) Zk hb); have n4_ := Zh (Zl Zs hb); clear BK224; clear BK225; clear BK226; clear HB; have HO229 := n0_; have BK224 := n1_; have BK225 := n2_; have BK226 := n3_; have HB := n4_; clear n0_ n1_ n2_ n3_ n4_; (try clear hb); (try clear hb2); (try clear hk); (try clear hi); (try clear ho0); obtain ⟨Ao10, co10, eo10⟩ := S_slice HO229.out; subst eo10; have hnb11 := NB226_225.out; have hnc11 := NB225_226.out; have hcz12_0 : w9.cell? ⟨gb226, 0, none⟩ = some (.slice none 0 0) := (blk_cell BK226.out 0).trans rfl; have hfz12_0 := Zn BK226.out 0; have hcz13_0 : w9.cell? ⟨gb225, 0, none⟩ = some (.slice none 0 0) := (blk_cell BK225.out 0).trans rfl; have hfz13_0 := Zn BK225.out 0))
 refine bodyPost_ret (results_cell_row rfl _ _ gb225 28 #[.slice Ao10 t227.length co10] (0, 0) _ rfl (by (with_reducible repeat (first | refine Za ?_ _ | refine Zb ?_ | refine blk_alloc ?_ _)); refine blk_put (cs := #[.slice none 0 0]) ?_ 0 _ rfl; (with_reducible repeat (first | refine Za ?_ _ | refine Zb ?_ | refine blk_alloc ?_ _)); refine Zp ?_ NB225_226.out _; (with_reducible repeat (first | refine Za ?_ _ | refine Zb ?_ | refine blk_alloc ?_ _)); exact BK225.out) Tryd.underlying28 rfl (by kernel_rfl)) rfl ?_
 exact ⟨_, by first | rfl | (simp [errW_none, errW_some] <;> rfl) | (simp [*, errW_none, errW_some] <;> rfl), by (with_reducible repeat (first | apply S_alloc | apply S_drewN | apply S_drew)); exact S_mono (S_far (p := ⟨gb225, 0, none⟩) (S_far (p := ⟨gb226, 0, none⟩) (S_types (S_types HO229.out BK226.out (by decide)) BK225.out (by decide)) (fun _ hk => hk.1.2) (.slice Ao10 t227.length co10)) (fun _ hk => hk.2) (.slice Ao10 t227.length co10)) (fun _ hk => trivial), by repeat (first | (with_reducible first | exact HB.out | apply Zf | apply Zd | apply Ze | refine Zg ?_ GE224.out | refine Zg ?_ GE225.out | refine Zg ?_ GE226.out) | exact HB.out)⟩
end Go.Proofs.YtcgojdhbphocgaaDoor.F

namespace Go.Proofs.YtcgojdhbphocgaaDoor.SQ
open Go.RowKit Go.Proofs.YtcgojdhbphocgaaDoorW.PrintWords Go.Proofs.YtcgojdhbphocgaaDoorW.PrintLast Go.Proofs.YtcgojdhbphocgaaDoorW.PrintMore
section
variable {P : Program} {md : Region.Mode} {ops : Array Oper} {ds : List Nat} {S : World → Prop} {Q : Exit → Act → World → Prop} {oi : Oper} {v : Value} {fuel : Nat} {l : Array Bool} {a a' : Act} {w : World} {T : Bool × List (List Nat × List Nat)} {B : List Nat}
theorem pu (i N : Nat) (hT : Aside0 (rtab md ops = T)) (h : wpAnyLast P md ops Q S ds fuel (l.setIfInBounds i true) a' w)
    (hk : anyT T l.toList (l.setIfInBounds i true).toList i = true := by kernel_rfl) (hi : ops[i]? = some oi := by rfl) (hN : oi.dst = some N := by rfl) (hQ : ∀ c a w, Q (.panic c) (a.put oi.dst v) w → Q (.panic c) a w := by exact fun _ _ _ h => h)
    (hw : Region.wanted oi (yielded ops a.tmps) = true := by rfl) (hv : ∀ w', (execOp a.eval oi).run P w' = .ok (.value v) w' := by intro w'; go_simp; with_reducible rfl)
    (ha : a.put (some N) v = a' := by simp only [Act.put, List.setIfInBounds_toArray, List.set_cons_zero, List.set_cons_succ, i64_w, i32_w]; rfl) : wpAnyLast P md ops Q S ds (fuel + 1) l a w :=
  pure_ (l.setIfInBounds i true) hi hN (any_of hT.out hk) hQ (.inl ⟨hw, hv⟩) ha h
theorem of (i N : Nat) (hT : Aside0 (rtab md ops = T)) (h : wpAnyLast P md ops Q S ds fuel (l.setIfInBounds i true) a' w)
    (hk : anyT T l.toList (l.setIfInBounds i true).toList i = true := by kernel_rfl) (hi : ops[i]? = some oi := by rfl) (hN : oi.dst = some N := by rfl) (hQ : ∀ c a w, Q (.panic c) (a.put oi.dst undef) w → Q (.panic c) a w := by exact fun _ _ _ h => h)
    (hw : Region.wanted oi (yielded ops a.tmps) = false := by rfl)
    (ha : a.put (some N) undef = a' := by simp only [Act.put, List.setIfInBounds_toArray, List.set_cons_zero, List.set_cons_succ, i64_w, i32_w]; rfl) : wpAnyLast P md ops Q S ds (fuel + 1) l a w :=
  pure_ (l.setIfInBounds i true) hi hN (any_of hT.out hk) hQ (.inr ⟨hw, rfl⟩) ha h
theorem tk (i N : Nat) (hT : Aside0 (rtab md ops = T)) (hB : Aside0 (waitsOk T.2 B = true)) (hS : S w) (h : wpAnyLast P md ops Q S ds fuel (l.setIfInBounds i true) a' w)
    (hk : takeW T B ds l.toList (l.setIfInBounds i true).toList i = true := by kernel_rfl) (hi : ops[i]? = some oi := by rfl) (hN : oi.dst = some N := by rfl) (hQ : ∀ c a w, Q (.panic c) (a.put oi.dst v) w → Q (.panic c) a w := by exact fun _ _ _ h => h)
    (hw : Region.wanted oi (yielded ops a.tmps) = true := by rfl) (hv : ∀ w', S w' → (execOp a.eval oi).run P w' = .ok (.value v) w' := by intro w' hs_; go_simp; with_reducible rfl)
    (ha : a.put (some N) v = a' := by simp only [Act.put, List.setIfInBounds_toArray, List.set_cons_zero, List.set_cons_succ, i64_w, i32_w]; rfl) : wpAnyLast P md ops Q S ds (fuel + 1) l a w :=
  take_ (l.setIfInBounds i true) hi hN (take_ofW hT.out hB.out hk) hQ (.inl ⟨hw, hv⟩) hS ha h
end
end Go.Proofs.YtcgojdhbphocgaaDoor.SQ

namespace Go.Proofs.YtcgojdhbphocgaaDoor.F
open Go.RowKit Go.Proofs.YtcgojdhbphocgaaDoorW.PrintWords Go.Proofs.YtcgojdhbphocgaaDoorW.PrintWords.Kd Go.Proofs.YtcgojdhbphocgaaDoorW.PrintMore.Kd Go.Proofs.YtcgojdhbphocgaaDoorW.PrintLast Go.Proofs.YtcgojdhbphocgaaDoorW.PrintMore
attribute [local go_sem] max2_int min2_int max_two min_two max_three min_three max_four min_four   -- for this text's walks alone
set_option linter.unusedVariables false
set_option linter.unusedSimpArgs false
def laws_eqByteS.l0 : Nat → List Int → List Int → Int → Option (Bool)
 | 0, _, _, _ => none
 | k + 1, x0, x1, x5 => if x5 < (x0.length : Int) then (if 0 ≤ x5 then (if x5 < (x1.length : Int) then (if (rd x0 x5) = (rd x1 x5) then (laws_eqByteS.l0 k x0 x1 (wrap64 (x5 + 1))) else (some false)) else (none)) else (none)) else (some true)
def laws_eqByteS.f (k : Nat) (l0 : List Int) (l1 : List Int) : Option (Bool) := if (l0.length : Int) = (l1.length : Int) then (laws_eqByteS.l0 k l0 l1 0) else (some false)
set_option maxHeartbeats 8000000 in
set_option maxRecDepth 100000 in
theorem laws_eqByteS.calls (k : Nat) (A0 : Option Addr) (c0 : Nat) (l0 : List Int) (A1 : Option Addr) (c1 : Nat) (l1 : List Int) (r : Bool) (w : World) (hr0 : Kd.C (Kd.int .u8) w A0 l0.length l0) (hc0 : l0.length ≤ c0) (hr1 : Kd.C (Kd.int .u8) w A1 l1.length l1) (hc1 : l1.length ≤ c1) (h : laws_eqByteS.f k l0 l1 = some r) :
  Calls Tryd.prog 30 #[.slice A0 l0.length c0, .slice A1 l1.length c1] w fun e w' => e = .returned (.bool r) ∧ Drawn0 w w' := by
 have HR0 := Zh hr0
 have HC0 := Zh hc0
 clear hr0 hc0
 have HR1 := Zh hr1
 have HC1 := Zh hc1
 clear hr1 hc1
 have H : (if (l0.length : Int) = (l1.length : Int) then (laws_eqByteS.l0 k l0 l1 0) else (some false)) = some r := h
 clear h
 by_cases c3 : (l0.length : Int) = (l1.length : Int)
 ·
  rw [if_pos c3] at H
  have c3b0 : ((l0.length : Int) == (l1.length : Int)) = true := beq_iff_eq.mpr c3
  have c3b1 : ((l0.length : Int) != (l1.length : Int)) = false := bne_eq_false_iff_eq.mpr c3
  have c3b2 : (l0.length == l1.length) = true := by first | simpa using c3 | (simp at c3 ⊢; omega)
  clear c3
  have H' := Zh H
  clear H
  go_enter Tryd.func30, Tryd.ntmps30
  go_wp2
  repeat (go_quiet (fail); try go_wp2)
  go_loopg [5] k (fun kq v5 w' => ∃ (x5_1 : Int), v5 = .int .i64 x5_1 ∧ Aside0 (laws_eqByteS.l0 kq l0 l1 x5_1 = some r) ∧ Aside0 (kq ≤ k) ∧ Drawn0 w w')
  case atStart => exact ⟨(0), (by first | rfl | (simp; done) | (simp [*]; done)), H', ⟨Nat.le_refl _⟩, by repeat (first | exact Drawn0.refl _ | apply Drawn0.step)⟩
  case round =>
   clear H'
   try clear c1
   try clear p2
   try clear c3
   try clear c3b0
   try clear c3b1
   try clear c3b2
   obtain ⟨x5_1, rfl, HA, HK1, ⟨m1, rfl⟩⟩ := hrel
   cases gk with
   | zero => exact absurd HA.out (by simp [laws_eqByteS.l0])
   | succ k1 =>
    have H := HA.out
    clear HA
    simp only [laws_eqByteS.l0] at H
    by_cases c4 : x5_1 < (l0.length : Int)
    ·
     rw [if_pos c4] at H
     have c4b0 : decide (x5_1 < (l0.length : Int)) = true := decide_eq_true c4
     clear c4
     by_cases c5 : 0 ≤ x5_1
     ·
      rw [if_pos c5] at H
      have c5b0 : decide (0 ≤ x5_1) = true := decide_eq_true c5
      clear c5
      by_cases c6 : x5_1 < (l1.length : Int)
      ·
       rw [if_pos c6] at H
       have c6b0 : decide (x5_1 < (l1.length : Int)) = true := decide_eq_true c6
       clear c6
       by_cases c7 : (rd l0 x5_1) = (rd l1 x5_1)
       ·
        rw [if_pos c7] at H
        have c7b0 : ((rd l0 x5_1) == (rd l1 x5_1)) = true := beq_iff_eq.mpr c7
        have c7b1 : ((rd l0 x5_1) != (rd l1 x5_1)) = false := bne_eq_false_iff_eq.mpr c7
        clear c7
        have H' := Zh H
        clear H
        have p273 : 0 ≤ (x5_1 : Int) := Zo
        have q273 : x5_1 < (l0.length : Int) := Zo
        obtain ⟨ad273, e273, hx273_0⟩ := Kd.at_int HR0.out x5_1 p273 q273
        cases e273
        replace p273 := eq_true p273
        replace q273 := eq_true q273
        have p274 : 0 ≤ (x5_1 : Int) := Zo
        have q274 : x5_1 < (l1.length : Int) := Zo
        obtain ⟨ad274, e274, hx274_0⟩ := Kd.at_int HR1.out x5_1 p274 q274
        cases e274
        replace p274 := eq_true p274
        replace q274 := eq_true q274
        go_wp2
        repeat (go_quiet (fail); try go_wp2)
        go_roundg k1
        case measure => have := HK1.out; omega
        case rel => exact ⟨(wrap64 (x5_1 + 1)), (by first | rfl | (simp; done) | (simp [*]; done)), H', ⟨by have := HK1.out; omega⟩, by repeat (first | exact Drawn0.refl _ | apply Drawn0.step)⟩
       rw [if_neg c7] at H
       have c7b0 : ((rd l0 x5_1) == (rd l1 x5_1)) = false := beq_eq_false_iff_ne.mpr c7
       have c7b1 : ((rd l0 x5_1) != (rd l1 x5_1)) = true := bne_iff_ne.mpr c7
       obtain rfl := Option.some.inj H
       have p273 : 0 ≤ (x5_1 : Int) := Zo
       have q273 : x5_1 < (l0.length : Int) := Zo
       obtain ⟨ad273, e273, hx273_0⟩ := Kd.at_int HR0.out x5_1 p273 q273
       cases e273
       replace p273 := eq_true p273
       replace q273 := eq_true q273
       have p274 : 0 ≤ (x5_1 : Int) := Zo
       have q274 : x5_1 < (l1.length : Int) := Zo
       obtain ⟨ad274, e274, hx274_0⟩ := Kd.at_int HR1.out x5_1 p274 q274
       cases e274
       replace p274 := eq_true p274
       replace q274 := eq_true q274
       go_wp2
       repeat (go_quiet (fail); try go_wp2)
       go_ret
       exact ⟨by first | rfl | (simp; done) | (simp [*]; done), by repeat (first | exact Drawn0.refl _ | apply Drawn0.step)⟩
      rw [if_neg c6] at H
      exact absurd H (by simp)
     rw [if_neg c5] at H
     exact absurd H (by simp)
    rw [if_neg c4] at H
    have c4b0 : decide (x5_1 < (l0.length : Int)) = false := decide_eq_false c4
    clear c4
    obtain rfl := Option.some.inj H
    go_wp2
    repeat (go_quiet (fail); try go_wp2)
    go_ret
    exact ⟨by first | rfl | (simp; done) | (simp [*]; done), by repeat (first | exact Drawn0.refl _ | apply Drawn0.step)⟩
 rw [if_neg c3] at H
 have c3b0 : ((l0.length : Int) == (l1.length : Int)) = false := beq_eq_false_iff_ne.mpr c3
 have c3b1 : ((l0.length : Int) != (l1.length : Int)) = true := bne_iff_ne.mpr c3
 have c3b2 : (l0.length == l1.length) = false := by first | simpa using c3 | (simp at c3 ⊢; omega)
 obtain rfl := Option.some.inj H
 go_enter Tryd.func30, Tryd.ntmps30
 go_wp2
 repeat (go_quiet (fail); try go_wp2)
 go_ret
 exact ⟨by first | rfl | (simp; done) | (simp [*]; done), by repeat (first | exact Drawn0.refl _ | apply Drawn0.step)⟩
def laws_eqFile.f (k : Nat) (a0_0 : ByteArray) (l0_1 : List Int) (l0_2 : List Int) (a1_0 : ByteArray) (l1_1 : List Int) (l1_2 : List Int) : Option (Bool) := if a0_0.toList = a1_0.toList then ((laws_eqByteS.f k l0_1 l1_1).bind fun t277 => (if t277 = true then ((laws_eqByteS.f k l0_2 l1_2).bind fun t278 => (if t278 = true then (some true) else (some false))) else (some false))) else (some false)
set_option maxHeartbeats 8000000 in
set_option maxRecDepth 100000 in
theorem laws_eqFile.calls (k : Nat) (a0_0 : ByteArray) (A0_1 : Option Addr) (c0_1 : Nat) (l0_1 : List Int) (A0_2 : Option Addr) (c0_2 : Nat) (l0_2 : List Int) (a1_0 : ByteArray) (A1_1 : Option Addr) (c1_1 : Nat) (l1_1 : List Int) (A1_2 : Option Addr) (c1_2 : Nat) (l1_2 : List Int) (r : Bool) (w : World) (hr0_1 : Kd.C (Kd.int .u8) w A0_1 l0_1.length l0_1) (hc0_1 : l0_1.length ≤ c0_1) (hr0_2 : Kd.C (Kd.int .u8) w A0_2 l0_2.length l0_2) (hc0_2 : l0_2.length ≤ c0_2) (hr1_1 : Kd.C (Kd.int .u8) w A1_1 l1_1.length l1_1) (hc1_1 : l1_1.length ≤ c1_1) (hr1_2 : Kd.C (Kd.int .u8) w A1_2 l1_2.length l1_2) (hc1_2 : l1_2.length ≤ c1_2) (h : laws_eqFile.f k a0_0 l0_1 l0_2 a1_0 l1_1 l1_2 = some r) :
  Calls Tryd.prog 79 #[.agg #[.string a0_0, .slice A0_1 l0_1.length c0_1, .slice A0_2 l0_2.length c0_2], .agg #[.string a1_0, .slice A1_1 l1_1.length c1_1, .slice A1_2 l1_2.length c1_2]] w fun e w' => e = .returned (.bool r) ∧ Below w.heap.size w w' := by
 have hu55 := Tryd.underlying55
 have HR0_1 := Zh hr0_1
 have HC0_1 := Zh hc0_1
 clear hr0_1 hc0_1
 have HR0_2 := Zh hr0_2
 have HC0_2 := Zh hc0_2
 clear hr0_2 hc0_2
 have HR1_1 := Zh hr1_1
 have HC1_1 := Zh hc1_1
 clear hr1_1 hc1_1
 have HR1_2 := Zh hr1_2
 have HC1_2 := Zh hc1_2
 clear hr1_2 hc1_2
 have HB := Zh (Below.refl w.heap.size w)
 have H : (if a0_0.toList = a1_0.toList then ((laws_eqByteS.f k l0_1 l1_1).bind fun t277 => (if t277 = true then ((laws_eqByteS.f k l0_2 l1_2).bind fun t278 => (if t278 = true then (some true) else (some false))) else (some false))) else (some false)) = some r := h
 clear h
 by_cases c3 : a0_0.toList = a1_0.toList
 ·
  rw [if_pos c3] at H
  have c3b0 : (a0_0.toList == a1_0.toList) = true := beq_iff_eq.mpr c3
  have c3b1 : (a0_0.toList != a1_0.toList) = false := bne_eq_false_iff_eq.mpr c3
  clear c3
  replace H := Option.bind_eq_some_iff.mp H
  obtain ⟨t277, A40, H⟩ := H
  replace H : (if t277 = true then ((laws_eqByteS.f k l0_2 l1_2).bind fun t278 => (if t278 = true then (some true) else (some false))) else (some false)) = some r := H
  have A4 := Zh A40
  clear A40
  by_cases c5 : t277 = true
  ·
   subst c5
   have H1 : ((laws_eqByteS.f k l0_2 l1_2).bind fun t278 => (if t278 = true then (some true) else (some false))) = some r := by rw [if_pos rfl] at H; exact H
   clear H
   have H := H1
   clear H1
   replace H := Option.bind_eq_some_iff.mp H
   obtain ⟨t278, A60, H⟩ := H
   replace H : (if t278 = true then (some true) else (some false)) = some r := H
   have A6 := Zh A60
   clear A60
   by_cases c7 : t278 = true
   ·
    subst c7
    have H1 : (some true) = some r := by rw [if_pos rfl] at H; exact H
    clear H
    have H := H1
    clear H1
    obtain rfl := Option.some.inj H
    go_enter Tryd.func79, Tryd.ntmps79
    go_wp2_with (first | ((with_reducible refine gate_dst (N := 2) rfl ?_); refine box_event ?hg (N := 2) ?hd (cs := #[.string a0_0, .slice A0_1 l0_1.length c0_1, .slice A0_2 l0_2.length c0_2]) (t := 55) ?hr ?_; (case hd => rfl); (case hg => rfl); (case hr => first | (go_simp; done) | (go_simp; rfl)); intro gb275 hg w8 hbox hb; have n0_ := Zh (Zl Zs hb); have n1_ := Zh (hbox); have n2_ := Zh ((by rw [hg]; exact (below_size Zs) : w.heap.size ≤ gb275)); have n3_ := Zh ((by rw [hg]; exact (below_size Zs) : w.heap.size ≤ gb275)); clear HB; have HB := n0_; have BK275 := n1_; have GW275 := n2_; have GE275 := n3_; clear n0_ n1_ n2_ n3_; clear hb hbox hg) | ((with_reducible refine gate_dst (N := 3) rfl ?_); refine box_event ?hg (N := 3) ?hd (cs := #[.string a1_0, .slice A1_1 l1_1.length c1_1, .slice A1_2 l1_2.length c1_2]) (t := 55) ?hr ?_; (case hd => rfl); (case hg => rfl); (case hr => first | (go_simp; done) | (go_simp; rfl)); intro gb276 hg w9 hbox hb; have n0_ := Zh (Zm (g := gb275) (o := .cells #[.string a0_0, .slice A0_1 l0_1.length c0_1, .slice A0_2 l0_2.length c0_2] 55 (0, 0)) Zk hb); have n1_ := Zh (Zl Zs hb); have n2_ := Zh (hbox); have n3_ := Zh ((by rw [hg]; exact (below_size Zs) : w.heap.size ≤ gb276)); have n4_ := Zh ((by rw [hg]; exact (below_size Zs) : w.heap.size ≤ gb276)); have n5_ := Zh ((by rw [hg]; exact Nat.ne_of_lt (blk_lt (g := gb275) (o := .cells #[.string a0_0, .slice A0_1 l0_1.length c0_1, .slice A0_2 l0_2.length c0_2] 55 (0, 0)) Zk) : gb275 ≠ gb276)); have n6_ := Zh ((by rw [hg]; exact Nat.ne_of_gt (blk_lt (g := gb275) (o := .cells #[.string a0_0, .slice A0_1 l0_1.length c0_1, .slice A0_2 l0_2.length c0_2] 55 (0, 0)) Zk) : gb276 ≠ gb275)); clear BK275; clear HB; have BK275 := n0_; have HB := n1_; have BK276 := n2_; have GW276 := n3_; have GE276 := n4_; have NB275_276 := n5_; have NB276_275 := n6_; clear n0_ n1_ n2_ n3_ n4_ n5_ n6_; clear hb hbox hg; have hnb10 := NB275_276.out; have hnc10 := NB276_275.out; have hcz11_0 : w9.cell? ⟨gb275, 0, none⟩ = some (.string a0_0) := (blk_cell BK275.out 0).trans rfl; have hcz11_1 : w9.cell? ⟨gb275, 1, none⟩ = some (.slice A0_1 l0_1.length c0_1) := (blk_cell BK275.out 1).trans rfl; have hcz11_2 : w9.cell? ⟨gb275, 2, none⟩ = some (.slice A0_2 l0_2.length c0_2) := (blk_cell BK275.out 2).trans rfl; have hfz11_0 := Zn BK275.out 0; have hfz11_1 := Zn BK275.out 1; have hfz11_2 := Zn BK275.out 2; have hcz12_0 : w9.cell? ⟨gb276, 0, none⟩ = some (.string a1_0) := (blk_cell BK276.out 0).trans rfl; have hcz12_1 : w9.cell? ⟨gb276, 1, none⟩ = some (.slice A1_1 l1_1.length c1_1) := (blk_cell BK276.out 1).trans rfl; have hcz12_2 : w9.cell? ⟨gb276, 2, none⟩ = some (.slice A1_2 l1_2.length c1_2) := (blk_cell BK276.out 2).trans rfl; have hfz12_0 := Zn BK276.out 0; have hfz12_1 := Zn BK276.out 1; have hfz12_2 := Zn BK276.out 2) | ((with_reducible refine gate_callee (f := 30) rfl ?_); refine goesL_ (some 14) rfl rfl Tryd.func30 (by kernel_rfl) rfl #[.slice A0_1 l0_1.length c0_1, .slice A1_1 l1_1.length c1_1] rfl (by (try simp only [List.map_toArray, List.map_cons, List.map_nil]); first | done | rfl | (simp only [List.length_drop, List.length_take]; rfl)) ?_; (with_reducible refine (laws_eqByteS.calls k _ _ l0_1 _ _ l1_1 true _ ?side1 ?side2 ?side3 ?side4 A4.out).mono ?_); (case side1 => repeat (first | exact (C_below HR0_1.out HB.out) | (with_reducible refine C_alloc ?_ _) | (with_reducible refine C_drewN ?_ _) | (with_reducible refine C_drew ?_))); (case side2 => exact HC0_1.out); (case side3 => repeat (first | exact (C_below HR1_1.out HB.out) | (with_reducible refine C_alloc ?_ _) | (with_reducible refine C_drewN ?_ _) | (with_reducible refine C_drew ?_))); (case side4 => exact HC1_1.out); rintro e w' ⟨rfl, ⟨nd, rfl⟩⟩; refine ⟨_, rfl, ?_⟩) | ((with_reducible refine gate_callee (f := 30) rfl ?_); refine goesL_ (some 20) rfl rfl Tryd.func30 (by kernel_rfl) rfl #[.slice A0_2 l0_2.length c0_2, .slice A1_2 l1_2.length c1_2] rfl (by (try simp only [List.map_toArray, List.map_cons, List.map_nil]); first | done | rfl | (simp only [List.length_drop, List.length_take]; rfl)) ?_; (with_reducible refine (laws_eqByteS.calls k _ _ l0_2 _ _ l1_2 true _ ?side1 ?side2 ?side3 ?side4 A6.out).mono ?_); (case side1 => repeat (first | exact (C_below HR0_2.out Zs) | (with_reducible refine C_alloc ?_ _) | (with_reducible refine C_drewN ?_ _) | (with_reducible refine C_drew ?_))); (case side2 => exact HC0_2.out); (case side3 => repeat (first | exact (C_below HR1_2.out Zs) | (with_reducible refine C_alloc ?_ _) | (with_reducible refine C_drewN ?_ _) | (with_reducible refine C_drew ?_))); (case side4 => exact HC1_2.out); rintro e w' ⟨rfl, ⟨nd, rfl⟩⟩; refine ⟨_, rfl, ?_⟩))
    go_ret
    exact ⟨by first | rfl | (simp [errW_none, errW_some] <;> rfl) | (simp [*, errW_none, errW_some] <;> rfl), by repeat (first | (with_reducible first | exact HB.out | apply Zf | apply Zd | apply Ze | refine Zg ?_ GE275.out | refine Zg ?_ GE276.out) | exact HB.out)⟩
   replace c7 := Bool.eq_false_iff.mpr c7
   subst c7
   have H1 : (some false) = some r := by rw [if_neg (show ¬ (false = true) by decide)] at H; exact H
   clear H
   have H := H1
   clear H1
   obtain rfl := Option.some.inj H
   go_enter Tryd.func79, Tryd.ntmps79
   go_wp2_with (first | ((with_reducible refine gate_dst (N := 2) rfl ?_); refine box_event ?hg (N := 2) ?hd (cs := #[.string a0_0, .slice A0_1 l0_1.length c0_1, .slice A0_2 l0_2.length c0_2]) (t := 55) ?hr ?_; (case hd => rfl); (case hg => rfl); (case hr => first | (go_simp; done) | (go_simp; rfl)); intro gb275 hg w13 hbox hb; have n0_ := Zh (Zl Zs hb); have n1_ := Zh (hbox); have n2_ := Zh ((by rw [hg]; exact (below_size Zs) : w.heap.size ≤ gb275)); have n3_ := Zh ((by rw [hg]; exact (below_size Zs) : w.heap.size ≤ gb275)); clear HB; have HB := n0_; have BK275 := n1_; have GW275 := n2_; have GE275 := n3_; clear n0_ n1_ n2_ n3_; clear hb hbox hg) | ((with_reducible refine gate_dst (N := 3) rfl ?_); refine box_event ?hg (N := 3) ?hd (cs := #[.string a1_0, .slice A1_1 l1_1.length c1_1, .slice A1_2 l1_2.length c1_2]) (t := 55) ?hr ?_; (case hd => rfl); (case hg => rfl); (case hr => first | (go_simp; done) | (go_simp; rfl)); intro gb276 hg w14 hbox hb; have n0_ := Zh (Zm (g := gb275) (o := .cells #[.string a0_0, .slice A0_1 l0_1.length c0_1, .slice A0_2 l0_2.length c0_2] 55 (0, 0)) Zk hb); have n1_ := Zh (Zl Zs hb); have n2_ := Zh (hbox); have n3_ := Zh ((by rw [hg]; exact (below_size Zs) : w.heap.size ≤ gb276)); have n4_ := Zh ((by rw [hg]; exact (below_size Zs) : w.heap.size ≤ gb276)); have n5_ := Zh ((by rw [hg]; exact Nat.ne_of_lt (blk_lt (g := gb275) (o := .cells #[.string a0_0, .slice A0_1 l0_1.length c0_1, .slice A0_2 l0_2.length c0_2] 55 (0, 0)) Zk) : gb275 ≠ gb276)); have n6_ := Zh ((by rw [hg]; exact Nat.ne_of_gt (blk_lt (g := gb275) (o := .cells #[.string a0_0, .slice A0_1 l0_1.length c0_1, .slice A0_2 l0_2.length c0_2] 55 (0, 0)) Zk) : gb276 ≠ gb275)); clear BK275; clear HB; have BK275 := n0_; have HB := n1_; have BK276 := n2_; have GW276 := n3_; have GE276 := n4_; have NB275_276 := n5_; have NB276_275 := n6_; clear n0_ n1_ n2_ n3_ n4_ n5_ n6_; clear hb hbox hg; have hnb15 := NB275_276.out; have hnc15 := NB276_275.out; have hcz16_0 : w14.cell? ⟨gb275, 0, none⟩ = some (.string a0_0) := (blk_cell BK275.out 0).trans rfl; have hcz16_1 : w14.cell? ⟨gb275, 1, none⟩ = some (.slice A0_1 l0_1.length c0_1) := (blk_cell BK275.out 1).trans rfl; have hcz16_2 : w14.cell? ⟨gb275, 2, none⟩ = some (.slice A0_2 l0_2.length c0_2) := (blk_cell BK275.out 2).trans rfl; have hfz16_0 := Zn BK275.out 0; have hfz16_1 := Zn BK275.out 1; have hfz16_2 := Zn BK275.out 2; have hcz17_0 : w14.cell? ⟨gb276, 0, none⟩ = some (.string a1_0) := (blk_cell BK276.out 0).trans rfl; have hcz17_1 : w14.cell? ⟨gb276, 1, none⟩ = some (.slice A1_1 l1_1.length c1_1) := (blk_cell BK276.out 1).trans rfl; have hcz17_2 : w14.cell? ⟨gb276, 2, none⟩ = some (.slice A1_2 l1_2.length c1_2) := (blk_cell BK276.out 2).trans rfl; have hfz17_0 := Zn BK276.out 0; have hfz17_1 := Zn BK276.out 1; have hfz17_2 := Zn BK276.out 2) | ((with_reducible refine gate_callee (f := 30) rfl ?_); refine goesL_ (some 14) rfl rfl Tryd.func30 (by kernel_rfl) rfl #[.slice A0_1 l0_1.length c0_1, .slice A1_1 l1_1.length c1_1] rfl (by (try simp only [List.map_toArray, List.map_cons, List.map_nil]); first | done | rfl | (simp only [List.length_drop, List.length_take]; rfl)) ?_; (with_reducible refine (laws_eqByteS.calls k _ _ l0_1 _ _ l1_1 true _ ?side1 ?side2 ?side3 ?side4 A4.out).mono ?_); (case side1 => repeat (first | exact (C_below HR0_1.out HB.out) | (with_reducible refine C_alloc ?_ _) | (with_reducible refine C_drewN ?_ _) | (with_reducible refine C_drew ?_))); (case side2 => exact HC0_1.out); (case side3 => repeat (first | exact (C_below HR1_1.out HB.out) | (with_reducible refine C_alloc ?_ _) | (with_reducible refine C_drewN ?_ _) | (with_reducible refine C_drew ?_))); (case side4 => exact HC1_1.out); rintro e w' ⟨rfl, ⟨nd, rfl⟩⟩; refine ⟨_, rfl, ?_⟩) | ((with_reducible refine gate_callee (f := 30) rfl ?_); refine goesL_ (some 20) rfl rfl Tryd.func30 (by kernel_rfl) rfl #[.slice A0_2 l0_2.length c0_2, .slice A1_2 l1_2.length c1_2] rfl (by (try simp only [List.map_toArray, List.map_cons, List.map_nil]); first | done | rfl | (simp only [List.length_drop, List.length_take]; rfl)) ?_; (with_reducible refine (laws_eqByteS.calls k _ _ l0_2 _ _ l1_2 false _ ?side1 ?side2 ?side3 ?side4 A6.out).mono ?_); (case side1 => repeat (first | exact (C_below HR0_2.out Zs) | (with_reducible refine C_alloc ?_ _) | (with_reducible refine C_drewN ?_ _) | (with_reducible refine C_drew ?_))); (case side2 => exact HC0_2.out); (case side3 => repeat (first | exact (C_below HR1_2.out Zs) | (with_reducible refine C_alloc ?_ _) | (with_reducible refine C_drewN ?_ _) | (with_reducible refine C_drew ?_))); (case side4 => exact HC1_2.out); rintro e w' ⟨rfl, ⟨nd, rfl⟩⟩; refine ⟨_, rfl, ?_⟩))
   go_ret
   exact ⟨by first | rfl | (simp [errW_none, errW_some] <;> rfl) | (simp [*, errW_none, errW_some] <;> rfl), by repeat (first | (with_reducible first | exact HB.out | apply Zf | apply Zd | apply Ze | refine Zg ?_ GE275.out | refine Zg ?_ GE276.out) | exact HB.out)⟩
  replace c5 := Bool.eq_false_iff.mpr c5
  subst c5
  have H1 : (some false) = some r := by rw [if_neg (show ¬ (false = true) by decide)] at H; exact H
  clear H
  have H := H1
  clear H1
  obtain rfl := Option.some.inj H
  go_enter Tryd.func79, Tryd.ntmps79
  go_wp2_with (first | ((with_reducible refine gate_dst (N := 2) rfl ?_); refine box_event ?hg (N := 2) ?hd (cs := #[.string a0_0, .slice A0_1 l0_1.length c0_1, .slice A0_2 l0_2.length c0_2]) (t := 55) ?hr ?_; (case hd => rfl); (case hg => rfl); (case hr => first | (go_simp; done) | (go_simp; rfl)); intro gb275 hg w18 hbox hb; have n0_ := Zh (Zl Zs hb); have n1_ := Zh (hbox); have n2_ := Zh ((by rw [hg]; exact (below_size Zs) : w.heap.size ≤ gb275)); have n3_ := Zh ((by rw [hg]; exact (below_size Zs) : w.heap.size ≤ gb275)); clear HB; have HB := n0_; have BK275 := n1_; have GW275 := n2_; have GE275 := n3_; clear n0_ n1_ n2_ n3_; clear hb hbox hg) | ((with_reducible refine gate_dst (N := 3) rfl ?_); refine box_event ?hg (N := 3) ?hd (cs := #[.string a1_0, .slice A1_1 l1_1.length c1_1, .slice A1_2 l1_2.length c1_2]) (t := 55) ?hr ?_; (case hd => rfl); (case hg => rfl); (case hr => first | (go_simp; done) | (go_simp; rfl)); intro gb276 hg w19 hbox hb; have n0_ := Zh (Zm (g := gb275) (o := .cells #[.string a0_0, .slice A0_1 l0_1.length c0_1, .slice A0_2 l0_2.length c0_2] 55 (0, 0)) Zk hb); have n1_ := Zh (Zl Zs hb); have n2_ := Zh (hbox); have n3_ := Zh ((by rw [hg]; exact (below_size Zs) : w.heap.size ≤ gb276)); have n4_ := Zh ((by rw [hg]; exact (below_size Zs) : w.heap.size ≤ gb276)); have n5_ := Zh ((by rw [hg]; exact Nat.ne_of_lt (blk_lt (g := gb275) (o := .cells #[.string a0_0, .slice A0_1 l0_1.length c0_1, .slice A0_2 l0_2.length c0_2] 55 (0, 0)) Zk) : gb275 ≠ gb276)); have n6_ := Zh ((by rw [hg]; exact Nat.ne_of_gt (blk_lt (g := gb275) (o := .cells #[.string a0_0, .slice A0_1 l0_1.length c0_1, .slice A0_2 l0_2.length c0_2] 55 (0, 0)) Zk) : gb276 ≠ gb275)); clear BK275; clear HB; have BK275 := n0_; have HB := n1_; have BK276 := n2_; have GW276 := n3_; have GE276 := n4_; have NB275_276 := n5_; have NB276_275 := n6_; clear n0_ n1_ n2_ n3_ n4_ n5_ n6_; clear hb hbox hg; have hnb20 := NB275_276.out; have hnc20 := NB276_275.out; have hcz21_0 : w19.cell? ⟨gb275, 0, none⟩ = some (.string a0_0) := (blk_cell BK275.out 0).trans rfl; have hcz21_1 : w19.cell? ⟨gb275, 1, none⟩ = some (.slice A0_1 l0_1.length c0_1) := (blk_cell BK275.out 1).trans rfl; have hcz21_2 : w19.cell? ⟨gb275, 2, none⟩ = some (.slice A0_2 l0_2.length c0_2) := (blk_cell BK275.out 2).trans rfl; have hfz21_0 := Zn BK275.out 0; have hfz21_1 := Zn BK275.out 1; have hfz21_2 := Zn BK275.out 2; have hcz22_0 : w19.cell? ⟨gb276, 0, none⟩ = some (.string a1_0) := (blk_cell BK276.out 0).trans rfl; have hcz22_1 : w19.cell? ⟨gb276, 1, none⟩ = some (.slice A1_1 l1_1.length c1_1) := (blk_cell BK276.out 1).trans rfl; have hcz22_2 : w19.cell? ⟨gb276, 2, none⟩ = some (.slice A1_2 l1_2.length c1_2) := (blk_cell BK276.out 2).trans rfl; have hfz22_0 := Zn BK276.out 0; have hfz22_1 := Zn BK276.out 1; have hfz22_2 := Zn BK276.out 2) | ((with_reducible refine gate_callee (f := 30) rfl ?_); refine goesL_ (some 14) rfl rfl Tryd.func30 (by kernel_rfl) rfl #[.slice A0_1 l0_1.length c0_1, .slice A1_1 l1_1.length c1_1] rfl (by (try simp only [List.map_toArray, List.map_cons, List.map_nil]); first | done | rfl | (simp only [List.length_drop, List.length_take]; rfl)) ?_; (with_reducible refine (laws_eqByteS.calls k _ _ l0_1 _ _ l1_1 false _ ?side1 ?side2 ?side3 ?side4 A4.out).mono ?_); (case side1 => repeat (first | exact (C_below HR0_1.out HB.out) | (with_reducible refine C_alloc ?_ _) | (with_reducible refine C_drewN ?_ _) | (with_reducible refine C_drew ?_))); (case side2 => exact HC0_1.out); (case side3 => repeat (first | exact (C_below HR1_1.out HB.out) | (with_reducible refine C_alloc ?_ _) | (with_reducible refine C_drewN ?_ _) | (with_reducible refine C_drew ?_))); (case side4 => exact HC1_1.out); rintro e w' ⟨rfl, ⟨nd, rfl⟩⟩; refine ⟨_, rfl, ?_⟩))
  go_ret
  exact ⟨by first | rfl | (simp [errW_none, errW_some] <;> rfl) | (simp [*, errW_none, errW_some] <;> rfl), by repeat (first | (with_reducible first | exact HB.out | apply Zf | apply Zd | apply Ze | refine Zg ?_ GE275.out | refine Zg ?_ GE276.out) | exact HB.out)⟩
 rw [if_neg c3] at H
 have c3b0 : (a0_0.toList == a1_0.toList) = false := beq_eq_false_iff_ne.mpr c3
 have c3b1 : (a0_0.toList != a1_0.toList) = true := bne_iff_ne.mpr c3
 obtain rfl := Option.some.inj H
 go_enter Tryd.func79, Tryd.ntmps79
 go_wp2_with (first | ((with_reducible refine gate_dst (N := 2) rfl ?_); refine box_event ?hg (N := 2) ?hd (cs := #[.string a0_0, .slice A0_1 l0_1.length c0_1, .slice A0_2 l0_2.length c0_2]) (t := 55) ?hr ?_; (case hd => rfl); (case hg => rfl); (case hr => first | (go_simp; done) | (go_simp; rfl)); intro gb275 hg w23 hbox hb; have n0_ := Zh (Zl Zs hb); have n1_ := Zh (hbox); have n2_ := Zh ((by rw [hg]; exact (below_size Zs) : w.heap.size ≤ gb275)); have n3_ := Zh ((by rw [hg]; exact (below_size Zs) : w.heap.size ≤ gb275)); clear HB; have HB := n0_; have BK275 := n1_; have GW275 := n2_; have GE275 := n3_; clear n0_ n1_ n2_ n3_; clear hb hbox hg) | ((with_reducible refine gate_dst (N := 3) rfl ?_); refine box_event ?hg (N := 3) ?hd (cs := #[.string a1_0, .slice A1_1 l1_1.length c1_1, .slice A1_2 l1_2.length c1_2]) (t := 55) ?hr ?_; (case hd => rfl); (case hg => rfl); (case hr => first | (go_simp; done) | (go_simp; rfl)); intro gb276 hg w24 hbox hb; have n0_ := Zh (Zm (g := gb275) (o := .cells #[.string a0_0, .slice A0_1 l0_1.length c0_1, .slice A0_2 l0_2.length c0_2] 55 (0, 0)) Zk hb); have n1_ := Zh (Zl Zs hb); have n2_ := Zh (hbox); have n3_ := Zh ((by rw [hg]; exact (below_size Zs) : w.heap.size ≤ gb276)); have n4_ := Zh ((by rw [hg]; exact (below_size Zs) : w.heap.size ≤ gb276)); have n5_ := Zh ((by rw [hg]; exact Nat.ne_of_lt (blk_lt (g := gb275) (o := .cells #[.string a0_0, .slice A0_1 l0_1.length c0_1, .slice A0_2 l0_2.length c0_2] 55 (0, 0)) Zk) : gb275 ≠ gb276)); have n6_ := Zh ((by rw [hg]; exact Nat.ne_of_gt (blk_lt (g := gb275) (o := .cells #[.string a0_0, .slice A0_1 l0_1.length c0_1, .slice A0_2 l0_2.length c0_2] 55 (0, 0)) Zk) : gb276 ≠ gb275)); clear BK275; clear HB; have BK275 := n0_; have HB := n1_; have BK276 := n2_; have GW276 := n3_; have GE276 := n4_; have NB275_276 := n5_; have NB276_275 := n6_; clear n0_ n1_ n2_ n3_ n4_ n5_ n6_; clear hb hbox hg; have hnb25 := NB275_276.out; have hnc25 := NB276_275.out; have hcz26_0 : w24.cell? ⟨gb275, 0, none⟩ = some (.string a0_0) := (blk_cell BK275.out 0).trans rfl; have hcz26_1 : w24.cell? ⟨gb275, 1, none⟩ = some (.slice A0_1 l0_1.length c0_1) := (blk_cell BK275.out 1).trans rfl; have hcz26_2 : w24.cell? ⟨gb275, 2, none⟩ = some (.slice A0_2 l0_2.length c0_2) := (blk_cell BK275.out 2).trans rfl; have hfz26_0 := Zn BK275.out 0; have hfz26_1 := Zn BK275.out 1; have hfz26_2 := Zn BK275.out 2; have hcz27_0 : w24.cell? ⟨gb276, 0, none⟩ = some (.string a1_0) := (blk_cell BK276.out 0).trans rfl; have hcz27_1 : w24.cell? ⟨gb276, 1, none⟩ = some (.slice A1_1 l1_1.length c1_1) := (blk_cell BK276.out 1).trans rfl; have hcz27_2 : w24.cell? ⟨gb276, 2, none⟩ = some (.slice A1_2 l1_2.length c1_2) := (blk_cell BK276.out 2).trans rfl; have hfz27_0 := Zn BK276.out 0; have hfz27_1 := Zn BK276.out 1; have hfz27_2 := Zn BK276.out 2))
 go_ret
 exact ⟨by first | rfl | (simp [errW_none, errW_some] <;> rfl) | (simp [*, errW_none, errW_some] <;> rfl), by repeat (first | (with_reducible first | exact HB.out | apply Zf | apply Zd | apply Ze | refine Zg ?_ GE275.out | refine Zg ?_ GE276.out) | exact HB.out)⟩
end Go.Proofs.YtcgojdhbphocgaaDoor.F

namespace Go.Proofs.YtcgojdhbphocgaaDoor.F
open Go.Proofs.YtcgojdhbphocgaaDoor
open Go.RowKit Go.Proofs.YtcgojdhbphocgaaDoorW.PrintWords Go.Proofs.YtcgojdhbphocgaaDoorW.PrintWords.Kd Go.Proofs.YtcgojdhbphocgaaDoorW.PrintMore.Kd Go.Proofs.YtcgojdhbphocgaaDoorW.PrintLast Go.Proofs.YtcgojdhbphocgaaDoorW.PrintMore
attribute [local go_sem] max2_int min2_int max_two min_two max_three min_three max_four min_four   -- for this text's walks alone
set_option linter.unusedVariables false
set_option linter.unusedSimpArgs false
def laws_eqFileS.l0 : Nat → List (S55) → List (S55) → Int → Option (Bool)
 | 0, _, _, _ => none
 | k + 1, x0, x1, x5 => if x5 < (x0.length : Int) then (if 0 ≤ x5 then (if x5 < (x1.length : Int) then ((laws_eqFile.f k ((rd_T55 x0 x5).f0) ((rd_T55 x0 x5).f1) ((rd_T55 x0 x5).f2) ((rd_T55 x1 x5).f0) ((rd_T55 x1 x5).f1) ((rd_T55 x1 x5).f2)).bind fun t281 => (if t281 = true then (laws_eqFileS.l0 k x0 x1 (wrap64 (x5 + 1))) else (some false))) else (none)) else (none)) else (some true)
def laws_eqFileS.f (k : Nat) (l0 : List (S55)) (l1 : List (S55)) : Option (Bool) := if (l0.length : Int) = (l1.length : Int) then (laws_eqFileS.l0 k l0 l1 0) else (some false)
def laws_eqFileS.T6 : Bool × List (List Nat × List Nat) := (true, [([], []), ([], []), ([0, 1], [0, 1]), ([2], [2]), ([], []), ([], []), ([4, 5], [4, 5]), ([6], [6]), ([3, 7], [3, 7]), ([8], [8])])
def laws_eqFileS.B6 : List Nat := [0, 0, 3, 7, 0, 0, 48, 112, 255, 511]
theorem laws_eqFileS.tab6 : rtab .any (opsOf Tryd.f46 6) = laws_eqFileS.T6 := by kernel_rfl
theorem laws_eqFileS.bits6 : waitsOk laws_eqFileS.T6.2 laws_eqFileS.B6 = true := by kernel_rfl
set_option maxHeartbeats 8000000 in
set_option maxRecDepth 100000 in
theorem laws_eqFileS.calls (k : Nat) (A0 : Option Addr) (c0 : Nat) (l0 : List (S55)) (A1 : Option Addr) (c1 : Nat) (l1 : List (S55)) (r : Bool) (w : World) (hr0 : Kd.C k55 w A0 l0.length l0) (hc0 : l0.length ≤ c0) (hr1 : Kd.C k55 w A1 l1.length l1) (hc1 : l1.length ≤ c1) (h : laws_eqFileS.f k l0 l1 = some r) :
  Calls Tryd.prog 46 #[.slice A0 l0.length c0, .slice A1 l1.length c1] w fun e w' => e = .returned (.bool r) ∧ Below w.heap.size w w' := by
 have hu55 := Tryd.underlying55
 have HR0 := Zh hr0
 have HC0 := Zh hc0
 clear hr0 hc0
 have HR1 := Zh hr1
 have HC1 := Zh hc1
 clear hr1 hc1
 have HB := Zh (Below.refl w.heap.size w)
 have H : (if (l0.length : Int) = (l1.length : Int) then (laws_eqFileS.l0 k l0 l1 0) else (some false)) = some r := h
 clear h
 by_cases c3 : (l0.length : Int) = (l1.length : Int)
 ·
  rw [if_pos c3] at H
  have c3b0 : ((l0.length : Int) == (l1.length : Int)) = true := beq_iff_eq.mpr c3
  have c3b1 : ((l0.length : Int) != (l1.length : Int)) = false := bne_eq_false_iff_eq.mpr c3
  have c3b2 : (l0.length == l1.length) = true := by first | simpa using c3 | (simp at c3 ⊢; omega)
  clear c3
  have H' := Zh H
  clear H
  go_enter Tryd.func46, Tryd.ntmps46
  go_wp2
  go_loopg [5] k (fun kq v5 w' => ∃ (x5_1 : Int), v5 = .int .i64 x5_1 ∧ Aside0 (laws_eqFileS.l0 kq l0 l1 x5_1 = some r) ∧ Aside0 (kq ≤ k) ∧ Aside0 (Below w.heap.size w w'))
  case atStart => exact ⟨(0), (by first | rfl | (simp; done) | (simp [*]; done)), H', ⟨Nat.le_refl _⟩, ⟨by repeat (first | (with_reducible first | exact HB.out | apply Zf | apply Zd | apply Ze) | exact HB.out)⟩⟩
  case round =>
   clear H'
   try clear c1
   try clear p2
   try clear c3
   try clear c3b0
   try clear c3b1
   try clear c3b2
   obtain ⟨x5_1, rfl, HA, HK1, HB⟩ := hrel
   cases gk with
   | zero => exact absurd HA.out (by simp [laws_eqFileS.l0])
   | succ k1 =>
    have H := HA.out
    clear HA
    simp only [laws_eqFileS.l0] at H
    by_cases c4 : x5_1 < (l0.length : Int)
    ·
     rw [if_pos c4] at H
     have c4b0 : decide (x5_1 < (l0.length : Int)) = true := decide_eq_true c4
     clear c4
     by_cases c5 : 0 ≤ x5_1
     ·
      rw [if_pos c5] at H
      have c5b0 : decide (0 ≤ x5_1) = true := decide_eq_true c5
      clear c5
      by_cases c6 : x5_1 < (l1.length : Int)
      ·
       rw [if_pos c6] at H
       have c6b0 : decide (x5_1 < (l1.length : Int)) = true := decide_eq_true c6
       clear c6
       replace H := Option.bind_eq_some_iff.mp H
       obtain ⟨t281, A70, H⟩ := H
       replace H : (if t281 = true then (laws_eqFileS.l0 k1 l0 l1 (wrap64 (x5_1 + 1))) else (some false)) = some r := H
       have A7 := Zh A70
       clear A70
       by_cases c8 : t281 = true
       ·
        subst c8
        have H1 : (laws_eqFileS.l0 k1 l0 l1 (wrap64 (x5_1 + 1))) = some r := by rw [if_pos rfl] at H; exact H
        clear H
        have H := H1
        clear H1
        have H' := Zh H
        clear H
        try go_wp2
        have n0_ := Zh (Ze HB.out)
        clear HB
        have HB := n0_
        clear n0_
        have p279 : 0 ≤ (x5_1 : Int) := Zo
        have q279 : x5_1 < (l0.length : Int) := Zo
        obtain ⟨ad279, A279_1, c279_1, A279_2, c279_2, e279, hx279_0, hx279_1, hx279_2, hl279_1, hi279_1, hl279_2, hi279_2⟩ := at_T55 HR0.out x5_1 p279 q279
        have hw279_2 := hx279_2
        have hw279_1 := hx279_1
        have hw279_0 := hx279_0
        cases e279
        replace hx279_0 := Zc HB.out hx279_0
        replace hx279_1 := Zc HB.out hx279_1
        replace hx279_2 := Zc HB.out hx279_2
        have HR279_1 := Zh hi279_1
        have HC279_1 := Zh hl279_1
        clear hi279_1 hl279_1
        have HR279_2 := Zh hi279_2
        have HC279_2 := Zh hl279_2
        clear hi279_2 hl279_2
        replace p279 := eq_true p279
        replace q279 := eq_true q279
        have p280 : 0 ≤ (x5_1 : Int) := Zo
        have q280 : x5_1 < (l1.length : Int) := Zo
        obtain ⟨ad280, A280_1, c280_1, A280_2, c280_2, e280, hx280_0, hx280_1, hx280_2, hl280_1, hi280_1, hl280_2, hi280_2⟩ := at_T55 HR1.out x5_1 p280 q280
        have hw280_2 := hx280_2
        have hw280_1 := hx280_1
        have hw280_0 := hx280_0
        cases e280
        replace hx280_0 := Zc HB.out hx280_0
        replace hx280_1 := Zc HB.out hx280_1
        replace hx280_2 := Zc HB.out hx280_2
        have HR280_1 := Zh hi280_1
        have HC280_1 := Zh hl280_1
        clear hi280_1 hl280_1
        have HR280_2 := Zh hi280_2
        have HC280_2 := Zh hl280_2
        clear hi280_2 hl280_2
        replace p280 := eq_true p280
        replace q280 := eq_true q280
        refine start_ (n := 10) (S := fun w' => w'.cell? (ad279.add ((x5_1).toNat * 3)) = some (.string ((rd_T55 l0 x5_1).f0)) ∧ w'.cell? ⟨(ad279.add ((x5_1).toNat * 3)).block, (ad279.add ((x5_1).toNat * 3)).off + 1, none⟩ = some (.slice A279_1 ((rd_T55 l0 x5_1).f1).length c279_1) ∧ w'.cell? ⟨(ad279.add ((x5_1).toNat * 3)).block, (ad279.add ((x5_1).toNat * 3)).off + 2, none⟩ = some (.slice A279_2 ((rd_T55 l0 x5_1).f2).length c279_2) ∧ w'.cell? (ad280.add ((x5_1).toNat * 3)) = some (.string ((rd_T55 l1 x5_1).f0)) ∧ w'.cell? ⟨(ad280.add ((x5_1).toNat * 3)).block, (ad280.add ((x5_1).toNat * 3)).off + 1, none⟩ = some (.slice A280_1 ((rd_T55 l1 x5_1).f1).length c280_1) ∧ w'.cell? ⟨(ad280.add ((x5_1).toNat * 3)).block, (ad280.add ((x5_1).toNat * 3)).off + 2, none⟩ = some (.slice A280_2 ((rd_T55 l1 x5_1).f2).length c280_2)) (ds := []) #[false, false, false, false, false, false, false, false, false, false] (by kernel_rfl) rfl rfl ⟨((HB.out.cell (Zi w _ hw279_0)).trans hw279_0), ((HB.out.cell (Zi w _ hw279_1)).trans hw279_1), ((HB.out.cell (Zi w _ hw279_2)).trans hw279_2), ((HB.out.cell (Zi w _ hw280_0)).trans hw280_0), ((HB.out.cell (Zi w _ hw280_1)).trans hw280_1), ((HB.out.cell (Zi w _ hw280_2)).trans hw280_2)⟩ (fun hHeld => ?_); refine with_tabW laws_eqFileS.tab6 laws_eqFileS.bits6 (fun HT_ HW_ => ?_)
        generalize wr.drew = w9 at HB HR279_1 HR279_2 HR280_1 HR280_2 hx279_0 hx279_1 hx279_2 hx280_0 hx280_1 hx280_2 hHeld ⊢
        refine SQ.pu 0 17 HT_ ?_
        refine SQ.pu 1 18 HT_ ?_
        refine SQ.pu 2 19 HT_ ?_
        refine SQ.pu 4 21 HT_ ?_
        refine SQ.pu 5 22 HT_ ?_
        refine SQ.pu 6 23 HT_ ?_
        refine SQ.tk 3 20 HT_ HW_ hHeld ?_
        refine SQ.tk 7 24 HT_ HW_ hHeld ?_
        refine one_ (i := 8) (N := some 25) #[true, true, true, true, true, true, true, true, true, false] rfl rfl (one_of HT_.out (by kernel_rfl)) (by decide) (fun K hK => ?_)
        refine goes_ Tryd.func79 (by kernel_rfl) rfl #[.agg #[.string ((rd_T55 l0 x5_1).f0), .slice A279_1 ((rd_T55 l0 x5_1).f1).length c279_1, .slice A279_2 ((rd_T55 l0 x5_1).f2).length c279_2], .agg #[.string ((rd_T55 l1 x5_1).f0), .slice A280_1 ((rd_T55 l1 x5_1).f1).length c280_1, .slice A280_2 ((rd_T55 l1 x5_1).f2).length c280_2]] (by rfl) rfl rfl (by (try simp only [List.map_toArray, List.map_cons, List.map_nil]); first | done | rfl | (simp only [List.length_drop, List.length_take]; rfl)) ?_
        with_reducible refine (laws_eqFile.calls k1 ((rd_T55 l0 x5_1).f0) _ _ ((rd_T55 l0 x5_1).f1) _ _ ((rd_T55 l0 x5_1).f2) ((rd_T55 l1 x5_1).f0) _ _ ((rd_T55 l1 x5_1).f1) _ _ ((rd_T55 l1 x5_1).f2) true _ ?side1 ?side2 ?side3 ?side4 ?side5 ?side6 ?side7 ?side8 A7.out).mono ?_
        (case side1 => repeat (first | exact (C_below HR279_1.out HB.out) | (with_reducible refine C_alloc ?_ _) | (with_reducible refine C_drewN ?_ _) | (with_reducible refine C_drew ?_)))
        (case side2 => exact HC279_1.out)
        (case side3 => repeat (first | exact (C_below HR279_2.out HB.out) | (with_reducible refine C_alloc ?_ _) | (with_reducible refine C_drewN ?_ _) | (with_reducible refine C_drew ?_)))
        (case side4 => exact HC279_2.out)
        (case side5 => repeat (first | exact (C_below HR280_1.out HB.out) | (with_reducible refine C_alloc ?_ _) | (with_reducible refine C_drewN ?_ _) | (with_reducible refine C_drew ?_)))
        (case side6 => exact HC280_1.out)
        (case side7 => repeat (first | exact (C_below HR280_2.out HB.out) | (with_reducible refine C_alloc ?_ _) | (with_reducible refine C_drewN ?_ _) | (with_reducible refine C_drew ?_)))
        (case side8 => exact HC280_2.out)
        rintro e w10 ⟨rfl, hb⟩
        refine ⟨_, rfl, ?_⟩
        have n0_ := Zh (Zl Zs hb)
        clear HB
        have HB := n0_
        clear n0_
        (try clear hb)
        (try clear hb2)
        (try clear hk)
        (try clear hi)
        refine hK.out _ _ ⟨((HB.out.cell (Zi w _ hw279_0)).trans hw279_0), ((HB.out.cell (Zi w _ hw279_1)).trans hw279_1), ((HB.out.cell (Zi w _ hw279_2)).trans hw279_2), ((HB.out.cell (Zi w _ hw280_0)).trans hw280_0), ((HB.out.cell (Zi w _ hw280_1)).trans hw280_1), ((HB.out.cell (Zi w _ hw280_2)).trans hw280_2)⟩ (fun hHeld => ?_)
        clear hK K
        refine norm_ (a' := ?_) ?_ ?_
        rotate_left
        ·
         show Act.put _ (some 25) _ = _
         simp only [Act.put, List.setIfInBounds_toArray, List.set_cons_zero, List.set_cons_succ, i64_w, i32_w]
         rfl
        refine SQ.pu 9 26 HT_ ?_
        refine done_ (done_of HT_.out (by kernel_rfl)) ?_
        try go_wp2
        go_roundg k1
        case measure => have := HK1.out; omega
        case rel => exact ⟨(wrap64 (x5_1 + 1)), (by first | rfl | (simp; done) | (simp [*]; done)), H', ⟨by have := HK1.out; omega⟩, ⟨by repeat (first | (with_reducible first | exact HB.out | apply Zf | apply Zd | apply Ze) | exact HB.out)⟩⟩
       replace c8 := Bool.eq_false_iff.mpr c8
       subst c8
       have H1 : (some false) = some r := by rw [if_neg (show ¬ (false = true) by decide)] at H; exact H
       clear H
       have H := H1
       clear H1
       obtain rfl := Option.some.inj H
       try go_wp2
       have n0_ := Zh (Ze HB.out)
       clear HB
       have HB := n0_
       clear n0_
       have p279 : 0 ≤ (x5_1 : Int) := Zo
       have q279 : x5_1 < (l0.length : Int) := Zo
       obtain ⟨ad279, A279_1, c279_1, A279_2, c279_2, e279, hx279_0, hx279_1, hx279_2, hl279_1, hi279_1, hl279_2, hi279_2⟩ := at_T55 HR0.out x5_1 p279 q279
       have hw279_2 := hx279_2
       have hw279_1 := hx279_1
       have hw279_0 := hx279_0
       cases e279
       replace hx279_0 := Zc HB.out hx279_0
       replace hx279_1 := Zc HB.out hx279_1
       replace hx279_2 := Zc HB.out hx279_2
       have HR279_1 := Zh hi279_1
       have HC279_1 := Zh hl279_1
       clear hi279_1 hl279_1
       have HR279_2 := Zh hi279_2
       have HC279_2 := Zh hl279_2
       clear hi279_2 hl279_2
       replace p279 := eq_true p279
       replace q279 := eq_true q279
       have p280 : 0 ≤ (x5_1 : Int) := Zo
       have q280 : x5_1 < (l1.length : Int) := Zo
       obtain ⟨ad280, A280_1, c280_1, A280_2, c280_2, e280, hx280_0, hx280_1, hx280_2, hl280_1, hi280_1, hl280_2, hi280_2⟩ := at_T55 HR1.out x5_1 p280 q280
       have hw280_2 := hx280_2
       have hw280_1 := hx280_1
       have hw280_0 := hx280_0
       cases e280
       replace hx280_0 := Zc HB.out hx280_0
       replace hx280_1 := Zc HB.out hx280_1
       replace hx280_2 := Zc HB.out hx280_2
       have HR280_1 := Zh hi280_1
       have HC280_1 := Zh hl280_1
       clear hi280_1 hl280_1
       have HR280_2 := Zh hi280_2
       have HC280_2 := Zh hl280_2
       clear hi280_2 hl280_2
       replace p280 := eq_true p280
       replace q280 := eq_true q280
       refine start_ (n := 10) (S := fun w' => w'.cell? (ad279.add ((x5_1).toNat * 3)) = some (.string ((rd_T55 l0 x5_1).f0)) ∧ w'.cell? ⟨(ad279.add ((x5_1).toNat * 3)).block, (ad279.add ((x5_1).toNat * 3)).off + 1, none⟩ = some (.slice A279_1 ((rd_T55 l0 x5_1).f1).length c279_1) ∧ w'.cell? ⟨(ad279.add ((x5_1).toNat * 3)).block, (ad279.add ((x5_1).toNat * 3)).off + 2, none⟩ = some (.slice A279_2 ((rd_T55 l0 x5_1).f2).length c279_2) ∧ w'.cell? (ad280.add ((x5_1).toNat * 3)) = some (.string ((rd_T55 l1 x5_1).f0)) ∧ w'.cell? ⟨(ad280.add ((x5_1).toNat * 3)).block, (ad280.add ((x5_1).toNat * 3)).off + 1, none⟩ = some (.slice A280_1 ((rd_T55 l1 x5_1).f1).length c280_1) ∧ w'.cell? ⟨(ad280.add ((x5_1).toNat * 3)).block, (ad280.add ((x5_1).toNat * 3)).off + 2, none⟩ = some (.slice A280_2 ((rd_T55 l1 x5_1).f2).length c280_2)) (ds := []) #[false, false, false, false, false, false, false, false, false, false] (by kernel_rfl) rfl rfl ⟨((HB.out.cell (Zi w _ hw279_0)).trans hw279_0), ((HB.out.cell (Zi w _ hw279_1)).trans hw279_1), ((HB.out.cell (Zi w _ hw279_2)).trans hw279_2), ((HB.out.cell (Zi w _ hw280_0)).trans hw280_0), ((HB.out.cell (Zi w _ hw280_1)).trans hw280_1), ((HB.out.cell (Zi w _ hw280_2)).trans hw280_2)⟩ (fun hHeld => ?_); refine with_tabW laws_eqFileS.tab6 laws_eqFileS.bits6 (fun HT_ HW_ => ?_)
       generalize wr.drew = w11 at HB HR279_1 HR279_2 HR280_1 HR280_2 hx279_0 hx279_1 hx279_2 hx280_0 hx280_1 hx280_2 hHeld ⊢
       refine SQ.pu 0 17 HT_ ?_
       refine SQ.pu 1 18 HT_ ?_
       refine SQ.pu 2 19 HT_ ?_
       refine SQ.pu 4 21 HT_ ?_
       refine SQ.pu 5 22 HT_ ?_
       refine SQ.pu 6 23 HT_ ?_
       refine SQ.tk 3 20 HT_ HW_ hHeld ?_
       refine SQ.tk 7 24 HT_ HW_ hHeld ?_
       refine one_ (i := 8) (N := some 25) #[true, true, true, true, true, true, true, true, true, false] rfl rfl (one_of HT_.out (by kernel_rfl)) (by decide) (fun K hK => ?_)
       refine goes_ Tryd.func79 (by kernel_rfl) rfl #[.agg #[.string ((rd_T55 l0 x5_1).f0), .slice A279_1 ((rd_T55 l0 x5_1).f1).length c279_1, .slice A279_2 ((rd_T55 l0 x5_1).f2).length c279_2], .agg #[.string ((rd_T55 l1 x5_1).f0), .slice A280_1 ((rd_T55 l1 x5_1).f1).length c280_1, .slice A280_2 ((rd_T55 l1 x5_1).f2).length c280_2]] (by rfl) rfl rfl (by (try simp only [List.map_toArray, List.map_cons, List.map_nil]); first | done | rfl | (simp only [List.length_drop, List.length_take]; rfl)) ?_
       with_reducible refine (laws_eqFile.calls k1 ((rd_T55 l0 x5_1).f0) _ _ ((rd_T55 l0 x5_1).f1) _ _ ((rd_T55 l0 x5_1).f2) ((rd_T55 l1 x5_1).f0) _ _ ((rd_T55 l1 x5_1).f1) _ _ ((rd_T55 l1 x5_1).f2) false _ ?side1 ?side2 ?side3 ?side4 ?side5 ?side6 ?side7 ?side8 A7.out).mono ?_
       (case side1 => repeat (first | exact (C_below HR279_1.out HB.out) | (with_reducible refine C_alloc ?_ _) | (with_reducible refine C_drewN ?_ _) | (with_reducible refine C_drew ?_)))
       (case side2 => exact HC279_1.out)
       (case side3 => repeat (first | exact (C_below HR279_2.out HB.out) | (with_reducible refine C_alloc ?_ _) | (with_reducible refine C_drewN ?_ _) | (with_reducible refine C_drew ?_)))
       (case side4 => exact HC279_2.out)
       (case side5 => repeat (first | exact (C_below HR280_1.out HB.out) | (with_reducible refine C_alloc ?_ _) | (with_reducible refine C_drewN ?_ _) | (with_reducible refine C_drew ?_)))
       (case side6 => exact HC280_1.out)
       (case side7 => repeat (first | exact (C_below HR280_2.out HB.out) | (with_reducible refine C_alloc ?_ _) | (with_reducible refine C_drewN ?_ _) | (with_reducible refine C_drew ?_)))
       (case side8 => exact HC280_2.out)
       rintro e w12 ⟨rfl, hb⟩
       refine ⟨_, rfl, ?_⟩
       have n0_ := Zh (Zl Zs hb)
       clear HB
       have HB := n0_
       clear n0_
       (try clear hb)
       (try clear hb2)
       (try clear hk)
       (try clear hi)
       refine hK.out _ _ ⟨((HB.out.cell (Zi w _ hw279_0)).trans hw279_0), ((HB.out.cell (Zi w _ hw279_1)).trans hw279_1), ((HB.out.cell (Zi w _ hw279_2)).trans hw279_2), ((HB.out.cell (Zi w _ hw280_0)).trans hw280_0), ((HB.out.cell (Zi w _ hw280_1)).trans hw280_1), ((HB.out.cell (Zi w _ hw280_2)).trans hw280_2)⟩ (fun hHeld => ?_)
       clear hK K
       refine norm_ (a' := ?_) ?_ ?_
       rotate_left
       ·
        show Act.put _ (some 25) _ = _
        simp only [Act.put, List.setIfInBounds_toArray, List.set_cons_zero, List.set_cons_succ, i64_w, i32_w]
        rfl
       refine SQ.pu 9 26 HT_ ?_
       refine done_ (done_of HT_.out (by kernel_rfl)) ?_
       try go_wp2
       go_ret
       exact ⟨by first | rfl | (simp [errW_none, errW_some] <;> rfl) | (simp [*, errW_none, errW_some] <;> rfl), by repeat (first | (with_reducible first | exact HB.out | apply Zf | apply Zd | apply Ze) | exact HB.out)⟩
      rw [if_neg c6] at H
      exact absurd H (by simp)
     rw [if_neg c5] at H
     exact absurd H (by simp)
    rw [if_neg c4] at H
    have c4b0 : decide (x5_1 < (l0.length : Int)) = false := decide_eq_false c4
    clear c4
    obtain rfl := Option.some.inj H
    go_wp2
    go_ret
    exact ⟨by first | rfl | (simp [errW_none, errW_some] <;> rfl) | (simp [*, errW_none, errW_some] <;> rfl), by repeat (first | (with_reducible first | exact HB.out | apply Zf | apply Zd | apply Ze) | exact HB.out)⟩
 rw [if_neg c3] at H
 have c3b0 : ((l0.length : Int) == (l1.length : Int)) = false := beq_eq_false_iff_ne.mpr c3
 have c3b1 : ((l0.length : Int) != (l1.length : Int)) = true := bne_iff_ne.mpr c3
 have c3b2 : (l0.length == l1.length) = false := by first | simpa using c3 | (simp at c3 ⊢; omega)
 obtain rfl := Option.some.inj H
 go_enter Tryd.func46, Tryd.ntmps46
 go_wp2
 go_ret
 exact ⟨by first | rfl | (simp [errW_none, errW_some] <;> rfl) | (simp [*, errW_none, errW_some] <;> rfl), by repeat (first | (with_reducible first | exact HB.out | apply Zf | apply Zd | apply Ze) | exact HB.out)⟩
end Go.Proofs.YtcgojdhbphocgaaDoor.F

namespace Go.Proofs.YtcgojdhbphocgaaDoor.F
open Go.RowKit Go.Proofs.YtcgojdhbphocgaaDoorW.PrintWords Go.Proofs.YtcgojdhbphocgaaDoorW.PrintWords.Kd Go.Proofs.YtcgojdhbphocgaaDoorW.PrintMore.Kd Go.Proofs.YtcgojdhbphocgaaDoorW.PrintLast Go.Proofs.YtcgojdhbphocgaaDoorW.PrintMore
attribute [local go_sem] max2_int min2_int max_two min_two max_three min_three max_four min_four   -- for this text's walks alone
set_option linter.unusedVariables false
set_option linter.unusedSimpArgs false
def laws_eqDisk.f (k : Nat) (l0_0 : List (S55)) (l1_0 : List (S55)) : Option (Bool) := (laws_eqFileS.f k l0_0 l1_0).bind fun t284 => (if t284 = true then (some true) else (some false))
set_option maxHeartbeats 8000000 in
set_option maxRecDepth 100000 in
theorem laws_eqDisk.calls (k : Nat) (A0_0 : Option Addr) (c0_0 : Nat) (l0_0 : List (S55)) (A1_0 : Option Addr) (c1_0 : Nat) (l1_0 : List (S55)) (r : Bool) (w : World) (hr0_0 : Kd.C k55 w A0_0 l0_0.length l0_0) (hc0_0 : l0_0.length ≤ c0_0) (hr1_0 : Kd.C k55 w A1_0 l1_0.length l1_0) (hc1_0 : l1_0.length ≤ c1_0) (h : laws_eqDisk.f k l0_0 l1_0 = some r) :
  Calls Tryd.prog 15 #[.agg #[.slice A0_0 l0_0.length c0_0], .agg #[.slice A1_0 l1_0.length c1_0]] w fun e w' => e = .returned (.bool r) ∧ Below w.heap.size w w' := by
 have hu28 := Tryd.underlying28
 have HR0_0 := Zh hr0_0
 have HC0_0 := Zh hc0_0
 clear hr0_0 hc0_0
 have HR1_0 := Zh hr1_0
 have HC1_0 := Zh hc1_0
 clear hr1_0 hc1_0
 have HB := Zh (Below.refl w.heap.size w)
 have H : ((laws_eqFileS.f k l0_0 l1_0).bind fun t284 => (if t284 = true then (some true) else (some false))) = some r := h
 clear h
 replace H := Option.bind_eq_some_iff.mp H
 obtain ⟨t284, A30, H⟩ := H
 replace H : (if t284 = true then (some true) else (some false)) = some r := H
 have A3 := Zh A30
 clear A30
 by_cases c4 : t284 = true
 ·
  subst c4
  have H1 : (some true) = some r := by rw [if_pos rfl] at H; exact H
  clear H
  have H := H1
  clear H1
  obtain rfl := Option.some.inj H
  go_enter Tryd.func15, Tryd.ntmps15
  go_wp2_with (first | ((with_reducible refine gate_dst (N := 2) rfl ?_); refine box_event ?hg (N := 2) ?hd (cs := #[.slice A0_0 l0_0.length c0_0]) (t := 28) ?hr ?_; (case hd => rfl); (case hg => rfl); (case hr => first | (go_simp; done) | (go_simp; rfl)); intro gb282 hg w5 hbox hb; have n0_ := Zh (Zl Zs hb); have n1_ := Zh (hbox); have n2_ := Zh ((by rw [hg]; exact (below_size Zs) : w.heap.size ≤ gb282)); have n3_ := Zh ((by rw [hg]; exact (below_size Zs) : w.heap.size ≤ gb282)); clear HB; have HB := n0_; have BK282 := n1_; have GW282 := n2_; have GE282 := n3_; clear n0_ n1_ n2_ n3_; clear hb hbox hg) | ((with_reducible refine gate_dst (N := 3) rfl ?_); refine box_event ?hg (N := 3) ?hd (cs := #[.slice A1_0 l1_0.length c1_0]) (t := 28) ?hr ?_; (case hd => rfl); (case hg => rfl); (case hr => first | (go_simp; done) | (go_simp; rfl)); intro gb283 hg w6 hbox hb; have n0_ := Zh (Zm (g := gb282) (o := .cells #[.slice A0_0 l0_0.length c0_0] 28 (0, 0)) Zk hb); have n1_ := Zh (Zl Zs hb); have n2_ := Zh (hbox); have n3_ := Zh ((by rw [hg]; exact (below_size Zs) : w.heap.size ≤ gb283)); have n4_ := Zh ((by rw [hg]; exact (below_size Zs) : w.heap.size ≤ gb283)); have n5_ := Zh ((by rw [hg]; exact Nat.ne_of_lt (blk_lt (g := gb282) (o := .cells #[.slice A0_0 l0_0.length c0_0] 28 (0, 0)) Zk) : gb282 ≠ gb283)); have n6_ := Zh ((by rw [hg]; exact Nat.ne_of_gt (blk_lt (g := gb282) (o := .cells #[.slice A0_0 l0_0.length c0_0] 28 (0, 0)) Zk) : gb283 ≠ gb282)); clear BK282; clear HB; have BK282 := n0_; have HB := n1_; have BK283 := n2_; have GW283 := n3_; have GE283 := n4_; have NB282_283 := n5_; have NB283_282 := n6_; clear n0_ n1_ n2_ n3_ n4_ n5_ n6_; clear hb hbox hg; have hnb7 := NB282_283.out; have hnc7 := NB283_282.out; have hcz8_0 : w6.cell? ⟨gb282, 0, none⟩ = some (.slice A0_0 l0_0.length c0_0) := (blk_cell BK282.out 0).trans rfl; have hfz8_0 := Zn BK282.out 0; have hcz9_0 : w6.cell? ⟨gb283, 0, none⟩ = some (.slice A1_0 l1_0.length c1_0) := (blk_cell BK283.out 0).trans rfl; have hfz9_0 := Zn BK283.out 0) | ((with_reducible refine gate_callee (f := 46) rfl ?_); refine goesL_ (some 9) rfl rfl Tryd.func46 (by kernel_rfl) rfl #[.slice A0_0 l0_0.length c0_0, .slice A1_0 l1_0.length c1_0] rfl (by (try simp only [List.map_toArray, List.map_cons, List.map_nil]); first | done | rfl | (simp only [List.length_drop, List.length_take]; rfl)) ?_; (with_reducible refine (laws_eqFileS.calls k _ _ l0_0 _ _ l1_0 true _ ?side1 ?side2 ?side3 ?side4 A3.out).mono ?_); (case side1 => repeat (first | exact (C_below HR0_0.out HB.out) | (with_reducible refine C_alloc ?_ _) | (with_reducible refine C_drewN ?_ _) | (with_reducible refine C_drew ?_))); (case side2 => exact HC0_0.out); (case side3 => repeat (first | exact (C_below HR1_0.out HB.out) | (with_reducible refine C_alloc ?_ _) | (with_reducible refine C_drewN ?_ _) | (with_reducible refine C_drew ?_))); (case side4 => exact HC1_0.out); rintro e w10 ⟨rfl, hb⟩; refine ⟨_, rfl, ?_⟩; have n0_ := Zh (Zm (g := gb282) (o := .cells #[.slice A0_0 l0_0.length c0_0] 28 (0, 0)) Zk hb); have n1_ := Zh (Zm (g := gb283) (o := .cells #[.slice A1_0 l1_0.length c1_0] 28 (0, 0)) Zk hb); have n2_ := Zh (Zl Zs hb); clear BK282; clear BK283; clear HB; have BK282 := n0_; have BK283 := n1_; have HB := n2_; clear n0_ n1_ n2_; (try clear hb); (try clear hb2); (try clear hk); (try clear hi)))
  go_ret
  exact ⟨by first | rfl | (simp [errW_none, errW_some] <;> rfl) | (simp [*, errW_none, errW_some] <;> rfl), by repeat (first | (with_reducible first | exact HB.out | apply Zf | apply Zd | apply Ze | refine Zg ?_ GE282.out | refine Zg ?_ GE283.out) | exact HB.out)⟩
 replace c4 := Bool.eq_false_iff.mpr c4
 subst c4
 have H1 : (some false) = some r := by rw [if_neg (show ¬ (false = true) by decide)] at H; exact H
 clear H
 have H := H1
 clear H1
 obtain rfl := Option.some.inj H
 go_enter Tryd.func15, Tryd.ntmps15
 go_wp2_with (first | ((with_reducible refine gate_dst (N := 2) rfl ?_); refine box_event ?hg (N := 2) ?hd (cs := #[.slice A0_0 l0_0.length c0_0]) (t := 28) ?hr ?_; (case hd => rfl); (case hg => rfl); (case hr => first | (go_simp; done) | (go_simp; rfl)); intro gb282 hg w11 hbox hb; have n0_ := Zh (Zl Zs hb); have n1_ := Zh (hbox); have n2_ := Zh ((by rw [hg]; exact (below_size Zs) : w.heap.size ≤ gb282)); have n3_ := Zh ((by rw [hg]; exact (below_size Zs) : w.heap.size ≤ gb282)); clear HB; have HB := n0_; have BK282 := n1_; have GW282 := n2_; have GE282 := n3_; clear n0_ n1_ n2_ n3_; clear hb hbox hg) | ((with_reducible refine gate_dst (N := 3) rfl ?_); refine box_event ?hg (N := 3) ?hd (cs := #[.slice A1_0 l1_0.length c1_0]) (t := 28) ?hr ?_; (case hd => rfl); (case hg => rfl); (case hr => first | (go_simp; done) | (go_simp; rfl)); intro gb283 hg w12 hbox hb; have n0_ := Zh (Zm (g := gb282) (o := .cells #[.slice A0_0 l0_0.length c0_0] 28 (0, 0)) Zk hb); have n1_ := Zh (Zl Zs hb); have n2_ := Zh (hbox); have n3_ := Zh ((by rw [hg]; exact (below_size Zs) : w.heap.size ≤ gb283)); have n4_ := Zh ((by rw [hg]; exact (below_size Zs) : w.heap.size ≤ gb283)); have n5_ := Zh ((by rw [hg]; exact Nat.ne_of_lt (blk_lt (g := gb282) (o := .cells #[.slice A0_0 l0_0.length c0_0] 28 (0, 0)) Zk) : gb282 ≠ gb283)); have n6_ := Zh ((by rw [hg]; exact Nat.ne_of_gt (blk_lt (g := gb282) (o := .cells #[.slice A0_0 l0_0.length c0_0] 28 (0, 0)) Zk) : gb283 ≠ gb282)); clear BK282; clear HB; have BK282 := n0_; have HB := n1_; have BK283 := n2_; have GW283 := n3_; have GE283 := n4_; have NB282_283 := n5_; have NB283_282 := n6_; clear n0_ n1_ n2_ n3_ n4_ n5_ n6_; clear hb hbox hg; have hnb13 := NB282_283.out; have hnc13 := NB283_282.out; have hcz14_0 : w12.cell? ⟨gb282, 0, none⟩ = some (.slice A0_0 l0_0.length c0_0) := (blk_cell BK282.out 0).trans rfl; have hfz14_0 := Zn BK282.out 0; have hcz15_0 : w12.cell? ⟨gb283, 0, none⟩ = some (.slice A1_0 l1_0.length c1_0) := (blk_cell BK283.out 0).trans rfl; have hfz15_0 := Zn BK283.out 0) | ((with_reducible refine gate_callee (f := 46) rfl ?_); refine goesL_ (some 9) rfl rfl Tryd.func46 (by kernel_rfl) rfl #[.slice A0_0 l0_0.length c0_0, .slice A1_0 l1_0.length c1_0] rfl (by (try simp only [List.map_toArray, List.map_cons, List.map_nil]); first | done | rfl | (simp only [List.length_drop, List.length_take]; rfl)) ?_; (with_reducible refine (laws_eqFileS.calls k _ _ l0_0 _ _ l1_0 false _ ?side1 ?side2 ?side3 ?side4 A3.out).mono ?_); (case side1 => repeat (first | exact (C_below HR0_0.out HB.out) | (with_reducible refine C_alloc ?_ _) | (with_reducible refine C_drewN ?_ _) | (with_reducible refine C_drew ?_))); (case side2 => exact HC0_0.out); (case side3 => repeat (first | exact (C_below HR1_0.out HB.out) | (with_reducible refine C_alloc ?_ _) | (with_reducible refine C_drewN ?_ _) | (with_reducible refine C_drew ?_))); (case side4 => exact HC1_0.out); rintro e w16 ⟨rfl, hb⟩; refine ⟨_, rfl, ?_⟩; have n0_ := Zh (Zm (g := gb282) (o := .cells #[.slice A0_0 l0_0.length c0_0] 28 (0, 0)) Zk hb); have n1_ := Zh (Zm (g := gb283) (o := .cells #[.slice A1_0 l1_0.length c1_0] 28 (0, 0)) Zk hb); have n2_ := Zh (Zl Zs hb); clear BK282; clear BK283; clear HB; have BK282 := n0_; have BK283 := n1_; have HB := n2_; clear n0_ n1_ n2_; (try clear hb); (try clear hb2); (try clear hk); (try clear hi)))
 go_ret
 exact ⟨by first | rfl | (simp [errW_none, errW_some] <;> rfl) | (simp [*, errW_none, errW_some] <;> rfl), by repeat (first | (with_reducible first | exact HB.out | apply Zf | apply Zd | apply Ze | refine Zg ?_ GE282.out | refine Zg ?_ GE283.out) | exact HB.out)⟩
def laws_heldByteS.l0 : Nat → List Int → Int → Int → Option (Int)
 | 0, _, _, _ => none
 | k + 1, x0, x1, x5 => if x5 < (x0.length : Int) then (if 0 ≤ x5 then (if (rd x0 x5) = ((x1) % 256) then (laws_heldByteS.l0 k x0 (wrap64 (x1 + 1)) (wrap64 (x5 + 1))) else (some (-1))) else (none)) else (some x1)
def laws_heldByteS.f (k : Nat) (l0 : List Int) (a1 : Int) : Option (Int) := laws_heldByteS.l0 k l0 a1 0
set_option maxHeartbeats 8000000 in
set_option maxRecDepth 100000 in
theorem laws_heldByteS.calls (k : Nat) (A0 : Option Addr) (c0 : Nat) (l0 : List Int) (a1 : Int) (r : Int) (w : World) (hr0 : Kd.C (Kd.int .u8) w A0 l0.length l0) (hc0 : l0.length ≤ c0) (h : laws_heldByteS.f k l0 a1 = some r) :
  Calls Tryd.prog 53 #[.slice A0 l0.length c0, .int .i64 a1] w fun e w' => e = .returned (.int .i64 r) ∧ Drawn0 w w' := by
 have HR0 := Zh hr0
 have HC0 := Zh hc0
 clear hr0 hc0
 have H : (laws_heldByteS.l0 k l0 a1 0) = some r := h
 clear h
 have H' := Zh H
 clear H
 go_enter Tryd.func53, Tryd.ntmps53
 go_wp2
 go_loopg [1, 5] k (fun kq v1 v5 w' => ∃ (x1_1 : Int) (x5_1 : Int), v1 = .int .i64 x1_1 ∧ v5 = .int .i64 x5_1 ∧ Aside0 (laws_heldByteS.l0 kq l0 x1_1 x5_1 = some r) ∧ Aside0 (kq ≤ k) ∧ Drawn0 w w')
 case atStart => exact ⟨(a1), (0), (by first | rfl | (simp; done) | (simp [*]; done)), (by first | rfl | (simp; done) | (simp [*]; done)), H', ⟨Nat.le_refl _⟩, by repeat (first | exact Drawn0.refl _ | apply Drawn0.step)⟩
 case round =>
  clear H'
  try clear p2
  obtain ⟨x1_1, x5_1, rfl, rfl, HA, HK1, ⟨m1, rfl⟩⟩ := hrel
  cases gk with
  | zero => exact absurd HA.out (by simp [laws_heldByteS.l0])
  | succ k1 =>
   have H := HA.out
   clear HA
   simp only [laws_heldByteS.l0] at H
   by_cases c3 : x5_1 < (l0.length : Int)
   ·
    rw [if_pos c3] at H
    have c3b0 : decide (x5_1 < (l0.length : Int)) = true := decide_eq_true c3
    clear c3
    by_cases c4 : 0 ≤ x5_1
    ·
     rw [if_pos c4] at H
     have c4b0 : decide (0 ≤ x5_1) = true := decide_eq_true c4
     clear c4
     by_cases c5 : (rd l0 x5_1) = ((x1_1) % 256)
     ·
      rw [if_pos c5] at H
      have c5b0 : ((rd l0 x5_1) == ((x1_1) % 256)) = true := beq_iff_eq.mpr c5
      have c5b1 : ((rd l0 x5_1) != ((x1_1) % 256)) = false := bne_eq_false_iff_eq.mpr c5
      clear c5
      have H' := Zh H
      clear H
      have p289 : 0 ≤ (x5_1 : Int) := Zo
      have q289 : x5_1 < (l0.length : Int) := Zo
      obtain ⟨ad289, e289, hx289_0⟩ := Kd.at_int HR0.out x5_1 p289 q289
      cases e289
      replace p289 := eq_true p289
      replace q289 := eq_true q289
      go_wp2
      go_roundg k1
      case measure => have := HK1.out; omega
      case rel => exact ⟨(wrap64 (x1_1 + 1)), (wrap64 (x5_1 + 1)), (by first | rfl | (simp; done) | (simp [*]; done)), (by first | rfl | (simp; done) | (simp [*]; done)), H', ⟨by have := HK1.out; omega⟩, by repeat (first | exact Drawn0.refl _ | apply Drawn0.step)⟩
     rw [if_neg c5] at H
     have c5b0 : ((rd l0 x5_1) == ((x1_1) % 256)) = false := beq_eq_false_iff_ne.mpr c5
     have c5b1 : ((rd l0 x5_1) != ((x1_1) % 256)) = true := bne_iff_ne.mpr c5
     obtain rfl := Option.some.inj H
     have p289 : 0 ≤ (x5_1 : Int) := Zo
     have q289 : x5_1 < (l0.length : Int) := Zo
     obtain ⟨ad289, e289, hx289_0⟩ := Kd.at_int HR0.out x5_1 p289 q289
     cases e289
     replace p289 := eq_true p289
     replace q289 := eq_true q289
     go_wp2
     go_ret
     exact ⟨by first | rfl | (simp; done) | (simp [*]; done), by repeat (first | exact Drawn0.refl _ | apply Drawn0.step)⟩
    rw [if_neg c4] at H
    exact absurd H (by simp)
   rw [if_neg c3] at H
   have c3b0 : decide (x5_1 < (l0.length : Int)) = false := decide_eq_false c3
   clear c3
   obtain rfl := Option.some.inj H
   go_wp2
   go_ret
   exact ⟨by first | rfl | (simp; done) | (simp [*]; done), by repeat (first | exact Drawn0.refl _ | apply Drawn0.step)⟩
def laws_markText.l0 : Nat → Int → ByteArray → Option (ByteArray)
 | 0, _, _ => none
 | k + 1, x0, x3 => if x0 > 0 then ((some (([(wrap64 (48 + (Int.tmod x0 10))) % 256] : List Int) : List Int)).bind fun y286 => (if (strOfNums y286).size + x3.size ≤ 9223372036854775807 then (laws_markText.l0 k (wrap64 (Int.tdiv x0 10)) ((strOfNums y286) ++ x3)) else (none))) else (if 1 + x3.size ≤ 9223372036854775807 then (some ((⟨#[109]⟩ : ByteArray) ++ x3)) else (none))
def laws_markText.f (k : Nat) (a0 : Int) : Option (ByteArray) := if a0 ≤ 0 then (some (⟨#[109, 48]⟩ : ByteArray)) else (laws_markText.l0 k a0 (⟨#[]⟩ : ByteArray))
set_option maxHeartbeats 8000000 in
set_option maxRecDepth 100000 in
theorem laws_markText.calls (k : Nat) (a0 : Int) (r : ByteArray) (w : World) (h : laws_markText.f k a0 = some r) :
  Calls Tryd.prog 80 #[.int .i64 a0] w fun e w' => e = .returned (.string r) ∧ Below w.heap.size w w' := by
 have HB := Zh (Below.refl w.heap.size w)
 have H : (if a0 ≤ 0 then (some (⟨#[109, 48]⟩ : ByteArray)) else (laws_markText.l0 k a0 (⟨#[]⟩ : ByteArray))) = some r := h
 clear h
 by_cases c2 : a0 ≤ 0
 ·
  rw [if_pos c2] at H
  have c2b0 : decide (a0 ≤ 0) = true := decide_eq_true c2
  clear c2
  obtain rfl := Option.some.inj H
  go_enter Tryd.func80, Tryd.ntmps80
  go_wp2
  go_ret
  exact ⟨by first | rfl | (simp [errW_none, errW_some] <;> rfl) | (simp [*, errW_none, errW_some] <;> rfl), by repeat (first | (with_reducible first | exact HB.out | apply Zf | apply Zd | apply Ze) | exact HB.out)⟩
 rw [if_neg c2] at H
 have c2b0 : decide (a0 ≤ 0) = false := decide_eq_false c2
 clear c2
 have H' := Zh H
 clear H
 go_enter Tryd.func80, Tryd.ntmps80
 go_wp2
 go_loopg [0, 3] k (fun kq v0 v3 w' => ∃ (x0_1 : Int) (x3_1 : ByteArray), v0 = .int .i64 x0_1 ∧ v3 = .string x3_1 ∧ Aside0 (laws_markText.l0 kq x0_1 x3_1 = some r) ∧ Aside0 (kq ≤ k) ∧ Aside0 (Below w.heap.size w w'))
 case atStart => exact ⟨(a0), ((⟨#[]⟩ : ByteArray)), (by first | rfl | (simp; done) | (simp [*]; done)), (by first | rfl | (simp; done) | (simp [*]; done)), H', ⟨Nat.le_refl _⟩, ⟨by repeat (first | (with_reducible first | exact HB.out | apply Zf | apply Zd | apply Ze) | exact HB.out)⟩⟩
 case round =>
  clear H'
  try clear c2
  try clear c2b0
  try clear p2
  obtain ⟨x0_1, x3_1, rfl, rfl, HA, HK1, HB⟩ := hrel
  cases gk with
  | zero => exact absurd HA.out (by simp [laws_markText.l0])
  | succ k1 =>
   have H := HA.out
   clear HA
   simp only [laws_markText.l0] at H
   by_cases c3 : x0_1 > 0
   ·
    rw [if_pos c3] at H
    have c3b0 : decide (0 < x0_1) = true := decide_eq_true c3
    clear c3
    obtain ⟨y286, hy286⟩ : ∃ y_ : List Int, y_ = (([(wrap64 (48 + (Int.tmod x0_1 10))) % 256] : List Int)) := ⟨_, rfl⟩
    replace H : (if (strOfNums y286).size + x3_1.size ≤ 9223372036854775807 then (laws_markText.l0 k1 (wrap64 (Int.tdiv x0_1 10)) ((strOfNums y286) ++ x3_1)) else (none)) = some r := by first | (rw [hy286]; with_reducible exact H) | (have H2_ := (Option.bind_some _ _).symm.trans H; rw [hy286]; with_reducible exact H2_) | (have H2_ := (Option.bind_some _ _).symm.trans H; with_reducible exact H2_) | with_reducible exact H | (rw [hy286]; exact H) | exact H
    have Ny286 := Zh hy286
    clear hy286
    by_cases c4 : (strOfNums y286).size + x3_1.size ≤ 9223372036854775807
    ·
     rw [if_pos c4] at H
     have c4b0 := eq_true c4
     have c4b1 : decide ((strOfNums y286).size + x3_1.size ≤ 9223372036854775807) = true := decide_eq_true c4
     try have c4b2 : (9223372036854775807 < (strOfNums y286).size + x3_1.size) = False := eq_false (Nat.not_lt.2 c4)
     have H' := Zh H
     clear H
     go_wp2_with (first | ((with_reducible refine gate_dst (N := 12) rfl ?_); refine R_lit (Kd.int .u8) _ 5 ?hg (N := 12) ?hd (xs := ([(wrap64 (48 + (Int.tmod x0_1 10))) % 256] : List Int)) (inner := [.int .u8 ((wrap64 (48 + (Int.tmod x0_1 10))) % 256)]) (ok := fun _ => True) (okp := fun _ => True) ?hr ?hp (fun _ hk => hk) trivial (Below.refl _ _) (Nat.le_refl _) (by simp) ?_; (case hd => rfl); (case hg => rfl); (case hr => first | (go_simp; done) | (go_simp; rfl)); (case hp => exact (Reps.one (show Kd.M (Kd.int .u8) _ _ _ ((wrap64 (48 + (Int.tmod x0_1 10))) % 256) [.int .u8 ((wrap64 (48 + (Int.tmod x0_1 10))) % 256)] from rfl) (Reps.none _ _))); intro v287 w5 ho6 hb hg_ hnew_; clear hg_ hnew_; (first | rw [← Ny286.out] at ho6 | (simp only [Int.reduceToNat] at ho6; rw [← Ny286.out] at ho6)); have n0_ := Zh (R_lower ho6 (below_size Zs)); have n1_ := Zh (Zl Zs hb); clear HB; have HO288 := n0_; have HB := n1_; clear n0_ n1_; clear hb ho6; have hcv7 := own_string (P := Tryd.prog) Tryd.underlying41 Tryd.underlying5 Tryd.underlying9 (Kd.own_of_R HO288.out); have hcv8 := fun (nq_ : Nat) => own_string (P := Tryd.prog) Tryd.underlying41 Tryd.underlying5 Tryd.underlying9 (Kd.own_of_R (R_drewN HO288.out nq_))))
     go_roundg k1
     case measure => have := HK1.out; omega
     case rel => exact ⟨(wrap64 (Int.tdiv x0_1 10)), ((strOfNums y286) ++ x3_1), (by first | rfl | (simp; done) | (simp [*]; done)), (by first | rfl | (simp; done) | (simp [*]; done)), H', ⟨by have := HK1.out; omega⟩, ⟨by repeat (first | (with_reducible first | exact HB.out | apply Zf | apply Zd | apply Ze) | exact HB.out)⟩⟩
    rw [if_neg c4] at H
    exact absurd H (by simp)
   rw [if_neg c3] at H
   have c3b0 : decide (0 < x0_1) = false := decide_eq_false c3
   clear c3
   by_cases c9 : 1 + x3_1.size ≤ 9223372036854775807
   ·
    rw [if_pos c9] at H
    have c9b0 := eq_true c9
    have c9b1 : decide (1 + x3_1.size ≤ 9223372036854775807) = true := decide_eq_true c9
    try have c9b2 : (9223372036854775807 < 1 + x3_1.size) = False := eq_false (Nat.not_lt.2 c9)
    obtain rfl := Option.some.inj H
    go_wp2
    go_ret
    exact ⟨by first | rfl | (simp [errW_none, errW_some] <;> rfl) | (simp [*, errW_none, errW_some] <;> rfl), by repeat (first | (with_reducible first | exact HB.out | apply Zf | apply Zd | apply Ze) | exact HB.out)⟩
   rw [if_neg c9] at H
   exact absurd H (by simp)
end Go.Proofs.YtcgojdhbphocgaaDoor.F

namespace Go.Proofs.YtcgojdhbphocgaaDoor.F
open Go.Proofs.YtcgojdhbphocgaaDoor
open Go.RowKit Go.Proofs.YtcgojdhbphocgaaDoorW.PrintWords Go.Proofs.YtcgojdhbphocgaaDoorW.PrintWords.Kd Go.Proofs.YtcgojdhbphocgaaDoorW.PrintMore.Kd Go.Proofs.YtcgojdhbphocgaaDoorW.PrintLast Go.Proofs.YtcgojdhbphocgaaDoorW.PrintMore
attribute [local go_sem] max2_int min2_int max_two min_two max_three min_three max_four min_four   -- for this text's walks alone
set_option linter.unusedVariables false
set_option linter.unusedSimpArgs false
def laws_heldFileS.l0 : Nat → List (S55) → Int → Int → Option (Int)
 | 0, _, _, _ => none
 | k + 1, x0, x1, x5 => if x5 < (x0.length : Int) then (if 0 ≤ x5 then ((laws_markText.f k x1).bind fun t291 => (if ((rd_T55 x0 x5).f0).toList = t291.toList then ((laws_heldByteS.f k ((rd_T55 x0 x5).f1) (wrap64 (x1 + 1))).bind fun t293 => (if t293 < 0 then (some (-1)) else ((laws_heldByteS.f k ((rd_T55 x0 x5).f2) t293).bind fun t295 => (if t295 < 0 then (some (-1)) else (laws_heldFileS.l0 k x0 t295 (wrap64 (x5 + 1))))))) else (some (-1)))) else (none)) else (some x1)
def laws_heldFileS.f (k : Nat) (l0 : List (S55)) (a1 : Int) : Option (Int) := laws_heldFileS.l0 k l0 a1 0
def laws_heldFileS.T4 : Bool × List (List Nat × List Nat) := (true, [([], []), ([], []), ([0, 1], [0, 1]), ([2], [2]), ([3], [3]), ([], []), ([5], [5]), ([4, 6], [4, 6])])
def laws_heldFileS.B4 : List Nat := [0, 0, 3, 7, 15, 0, 32, 127]
theorem laws_heldFileS.tab4 : rtab .any (opsOf Tryd.f48 4) = laws_heldFileS.T4 := by kernel_rfl
theorem laws_heldFileS.bits4 : waitsOk laws_heldFileS.T4.2 laws_heldFileS.B4 = true := by kernel_rfl
set_option maxHeartbeats 8000000 in
set_option maxRecDepth 100000 in
theorem laws_heldFileS.calls (k : Nat) (A0 : Option Addr) (c0 : Nat) (l0 : List (S55)) (a1 : Int) (r : Int) (w : World) (hr0 : Kd.C k55 w A0 l0.length l0) (hc0 : l0.length ≤ c0) (h : laws_heldFileS.f k l0 a1 = some r) :
  Calls Tryd.prog 48 #[.slice A0 l0.length c0, .int .i64 a1] w fun e w' => e = .returned (.int .i64 r) ∧ Below w.heap.size w w' := by
 have HR0 := Zh hr0
 have HC0 := Zh hc0
 clear hr0 hc0
 have HB := Zh (Below.refl w.heap.size w)
 have H : (laws_heldFileS.l0 k l0 a1 0) = some r := h
 clear h
 have H' := Zh H
 clear H
 go_enter Tryd.func48, Tryd.ntmps48
 go_wp2
 go_loopg [1, 5] k (fun kq v1 v5 w' => ∃ (x1_1 : Int) (x5_1 : Int), v1 = .int .i64 x1_1 ∧ v5 = .int .i64 x5_1 ∧ Aside0 (laws_heldFileS.l0 kq l0 x1_1 x5_1 = some r) ∧ Aside0 (kq ≤ k) ∧ Aside0 (Below w.heap.size w w'))
 case atStart => exact ⟨(a1), (0), (by first | rfl | (simp; done) | (simp [*]; done)), (by first | rfl | (simp; done) | (simp [*]; done)), H', ⟨Nat.le_refl _⟩, ⟨by repeat (first | (with_reducible first | exact HB.out | apply Zf | apply Zd | apply Ze) | exact HB.out)⟩⟩
 case round =>
  clear H'
  try clear p2
  obtain ⟨x1_1, x5_1, rfl, rfl, HA, HK1, HB⟩ := hrel
  cases gk with
  | zero => exact absurd HA.out (by simp [laws_heldFileS.l0])
  | succ k1 =>
   have H := HA.out
   clear HA
   simp only [laws_heldFileS.l0] at H
   by_cases c3 : x5_1 < (l0.length : Int)
   ·
    rw [if_pos c3] at H
    have c3b0 : decide (x5_1 < (l0.length : Int)) = true := decide_eq_true c3
    clear c3
    by_cases c4 : 0 ≤ x5_1
    ·
     rw [if_pos c4] at H
     have c4b0 : decide (0 ≤ x5_1) = true := decide_eq_true c4
     clear c4
     replace H := Option.bind_eq_some_iff.mp H
     obtain ⟨t291, A50, H⟩ := H
     replace H : (if ((rd_T55 l0 x5_1).f0).toList = t291.toList then ((laws_heldByteS.f k1 ((rd_T55 l0 x5_1).f1) (wrap64 (x1_1 + 1))).bind fun t293 => (if t293 < 0 then (some (-1)) else ((laws_heldByteS.f k1 ((rd_T55 l0 x5_1).f2) t293).bind fun t295 => (if t295 < 0 then (some (-1)) else (laws_heldFileS.l0 k1 l0 t295 (wrap64 (x5_1 + 1))))))) else (some (-1))) = some r := H
     have A5 := Zh A50
     clear A50
     by_cases c6 : ((rd_T55 l0 x5_1).f0).toList = t291.toList
     ·
      rw [if_pos c6] at H
      have c6b0 : (((rd_T55 l0 x5_1).f0).toList == t291.toList) = true := beq_iff_eq.mpr c6
      have c6b1 : (((rd_T55 l0 x5_1).f0).toList != t291.toList) = false := bne_eq_false_iff_eq.mpr c6
      clear c6
      replace H := Option.bind_eq_some_iff.mp H
      obtain ⟨t293, A70, H⟩ := H
      replace H : (if t293 < 0 then (some (-1)) else ((laws_heldByteS.f k1 ((rd_T55 l0 x5_1).f2) t293).bind fun t295 => (if t295 < 0 then (some (-1)) else (laws_heldFileS.l0 k1 l0 t295 (wrap64 (x5_1 + 1)))))) = some r := H
      have A7 := Zh A70
      clear A70
      by_cases c8 : t293 < 0
      ·
       rw [if_pos c8] at H
       have c8b0 : decide (t293 < 0) = true := decide_eq_true c8
       clear c8
       obtain rfl := Option.some.inj H
       try go_wp2
       have n0_ := Zh (Ze HB.out)
       clear HB
       have HB := n0_
       clear n0_
       have p290 : 0 ≤ (x5_1 : Int) := Zo
       have q290 : x5_1 < (l0.length : Int) := Zo
       obtain ⟨ad290, A290_1, c290_1, A290_2, c290_2, e290, hx290_0, hx290_1, hx290_2, hl290_1, hi290_1, hl290_2, hi290_2⟩ := at_T55 HR0.out x5_1 p290 q290
       have hw290_2 := hx290_2
       have hw290_1 := hx290_1
       have hw290_0 := hx290_0
       cases e290
       replace hx290_0 := Zc HB.out hx290_0
       replace hx290_1 := Zc HB.out hx290_1
       replace hx290_2 := Zc HB.out hx290_2
       have HR290_1 := Zh hi290_1
       have HC290_1 := Zh hl290_1
       clear hi290_1 hl290_1
       have HR290_2 := Zh hi290_2
       have HC290_2 := Zh hl290_2
       clear hi290_2 hl290_2
       replace p290 := eq_true p290
       replace q290 := eq_true q290
       refine start_ (n := 8) (S := fun w' => w'.cell? (ad290.add ((x5_1).toNat * 3)) = some (.string ((rd_T55 l0 x5_1).f0)) ∧ w'.cell? ⟨(ad290.add ((x5_1).toNat * 3)).block, (ad290.add ((x5_1).toNat * 3)).off + 1, none⟩ = some (.slice A290_1 ((rd_T55 l0 x5_1).f1).length c290_1) ∧ w'.cell? ⟨(ad290.add ((x5_1).toNat * 3)).block, (ad290.add ((x5_1).toNat * 3)).off + 2, none⟩ = some (.slice A290_2 ((rd_T55 l0 x5_1).f2).length c290_2)) (ds := []) #[false, false, false, false, false, false, false, false] (by kernel_rfl) rfl rfl ⟨((HB.out.cell (Zi w _ hw290_0)).trans hw290_0), ((HB.out.cell (Zi w _ hw290_1)).trans hw290_1), ((HB.out.cell (Zi w _ hw290_2)).trans hw290_2)⟩ (fun hHeld => ?_); refine with_tabW laws_heldFileS.tab4 laws_heldFileS.bits4 (fun HT_ HW_ => ?_)
       generalize wr.drew = w9 at HB HR290_1 HR290_2 hx290_0 hx290_1 hx290_2 hHeld ⊢
       refine SQ.pu 0 12 HT_ ?_
       refine SQ.pu 1 13 HT_ ?_
       refine SQ.pu 2 14 HT_ ?_
       refine SQ.pu 3 15 HT_ ?_
       refine SQ.pu 5 17 HT_ ?_
       refine SQ.tk 4 16 HT_ HW_ hHeld ?_
       refine one_ (i := 6) (N := some 18) #[true, true, true, true, true, true, true, false] rfl rfl (one_of HT_.out (by kernel_rfl)) (by decide) (fun K hK => ?_)
       refine goes_ Tryd.func80 (by kernel_rfl) rfl #[.int .i64 x1_1] (by rfl) rfl rfl (by (try simp only [List.map_toArray, List.map_cons, List.map_nil]); first | done | rfl | (simp only [List.length_drop, List.length_take]; rfl)) ?_
       with_reducible refine (laws_markText.calls k1 x1_1 t291 _ A5.out).mono ?_
       rintro e w10 ⟨rfl, hb⟩
       refine ⟨_, rfl, ?_⟩
       have n0_ := Zh (Zl Zs hb)
       clear HB
       have HB := n0_
       clear n0_
       (try clear hb)
       (try clear hb2)
       (try clear hk)
       (try clear hi)
       refine hK.out _ _ ⟨((HB.out.cell (Zi w _ hw290_0)).trans hw290_0), ((HB.out.cell (Zi w _ hw290_1)).trans hw290_1), ((HB.out.cell (Zi w _ hw290_2)).trans hw290_2)⟩ (fun hHeld => ?_)
       clear hK K
       refine norm_ (a' := ?_) ?_ ?_
       rotate_left
       ·
        show Act.put _ (some 18) _ = _
        simp only [Act.put, List.setIfInBounds_toArray, List.set_cons_zero, List.set_cons_succ, i64_w, i32_w]
        rfl
       refine SQ.pu 7 19 HT_ ?_
       refine done_ (done_of HT_.out (by kernel_rfl)) ?_
       have p292 : 0 ≤ (x5_1 : Int) := Zo
       have q292 : x5_1 < (l0.length : Int) := Zo
       obtain ⟨ad292, A292_1, c292_1, A292_2, c292_2, e292, hx292_0, hx292_1, hx292_2, hl292_1, hi292_1, hl292_2, hi292_2⟩ := at_T55 HR0.out x5_1 p292 q292
       obtain rfl : ad290 = ad292 := (by injection e292)
       (try clear hx290_0); (try clear hx290_1); (try clear hx290_2); (try clear hx290_3); (try clear hHeld)
       replace hx292_0 := Zc HB.out hx292_0
       replace hx292_1 := Zc HB.out hx292_1
       replace hx292_2 := Zc HB.out hx292_2
       have HR292_1 := Zh hi292_1
       have HC292_1 := Zh hl292_1
       clear hi292_1 hl292_1
       have HR292_2 := Zh hi292_2
       have HC292_2 := Zh hl292_2
       clear hi292_2 hl292_2
       replace p292 := eq_true p292
       replace q292 := eq_true q292
       try go_wp2_with (first | ((with_reducible refine gate_callee (f := 53) rfl ?_); refine goesL_ (some 28) rfl rfl Tryd.func53 (by kernel_rfl) rfl #[.slice A292_1 ((rd_T55 l0 x5_1).f1).length c292_1, .int .i64 (wrap64 (x1_1 + 1))] rfl (by (try simp only [List.map_toArray, List.map_cons, List.map_nil]); first | done | rfl | (simp only [List.length_drop, List.length_take]; rfl)) ?_; (with_reducible refine (laws_heldByteS.calls k1 _ _ ((rd_T55 l0 x5_1).f1) (wrap64 (x1_1 + 1)) t293 _ ?side1 ?side2 A7.out).mono ?_); (case side1 => repeat (first | exact (C_below HR292_1.out HB.out) | (with_reducible refine C_alloc ?_ _) | (with_reducible refine C_drewN ?_ _) | (with_reducible refine C_drew ?_))); (case side2 => exact HC292_1.out); rintro e w' ⟨rfl, ⟨nd, rfl⟩⟩; refine ⟨_, rfl, ?_⟩))
       go_ret
       exact ⟨by first | rfl | (simp [errW_none, errW_some] <;> rfl) | (simp [*, errW_none, errW_some] <;> rfl), by repeat (first | (with_reducible first | exact HB.out | apply Zf | apply Zd | apply Ze) | exact HB.out)⟩
      rw [if_neg c8] at H
      have c8b0 : decide (t293 < 0) = false := decide_eq_false c8
      clear c8
      replace H := Option.bind_eq_some_iff.mp H
      obtain ⟨t295, A110, H⟩ := H
      replace H : (if t295 < 0 then (some (-1)) else (laws_heldFileS.l0 k1 l0 t295 (wrap64 (x5_1 + 1)))) = some r := H
      have A11 := Zh A110
      clear A110
      by_cases c12 : t295 < 0
      ·
       rw [if_pos c12] at H
       have c12b0 : decide (t295 < 0) = true := decide_eq_true c12
       clear c12
       obtain rfl := Option.some.inj H
       try go_wp2
       have n0_ := Zh (Ze HB.out)
       clear HB
       have HB := n0_
       clear n0_
       have p290 : 0 ≤ (x5_1 : Int) := Zo
       have q290 : x5_1 < (l0.length : Int) := Zo
       obtain ⟨ad290, A290_1, c290_1, A290_2, c290_2, e290, hx290_0, hx290_1, hx290_2, hl290_1, hi290_1, hl290_2, hi290_2⟩ := at_T55 HR0.out x5_1 p290 q290
       have hw290_2 := hx290_2
       have hw290_1 := hx290_1
       have hw290_0 := hx290_0
       cases e290
       replace hx290_0 := Zc HB.out hx290_0
       replace hx290_1 := Zc HB.out hx290_1
       replace hx290_2 := Zc HB.out hx290_2
       have HR290_1 := Zh hi290_1
       have HC290_1 := Zh hl290_1
       clear hi290_1 hl290_1
       have HR290_2 := Zh hi290_2
       have HC290_2 := Zh hl290_2
       clear hi290_2 hl290_2
       replace p290 := eq_true p290
       replace q290 := eq_true q290
       refine start_ (n := 8) (S := fun w' => w'.cell? (ad290.add ((x5_1).toNat * 3)) = some (.string ((rd_T55 l0 x5_1).f0)) ∧ w'.cell? ⟨(ad290.add ((x5_1).toNat * 3)).block, (ad290.add ((x5_1).toNat * 3)).off + 1, none⟩ = some (.slice A290_1 ((rd_T55 l0 x5_1).f1).length c290_1) ∧ w'.cell? ⟨(ad290.add ((x5_1).toNat * 3)).block, (ad290.add ((x5_1).toNat * 3)).off + 2, none⟩ = some (.slice A290_2 ((rd_T55 l0 x5_1).f2).length c290_2)) (ds := []) #[false, false, false, false, false, false, false, false] (by kernel_rfl) rfl rfl ⟨((HB.out.cell (Zi w _ hw290_0)).trans hw290_0), ((HB.out.cell (Zi w _ hw290_1)).trans hw290_1), ((HB.out.cell (Zi w _ hw290_2)).trans hw290_2)⟩ (fun hHeld => ?_); refine with_tabW laws_heldFileS.tab4 laws_heldFileS.bits4 (fun HT_ HW_ => ?_)
       generalize wr.drew = w13 at HB HR290_1 HR290_2 hx290_0 hx290_1 hx290_2 hHeld ⊢
       refine SQ.pu 0 12 HT_ ?_
       refine SQ.pu 1 13 HT_ ?_
       refine SQ.pu 2 14 HT_ ?_
       refine SQ.pu 3 15 HT_ ?_
       refine SQ.pu 5 17 HT_ ?_
       refine SQ.tk 4 16 HT_ HW_ hHeld ?_
       refine one_ (i := 6) (N := some 18) #[true, true, true, true, true, true, true, false] rfl rfl (one_of HT_.out (by kernel_rfl)) (by decide) (fun K hK => ?_)
       refine goes_ Tryd.func80 (by kernel_rfl) rfl #[.int .i64 x1_1] (by rfl) rfl rfl (by (try simp only [List.map_toArray, List.map_cons, List.map_nil]); first | done | rfl | (simp only [List.length_drop, List.length_take]; rfl)) ?_
       with_reducible refine (laws_markText.calls k1 x1_1 t291 _ A5.out).mono ?_
       rintro e w14 ⟨rfl, hb⟩
       refine ⟨_, rfl, ?_⟩
       have n0_ := Zh (Zl Zs hb)
       clear HB
       have HB := n0_
       clear n0_
       (try clear hb)
       (try clear hb2)
       (try clear hk)
       (try clear hi)
       refine hK.out _ _ ⟨((HB.out.cell (Zi w _ hw290_0)).trans hw290_0), ((HB.out.cell (Zi w _ hw290_1)).trans hw290_1), ((HB.out.cell (Zi w _ hw290_2)).trans hw290_2)⟩ (fun hHeld => ?_)
       clear hK K
       refine norm_ (a' := ?_) ?_ ?_
       rotate_left
       ·
        show Act.put _ (some 18) _ = _
        simp only [Act.put, List.setIfInBounds_toArray, List.set_cons_zero, List.set_cons_succ, i64_w, i32_w]
        rfl
       refine SQ.pu 7 19 HT_ ?_
       refine done_ (done_of HT_.out (by kernel_rfl)) ?_
       have p292 : 0 ≤ (x5_1 : Int) := Zo
       have q292 : x5_1 < (l0.length : Int) := Zo
       obtain ⟨ad292, A292_1, c292_1, A292_2, c292_2, e292, hx292_0, hx292_1, hx292_2, hl292_1, hi292_1, hl292_2, hi292_2⟩ := at_T55 HR0.out x5_1 p292 q292
       obtain rfl : ad290 = ad292 := (by injection e292)
       (try clear hx290_0); (try clear hx290_1); (try clear hx290_2); (try clear hx290_3); (try clear hHeld)
       replace hx292_0 := Zc HB.out hx292_0
       replace hx292_1 := Zc HB.out hx292_1
       replace hx292_2 := Zc HB.out hx292_2
       have HR292_1 := Zh hi292_1
       have HC292_1 := Zh hl292_1
       clear hi292_1 hl292_1
       have HR292_2 := Zh hi292_2
       have HC292_2 := Zh hl292_2
       clear hi292_2 hl292_2
       replace p292 := eq_true p292
       replace q292 := eq_true q292
       try go_wp2_with (first | ((with_reducible refine gate_callee (f := 53) rfl ?_); refine goesL_ (some 28) rfl rfl Tryd.func53 (by kernel_rfl) rfl #[.slice A292_1 ((rd_T55 l0 x5_1).f1).length c292_1, .int .i64 (wrap64 (x1_1 + 1))] rfl (by (try simp only [List.map_toArray, List.map_cons, List.map_nil]); first | done | rfl | (simp only [List.length_drop, List.length_take]; rfl)) ?_; (with_reducible refine (laws_heldByteS.calls k1 _ _ ((rd_T55 l0 x5_1).f1) (wrap64 (x1_1 + 1)) t293 _ ?side1 ?side2 A7.out).mono ?_); (case side1 => repeat (first | exact (C_below HR292_1.out HB.out) | (with_reducible refine C_alloc ?_ _) | (with_reducible refine C_drewN ?_ _) | (with_reducible refine C_drew ?_))); (case side2 => exact HC292_1.out); rintro e w' ⟨rfl, ⟨nd, rfl⟩⟩; refine ⟨_, rfl, ?_⟩; have p294 : 0 ≤ (x5_1 : Int) := Zo; have q294 : x5_1 < (l0.length : Int) := Zo; obtain ⟨ad294, A294_1, c294_1, A294_2, c294_2, e294, hx294_0, hx294_1, hx294_2, hl294_1, hi294_1, hl294_2, hi294_2⟩ := at_T55 HR0.out x5_1 p294 q294; obtain rfl : ad290 = ad294 := (by injection e294); replace hx294_0 := Zc HB.out hx294_0; replace hx294_1 := Zc HB.out hx294_1; replace hx294_2 := Zc HB.out hx294_2; have HR294_1 := Zh hi294_1; have HC294_1 := Zh hl294_1; clear hi294_1 hl294_1; have HR294_2 := Zh hi294_2; have HC294_2 := Zh hl294_2; clear hi294_2 hl294_2; replace p294 := eq_true p294; replace q294 := eq_true q294; have ea_ := Option.some.inj (hx292_1.symm.trans hx294_1); injection ea_ with ea_ en_ ec_; subst ea_; subst ec_; clear en_; have ea_ := Option.some.inj (hx292_2.symm.trans hx294_2); injection ea_ with ea_ en_ ec_; subst ea_; subst ec_; clear en_) | ((with_reducible refine gate_callee (f := 53) rfl ?_); refine goesL_ (some 37) rfl rfl Tryd.func53 (by kernel_rfl) rfl #[.slice A292_2 ((rd_T55 l0 x5_1).f2).length c292_2, .int .i64 t293] rfl (by (try simp only [List.map_toArray, List.map_cons, List.map_nil]); first | done | rfl | (simp only [List.length_drop, List.length_take]; rfl)) ?_; (with_reducible refine (laws_heldByteS.calls k1 _ _ ((rd_T55 l0 x5_1).f2) t293 t295 _ ?side1 ?side2 A11.out).mono ?_); (case side1 => repeat (first | exact (C_below HR294_2.out Zs) | (with_reducible refine C_alloc ?_ _) | (with_reducible refine C_drewN ?_ _) | (with_reducible refine C_drew ?_))); (case side2 => exact HC294_2.out); rintro e w' ⟨rfl, ⟨nd, rfl⟩⟩; refine ⟨_, rfl, ?_⟩))
       go_ret
       exact ⟨by first | rfl | (simp [errW_none, errW_some] <;> rfl) | (simp [*, errW_none, errW_some] <;> rfl), by repeat (first | (with_reducible first | exact HB.out | apply Zf | apply Zd | apply Ze) | exact HB.out)⟩
      rw [if_neg c12] at H
      have c12b0 : decide (t295 < 0) = false := decide_eq_false c12
      clear c12
      have H' := Zh H
      clear H
      try go_wp2
      have n0_ := Zh (Ze HB.out)
      clear HB
      have HB := n0_
      clear n0_
      have p290 : 0 ≤ (x5_1 : Int) := Zo
      have q290 : x5_1 < (l0.length : Int) := Zo
      obtain ⟨ad290, A290_1, c290_1, A290_2, c290_2, e290, hx290_0, hx290_1, hx290_2, hl290_1, hi290_1, hl290_2, hi290_2⟩ := at_T55 HR0.out x5_1 p290 q290
      have hw290_2 := hx290_2
      have hw290_1 := hx290_1
      have hw290_0 := hx290_0
      cases e290
      replace hx290_0 := Zc HB.out hx290_0
      replace hx290_1 := Zc HB.out hx290_1
      replace hx290_2 := Zc HB.out hx290_2
      have HR290_1 := Zh hi290_1
      have HC290_1 := Zh hl290_1
      clear hi290_1 hl290_1
      have HR290_2 := Zh hi290_2
      have HC290_2 := Zh hl290_2
      clear hi290_2 hl290_2
      replace p290 := eq_true p290
      replace q290 := eq_true q290
      refine start_ (n := 8) (S := fun w' => w'.cell? (ad290.add ((x5_1).toNat * 3)) = some (.string ((rd_T55 l0 x5_1).f0)) ∧ w'.cell? ⟨(ad290.add ((x5_1).toNat * 3)).block, (ad290.add ((x5_1).toNat * 3)).off + 1, none⟩ = some (.slice A290_1 ((rd_T55 l0 x5_1).f1).length c290_1) ∧ w'.cell? ⟨(ad290.add ((x5_1).toNat * 3)).block, (ad290.add ((x5_1).toNat * 3)).off + 2, none⟩ = some (.slice A290_2 ((rd_T55 l0 x5_1).f2).length c290_2)) (ds := []) #[false, false, false, false, false, false, false, false] (by kernel_rfl) rfl rfl ⟨((HB.out.cell (Zi w _ hw290_0)).trans hw290_0), ((HB.out.cell (Zi w _ hw290_1)).trans hw290_1), ((HB.out.cell (Zi w _ hw290_2)).trans hw290_2)⟩ (fun hHeld => ?_); refine with_tabW laws_heldFileS.tab4 laws_heldFileS.bits4 (fun HT_ HW_ => ?_)
      generalize wr.drew = w15 at HB HR290_1 HR290_2 hx290_0 hx290_1 hx290_2 hHeld ⊢
      refine SQ.pu 0 12 HT_ ?_
      refine SQ.pu 1 13 HT_ ?_
      refine SQ.pu 2 14 HT_ ?_
      refine SQ.pu 3 15 HT_ ?_
      refine SQ.pu 5 17 HT_ ?_
      refine SQ.tk 4 16 HT_ HW_ hHeld ?_
      refine one_ (i := 6) (N := some 18) #[true, true, true, true, true, true, true, false] rfl rfl (one_of HT_.out (by kernel_rfl)) (by decide) (fun K hK => ?_)
      refine goes_ Tryd.func80 (by kernel_rfl) rfl #[.int .i64 x1_1] (by rfl) rfl rfl (by (try simp only [List.map_toArray, List.map_cons, List.map_nil]); first | done | rfl | (simp only [List.length_drop, List.length_take]; rfl)) ?_
      with_reducible refine (laws_markText.calls k1 x1_1 t291 _ A5.out).mono ?_
      rintro e w16 ⟨rfl, hb⟩
      refine ⟨_, rfl, ?_⟩
      have n0_ := Zh (Zl Zs hb)
      clear HB
      have HB := n0_
      clear n0_
      (try clear hb)
      (try clear hb2)
      (try clear hk)
      (try clear hi)
      refine hK.out _ _ ⟨((HB.out.cell (Zi w _ hw290_0)).trans hw290_0), ((HB.out.cell (Zi w _ hw290_1)).trans hw290_1), ((HB.out.cell (Zi w _ hw290_2)).trans hw290_2)⟩ (fun hHeld => ?_)
      clear hK K
      refine norm_ (a' := ?_) ?_ ?_
      rotate_left
      ·
       show Act.put _ (some 18) _ = _
       simp only [Act.put, List.setIfInBounds_toArray, List.set_cons_zero, List.set_cons_succ, i64_w, i32_w]
       rfl
      refine SQ.pu 7 19 HT_ ?_
      refine done_ (done_of HT_.out (by kernel_rfl)) ?_
      have p292 : 0 ≤ (x5_1 : Int) := Zo
      have q292 : x5_1 < (l0.length : Int) := Zo
      obtain ⟨ad292, A292_1, c292_1, A292_2, c292_2, e292, hx292_0, hx292_1, hx292_2, hl292_1, hi292_1, hl292_2, hi292_2⟩ := at_T55 HR0.out x5_1 p292 q292
      obtain rfl : ad290 = ad292 := (by injection e292)
      (try clear hx290_0); (try clear hx290_1); (try clear hx290_2); (try clear hx290_3); (try clear hHeld)
      replace hx292_0 := Zc HB.out hx292_0
      replace hx292_1 := Zc HB.out hx292_1
      replace hx292_2 := Zc HB.out hx292_2
      have HR292_1 := Zh hi292_1
      have HC292_1 := Zh hl292_1
      clear hi292_1 hl292_1
      have HR292_2 := Zh hi292_2
      have HC292_2 := Zh hl292_2
      clear hi292_2 hl292_2
      replace p292 := eq_true p292
      replace q292 := eq_true q292
      try go_wp2_with (first | ((with_reducible refine gate_callee (f := 53) rfl ?_); refine goesL_ (some 28) rfl rfl Tryd.func53 (by kernel_rfl) rfl #[.slice A292_1 ((rd_T55 l0 x5_1).f1).length c292_1, .int .i64 (wrap64 (x1_1 + 1))] rfl (by (try simp only [List.map_toArray, List.map_cons, List.map_nil]); first | done | rfl | (simp only [List.length_drop, List.length_take]; rfl)) ?_; (with_reducible refine (laws_heldByteS.calls k1 _ _ ((rd_T55 l0 x5_1).f1) (wrap64 (x1_1 + 1)) t293 _ ?side1 ?side2 A7.out).mono ?_); (case side1 => repeat (first | exact (C_below HR292_1.out HB.out) | (with_reducible refine C_alloc ?_ _) | (with_reducible refine C_drewN ?_ _) | (with_reducible refine C_drew ?_))); (case side2 => exact HC292_1.out); rintro e w' ⟨rfl, ⟨nd, rfl⟩⟩; refine ⟨_, rfl, ?_⟩; have p294 : 0 ≤ (x5_1 : Int) := Zo; have q294 : x5_1 < (l0.length : Int) := Zo; obtain ⟨ad294, A294_1, c294_1, A294_2, c294_2, e294, hx294_0, hx294_1, hx294_2, hl294_1, hi294_1, hl294_2, hi294_2⟩ := at_T55 HR0.out x5_1 p294 q294; obtain rfl : ad290 = ad294 := (by injection e294); replace hx294_0 := Zc HB.out hx294_0; replace hx294_1 := Zc HB.out hx294_1; replace hx294_2 := Zc HB.out hx294_2; have HR294_1 := Zh hi294_1; have HC294_1 := Zh hl294_1; clear hi294_1 hl294_1; have HR294_2 := Zh hi294_2; have HC294_2 := Zh hl294_2; clear hi294_2 hl294_2; replace p294 := eq_true p294; replace q294 := eq_true q294; have ea_ := Option.some.inj (hx292_1.symm.trans hx294_1); injection ea_ with ea_ en_ ec_; subst ea_; subst ec_; clear en_; have ea_ := Option.some.inj (hx292_2.symm.trans hx294_2); injection ea_ with ea_ en_ ec_; subst ea_; subst ec_; clear en_) | ((with_reducible refine gate_callee (f := 53) rfl ?_); refine goesL_ (some 37) rfl rfl Tryd.func53 (by kernel_rfl) rfl #[.slice A292_2 ((rd_T55 l0 x5_1).f2).length c292_2, .int .i64 t293] rfl (by (try simp only [List.map_toArray, List.map_cons, List.map_nil]); first | done | rfl | (simp only [List.length_drop, List.length_take]; rfl)) ?_; (with_reducible refine (laws_heldByteS.calls k1 _ _ ((rd_T55 l0 x5_1).f2) t293 t295 _ ?side1 ?side2 A11.out).mono ?_); (case side1 => repeat (first | exact (C_below HR294_2.out Zs) | (with_reducible refine C_alloc ?_ _) | (with_reducible refine C_drewN ?_ _) | (with_reducible refine C_drew ?_))); (case side2 => exact HC294_2.out); rintro e w' ⟨rfl, ⟨nd, rfl⟩⟩; refine ⟨_, rfl, ?_⟩))
      go_roundg k1
      case measure => have := HK1.out; omega
      case rel => exact ⟨(t295), (wrap64 (x5_1 + 1)), (by first | rfl | (simp; done) | (simp [*]; done)), (by first | rfl | (simp; done) | (simp [*]; done)), H', ⟨by have := HK1.out; omega⟩, ⟨by repeat (first | (with_reducible first | exact HB.out | apply Zf | apply Zd | apply Ze) | exact HB.out)⟩⟩
     rw [if_neg c6] at H
     have c6b0 : (((rd_T55 l0 x5_1).f0).toList == t291.toList) = false := beq_eq_false_iff_ne.mpr c6
     have c6b1 : (((rd_T55 l0 x5_1).f0).toList != t291.toList) = true := bne_iff_ne.mpr c6
     obtain rfl := Option.some.inj H
     try go_wp2
     have n0_ := Zh (Ze HB.out)
     clear HB
     have HB := n0_
     clear n0_
     have p290 : 0 ≤ (x5_1 : Int) := Zo
     have q290 : x5_1 < (l0.length : Int) := Zo
     obtain ⟨ad290, A290_1, c290_1, A290_2, c290_2, e290, hx290_0, hx290_1, hx290_2, hl290_1, hi290_1, hl290_2, hi290_2⟩ := at_T55 HR0.out x5_1 p290 q290
     have hw290_2 := hx290_2
     have hw290_1 := hx290_1
     have hw290_0 := hx290_0
     cases e290
     replace hx290_0 := Zc HB.out hx290_0
     replace hx290_1 := Zc HB.out hx290_1
     replace hx290_2 := Zc HB.out hx290_2
     have HR290_1 := Zh hi290_1
     have HC290_1 := Zh hl290_1
     clear hi290_1 hl290_1
     have HR290_2 := Zh hi290_2
     have HC290_2 := Zh hl290_2
     clear hi290_2 hl290_2
     replace p290 := eq_true p290
     replace q290 := eq_true q290
     refine start_ (n := 8) (S := fun w' => w'.cell? (ad290.add ((x5_1).toNat * 3)) = some (.string ((rd_T55 l0 x5_1).f0)) ∧ w'.cell? ⟨(ad290.add ((x5_1).toNat * 3)).block, (ad290.add ((x5_1).toNat * 3)).off + 1, none⟩ = some (.slice A290_1 ((rd_T55 l0 x5_1).f1).length c290_1) ∧ w'.cell? ⟨(ad290.add ((x5_1).toNat * 3)).block, (ad290.add ((x5_1).toNat * 3)).off + 2, none⟩ = some (.slice A290_2 ((rd_T55 l0 x5_1).f2).length c290_2)) (ds := []) #[false, false, false, false, false, false, false, false] (by kernel_rfl) rfl rfl ⟨((HB.out.cell (Zi w _ hw290_0)).trans hw290_0), ((HB.out.cell (Zi w _ hw290_1)).trans hw290_1), ((HB.out.cell (Zi w _ hw290_2)).trans hw290_2)⟩ (fun hHeld => ?_); refine with_tabW laws_heldFileS.tab4 laws_heldFileS.bits4 (fun HT_ HW_ => ?_)
     generalize wr.drew = w17 at HB HR290_1 HR290_2 hx290_0 hx290_1 hx290_2 hHeld ⊢
     refine SQ.pu 0 12 HT_ ?_
     refine SQ.pu 1 13 HT_ ?_
     refine SQ.pu 2 14 HT_ ?_
     refine SQ.pu 3 15 HT_ ?_
     refine SQ.pu 5 17 HT_ ?_
     refine SQ.tk 4 16 HT_ HW_ hHeld ?_
     refine one_ (i := 6) (N := some 18) #[true, true, true, true, true, true, true, false] rfl rfl (one_of HT_.out (by kernel_rfl)) (by decide) (fun K hK => ?_)
     refine goes_ Tryd.func80 (by kernel_rfl) rfl #[.int .i64 x1_1] (by rfl) rfl rfl (by (try simp only [List.map_toArray, List.map_cons, List.map_nil]); first | done | rfl | (simp only [List.length_drop, List.length_take]; rfl)) ?_
     with_reducible refine (laws_markText.calls k1 x1_1 t291 _ A5.out).mono ?_
     rintro e w18 ⟨rfl, hb⟩
     refine ⟨_, rfl, ?_⟩
     have n0_ := Zh (Zl Zs hb)
     clear HB
     have HB := n0_
     clear n0_
     (try clear hb)
     (try clear hb2)
     (try clear hk)
     (try clear hi)
     refine hK.out _ _ ⟨((HB.out.cell (Zi w _ hw290_0)).trans hw290_0), ((HB.out.cell (Zi w _ hw290_1)).trans hw290_1), ((HB.out.cell (Zi w _ hw290_2)).trans hw290_2)⟩ (fun hHeld => ?_)
     clear hK K
     refine norm_ (a' := ?_) ?_ ?_
     rotate_left
     ·
      show Act.put _ (some 18) _ = _
      simp only [Act.put, List.setIfInBounds_toArray, List.set_cons_zero, List.set_cons_succ, i64_w, i32_w]
      rfl
     refine SQ.pu 7 19 HT_ ?_
     refine done_ (done_of HT_.out (by kernel_rfl)) ?_
     try go_wp2
     go_ret
     exact ⟨by first | rfl | (simp [errW_none, errW_some] <;> rfl) | (simp [*, errW_none, errW_some] <;> rfl), by repeat (first | (with_reducible first | exact HB.out | apply Zf | apply Zd | apply Ze) | exact HB.out)⟩
    rw [if_neg c4] at H
    exact absurd H (by simp)
   rw [if_neg c3] at H
   have c3b0 : decide (x5_1 < (l0.length : Int)) = false := decide_eq_false c3
   clear c3
   obtain rfl := Option.some.inj H
   go_wp2
   go_ret
   exact ⟨by first | rfl | (simp [errW_none, errW_some] <;> rfl) | (simp [*, errW_none, errW_some] <;> rfl), by repeat (first | (with_reducible first | exact HB.out | apply Zf | apply Zd | apply Ze) | exact HB.out)⟩
end Go.Proofs.YtcgojdhbphocgaaDoor.F

namespace Go.Proofs.YtcgojdhbphocgaaDoor.F
open Go.RowKit Go.Proofs.YtcgojdhbphocgaaDoorW.PrintWords Go.Proofs.YtcgojdhbphocgaaDoorW.PrintWords.Kd Go.Proofs.YtcgojdhbphocgaaDoorW.PrintMore.Kd Go.Proofs.YtcgojdhbphocgaaDoorW.PrintLast Go.Proofs.YtcgojdhbphocgaaDoorW.PrintMore
attribute [local go_sem] max2_int min2_int max_two min_two max_three min_three max_four min_four   -- for this text's walks alone
set_option linter.unusedVariables false
set_option linter.unusedSimpArgs false
def laws_heldDisk.f (k : Nat) (l0_0 : List (S55)) (a1 : Int) : Option (Int) := (laws_heldFileS.f k l0_0 a1).bind fun t297 => (if t297 < 0 then (some (-1)) else (some t297))
set_option maxHeartbeats 8000000 in
set_option maxRecDepth 100000 in
theorem laws_heldDisk.calls (k : Nat) (A0_0 : Option Addr) (c0_0 : Nat) (l0_0 : List (S55)) (a1 : Int) (r : Int) (w : World) (hr0_0 : Kd.C k55 w A0_0 l0_0.length l0_0) (hc0_0 : l0_0.length ≤ c0_0) (h : laws_heldDisk.f k l0_0 a1 = some r) :
  Calls Tryd.prog 17 #[.agg #[.slice A0_0 l0_0.length c0_0], .int .i64 a1] w fun e w' => e = .returned (.int .i64 r) ∧ Below w.heap.size w w' := by
 have hu28 := Tryd.underlying28
 have HR0_0 := Zh hr0_0
 have HC0_0 := Zh hc0_0
 clear hr0_0 hc0_0
 have HB := Zh (Below.refl w.heap.size w)
 have H : ((laws_heldFileS.f k l0_0 a1).bind fun t297 => (if t297 < 0 then (some (-1)) else (some t297))) = some r := h
 clear h
 replace H := Option.bind_eq_some_iff.mp H
 obtain ⟨t297, A30, H⟩ := H
 replace H : (if t297 < 0 then (some (-1)) else (some t297)) = some r := H
 have A3 := Zh A30
 clear A30
 by_cases c4 : t297 < 0
 ·
  rw [if_pos c4] at H
  have c4b0 : decide (t297 < 0) = true := decide_eq_true c4
  clear c4
  obtain rfl := Option.some.inj H
  go_enter Tryd.func17, Tryd.ntmps17
  go_wp2_with (first | ((with_reducible refine gate_dst (N := 2) rfl ?_); refine box_event ?hg (N := 2) ?hd (cs := #[.slice A0_0 l0_0.length c0_0]) (t := 28) ?hr ?_; (case hd => rfl); (case hg => rfl); (case hr => first | (go_simp; done) | (go_simp; rfl)); intro gb296 hg w5 hbox hb; have n0_ := Zh (Zl Zs hb); have n1_ := Zh (hbox); have n2_ := Zh ((by rw [hg]; exact (below_size Zs) : w.heap.size ≤ gb296)); have n3_ := Zh ((by rw [hg]; exact (below_size Zs) : w.heap.size ≤ gb296)); clear HB; have HB := n0_; have BK296 := n1_; have GW296 := n2_; have GE296 := n3_; clear n0_ n1_ n2_ n3_; clear hb hbox hg; have hcz6_0 : w5.cell? ⟨gb296, 0, none⟩ = some (.slice A0_0 l0_0.length c0_0) := (blk_cell BK296.out 0).trans rfl; have hfz6_0 := Zn BK296.out 0) | ((with_reducible refine gate_callee (f := 48) rfl ?_); refine goesL_ (some 8) rfl rfl Tryd.func48 (by kernel_rfl) rfl #[.slice A0_0 l0_0.length c0_0, .int .i64 a1] rfl (by (try simp only [List.map_toArray, List.map_cons, List.map_nil]); first | done | rfl | (simp only [List.length_drop, List.length_take]; rfl)) ?_; (with_reducible refine (laws_heldFileS.calls k _ _ l0_0 a1 t297 _ ?side1 ?side2 A3.out).mono ?_); (case side1 => repeat (first | exact (C_below HR0_0.out HB.out) | (with_reducible refine C_alloc ?_ _) | (with_reducible refine C_drewN ?_ _) | (with_reducible refine C_drew ?_))); (case side2 => exact HC0_0.out); rintro e w7 ⟨rfl, hb⟩; refine ⟨_, rfl, ?_⟩; have n0_ := Zh (Zm (g := gb296) (o := .cells #[.slice A0_0 l0_0.length c0_0] 28 (0, 0)) Zk hb); have n1_ := Zh (Zl Zs hb); clear BK296; clear HB; have BK296 := n0_; have HB := n1_; clear n0_ n1_; (try clear hb); (try clear hb2); (try clear hk); (try clear hi)))
  go_ret
  exact ⟨by first | rfl | (simp [errW_none, errW_some] <;> rfl) | (simp [*, errW_none, errW_some] <;> rfl), by repeat (first | (with_reducible first | exact HB.out | apply Zf | apply Zd | apply Ze | refine Zg ?_ GE296.out) | exact HB.out)⟩
 rw [if_neg c4] at H
 have c4b0 : decide (t297 < 0) = false := decide_eq_false c4
 clear c4
 obtain rfl := Option.some.inj H
 go_enter Tryd.func17, Tryd.ntmps17
 go_wp2_with (first | ((with_reducible refine gate_dst (N := 2) rfl ?_); refine box_event ?hg (N := 2) ?hd (cs := #[.slice A0_0 l0_0.length c0_0]) (t := 28) ?hr ?_; (case hd => rfl); (case hg => rfl); (case hr => first | (go_simp; done) | (go_simp; rfl)); intro gb296 hg w8 hbox hb; have n0_ := Zh (Zl Zs hb); have n1_ := Zh (hbox); have n2_ := Zh ((by rw [hg]; exact (below_size Zs) : w.heap.size ≤ gb296)); have n3_ := Zh ((by rw [hg]; exact (below_size Zs) : w.heap.size ≤ gb296)); clear HB; have HB := n0_; have BK296 := n1_; have GW296 := n2_; have GE296 := n3_; clear n0_ n1_ n2_ n3_; clear hb hbox hg; have hcz9_0 : w8.cell? ⟨gb296, 0, none⟩ = some (.slice A0_0 l0_0.length c0_0) := (blk_cell BK296.out 0).trans rfl; have hfz9_0 := Zn BK296.out 0) | ((with_reducible refine gate_callee (f := 48) rfl ?_); refine goesL_ (some 8) rfl rfl Tryd.func48 (by kernel_rfl) rfl #[.slice A0_0 l0_0.length c0_0, .int .i64 a1] rfl (by (try simp only [List.map_toArray, List.map_cons, List.map_nil]); first | done | rfl | (simp only [List.length_drop, List.length_take]; rfl)) ?_; (with_reducible refine (laws_heldFileS.calls k _ _ l0_0 a1 t297 _ ?side1 ?side2 A3.out).mono ?_); (case side1 => repeat (first | exact (C_below HR0_0.out HB.out) | (with_reducible refine C_alloc ?_ _) | (with_reducible refine C_drewN ?_ _) | (with_reducible refine C_drew ?_))); (case side2 => exact HC0_0.out); rintro e w10 ⟨rfl, hb⟩; refine ⟨_, rfl, ?_⟩; have n0_ := Zh (Zm (g := gb296) (o := .cells #[.slice A0_0 l0_0.length c0_0] 28 (0, 0)) Zk hb); have n1_ := Zh (Zl Zs hb); clear BK296; clear HB; have BK296 := n0_; have HB := n1_; clear n0_ n1_; (try clear hb); (try clear hb2); (try clear hk); (try clear hi)))
 go_ret
 exact ⟨by first | rfl | (simp [errW_none, errW_some] <;> rfl) | (simp [*, errW_none, errW_some] <;> rfl), by repeat (first | (with_reducible first | exact HB.out | apply Zf | apply Zd | apply Ze | refine Zg ?_ GE296.out) | exact HB.out)⟩
def laws_markByteS.l0 : Nat → List Int → Int → Int → Option (Int × List Int)
 | 0, _, _, _ => none
 | k + 1, x0, x1, x5 => if x5 < (x0.length : Int) then (if 0 ≤ x5 then (laws_markByteS.l0 k (x0.set (x5 : Int).toNat ((x1) % 256)) (wrap64 (x1 + 1)) (wrap64 (x5 + 1))) else (none)) else (some (x1, x0))
def laws_markByteS.f (k : Nat) (l0 : List Int) (a1 : Int) : Option (Int × List Int) := laws_markByteS.l0 k l0 a1 0
set_option maxHeartbeats 8000000 in
set_option maxRecDepth 100000 in
theorem laws_markByteS.calls (k : Nat) (P0_ : Nat → Prop) (u9000_ : Value) (l0 : List Int) (a1 : Int) (r1 : Int) (r2 : List Int) (w0 w : World) (hB : Below w0.heap.size w0 w) (ho0 : Kd.R (Kd.int .u8) 5 w w0.heap.size P0_ u9000_ l0) (h : laws_markByteS.f k l0 a1 = some (r1, r2)) :
  Calls Tryd.prog 31 #[u9000_, .int .i64 a1] w fun e w' => e = .returned (.int .i64 r1) ∧ Kd.R (Kd.int .u8) 5 w' w0.heap.size (fun k_ => (P0_ k_ ∨ w.heap.size ≤ k_)) u9000_ r2 ∧ Below w0.heap.size w0 w' ∧ Kept w w' (fun k_ => P0_ k_) := by
 have HO0 := Zh (show Kd.R (Kd.int .u8) 5 w w0.heap.size (fun k_ => (P0_ k_ ∨ w.heap.size ≤ k_)) u9000_ l0 from R_mono ho0 (fun k_ hk => (.inl hk)))
 have HK := Zh (Kept.refl w (fun k_ => P0_ k_))
 have HW0 := Zh hB.size
 have HB := Zh hB
 clear hB
 have H : (laws_markByteS.l0 k l0 a1 0) = some (r1, r2) := h
 clear h
 have H' := Zh H
 clear H
 go_enter Tryd.func31, Tryd.ntmps31
 go_wp2
 go_loopg [1, 5] k (fun kq v1 v5 w' => ∃ (x0_1 : List Int) (x1_1 : Int) (x5_1 : Int), v1 = .int .i64 x1_1 ∧ v5 = .int .i64 x5_1 ∧ Aside0 (laws_markByteS.l0 kq x0_1 x1_1 x5_1 = some (r1, r2)) ∧ Aside0 (kq ≤ k) ∧ Aside0 (Kd.R (Kd.int .u8) 5 w' w0.heap.size (fun k_ => (P0_ k_ ∨ w.heap.size ≤ k_)) u9000_ x0_1) ∧ Aside0 (Kept w w' (fun k_ => P0_ k_)) ∧ Aside0 (Below w0.heap.size w0 w'))
 case atStart => exact ⟨(l0), (a1), (0), (by first | rfl | (simp; done) | (simp [*]; done)), (by first | rfl | (simp; done) | (simp [*]; done)), H', ⟨Nat.le_refl _⟩, ⟨by (with_reducible repeat (first | apply R_alloc | apply R_drewN | apply R_drew)); exact HO0.out⟩, ⟨by repeat (first | (with_reducible first | exact HK.out | apply Kept.alloc | apply Kept.drewN | apply Kept.drew) | exact HK.out)⟩, ⟨by repeat (first | (with_reducible first | exact HB.out | apply Zf | apply Zd | apply Ze) | exact HB.out)⟩⟩
 case round =>
  clear H'
  try clear p2
  obtain ⟨x0_1, x1_1, x5_1, rfl, rfl, HA, HK1, HO_0, HK, HB⟩ := hrel
  cases gk with
  | zero => exact absurd HA.out (by simp [laws_markByteS.l0])
  | succ k1 =>
   have H := HA.out
   clear HA
   simp only [laws_markByteS.l0] at H
   by_cases c3 : x5_1 < (x0_1.length : Int)
   ·
    rw [if_pos c3] at H
    have c3b0 : decide (x5_1 < (x0_1.length : Int)) = true := decide_eq_true c3
    clear c3
    by_cases c4 : 0 ≤ x5_1
    ·
     rw [if_pos c4] at H
     have c4b0 : decide (0 ≤ x5_1) = true := decide_eq_true c4
     clear c4
     obtain ⟨y285, hy285⟩ : ∃ y_ : List Int, y_ = (x0_1.set (x5_1 : Int).toNat ((x1_1) % 256)) := ⟨_, rfl⟩
     replace H : (laws_markByteS.l0 k1 y285 (wrap64 (x1_1 + 1)) (wrap64 (x5_1 + 1))) = some (r1, r2) := by first | (rw [hy285]; with_reducible exact H) | (have H2_ := (Option.bind_some _ _).symm.trans H; rw [hy285]; with_reducible exact H2_) | (have H2_ := (Option.bind_some _ _).symm.trans H; with_reducible exact H2_) | with_reducible exact H | (rw [hy285]; exact H) | exact H
     have Ny285 := Zh hy285
     clear hy285
     have H' := Zh H
     clear H
     obtain ⟨Ao6, co6, eo6⟩ := R_slice HO_0.out
     subst eo6
     have p5 : 0 ≤ (x5_1 : Int) := Zo
     have q5 : (x5_1 : Int) < ((x0_1.length : Int) : Int) := Zo
     obtain ⟨go5, co5, eo5, gb5, gl5, cl5, HG5⟩ := R_form HO_0.out (by omega)
     (first | cases eo5 | (injection eo5 with ea_ en_ ec_; (first | subst ea_ | (injection ea_ with ea_; subst ea_)); subst ec_; clear en_))
     have GB5 := Zh gb5
     have GG5 := Zh HG5
     clear gb5 gl5 HG5
     have HMgo5 := Zh (show (P0_ go5 ∨ w.heap.size ≤ go5) from (HO_0.out.1 _ rfl))
     obtain ⟨hx5_0, hf5_0⟩ := R_celln 0 HO_0.out (x5_1 : Int) p5 q5
     replace p5 := eq_true p5
     replace q5 := eq_true q5
     have HP7 := R_putg HO_0.out (x5_1 : Int) ((x1_1) % 256)
     go_wp2_with (first | ((with_reducible refine gate_store (t := 5) (p := 16) rfl ?_); refine store_event (t := 5) (p := 16) (v := ?vo_w8) (w1 := (wr.setCell ⟨go5, (x5_1 : Int).toNat, none⟩ (.int .u8 ((x1_1) % 256)))) ?hg ?ho ?hn ?hr ?_; (case ho => rfl); (case hg => rfl); (case hn => rfl); (case hr => first | (go_simp; done) | (go_simp; rfl)); intro w8 hw; have hg : wr.grownBy w8 (some go5) := (by rw [hw]; exact HP7.2); have hp_ : Kd.R (Kd.int .u8) 5 w8 w0.heap.size (fun k_ => (P0_ k_ ∨ w.heap.size ≤ k_)) (.slice (some ⟨go5, 0, none⟩) x0_1.length co6) y285 := (by rw [hw, Ny285.out]; exact HP7.1); clear HP7; have n0_ := Zh (hp_); have n1_ := Zh ((by rw [hw]; exact Zg (HB.out) GB5.out : Below w0.heap.size w0 w8)); have n2_ := Zh (Kept.of_grown (S := (fun k_ => P0_ k_)) hg (by repeat (first | (with_reducible first | exact HK.out | apply Kept.alloc | apply Kept.drewN | apply Kept.drew) | exact HK.out)) (fun k_ e_ => (HO_0.out.1 k_ e_))); clear HO_0; clear HB; clear HK; have HO_0 := n0_; have HB := n1_; have HK := n2_; clear n0_ n1_ n2_; clear hg hw hp_))
     go_roundg k1
     case measure => have := HK1.out; omega
     case rel => exact ⟨(y285), (wrap64 (x1_1 + 1)), (wrap64 (x5_1 + 1)), (by first | rfl | (simp; done) | (simp [*]; done)), (by first | rfl | (simp; done) | (simp [*]; done)), H', ⟨by have := HK1.out; omega⟩, ⟨by (with_reducible repeat (first | apply R_alloc | apply R_drewN | apply R_drew)); exact HO_0.out⟩, ⟨by repeat (first | (with_reducible first | exact HK.out | apply Kept.alloc | apply Kept.drewN | apply Kept.drew) | exact HK.out)⟩, ⟨by repeat (first | (with_reducible first | exact HB.out | apply Zf | apply Zd | apply Ze) | exact HB.out)⟩⟩
    rw [if_neg c4] at H
    exact absurd H (by simp)
   rw [if_neg c3] at H
   have c3b0 : decide (x5_1 < (x0_1.length : Int)) = false := decide_eq_false c3
   clear c3
   simp only [Option.some.injEq, Prod.mk.injEq] at H
   obtain ⟨rfl, rfl⟩ := H
   obtain ⟨Ao9, co9, eo9⟩ := R_slice HO_0.out
   subst eo9
   go_wp2
   go_ret
   exact ⟨by first | rfl | (simp [errW_none, errW_some] <;> rfl) | (simp [*, errW_none, errW_some] <;> rfl), by (with_reducible repeat (first | apply R_alloc | apply R_drewN | apply R_drew)); exact HO_0.out, by repeat (first | (with_reducible first | exact HB.out | apply Zf | apply Zd | apply Ze) | exact HB.out), by repeat (first | (with_reducible first | exact HK.out | apply Kept.alloc | apply Kept.drewN | apply Kept.drew) | exact HK.out)⟩
end Go.Proofs.YtcgojdhbphocgaaDoor.F

namespace Go.Proofs.YtcgojdhbphocgaaDoor.F
open Go.RowKit Go.Proofs.YtcgojdhbphocgaaDoorW.PrintWords Go.Proofs.YtcgojdhbphocgaaDoorW.PrintLast Go.Proofs.YtcgojdhbphocgaaDoorW.PrintMore
set_option linter.unusedVariables false
set_option linter.unusedSimpArgs false
def laws_markFileS.l0 : Nat → List S55 → Int → Int → Option (Int × List S55)
  | 0, _, _, _ => none
  | k + 1, x0, x1, x5 => if x5 < (x0.length : Int) then (if 0 ≤ x5 then ((laws_markText.f k x1).bind fun a => ((laws_markByteS.f k (rd_T55 x0 x5).f1 (wrap64 (x1 + 1))).bind fun b => ((laws_markByteS.f k (rd_T55 x0 x5).f2 b.1).bind fun c => laws_markFileS.l0 k (x0.set x5.toNat ⟨a, b.2, c.2⟩) c.1 (wrap64 (x5 + 1))))) else none) else some (x1, x0)
def laws_markFileS.f (k : Nat) (l0 : List S55) (a1 : Int) : Option (Int × List S55) := laws_markFileS.l0 k l0 a1 0
theorem S_lent {α : Type} {d : Kd α} {e base : Nat} {W : World} {ok : Nat → Prop} {v : Value} {xs : List α} (h : Kd.S d e W base ok v xs) (z : α) (i : Int) (h0 : 0 ≤ i) (h1 : i < xs.length) :
    ∃ (g cap : Nat) (oki : Nat → Prop) (c : List Value), v = .slice (some ⟨g, 0, none⟩) xs.length cap ∧ base ≤ g ∧ ok g ∧ c.length = d.sz ∧ d.M W base oki (xs.getD i.toNat z) c ∧ (∀ j u, c[j]? = some u → W.cell? ⟨g, i.toNat * d.sz + j, none⟩ = some u) ∧ (∀ j, W.frozen? ⟨g, i.toNat * d.sz + j, none⟩ = false) ∧ (∀ k, oki k → ok k ∧ k ≠ g) ∧ Kd.H d e W base ok v xs i oki c := by
  obtain ⟨g, cap, rfl, hg, _, _⟩ := Kd.S_form h (by omega)
  obtain ⟨oki, c, a1, a2, a3, a6, a4, a5⟩ := Kd.S_elem h z i h0 h1
  exact ⟨g, cap, oki, c, rfl, hg, (Kd.S_R h).1 g (by simp [Value.ownBlock]), a1, a2, a3, a6, a4, a5⟩
theorem R_back {α : Type} {d : Kd α} {e base : Nat} {W W1 : World} {ok ok' : Nat → Prop} {v : Value} {xs ys : List α} (hE : d.E = []) (h : d.R e W base ok v xs) (h' : d.R e W1 base ok' v ys) : d.R e W1 base ok v ys :=
  Kd.R_mono (Kd.R_tight hE h') (fun k hk => h.1 k hk.symm)
set_option maxHeartbeats 8000000 in
set_option maxRecDepth 100000 in
theorem laws_markFileS.calls (k : Nat) (P0_ : Nat → Prop) (u9000_ : Value) (l0 : List S55) (a1 : Int) (r1 : Int) (r2 : List S55) (w0 w : World) (hB : Below w0.heap.size w0 w) (ho0 : Kd.S k55 55 w w0.heap.size P0_ u9000_ l0) (h : laws_markFileS.f k l0 a1 = some (r1, r2)) :
    Calls Tryd.prog 47 #[u9000_, .int .i64 a1] w fun e w' => e = .returned (.int .i64 r1) ∧ Kd.S k55 55 w' w0.heap.size P0_ u9000_ r2 ∧ Below w0.heap.size w0 w' ∧ Kept w w' (fun k_ => P0_ k_) := by
  obtain ⟨A0, c0, rfl⟩ := Kd.S_slice ho0
  have HO0 := Zh ho0
  have HK := Zh (Kept.refl w (fun k_ => P0_ k_))
  have HB := Zh hB
  clear hB ho0
  have H' := Zh (show laws_markFileS.l0 k l0 a1 0 = some (r1, r2) from h)
  clear h
  have hu55 := Tryd.underlying55
  go_enter Tryd.func47, Tryd.ntmps47
  go_wp2
  go_loopg [1, 5] k (fun kq v1 v5 w' => ∃ (x0 : List S55) (x1 x5 : Int), v1 = .int .i64 x1 ∧ v5 = .int .i64 x5 ∧ Aside0 (laws_markFileS.l0 kq x0 x1 x5 = some (r1, r2)) ∧ Aside0 (kq ≤ k) ∧ Aside0 (Kd.S k55 55 w' w0.heap.size P0_ (.slice A0 l0.length c0) x0) ∧ Aside0 (Kept w w' (fun k_ => P0_ k_)) ∧ Aside0 (Below w0.heap.size w0 w'))
  case atStart => exact ⟨l0, a1, 0, by first | rfl | (simp; done), by first | rfl | (simp; done), H', ⟨Nat.le_refl _⟩, HO0, HK, HB⟩
  case round =>
    clear H' HO0 HK HB
    obtain ⟨x0, x1, x5, rfl, rfl, HA, HK1, HO, HK, HB⟩ := hrel
    cases gk with
    | zero => exact absurd HA.out (by simp [laws_markFileS.l0])
    | succ k1 =>
      have H := HA.out
      clear HA
      have hl : l0.length = x0.length := (Kd.S_reads' HO.out).1
      simp only [laws_markFileS.l0, ← hl] at H
      by_cases c3 : x5 < (l0.length : Int)
      · rw [if_pos c3] at H
        have q5 := decide_eq_true c3
        by_cases c4 : 0 ≤ x5
        · rw [if_pos c4] at H
          obtain ⟨t0, A4, H⟩ := Option.bind_eq_some_iff.mp H
          obtain ⟨⟨t1, t2⟩, A5, H⟩ := Option.bind_eq_some_iff.mp H
          obtain ⟨⟨t3, t4⟩, A7, H⟩ := Option.bind_eq_some_iff.mp H
          dsimp only at A7 H
          have H' := Zh H
          clear H
          have A3 := Zh A4
          clear A4
          have p6 := eq_true c4
          have q6 := eq_true c3
          have C3 := Zh c3
          have C4 := Zh c4
          have HL := Zh hl
          clear hl
          go_wp2_with fail
          refine (laws_markText.calls k1 x1 t0 _ A3.out).mono ?_
          rintro e w5 ⟨rfl, hb0⟩
          replace HO := Zh (Kd.S_below HO.out hb0)
          replace HB := Zh (below_then HB.out HB.out.size hb0)
          replace HK := Zh (HK.out.below hb0)
          clear hb0
          have hl := HL.out
          have c3 := C3.out
          have c4 := C4.out
          obtain ⟨g, cap, oki, c, hv, hg, hok, hcl, hM, hcc, hfr, hoki, hH⟩ := S_lent HO.out z55 x5 c4 (by omega)
          have hM : k55.M w5 w0.heap.size oki (rd_T55 x0 x5) c := hM
          generalize rd_T55 x0 x5 = y at A5 A7 hM
          have A6 := Zh A5
          have A8 := Zh A7
          clear A5 A7
          obtain ⟨pp, v1, v2, rfl, hA1, hA2⟩ := k55_openA hM
          have hNN := fun k (h1 : some k = v1.ownBlock) (h2 : some k = v2.ownBlock) => (hA2.1 k h2.symm).2 (hA1.1 k h1.symm).2
          have hR1 := Kd.R_mono hA1 (fun _ h => h.1)
          have hR2 := Kd.R_mono hA2 (fun _ h => h.1)
          have hx0 : w5.cell? ⟨g, x5.toNat * 3, none⟩ = some (.string y.f0) := hcc 0 _ rfl
          have hf0 : w5.frozen? ⟨g, x5.toNat * 3, none⟩ = false := hfr 0
          have hil : x5.toNat < x0.length := by omega
          have hP := (Kd.S_seg (okg := fun _ => False) (seg := [.string t0]) (j := 0) (x' := (⟨t0, y.f1, y.f2⟩ : S55)) (Kd.H_mono (v := .slice (some ⟨g, 0, none⟩) x0.length cap) (hv ▸ hH) (fun k hk => ⟨hk, fun h => h⟩)) c4 (by omega) (show 0 + 1 ≤ 3 by decide) (k55_mkM _ _ _ (⟨t0, y.f1, y.f2⟩ : S55) hR1 hR2 hNN) (fun k hk => .inl hk) (fun k hk => hk.elim)).1
          have HP : Aside0 (Kd.S k55 55 (w5.setCell ⟨g, x5.toNat * 3, none⟩ (.string t0)) w0.heap.size P0_ (.slice (some ⟨g, 0, none⟩) x0.length cap) (x0.set x5.toNat (⟨t0, y.f1, y.f2⟩ : S55))) := ⟨hP⟩
          have HB2 := Zh (Zg (g := g) (j := x5.toNat * 3) (v := .string t0) HB.out hg)
          have HK2 := Zh (Kept.setCell (p := ⟨g, x5.toNat * 3, none⟩) HK.out (.inl hok) (.string t0))
          injection hv with e1 e2 e3
          subst e1
          subst e3
          have HIL := Zh hil
          clear hNN hA1 hA2
          clear e2 hM hcc hfr hoki hH hcl hR1 hR2 hP hil HO HB HK hg hok hl
          go_wp2_with ((with_reducible refine gate_store (t := 9) (p := 17) rfl ?_); refine store_event (t := 9) (p := 17) (v := ?vo) (w1 := (w5.setCell ⟨g, x5.toNat * 3, none⟩ (.string t0))) ?hg ?ho ?hn ?hr ?_; (case ho => rfl); (case hg => rfl); (case hn => rfl); (case hr => first | (go_simp; done) | (go_simp; rfl)); intro w2 hw; rw [← hw] at HP HB2 HK2; clear hw hx0 hf0; obtain ⟨g2, cap2, oki, c, hv, hg, hok, hcl, hM, hcc, hfr, hoki, hH⟩ := S_lent HP.out z55 x5 C4.out (by rw [List.length_set]; exact (Int.toNat_lt C4.out).1 HIL.out); injection hv with e1 e2 e3; injection e1 with e1; injection e1 with e1; subst e1; clear e2 e3; rw [List.getD_eq_getElem?_getD, List.getElem?_set_self HIL.out, Option.getD_some] at hM; obtain ⟨pp2, v3, v4, rfl, hA1, hA2⟩ := k55_openA hM; have GN := Zh (fun k (h1 : some k = v3.ownBlock) (h2 : some k = v4.ownBlock) => (hA2.1 k h2.symm).2 (hA1.1 k h1.symm).2); have hR1 := Kd.R_mono hA1 (fun _ h => h.1); have hR2 := Kd.R_mono hA2 (fun _ h => h.1); have hx1 : w2.cell? ⟨g, x5.toNat * 3 + 1, none⟩ = some v3 := hcc 1 _ rfl; have hx2 : w2.cell? ⟨g, x5.toNat * 3 + 2, none⟩ = some v4 := hcc 2 _ rfl; have GR1 := Zh hR1; have GR2 := Zh hR2; have GH := Zh hH; have GI := Zh hoki; have GO := Zh hok; clear hM hcc hfr hoki hH hcl hR1 hR2 hg hok HP hA1 hA2)
          have T1 := Kd.R_tight rfl GR1.out
          have T2 := Kd.R_tight rfl GR2.out
          refine (laws_markByteS.calls k1 (fun k => some k = v3.ownBlock) v3 y.f1 _ t1 t2 w0 _ HB2.out T1 A6.out).mono ?_
          rintro e w3 ⟨rfl, hR1, hB1, hK1⟩
          have U1 := Zh (R_back rfl T1 hR1)
          have U2 := Zh (Kd.R_kept T2 hK1 (fun k h1 h2 => GN.out k h2 h1))
          have UH := Zh (Kd.H_kept GH.out hK1 (fun k hk hn hs => hn (GR1.out.1 k hs.symm)))
          have UK := Zh (HK2.out.then_ hK1 (fun k hk => .inl (GI.out k (GR1.out.1 k hk.symm)).1))
          have hx3 : w3.cell? ⟨g, x5.toNat * 3 + 2, none⟩ = some v4 := cell_kept hx2 hK1 (fun hs => (GI.out _ (GR1.out.1 _ hs.symm)).2 rfl)
          have UB := Zh hB1
          have NE1 := Zh GN.out
          clear T1 T2 hR1 hB1 hK1 hx1 hx2 GH HK2 HB2
          go_wp2_with fail
          refine (laws_markByteS.calls k1 (fun k => some k = v4.ownBlock) v4 y.f2 _ t3 t4 w0 _ UB.out U2.out A8.out).mono ?_
          rintro e w4 ⟨rfl, hR2, hB1, hK1⟩
          have V2 := R_back rfl U2.out hR2
          have V1 := Kd.R_kept U1.out hK1 NE1.out
          have VH := Kd.H_kept UH.out hK1 (fun k hk hn hs => hn (GR2.out.1 k hs.symm))
          have N1 := Zh (Kd.H_back VH (okp := oki) (k55_mkM _ _ _ (⟨t0, t2, t4⟩ : S55) (Kd.R_mono V1 (fun k hk => GR1.out.1 k hk.symm)) (Kd.R_mono V2 (fun k hk => GR2.out.1 k hk.symm)) GN.out) (fun _ h => h))
          rw [List.set_set] at N1
          have N2 := Zh (UK.out.then_ hK1 (fun k hk => .inl (GI.out k (GR2.out.1 k hk.symm)).1))
          have N3 := Zh hB1
          clear V1 V2 VH hR2 hB1 hK1 hx3 U1 U2 UH UK UB NE1 GR1 GR2 GI GO
          rw [HL.out.symm] at N1
          go_wp2
          go_roundg k1
          case measure => have := HK1.out; omega
          case rel => exact ⟨_, t3, _, rfl, by first | rfl | (simp; done), H', ⟨by have := HK1.out; omega⟩, N1, N2, N3⟩
        rw [if_neg c4] at H
        exact absurd H (by simp)
      rw [if_neg c3] at H
      have q5 := decide_eq_false c3
      simp only [Option.some.injEq, Prod.mk.injEq] at H
      obtain ⟨rfl, rfl⟩ := H
      clear hl c3
      go_wp2
      go_ret
      exact ⟨rfl, HO.out, HB.out, HK.out⟩
def laws_markDisk.f (k : Nat) (l0_0 : List S55) (a1 : Int) : Option (Int × List S55) := laws_markFileS.f k l0_0 a1
set_option maxHeartbeats 8000000 in
theorem laws_markDisk.calls (k : Nat) (P0_0_ : Nat → Prop) (u9000_ : Value) (l0_0 : List S55) (a1 : Int) (r1 : Int) (r2 : List S55) (w0 w : World) (hB : Below w0.heap.size w0 w) (ho0_0 : Kd.S k55 55 w w0.heap.size P0_0_ u9000_ l0_0) (h : laws_markDisk.f k l0_0 a1 = some (r1, r2)) :
    Calls Tryd.prog 16 #[.agg #[u9000_], .int .i64 a1] w fun e w' => e = .returned (.int .i64 r1) ∧ Kd.S k55 55 w' w0.heap.size P0_0_ u9000_ r2 ∧ Below w0.heap.size w0 w' ∧ Kept w w' (fun k_ => P0_0_ k_) := by
  obtain ⟨A0, c0, rfl⟩ := Kd.S_slice ho0_0
  have HO0 := Zh ho0_0
  have HB := Zh hB
  have H := Zh (show laws_markFileS.f k l0_0 a1 = some (r1, r2) from h)
  clear hB ho0_0 h
  go_enter Tryd.func16, Tryd.ntmps16
  go_wp2_with fail
  have B1 := Zf (Below.refl w.heap.size w) (.cells #[.slice A0 l0_0.length c0] 28)
  refine (laws_markFileS.calls k P0_0_ _ l0_0 a1 r1 r2 w0 _ (below_then HB.out HB.out.size B1) (Kd.S_below HO0.out B1) H.out).mono ?_
  rintro e w' ⟨rfl, hS, hB2, hK⟩
  have HS := Zh hS
  have HB2 := Zh hB2
  have HK := Zh ((Kept.of_below B1 _).then_ hK (fun k hk => .inl hk))
  clear hS hB2 hK B1
  go_wp2
  go_ret
  exact ⟨rfl, HS.out, HB2.out, HK.out⟩
end Go.Proofs.YtcgojdhbphocgaaDoor.F

namespace Go.Proofs.YtcgojdhbphocgaaDoor.F
open Go.RowKit Go.Proofs.YtcgojdhbphocgaaDoorW.PrintWords Go.Proofs.YtcgojdhbphocgaaDoorW.PrintWords.Kd Go.Proofs.YtcgojdhbphocgaaDoorW.PrintMore.Kd Go.Proofs.YtcgojdhbphocgaaDoorW.PrintLast Go.Proofs.YtcgojdhbphocgaaDoorW.PrintMore
attribute [local go_sem] max2_int min2_int max_two min_two max_three min_three max_four min_four   -- for this text's walks alone
set_option linter.unusedVariables false
set_option linter.unusedSimpArgs false
def spec_l03Find.l0 : Nat → ByteArray → Int → List (S55) → Option (Int)
 | 0, _, _, _ => none
 | k + 1, x1, x5, x109000 => if x5 < (x109000.length : Int) then (if 0 ≤ x5 then (if ((rd_T55 x109000 x5).f0).toList = x1.toList then (some x5) else (spec_l03Find.l0 k x1 (wrap64 (x5 + 1)) x109000)) else (none)) else (some (-1))
def spec_l03Find.f (k : Nat) (l0_0 : List (S55)) (a1 : ByteArray) : Option (Int) := spec_l03Find.l0 k a1 0 l0_0
set_option maxHeartbeats 8000000 in
set_option maxRecDepth 100000 in
theorem spec_l03Find.calls (k : Nat) (A0_0 : Option Addr) (c0_0 : Nat) (l0_0 : List (S55)) (a1 : ByteArray) (r : Int) (w : World) (hr0_0 : Kd.C k55 w A0_0 l0_0.length l0_0) (hc0_0 : l0_0.length ≤ c0_0) (h : spec_l03Find.f k l0_0 a1 = some r) :
  Calls Tryd.prog 83 #[.agg #[.slice A0_0 l0_0.length c0_0], .string a1] w fun e w' => e = .returned (.int .i64 r) ∧ Below w.heap.size w w' := by
 have hu28 := Tryd.underlying28
 have HR0_0 := Zh hr0_0
 have HC0_0 := Zh hc0_0
 clear hr0_0 hc0_0
 have HB := Zh (Below.refl w.heap.size w)
 have H : (spec_l03Find.l0 k a1 0 l0_0) = some r := h
 clear h
 have H' := Zh H
 clear H
 go_enter Tryd.func83, Tryd.ntmps83
 go_wp2_with (first | ((with_reducible refine gate_dst (N := 2) rfl ?_); refine box_event ?hg (N := 2) ?hd (cs := #[.slice A0_0 l0_0.length c0_0]) (t := 28) ?hr ?_; (case hd => rfl); (case hg => rfl); (case hr => first | (go_simp; done) | (go_simp; rfl)); intro gb108 hg w3 hbox hb; have n0_ := Zh (Zl Zs hb); have n1_ := Zh (hbox); have n2_ := Zh ((by rw [hg]; exact (below_size Zs) : w.heap.size ≤ gb108)); have n3_ := Zh ((by rw [hg]; exact (below_size Zs) : w.heap.size ≤ gb108)); clear HB; have HB := n0_; have BK108 := n1_; have GW108 := n2_; have GE108 := n3_; clear n0_ n1_ n2_ n3_; clear hb hbox hg))
 go_loopg [5] k (fun kq v5 w' => ∃ (x5_1 : Int), v5 = .int .i64 x5_1 ∧ Aside0 (spec_l03Find.l0 kq a1 x5_1 l0_0 = some r) ∧ Aside0 (kq ≤ k) ∧ Aside0 (w'.heap[gb108]? = some (.cells #[(.slice A0_0 l0_0.length c0_0)] 28 (0, 0))) ∧ Aside0 (Below w.heap.size w w'))
 case atStart => exact ⟨(0), (by first | rfl | (simp; done) | (simp [*]; done)), H', ⟨Nat.le_refl _⟩, ⟨by (with_reducible repeat (first | refine Za ?_ _ | refine Zb ?_ | refine blk_alloc ?_ _)); exact BK108.out⟩, ⟨by repeat (first | (with_reducible first | exact HB.out | apply Zf | apply Zd | apply Ze | refine Zg ?_ GE108.out) | exact HB.out)⟩⟩
 case round =>
  clear H'
  try clear p2
  obtain ⟨x5_1, rfl, HA, HK1, BK108, HB⟩ := hrel
  cases gk with
  | zero => exact absurd HA.out (by simp [spec_l03Find.l0])
  | succ k1 =>
   have H := HA.out
   clear HA
   simp only [spec_l03Find.l0] at H
   by_cases c4 : x5_1 < (l0_0.length : Int)
   ·
    rw [if_pos c4] at H
    have c4b0 : decide (x5_1 < (l0_0.length : Int)) = true := decide_eq_true c4
    clear c4
    by_cases c5 : 0 ≤ x5_1
    ·
     rw [if_pos c5] at H
     have c5b0 : decide (0 ≤ x5_1) = true := decide_eq_true c5
     clear c5
     by_cases c6 : ((rd_T55 l0_0 x5_1).f0).toList = a1.toList
     ·
      rw [if_pos c6] at H
      have c6b0 : (((rd_T55 l0_0 x5_1).f0).toList == a1.toList) = true := beq_iff_eq.mpr c6
      have c6b1 : (((rd_T55 l0_0 x5_1).f0).toList != a1.toList) = false := bne_eq_false_iff_eq.mpr c6
      clear c6
      obtain rfl := Option.some.inj H
      have hcz7_0 : wr.cell? ⟨gb108, 0, none⟩ = some (.slice A0_0 l0_0.length c0_0) := (blk_cell BK108.out 0).trans rfl
      have hfz7_0 := Zn BK108.out 0
      have p109 : 0 ≤ (x5_1 : Int) := Zo
      have q109 : x5_1 < (l0_0.length : Int) := Zo
      obtain ⟨ad109, A109_1, c109_1, A109_2, c109_2, e109, hx109_0, hx109_1, hx109_2, hl109_1, hi109_1, hl109_2, hi109_2⟩ := at_T55 HR0_0.out x5_1 p109 q109
      cases e109
      replace hx109_0 := Zc HB.out hx109_0
      replace hx109_1 := Zc HB.out hx109_1
      replace hx109_2 := Zc HB.out hx109_2
      have HR109_1 := Zh hi109_1
      have HC109_1 := Zh hl109_1
      clear hi109_1 hl109_1
      have HR109_2 := Zh hi109_2
      have HC109_2 := Zh hl109_2
      clear hi109_2 hl109_2
      replace p109 := eq_true p109
      replace q109 := eq_true q109
      go_wp2
      go_ret
      exact ⟨by first | rfl | (simp [errW_none, errW_some] <;> rfl) | (simp [*, errW_none, errW_some] <;> rfl), by repeat (first | (with_reducible first | exact HB.out | apply Zf | apply Zd | apply Ze | refine Zg ?_ GE108.out) | exact HB.out)⟩
     rw [if_neg c6] at H
     have c6b0 : (((rd_T55 l0_0 x5_1).f0).toList == a1.toList) = false := beq_eq_false_iff_ne.mpr c6
     have c6b1 : (((rd_T55 l0_0 x5_1).f0).toList != a1.toList) = true := bne_iff_ne.mpr c6
     have H' := Zh H
     clear H
     have hcz8_0 : wr.cell? ⟨gb108, 0, none⟩ = some (.slice A0_0 l0_0.length c0_0) := (blk_cell BK108.out 0).trans rfl
     have hfz8_0 := Zn BK108.out 0
     have p109 : 0 ≤ (x5_1 : Int) := Zo
     have q109 : x5_1 < (l0_0.length : Int) := Zo
     obtain ⟨ad109, A109_1, c109_1, A109_2, c109_2, e109, hx109_0, hx109_1, hx109_2, hl109_1, hi109_1, hl109_2, hi109_2⟩ := at_T55 HR0_0.out x5_1 p109 q109
     cases e109
     replace hx109_0 := Zc HB.out hx109_0
     replace hx109_1 := Zc HB.out hx109_1
     replace hx109_2 := Zc HB.out hx109_2
     have HR109_1 := Zh hi109_1
     have HC109_1 := Zh hl109_1
     clear hi109_1 hl109_1
     have HR109_2 := Zh hi109_2
     have HC109_2 := Zh hl109_2
     clear hi109_2 hl109_2
     replace p109 := eq_true p109
     replace q109 := eq_true q109
     go_wp2
     go_roundg k1
     case measure => have := HK1.out; omega
     case rel => exact ⟨(wrap64 (x5_1 + 1)), (by first | rfl | (simp; done) | (simp [*]; done)), H', ⟨by have := HK1.out; omega⟩, ⟨by (with_reducible repeat (first | refine Za ?_ _ | refine Zb ?_ | refine blk_alloc ?_ _)); exact BK108.out⟩, ⟨by repeat (first | (with_reducible first | exact HB.out | apply Zf | apply Zd | apply Ze | refine Zg ?_ GE108.out) | exact HB.out)⟩⟩
    rw [if_neg c5] at H
    exact absurd H (by simp)
   rw [if_neg c4] at H
   have c4b0 : decide (x5_1 < (l0_0.length : Int)) = false := decide_eq_false c4
   clear c4
   obtain rfl := Option.some.inj H
   have hcz9_0 : wr.cell? ⟨gb108, 0, none⟩ = some (.slice A0_0 l0_0.length c0_0) := (blk_cell BK108.out 0).trans rfl
   have hfz9_0 := Zn BK108.out 0
   go_wp2
   go_ret
   exact ⟨by first | rfl | (simp [errW_none, errW_some] <;> rfl) | (simp [*, errW_none, errW_some] <;> rfl), by repeat (first | (with_reducible first | exact HB.out | apply Zf | apply Zd | apply Ze | refine Zg ?_ GE108.out) | exact HB.out)⟩
def spec_l01In.f (a0 : Int) (a1 : Int) (a2 : Int) : Option (Bool) := if a1 ≤ a0 then (some (decide (a0 ≤ a2))) else (some false)
set_option maxHeartbeats 8000000 in
set_option maxRecDepth 100000 in
theorem spec_l01In.calls (a0 : Int) (a1 : Int) (a2 : Int) (r : Bool) (w : World) (h : spec_l01In.f a0 a1 a2 = some r) :
  Calls Tryd.prog 62 #[.int .i64 a0, .int .i64 a1, .int .i64 a2] w fun e w' => e = .returned (.bool r) ∧ Drawn0 w w' := by
 have H : (if a1 ≤ a0 then (some (decide (a0 ≤ a2))) else (some false)) = some r := h
 clear h
 by_cases c4 : a1 ≤ a0
 ·
  rw [if_pos c4] at H
  have c4b0 : decide (a1 ≤ a0) = true := decide_eq_true c4
  clear c4
  obtain rfl := Option.some.inj H
  go_enter Tryd.func62, Tryd.ntmps62
  go_wp2
  go_ret
  exact ⟨by first | rfl | (simp; done) | (simp [*]; done), by repeat (first | exact Drawn0.refl _ | apply Drawn0.step)⟩
 rw [if_neg c4] at H
 have c4b0 : decide (a1 ≤ a0) = false := decide_eq_false c4
 clear c4
 obtain rfl := Option.some.inj H
 go_enter Tryd.func62, Tryd.ntmps62
 go_wp2
 go_ret
 exact ⟨by first | rfl | (simp; done) | (simp [*]; done), by repeat (first | exact Drawn0.refl _ | apply Drawn0.step)⟩
def spec_l01Name.l0 : Nat → ByteArray → Int → Option (Bool)
 | 0, _, _ => none
 | k + 1, x0, x3 => if x3 < (x0.size : Int) then (if 0 ≤ x3 then (if (bt x0 x3) ≥ 97 then (if ((bt x0 x3) ≤ 122) then (spec_l01Name.l0 k x0 (wrap64 (x3 + 1))) else (if (bt x0 x3) ≥ 48 then (if ((bt x0 x3) ≤ 57) then (spec_l01Name.l0 k x0 (wrap64 (x3 + 1))) else (some false)) else (some false))) else (if (bt x0 x3) ≥ 48 then (if ((bt x0 x3) ≤ 57) then (spec_l01Name.l0 k x0 (wrap64 (x3 + 1))) else (some false)) else (some false))) else (none)) else ((spec_l01In.f (x0.size : Int) 1 12).bind fun t110 => (some t110))
def spec_l01Name.f (k : Nat) (a0 : ByteArray) : Option (Bool) := spec_l01Name.l0 k a0 0
set_option maxHeartbeats 8000000 in
set_option maxRecDepth 100000 in
theorem spec_l01Name.calls (k : Nat) (a0 : ByteArray) (r : Bool) (w : World) (h : spec_l01Name.f k a0 = some r) :
  Calls Tryd.prog 90 #[.string a0] w fun e w' => e = .returned (.bool r) ∧ Drawn0 w w' := by
 have H : (spec_l01Name.l0 k a0 0) = some r := h
 clear h
 have H' := Zh H
 clear H
 go_enter Tryd.func90, Tryd.ntmps90
 go_wp2
 go_loopg [3] k (fun kq v3 w' => ∃ (x3_1 : Int), v3 = .int .i64 x3_1 ∧ Aside0 (spec_l01Name.l0 kq a0 x3_1 = some r) ∧ Aside0 (kq ≤ k) ∧ Drawn0 w w')
 case atStart => exact ⟨(0), (by first | rfl | (simp; done) | (simp [*]; done)), H', ⟨Nat.le_refl _⟩, by repeat (first | exact Drawn0.refl _ | apply Drawn0.step)⟩
 case round =>
  clear H'
  obtain ⟨x3_1, rfl, HA, HK1, ⟨m1, rfl⟩⟩ := hrel
  cases gk with
  | zero => exact absurd HA.out (by simp [spec_l01Name.l0])
  | succ k1 =>
   have H := HA.out
   clear HA
   simp only [spec_l01Name.l0] at H
   by_cases c2 : x3_1 < (a0.size : Int)
   ·
    rw [if_pos c2] at H
    have c2b0 : decide (x3_1 < (a0.size : Int)) = true := decide_eq_true c2
    clear c2
    by_cases c3 : 0 ≤ x3_1
    ·
     rw [if_pos c3] at H
     have c3b0 : decide (0 ≤ x3_1) = true := decide_eq_true c3
     clear c3
     by_cases c5 : (bt a0 x3_1) ≥ 97
     ·
      rw [if_pos c5] at H
      have c5b0 : decide (97 ≤ (bt a0 x3_1)) = true := decide_eq_true c5
      clear c5
      by_cases c6 : ((bt a0 x3_1) ≤ 122)
      ·
       rw [if_pos c6] at H
       have c6b0 : decide ((bt a0 x3_1) ≤ 122) = true := decide_eq_true c6
       clear c6
       have H' := Zh H
       clear H
       have p4 : 0 ≤ (x3_1 : Int) := Zo
       have q4 : x3_1 < (a0.size : Int) := Zo
       have hx4 := bt_at a0 x3_1
       replace p4 := eq_true p4
       replace q4 := eq_true q4
       go_wp2
       go_roundg k1
       case measure => have := HK1.out; omega
       case rel => exact ⟨(wrap64 (x3_1 + 1)), (by first | rfl | (simp; done) | (simp [*]; done)), H', ⟨by have := HK1.out; omega⟩, by repeat (first | exact Drawn0.refl _ | apply Drawn0.step)⟩
      rw [if_neg c6] at H
      have c6b0 : decide ((bt a0 x3_1) ≤ 122) = false := decide_eq_false c6
      clear c6
      by_cases c7 : (bt a0 x3_1) ≥ 48
      ·
       rw [if_pos c7] at H
       have c7b0 : decide (48 ≤ (bt a0 x3_1)) = true := decide_eq_true c7
       clear c7
       by_cases c8 : ((bt a0 x3_1) ≤ 57)
       ·
        rw [if_pos c8] at H
        have c8b0 : decide ((bt a0 x3_1) ≤ 57) = true := decide_eq_true c8
        clear c8
        have H' := Zh H
        clear H
        have p4 : 0 ≤ (x3_1 : Int) := Zo
        have q4 : x3_1 < (a0.size : Int) := Zo
        have hx4 := bt_at a0 x3_1
        replace p4 := eq_true p4
        replace q4 := eq_true q4
        go_wp2
        go_roundg k1
        case measure => have := HK1.out; omega
        case rel => exact ⟨(wrap64 (x3_1 + 1)), (by first | rfl | (simp; done) | (simp [*]; done)), H', ⟨by have := HK1.out; omega⟩, by repeat (first | exact Drawn0.refl _ | apply Drawn0.step)⟩
       rw [if_neg c8] at H
       have c8b0 : decide ((bt a0 x3_1) ≤ 57) = false := decide_eq_false c8
       clear c8
       obtain rfl := Option.some.inj H
       have p4 : 0 ≤ (x3_1 : Int) := Zo
       have q4 : x3_1 < (a0.size : Int) := Zo
       have hx4 := bt_at a0 x3_1
       replace p4 := eq_true p4
       replace q4 := eq_true q4
       go_wp2
       go_ret
       exact ⟨by first | rfl | (simp; done) | (simp [*]; done), by repeat (first | exact Drawn0.refl _ | apply Drawn0.step)⟩
      rw [if_neg c7] at H
      have c7b0 : decide (48 ≤ (bt a0 x3_1)) = false := decide_eq_false c7
      clear c7
      obtain rfl := Option.some.inj H
      have p4 : 0 ≤ (x3_1 : Int) := Zo
      have q4 : x3_1 < (a0.size : Int) := Zo
      have hx4 := bt_at a0 x3_1
      replace p4 := eq_true p4
      replace q4 := eq_true q4
      go_wp2
      go_ret
      exact ⟨by first | rfl | (simp; done) | (simp [*]; done), by repeat (first | exact Drawn0.refl _ | apply Drawn0.step)⟩
     rw [if_neg c5] at H
     have c5b0 : decide (97 ≤ (bt a0 x3_1)) = false := decide_eq_false c5
     clear c5
     by_cases c9 : (bt a0 x3_1) ≥ 48
     ·
      rw [if_pos c9] at H
      have c9b0 : decide (48 ≤ (bt a0 x3_1)) = true := decide_eq_true c9
      clear c9
      by_cases c10 : ((bt a0 x3_1) ≤ 57)
      ·
       rw [if_pos c10] at H
       have c10b0 : decide ((bt a0 x3_1) ≤ 57) = true := decide_eq_true c10
       clear c10
       have H' := Zh H
       clear H
       have p4 : 0 ≤ (x3_1 : Int) := Zo
       have q4 : x3_1 < (a0.size : Int) := Zo
       have hx4 := bt_at a0 x3_1
       replace p4 := eq_true p4
       replace q4 := eq_true q4
       go_wp2
       go_roundg k1
       case measure => have := HK1.out; omega
       case rel => exact ⟨(wrap64 (x3_1 + 1)), (by first | rfl | (simp; done) | (simp [*]; done)), H', ⟨by have := HK1.out; omega⟩, by repeat (first | exact Drawn0.refl _ | apply Drawn0.step)⟩
      rw [if_neg c10] at H
      have c10b0 : decide ((bt a0 x3_1) ≤ 57) = false := decide_eq_false c10
      clear c10
      obtain rfl := Option.some.inj H
      have p4 : 0 ≤ (x3_1 : Int) := Zo
      have q4 : x3_1 < (a0.size : Int) := Zo
      have hx4 := bt_at a0 x3_1
      replace p4 := eq_true p4
      replace q4 := eq_true q4
      go_wp2
      go_ret
      exact ⟨by first | rfl | (simp; done) | (simp [*]; done), by repeat (first | exact Drawn0.refl _ | apply Drawn0.step)⟩
     rw [if_neg c9] at H
     have c9b0 : decide (48 ≤ (bt a0 x3_1)) = false := decide_eq_false c9
     clear c9
     obtain rfl := Option.some.inj H
     have p4 : 0 ≤ (x3_1 : Int) := Zo
     have q4 : x3_1 < (a0.size : Int) := Zo
     have hx4 := bt_at a0 x3_1
     replace p4 := eq_true p4
     replace q4 := eq_true q4
     go_wp2
     go_ret
     exact ⟨by first | rfl | (simp; done) | (simp [*]; done), by repeat (first | exact Drawn0.refl _ | apply Drawn0.step)⟩
    rw [if_neg c3] at H
    exact absurd H (by simp)
   rw [if_neg c2] at H
   have c2b0 : decide (x3_1 < (a0.size : Int)) = false := decide_eq_false c2
   clear c2
   replace H := Option.bind_eq_some_iff.mp H
   obtain ⟨t110, A110, H⟩ := H
   replace H : (some t110) = some r := H
   have A11 := Zh A110
   clear A110
   obtain rfl := Option.some.inj H
   go_wp2_with (first | ((with_reducible refine gate_callee (f := 62) rfl ?_); refine goesL_ (some 32) rfl rfl Tryd.func62 (by kernel_rfl) rfl #[.int .i64 (a0.size : Int), .int .i64 1, .int .i64 12] rfl (by (try simp only [List.map_toArray, List.map_cons, List.map_nil]); first | done | rfl | (simp only [List.length_drop, List.length_take]; rfl)) ?_; (with_reducible refine (spec_l01In.calls (a0.size : Int) 1 12 t110 _ A11.out).mono ?_); rintro e w' ⟨rfl, ⟨nd, rfl⟩⟩; refine ⟨_, rfl, ?_⟩))
   go_ret
   exact ⟨by first | rfl | (simp; done) | (simp [*]; done), by repeat (first | exact Drawn0.refl _ | apply Drawn0.step)⟩
end Go.Proofs.YtcgojdhbphocgaaDoor.F
