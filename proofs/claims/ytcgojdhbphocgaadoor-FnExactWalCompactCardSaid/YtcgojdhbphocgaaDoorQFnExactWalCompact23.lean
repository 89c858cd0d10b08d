/- Merged texts below the law FnExactWalCompact: Go functions as Lean functions, their contracts, and plain lemmas. -/
import Derived.Test.YtcgojdhbphocgaaDoorQFnExactWalCompact13
import Derived.Laws.Cover1
import Derived.Test.YtcgojdhbphocgaaDoorProg
import Derived.Below
import Derived.Deep.Draws
import Derived.Deep.AppendLies
import Derived.Maps.AppendAt
import Derived.OwnWalk
import Derived.Laws.BytesArg
import Derived.Laws.MakeOwn
import Derived.Laws.OwnMore
import Derived.Deep.OwnRows
import Derived.Tactics
import Derived.Lib.ConvBytes
import Derived.Laws.Slices
import Derived.WalkKit
import Derived.KernelRfl
import Derived.RowKit3
import Derived.Deep.LoopGhost
import Derived.Deep.QuietTactic
import Derived.BigQuiet
import Derived.WideLaws
import Derived.Deep.DeepCutAuto
import Derived.Deep.CutBlock
import Derived.Deep.RegionHeld3
import Derived.Laws.Rows
import Derived.Lib.AppendStr
import Derived.ArgAppend
import Derived.Laws.IdiomCopy
import Derived.OrdersHeld
import Derived.Laws.BitsLemmas
import Derived.RowKit
import Derived.Test.YtcgojdhbphocgaaDoorVFnExactWalCompactWords
import Derived.Test.YtcgojdhbphocgaaDoorVFnExactWalCompactLast
import Derived.Test.YtcgojdhbphocgaaDoorVFnExactWalCompactTab
import Derived.Test.YtcgojdhbphocgaaDoorVFnExactWalCompactFour
import Derived.Test.YtcgojdhbphocgaaDoorVFnExactWalCompactQPut
import Derived.Test.YtcgojdhbphocgaaDoorVFnExactWalCompactApart
import Derived.Test.YtcgojdhbphocgaaDoorVFnExactWalCompactArr
import Derived.Test.YtcgojdhbphocgaaDoorVFnExactWalCompactZeros
import Derived.Test.YtcgojdhbphocgaaDoorVFnExactWalCompactFoot
import Derived.Test.YtcgojdhbphocgaaDoorVFnExactWalCompactKept
import Derived.Test.YtcgojdhbphocgaaDoorVFnExactWalCompactShare
import Derived.Test.YtcgojdhbphocgaaDoorVFnExactWalCompactN
import Derived.Test.YtcgojdhbphocgaaDoorVFnExactWalCompactFootNe
import Derived.Test.YtcgojdhbphocgaaDoorVFnExactWalCompactAt
import Derived.Test.YtcgojdhbphocgaaDoorVFnExactWalCompactEqStruct
import Derived.Test.YtcgojdhbphocgaaDoorVFnExactWalCompactRepsOne
import Derived.Test.YtcgojdhbphocgaaDoorVFnExactWalCompactInv
import Derived.Test.YtcgojdhbphocgaaDoorVFnExactWalCompactInvWords
import Derived.Test.YtcgojdhbphocgaaDoorVFnExactWalCompactGuard
import Derived.Test.YtcgojdhbphocgaaDoorVFnExactWalCompactNEv
import Derived.Test.YtcgojdhbphocgaaDoorVFnExactWalCompactMore
import Derived.Lib.SliceRun
import Derived.Deep.RegionLaw
namespace Go.Proofs.YtcgojdhbphocgaaDoor.F
open Go.Proofs.YtcgojdhbphocgaaDoor
open Go.RowKit Go.Proofs.YtcgojdhbphocgaaDoorW.PrintWords Go.Proofs.YtcgojdhbphocgaaDoorW.PrintWords.Kd Go.Proofs.YtcgojdhbphocgaaDoorW.PrintMore.Kd Go.Proofs.YtcgojdhbphocgaaDoorW.PrintLast Go.Proofs.YtcgojdhbphocgaaDoorW.PrintMore
attribute [local go_sem] max2_int min2_int max_two min_two max_three min_three max_four min_four   -- for this text's walks alone
set_option linter.unusedVariables false
set_option linter.unusedSimpArgs false
def errW : Option Int → Value
 | none => .nilIface
 | some c => .iface 0 (.int .i64 c)
theorem errW_none : errW none = .nilIface := rfl
theorem errW_some (c : Int) : errW (some c) = .iface 0 (.int .i64 c) := rfl
theorem info5 : (Tryd.prog.info? 5).map (fun i => (i.zero, i.size, i.bytes)) = some (some (.int .u8 0), 1, 1) := by kernel_rfl
theorem info41 : (Tryd.prog.info? 41).map (fun i => (i.zero, i.size, i.bytes)) = some (some (.slice none 0 0), 1, 24) := by kernel_rfl
theorem info55 : (Tryd.prog.info? 55).map (fun i => (i.zero, i.size, i.bytes)) = some (some (.agg #[(.string ⟨#[]⟩), (.slice none 0 0), (.slice none 0 0)]), 3, 64) := by kernel_rfl
def rd_L2 (xs : List (List Int)) (i : Int) : (List Int) := xs.getD i.toNat ([] : List Int)
theorem at_L2 {w : World} {A : Option Addr} {n : Nat} {xs : List (List Int)} (h : Kd.C (Kd.slice 5 (Kd.int .u8)) w A n xs) (i : Int) (h0 : 0 ≤ i) (h1 : i < n) : ∃ ad A0 c0, A = some ad ∧ w.cell? (ad.add i.toNat) = some (.slice A0 (rd_L2 xs i).length c0) ∧ (rd_L2 xs i).length ≤ c0 ∧ (Kd.int .u8).C w A0 (rd_L2 xs i).length (rd_L2 xs i) := by
 obtain ⟨ad, c, e, _, hK, hc0⟩ := C_get h ([] : List Int) i h0 h1
 have hc : ∀ j u, c[j]? = some u → w.cell? (ad.add (i.toNat * 1 + j)) = some u := hc0
 obtain ⟨A0, c0, rfl, l0, g0⟩ := hK
 exact ⟨ad, A0, c0, e, by have hq := hc 0 _ rfl; rwa [Nat.mul_one, Nat.add_zero] at hq, l0, g0⟩
structure S83 where
 f0 : ByteArray
 f1 : (List Int)
 f2 : (List Int)
def z83 : S83 := ⟨(⟨#[]⟩ : ByteArray), ([] : List Int), ([] : List Int)⟩
def k83 : Kd S83 := Kd.iso (Kd.pair Kd.string (Kd.pair (Kd.slice 5 (Kd.int .u8)) (Kd.slice 5 (Kd.int .u8)))) (fun x : S83 => (x.f0, x.f1, x.f2))
theorem k83_open {w : World} {x : S83} {cs : List Value} (h : k83.K w x cs) : ∃ A1 c1 A2 c2, cs = [.string x.f0, .slice A1 x.f1.length c1, .slice A2 x.f2.length c2] ∧ x.f1.length ≤ c1 ∧ (Kd.int .u8).C w A1 x.f1.length x.f1 ∧ x.f2.length ≤ c2 ∧ (Kd.int .u8).C w A2 x.f2.length x.f2 := by
 obtain ⟨_, _, rfl, rfl, ⟨_, _, rfl, ⟨A1, c1, rfl, l1, g1⟩, ⟨A2, c2, rfl, l2, g2⟩⟩⟩ := h
 exact ⟨A1, c1, A2, c2, rfl, l1, g1, l2, g2⟩
def rd_T83 (xs : List S83) (i : Int) : S83 := xs.getD i.toNat z83
theorem at_T83 {w : World} {A : Option Addr} {n : Nat} {xs : List S83} (h : Kd.C k83 w A n xs) (i : Int) (h0 : 0 ≤ i) (h1 : i < n) : ∃ ad A1 c1 A2 c2, A = some ad ∧ w.cell? (ad.add (i.toNat * 3)) = some (.string (rd_T83 xs i).f0) ∧ w.cell? ⟨(ad.add (i.toNat * 3)).block, (ad.add (i.toNat * 3)).off + 1, none⟩ = some (.slice A1 (rd_T83 xs i).f1.length c1) ∧ w.cell? ⟨(ad.add (i.toNat * 3)).block, (ad.add (i.toNat * 3)).off + 2, none⟩ = some (.slice A2 (rd_T83 xs i).f2.length c2) ∧ (rd_T83 xs i).f1.length ≤ c1 ∧ (Kd.int .u8).C w A1 (rd_T83 xs i).f1.length (rd_T83 xs i).f1 ∧ (rd_T83 xs i).f2.length ≤ c2 ∧ (Kd.int .u8).C w A2 (rd_T83 xs i).f2.length (rd_T83 xs i).f2 := by
 obtain ⟨ad, c, e, _, hK, hc0⟩ := C_get h z83 i h0 h1
 have hc : ∀ j u, c[j]? = some u → w.cell? (ad.add (i.toNat * 3 + j)) = some u := hc0
 obtain ⟨A1, c1, A2, c2, rfl, l1, g1, l2, g2⟩ := k83_open hK
 exact ⟨ad, A1, c1, A2, c2, e, hc 0 _ rfl, by rw [← add_field _ _ 1 (by omega)]; exact hc 1 _ rfl, by rw [← add_field _ _ 2 (by omega)]; exact hc 2 _ rfl, l1, g1, l2, g2⟩
structure S55 where
 f0 : ByteArray
 f1 : (List Int)
 f2 : (List Int)
def z55 : S55 := ⟨(⟨#[]⟩ : ByteArray), ([] : List Int), ([] : List Int)⟩
def k55 : Kd S55 := Kd.iso (Kd.pair Kd.string (AP.apair (Kd.slice 5 (Kd.int .u8)) (Kd.slice 5 (Kd.int .u8)))) (fun x : S55 => (x.f0, x.f1, x.f2))
theorem k55_open {w : World} {x : S55} {cs : List Value} (h : k55.K w x cs) : ∃ A1 c1 A2 c2, cs = [.string x.f0, .slice A1 x.f1.length c1, .slice A2 x.f2.length c2] ∧ x.f1.length ≤ c1 ∧ (Kd.int .u8).C w A1 x.f1.length x.f1 ∧ x.f2.length ≤ c2 ∧ (Kd.int .u8).C w A2 x.f2.length x.f2 := by
 obtain ⟨_, _, rfl, rfl, ⟨_, _, rfl, ⟨A1, c1, rfl, l1, g1⟩, ⟨A2, c2, rfl, l2, g2⟩⟩⟩ := h
 exact ⟨A1, c1, A2, c2, rfl, l1, g1, l2, g2⟩
theorem k55_openM {w : World} {base : Nat} {ok : Nat → Prop} {x : S55} {cs : List Value} (h : k55.M w base ok x cs) : ∃ v1 v2, cs = [.string x.f0, v1, v2] ∧ (Kd.int .u8).R 5 w base ok v1 x.f1 ∧ (Kd.int .u8).R 5 w base ok v2 x.f2 := by
 obtain ⟨_, _, rfl, rfl, ⟨_, _, rfl, p, ⟨v1, rfl, g1⟩, ⟨v2, rfl, g2⟩⟩⟩ := h
 exact ⟨v1, v2, rfl, R_mono g1 (fun _ hk => hk.1), R_mono g2 (fun _ hk => hk.1)⟩
theorem k55_openA {w : World} {base : Nat} {ok : Nat → Prop} {x : S55} {cs : List Value} (h : k55.M w base ok x cs) : ∃ p : Nat → Prop, ∃ v1 v2, cs = [.string x.f0, v1, v2] ∧ (Kd.int .u8).R 5 w base (fun k => ok k ∧ p k) v1 x.f1 ∧ (Kd.int .u8).R 5 w base (fun k => ok k ∧ ¬ p k) v2 x.f2 := by
 obtain ⟨_, _, rfl, rfl, ⟨_, _, rfl, p, ⟨v1, rfl, g1⟩, ⟨v2, rfl, g2⟩⟩⟩ := h
 exact ⟨p, v1, v2, rfl, g1, g2⟩
theorem k55_mk (w : World) (x : S55) {A1 : Option Addr} {c1 : Nat} (l1 : x.f1.length ≤ c1) (g1 : (Kd.int .u8).C w A1 x.f1.length x.f1) {A2 : Option Addr} {c2 : Nat} (l2 : x.f2.length ≤ c2) (g2 : (Kd.int .u8).C w A2 x.f2.length x.f2) : k55.K w x [.string x.f0, .slice A1 x.f1.length c1, .slice A2 x.f2.length c2] := ⟨[.string x.f0], [.slice A1 x.f1.length c1, .slice A2 x.f2.length c2], rfl, rfl, ⟨[.slice A1 x.f1.length c1], [.slice A2 x.f2.length c2], rfl, ⟨A1, c1, rfl, l1, g1⟩, ⟨A2, c2, rfl, l2, g2⟩⟩⟩
theorem k55_mkM (w : World) (base : Nat) (ok : Nat → Prop) (x : S55) {v1 : Value} (g1 : (Kd.int .u8).R 5 w base ok v1 x.f1) {v2 : Value} (g2 : (Kd.int .u8).R 5 w base ok v2 x.f2) (hne : ∀ k, some k = v1.ownBlock → ¬ some k = v2.ownBlock) : k55.M w base ok x [.string x.f0, v1, v2] := ⟨[.string x.f0], [v1, v2], rfl, rfl, ⟨[v1], [v2], rfl, _, ⟨v1, rfl, (AP.split_of rfl rfl g1 g2 hne).1⟩, ⟨v2, rfl, (AP.split_of rfl rfl g1 g2 hne).2⟩⟩⟩
def rd_T55 (xs : List S55) (i : Int) : S55 := xs.getD i.toNat z55
theorem at_T55 {w : World} {A : Option Addr} {n : Nat} {xs : List S55} (h : Kd.C k55 w A n xs) (i : Int) (h0 : 0 ≤ i) (h1 : i < n) : ∃ ad A1 c1 A2 c2, A = some ad ∧ w.cell? (ad.add (i.toNat * 3)) = some (.string (rd_T55 xs i).f0) ∧ w.cell? ⟨(ad.add (i.toNat * 3)).block, (ad.add (i.toNat * 3)).off + 1, none⟩ = some (.slice A1 (rd_T55 xs i).f1.length c1) ∧ w.cell? ⟨(ad.add (i.toNat * 3)).block, (ad.add (i.toNat * 3)).off + 2, none⟩ = some (.slice A2 (rd_T55 xs i).f2.length c2) ∧ (rd_T55 xs i).f1.length ≤ c1 ∧ (Kd.int .u8).C w A1 (rd_T55 xs i).f1.length (rd_T55 xs i).f1 ∧ (rd_T55 xs i).f2.length ≤ c2 ∧ (Kd.int .u8).C w A2 (rd_T55 xs i).f2.length (rd_T55 xs i).f2 := by
 obtain ⟨ad, c, e, _, hK, hc0⟩ := C_get h z55 i h0 h1
 have hc : ∀ j u, c[j]? = some u → w.cell? (ad.add (i.toNat * 3 + j)) = some u := hc0
 obtain ⟨A1, c1, A2, c2, rfl, l1, g1, l2, g2⟩ := k55_open hK
 exact ⟨ad, A1, c1, A2, c2, e, hc 0 _ rfl, by rw [← add_field _ _ 1 (by omega)]; exact hc 1 _ rfl, by rw [← add_field _ _ 2 (by omega)]; exact hc 2 _ rfl, l1, g1, l2, g2⟩
theorem Zs {n : Nat} {w w1 : World} (h : Below n w w1 := by repeat (first | (with_reducible first | exact HB.out | apply below_alloc | apply pw_below_drewN | apply below_drew1) | refine below_set ?_ (Aside0.out (by assumption)) | exact HB.out)) : Below n w w1 := h
theorem Zk {w : World} {g : Nat} {o : Obj} (h : w.heap[g]? = some o := by (with_reducible repeat (first | refine blk_drewN ?_ _ | refine blk_drew ?_ | refine blk_alloc ?_ _)); exact Aside0.out (by assumption)) : w.heap[g]? = some o := h
theorem Zo {p : Prop} [Decidable p] (h : decide p = true := by first | (with_reducible assumption) | assumption) : p := of_decide_eq_true h
theorem Zc {w w1 : World} {a : Addr} {v : Value} (hb : Below w.heap.size w w1) (h : w.cell? a = some v) : w1.cell? a = some v := (hb.cell (World.block_lt_of_cell? w _ h)).trans h
abbrev Za := @blk_drewN
abbrev Zb := @blk_drew
abbrev Zd := @pw_below_drewN
abbrev Ze := @below_drew1
abbrev Zf := @below_alloc
abbrev Zg := @below_set
abbrev Zh := @Aside0.mk
abbrev Zi := @World.block_lt_of_cell?
abbrev Zl := @below_step
abbrev Zm := @blk_below
abbrev Zn := @blk_frozen
abbrev Zq := @bodyPost_ret
end Go.Proofs.YtcgojdhbphocgaaDoor.F

namespace Go.Proofs.YtcgojdhbphocgaaDoor.F
open Go.RowKit Go.Proofs.YtcgojdhbphocgaaDoorW.PrintWords Go.Proofs.YtcgojdhbphocgaaDoorW.PrintWords.Kd Go.Proofs.YtcgojdhbphocgaaDoorW.PrintMore.Kd Go.Proofs.YtcgojdhbphocgaaDoorW.PrintLast Go.Proofs.YtcgojdhbphocgaaDoorW.PrintMore
attribute [local go_sem] max2_int min2_int max_two min_two max_three min_three max_four min_four   -- for this text's walks alone
set_option linter.unusedVariables false
set_option linter.unusedSimpArgs false
def laws_szByteS.f (l0 : List Int) (a1 : Int) : Option (Int) := if (wrap64 (a1 - (l0.length : Int))) < 0 then (some (-1)) else (some (wrap64 (a1 - (l0.length : Int))))
set_option maxHeartbeats 8000000 in
set_option maxRecDepth 100000 in
theorem laws_szByteS.calls (A0 : Option Addr) (c0 : Nat) (l0 : List Int) (a1 : Int) (r : Int) (w : World) (hr0 : Kd.C (Kd.int .u8) w A0 l0.length l0) (hc0 : l0.length ≤ c0) (h : laws_szByteS.f l0 a1 = some r) :
  Calls Tryd.prog 104 #[.slice A0 l0.length c0, .int .i64 a1] w fun e w' => e = .returned (.int .i64 r) ∧ Drawn0 w w' := by
 have HR0 := Zh hr0
 have HC0 := Zh hc0
 clear hr0 hc0
 have H : (if (wrap64 (a1 - (l0.length : Int))) < 0 then (some (-1)) else (some (wrap64 (a1 - (l0.length : Int))))) = some r := h
 clear h
 by_cases c3 : (wrap64 (a1 - (l0.length : Int))) < 0
 ·
  rw [if_pos c3] at H
  have c3b0 : decide ((wrap64 (a1 - (l0.length : Int))) < 0) = true := decide_eq_true c3
  clear c3
  obtain rfl := Option.some.inj H
  go_enter Tryd.func104, Tryd.ntmps104
  go_wp2
  go_ret
  exact ⟨by first | rfl | (simp; done) | (simp [*]; done), by repeat (first | exact Drawn0.refl _ | apply Drawn0.step)⟩
 rw [if_neg c3] at H
 have c3b0 : decide ((wrap64 (a1 - (l0.length : Int))) < 0) = false := decide_eq_false c3
 clear c3
 obtain rfl := Option.some.inj H
 go_enter Tryd.func104, Tryd.ntmps104
 go_wp2
 go_ret
 exact ⟨by first | rfl | (simp; done) | (simp [*]; done), by repeat (first | exact Drawn0.refl _ | apply Drawn0.step)⟩
def laws_szFile.f (a0_0 : ByteArray) (l0_1 : List Int) (l0_2 : List Int) (a1 : Int) : Option (Int) := if (wrap64 (a1 - (a0_0.size : Int))) < 0 then (some (-1)) else ((laws_szByteS.f l0_1 (wrap64 (a1 - (a0_0.size : Int)))).bind fun t102 => (if t102 < 0 then (some (-1)) else ((laws_szByteS.f l0_2 t102).bind fun t103 => (if t103 < 0 then (some (-1)) else (some t103)))))
set_option maxHeartbeats 8000000 in
set_option maxRecDepth 100000 in
theorem laws_szFile.calls (a0_0 : ByteArray) (A0_1 : Option Addr) (c0_1 : Nat) (l0_1 : List Int) (A0_2 : Option Addr) (c0_2 : Nat) (l0_2 : List Int) (a1 : Int) (r : Int) (w : World) (hr0_1 : Kd.C (Kd.int .u8) w A0_1 l0_1.length l0_1) (hc0_1 : l0_1.length ≤ c0_1) (hr0_2 : Kd.C (Kd.int .u8) w A0_2 l0_2.length l0_2) (hc0_2 : l0_2.length ≤ c0_2) (h : laws_szFile.f a0_0 l0_1 l0_2 a1 = some r) :
  Calls Tryd.prog 76 #[.agg #[.string a0_0, .slice A0_1 l0_1.length c0_1, .slice A0_2 l0_2.length c0_2], .int .i64 a1] w fun e w' => e = .returned (.int .i64 r) ∧ Below w.heap.size w w' := by
 have hu83 := Tryd.underlying83
 have HR0_1 := Zh hr0_1
 have HC0_1 := Zh hc0_1
 clear hr0_1 hc0_1
 have HR0_2 := Zh hr0_2
 have HC0_2 := Zh hc0_2
 clear hr0_2 hc0_2
 have HB := Zh (Below.refl w.heap.size w)
 have H : (if (wrap64 (a1 - (a0_0.size : Int))) < 0 then (some (-1)) else ((laws_szByteS.f l0_1 (wrap64 (a1 - (a0_0.size : Int)))).bind fun t102 => (if t102 < 0 then (some (-1)) else ((laws_szByteS.f l0_2 t102).bind fun t103 => (if t103 < 0 then (some (-1)) else (some t103)))))) = some r := h
 clear h
 by_cases c3 : (wrap64 (a1 - (a0_0.size : Int))) < 0
 ·
  rw [if_pos c3] at H
  have c3b0 : decide ((wrap64 (a1 - (a0_0.size : Int))) < 0) = true := decide_eq_true c3
  clear c3
  obtain rfl := Option.some.inj H
  go_enter Tryd.func76, Tryd.ntmps76
  go_wp2_with (first | ((with_reducible refine gate_dst (N := 2) rfl ?_); refine box_event ?hg (N := 2) ?hd (cs := #[.string a0_0, .slice A0_1 l0_1.length c0_1, .slice A0_2 l0_2.length c0_2]) (t := 83) ?hr ?_; (case hd => rfl); (case hg => rfl); (case hr => first | (go_simp; done) | (go_simp; rfl)); intro gb101 hg w4 hbox hb; have n0_ := Zh (Zl Zs hb); have n1_ := Zh (hbox); have n2_ := Zh ((by rw [hg]; exact (below_size Zs) : w.heap.size ≤ gb101)); have n3_ := Zh ((by rw [hg]; exact (below_size Zs) : w.heap.size ≤ gb101)); clear HB; have HB := n0_; have BK101 := n1_; have GW101 := n2_; have GE101 := n3_; clear n0_ n1_ n2_ n3_; clear hb hbox hg; have hcz5_0 : w4.cell? ⟨gb101, 0, none⟩ = some (.string a0_0) := (blk_cell BK101.out 0).trans rfl; have hcz5_1 : w4.cell? ⟨gb101, 1, none⟩ = some (.slice A0_1 l0_1.length c0_1) := (blk_cell BK101.out 1).trans rfl; have hcz5_2 : w4.cell? ⟨gb101, 2, none⟩ = some (.slice A0_2 l0_2.length c0_2) := (blk_cell BK101.out 2).trans rfl; have hfz5_0 := Zn BK101.out 0; have hfz5_1 := Zn BK101.out 1; have hfz5_2 := Zn BK101.out 2))
  go_ret
  exact ⟨by first | rfl | (simp [errW_none, errW_some] <;> rfl) | (simp [*, errW_none, errW_some] <;> rfl), by repeat (first | (with_reducible first | exact HB.out | apply Zf | apply Zd | apply Ze | refine Zg ?_ GE101.out) | exact HB.out)⟩
 rw [if_neg c3] at H
 have c3b0 : decide ((wrap64 (a1 - (a0_0.size : Int))) < 0) = false := decide_eq_false c3
 clear c3
 replace H := Option.bind_eq_some_iff.mp H
 obtain ⟨t102, A60, H⟩ := H
 replace H : (if t102 < 0 then (some (-1)) else ((laws_szByteS.f l0_2 t102).bind fun t103 => (if t103 < 0 then (some (-1)) else (some t103)))) = some r := H
 have A6 := Zh A60
 clear A60
 by_cases c7 : t102 < 0
 ·
  rw [if_pos c7] at H
  have c7b0 : decide (t102 < 0) = true := decide_eq_true c7
  clear c7
  obtain rfl := Option.some.inj H
  go_enter Tryd.func76, Tryd.ntmps76
  go_wp2_with (first | ((with_reducible refine gate_dst (N := 2) rfl ?_); refine box_event ?hg (N := 2) ?hd (cs := #[.string a0_0, .slice A0_1 l0_1.length c0_1, .slice A0_2 l0_2.length c0_2]) (t := 83) ?hr ?_; (case hd => rfl); (case hg => rfl); (case hr => first | (go_simp; done) | (go_simp; rfl)); intro gb101 hg w8 hbox hb; have n0_ := Zh (Zl Zs hb); have n1_ := Zh (hbox); have n2_ := Zh ((by rw [hg]; exact (below_size Zs) : w.heap.size ≤ gb101)); have n3_ := Zh ((by rw [hg]; exact (below_size Zs) : w.heap.size ≤ gb101)); clear HB; have HB := n0_; have BK101 := n1_; have GW101 := n2_; have GE101 := n3_; clear n0_ n1_ n2_ n3_; clear hb hbox hg; have hcz9_0 : w8.cell? ⟨gb101, 0, none⟩ = some (.string a0_0) := (blk_cell BK101.out 0).trans rfl; have hcz9_1 : w8.cell? ⟨gb101, 1, none⟩ = some (.slice A0_1 l0_1.length c0_1) := (blk_cell BK101.out 1).trans rfl; have hcz9_2 : w8.cell? ⟨gb101, 2, none⟩ = some (.slice A0_2 l0_2.length c0_2) := (blk_cell BK101.out 2).trans rfl; have hfz9_0 := Zn BK101.out 0; have hfz9_1 := Zn BK101.out 1; have hfz9_2 := Zn BK101.out 2) | ((with_reducible refine gate_callee (f := 104) rfl ?_); refine goesL_ (some 15) rfl rfl Tryd.func104 (by kernel_rfl) rfl #[.slice A0_1 l0_1.length c0_1, .int .i64 (wrap64 (a1 - (a0_0.size : Int)))] rfl (by (try simp only [List.map_toArray, List.map_cons, List.map_nil]); first | done | rfl | (simp only [List.length_drop, List.length_take]; rfl)) ?_; (with_reducible refine (laws_szByteS.calls _ _ l0_1 (wrap64 (a1 - (a0_0.size : Int))) t102 _ ?side1 ?side2 A6.out).mono ?_); (case side1 => repeat (first | exact (C_below HR0_1.out HB.out) | (with_reducible refine C_alloc ?_ _) | (with_reducible refine C_drewN ?_ _) | (with_reducible refine C_drew ?_))); (case side2 => exact HC0_1.out); rintro e w' ⟨rfl, ⟨nd, rfl⟩⟩; refine ⟨_, rfl, ?_⟩))
  go_ret
  exact ⟨by first | rfl | (simp [errW_none, errW_some] <;> rfl) | (simp [*, errW_none, errW_some] <;> rfl), by repeat (first | (with_reducible first | exact HB.out | apply Zf | apply Zd | apply Ze | refine Zg ?_ GE101.out) | exact HB.out)⟩
 rw [if_neg c7] at H
 have c7b0 : decide (t102 < 0) = false := decide_eq_false c7
 clear c7
 replace H := Option.bind_eq_some_iff.mp H
 obtain ⟨t103, A100, H⟩ := H
 replace H : (if t103 < 0 then (some (-1)) else (some t103)) = some r := H
 have A10 := Zh A100
 clear A100
 by_cases c11 : t103 < 0
 ·
  rw [if_pos c11] at H
  have c11b0 : decide (t103 < 0) = true := decide_eq_true c11
  clear c11
  obtain rfl := Option.some.inj H
  go_enter Tryd.func76, Tryd.ntmps76
  go_wp2_with (first | ((with_reducible refine gate_dst (N := 2) rfl ?_); refine box_event ?hg (N := 2) ?hd (cs := #[.string a0_0, .slice A0_1 l0_1.length c0_1, .slice A0_2 l0_2.length c0_2]) (t := 83) ?hr ?_; (case hd => rfl); (case hg => rfl); (case hr => first | (go_simp; done) | (go_simp; rfl)); intro gb101 hg w12 hbox hb; have n0_ := Zh (Zl Zs hb); have n1_ := Zh (hbox); have n2_ := Zh ((by rw [hg]; exact (below_size Zs) : w.heap.size ≤ gb101)); have n3_ := Zh ((by rw [hg]; exact (below_size Zs) : w.heap.size ≤ gb101)); clear HB; have HB := n0_; have BK101 := n1_; have GW101 := n2_; have GE101 := n3_; clear n0_ n1_ n2_ n3_; clear hb hbox hg; have hcz13_0 : w12.cell? ⟨gb101, 0, none⟩ = some (.string a0_0) := (blk_cell BK101.out 0).trans rfl; have hcz13_1 : w12.cell? ⟨gb101, 1, none⟩ = some (.slice A0_1 l0_1.length c0_1) := (blk_cell BK101.out 1).trans rfl; have hcz13_2 : w12.cell? ⟨gb101, 2, none⟩ = some (.slice A0_2 l0_2.length c0_2) := (blk_cell BK101.out 2).trans rfl; have hfz13_0 := Zn BK101.out 0; have hfz13_1 := Zn BK101.out 1; have hfz13_2 := Zn BK101.out 2) | ((with_reducible refine gate_callee (f := 104) rfl ?_); refine goesL_ (some 15) rfl rfl Tryd.func104 (by kernel_rfl) rfl #[.slice A0_1 l0_1.length c0_1, .int .i64 (wrap64 (a1 - (a0_0.size : Int)))] rfl (by (try simp only [List.map_toArray, List.map_cons, List.map_nil]); first | done | rfl | (simp only [List.length_drop, List.length_take]; rfl)) ?_; (with_reducible refine (laws_szByteS.calls _ _ l0_1 (wrap64 (a1 - (a0_0.size : Int))) t102 _ ?side1 ?side2 A6.out).mono ?_); (case side1 => repeat (first | exact (C_below HR0_1.out HB.out) | (with_reducible refine C_alloc ?_ _) | (with_reducible refine C_drewN ?_ _) | (with_reducible refine C_drew ?_))); (case side2 => exact HC0_1.out); rintro e w' ⟨rfl, ⟨nd, rfl⟩⟩; refine ⟨_, rfl, ?_⟩) | ((with_reducible refine gate_callee (f := 104) rfl ?_); refine goesL_ (some 21) rfl rfl Tryd.func104 (by kernel_rfl) rfl #[.slice A0_2 l0_2.length c0_2, .int .i64 t102] rfl (by (try simp only [List.map_toArray, List.map_cons, List.map_nil]); first | done | rfl | (simp only [List.length_drop, List.length_take]; rfl)) ?_; (with_reducible refine (laws_szByteS.calls _ _ l0_2 t102 t103 _ ?side1 ?side2 A10.out).mono ?_); (case side1 => repeat (first | exact (C_below HR0_2.out Zs) | (with_reducible refine C_alloc ?_ _) | (with_reducible refine C_drewN ?_ _) | (with_reducible refine C_drew ?_))); (case side2 => exact HC0_2.out); rintro e w' ⟨rfl, ⟨nd, rfl⟩⟩; refine ⟨_, rfl, ?_⟩))
  go_ret
  exact ⟨by first | rfl | (simp [errW_none, errW_some] <;> rfl) | (simp [*, errW_none, errW_some] <;> rfl), by repeat (first | (with_reducible first | exact HB.out | apply Zf | apply Zd | apply Ze | refine Zg ?_ GE101.out) | exact HB.out)⟩
 rw [if_neg c11] at H
 have c11b0 : decide (t103 < 0) = false := decide_eq_false c11
 clear c11
 obtain rfl := Option.some.inj H
 go_enter Tryd.func76, Tryd.ntmps76
 go_wp2_with (first | ((with_reducible refine gate_dst (N := 2) rfl ?_); refine box_event ?hg (N := 2) ?hd (cs := #[.string a0_0, .slice A0_1 l0_1.length c0_1, .slice A0_2 l0_2.length c0_2]) (t := 83) ?hr ?_; (case hd => rfl); (case hg => rfl); (case hr => first | (go_simp; done) | (go_simp; rfl)); intro gb101 hg w14 hbox hb; have n0_ := Zh (Zl Zs hb); have n1_ := Zh (hbox); have n2_ := Zh ((by rw [hg]; exact (below_size Zs) : w.heap.size ≤ gb101)); have n3_ := Zh ((by rw [hg]; exact (below_size Zs) : w.heap.size ≤ gb101)); clear HB; have HB := n0_; have BK101 := n1_; have GW101 := n2_; have GE101 := n3_; clear n0_ n1_ n2_ n3_; clear hb hbox hg; have hcz15_0 : w14.cell? ⟨gb101, 0, none⟩ = some (.string a0_0) := (blk_cell BK101.out 0).trans rfl; have hcz15_1 : w14.cell? ⟨gb101, 1, none⟩ = some (.slice A0_1 l0_1.length c0_1) := (blk_cell BK101.out 1).trans rfl; have hcz15_2 : w14.cell? ⟨gb101, 2, none⟩ = some (.slice A0_2 l0_2.length c0_2) := (blk_cell BK101.out 2).trans rfl; have hfz15_0 := Zn BK101.out 0; have hfz15_1 := Zn BK101.out 1; have hfz15_2 := Zn BK101.out 2) | ((with_reducible refine gate_callee (f := 104) rfl ?_); refine goesL_ (some 15) rfl rfl Tryd.func104 (by kernel_rfl) rfl #[.slice A0_1 l0_1.length c0_1, .int .i64 (wrap64 (a1 - (a0_0.size : Int)))] rfl (by (try simp only [List.map_toArray, List.map_cons, List.map_nil]); first | done | rfl | (simp only [List.length_drop, List.length_take]; rfl)) ?_; (with_reducible refine (laws_szByteS.calls _ _ l0_1 (wrap64 (a1 - (a0_0.size : Int))) t102 _ ?side1 ?side2 A6.out).mono ?_); (case side1 => repeat (first | exact (C_below HR0_1.out HB.out) | (with_reducible refine C_alloc ?_ _) | (with_reducible refine C_drewN ?_ _) | (with_reducible refine C_drew ?_))); (case side2 => exact HC0_1.out); rintro e w' ⟨rfl, ⟨nd, rfl⟩⟩; refine ⟨_, rfl, ?_⟩) | ((with_reducible refine gate_callee (f := 104) rfl ?_); refine goesL_ (some 21) rfl rfl Tryd.func104 (by kernel_rfl) rfl #[.slice A0_2 l0_2.length c0_2, .int .i64 t102] rfl (by (try simp only [List.map_toArray, List.map_cons, List.map_nil]); first | done | rfl | (simp only [List.length_drop, List.length_take]; rfl)) ?_; (with_reducible refine (laws_szByteS.calls _ _ l0_2 t102 t103 _ ?side1 ?side2 A10.out).mono ?_); (case side1 => repeat (first | exact (C_below HR0_2.out Zs) | (with_reducible refine C_alloc ?_ _) | (with_reducible refine C_drewN ?_ _) | (with_reducible refine C_drew ?_))); (case side2 => exact HC0_2.out); rintro e w' ⟨rfl, ⟨nd, rfl⟩⟩; refine ⟨_, rfl, ?_⟩))
 go_ret
 exact ⟨by first | rfl | (simp [errW_none, errW_some] <;> rfl) | (simp [*, errW_none, errW_some] <;> rfl), by repeat (first | (with_reducible first | exact HB.out | apply Zf | apply Zd | apply Ze | refine Zg ?_ GE101.out) | exact HB.out)⟩
def laws_szFileS.l0 : Nat → List (S83) → Int → Int → Option (Int)
 | 0, _, _, _ => none
 | k + 1, x0, x1, x5 => if x5 < (x0.length : Int) then (if 0 ≤ x5 then ((laws_szFile.f ((rd_T83 x0 x5).f0) ((rd_T83 x0 x5).f1) ((rd_T83 x0 x5).f2) x1).bind fun t105 => (if t105 < 0 then (some (-1)) else (laws_szFileS.l0 k x0 t105 (wrap64 (x5 + 1))))) else (none)) else (some x1)
def laws_szFileS.f (k : Nat) (l0 : List (S83)) (a1 : Int) : Option (Int) := if (wrap64 (a1 - (l0.length : Int))) < 0 then (some (-1)) else (laws_szFileS.l0 k l0 (wrap64 (a1 - (l0.length : Int))) 0)
set_option maxHeartbeats 8000000 in
set_option maxRecDepth 100000 in
theorem laws_szFileS.calls (k : Nat) (A0 : Option Addr) (c0 : Nat) (l0 : List (S83)) (a1 : Int) (r : Int) (w : World) (hr0 : Kd.C k83 w A0 l0.length l0) (hc0 : l0.length ≤ c0) (h : laws_szFileS.f k l0 a1 = some r) :
  Calls Tryd.prog 42 #[.slice A0 l0.length c0, .int .i64 a1] w fun e w' => e = .returned (.int .i64 r) ∧ Below w.heap.size w w' := by
 have hu83 := Tryd.underlying83
 have HR0 := Zh hr0
 have HC0 := Zh hc0
 clear hr0 hc0
 have HB := Zh (Below.refl w.heap.size w)
 have H : (if (wrap64 (a1 - (l0.length : Int))) < 0 then (some (-1)) else (laws_szFileS.l0 k l0 (wrap64 (a1 - (l0.length : Int))) 0)) = some r := h
 clear h
 by_cases c3 : (wrap64 (a1 - (l0.length : Int))) < 0
 ·
  rw [if_pos c3] at H
  have c3b0 : decide ((wrap64 (a1 - (l0.length : Int))) < 0) = true := decide_eq_true c3
  clear c3
  obtain rfl := Option.some.inj H
  go_enter Tryd.func42, Tryd.ntmps42
  go_wp2
  go_ret
  exact ⟨by first | rfl | (simp [errW_none, errW_some] <;> rfl) | (simp [*, errW_none, errW_some] <;> rfl), by repeat (first | (with_reducible first | exact HB.out | apply Zf | apply Zd | apply Ze) | exact HB.out)⟩
 rw [if_neg c3] at H
 have c3b0 : decide ((wrap64 (a1 - (l0.length : Int))) < 0) = false := decide_eq_false c3
 clear c3
 have H' := Zh H
 clear H
 go_enter Tryd.func42, Tryd.ntmps42
 go_wp2
 go_loopg [1, 5] k (fun kq v1 v5 w' => ∃ (x1_1 : Int) (x5_1 : Int), v1 = .int .i64 x1_1 ∧ v5 = .int .i64 x5_1 ∧ Aside0 (laws_szFileS.l0 kq l0 x1_1 x5_1 = some r) ∧ Aside0 (kq ≤ k) ∧ Aside0 (Below w.heap.size w w'))
 case atStart => exact ⟨(wrap64 (a1 - (l0.length : Int))), (0), (by first | rfl | (simp; done) | (simp [*]; done)), (by first | rfl | (simp; done) | (simp [*]; done)), H', ⟨Nat.le_refl _⟩, ⟨by repeat (first | (with_reducible first | exact HB.out | apply Zf | apply Zd | apply Ze) | exact HB.out)⟩⟩
 case round =>
  clear H'
  try clear p2
  try clear c3
  try clear c3b0
  obtain ⟨x1_1, x5_1, rfl, rfl, HA, HK1, HB⟩ := hrel
  cases gk with
  | zero => exact absurd HA.out (by simp [laws_szFileS.l0])
  | succ k1 =>
   have H := HA.out
   clear HA
   simp only [laws_szFileS.l0] at H
   by_cases c4 : x5_1 < (l0.length : Int)
   ·
    rw [if_pos c4] at H
    have c4b0 : decide (x5_1 < (l0.length : Int)) = true := decide_eq_true c4
    clear c4
    by_cases c5 : 0 ≤ x5_1
    ·
     rw [if_pos c5] at H
     have c5b0 : decide (0 ≤ x5_1) = true := decide_eq_true c5
     clear c5
     replace H := Option.bind_eq_some_iff.mp H
     obtain ⟨t105, A60, H⟩ := H
     replace H : (if t105 < 0 then (some (-1)) else (laws_szFileS.l0 k1 l0 t105 (wrap64 (x5_1 + 1)))) = some r := H
     have A6 := Zh A60
     clear A60
     by_cases c7 : t105 < 0
     ·
      rw [if_pos c7] at H
      have c7b0 : decide (t105 < 0) = true := decide_eq_true c7
      clear c7
      obtain rfl := Option.some.inj H
      have p104 : 0 ≤ (x5_1 : Int) := Zo
      have q104 : x5_1 < (l0.length : Int) := Zo
      obtain ⟨ad104, A104_1, c104_1, A104_2, c104_2, e104, hx104_0, hx104_1, hx104_2, hl104_1, hi104_1, hl104_2, hi104_2⟩ := at_T83 HR0.out x5_1 p104 q104
      cases e104
      replace hx104_0 := Zc HB.out hx104_0
      replace hx104_1 := Zc HB.out hx104_1
      replace hx104_2 := Zc HB.out hx104_2
      have HR104_1 := Zh hi104_1
      have HC104_1 := Zh hl104_1
      clear hi104_1 hl104_1
      have HR104_2 := Zh hi104_2
      have HC104_2 := Zh hl104_2
      clear hi104_2 hl104_2
      replace p104 := eq_true p104
      replace q104 := eq_true q104
      go_wp2_with (first | ((with_reducible refine gate_callee (f := 76) rfl ?_); refine goesL_ (some 23) rfl rfl Tryd.func76 (by kernel_rfl) rfl #[.agg #[.string ((rd_T83 l0 x5_1).f0), .slice A104_1 ((rd_T83 l0 x5_1).f1).length c104_1, .slice A104_2 ((rd_T83 l0 x5_1).f2).length c104_2], .int .i64 x1_1] rfl (by (try simp only [List.map_toArray, List.map_cons, List.map_nil]); first | done | rfl | (simp only [List.length_drop, List.length_take]; rfl)) ?_; (with_reducible refine (laws_szFile.calls ((rd_T83 l0 x5_1).f0) _ _ ((rd_T83 l0 x5_1).f1) _ _ ((rd_T83 l0 x5_1).f2) x1_1 t105 _ ?side1 ?side2 ?side3 ?side4 A6.out).mono ?_); (case side1 => repeat (first | exact (C_below HR104_1.out HB.out) | (with_reducible refine C_alloc ?_ _) | (with_reducible refine C_drewN ?_ _) | (with_reducible refine C_drew ?_))); (case side2 => exact HC104_1.out); (case side3 => repeat (first | exact (C_below HR104_2.out HB.out) | (with_reducible refine C_alloc ?_ _) | (with_reducible refine C_drewN ?_ _) | (with_reducible refine C_drew ?_))); (case side4 => exact HC104_2.out); rintro e w8 ⟨rfl, hb⟩; refine ⟨_, rfl, ?_⟩; have n0_ := Zh (Zl Zs hb); clear HB; have HB := n0_; clear n0_; (try clear hb); (try clear hb2); (try clear hk); (try clear hi)))
      go_ret
      exact ⟨by first | rfl | (simp [errW_none, errW_some] <;> rfl) | (simp [*, errW_none, errW_some] <;> rfl), by repeat (first | (with_reducible first | exact HB.out | apply Zf | apply Zd | apply Ze) | exact HB.out)⟩
     rw [if_neg c7] at H
     have c7b0 : decide (t105 < 0) = false := decide_eq_false c7
     clear c7
     have H' := Zh H
     clear H
     have p104 : 0 ≤ (x5_1 : Int) := Zo
     have q104 : x5_1 < (l0.length : Int) := Zo
     obtain ⟨ad104, A104_1, c104_1, A104_2, c104_2, e104, hx104_0, hx104_1, hx104_2, hl104_1, hi104_1, hl104_2, hi104_2⟩ := at_T83 HR0.out x5_1 p104 q104
     cases e104
     replace hx104_0 := Zc HB.out hx104_0
     replace hx104_1 := Zc HB.out hx104_1
     replace hx104_2 := Zc HB.out hx104_2
     have HR104_1 := Zh hi104_1
     have HC104_1 := Zh hl104_1
     clear hi104_1 hl104_1
     have HR104_2 := Zh hi104_2
     have HC104_2 := Zh hl104_2
     clear hi104_2 hl104_2
     replace p104 := eq_true p104
     replace q104 := eq_true q104
     go_wp2_with (first | ((with_reducible refine gate_callee (f := 76) rfl ?_); refine goesL_ (some 23) rfl rfl Tryd.func76 (by kernel_rfl) rfl #[.agg #[.string ((rd_T83 l0 x5_1).f0), .slice A104_1 ((rd_T83 l0 x5_1).f1).length c104_1, .slice A104_2 ((rd_T83 l0 x5_1).f2).length c104_2], .int .i64 x1_1] rfl (by (try simp only [List.map_toArray, List.map_cons, List.map_nil]); first | done | rfl | (simp only [List.length_drop, List.length_take]; rfl)) ?_; (with_reducible refine (laws_szFile.calls ((rd_T83 l0 x5_1).f0) _ _ ((rd_T83 l0 x5_1).f1) _ _ ((rd_T83 l0 x5_1).f2) x1_1 t105 _ ?side1 ?side2 ?side3 ?side4 A6.out).mono ?_); (case side1 => repeat (first | exact (C_below HR104_1.out HB.out) | (with_reducible refine C_alloc ?_ _) | (with_reducible refine C_drewN ?_ _) | (with_reducible refine C_drew ?_))); (case side2 => exact HC104_1.out); (case side3 => repeat (first | exact (C_below HR104_2.out HB.out) | (with_reducible refine C_alloc ?_ _) | (with_reducible refine C_drewN ?_ _) | (with_reducible refine C_drew ?_))); (case side4 => exact HC104_2.out); rintro e w9 ⟨rfl, hb⟩; refine ⟨_, rfl, ?_⟩; have n0_ := Zh (Zl Zs hb); clear HB; have HB := n0_; clear n0_; (try clear hb); (try clear hb2); (try clear hk); (try clear hi)))
     go_roundg k1
     case measure => have := HK1.out; omega
     case rel => exact ⟨(t105), (wrap64 (x5_1 + 1)), (by first | rfl | (simp; done) | (simp [*]; done)), (by first | rfl | (simp; done) | (simp [*]; done)), H', ⟨by have := HK1.out; omega⟩, ⟨by repeat (first | (with_reducible first | exact HB.out | apply Zf | apply Zd | apply Ze) | exact HB.out)⟩⟩
    rw [if_neg c5] at H
    exact absurd H (by simp)
   rw [if_neg c4] at H
   have c4b0 : decide (x5_1 < (l0.length : Int)) = false := decide_eq_false c4
   clear c4
   obtain rfl := Option.some.inj H
   go_wp2
   go_ret
   exact ⟨by first | rfl | (simp [errW_none, errW_some] <;> rfl) | (simp [*, errW_none, errW_some] <;> rfl), by repeat (first | (with_reducible first | exact HB.out | apply Zf | apply Zd | apply Ze) | exact HB.out)⟩
def laws_szDisk.f (k : Nat) (l0_0 : List (S83)) (a1 : Int) : Option (Int) := (laws_szFileS.f k l0_0 a1).bind fun t107 => (if t107 < 0 then (some (-1)) else (some t107))
set_option maxHeartbeats 8000000 in
set_option maxRecDepth 100000 in
theorem laws_szDisk.calls (k : Nat) (A0_0 : Option Addr) (c0_0 : Nat) (l0_0 : List (S83)) (a1 : Int) (r : Int) (w : World) (hr0_0 : Kd.C k83 w A0_0 l0_0.length l0_0) (hc0_0 : l0_0.length ≤ c0_0) (h : laws_szDisk.f k l0_0 a1 = some r) :
  Calls Tryd.prog 11 #[.agg #[.slice A0_0 l0_0.length c0_0], .int .i64 a1] w fun e w' => e = .returned (.int .i64 r) ∧ Below w.heap.size w w' := by
 have hu24 := Tryd.underlying24
 have HR0_0 := Zh hr0_0
 have HC0_0 := Zh hc0_0
 clear hr0_0 hc0_0
 have HB := Zh (Below.refl w.heap.size w)
 have H : ((laws_szFileS.f k l0_0 a1).bind fun t107 => (if t107 < 0 then (some (-1)) else (some t107))) = some r := h
 clear h
 replace H := Option.bind_eq_some_iff.mp H
 obtain ⟨t107, A30, H⟩ := H
 replace H : (if t107 < 0 then (some (-1)) else (some t107)) = some r := H
 have A3 := Zh A30
 clear A30
 by_cases c4 : t107 < 0
 ·
  rw [if_pos c4] at H
  have c4b0 : decide (t107 < 0) = true := decide_eq_true c4
  clear c4
  obtain rfl := Option.some.inj H
  go_enter Tryd.func11, Tryd.ntmps11
  go_wp2_with (first | ((with_reducible refine gate_dst (N := 2) rfl ?_); refine box_event ?hg (N := 2) ?hd (cs := #[.slice A0_0 l0_0.length c0_0]) (t := 24) ?hr ?_; (case hd => rfl); (case hg => rfl); (case hr => first | (go_simp; done) | (go_simp; rfl)); intro gb106 hg w5 hbox hb; have n0_ := Zh (Zl Zs hb); have n1_ := Zh (hbox); have n2_ := Zh ((by rw [hg]; exact (below_size Zs) : w.heap.size ≤ gb106)); have n3_ := Zh ((by rw [hg]; exact (below_size Zs) : w.heap.size ≤ gb106)); clear HB; have HB := n0_; have BK106 := n1_; have GW106 := n2_; have GE106 := n3_; clear n0_ n1_ n2_ n3_; clear hb hbox hg; have hcz6_0 : w5.cell? ⟨gb106, 0, none⟩ = some (.slice A0_0 l0_0.length c0_0) := (blk_cell BK106.out 0).trans rfl; have hfz6_0 := Zn BK106.out 0) | ((with_reducible refine gate_callee (f := 42) rfl ?_); refine goesL_ (some 8) rfl rfl Tryd.func42 (by kernel_rfl) rfl #[.slice A0_0 l0_0.length c0_0, .int .i64 a1] rfl (by (try simp only [List.map_toArray, List.map_cons, List.map_nil]); first | done | rfl | (simp only [List.length_drop, List.length_take]; rfl)) ?_; (with_reducible refine (laws_szFileS.calls k _ _ l0_0 a1 t107 _ ?side1 ?side2 A3.out).mono ?_); (case side1 => repeat (first | exact (C_below HR0_0.out HB.out) | (with_reducible refine C_alloc ?_ _) | (with_reducible refine C_drewN ?_ _) | (with_reducible refine C_drew ?_))); (case side2 => exact HC0_0.out); rintro e w7 ⟨rfl, hb⟩; refine ⟨_, rfl, ?_⟩; have n0_ := Zh (Zm (g := gb106) (o := .cells #[.slice A0_0 l0_0.length c0_0] 24 (0, 0)) Zk hb); have n1_ := Zh (Zl Zs hb); clear BK106; clear HB; have BK106 := n0_; have HB := n1_; clear n0_ n1_; (try clear hb); (try clear hb2); (try clear hk); (try clear hi)))
  go_ret
  exact ⟨by first | rfl | (simp [errW_none, errW_some] <;> rfl) | (simp [*, errW_none, errW_some] <;> rfl), by repeat (first | (with_reducible first | exact HB.out | apply Zf | apply Zd | apply Ze | refine Zg ?_ GE106.out) | exact HB.out)⟩
 rw [if_neg c4] at H
 have c4b0 : decide (t107 < 0) = false := decide_eq_false c4
 clear c4
 obtain rfl := Option.some.inj H
 go_enter Tryd.func11, Tryd.ntmps11
 go_wp2_with (first | ((with_reducible refine gate_dst (N := 2) rfl ?_); refine box_event ?hg (N := 2) ?hd (cs := #[.slice A0_0 l0_0.length c0_0]) (t := 24) ?hr ?_; (case hd => rfl); (case hg => rfl); (case hr => first | (go_simp; done) | (go_simp; rfl)); intro gb106 hg w8 hbox hb; have n0_ := Zh (Zl Zs hb); have n1_ := Zh (hbox); have n2_ := Zh ((by rw [hg]; exact (below_size Zs) : w.heap.size ≤ gb106)); have n3_ := Zh ((by rw [hg]; exact (below_size Zs) : w.heap.size ≤ gb106)); clear HB; have HB := n0_; have BK106 := n1_; have GW106 := n2_; have GE106 := n3_; clear n0_ n1_ n2_ n3_; clear hb hbox hg; have hcz9_0 : w8.cell? ⟨gb106, 0, none⟩ = some (.slice A0_0 l0_0.length c0_0) := (blk_cell BK106.out 0).trans rfl; have hfz9_0 := Zn BK106.out 0) | ((with_reducible refine gate_callee (f := 42) rfl ?_); refine goesL_ (some 8) rfl rfl Tryd.func42 (by kernel_rfl) rfl #[.slice A0_0 l0_0.length c0_0, .int .i64 a1] rfl (by (try simp only [List.map_toArray, List.map_cons, List.map_nil]); first | done | rfl | (simp only [List.length_drop, List.length_take]; rfl)) ?_; (with_reducible refine (laws_szFileS.calls k _ _ l0_0 a1 t107 _ ?side1 ?side2 A3.out).mono ?_); (case side1 => repeat (first | exact (C_below HR0_0.out HB.out) | (with_reducible refine C_alloc ?_ _) | (with_reducible refine C_drewN ?_ _) | (with_reducible refine C_drew ?_))); (case side2 => exact HC0_0.out); rintro e w10 ⟨rfl, hb⟩; refine ⟨_, rfl, ?_⟩; have n0_ := Zh (Zm (g := gb106) (o := .cells #[.slice A0_0 l0_0.length c0_0] 24 (0, 0)) Zk hb); have n1_ := Zh (Zl Zs hb); clear BK106; clear HB; have BK106 := n0_; have HB := n1_; clear n0_ n1_; (try clear hb); (try clear hb2); (try clear hk); (try clear hi)))
 go_ret
 exact ⟨by first | rfl | (simp [errW_none, errW_some] <;> rfl) | (simp [*, errW_none, errW_some] <;> rfl), by repeat (first | (with_reducible first | exact HB.out | apply Zf | apply Zd | apply Ze | refine Zg ?_ GE106.out) | exact HB.out)⟩
def laws_toByteS.l0 : Nat → List Int → List Int → Int → Option (List Int)
 | 0, _, _, _ => none
 | k + 1, x0, x3, x4 => if x4 < (x0.length : Int) then (if 0 ≤ x4 then (if x4 < (x3.length : Int) then (laws_toByteS.l0 k x0 (x3.set (x4 : Int).toNat (rd x0 x4)) (wrap64 (x4 + 1))) else (none)) else (none)) else (some x3)
def laws_toByteS.f (k : Nat) (l0 : List Int) : Option (List Int) := if 0 ≤ (l0.length : Int) then (if ((l0.length : Int) : Int).toNat ≤ 281474976710656 then (laws_toByteS.l0 k l0 (List.replicate ((l0.length : Int) : Int).toNat 0) 0) else (none)) else (none)
set_option maxHeartbeats 8000000 in
set_option maxRecDepth 100000 in
theorem laws_toByteS.calls (k : Nat) (A0 : Option Addr) (c0 : Nat) (l0 : List Int) (r : List Int) (w : World) (hr0 : Kd.C (Kd.int .u8) w A0 l0.length l0) (hc0 : l0.length ≤ c0) (h : laws_toByteS.f k l0 = some r) :
  Calls Tryd.prog 28 #[.slice A0 l0.length c0] w fun e w' => ∃ v0_ : Value, e = .returned (v0_) ∧ Kd.R (Kd.int .u8) 5 w' w.heap.size (fun _ => True) v0_ r ∧ Below w.heap.size w w' := by
 have HR0 := Zh hr0
 have HC0 := Zh hc0
 clear hr0 hc0
 have HB := Zh (Below.refl w.heap.size w)
 have H : (if 0 ≤ (l0.length : Int) then (if ((l0.length : Int) : Int).toNat ≤ 281474976710656 then (laws_toByteS.l0 k l0 (List.replicate ((l0.length : Int) : Int).toNat 0) 0) else (none)) else (none)) = some r := h
 clear h
 by_cases c2 : 0 ≤ (l0.length : Int)
 ·
  rw [if_pos c2] at H
  have c2b0 := eq_true c2
  have c2b1 : decide (0 ≤ (l0.length : Int)) = true := decide_eq_true c2
  clear c2
  by_cases c3 : ((l0.length : Int) : Int).toNat ≤ 281474976710656
  ·
   rw [if_pos c3] at H
   have c3b0 := eq_true c3
   have c3b1 : decide (((l0.length : Int) : Int).toNat ≤ 281474976710656) = true := decide_eq_true c3
   clear c3
   obtain ⟨y152, hy152⟩ : ∃ y_ : List Int, y_ = (List.replicate ((l0.length : Int) : Int).toNat 0) := ⟨_, rfl⟩
   replace H : (laws_toByteS.l0 k l0 y152 0) = some r := by first | (rw [hy152]; with_reducible exact H) | (have H2_ := (Option.bind_some _ _).symm.trans H; rw [hy152]; with_reducible exact H2_) | (have H2_ := (Option.bind_some _ _).symm.trans H; with_reducible exact H2_) | with_reducible exact H | (rw [hy152]; exact H) | exact H
   have Ny152 := Zh hy152
   clear hy152
   have H' := Zh H
   clear H
   go_enter Tryd.func28, Tryd.ntmps28
   go_wp2_with (first | ((with_reducible refine gate_dst (N := 7) rfl ?_); refine R_make (Kd.int .u8) _ 5 rfl (N := 7) rfl 41 _ _ rfl (l0.length : Int) rfl rfl Tryd.underlying41 (.int .u8 0) 1 info5 rfl (by decide) (by omega) 0 (ok := fun _ => True) (okp := fun _ => True) rfl (fun _ hk => hk) trivial (Zo) (Nat.le_trans (Nat.mul_le_mul_right _ (Zo : (l0.length : Int).toNat ≤ 281474976710656)) (by omega)) (Below.refl _ _) (Nat.le_refl _) ?_; intro v153 w4 ho5 hb hg_ hnew_; clear hg_ hnew_; (first | rw [← Ny152.out] at ho5 | (simp only [Int.reduceToNat] at ho5; rw [← Ny152.out] at ho5)); have n0_ := Zh (R_lower ho5 (below_size Zs)); have n1_ := Zh (Zl Zs hb); clear HB; have HO154 := n0_; have HB := n1_; clear n0_ n1_; clear hb ho5))
   go_loopg [4] k (fun kq v4 w' => ∃ (x3_1 : List Int) (x4_1 : Int), v4 = .int .i64 x4_1 ∧ Aside0 (laws_toByteS.l0 kq l0 x3_1 x4_1 = some r) ∧ Aside0 (kq ≤ k) ∧ Aside0 (Kd.R (Kd.int .u8) 5 w' w.heap.size (fun _ => True) v153 x3_1) ∧ Aside0 (Below w.heap.size w w'))
   case atStart => exact ⟨(y152), (0), (by first | rfl | (simp; done) | (simp [*]; done)), H', ⟨Nat.le_refl _⟩, ⟨by (with_reducible repeat (first | apply R_alloc | apply R_drewN | apply R_drew)); exact HO154.out⟩, ⟨by repeat (first | (with_reducible first | exact HB.out | apply Zf | apply Zd | apply Ze) | exact HB.out)⟩⟩
   case round =>
    clear H'
    try clear c2
    try clear c2b0
    try clear c2b1
    try clear p2
    try clear c3
    try clear c3b0
    try clear c3b1
    obtain ⟨x3_1, x4_1, rfl, HA, HK1, HO_3, HB⟩ := hrel
    cases gk with
    | zero => exact absurd HA.out (by simp [laws_toByteS.l0])
    | succ k1 =>
     have H := HA.out
     clear HA
     simp only [laws_toByteS.l0] at H
     by_cases c6 : x4_1 < (l0.length : Int)
     ·
      rw [if_pos c6] at H
      have c6b0 : decide (x4_1 < (l0.length : Int)) = true := decide_eq_true c6
      clear c6
      by_cases c7 : 0 ≤ x4_1
      ·
       rw [if_pos c7] at H
       have c7b0 : decide (0 ≤ x4_1) = true := decide_eq_true c7
       clear c7
       by_cases c8 : x4_1 < (x3_1.length : Int)
       ·
        rw [if_pos c8] at H
        have c8b0 : decide (x4_1 < (x3_1.length : Int)) = true := decide_eq_true c8
        clear c8
        obtain ⟨y156, hy156⟩ : ∃ y_ : List Int, y_ = (x3_1.set (x4_1 : Int).toNat (rd l0 x4_1)) := ⟨_, rfl⟩
        replace H : (laws_toByteS.l0 k1 l0 y156 (wrap64 (x4_1 + 1))) = some r := by first | (rw [hy156]; with_reducible exact H) | (have H2_ := (Option.bind_some _ _).symm.trans H; rw [hy156]; with_reducible exact H2_) | (have H2_ := (Option.bind_some _ _).symm.trans H; with_reducible exact H2_) | with_reducible exact H | (rw [hy156]; exact H) | exact H
        have Ny156 := Zh hy156
        clear hy156
        have H' := Zh H
        clear H
        have p155 : 0 ≤ (x4_1 : Int) := Zo
        have q155 : x4_1 < (l0.length : Int) := Zo
        obtain ⟨ad155, e155, hx155_0⟩ := Kd.at_int HR0.out x4_1 p155 q155
        cases e155
        replace hx155_0 := Zc HB.out hx155_0
        replace p155 := eq_true p155
        replace q155 := eq_true q155
        have p9 : 0 ≤ (x4_1 : Int) := Zo
        have q9 : (x4_1 : Int) < ((x3_1.length : Int) : Int) := Zo
        obtain ⟨go9, co9, eo9, gb9, gl9, cl9, HG9⟩ := R_form HO_3.out (by omega)
        (first | cases eo9 | (injection eo9 with ea_ en_ ec_; (first | subst ea_ | (injection ea_ with ea_; subst ea_)); subst ec_; clear en_))
        have GB9 := Zh gb9
        have GG9 := Zh HG9
        clear gb9 gl9 HG9
        obtain ⟨hx9_0, hf9_0⟩ := R_celln 0 HO_3.out (x4_1 : Int) p9 q9
        replace p9 := eq_true p9
        replace q9 := eq_true q9
        have HP10 := R_putg HO_3.out (x4_1 : Int) (rd l0 x4_1)
        go_wp2_with (first | ((with_reducible refine gate_store (t := 5) (p := 20) rfl ?_); refine store_event (t := 5) (p := 20) (v := ?vo_w11) (w1 := (wr.setCell ⟨go9, (x4_1 : Int).toNat, none⟩ (.int .u8 (rd l0 x4_1)))) ?hg ?ho ?hn ?hr ?_; (case ho => rfl); (case hg => rfl); (case hn => rfl); (case hr => first | (go_simp; done) | (go_simp; rfl)); intro w11 hw; have hg : wr.grownBy w11 (some go9) := (by rw [hw]; exact HP10.2); have hp_ : Kd.R (Kd.int .u8) 5 w11 w.heap.size (fun _ => True) (.slice (some ⟨go9, 0, none⟩) x3_1.length co9) y156 := (by rw [hw, Ny156.out]; exact HP10.1); clear HP10; have n0_ := Zh (hp_); have n1_ := Zh ((by rw [hw]; exact Zg (HB.out) GB9.out : Below w.heap.size w w11)); clear HO_3; clear HB; have HO_3 := n0_; have HB := n1_; clear n0_ n1_; clear hg hw hp_))
        go_roundg k1
        case measure => have := HK1.out; omega
        case rel => exact ⟨(y156), (wrap64 (x4_1 + 1)), (by first | rfl | (simp; done) | (simp [*]; done)), H', ⟨by have := HK1.out; omega⟩, ⟨by (with_reducible repeat (first | apply R_alloc | apply R_drewN | apply R_drew)); exact HO_3.out⟩, ⟨by repeat (first | (with_reducible first | exact HB.out | apply Zf | apply Zd | apply Ze) | exact HB.out)⟩⟩
       rw [if_neg c8] at H
       exact absurd H (by simp)
      rw [if_neg c7] at H
      exact absurd H (by simp)
     rw [if_neg c6] at H
     have c6b0 : decide (x4_1 < (l0.length : Int)) = false := decide_eq_false c6
     clear c6
     obtain rfl := Option.some.inj H
     go_wp2
     go_ret
     exact ⟨_, by first | rfl | (simp [errW_none, errW_some] <;> rfl) | (simp [*, errW_none, errW_some] <;> rfl), by (with_reducible repeat (first | apply R_alloc | apply R_drewN | apply R_drew)); exact HO_3.out, by repeat (first | (with_reducible first | exact HB.out | apply Zf | apply Zd | apply Ze) | exact HB.out)⟩
  rw [if_neg c3] at H
  exact absurd H (by simp)
 rw [if_neg c2] at H
 exact absurd H (by simp)
def laws_toFile.f (k : Nat) (a0_0 : ByteArray) (l0_1 : List Int) (l0_2 : List Int) : Option (ByteArray × List Int × List Int) := (laws_toByteS.f k l0_1).bind fun t160 => ((laws_toByteS.f k l0_2).bind fun t163 => (some (a0_0, t160, t163)))
set_option maxHeartbeats 8000000 in
set_option maxRecDepth 100000 in
theorem laws_toFile.calls (k : Nat) (a0_0 : ByteArray) (A0_1 : Option Addr) (c0_1 : Nat) (l0_1 : List Int) (A0_2 : Option Addr) (c0_2 : Nat) (l0_2 : List Int) (r1 : ByteArray) (r2 : List Int) (r3 : List Int) (w : World) (hr0_1 : Kd.C (Kd.int .u8) w A0_1 l0_1.length l0_1) (hc0_1 : l0_1.length ≤ c0_1) (hr0_2 : Kd.C (Kd.int .u8) w A0_2 l0_2.length l0_2) (hc0_2 : l0_2.length ≤ c0_2) (h : laws_toFile.f k a0_0 l0_1 l0_2 = some (r1, r2, r3)) :
  Calls Tryd.prog 78 #[.agg #[.string a0_0, .slice A0_1 l0_1.length c0_1, .slice A0_2 l0_2.length c0_2]] w fun e w' => ∃ v1_ v2_ : Value, e = .returned (.agg #[.string r1, v1_, v2_]) ∧ Kd.R (Kd.int .u8) 5 w' w.heap.size (fun k_ => some k_ ≠ (v2_ : Value).ownBlock) v1_ r2 ∧ Kd.R (Kd.int .u8) 5 w' w.heap.size (fun k_ => some k_ ≠ (v1_ : Value).ownBlock) v2_ r3 ∧ Below w.heap.size w w' := by
 have hu83 := Tryd.underlying83
 have hu55 := Tryd.underlying55
 have HR0_1 := Zh hr0_1
 have HC0_1 := Zh hc0_1
 clear hr0_1 hc0_1
 have HR0_2 := Zh hr0_2
 have HC0_2 := Zh hc0_2
 clear hr0_2 hc0_2
 have HB := Zh (Below.refl w.heap.size w)
 have H : ((laws_toByteS.f k l0_1).bind fun t160 => ((laws_toByteS.f k l0_2).bind fun t163 => (some (a0_0, t160, t163)))) = some (r1, r2, r3) := h
 clear h
 replace H := Option.bind_eq_some_iff.mp H
 obtain ⟨t160, A20, H⟩ := H
 replace H : ((laws_toByteS.f k l0_2).bind fun t163 => (some (a0_0, t160, t163))) = some (r1, r2, r3) := H
 have A2 := Zh A20
 clear A20
 replace H := Option.bind_eq_some_iff.mp H
 obtain ⟨t163, A30, H⟩ := H
 replace H : (some (a0_0, t160, t163)) = some (r1, r2, r3) := H
 have A3 := Zh A30
 clear A30
 simp only [Option.some.injEq, Prod.mk.injEq] at H
 obtain ⟨rfl, rfl, rfl⟩ := H
 go_enter Tryd.func78, Tryd.ntmps78
 go_wp2_with (first | ((with_reducible refine gate_dst (N := 1) rfl ?_); refine box_event ?hg (N := 1) ?hd (cs := #[.string a0_0, .slice A0_1 l0_1.length c0_1, .slice A0_2 l0_2.length c0_2]) (t := 83) ?hr ?_; (case hd => rfl); (case hg => rfl); (case hr => first | (go_simp; done) | (go_simp; rfl)); intro gb157 hg w4 hbox hb; have n0_ := Zh (Zl Zs hb); have n1_ := Zh (hbox); have n2_ := Zh ((by rw [hg]; exact (below_size Zs) : w.heap.size ≤ gb157)); have n3_ := Zh ((by rw [hg]; exact (below_size Zs) : w.heap.size ≤ gb157)); clear HB; have HB := n0_; have BK157 := n1_; have GW157 := n2_; have GE157 := n3_; clear n0_ n1_ n2_ n3_; clear hb hbox hg) | ((with_reducible refine gate_dst (N := 2) rfl ?_); refine box_event ?hg (N := 2) ?hd (cs := #[.string (⟨#[]⟩ : ByteArray), .slice none 0 0, .slice none 0 0]) (t := 55) ?hr ?_; (case hd => rfl); (case hg => rfl); (case hr => first | (go_simp; done) | (go_simp; rfl)); intro gb158 hg w5 hbox hb; have n0_ := Zh (Zm (g := gb157) (o := .cells #[.string a0_0, .slice A0_1 l0_1.length c0_1, .slice A0_2 l0_2.length c0_2] 83 (0, 0)) Zk hb); have n1_ := Zh (Zl Zs hb); have n2_ := Zh (hbox); have n3_ := Zh ((by rw [hg]; exact (below_size Zs) : w.heap.size ≤ gb158)); have n4_ := Zh ((by rw [hg]; exact (below_size Zs) : w.heap.size ≤ gb158)); have n5_ := Zh ((by rw [hg]; exact Nat.ne_of_lt (blk_lt (g := gb157) (o := .cells #[.string a0_0, .slice A0_1 l0_1.length c0_1, .slice A0_2 l0_2.length c0_2] 83 (0, 0)) Zk) : gb157 ≠ gb158)); have n6_ := Zh ((by rw [hg]; exact Nat.ne_of_gt (blk_lt (g := gb157) (o := .cells #[.string a0_0, .slice A0_1 l0_1.length c0_1, .slice A0_2 l0_2.length c0_2] 83 (0, 0)) Zk) : gb158 ≠ gb157)); clear BK157; clear HB; have BK157 := n0_; have HB := n1_; have BK158 := n2_; have GW158 := n3_; have GE158 := n4_; have NB157_158 := n5_; have NB158_157 := n6_; clear n0_ n1_ n2_ n3_ n4_ n5_ n6_; clear hb hbox hg) | ((with_reducible refine gate_dst (N := 3) rfl ?_); refine box_event ?hg (N := 3) ?hd (cs := #[.string (⟨#[]⟩ : ByteArray), .slice none 0 0, .slice none 0 0]) (t := 55) ?hr ?_; (case hd => rfl); (case hg => rfl); (case hr => first | (go_simp; done) | (go_simp; rfl)); intro gb159 hg w6 hbox hb; have n0_ := Zh (Zm (g := gb157) (o := .cells #[.string a0_0, .slice A0_1 l0_1.length c0_1, .slice A0_2 l0_2.length c0_2] 83 (0, 0)) Zk hb); have n1_ := Zh (Zm (g := gb158) (o := .cells #[.string (⟨#[]⟩ : ByteArray), .slice none 0 0, .slice none 0 0] 55 (0, 0)) Zk hb); have n2_ := Zh (Zl Zs hb); have n3_ := Zh (hbox); have n4_ := Zh ((by rw [hg]; exact (below_size Zs) : w.heap.size ≤ gb159)); have n5_ := Zh ((by rw [hg]; exact (below_size Zs) : w.heap.size ≤ gb159)); have n6_ := Zh ((by rw [hg]; exact Nat.ne_of_lt (blk_lt (g := gb157) (o := .cells #[.string a0_0, .slice A0_1 l0_1.length c0_1, .slice A0_2 l0_2.length c0_2] 83 (0, 0)) Zk) : gb157 ≠ gb159)); have n7_ := Zh ((by rw [hg]; exact Nat.ne_of_gt (blk_lt (g := gb157) (o := .cells #[.string a0_0, .slice A0_1 l0_1.length c0_1, .slice A0_2 l0_2.length c0_2] 83 (0, 0)) Zk) : gb159 ≠ gb157)); have n8_ := Zh ((by rw [hg]; exact Nat.ne_of_lt (blk_lt (g := gb158) (o := .cells #[.string (⟨#[]⟩ : ByteArray), .slice none 0 0, .slice none 0 0] 55 (0, 0)) Zk) : gb158 ≠ gb159)); have n9_ := Zh ((by rw [hg]; exact Nat.ne_of_gt (blk_lt (g := gb158) (o := .cells #[.string (⟨#[]⟩ : ByteArray), .slice none 0 0, .slice none 0 0] 55 (0, 0)) Zk) : gb159 ≠ gb158)); clear BK157; clear BK158; clear HB; have BK157 := n0_; have BK158 := n1_; have HB := n2_; have BK159 := n3_; have GW159 := n4_; have GE159 := n5_; have NB157_159 := n6_; have NB159_157 := n7_; have NB158_159 := n8_; have NB159_158 := n9_; clear n0_ n1_ n2_ n3_ n4_ n5_ n6_ n7_ n8_ n9_; clear hb hbox hg; have hnb7 := NB157_158.out; have hnc7 := NB158_157.out; have hnb8 := NB157_159.out; have hnc8 := NB159_157.out; have hcz9_0 : w6.cell? ⟨gb157, 0, none⟩ = some (.string a0_0) := (blk_cell BK157.out 0).trans rfl; have hcz9_1 : w6.cell? ⟨gb157, 1, none⟩ = some (.slice A0_1 l0_1.length c0_1) := (blk_cell BK157.out 1).trans rfl; have hcz9_2 : w6.cell? ⟨gb157, 2, none⟩ = some (.slice A0_2 l0_2.length c0_2) := (blk_cell BK157.out 2).trans rfl; have hfz9_0 := Zn BK157.out 0; have hfz9_1 := Zn BK157.out 1; have hfz9_2 := Zn BK157.out 2; have hnb10 := NB159_158.out; have hnc10 := NB158_159.out; have hcz11_0 : w6.cell? ⟨gb159, 0, none⟩ = some (.string (⟨#[]⟩ : ByteArray)) := (blk_cell BK159.out 0).trans rfl; have hcz11_1 : w6.cell? ⟨gb159, 1, none⟩ = some (.slice none 0 0) := (blk_cell BK159.out 1).trans rfl; have hcz11_2 : w6.cell? ⟨gb159, 2, none⟩ = some (.slice none 0 0) := (blk_cell BK159.out 2).trans rfl; have hfz11_0 := Zn BK159.out 0; have hfz11_1 := Zn BK159.out 1; have hfz11_2 := Zn BK159.out 2) | ((with_reducible refine gate_callee (f := 28) rfl ?_); refine goesL_ (some 9) rfl rfl Tryd.func28 (by kernel_rfl) rfl #[.slice A0_1 l0_1.length c0_1] rfl (by (try simp only [List.map_toArray, List.map_cons, List.map_nil]); first | done | rfl | (simp only [List.length_drop, List.length_take]; rfl)) ?_; (with_reducible refine (laws_toByteS.calls k _ _ l0_1 t160 _ ?side1 ?side2 A2.out).mono ?_); (case side1 => exact C_below HR0_1.out Zs); (case side2 => exact HC0_1.out); rintro e w12 ⟨v161, rfl, ho0, hb⟩; refine ⟨_, rfl, ?_⟩; have n0_ := Zh (R_lower ho0 (below_size Zs)); have n1_ := Zh (Zm (g := gb157) (o := .cells #[.string a0_0, .slice A0_1 l0_1.length c0_1, .slice A0_2 l0_2.length c0_2] 83 (0, 0)) (by (with_reducible repeat (first | refine Za ?_ _ | refine Zb ?_ | refine blk_alloc ?_ _)); refine blk_far ?_ NB157_159.out _; (with_reducible repeat (first | refine Za ?_ _ | refine Zb ?_ | refine blk_alloc ?_ _)); exact BK157.out) hb); have n2_ := Zh (Zm (g := gb158) (o := .cells #[.string (⟨#[]⟩ : ByteArray), .slice none 0 0, .slice none 0 0] 55 (0, 0)) (by (with_reducible repeat (first | refine Za ?_ _ | refine Zb ?_ | refine blk_alloc ?_ _)); refine blk_far ?_ NB158_159.out _; (with_reducible repeat (first | refine Za ?_ _ | refine Zb ?_ | refine blk_alloc ?_ _)); exact BK158.out) hb); have n3_ := Zh (Zm (g := gb159) (o := .cells #[.string a0_0, .slice none 0 0, .slice none 0 0] 55 (0, 0)) (by (with_reducible repeat (first | refine Za ?_ _ | refine Zb ?_ | refine blk_alloc ?_ _)); refine blk_put (cs := #[.string (⟨#[]⟩ : ByteArray), .slice none 0 0, .slice none 0 0]) ?_ 0 _ rfl; (with_reducible repeat (first | refine Za ?_ _ | refine Zb ?_ | refine blk_alloc ?_ _)); exact BK159.out) hb); have n4_ := Zh (Zl Zs hb); clear BK157; clear BK158; clear BK159; clear HB; have HO162 := n0_; have BK157 := n1_; have BK158 := n2_; have BK159 := n3_; have HB := n4_; clear n0_ n1_ n2_ n3_ n4_; (try clear hb); (try clear hb2); (try clear hk); (try clear hi); (try clear ho0); obtain ⟨Ao13, co13, eo13⟩ := R_slice HO162.out; subst eo13; have hcz14_0 : w12.cell? ⟨gb159, 0, none⟩ = some (.string a0_0) := (blk_cell BK159.out 0).trans rfl; have hcz14_1 : w12.cell? ⟨gb159, 1, none⟩ = some (.slice none 0 0) := (blk_cell BK159.out 1).trans rfl; have hcz14_2 : w12.cell? ⟨gb159, 2, none⟩ = some (.slice none 0 0) := (blk_cell BK159.out 2).trans rfl; have hfz14_0 := Zn BK159.out 0; have hfz14_1 := Zn BK159.out 1; have hfz14_2 := Zn BK159.out 2; have hcz15_0 : w12.cell? ⟨gb157, 0, none⟩ = some (.string a0_0) := (blk_cell BK157.out 0).trans rfl; have hcz15_1 : w12.cell? ⟨gb157, 1, none⟩ = some (.slice A0_1 l0_1.length c0_1) := (blk_cell BK157.out 1).trans rfl; have hcz15_2 : w12.cell? ⟨gb157, 2, none⟩ = some (.slice A0_2 l0_2.length c0_2) := (blk_cell BK157.out 2).trans rfl; have hfz15_0 := Zn BK157.out 0; have hfz15_1 := Zn BK157.out 1; have hfz15_2 := Zn BK157.out 2) | ((with_reducible refine gate_callee (f := 28) rfl ?_); refine goesL_ (some 13) rfl rfl Tryd.func28 (by kernel_rfl) rfl #[.slice A0_2 l0_2.length c0_2] rfl (by (try simp only [List.map_toArray, List.map_cons, List.map_nil]); first | done | rfl | (simp only [List.length_drop, List.length_take]; rfl)) ?_; (with_reducible refine (laws_toByteS.calls k _ _ l0_2 t163 _ ?side1 ?side2 A3.out).mono ?_); (case side1 => exact C_below HR0_2.out Zs); (case side2 => exact HC0_2.out); rintro e w16 ⟨v164, rfl, ho0, hb⟩; refine ⟨_, rfl, ?_⟩; have n0_ := Zh (R_elder' (by (with_reducible repeat (first | apply R_alloc | apply R_drewN | apply R_drew)); exact (R_mono (R_far (p := ⟨gb159, 1, none⟩) (R_types HO162.out BK159.out (by decide)) (fun _ hk => hk.2) (.slice Ao13 t160.length co13)) (fun _ h_ => h_.1))) (R_base ho0) hb); have n1_ := Zh (R_lower (R_new' ho0 (R_lt (by (with_reducible repeat (first | apply R_alloc | apply R_drewN | apply R_drew)); exact (R_mono (R_far (p := ⟨gb159, 1, none⟩) (R_types HO162.out BK159.out (by decide)) (fun _ hk => hk.2) (.slice Ao13 t160.length co13)) (fun _ h_ => h_.1))))) (below_size Zs)); have n2_ := Zh (Zm (g := gb157) (o := .cells #[.string a0_0, .slice A0_1 l0_1.length c0_1, .slice A0_2 l0_2.length c0_2] 83 (0, 0)) (by (with_reducible repeat (first | refine Za ?_ _ | refine Zb ?_ | refine blk_alloc ?_ _)); refine blk_far ?_ NB157_159.out _; (with_reducible repeat (first | refine Za ?_ _ | refine Zb ?_ | refine blk_alloc ?_ _)); exact BK157.out) hb); have n3_ := Zh (Zm (g := gb158) (o := .cells #[.string (⟨#[]⟩ : ByteArray), .slice none 0 0, .slice none 0 0] 55 (0, 0)) (by (with_reducible repeat (first | refine Za ?_ _ | refine Zb ?_ | refine blk_alloc ?_ _)); refine blk_far ?_ NB158_159.out _; (with_reducible repeat (first | refine Za ?_ _ | refine Zb ?_ | refine blk_alloc ?_ _)); exact BK158.out) hb); have n4_ := Zh (Zm (g := gb159) (o := .cells #[.string a0_0, .slice Ao13 t160.length co13, .slice none 0 0] 55 (0, 0)) (by (with_reducible repeat (first | refine Za ?_ _ | refine Zb ?_ | refine blk_alloc ?_ _)); refine blk_put (cs := #[.string a0_0, .slice none 0 0, .slice none 0 0]) ?_ 1 _ rfl; (with_reducible repeat (first | refine Za ?_ _ | refine Zb ?_ | refine blk_alloc ?_ _)); exact BK159.out) hb); have n5_ := Zh (Zl Zs hb); clear HO162; clear BK157; clear BK158; clear BK159; clear HB; have HO162 := n0_; have HO165 := n1_; have BK157 := n2_; have BK158 := n3_; have BK159 := n4_; have HB := n5_; clear n0_ n1_ n2_ n3_ n4_ n5_; (try clear hb); (try clear hb2); (try clear hk); (try clear hi); (try clear ho0); obtain ⟨Ao17, co17, eo17⟩ := R_slice HO165.out; subst eo17; have hcz18_0 : w16.cell? ⟨gb159, 0, none⟩ = some (.string a0_0) := (blk_cell BK159.out 0).trans rfl; have hcz18_1 : w16.cell? ⟨gb159, 1, none⟩ = some (.slice Ao13 t160.length co13) := (blk_cell BK159.out 1).trans rfl; have hcz18_2 : w16.cell? ⟨gb159, 2, none⟩ = some (.slice none 0 0) := (blk_cell BK159.out 2).trans rfl; have hfz18_0 := Zn BK159.out 0; have hfz18_1 := Zn BK159.out 1; have hfz18_2 := Zn BK159.out 2; have hcz19_0 : w16.cell? ⟨gb158, 0, none⟩ = some (.string (⟨#[]⟩ : ByteArray)) := (blk_cell BK158.out 0).trans rfl; have hcz19_1 : w16.cell? ⟨gb158, 1, none⟩ = some (.slice none 0 0) := (blk_cell BK158.out 1).trans rfl; have hcz19_2 : w16.cell? ⟨gb158, 2, none⟩ = some (.slice none 0 0) := (blk_cell BK158.out 2).trans rfl; have hfz19_0 := Zn BK158.out 0; have hfz19_1 := Zn BK158.out 1; have hfz19_2 := Zn BK158.out 2))
 refine Zq (results_cell_row rfl _ _ gb158 55 #[.string a0_0, .slice Ao13 t160.length co13, .slice Ao17 t163.length co17] (0, 0) _ rfl (by (with_reducible repeat (first | refine Za ?_ _ | refine Zb ?_ | refine blk_alloc ?_ _)); refine blk_put (cs := #[.string a0_0, .slice Ao13 t160.length co13, .slice none 0 0]) ?_ 2 _ rfl; (with_reducible repeat (first | refine Za ?_ _ | refine Zb ?_ | refine blk_alloc ?_ _)); refine blk_put (cs := #[.string a0_0, .slice none 0 0, .slice none 0 0]) ?_ 1 _ rfl; (with_reducible repeat (first | refine Za ?_ _ | refine Zb ?_ | refine blk_alloc ?_ _)); refine blk_put (cs := #[.string (⟨#[]⟩ : ByteArray), .slice none 0 0, .slice none 0 0]) ?_ 0 _ rfl; (with_reducible repeat (first | refine Za ?_ _ | refine Zb ?_ | refine blk_alloc ?_ _)); refine blk_far ?_ NB158_159.out _; (with_reducible repeat (first | refine Za ?_ _ | refine Zb ?_ | refine blk_alloc ?_ _)); exact BK158.out) Tryd.underlying55 rfl (by kernel_rfl)) rfl ?_
 exact ⟨_, _, by first | rfl | (simp [errW_none, errW_some] <;> rfl) | (simp [*, errW_none, errW_some] <;> rfl), by (with_reducible repeat (first | apply R_alloc | apply R_drewN | apply R_drew)); exact R_mono (R_far (p := ⟨gb158, 2, none⟩) (R_far (p := ⟨gb158, 1, none⟩) (R_far (p := ⟨gb158, 0, none⟩) (R_far (p := ⟨gb159, 2, none⟩) (R_types (R_types HO162.out BK159.out (by decide)) BK158.out (by decide)) (fun _ hk => hk.1.2) (.slice Ao17 t163.length co17)) (fun _ hk => hk.2) (.string a0_0)) (fun _ hk => hk.2) (.slice Ao13 t160.length co13)) (fun _ hk => hk.2) (.slice Ao17 t163.length co17)) (fun _ hk => hk.1.1.2), by (with_reducible repeat (first | apply R_alloc | apply R_drewN | apply R_drew)); exact R_mono (R_far (p := ⟨gb158, 2, none⟩) (R_far (p := ⟨gb158, 1, none⟩) (R_far (p := ⟨gb158, 0, none⟩) (R_far (p := ⟨gb159, 2, none⟩) (R_types (R_types HO165.out BK159.out (by decide)) BK158.out (by decide)) (fun _ hk => hk.1.2) (.slice Ao17 t163.length co17)) (fun _ hk => hk.2) (.string a0_0)) (fun _ hk => hk.2) (.slice Ao13 t160.length co13)) (fun _ hk => hk.2) (.slice Ao17 t163.length co17)) (fun _ hk => hk.1.1.2), by repeat (first | (with_reducible first | exact HB.out | apply Zf | apply Zd | apply Ze | refine Zg ?_ GE157.out | refine Zg ?_ GE158.out | refine Zg ?_ GE159.out) | exact HB.out)⟩
def laws_toFileS.l0 : Nat → List (S83) → List (S55) → Int → Option ((List (S55)))
 | 0, _, _, _ => none
 | k + 1, x0, x3, x4 => if x4 < (x0.length : Int) then (if 0 ≤ x4 then ((laws_toFile.f k ((rd_T83 x0 x4).f0) ((rd_T83 x0 x4).f1) ((rd_T83 x0 x4).f2)).bind fun bt170 => (if x4 < (x3.length : Int) then (laws_toFileS.l0 k x0 (x3.set (x4 : Int).toNat (⟨bt170.1, bt170.2.1, bt170.2.2⟩ : S55)) (wrap64 (x4 + 1))) else (none))) else (none)) else (some x3)
def laws_toFileS.f (k : Nat) (l0 : List (S83)) : Option ((List (S55))) := if 0 ≤ (l0.length : Int) then (if ((l0.length : Int) : Int).toNat ≤ 4398046511104 then (laws_toFileS.l0 k l0 (List.replicate ((l0.length : Int) : Int).toNat z55) 0) else (none)) else (none)
set_option maxHeartbeats 8000000 in
set_option maxRecDepth 100000 in
theorem laws_toFileS.calls (k : Nat) (A0 : Option Addr) (c0 : Nat) (l0 : List (S83)) (r : List (S55)) (w : World) (hr0 : Kd.C k83 w A0 l0.length l0) (hc0 : l0.length ≤ c0) (h : laws_toFileS.f k l0 = some r) :
  Calls Tryd.prog 44 #[.slice A0 l0.length c0] w fun e w' => ∃ v0_ : Value, e = .returned (v0_) ∧ Kd.S k55 55 w' w.heap.size (fun _ => True) v0_ r ∧ Below w.heap.size w w' := by
 have hu83 := Tryd.underlying83
 have hu55 := Tryd.underlying55
 have HR0 := Zh hr0
 have HC0 := Zh hc0
 clear hr0 hc0
 have HB := Zh (Below.refl w.heap.size w)
 have H : (if 0 ≤ (l0.length : Int) then (if ((l0.length : Int) : Int).toNat ≤ 4398046511104 then (laws_toFileS.l0 k l0 (List.replicate ((l0.length : Int) : Int).toNat z55) 0) else (none)) else (none)) = some r := h
 clear h
 by_cases c2 : 0 ≤ (l0.length : Int)
 ·
  rw [if_pos c2] at H
  have c2b0 := eq_true c2
  have c2b1 : decide (0 ≤ (l0.length : Int)) = true := decide_eq_true c2
  clear c2
  by_cases c3 : ((l0.length : Int) : Int).toNat ≤ 4398046511104
  ·
   rw [if_pos c3] at H
   have c3b0 := eq_true c3
   have c3b1 : decide (((l0.length : Int) : Int).toNat ≤ 4398046511104) = true := decide_eq_true c3
   clear c3
   obtain ⟨y166, hy166⟩ : ∃ y_ : List (S55), y_ = (List.replicate ((l0.length : Int) : Int).toNat z55) := ⟨_, rfl⟩
   replace H : (laws_toFileS.l0 k l0 y166 0) = some r := by first | (rw [hy166]; with_reducible exact H) | (have H2_ := (Option.bind_some _ _).symm.trans H; rw [hy166]; with_reducible exact H2_) | (have H2_ := (Option.bind_some _ _).symm.trans H; with_reducible exact H2_) | with_reducible exact H | (rw [hy166]; exact H) | exact H
   have Ny166 := Zh hy166
   clear hy166
   have H' := Zh H
   clear H
   go_enter Tryd.func44, Tryd.ntmps44
   go_wp2_with (first | ((with_reducible refine gate_dst (N := 7) rfl ?_); refine S_make k55 _ 55 rfl (N := 7) rfl 26 _ _ rfl (l0.length : Int) rfl rfl Tryd.underlying26 (.agg #[(.string ⟨#[]⟩), (.slice none 0 0), (.slice none 0 0)]) 64 info55 rfl (by decide) (by omega) z55 (ok := fun _ => True) (okp := fun _ => True) (k55_mkM _ _ _ z55 (R_nil _ _ _ _ _) (R_nil _ _ _ _ _) AP.ne_nil) (fun _ hk => hk) trivial (Zo) (Nat.le_trans (Nat.mul_le_mul_right _ (Zo : (l0.length : Int).toNat ≤ 4398046511104)) (by omega)) (Below.refl _ _) (Nat.le_refl _) ?_; intro v167 w4 ho5 hb hg_ hnew_; clear hg_ hnew_; (first | rw [← Ny166.out] at ho5 | (simp only [Int.reduceToNat] at ho5; rw [← Ny166.out] at ho5)); have n0_ := Zh (S_lower ho5 (below_size Zs)); have n1_ := Zh (Zl Zs hb); clear HB; have HO168 := n0_; have HB := n1_; clear n0_ n1_; clear hb ho5))
   go_loopg [4] k (fun kq v4 w' => ∃ (x3_1 : List (S55)) (x4_1 : Int), v4 = .int .i64 x4_1 ∧ Aside0 (laws_toFileS.l0 kq l0 x3_1 x4_1 = some r) ∧ Aside0 (kq ≤ k) ∧ Aside0 (Kd.S k55 55 w' w.heap.size (fun _ => True) v167 x3_1) ∧ Aside0 (Below w.heap.size w w'))
   case atStart => exact ⟨(y166), (0), (by first | rfl | (simp; done) | (simp [*]; done)), H', ⟨Nat.le_refl _⟩, ⟨by (with_reducible repeat (first | apply S_alloc | apply S_drewN | apply S_drew)); exact HO168.out⟩, ⟨by repeat (first | (with_reducible first | exact HB.out | apply Zf | apply Zd | apply Ze) | exact HB.out)⟩⟩
   case round =>
    clear H'
    try clear c2
    try clear c2b0
    try clear c2b1
    try clear p2
    try clear c3
    try clear c3b0
    try clear c3b1
    try clear c4
    obtain ⟨x3_1, x4_1, rfl, HA, HK1, HO_3, HB⟩ := hrel
    cases gk with
    | zero => exact absurd HA.out (by simp [laws_toFileS.l0])
    | succ k1 =>
     have H := HA.out
     clear HA
     simp only [laws_toFileS.l0] at H
     by_cases c6 : x4_1 < (l0.length : Int)
     ·
      rw [if_pos c6] at H
      have c6b0 : decide (x4_1 < (l0.length : Int)) = true := decide_eq_true c6
      clear c6
      by_cases c7 : 0 ≤ x4_1
      ·
       rw [if_pos c7] at H
       have c7b0 : decide (0 ≤ x4_1) = true := decide_eq_true c7
       clear c7
       replace H := Option.bind_eq_some_iff.mp H
       obtain ⟨⟨t170, t171, t174⟩, A80, H⟩ := H
       replace H : (if x4_1 < (x3_1.length : Int) then (laws_toFileS.l0 k1 l0 (x3_1.set (x4_1 : Int).toNat (⟨t170, t171, t174⟩ : S55)) (wrap64 (x4_1 + 1))) else (none)) = some r := H
       have A8 := Zh A80
       clear A80
       by_cases c9 : x4_1 < (x3_1.length : Int)
       ·
        rw [if_pos c9] at H
        have c9b0 : decide (x4_1 < (x3_1.length : Int)) = true := decide_eq_true c9
        clear c9
        obtain ⟨y177, hy177⟩ : ∃ y_ : List (S55), y_ = (x3_1.set (x4_1 : Int).toNat (⟨t170, t171, t174⟩ : S55)) := ⟨_, rfl⟩
        replace H : (laws_toFileS.l0 k1 l0 y177 (wrap64 (x4_1 + 1))) = some r := by first | (rw [hy177]; with_reducible exact H) | (have H2_ := (Option.bind_some _ _).symm.trans H; rw [hy177]; with_reducible exact H2_) | (have H2_ := (Option.bind_some _ _).symm.trans H; with_reducible exact H2_) | with_reducible exact H | (rw [hy177]; exact H) | exact H
        have Ny177 := Zh hy177
        clear hy177
        have H' := Zh H
        clear H
        have p169 : 0 ≤ (x4_1 : Int) := Zo
        have q169 : x4_1 < (l0.length : Int) := Zo
        obtain ⟨ad169, A169_1, c169_1, A169_2, c169_2, e169, hx169_0, hx169_1, hx169_2, hl169_1, hi169_1, hl169_2, hi169_2⟩ := at_T83 HR0.out x4_1 p169 q169
        cases e169
        replace hx169_0 := Zc HB.out hx169_0
        replace hx169_1 := Zc HB.out hx169_1
        replace hx169_2 := Zc HB.out hx169_2
        have HR169_1 := Zh hi169_1
        have HC169_1 := Zh hl169_1
        clear hi169_1 hl169_1
        have HR169_2 := Zh hi169_2
        have HC169_2 := Zh hl169_2
        clear hi169_2 hl169_2
        replace p169 := eq_true p169
        replace q169 := eq_true q169
        go_wp2_with (first | ((with_reducible refine gate_callee (f := 78) rfl ?_); refine goesL_ (some 20) rfl rfl Tryd.func78 (by kernel_rfl) rfl #[.agg #[.string ((rd_T83 l0 x4_1).f0), .slice A169_1 ((rd_T83 l0 x4_1).f1).length c169_1, .slice A169_2 ((rd_T83 l0 x4_1).f2).length c169_2]] rfl (by (try simp only [List.map_toArray, List.map_cons, List.map_nil]); first | done | rfl | (simp only [List.length_drop, List.length_take]; rfl)) ?_; (with_reducible refine (laws_toFile.calls k1 ((rd_T83 l0 x4_1).f0) _ _ ((rd_T83 l0 x4_1).f1) _ _ ((rd_T83 l0 x4_1).f2) t170 t171 t174 _ ?side1 ?side2 ?side3 ?side4 A8.out).mono ?_); (case side1 => repeat (first | exact (C_below HR169_1.out HB.out) | (with_reducible refine C_alloc ?_ _) | (with_reducible refine C_drewN ?_ _) | (with_reducible refine C_drew ?_))); (case side2 => exact HC169_1.out); (case side3 => repeat (first | exact (C_below HR169_2.out HB.out) | (with_reducible refine C_alloc ?_ _) | (with_reducible refine C_drewN ?_ _) | (with_reducible refine C_drew ?_))); (case side4 => exact HC169_2.out); rintro e w11 ⟨v172, v175, rfl, ho0, ho1, hb⟩; refine ⟨_, rfl, ?_⟩; have n0_ := Zh (S_mono (S_told (S_told (S_old (by (with_reducible repeat (first | apply S_alloc | apply S_drewN | apply S_drew)); exact HO_3.out) hb) (R_base ho0)) (R_base ho1)) (fun _ h_ => h_.1)); have n1_ := Zh (R_lower ho0 (below_size Zs)); have n2_ := Zh (R_lower ho1 (below_size Zs)); have n3_ := Zh (Zl Zs hb); clear HO_3; clear HB; have HO_3 := n0_; have HO173 := n1_; have HO176 := n2_; have HB := n3_; clear n0_ n1_ n2_ n3_; (try clear hb); (try clear hb2); (try clear hk); (try clear hi); (try clear ho0); (try clear ho1); have p10 : 0 ≤ (x4_1 : Int) := Zo; have q10 : (x4_1 : Int) < ((x3_1.length : Int) : Int) := Zo; obtain ⟨go10, co10, eo10, gb10, gl10, cl10, HG10⟩ := S_form HO_3.out (by omega); (first | cases eo10 | (injection eo10 with ea_ en_ ec_; (first | subst ea_ | (injection ea_ with ea_; subst ea_)); subst ec_; clear en_)); have GB10 := Zh gb10; have GG10 := Zh HG10; clear gb10 gl10 HG10; obtain ⟨_, ce10, hcl10, hM10, hcc10, hfr10, _, _⟩ := S_elem HO_3.out z55 (x4_1 : Int) p10 q10; obtain ⟨ve10_1, ve10_2, rfl, ge10_1, ge10_2⟩ := k55_openM hM10; have hx10_0 : w11.cell? ⟨go10, (x4_1 : Int).toNat * 3, none⟩ = some (.string ((rd_T55 x3_1 x4_1).f0)) := hcc10 0 _ rfl; have hx10_1 : w11.cell? ⟨go10, (x4_1 : Int).toNat * 3 + 1, none⟩ = some (ve10_1) := hcc10 1 _ rfl; have hx10_2 : w11.cell? ⟨go10, (x4_1 : Int).toNat * 3 + 2, none⟩ = some (ve10_2) := hcc10 2 _ rfl; have hf10_0 : w11.frozen? ⟨go10, (x4_1 : Int).toNat * 3, none⟩ = false := hfr10 0; have hf10_1 : w11.frozen? ⟨go10, (x4_1 : Int).toNat * 3 + 1, none⟩ = false := hfr10 1; have hf10_2 : w11.frozen? ⟨go10, (x4_1 : Int).toNat * 3 + 2, none⟩ = false := hfr10 2; clear hcl10 hcc10 hfr10; (try clear hM10); replace p10 := eq_true p10; replace q10 := eq_true q10; obtain ⟨Ao14, co14, eo14⟩ := R_slice HO173.out; subst eo14; obtain ⟨Ao15, co15, eo15⟩ := R_slice HO176.out; subst eo15; have n_ := Zh (S_mono (ok' := (fun k_ => some k_ ≠ (.slice Ao14 t171.length co14 : Value).ownBlock ∧ some k_ ≠ (.slice Ao15 t174.length co15 : Value).ownBlock)) HO_3.out (fun k_ hk => ⟨hk.1.2, hk.2⟩)); clear HO_3; have HO_3 := n_; clear n_; have HX12 := Zh (show Kd.S k55 55 w11 w.heap.size (fun k_ => ((fun _ => True)) k_ ∧ ¬ ((fun k_ => some k_ = (.slice Ao14 t171.length co14 : Value).ownBlock ∨ some k_ = (.slice Ao15 t174.length co15 : Value).ownBlock)) k_) (.slice (some ⟨go10, 0, none⟩) x3_1.length co10) x3_1 from (by (with_reducible repeat (first | apply S_alloc | apply S_drewN | apply S_drew)); exact S_mono HO_3.out (fun k_ hk => ⟨trivial, fun e_ => e_.elim (fun h_ => hk.1 h_) (fun h_ => hk.2 h_)⟩))); obtain ⟨oki12, ce12, hcl12, hM12, hcc12, hfr12, hoki12, hH12⟩ := S_elem HX12.out z55 (x4_1 : Int) (Zo) (by have h_ : (x4_1 : Int) < ((x3_1.length : Int) : Int) := Zo; first | exact h_ | (have e_ := (S_reads' HO_3.out).1; omega) | simpa using h_); obtain ⟨ve12_1, ve12_2, rfl, ge12_1, ge12_2⟩ := k55_openM hM12; have HP12 := S_seg hH12 (Zo) (by have h_ : (x4_1 : Int) < ((x3_1.length : Int) : Int) := Zo; first | exact h_ | (have e_ := (S_reads' HO_3.out).1; omega) | simpa using h_) (seg := [.string t170, .slice Ao14 t171.length co14, .slice Ao15 t174.length co15]) (j := 0) (show 3 ≤ 3 from by decide) (x' := (⟨t170, t171, t174⟩ : S55)) (k55_mkM _ _ _ (⟨t170, t171, t174⟩ : S55) (R_mono (R_tight rfl (R_mono (ok' := fun k_ => ((fun _ => True)) k_ ∧ k_ ≠ go10) (R_apart' (HO173.out) (S_typed HO_3.out) (by decide)) (fun k_ hk => ⟨trivial, fun e_ => (hk.2) (by rw [e_]; rfl)⟩))) (fun _ h_ => Or.inr (Or.inl h_))) (R_mono (R_tight rfl (R_mono (ok' := fun k_ => ((fun _ => True)) k_ ∧ k_ ≠ go10) (R_apart' (HO176.out) (S_typed HO_3.out) (by decide)) (fun k_ hk => ⟨trivial, fun e_ => (hk.2) (by rw [e_]; rfl)⟩))) (fun _ h_ => Or.inr (Or.inr (h_)))) (AP.ne_of (HO173.out) (HO176.out) (by first | exact .inl (fun k_ hk_ => by first | exact hk_ | exact hk_.1 | exact hk_.2 | exact hk_.1.1 | exact hk_.1.2 | exact hk_.2.1 | exact hk_.2.2) | exact .inr (fun k_ hk_ => by first | exact hk_ | exact hk_.1 | exact hk_.2 | exact hk_.1.1 | exact hk_.1.2 | exact hk_.2.1 | exact hk_.2.2)))) (fun _ hk => hk) (fun k_ hk_ => hk_.elim (fun h_ => ((R_mono (ok' := fun k_ => ((fun _ => True)) k_ ∧ k_ ≠ go10) (R_apart' (HO173.out) (S_typed HO_3.out) (by decide)) (fun k_ hk => ⟨trivial, fun e_ => (hk.2) (by rw [e_]; rfl)⟩))).1 k_ h_.symm) (fun h_ => ((R_mono (ok' := fun k_ => ((fun _ => True)) k_ ∧ k_ ≠ go10) (R_apart' (HO176.out) (S_typed HO_3.out) (by decide)) (fun k_ hk => ⟨trivial, fun e_ => (hk.2) (by rw [e_]; rfl)⟩))).1 k_ h_.symm)); have hx12_0 := hcc12 0 _ rfl; (try simp only [show (k55).sz = 3 from rfl, Nat.mul_one, Nat.add_zero] at hx12_0); have hf12_0 := hfr12 0; (try simp only [show (k55).sz = 3 from rfl, Nat.mul_one, Nat.add_zero] at hf12_0); have hx12_1 := hcc12 1 _ rfl; (try simp only [show (k55).sz = 3 from rfl, Nat.mul_one, Nat.add_zero] at hx12_1); have hf12_1 := hfr12 1; (try simp only [show (k55).sz = 3 from rfl, Nat.mul_one, Nat.add_zero] at hf12_1); have hx12_2 := hcc12 2 _ rfl; (try simp only [show (k55).sz = 3 from rfl, Nat.mul_one, Nat.add_zero] at hx12_2); have hf12_2 := hfr12 2; (try simp only [show (k55).sz = 3 from rfl, Nat.mul_one, Nat.add_zero] at hf12_2); clear hcl12 hcc12 hfr12; (try clear hM12); (try clear hoki12); (try clear hH12)) | ((with_reducible refine gate_store (t := 55) (p := 21) rfl ?_); refine store_event (t := 55) (p := 21) (v := ?vo_w13) (w1 := (((w11.setCell ⟨go10, (x4_1 : Int).toNat * 3, none⟩ (.string t170)).setCell ⟨go10, (x4_1 : Int).toNat * 3 + 1, none⟩ (.slice Ao14 t171.length co14)).setCell ⟨go10, (x4_1 : Int).toNat * 3 + 2, none⟩ (.slice Ao15 t174.length co15))) ?hg ?ho ?hn ?hr ?_; (case ho => rfl); (case hg => rfl); (case hn => rfl); (case hr => first | (go_simp; done) | (go_simp; rfl)); intro w13 hw; have hg : w11.grownBy w13 (some go10) := (by rw [hw]; exact HP12.2); have hp_ : Kd.S k55 55 w13 w.heap.size (fun _ => True) (.slice (some ⟨go10, 0, none⟩) x3_1.length co10) y177 := (by rw [hw, Ny177.out]; exact HP12.1); clear HP12; have n0_ := Zh (hp_); have n1_ := Zh ((by rw [hw]; exact Zg (Zg (Zg (HB.out) GB10.out) GB10.out) GB10.out : Below w.heap.size w w13)); clear HO_3; clear HB; clear HO173; clear HO176; have HO_3 := n0_; have HB := n1_; clear n0_ n1_; clear hg hw hp_))
        go_roundg k1
        case measure => have := HK1.out; omega
        case rel => exact ⟨(y177), (wrap64 (x4_1 + 1)), (by first | rfl | (simp; done) | (simp [*]; done)), H', ⟨by have := HK1.out; omega⟩, ⟨by (with_reducible repeat (first | apply S_alloc | apply S_drewN | apply S_drew)); exact HO_3.out⟩, ⟨by repeat (first | (with_reducible first | exact HB.out | apply Zf | apply Zd | apply Ze) | exact HB.out)⟩⟩
       rw [if_neg c9] at H
       exact absurd H (by simp)
      rw [if_neg c7] at H
      exact absurd H (by simp)
     rw [if_neg c6] at H
     have c6b0 : decide (x4_1 < (l0.length : Int)) = false := decide_eq_false c6
     clear c6
     obtain rfl := Option.some.inj H
     go_wp2
     go_ret
     exact ⟨_, by first | rfl | (simp [errW_none, errW_some] <;> rfl) | (simp [*, errW_none, errW_some] <;> rfl), by (with_reducible repeat (first | apply S_alloc | apply S_drewN | apply S_drew)); exact HO_3.out, by repeat (first | (with_reducible first | exact HB.out | apply Zf | apply Zd | apply Ze) | exact HB.out)⟩
  rw [if_neg c3] at H
  exact absurd H (by simp)
 rw [if_neg c2] at H
 exact absurd H (by simp)
def laws_toDisk.f (k : Nat) (l0_0 : List (S83)) : Option ((List (S55))) := (laws_toFileS.f k l0_0).bind fun t181 => (some t181)
set_option maxHeartbeats 8000000 in
set_option maxRecDepth 100000 in
theorem laws_toDisk.calls (k : Nat) (A0_0 : Option Addr) (c0_0 : Nat) (l0_0 : List (S83)) (r : List (S55)) (w : World) (hr0_0 : Kd.C k83 w A0_0 l0_0.length l0_0) (hc0_0 : l0_0.length ≤ c0_0) (h : laws_toDisk.f k l0_0 = some r) :
  Calls Tryd.prog 13 #[.agg #[.slice A0_0 l0_0.length c0_0]] w fun e w' => ∃ v0_ : Value, e = .returned (.agg #[v0_]) ∧ Kd.S k55 55 w' w.heap.size (fun _ => True) v0_ r ∧ Below w.heap.size w w' := by
 have hu24 := Tryd.underlying24
 have hu28 := Tryd.underlying28
 have HR0_0 := Zh hr0_0
 have HC0_0 := Zh hc0_0
 clear hr0_0 hc0_0
 have HB := Zh (Below.refl w.heap.size w)
 have H : ((laws_toFileS.f k l0_0).bind fun t181 => (some t181)) = some r := h
 clear h
 replace H := Option.bind_eq_some_iff.mp H
 obtain ⟨t181, A20, H⟩ := H
 replace H : (some t181) = some r := H
 have A2 := Zh A20
 clear A20
 obtain rfl := Option.some.inj H
 go_enter Tryd.func13, Tryd.ntmps13
 go_wp2_with (first | ((with_reducible refine gate_dst (N := 1) rfl ?_); refine box_event ?hg (N := 1) ?hd (cs := #[.slice A0_0 l0_0.length c0_0]) (t := 24) ?hr ?_; (case hd => rfl); (case hg => rfl); (case hr => first | (go_simp; done) | (go_simp; rfl)); intro gb178 hg w3 hbox hb; have n0_ := Zh (Zl Zs hb); have n1_ := Zh (hbox); have n2_ := Zh ((by rw [hg]; exact (below_size Zs) : w.heap.size ≤ gb178)); have n3_ := Zh ((by rw [hg]; exact (below_size Zs) : w.heap.size ≤ gb178)); clear HB; have HB := n0_; have BK178 := n1_; have GW178 := n2_; have GE178 := n3_; clear n0_ n1_ n2_ n3_; clear hb hbox hg) | ((with_reducible refine gate_dst (N := 2) rfl ?_); refine box_event ?hg (N := 2) ?hd (cs := #[.slice none 0 0]) (t := 28) ?hr ?_; (case hd => rfl); (case hg => rfl); (case hr => first | (go_simp; done) | (go_simp; rfl)); intro gb179 hg w4 hbox hb; have n0_ := Zh (Zm (g := gb178) (o := .cells #[.slice A0_0 l0_0.length c0_0] 24 (0, 0)) Zk hb); have n1_ := Zh (Zl Zs hb); have n2_ := Zh (hbox); have n3_ := Zh ((by rw [hg]; exact (below_size Zs) : w.heap.size ≤ gb179)); have n4_ := Zh ((by rw [hg]; exact (below_size Zs) : w.heap.size ≤ gb179)); have n5_ := Zh ((by rw [hg]; exact Nat.ne_of_lt (blk_lt (g := gb178) (o := .cells #[.slice A0_0 l0_0.length c0_0] 24 (0, 0)) Zk) : gb178 ≠ gb179)); have n6_ := Zh ((by rw [hg]; exact Nat.ne_of_gt (blk_lt (g := gb178) (o := .cells #[.slice A0_0 l0_0.length c0_0] 24 (0, 0)) Zk) : gb179 ≠ gb178)); clear BK178; clear HB; have BK178 := n0_; have HB := n1_; have BK179 := n2_; have GW179 := n3_; have GE179 := n4_; have NB178_179 := n5_; have NB179_178 := n6_; clear n0_ n1_ n2_ n3_ n4_ n5_ n6_; clear hb hbox hg) | ((with_reducible refine gate_dst (N := 3) rfl ?_); refine box_event ?hg (N := 3) ?hd (cs := #[.slice none 0 0]) (t := 28) ?hr ?_; (case hd => rfl); (case hg => rfl); (case hr => first | (go_simp; done) | (go_simp; rfl)); intro gb180 hg w5 hbox hb; have n0_ := Zh (Zm (g := gb178) (o := .cells #[.slice A0_0 l0_0.length c0_0] 24 (0, 0)) Zk hb); have n1_ := Zh (Zm (g := gb179) (o := .cells #[.slice none 0 0] 28 (0, 0)) Zk hb); have n2_ := Zh (Zl Zs hb); have n3_ := Zh (hbox); have n4_ := Zh ((by rw [hg]; exact (below_size Zs) : w.heap.size ≤ gb180)); have n5_ := Zh ((by rw [hg]; exact (below_size Zs) : w.heap.size ≤ gb180)); have n6_ := Zh ((by rw [hg]; exact Nat.ne_of_lt (blk_lt (g := gb178) (o := .cells #[.slice A0_0 l0_0.length c0_0] 24 (0, 0)) Zk) : gb178 ≠ gb180)); have n7_ := Zh ((by rw [hg]; exact Nat.ne_of_gt (blk_lt (g := gb178) (o := .cells #[.slice A0_0 l0_0.length c0_0] 24 (0, 0)) Zk) : gb180 ≠ gb178)); have n8_ := Zh ((by rw [hg]; exact Nat.ne_of_lt (blk_lt (g := gb179) (o := .cells #[.slice none 0 0] 28 (0, 0)) Zk) : gb179 ≠ gb180)); have n9_ := Zh ((by rw [hg]; exact Nat.ne_of_gt (blk_lt (g := gb179) (o := .cells #[.slice none 0 0] 28 (0, 0)) Zk) : gb180 ≠ gb179)); clear BK178; clear BK179; clear HB; have BK178 := n0_; have BK179 := n1_; have HB := n2_; have BK180 := n3_; have GW180 := n4_; have GE180 := n5_; have NB178_180 := n6_; have NB180_178 := n7_; have NB179_180 := n8_; have NB180_179 := n9_; clear n0_ n1_ n2_ n3_ n4_ n5_ n6_ n7_ n8_ n9_; clear hb hbox hg; have hnb6 := NB178_179.out; have hnc6 := NB179_178.out; have hnb7 := NB178_180.out; have hnc7 := NB180_178.out; have hcz8_0 : w5.cell? ⟨gb178, 0, none⟩ = some (.slice A0_0 l0_0.length c0_0) := (blk_cell BK178.out 0).trans rfl; have hfz8_0 := Zn BK178.out 0) | ((with_reducible refine gate_callee (f := 44) rfl ?_); refine goesL_ (some 6) rfl rfl Tryd.func44 (by kernel_rfl) rfl #[.slice A0_0 l0_0.length c0_0] rfl (by (try simp only [List.map_toArray, List.map_cons, List.map_nil]); first | done | rfl | (simp only [List.length_drop, List.length_take]; rfl)) ?_; (with_reducible refine (laws_toFileS.calls k _ _ l0_0 t181 _ ?side1 ?side2 A2.out).mono ?_); (case side1 => repeat (first | exact (C_below HR0_0.out HB.out) | (with_reducible refine C_alloc ?_ _) | (with_reducible refine C_drewN ?_ _) | (with_reducible refine C_drew ?_))); (case side2 => exact HC0_0.out); rintro e w9 ⟨v182, rfl, ho0, hb⟩; refine ⟨_, rfl, ?_⟩; have n0_ := Zh (S_lower ho0 (below_size Zs)); have n1_ := Zh (Zm (g := gb178) (o := .cells #[.slice A0_0 l0_0.length c0_0] 24 (0, 0)) Zk hb); have n2_ := Zh (Zm (g := gb179) (o := .cells #[.slice none 0 0] 28 (0, 0)) Zk hb); have n3_ := Zh (Zm (g := gb180) (o := .cells #[.slice none 0 0] 28 (0, 0)) Zk hb); have n4_ := Zh (Zl Zs hb); clear BK178; clear BK179; clear BK180; clear HB; have HO183 := n0_; have BK178 := n1_; have BK179 := n2_; have BK180 := n3_; have HB := n4_; clear n0_ n1_ n2_ n3_ n4_; (try clear hb); (try clear hb2); (try clear hk); (try clear hi); (try clear ho0); obtain ⟨Ao10, co10, eo10⟩ := S_slice HO183.out; subst eo10; have hnb11 := NB180_179.out; have hnc11 := NB179_180.out; have hcz12_0 : w9.cell? ⟨gb180, 0, none⟩ = some (.slice none 0 0) := (blk_cell BK180.out 0).trans rfl; have hfz12_0 := Zn BK180.out 0; have hcz13_0 : w9.cell? ⟨gb179, 0, none⟩ = some (.slice none 0 0) := (blk_cell BK179.out 0).trans rfl; have hfz13_0 := Zn BK179.out 0))
 refine Zq (results_cell_row rfl _ _ gb179 28 #[.slice Ao10 t181.length co10] (0, 0) _ rfl (by (with_reducible repeat (first | refine Za ?_ _ | refine Zb ?_ | refine blk_alloc ?_ _)); refine blk_put (cs := #[.slice none 0 0]) ?_ 0 _ rfl; (with_reducible repeat (first | refine Za ?_ _ | refine Zb ?_ | refine blk_alloc ?_ _)); refine blk_far ?_ NB179_180.out _; (with_reducible repeat (first | refine Za ?_ _ | refine Zb ?_ | refine blk_alloc ?_ _)); exact BK179.out) Tryd.underlying28 rfl (by kernel_rfl)) rfl ?_
 exact ⟨_, by first | rfl | (simp [errW_none, errW_some] <;> rfl) | (simp [*, errW_none, errW_some] <;> rfl), by (with_reducible repeat (first | apply S_alloc | apply S_drewN | apply S_drew)); exact S_mono (S_far (p := ⟨gb179, 0, none⟩) (S_far (p := ⟨gb180, 0, none⟩) (S_types (S_types HO183.out BK180.out (by decide)) BK179.out (by decide)) (fun _ hk => hk.1.2) (.slice Ao10 t181.length co10)) (fun _ hk => hk.2) (.slice Ao10 t181.length co10)) (fun _ hk => trivial), by repeat (first | (with_reducible first | exact HB.out | apply Zf | apply Zd | apply Ze | refine Zg ?_ GE178.out | refine Zg ?_ GE179.out | refine Zg ?_ GE180.out) | exact HB.out)⟩
end Go.Proofs.YtcgojdhbphocgaaDoor.F

namespace Go.Proofs.YtcgojdhbphocgaaDoor.SQ
open Go.RowKit Go.Proofs.YtcgojdhbphocgaaDoorW.PrintWords Go.Proofs.YtcgojdhbphocgaaDoorW.PrintLast Go.Proofs.YtcgojdhbphocgaaDoorW.PrintMore
section
variable {P : Program} {md : Region.Mode} {ops : Array Oper} {ds : List Nat} {S : World → Prop} {Q : Exit → Act → World → Prop} {oi : Oper} {v : Value} {fuel : Nat} {l : Array Bool} {a a' : Act} {w : World} {T : Bool × List (List Nat × List Nat)} {B : List Nat}
theorem pu (i N : Nat) (hT : Aside0 (rtab md ops = T)) (h : wpAnyLast P md ops Q S ds fuel (l.setIfInBounds i true) a' w)
    (hk : anyT T l.toList (l.setIfInBounds i true).toList i = true := by kernel_rfl) (hi : ops[i]? = some oi := by rfl) (hN : oi.dst = some N := by rfl) (hQ : ∀ c a w, Q (.panic c) (a.put oi.dst v) w → Q (.panic c) a w := by exact fun _ _ _ h => h)
    (hw : Region.wanted oi (yielded ops a.tmps) = true := by rfl) (hv : ∀ w', (execOp a.eval oi).run P w' = .ok (.value v) w' := by intro w'; go_simp; with_reducible rfl)
    (ha : a.put (some N) v = a' := by simp only [Act.put, List.setIfInBounds_toArray, List.set_cons_zero, List.set_cons_succ, i64_w, i32_w]; rfl) : wpAnyLast P md ops Q S ds (fuel + 1) l a w :=
  pure_ (l.setIfInBounds i true) hi hN (any_of hT.out hk) hQ (.inl ⟨hw, hv⟩) ha h
theorem of (i N : Nat) (hT : Aside0 (rtab md ops = T)) (h : wpAnyLast P md ops Q S ds fuel (l.setIfInBounds i true) a' w)
    (hk : anyT T l.toList (l.setIfInBounds i true).toList i = true := by kernel_rfl) (hi : ops[i]? = some oi := by rfl) (hN : oi.dst = some N := by rfl) (hQ : ∀ c a w, Q (.panic c) (a.put oi.dst undef) w → Q (.panic c) a w := by exact fun _ _ _ h => h)
    (hw : Region.wanted oi (yielded ops a.tmps) = false := by rfl)
    (ha : a.put (some N) undef = a' := by simp only [Act.put, List.setIfInBounds_toArray, List.set_cons_zero, List.set_cons_succ, i64_w, i32_w]; rfl) : wpAnyLast P md ops Q S ds (fuel + 1) l a w :=
  pure_ (l.setIfInBounds i true) hi hN (any_of hT.out hk) hQ (.inr ⟨hw, rfl⟩) ha h
theorem tk (i N : Nat) (hT : Aside0 (rtab md ops = T)) (hB : Aside0 (waitsOk T.2 B = true)) (hS : S w) (h : wpAnyLast P md ops Q S ds fuel (l.setIfInBounds i true) a' w)
    (hk : takeW T B ds l.toList (l.setIfInBounds i true).toList i = true := by kernel_rfl) (hi : ops[i]? = some oi := by rfl) (hN : oi.dst = some N := by rfl) (hQ : ∀ c a w, Q (.panic c) (a.put oi.dst v) w → Q (.panic c) a w := by exact fun _ _ _ h => h)
    (hw : Region.wanted oi (yielded ops a.tmps) = true := by rfl) (hv : ∀ w', S w' → (execOp a.eval oi).run P w' = .ok (.value v) w' := by intro w' hs_; go_simp; with_reducible rfl)
    (ha : a.put (some N) v = a' := by simp only [Act.put, List.setIfInBounds_toArray, List.set_cons_zero, List.set_cons_succ, i64_w, i32_w]; rfl) : wpAnyLast P md ops Q S ds (fuel + 1) l a w :=
  take_ (l.setIfInBounds i true) hi hN (take_ofW hT.out hB.out hk) hQ (.inl ⟨hw, hv⟩) hS ha h
end
end Go.Proofs.YtcgojdhbphocgaaDoor.SQ

namespace Go.Proofs.YtcgojdhbphocgaaDoor.F
open Go.RowKit Go.Proofs.YtcgojdhbphocgaaDoorW.PrintWords Go.Proofs.YtcgojdhbphocgaaDoorW.PrintWords.Kd Go.Proofs.YtcgojdhbphocgaaDoorW.PrintMore.Kd Go.Proofs.YtcgojdhbphocgaaDoorW.PrintLast Go.Proofs.YtcgojdhbphocgaaDoorW.PrintMore
attribute [local go_sem] max2_int min2_int max_two min_two max_three min_three max_four min_four   -- for this text's walks alone
set_option linter.unusedVariables false
set_option linter.unusedSimpArgs false
def laws_eqByteS.l0 : Nat → List Int → List Int → Int → Option (Bool)
 | 0, _, _, _ => none
 | k + 1, x0, x1, x5 => if x5 < (x0.length : Int) then (if 0 ≤ x5 then (if x5 < (x1.length : Int) then (if (rd x0 x5) = (rd x1 x5) then (laws_eqByteS.l0 k x0 x1 (wrap64 (x5 + 1))) else (some false)) else (none)) else (none)) else (some true)
def laws_eqByteS.f (k : Nat) (l0 : List Int) (l1 : List Int) : Option (Bool) := if (l0.length : Int) = (l1.length : Int) then (laws_eqByteS.l0 k l0 l1 0) else (some false)
set_option maxHeartbeats 8000000 in
set_option maxRecDepth 100000 in
theorem laws_eqByteS.calls (k : Nat) (A0 : Option Addr) (c0 : Nat) (l0 : List Int) (A1 : Option Addr) (c1 : Nat) (l1 : List Int) (r : Bool) (w : World) (hr0 : Kd.C (Kd.int .u8) w A0 l0.length l0) (hc0 : l0.length ≤ c0) (hr1 : Kd.C (Kd.int .u8) w A1 l1.length l1) (hc1 : l1.length ≤ c1) (h : laws_eqByteS.f k l0 l1 = some r) :
  Calls Tryd.prog 30 #[.slice A0 l0.length c0, .slice A1 l1.length c1] w fun e w' => e = .returned (.bool r) ∧ Drawn0 w w' := by
 have HR0 := Zh hr0
 have HC0 := Zh hc0
 clear hr0 hc0
 have HR1 := Zh hr1
 have HC1 := Zh hc1
 clear hr1 hc1
 have H : (if (l0.length : Int) = (l1.length : Int) then (laws_eqByteS.l0 k l0 l1 0) else (some false)) = some r := h
 clear h
 by_cases c3 : (l0.length : Int) = (l1.length : Int)
 ·
  rw [if_pos c3] at H
  have c3b0 : ((l0.length : Int) == (l1.length : Int)) = true := beq_iff_eq.mpr c3
  have c3b1 : ((l0.length : Int) != (l1.length : Int)) = false := bne_eq_false_iff_eq.mpr c3
  have c3b2 : (l0.length == l1.length) = true := by first | simpa using c3 | (simp at c3 ⊢; omega)
  clear c3
  have H' := Zh H
  clear H
  go_enter Tryd.func30, Tryd.ntmps30
  go_wp2
  repeat (go_quiet (fail); try go_wp2)
  go_loopg [5] k (fun kq v5 w' => ∃ (x5_1 : Int), v5 = .int .i64 x5_1 ∧ Aside0 (laws_eqByteS.l0 kq l0 l1 x5_1 = some r) ∧ Aside0 (kq ≤ k) ∧ Drawn0 w w')
  case atStart => exact ⟨(0), (by first | rfl | (simp; done) | (simp [*]; done)), H', ⟨Nat.le_refl _⟩, by repeat (first | exact Drawn0.refl _ | apply Drawn0.step)⟩
  case round =>
   clear H'
   try clear c1
   try clear p2
   try clear c3
   try clear c3b0
   try clear c3b1
   try clear c3b2
   obtain ⟨x5_1, rfl, HA, HK1, ⟨m1, rfl⟩⟩ := hrel
   cases gk with
   | zero => exact absurd HA.out (by simp [laws_eqByteS.l0])
   | succ k1 =>
    have H := HA.out
    clear HA
    simp only [laws_eqByteS.l0] at H
    by_cases c4 : x5_1 < (l0.length : Int)
    ·
     rw [if_pos c4] at H
     have c4b0 : decide (x5_1 < (l0.length : Int)) = true := decide_eq_true c4
     clear c4
     by_cases c5 : 0 ≤ x5_1
     ·
      rw [if_pos c5] at H
      have c5b0 : decide (0 ≤ x5_1) = true := decide_eq_true c5
      clear c5
      by_cases c6 : x5_1 < (l1.length : Int)
      ·
       rw [if_pos c6] at H
       have c6b0 : decide (x5_1 < (l1.length : Int)) = true := decide_eq_true c6
       clear c6
       by_cases c7 : (rd l0 x5_1) = (rd l1 x5_1)
       ·
        rw [if_pos c7] at H
        have c7b0 : ((rd l0 x5_1) == (rd l1 x5_1)) = true := beq_iff_eq.mpr c7
        have c7b1 : ((rd l0 x5_1) != (rd l1 x5_1)) = false := bne_eq_false_iff_eq.mpr c7
        clear c7
        have H' := Zh H
        clear H
        have p222 : 0 ≤ (x5_1 : Int) := Zo
        have q222 : x5_1 < (l0.length : Int) := Zo
        obtain ⟨ad222, e222, hx222_0⟩ := Kd.at_int HR0.out x5_1 p222 q222
        cases e222
        replace p222 := eq_true p222
        replace q222 := eq_true q222
        have p223 : 0 ≤ (x5_1 : Int) := Zo
        have q223 : x5_1 < (l1.length : Int) := Zo
        obtain ⟨ad223, e223, hx223_0⟩ := Kd.at_int HR1.out x5_1 p223 q223
        cases e223
        replace p223 := eq_true p223
        replace q223 := eq_true q223
        go_wp2
        repeat (go_quiet (fail); try go_wp2)
        go_roundg k1
        case measure => have := HK1.out; omega
        case rel => exact ⟨(wrap64 (x5_1 + 1)), (by first | rfl | (simp; done) | (simp [*]; done)), H', ⟨by have := HK1.out; omega⟩, by repeat (first | exact Drawn0.refl _ | apply Drawn0.step)⟩
       rw [if_neg c7] at H
       have c7b0 : ((rd l0 x5_1) == (rd l1 x5_1)) = false := beq_eq_false_iff_ne.mpr c7
       have c7b1 : ((rd l0 x5_1) != (rd l1 x5_1)) = true := bne_iff_ne.mpr c7
       obtain rfl := Option.some.inj H
       have p222 : 0 ≤ (x5_1 : Int) := Zo
       have q222 : x5_1 < (l0.length : Int) := Zo
       obtain ⟨ad222, e222, hx222_0⟩ := Kd.at_int HR0.out x5_1 p222 q222
       cases e222
       replace p222 := eq_true p222
       replace q222 := eq_true q222
       have p223 : 0 ≤ (x5_1 : Int) := Zo
       have q223 : x5_1 < (l1.length : Int) := Zo
       obtain ⟨ad223, e223, hx223_0⟩ := Kd.at_int HR1.out x5_1 p223 q223
       cases e223
       replace p223 := eq_true p223
       replace q223 := eq_true q223
       go_wp2
       repeat (go_quiet (fail); try go_wp2)
       go_ret
       exact ⟨by first | rfl | (simp; done) | (simp [*]; done), by repeat (first | exact Drawn0.refl _ | apply Drawn0.step)⟩
      rw [if_neg c6] at H
      exact absurd H (by simp)
     rw [if_neg c5] at H
     exact absurd H (by simp)
    rw [if_neg c4] at H
    have c4b0 : decide (x5_1 < (l0.length : Int)) = false := decide_eq_false c4
    clear c4
    obtain rfl := Option.some.inj H
    go_wp2
    repeat (go_quiet (fail); try go_wp2)
    go_ret
    exact ⟨by first | rfl | (simp; done) | (simp [*]; done), by repeat (first | exact Drawn0.refl _ | apply Drawn0.step)⟩
 rw [if_neg c3] at H
 have c3b0 : ((l0.length : Int) == (l1.length : Int)) = false := beq_eq_false_iff_ne.mpr c3
 have c3b1 : ((l0.length : Int) != (l1.length : Int)) = true := bne_iff_ne.mpr c3
 have c3b2 : (l0.length == l1.length) = false := by first | simpa using c3 | (simp at c3 ⊢; omega)
 obtain rfl := Option.some.inj H
 go_enter Tryd.func30, Tryd.ntmps30
 go_wp2
 repeat (go_quiet (fail); try go_wp2)
 go_ret
 exact ⟨by first | rfl | (simp; done) | (simp [*]; done), by repeat (first | exact Drawn0.refl _ | apply Drawn0.step)⟩
def laws_eqFile.f (k : Nat) (a0_0 : ByteArray) (l0_1 : List Int) (l0_2 : List Int) (a1_0 : ByteArray) (l1_1 : List Int) (l1_2 : List Int) : Option (Bool) := if a0_0.toList = a1_0.toList then ((laws_eqByteS.f k l0_1 l1_1).bind fun t226 => (if t226 = true then ((laws_eqByteS.f k l0_2 l1_2).bind fun t227 => (if t227 = true then (some true) else (some false))) else (some false))) else (some false)
set_option maxHeartbeats 8000000 in
set_option maxRecDepth 100000 in
theorem laws_eqFile.calls (k : Nat) (a0_0 : ByteArray) (A0_1 : Option Addr) (c0_1 : Nat) (l0_1 : List Int) (A0_2 : Option Addr) (c0_2 : Nat) (l0_2 : List Int) (a1_0 : ByteArray) (A1_1 : Option Addr) (c1_1 : Nat) (l1_1 : List Int) (A1_2 : Option Addr) (c1_2 : Nat) (l1_2 : List Int) (r : Bool) (w : World) (hr0_1 : Kd.C (Kd.int .u8) w A0_1 l0_1.length l0_1) (hc0_1 : l0_1.length ≤ c0_1) (hr0_2 : Kd.C (Kd.int .u8) w A0_2 l0_2.length l0_2) (hc0_2 : l0_2.length ≤ c0_2) (hr1_1 : Kd.C (Kd.int .u8) w A1_1 l1_1.length l1_1) (hc1_1 : l1_1.length ≤ c1_1) (hr1_2 : Kd.C (Kd.int .u8) w A1_2 l1_2.length l1_2) (hc1_2 : l1_2.length ≤ c1_2) (h : laws_eqFile.f k a0_0 l0_1 l0_2 a1_0 l1_1 l1_2 = some r) :
  Calls Tryd.prog 79 #[.agg #[.string a0_0, .slice A0_1 l0_1.length c0_1, .slice A0_2 l0_2.length c0_2], .agg #[.string a1_0, .slice A1_1 l1_1.length c1_1, .slice A1_2 l1_2.length c1_2]] w fun e w' => e = .returned (.bool r) ∧ Below w.heap.size w w' := by
 have hu55 := Tryd.underlying55
 have HR0_1 := Zh hr0_1
 have HC0_1 := Zh hc0_1
 clear hr0_1 hc0_1
 have HR0_2 := Zh hr0_2
 have HC0_2 := Zh hc0_2
 clear hr0_2 hc0_2
 have HR1_1 := Zh hr1_1
 have HC1_1 := Zh hc1_1
 clear hr1_1 hc1_1
 have HR1_2 := Zh hr1_2
 have HC1_2 := Zh hc1_2
 clear hr1_2 hc1_2
 have HB := Zh (Below.refl w.heap.size w)
 have H : (if a0_0.toList = a1_0.toList then ((laws_eqByteS.f k l0_1 l1_1).bind fun t226 => (if t226 = true then ((laws_eqByteS.f k l0_2 l1_2).bind fun t227 => (if t227 = true then (some true) else (some false))) else (some false))) else (some false)) = some r := h
 clear h
 by_cases c3 : a0_0.toList = a1_0.toList
 ·
  rw [if_pos c3] at H
  have c3b0 : (a0_0.toList == a1_0.toList) = true := beq_iff_eq.mpr c3
  have c3b1 : (a0_0.toList != a1_0.toList) = false := bne_eq_false_iff_eq.mpr c3
  clear c3
  replace H := Option.bind_eq_some_iff.mp H
  obtain ⟨t226, A40, H⟩ := H
  replace H : (if t226 = true then ((laws_eqByteS.f k l0_2 l1_2).bind fun t227 => (if t227 = true then (some true) else (some false))) else (some false)) = some r := H
  have A4 := Zh A40
  clear A40
  by_cases c5 : t226 = true
  ·
   subst c5
   have H1 : ((laws_eqByteS.f k l0_2 l1_2).bind fun t227 => (if t227 = true then (some true) else (some false))) = some r := by rw [if_pos rfl] at H; exact H
   clear H
   have H := H1
   clear H1
   replace H := Option.bind_eq_some_iff.mp H
   obtain ⟨t227, A60, H⟩ := H
   replace H : (if t227 = true then (some true) else (some false)) = some r := H
   have A6 := Zh A60
   clear A60
   by_cases c7 : t227 = true
   ·
    subst c7
    have H1 : (some true) = some r := by rw [if_pos rfl] at H; exact H
    clear H
    have H := H1
    clear H1
    obtain rfl := Option.some.inj H
    go_enter Tryd.func79, Tryd.ntmps79
    go_wp2_with (first | ((with_reducible refine gate_dst (N := 2) rfl ?_); refine box_event ?hg (N := 2) ?hd (cs := #[.string a0_0, .slice A0_1 l0_1.length c0_1, .slice A0_2 l0_2.length c0_2]) (t := 55) ?hr ?_; (case hd => rfl); (case hg => rfl); (case hr => first | (go_simp; done) | (go_simp; rfl)); intro gb224 hg w8 hbox hb; have n0_ := Zh (Zl Zs hb); have n1_ := Zh (hbox); have n2_ := Zh ((by rw [hg]; exact (below_size Zs) : w.heap.size ≤ gb224)); have n3_ := Zh ((by rw [hg]; exact (below_size Zs) : w.heap.size ≤ gb224)); clear HB; have HB := n0_; have BK224 := n1_; have GW224 := n2_; have GE224 := n3_; clear n0_ n1_ n2_ n3_; clear hb hbox hg) | ((with_reducible refine gate_dst (N := 3) rfl ?_); refine box_event ?hg (N := 3) ?hd (cs := #[.string a1_0, .slice A1_1 l1_1.length c1_1, .slice A1_2 l1_2.length c1_2]) (t := 55) ?hr ?_; (case hd => rfl); (case hg => rfl); (case hr => first | (go_simp; done) | (go_simp; rfl)); intro gb225 hg w9 hbox hb; have n0_ := Zh (Zm (g := gb224) (o := .cells #[.string a0_0, .slice A0_1 l0_1.length c0_1, .slice A0_2 l0_2.length c0_2] 55 (0, 0)) Zk hb); have n1_ := Zh (Zl Zs hb); have n2_ := Zh (hbox); have n3_ := Zh ((by rw [hg]; exact (below_size Zs) : w.heap.size ≤ gb225)); have n4_ := Zh ((by rw [hg]; exact (below_size Zs) : w.heap.size ≤ gb225)); have n5_ := Zh ((by rw [hg]; exact Nat.ne_of_lt (blk_lt (g := gb224) (o := .cells #[.string a0_0, .slice A0_1 l0_1.length c0_1, .slice A0_2 l0_2.length c0_2] 55 (0, 0)) Zk) : gb224 ≠ gb225)); have n6_ := Zh ((by rw [hg]; exact Nat.ne_of_gt (blk_lt (g := gb224) (o := .cells #[.string a0_0, .slice A0_1 l0_1.length c0_1, .slice A0_2 l0_2.length c0_2] 55 (0, 0)) Zk) : gb225 ≠ gb224)); clear BK224; clear HB; have BK224 := n0_; have HB := n1_; have BK225 := n2_; have GW225 := n3_; have GE225 := n4_; have NB224_225 := n5_; have NB225_224 := n6_; clear n0_ n1_ n2_ n3_ n4_ n5_ n6_; clear hb hbox hg; have hnb10 := NB224_225.out; have hnc10 := NB225_224.out; have hcz11_0 : w9.cell? ⟨gb224, 0, none⟩ = some (.string a0_0) := (blk_cell BK224.out 0).trans rfl; have hcz11_1 : w9.cell? ⟨gb224, 1, none⟩ = some (.slice A0_1 l0_1.length c0_1) := (blk_cell BK224.out 1).trans rfl; have hcz11_2 : w9.cell? ⟨gb224, 2, none⟩ = some (.slice A0_2 l0_2.length c0_2) := (blk_cell BK224.out 2).trans rfl; have hfz11_0 := Zn BK224.out 0; have hfz11_1 := Zn BK224.out 1; have hfz11_2 := Zn BK224.out 2; have hcz12_0 : w9.cell? ⟨gb225, 0, none⟩ = some (.string a1_0) := (blk_cell BK225.out 0).trans rfl; have hcz12_1 : w9.cell? ⟨gb225, 1, none⟩ = some (.slice A1_1 l1_1.length c1_1) := (blk_cell BK225.out 1).trans rfl; have hcz12_2 : w9.cell? ⟨gb225, 2, none⟩ = some (.slice A1_2 l1_2.length c1_2) := (blk_cell BK225.out 2).trans rfl; have hfz12_0 := Zn BK225.out 0; have hfz12_1 := Zn BK225.out 1; have hfz12_2 := Zn BK225.out 2) | ((with_reducible refine gate_callee (f := 30) rfl ?_); refine goesL_ (some 14) rfl rfl Tryd.func30 (by kernel_rfl) rfl #[.slice A0_1 l0_1.length c0_1, .slice A1_1 l1_1.length c1_1] rfl (by (try simp only [List.map_toArray, List.map_cons, List.map_nil]); first | done | rfl | (simp only [List.length_drop, List.length_take]; rfl)) ?_; (with_reducible refine (laws_eqByteS.calls k _ _ l0_1 _ _ l1_1 true _ ?side1 ?side2 ?side3 ?side4 A4.out).mono ?_); (case side1 => repeat (first | exact (C_below HR0_1.out HB.out) | (with_reducible refine C_alloc ?_ _) | (with_reducible refine C_drewN ?_ _) | (with_reducible refine C_drew ?_))); (case side2 => exact HC0_1.out); (case side3 => repeat (first | exact (C_below HR1_1.out HB.out) | (with_reducible refine C_alloc ?_ _) | (with_reducible refine C_drewN ?_ _) | (with_reducible refine C_drew ?_))); (case side4 => exact HC1_1.out); rintro e w' ⟨rfl, ⟨nd, rfl⟩⟩; refine ⟨_, rfl, ?_⟩) | ((with_reducible refine gate_callee (f := 30) rfl ?_); refine goesL_ (some 20) rfl rfl Tryd.func30 (by kernel_rfl) rfl #[.slice A0_2 l0_2.length c0_2, .slice A1_2 l1_2.length c1_2] rfl (by (try simp only [List.map_toArray, List.map_cons, List.map_nil]); first | done | rfl | (simp only [List.length_drop, List.length_take]; rfl)) ?_; (with_reducible refine (laws_eqByteS.calls k _ _ l0_2 _ _ l1_2 true _ ?side1 ?side2 ?side3 ?side4 A6.out).mono ?_); (case side1 => repeat (first | exact (C_below HR0_2.out Zs) | (with_reducible refine C_alloc ?_ _) | (with_reducible refine C_drewN ?_ _) | (with_reducible refine C_drew ?_))); (case side2 => exact HC0_2.out); (case side3 => repeat (first | exact (C_below HR1_2.out Zs) | (with_reducible refine C_alloc ?_ _) | (with_reducible refine C_drewN ?_ _) | (with_reducible refine C_drew ?_))); (case side4 => exact HC1_2.out); rintro e w' ⟨rfl, ⟨nd, rfl⟩⟩; refine ⟨_, rfl, ?_⟩))
    go_ret
    exact ⟨by first | rfl | (simp [errW_none, errW_some] <;> rfl) | (simp [*, errW_none, errW_some] <;> rfl), by repeat (first | (with_reducible first | exact HB.out | apply Zf | apply Zd | apply Ze | refine Zg ?_ GE224.out | refine Zg ?_ GE225.out) | exact HB.out)⟩
   replace c7 := Bool.eq_false_iff.mpr c7
   subst c7
   have H1 : (some false) = some r := by rw [if_neg (show ¬ (false = true) by decide)] at H; exact H
   clear H
   have H := H1
   clear H1
   obtain rfl := Option.some.inj H
   go_enter Tryd.func79, Tryd.ntmps79
   go_wp2_with (first | ((with_reducible refine gate_dst (N := 2) rfl ?_); refine box_event ?hg (N := 2) ?hd (cs := #[.string a0_0, .slice A0_1 l0_1.length c0_1, .slice A0_2 l0_2.length c0_2]) (t := 55) ?hr ?_; (case hd => rfl); (case hg => rfl); (case hr => first | (go_simp; done) | (go_simp; rfl)); intro gb224 hg w13 hbox hb; have n0_ := Zh (Zl Zs hb); have n1_ := Zh (hbox); have n2_ := Zh ((by rw [hg]; exact (below_size Zs) : w.heap.size ≤ gb224)); have n3_ := Zh ((by rw [hg]; exact (below_size Zs) : w.heap.size ≤ gb224)); clear HB; have HB := n0_; have BK224 := n1_; have GW224 := n2_; have GE224 := n3_; clear n0_ n1_ n2_ n3_; clear hb hbox hg) | ((with_reducible refine gate_dst (N := 3) rfl ?_); refine box_event ?hg (N := 3) ?hd (cs := #[.string a1_0, .slice A1_1 l1_1.length c1_1, .slice A1_2 l1_2.length c1_2]) (t := 55) ?hr ?_; (case hd => rfl); (case hg => rfl); (case hr => first | (go_simp; done) | (go_simp; rfl)); intro gb225 hg w14 hbox hb; have n0_ := Zh (Zm (g := gb224) (o := .cells #[.string a0_0, .slice A0_1 l0_1.length c0_1, .slice A0_2 l0_2.length c0_2] 55 (0, 0)) Zk hb); have n1_ := Zh (Zl Zs hb); have n2_ := Zh (hbox); have n3_ := Zh ((by rw [hg]; exact (below_size Zs) : w.heap.size ≤ gb225)); have n4_ := Zh ((by rw [hg]; exact (below_size Zs) : w.heap.size ≤ gb225)); have n5_ := Zh ((by rw [hg]; exact Nat.ne_of_lt (blk_lt (g := gb224) (o := .cells #[.string a0_0, .slice A0_1 l0_1.length c0_1, .slice A0_2 l0_2.length c0_2] 55 (0, 0)) Zk) : gb224 ≠ gb225)); have n6_ := Zh ((by rw [hg]; exact Nat.ne_of_gt (blk_lt (g := gb224) (o := .cells #[.string a0_0, .slice A0_1 l0_1.length c0_1, .slice A0_2 l0_2.length c0_2] 55 (0, 0)) Zk) : gb225 ≠ gb224)); clear BK224; clear HB; have BK224 := n0_; have HB := n1_; have BK225 := n2_; have GW225 := n3_; have GE225 := n4_; have NB224_225 := n5_; have NB225_224 := n6_; clear n0_ n1_ n2_ n3_ n4_ n5_ n6_; clear hb hbox hg; have hnb15 := NB224_225.out; have hnc15 := NB225_224.out; have hcz16_0 : w14.cell? ⟨gb224, 0, none⟩ = some (.string a0_0) := (blk_cell BK224.out 0).trans rfl; have hcz16_1 : w14.cell? ⟨gb224, 1, none⟩ = some (.slice A0_1 l0_1.length c0_1) := (blk_cell BK224.out 1).trans rfl; have hcz16_2 : w14.cell? ⟨gb224, 2, none⟩ = some (.slice A0_2 l0_2.length c0_2) := (blk_cell BK224.out 2).trans rfl; have hfz16_0 := Zn BK224.out 0; have hfz16_1 := Zn BK224.out 1; have hfz16_2 := Zn BK224.out 2; have hcz17_0 : w14.cell? ⟨gb225, 0, none⟩ = some (.string a1_0) := (blk_cell BK225.out 0).trans rfl; have hcz17_1 : w14.cell? ⟨gb225, 1, none⟩ = some (.slice A1_1 l1_1.length c1_1) := (blk_cell BK225.out 1).trans rfl; have hcz17_2 : w14.cell? ⟨gb225, 2, none⟩ = some (.slice A1_2 l1_2.length c1_2) := (blk_cell BK225.out 2).trans rfl; have hfz17_0 := Zn BK225.out 0; have hfz17_1 := Zn BK225.out 1; have hfz17_2 := Zn BK225.out 2) | ((with_reducible refine gate_callee (f := 30) rfl ?_); refine goesL_ (some 14) rfl rfl Tryd.func30 (by kernel_rfl) rfl #[.slice A0_1 l0_1.length c0_1, .slice A1_1 l1_1.length c1_1] rfl (by (try simp only [List.map_toArray, List.map_cons, List.map_nil]); first | done | rfl | (simp only [List.length_drop, List.length_take]; rfl)) ?_; (with_reducible refine (laws_eqByteS.calls k _ _ l0_1 _ _ l1_1 true _ ?side1 ?side2 ?side3 ?side4 A4.out).mono ?_); (case side1 => repeat (first | exact (C_below HR0_1.out HB.out) | (with_reducible refine C_alloc ?_ _) | (with_reducible refine C_drewN ?_ _) | (with_reducible refine C_drew ?_))); (case side2 => exact HC0_1.out); (case side3 => repeat (first | exact (C_below HR1_1.out HB.out) | (with_reducible refine C_alloc ?_ _) | (with_reducible refine C_drewN ?_ _) | (with_reducible refine C_drew ?_))); (case side4 => exact HC1_1.out); rintro e w' ⟨rfl, ⟨nd, rfl⟩⟩; refine ⟨_, rfl, ?_⟩) | ((with_reducible refine gate_callee (f := 30) rfl ?_); refine goesL_ (some 20) rfl rfl Tryd.func30 (by kernel_rfl) rfl #[.slice A0_2 l0_2.length c0_2, .slice A1_2 l1_2.length c1_2] rfl (by (try simp only [List.map_toArray, List.map_cons, List.map_nil]); first | done | rfl | (simp only [List.length_drop, List.length_take]; rfl)) ?_; (with_reducible refine (laws_eqByteS.calls k _ _ l0_2 _ _ l1_2 false _ ?side1 ?side2 ?side3 ?side4 A6.out).mono ?_); (case side1 => repeat (first | exact (C_below HR0_2.out Zs) | (with_reducible refine C_alloc ?_ _) | (with_reducible refine C_drewN ?_ _) | (with_reducible refine C_drew ?_))); (case side2 => exact HC0_2.out); (case side3 => repeat (first | exact (C_below HR1_2.out Zs) | (with_reducible refine C_alloc ?_ _) | (with_reducible refine C_drewN ?_ _) | (with_reducible refine C_drew ?_))); (case side4 => exact HC1_2.out); rintro e w' ⟨rfl, ⟨nd, rfl⟩⟩; refine ⟨_, rfl, ?_⟩))
   go_ret
   exact ⟨by first | rfl | (simp [errW_none, errW_some] <;> rfl) | (simp [*, errW_none, errW_some] <;> rfl), by repeat (first | (with_reducible first | exact HB.out | apply Zf | apply Zd | apply Ze | refine Zg ?_ GE224.out | refine Zg ?_ GE225.out) | exact HB.out)⟩
  replace c5 := Bool.eq_false_iff.mpr c5
  subst c5
  have H1 : (some false) = some r := by rw [if_neg (show ¬ (false = true) by decide)] at H; exact H
  clear H
  have H := H1
  clear H1
  obtain rfl := Option.some.inj H
  go_enter Tryd.func79, Tryd.ntmps79
  go_wp2_with (first | ((with_reducible refine gate_dst (N := 2) rfl ?_); refine box_event ?hg (N := 2) ?hd (cs := #[.string a0_0, .slice A0_1 l0_1.length c0_1, .slice A0_2 l0_2.length c0_2]) (t := 55) ?hr ?_; (case hd => rfl); (case hg => rfl); (case hr => first | (go_simp; done) | (go_simp; rfl)); intro gb224 hg w18 hbox hb; have n0_ := Zh (Zl Zs hb); have n1_ := Zh (hbox); have n2_ := Zh ((by rw [hg]; exact (below_size Zs) : w.heap.size ≤ gb224)); have n3_ := Zh ((by rw [hg]; exact (below_size Zs) : w.heap.size ≤ gb224)); clear HB; have HB := n0_; have BK224 := n1_; have GW224 := n2_; have GE224 := n3_; clear n0_ n1_ n2_ n3_; clear hb hbox hg) | ((with_reducible refine gate_dst (N := 3) rfl ?_); refine box_event ?hg (N := 3) ?hd (cs := #[.string a1_0, .slice A1_1 l1_1.length c1_1, .slice A1_2 l1_2.length c1_2]) (t := 55) ?hr ?_; (case hd => rfl); (case hg => rfl); (case hr => first | (go_simp; done) | (go_simp; rfl)); intro gb225 hg w19 hbox hb; have n0_ := Zh (Zm (g := gb224) (o := .cells #[.string a0_0, .slice A0_1 l0_1.length c0_1, .slice A0_2 l0_2.length c0_2] 55 (0, 0)) Zk hb); have n1_ := Zh (Zl Zs hb); have n2_ := Zh (hbox); have n3_ := Zh ((by rw [hg]; exact (below_size Zs) : w.heap.size ≤ gb225)); have n4_ := Zh ((by rw [hg]; exact (below_size Zs) : w.heap.size ≤ gb225)); have n5_ := Zh ((by rw [hg]; exact Nat.ne_of_lt (blk_lt (g := gb224) (o := .cells #[.string a0_0, .slice A0_1 l0_1.length c0_1, .slice A0_2 l0_2.length c0_2] 55 (0, 0)) Zk) : gb224 ≠ gb225)); have n6_ := Zh ((by rw [hg]; exact Nat.ne_of_gt (blk_lt (g := gb224) (o := .cells #[.string a0_0, .slice A0_1 l0_1.length c0_1, .slice A0_2 l0_2.length c0_2] 55 (0, 0)) Zk) : gb225 ≠ gb224)); clear BK224; clear HB; have BK224 := n0_; have HB := n1_; have BK225 := n2_; have GW225 := n3_; have GE225 := n4_; have NB224_225 := n5_; have NB225_224 := n6_; clear n0_ n1_ n2_ n3_ n4_ n5_ n6_; clear hb hbox hg; have hnb20 := NB224_225.out; have hnc20 := NB225_224.out; have hcz21_0 : w19.cell? ⟨gb224, 0, none⟩ = some (.string a0_0) := (blk_cell BK224.out 0).trans rfl; have hcz21_1 : w19.cell? ⟨gb224, 1, none⟩ = some (.slice A0_1 l0_1.length c0_1) := (blk_cell BK224.out 1).trans rfl; have hcz21_2 : w19.cell? ⟨gb224, 2, none⟩ = some (.slice A0_2 l0_2.length c0_2) := (blk_cell BK224.out 2).trans rfl; have hfz21_0 := Zn BK224.out 0; have hfz21_1 := Zn BK224.out 1; have hfz21_2 := Zn BK224.out 2; have hcz22_0 : w19.cell? ⟨gb225, 0, none⟩ = some (.string a1_0) := (blk_cell BK225.out 0).trans rfl; have hcz22_1 : w19.cell? ⟨gb225, 1, none⟩ = some (.slice A1_1 l1_1.length c1_1) := (blk_cell BK225.out 1).trans rfl; have hcz22_2 : w19.cell? ⟨gb225, 2, none⟩ = some (.slice A1_2 l1_2.length c1_2) := (blk_cell BK225.out 2).trans rfl; have hfz22_0 := Zn BK225.out 0; have hfz22_1 := Zn BK225.out 1; have hfz22_2 := Zn BK225.out 2) | ((with_reducible refine gate_callee (f := 30) rfl ?_); refine goesL_ (some 14) rfl rfl Tryd.func30 (by kernel_rfl) rfl #[.slice A0_1 l0_1.length c0_1, .slice A1_1 l1_1.length c1_1] rfl (by (try simp only [List.map_toArray, List.map_cons, List.map_nil]); first | done | rfl | (simp only [List.length_drop, List.length_take]; rfl)) ?_; (with_reducible refine (laws_eqByteS.calls k _ _ l0_1 _ _ l1_1 false _ ?side1 ?side2 ?side3 ?side4 A4.out).mono ?_); (case side1 => repeat (first | exact (C_below HR0_1.out HB.out) | (with_reducible refine C_alloc ?_ _) | (with_reducible refine C_drewN ?_ _) | (with_reducible refine C_drew ?_))); (case side2 => exact HC0_1.out); (case side3 => repeat (first | exact (C_below HR1_1.out HB.out) | (with_reducible refine C_alloc ?_ _) | (with_reducible refine C_drewN ?_ _) | (with_reducible refine C_drew ?_))); (case side4 => exact HC1_1.out); rintro e w' ⟨rfl, ⟨nd, rfl⟩⟩; refine ⟨_, rfl, ?_⟩))
  go_ret
  exact ⟨by first | rfl | (simp [errW_none, errW_some] <;> rfl) | (simp [*, errW_none, errW_some] <;> rfl), by repeat (first | (with_reducible first | exact HB.out | apply Zf | apply Zd | apply Ze | refine Zg ?_ GE224.out | refine Zg ?_ GE225.out) | exact HB.out)⟩
 rw [if_neg c3] at H
 have c3b0 : (a0_0.toList == a1_0.toList) = false := beq_eq_false_iff_ne.mpr c3
 have c3b1 : (a0_0.toList != a1_0.toList) = true := bne_iff_ne.mpr c3
 obtain rfl := Option.some.inj H
 go_enter Tryd.func79, Tryd.ntmps79
 go_wp2_with (first | ((with_reducible refine gate_dst (N := 2) rfl ?_); refine box_event ?hg (N := 2) ?hd (cs := #[.string a0_0, .slice A0_1 l0_1.length c0_1, .slice A0_2 l0_2.length c0_2]) (t := 55) ?hr ?_; (case hd => rfl); (case hg => rfl); (case hr => first | (go_simp; done) | (go_simp; rfl)); intro gb224 hg w23 hbox hb; have n0_ := Zh (Zl Zs hb); have n1_ := Zh (hbox); have n2_ := Zh ((by rw [hg]; exact (below_size Zs) : w.heap.size ≤ gb224)); have n3_ := Zh ((by rw [hg]; exact (below_size Zs) : w.heap.size ≤ gb224)); clear HB; have HB := n0_; have BK224 := n1_; have GW224 := n2_; have GE224 := n3_; clear n0_ n1_ n2_ n3_; clear hb hbox hg) | ((with_reducible refine gate_dst (N := 3) rfl ?_); refine box_event ?hg (N := 3) ?hd (cs := #[.string a1_0, .slice A1_1 l1_1.length c1_1, .slice A1_2 l1_2.length c1_2]) (t := 55) ?hr ?_; (case hd => rfl); (case hg => rfl); (case hr => first | (go_simp; done) | (go_simp; rfl)); intro gb225 hg w24 hbox hb; have n0_ := Zh (Zm (g := gb224) (o := .cells #[.string a0_0, .slice A0_1 l0_1.length c0_1, .slice A0_2 l0_2.length c0_2] 55 (0, 0)) Zk hb); have n1_ := Zh (Zl Zs hb); have n2_ := Zh (hbox); have n3_ := Zh ((by rw [hg]; exact (below_size Zs) : w.heap.size ≤ gb225)); have n4_ := Zh ((by rw [hg]; exact (below_size Zs) : w.heap.size ≤ gb225)); have n5_ := Zh ((by rw [hg]; exact Nat.ne_of_lt (blk_lt (g := gb224) (o := .cells #[.string a0_0, .slice A0_1 l0_1.length c0_1, .slice A0_2 l0_2.length c0_2] 55 (0, 0)) Zk) : gb224 ≠ gb225)); have n6_ := Zh ((by rw [hg]; exact Nat.ne_of_gt (blk_lt (g := gb224) (o := .cells #[.string a0_0, .slice A0_1 l0_1.length c0_1, .slice A0_2 l0_2.length c0_2] 55 (0, 0)) Zk) : gb225 ≠ gb224)); clear BK224; clear HB; have BK224 := n0_; have HB := n1_; have BK225 := n2_; have GW225 := n3_; have GE225 := n4_; have NB224_225 := n5_; have NB225_224 := n6_; clear n0_ n1_ n2_ n3_ n4_ n5_ n6_; clear hb hbox hg; have hnb25 := NB224_225.out; have hnc25 := NB225_224.out; have hcz26_0 : w24.cell? ⟨gb224, 0, none⟩ = some (.string a0_0) := (blk_cell BK224.out 0).trans rfl; have hcz26_1 : w24.cell? ⟨gb224, 1, none⟩ = some (.slice A0_1 l0_1.length c0_1) := (blk_cell BK224.out 1).trans rfl; have hcz26_2 : w24.cell? ⟨gb224, 2, none⟩ = some (.slice A0_2 l0_2.length c0_2) := (blk_cell BK224.out 2).trans rfl; have hfz26_0 := Zn BK224.out 0; have hfz26_1 := Zn BK224.out 1; have hfz26_2 := Zn BK224.out 2; have hcz27_0 : w24.cell? ⟨gb225, 0, none⟩ = some (.string a1_0) := (blk_cell BK225.out 0).trans rfl; have hcz27_1 : w24.cell? ⟨gb225, 1, none⟩ = some (.slice A1_1 l1_1.length c1_1) := (blk_cell BK225.out 1).trans rfl; have hcz27_2 : w24.cell? ⟨gb225, 2, none⟩ = some (.slice A1_2 l1_2.length c1_2) := (blk_cell BK225.out 2).trans rfl; have hfz27_0 := Zn BK225.out 0; have hfz27_1 := Zn BK225.out 1; have hfz27_2 := Zn BK225.out 2))
 go_ret
 exact ⟨by first | rfl | (simp [errW_none, errW_some] <;> rfl) | (simp [*, errW_none, errW_some] <;> rfl), by repeat (first | (with_reducible first | exact HB.out | apply Zf | apply Zd | apply Ze | refine Zg ?_ GE224.out | refine Zg ?_ GE225.out) | exact HB.out)⟩
end Go.Proofs.YtcgojdhbphocgaaDoor.F

namespace Go.Proofs.YtcgojdhbphocgaaDoor.F
open Go.Proofs.YtcgojdhbphocgaaDoor
open Go.RowKit Go.Proofs.YtcgojdhbphocgaaDoorW.PrintWords Go.Proofs.YtcgojdhbphocgaaDoorW.PrintWords.Kd Go.Proofs.YtcgojdhbphocgaaDoorW.PrintMore.Kd Go.Proofs.YtcgojdhbphocgaaDoorW.PrintLast Go.Proofs.YtcgojdhbphocgaaDoorW.PrintMore
attribute [local go_sem] max2_int min2_int max_two min_two max_three min_three max_four min_four   -- for this text's walks alone
set_option linter.unusedVariables false
set_option linter.unusedSimpArgs false
def laws_eqFileS.l0 : Nat → List (S55) → List (S55) → Int → Option (Bool)
 | 0, _, _, _ => none
 | k + 1, x0, x1, x5 => if x5 < (x0.length : Int) then (if 0 ≤ x5 then (if x5 < (x1.length : Int) then ((laws_eqFile.f k ((rd_T55 x0 x5).f0) ((rd_T55 x0 x5).f1) ((rd_T55 x0 x5).f2) ((rd_T55 x1 x5).f0) ((rd_T55 x1 x5).f1) ((rd_T55 x1 x5).f2)).bind fun t230 => (if t230 = true then (laws_eqFileS.l0 k x0 x1 (wrap64 (x5 + 1))) else (some false))) else (none)) else (none)) else (some true)
def laws_eqFileS.f (k : Nat) (l0 : List (S55)) (l1 : List (S55)) : Option (Bool) := if (l0.length : Int) = (l1.length : Int) then (laws_eqFileS.l0 k l0 l1 0) else (some false)
def laws_eqFileS.T6 : Bool × List (List Nat × List Nat) := (true, [([], []), ([], []), ([0, 1], [0, 1]), ([2], [2]), ([], []), ([], []), ([4, 5], [4, 5]), ([6], [6]), ([3, 7], [3, 7]), ([8], [8])])
def laws_eqFileS.B6 : List Nat := [0, 0, 3, 7, 0, 0, 48, 112, 255, 511]
theorem laws_eqFileS.tab6 : rtab .any (opsOf Tryd.f46 6) = laws_eqFileS.T6 := by kernel_rfl
theorem laws_eqFileS.bits6 : waitsOk laws_eqFileS.T6.2 laws_eqFileS.B6 = true := by kernel_rfl
set_option maxHeartbeats 8000000 in
set_option maxRecDepth 100000 in
theorem laws_eqFileS.calls (k : Nat) (A0 : Option Addr) (c0 : Nat) (l0 : List (S55)) (A1 : Option Addr) (c1 : Nat) (l1 : List (S55)) (r : Bool) (w : World) (hr0 : Kd.C k55 w A0 l0.length l0) (hc0 : l0.length ≤ c0) (hr1 : Kd.C k55 w A1 l1.length l1) (hc1 : l1.length ≤ c1) (h : laws_eqFileS.f k l0 l1 = some r) :
  Calls Tryd.prog 46 #[.slice A0 l0.length c0, .slice A1 l1.length c1] w fun e w' => e = .returned (.bool r) ∧ Below w.heap.size w w' := by
 have hu55 := Tryd.underlying55
 have HR0 := Zh hr0
 have HC0 := Zh hc0
 clear hr0 hc0
 have HR1 := Zh hr1
 have HC1 := Zh hc1
 clear hr1 hc1
 have HB := Zh (Below.refl w.heap.size w)
 have H : (if (l0.length : Int) = (l1.length : Int) then (laws_eqFileS.l0 k l0 l1 0) else (some false)) = some r := h
 clear h
 by_cases c3 : (l0.length : Int) = (l1.length : Int)
 ·
  rw [if_pos c3] at H
  have c3b0 : ((l0.length : Int) == (l1.length : Int)) = true := beq_iff_eq.mpr c3
  have c3b1 : ((l0.length : Int) != (l1.length : Int)) = false := bne_eq_false_iff_eq.mpr c3
  have c3b2 : (l0.length == l1.length) = true := by first | simpa using c3 | (simp at c3 ⊢; omega)
  clear c3
  have H' := Zh H
  clear H
  go_enter Tryd.func46, Tryd.ntmps46
  go_wp2
  go_loopg [5] k (fun kq v5 w' => ∃ (x5_1 : Int), v5 = .int .i64 x5_1 ∧ Aside0 (laws_eqFileS.l0 kq l0 l1 x5_1 = some r) ∧ Aside0 (kq ≤ k) ∧ Aside0 (Below w.heap.size w w'))
  case atStart => exact ⟨(0), (by first | rfl | (simp; done) | (simp [*]; done)), H', ⟨Nat.le_refl _⟩, ⟨by repeat (first | (with_reducible first | exact HB.out | apply Zf | apply Zd | apply Ze) | exact HB.out)⟩⟩
  case round =>
   clear H'
   try clear c1
   try clear p2
   try clear c3
   try clear c3b0
   try clear c3b1
   try clear c3b2
   obtain ⟨x5_1, rfl, HA, HK1, HB⟩ := hrel
   cases gk with
   | zero => exact absurd HA.out (by simp [laws_eqFileS.l0])
   | succ k1 =>
    have H := HA.out
    clear HA
    simp only [laws_eqFileS.l0] at H
    by_cases c4 : x5_1 < (l0.length : Int)
    ·
     rw [if_pos c4] at H
     have c4b0 : decide (x5_1 < (l0.length : Int)) = true := decide_eq_true c4
     clear c4
     by_cases c5 : 0 ≤ x5_1
     ·
      rw [if_pos c5] at H
      have c5b0 : decide (0 ≤ x5_1) = true := decide_eq_true c5
      clear c5
      by_cases c6 : x5_1 < (l1.length : Int)
      ·
       rw [if_pos c6] at H
       have c6b0 : decide (x5_1 < (l1.length : Int)) = true := decide_eq_true c6
       clear c6
       replace H := Option.bind_eq_some_iff.mp H
       obtain ⟨t230, A70, H⟩ := H
       replace H : (if t230 = true then (laws_eqFileS.l0 k1 l0 l1 (wrap64 (x5_1 + 1))) else (some false)) = some r := H
       have A7 := Zh A70
       clear A70
       by_cases c8 : t230 = true
       ·
        subst c8
        have H1 : (laws_eqFileS.l0 k1 l0 l1 (wrap64 (x5_1 + 1))) = some r := by rw [if_pos rfl] at H; exact H
        clear H
        have H := H1
        clear H1
        have H' := Zh H
        clear H
        try go_wp2
        have n0_ := Zh (Ze HB.out)
        clear HB
        have HB := n0_
        clear n0_
        have p228 : 0 ≤ (x5_1 : Int) := Zo
        have q228 : x5_1 < (l0.length : Int) := Zo
        obtain ⟨ad228, A228_1, c228_1, A228_2, c228_2, e228, hx228_0, hx228_1, hx228_2, hl228_1, hi228_1, hl228_2, hi228_2⟩ := at_T55 HR0.out x5_1 p228 q228
        have hw228_2 := hx228_2
        have hw228_1 := hx228_1
        have hw228_0 := hx228_0
        cases e228
        replace hx228_0 := Zc HB.out hx228_0
        replace hx228_1 := Zc HB.out hx228_1
        replace hx228_2 := Zc HB.out hx228_2
        have HR228_1 := Zh hi228_1
        have HC228_1 := Zh hl228_1
        clear hi228_1 hl228_1
        have HR228_2 := Zh hi228_2
        have HC228_2 := Zh hl228_2
        clear hi228_2 hl228_2
        replace p228 := eq_true p228
        replace q228 := eq_true q228
        have p229 : 0 ≤ (x5_1 : Int) := Zo
        have q229 : x5_1 < (l1.length : Int) := Zo
        obtain ⟨ad229, A229_1, c229_1, A229_2, c229_2, e229, hx229_0, hx229_1, hx229_2, hl229_1, hi229_1, hl229_2, hi229_2⟩ := at_T55 HR1.out x5_1 p229 q229
        have hw229_2 := hx229_2
        have hw229_1 := hx229_1
        have hw229_0 := hx229_0
        cases e229
        replace hx229_0 := Zc HB.out hx229_0
        replace hx229_1 := Zc HB.out hx229_1
        replace hx229_2 := Zc HB.out hx229_2
        have HR229_1 := Zh hi229_1
        have HC229_1 := Zh hl229_1
        clear hi229_1 hl229_1
        have HR229_2 := Zh hi229_2
        have HC229_2 := Zh hl229_2
        clear hi229_2 hl229_2
        replace p229 := eq_true p229
        replace q229 := eq_true q229
        refine start_ (n := 10) (S := fun w' => w'.cell? (ad228.add ((x5_1).toNat * 3)) = some (.string ((rd_T55 l0 x5_1).f0)) ∧ w'.cell? ⟨(ad228.add ((x5_1).toNat * 3)).block, (ad228.add ((x5_1).toNat * 3)).off + 1, none⟩ = some (.slice A228_1 ((rd_T55 l0 x5_1).f1).length c228_1) ∧ w'.cell? ⟨(ad228.add ((x5_1).toNat * 3)).block, (ad228.add ((x5_1).toNat * 3)).off + 2, none⟩ = some (.slice A228_2 ((rd_T55 l0 x5_1).f2).length c228_2) ∧ w'.cell? (ad229.add ((x5_1).toNat * 3)) = some (.string ((rd_T55 l1 x5_1).f0)) ∧ w'.cell? ⟨(ad229.add ((x5_1).toNat * 3)).block, (ad229.add ((x5_1).toNat * 3)).off + 1, none⟩ = some (.slice A229_1 ((rd_T55 l1 x5_1).f1).length c229_1) ∧ w'.cell? ⟨(ad229.add ((x5_1).toNat * 3)).block, (ad229.add ((x5_1).toNat * 3)).off + 2, none⟩ = some (.slice A229_2 ((rd_T55 l1 x5_1).f2).length c229_2)) (ds := []) #[false, false, false, false, false, false, false, false, false, false] (by kernel_rfl) rfl rfl ⟨((HB.out.cell (Zi w _ hw228_0)).trans hw228_0), ((HB.out.cell (Zi w _ hw228_1)).trans hw228_1), ((HB.out.cell (Zi w _ hw228_2)).trans hw228_2), ((HB.out.cell (Zi w _ hw229_0)).trans hw229_0), ((HB.out.cell (Zi w _ hw229_1)).trans hw229_1), ((HB.out.cell (Zi w _ hw229_2)).trans hw229_2)⟩ (fun hHeld => ?_); refine with_tabW laws_eqFileS.tab6 laws_eqFileS.bits6 (fun HT_ HW_ => ?_)
        generalize wr.drew = w9 at HB HR228_1 HR228_2 HR229_1 HR229_2 hx228_0 hx228_1 hx228_2 hx229_0 hx229_1 hx229_2 hHeld ⊢
        refine SQ.pu 0 17 HT_ ?_
        refine SQ.pu 1 18 HT_ ?_
        refine SQ.pu 2 19 HT_ ?_
        refine SQ.pu 4 21 HT_ ?_
        refine SQ.pu 5 22 HT_ ?_
        refine SQ.pu 6 23 HT_ ?_
        refine SQ.tk 3 20 HT_ HW_ hHeld ?_
        refine SQ.tk 7 24 HT_ HW_ hHeld ?_
        refine one_ (i := 8) (N := some 25) #[true, true, true, true, true, true, true, true, true, false] rfl rfl (one_of HT_.out (by kernel_rfl)) (by decide) (fun K hK => ?_)
        refine goes_ Tryd.func79 (by kernel_rfl) rfl #[.agg #[.string ((rd_T55 l0 x5_1).f0), .slice A228_1 ((rd_T55 l0 x5_1).f1).length c228_1, .slice A228_2 ((rd_T55 l0 x5_1).f2).length c228_2], .agg #[.string ((rd_T55 l1 x5_1).f0), .slice A229_1 ((rd_T55 l1 x5_1).f1).length c229_1, .slice A229_2 ((rd_T55 l1 x5_1).f2).length c229_2]] (by rfl) rfl rfl (by (try simp only [List.map_toArray, List.map_cons, List.map_nil]); first | done | rfl | (simp only [List.length_drop, List.length_take]; rfl)) ?_
        with_reducible refine (laws_eqFile.calls k1 ((rd_T55 l0 x5_1).f0) _ _ ((rd_T55 l0 x5_1).f1) _ _ ((rd_T55 l0 x5_1).f2) ((rd_T55 l1 x5_1).f0) _ _ ((rd_T55 l1 x5_1).f1) _ _ ((rd_T55 l1 x5_1).f2) true _ ?side1 ?side2 ?side3 ?side4 ?side5 ?side6 ?side7 ?side8 A7.out).mono ?_
        (case side1 => repeat (first | exact (C_below HR228_1.out HB.out) | (with_reducible refine C_alloc ?_ _) | (with_reducible refine C_drewN ?_ _) | (with_reducible refine C_drew ?_)))
        (case side2 => exact HC228_1.out)
        (case side3 => repeat (first | exact (C_below HR228_2.out HB.out) | (with_reducible refine C_alloc ?_ _) | (with_reducible refine C_drewN ?_ _) | (with_reducible refine C_drew ?_)))
        (case side4 => exact HC228_2.out)
        (case side5 => repeat (first | exact (C_below HR229_1.out HB.out) | (with_reducible refine C_alloc ?_ _) | (with_reducible refine C_drewN ?_ _) | (with_reducible refine C_drew ?_)))
        (case side6 => exact HC229_1.out)
        (case side7 => repeat (first | exact (C_below HR229_2.out HB.out) | (with_reducible refine C_alloc ?_ _) | (with_reducible refine C_drewN ?_ _) | (with_reducible refine C_drew ?_)))
        (case side8 => exact HC229_2.out)
        rintro e w10 ⟨rfl, hb⟩
        refine ⟨_, rfl, ?_⟩
        have n0_ := Zh (Zl Zs hb)
        clear HB
        have HB := n0_
        clear n0_
        (try clear hb)
        (try clear hb2)
        (try clear hk)
        (try clear hi)
        refine hK.out _ _ ⟨((HB.out.cell (Zi w _ hw228_0)).trans hw228_0), ((HB.out.cell (Zi w _ hw228_1)).trans hw228_1), ((HB.out.cell (Zi w _ hw228_2)).trans hw228_2), ((HB.out.cell (Zi w _ hw229_0)).trans hw229_0), ((HB.out.cell (Zi w _ hw229_1)).trans hw229_1), ((HB.out.cell (Zi w _ hw229_2)).trans hw229_2)⟩ (fun hHeld => ?_)
        clear hK K
        refine norm_ (a' := ?_) ?_ ?_
        rotate_left
        ·
         show Act.put _ (some 25) _ = _
         simp only [Act.put, List.setIfInBounds_toArray, List.set_cons_zero, List.set_cons_succ, i64_w, i32_w]
         rfl
        refine SQ.pu 9 26 HT_ ?_
        refine done_ (done_of HT_.out (by kernel_rfl)) ?_
        try go_wp2
        go_roundg k1
        case measure => have := HK1.out; omega
        case rel => exact ⟨(wrap64 (x5_1 + 1)), (by first | rfl | (simp; done) | (simp [*]; done)), H', ⟨by have := HK1.out; omega⟩, ⟨by repeat (first | (with_reducible first | exact HB.out | apply Zf | apply Zd | apply Ze) | exact HB.out)⟩⟩
       replace c8 := Bool.eq_false_iff.mpr c8
       subst c8
       have H1 : (some false) = some r := by rw [if_neg (show ¬ (false = true) by decide)] at H; exact H
       clear H
       have H := H1
       clear H1
       obtain rfl := Option.some.inj H
       try go_wp2
       have n0_ := Zh (Ze HB.out)
       clear HB
       have HB := n0_
       clear n0_
       have p228 : 0 ≤ (x5_1 : Int) := Zo
       have q228 : x5_1 < (l0.length : Int) := Zo
       obtain ⟨ad228, A228_1, c228_1, A228_2, c228_2, e228, hx228_0, hx228_1, hx228_2, hl228_1, hi228_1, hl228_2, hi228_2⟩ := at_T55 HR0.out x5_1 p228 q228
       have hw228_2 := hx228_2
       have hw228_1 := hx228_1
       have hw228_0 := hx228_0
       cases e228
       replace hx228_0 := Zc HB.out hx228_0
       replace hx228_1 := Zc HB.out hx228_1
       replace hx228_2 := Zc HB.out hx228_2
       have HR228_1 := Zh hi228_1
       have HC228_1 := Zh hl228_1
       clear hi228_1 hl228_1
       have HR228_2 := Zh hi228_2
       have HC228_2 := Zh hl228_2
       clear hi228_2 hl228_2
       replace p228 := eq_true p228
       replace q228 := eq_true q228
       have p229 : 0 ≤ (x5_1 : Int) := Zo
       have q229 : x5_1 < (l1.length : Int) := Zo
       obtain ⟨ad229, A229_1, c229_1, A229_2, c229_2, e229, hx229_0, hx229_1, hx229_2, hl229_1, hi229_1, hl229_2, hi229_2⟩ := at_T55 HR1.out x5_1 p229 q229
       have hw229_2 := hx229_2
       have hw229_1 := hx229_1
       have hw229_0 := hx229_0
       cases e229
       replace hx229_0 := Zc HB.out hx229_0
       replace hx229_1 := Zc HB.out hx229_1
       replace hx229_2 := Zc HB.out hx229_2
       have HR229_1 := Zh hi229_1
       have HC229_1 := Zh hl229_1
       clear hi229_1 hl229_1
       have HR229_2 := Zh hi229_2
       have HC229_2 := Zh hl229_2
       clear hi229_2 hl229_2
       replace p229 := eq_true p229
       replace q229 := eq_true q229
       refine start_ (n := 10) (S := fun w' => w'.cell? (ad228.add ((x5_1).toNat * 3)) = some (.string ((rd_T55 l0 x5_1).f0)) ∧ w'.cell? ⟨(ad228.add ((x5_1).toNat * 3)).block, (ad228.add ((x5_1).toNat * 3)).off + 1, none⟩ = some (.slice A228_1 ((rd_T55 l0 x5_1).f1).length c228_1) ∧ w'.cell? ⟨(ad228.add ((x5_1).toNat * 3)).block, (ad228.add ((x5_1).toNat * 3)).off + 2, none⟩ = some (.slice A228_2 ((rd_T55 l0 x5_1).f2).length c228_2) ∧ w'.cell? (ad229.add ((x5_1).toNat * 3)) = some (.string ((rd_T55 l1 x5_1).f0)) ∧ w'.cell? ⟨(ad229.add ((x5_1).toNat * 3)).block, (ad229.add ((x5_1).toNat * 3)).off + 1, none⟩ = some (.slice A229_1 ((rd_T55 l1 x5_1).f1).length c229_1) ∧ w'.cell? ⟨(ad229.add ((x5_1).toNat * 3)).block, (ad229.add ((x5_1).toNat * 3)).off + 2, none⟩ = some (.slice A229_2 ((rd_T55 l1 x5_1).f2).length c229_2)) (ds := []) #[false, false, false, false, false, false, false, false, false, false] (by kernel_rfl) rfl rfl ⟨((HB.out.cell (Zi w _ hw228_0)).trans hw228_0), ((HB.out.cell (Zi w _ hw228_1)).trans hw228_1), ((HB.out.cell (Zi w _ hw228_2)).trans hw228_2), ((HB.out.cell (Zi w _ hw229_0)).trans hw229_0), ((HB.out.cell (Zi w _ hw229_1)).trans hw229_1), ((HB.out.cell (Zi w _ hw229_2)).trans hw229_2)⟩ (fun hHeld => ?_); refine with_tabW laws_eqFileS.tab6 laws_eqFileS.bits6 (fun HT_ HW_ => ?_)
       generalize wr.drew = w11 at HB HR228_1 HR228_2 HR229_1 HR229_2 hx228_0 hx228_1 hx228_2 hx229_0 hx229_1 hx229_2 hHeld ⊢
       refine SQ.pu 0 17 HT_ ?_
       refine SQ.pu 1 18 HT_ ?_
       refine SQ.pu 2 19 HT_ ?_
       refine SQ.pu 4 21 HT_ ?_
       refine SQ.pu 5 22 HT_ ?_
       refine SQ.pu 6 23 HT_ ?_
       refine SQ.tk 3 20 HT_ HW_ hHeld ?_
       refine SQ.tk 7 24 HT_ HW_ hHeld ?_
       refine one_ (i := 8) (N := some 25) #[true, true, true, true, true, true, true, true, true, false] rfl rfl (one_of HT_.out (by kernel_rfl)) (by decide) (fun K hK => ?_)
       refine goes_ Tryd.func79 (by kernel_rfl) rfl #[.agg #[.string ((rd_T55 l0 x5_1).f0), .slice A228_1 ((rd_T55 l0 x5_1).f1).length c228_1, .slice A228_2 ((rd_T55 l0 x5_1).f2).length c228_2], .agg #[.string ((rd_T55 l1 x5_1).f0), .slice A229_1 ((rd_T55 l1 x5_1).f1).length c229_1, .slice A229_2 ((rd_T55 l1 x5_1).f2).length c229_2]] (by rfl) rfl rfl (by (try simp only [List.map_toArray, List.map_cons, List.map_nil]); first | done | rfl | (simp only [List.length_drop, List.length_take]; rfl)) ?_
       with_reducible refine (laws_eqFile.calls k1 ((rd_T55 l0 x5_1).f0) _ _ ((rd_T55 l0 x5_1).f1) _ _ ((rd_T55 l0 x5_1).f2) ((rd_T55 l1 x5_1).f0) _ _ ((rd_T55 l1 x5_1).f1) _ _ ((rd_T55 l1 x5_1).f2) false _ ?side1 ?side2 ?side3 ?side4 ?side5 ?side6 ?side7 ?side8 A7.out).mono ?_
       (case side1 => repeat (first | exact (C_below HR228_1.out HB.out) | (with_reducible refine C_alloc ?_ _) | (with_reducible refine C_drewN ?_ _) | (with_reducible refine C_drew ?_)))
       (case side2 => exact HC228_1.out)
       (case side3 => repeat (first | exact (C_below HR228_2.out HB.out) | (with_reducible refine C_alloc ?_ _) | (with_reducible refine C_drewN ?_ _) | (with_reducible refine C_drew ?_)))
       (case side4 => exact HC228_2.out)
       (case side5 => repeat (first | exact (C_below HR229_1.out HB.out) | (with_reducible refine C_alloc ?_ _) | (with_reducible refine C_drewN ?_ _) | (with_reducible refine C_drew ?_)))
       (case side6 => exact HC229_1.out)
       (case side7 => repeat (first | exact (C_below HR229_2.out HB.out) | (with_reducible refine C_alloc ?_ _) | (with_reducible refine C_drewN ?_ _) | (with_reducible refine C_drew ?_)))
       (case side8 => exact HC229_2.out)
       rintro e w12 ⟨rfl, hb⟩
       refine ⟨_, rfl, ?_⟩
       have n0_ := Zh (Zl Zs hb)
       clear HB
       have HB := n0_
       clear n0_
       (try clear hb)
       (try clear hb2)
       (try clear hk)
       (try clear hi)
       refine hK.out _ _ ⟨((HB.out.cell (Zi w _ hw228_0)).trans hw228_0), ((HB.out.cell (Zi w _ hw228_1)).trans hw228_1), ((HB.out.cell (Zi w _ hw228_2)).trans hw228_2), ((HB.out.cell (Zi w _ hw229_0)).trans hw229_0), ((HB.out.cell (Zi w _ hw229_1)).trans hw229_1), ((HB.out.cell (Zi w _ hw229_2)).trans hw229_2)⟩ (fun hHeld => ?_)
       clear hK K
       refine norm_ (a' := ?_) ?_ ?_
       rotate_left
       ·
        show Act.put _ (some 25) _ = _
        simp only [Act.put, List.setIfInBounds_toArray, List.set_cons_zero, List.set_cons_succ, i64_w, i32_w]
        rfl
       refine SQ.pu 9 26 HT_ ?_
       refine done_ (done_of HT_.out (by kernel_rfl)) ?_
       try go_wp2
       go_ret
       exact ⟨by first | rfl | (simp [errW_none, errW_some] <;> rfl) | (simp [*, errW_none, errW_some] <;> rfl), by repeat (first | (with_reducible first | exact HB.out | apply Zf | apply Zd | apply Ze) | exact HB.out)⟩
      rw [if_neg c6] at H
      exact absurd H (by simp)
     rw [if_neg c5] at H
     exact absurd H (by simp)
    rw [if_neg c4] at H
    have c4b0 : decide (x5_1 < (l0.length : Int)) = false := decide_eq_false c4
    clear c4
    obtain rfl := Option.some.inj H
    go_wp2
    go_ret
    exact ⟨by first | rfl | (simp [errW_none, errW_some] <;> rfl) | (simp [*, errW_none, errW_some] <;> rfl), by repeat (first | (with_reducible first | exact HB.out | apply Zf | apply Zd | apply Ze) | exact HB.out)⟩
 rw [if_neg c3] at H
 have c3b0 : ((l0.length : Int) == (l1.length : Int)) = false := beq_eq_false_iff_ne.mpr c3
 have c3b1 : ((l0.length : Int) != (l1.length : Int)) = true := bne_iff_ne.mpr c3
 have c3b2 : (l0.length == l1.length) = false := by first | simpa using c3 | (simp at c3 ⊢; omega)
 obtain rfl := Option.some.inj H
 go_enter Tryd.func46, Tryd.ntmps46
 go_wp2
 go_ret
 exact ⟨by first | rfl | (simp [errW_none, errW_some] <;> rfl) | (simp [*, errW_none, errW_some] <;> rfl), by repeat (first | (with_reducible first | exact HB.out | apply Zf | apply Zd | apply Ze) | exact HB.out)⟩
end Go.Proofs.YtcgojdhbphocgaaDoor.F

namespace Go.Proofs.YtcgojdhbphocgaaDoor.F
open Go.RowKit Go.Proofs.YtcgojdhbphocgaaDoorW.PrintWords Go.Proofs.YtcgojdhbphocgaaDoorW.PrintWords.Kd Go.Proofs.YtcgojdhbphocgaaDoorW.PrintMore.Kd Go.Proofs.YtcgojdhbphocgaaDoorW.PrintLast Go.Proofs.YtcgojdhbphocgaaDoorW.PrintMore
attribute [local go_sem] max2_int min2_int max_two min_two max_three min_three max_four min_four   -- for this text's walks alone
set_option linter.unusedVariables false
set_option linter.unusedSimpArgs false
def laws_eqDisk.f (k : Nat) (l0_0 : List (S55)) (l1_0 : List (S55)) : Option (Bool) := (laws_eqFileS.f k l0_0 l1_0).bind fun t233 => (if t233 = true then (some true) else (some false))
set_option maxHeartbeats 8000000 in
set_option maxRecDepth 100000 in
theorem laws_eqDisk.calls (k : Nat) (A0_0 : Option Addr) (c0_0 : Nat) (l0_0 : List (S55)) (A1_0 : Option Addr) (c1_0 : Nat) (l1_0 : List (S55)) (r : Bool) (w : World) (hr0_0 : Kd.C k55 w A0_0 l0_0.length l0_0) (hc0_0 : l0_0.length ≤ c0_0) (hr1_0 : Kd.C k55 w A1_0 l1_0.length l1_0) (hc1_0 : l1_0.length ≤ c1_0) (h : laws_eqDisk.f k l0_0 l1_0 = some r) :
  Calls Tryd.prog 15 #[.agg #[.slice A0_0 l0_0.length c0_0], .agg #[.slice A1_0 l1_0.length c1_0]] w fun e w' => e = .returned (.bool r) ∧ Below w.heap.size w w' := by
 have hu28 := Tryd.underlying28
 have HR0_0 := Zh hr0_0
 have HC0_0 := Zh hc0_0
 clear hr0_0 hc0_0
 have HR1_0 := Zh hr1_0
 have HC1_0 := Zh hc1_0
 clear hr1_0 hc1_0
 have HB := Zh (Below.refl w.heap.size w)
 have H : ((laws_eqFileS.f k l0_0 l1_0).bind fun t233 => (if t233 = true then (some true) else (some false))) = some r := h
 clear h
 replace H := Option.bind_eq_some_iff.mp H
 obtain ⟨t233, A30, H⟩ := H
 replace H : (if t233 = true then (some true) else (some false)) = some r := H
 have A3 := Zh A30
 clear A30
 by_cases c4 : t233 = true
 ·
  subst c4
  have H1 : (some true) = some r := by rw [if_pos rfl] at H; exact H
  clear H
  have H := H1
  clear H1
  obtain rfl := Option.some.inj H
  go_enter Tryd.func15, Tryd.ntmps15
  go_wp2_with (first | ((with_reducible refine gate_dst (N := 2) rfl ?_); refine box_event ?hg (N := 2) ?hd (cs := #[.slice A0_0 l0_0.length c0_0]) (t := 28) ?hr ?_; (case hd => rfl); (case hg => rfl); (case hr => first | (go_simp; done) | (go_simp; rfl)); intro gb231 hg w5 hbox hb; have n0_ := Zh (Zl Zs hb); have n1_ := Zh (hbox); have n2_ := Zh ((by rw [hg]; exact (below_size Zs) : w.heap.size ≤ gb231)); have n3_ := Zh ((by rw [hg]; exact (below_size Zs) : w.heap.size ≤ gb231)); clear HB; have HB := n0_; have BK231 := n1_; have GW231 := n2_; have GE231 := n3_; clear n0_ n1_ n2_ n3_; clear hb hbox hg) | ((with_reducible refine gate_dst (N := 3) rfl ?_); refine box_event ?hg (N := 3) ?hd (cs := #[.slice A1_0 l1_0.length c1_0]) (t := 28) ?hr ?_; (case hd => rfl); (case hg => rfl); (case hr => first | (go_simp; done) | (go_simp; rfl)); intro gb232 hg w6 hbox hb; have n0_ := Zh (Zm (g := gb231) (o := .cells #[.slice A0_0 l0_0.length c0_0] 28 (0, 0)) Zk hb); have n1_ := Zh (Zl Zs hb); have n2_ := Zh (hbox); have n3_ := Zh ((by rw [hg]; exact (below_size Zs) : w.heap.size ≤ gb232)); have n4_ := Zh ((by rw [hg]; exact (below_size Zs) : w.heap.size ≤ gb232)); have n5_ := Zh ((by rw [hg]; exact Nat.ne_of_lt (blk_lt (g := gb231) (o := .cells #[.slice A0_0 l0_0.length c0_0] 28 (0, 0)) Zk) : gb231 ≠ gb232)); have n6_ := Zh ((by rw [hg]; exact Nat.ne_of_gt (blk_lt (g := gb231) (o := .cells #[.slice A0_0 l0_0.length c0_0] 28 (0, 0)) Zk) : gb232 ≠ gb231)); clear BK231; clear HB; have BK231 := n0_; have HB := n1_; have BK232 := n2_; have GW232 := n3_; have GE232 := n4_; have NB231_232 := n5_; have NB232_231 := n6_; clear n0_ n1_ n2_ n3_ n4_ n5_ n6_; clear hb hbox hg; have hnb7 := NB231_232.out; have hnc7 := NB232_231.out; have hcz8_0 : w6.cell? ⟨gb231, 0, none⟩ = some (.slice A0_0 l0_0.length c0_0) := (blk_cell BK231.out 0).trans rfl; have hfz8_0 := Zn BK231.out 0; have hcz9_0 : w6.cell? ⟨gb232, 0, none⟩ = some (.slice A1_0 l1_0.length c1_0) := (blk_cell BK232.out 0).trans rfl; have hfz9_0 := Zn BK232.out 0) | ((with_reducible refine gate_callee (f := 46) rfl ?_); refine goesL_ (some 9) rfl rfl Tryd.func46 (by kernel_rfl) rfl #[.slice A0_0 l0_0.length c0_0, .slice A1_0 l1_0.length c1_0] rfl (by (try simp only [List.map_toArray, List.map_cons, List.map_nil]); first | done | rfl | (simp only [List.length_drop, List.length_take]; rfl)) ?_; (with_reducible refine (laws_eqFileS.calls k _ _ l0_0 _ _ l1_0 true _ ?side1 ?side2 ?side3 ?side4 A3.out).mono ?_); (case side1 => repeat (first | exact (C_below HR0_0.out HB.out) | (with_reducible refine C_alloc ?_ _) | (with_reducible refine C_drewN ?_ _) | (with_reducible refine C_drew ?_))); (case side2 => exact HC0_0.out); (case side3 => repeat (first | exact (C_below HR1_0.out HB.out) | (with_reducible refine C_alloc ?_ _) | (with_reducible refine C_drewN ?_ _) | (with_reducible refine C_drew ?_))); (case side4 => exact HC1_0.out); rintro e w10 ⟨rfl, hb⟩; refine ⟨_, rfl, ?_⟩; have n0_ := Zh (Zm (g := gb231) (o := .cells #[.slice A0_0 l0_0.length c0_0] 28 (0, 0)) Zk hb); have n1_ := Zh (Zm (g := gb232) (o := .cells #[.slice A1_0 l1_0.length c1_0] 28 (0, 0)) Zk hb); have n2_ := Zh (Zl Zs hb); clear BK231; clear BK232; clear HB; have BK231 := n0_; have BK232 := n1_; have HB := n2_; clear n0_ n1_ n2_; (try clear hb); (try clear hb2); (try clear hk); (try clear hi)))
  go_ret
  exact ⟨by first | rfl | (simp [errW_none, errW_some] <;> rfl) | (simp [*, errW_none, errW_some] <;> rfl), by repeat (first | (with_reducible first | exact HB.out | apply Zf | apply Zd | apply Ze | refine Zg ?_ GE231.out | refine Zg ?_ GE232.out) | exact HB.out)⟩
 replace c4 := Bool.eq_false_iff.mpr c4
 subst c4
 have H1 : (some false) = some r := by rw [if_neg (show ¬ (false = true) by decide)] at H; exact H
 clear H
 have H := H1
 clear H1
 obtain rfl := Option.some.inj H
 go_enter Tryd.func15, Tryd.ntmps15
 go_wp2_with (first | ((with_reducible refine gate_dst (N := 2) rfl ?_); refine box_event ?hg (N := 2) ?hd (cs := #[.slice A0_0 l0_0.length c0_0]) (t := 28) ?hr ?_; (case hd => rfl); (case hg => rfl); (case hr => first | (go_simp; done) | (go_simp; rfl)); intro gb231 hg w11 hbox hb; have n0_ := Zh (Zl Zs hb); have n1_ := Zh (hbox); have n2_ := Zh ((by rw [hg]; exact (below_size Zs) : w.heap.size ≤ gb231)); have n3_ := Zh ((by rw [hg]; exact (below_size Zs) : w.heap.size ≤ gb231)); clear HB; have HB := n0_; have BK231 := n1_; have GW231 := n2_; have GE231 := n3_; clear n0_ n1_ n2_ n3_; clear hb hbox hg) | ((with_reducible refine gate_dst (N := 3) rfl ?_); refine box_event ?hg (N := 3) ?hd (cs := #[.slice A1_0 l1_0.length c1_0]) (t := 28) ?hr ?_; (case hd => rfl); (case hg => rfl); (case hr => first | (go_simp; done) | (go_simp; rfl)); intro gb232 hg w12 hbox hb; have n0_ := Zh (Zm (g := gb231) (o := .cells #[.slice A0_0 l0_0.length c0_0] 28 (0, 0)) Zk hb); have n1_ := Zh (Zl Zs hb); have n2_ := Zh (hbox); have n3_ := Zh ((by rw [hg]; exact (below_size Zs) : w.heap.size ≤ gb232)); have n4_ := Zh ((by rw [hg]; exact (below_size Zs) : w.heap.size ≤ gb232)); have n5_ := Zh ((by rw [hg]; exact Nat.ne_of_lt (blk_lt (g := gb231) (o := .cells #[.slice A0_0 l0_0.length c0_0] 28 (0, 0)) Zk) : gb231 ≠ gb232)); have n6_ := Zh ((by rw [hg]; exact Nat.ne_of_gt (blk_lt (g := gb231) (o := .cells #[.slice A0_0 l0_0.length c0_0] 28 (0, 0)) Zk) : gb232 ≠ gb231)); clear BK231; clear HB; have BK231 := n0_; have HB := n1_; have BK232 := n2_; have GW232 := n3_; have GE232 := n4_; have NB231_232 := n5_; have NB232_231 := n6_; clear n0_ n1_ n2_ n3_ n4_ n5_ n6_; clear hb hbox hg; have hnb13 := NB231_232.out; have hnc13 := NB232_231.out; have hcz14_0 : w12.cell? ⟨gb231, 0, none⟩ = some (.slice A0_0 l0_0.length c0_0) := (blk_cell BK231.out 0).trans rfl; have hfz14_0 := Zn BK231.out 0; have hcz15_0 : w12.cell? ⟨gb232, 0, none⟩ = some (.slice A1_0 l1_0.length c1_0) := (blk_cell BK232.out 0).trans rfl; have hfz15_0 := Zn BK232.out 0) | ((with_reducible refine gate_callee (f := 46) rfl ?_); refine goesL_ (some 9) rfl rfl Tryd.func46 (by kernel_rfl) rfl #[.slice A0_0 l0_0.length c0_0, .slice A1_0 l1_0.length c1_0] rfl (by (try simp only [List.map_toArray, List.map_cons, List.map_nil]); first | done | rfl | (simp only [List.length_drop, List.length_take]; rfl)) ?_; (with_reducible refine (laws_eqFileS.calls k _ _ l0_0 _ _ l1_0 false _ ?side1 ?side2 ?side3 ?side4 A3.out).mono ?_); (case side1 => repeat (first | exact (C_below HR0_0.out HB.out) | (with_reducible refine C_alloc ?_ _) | (with_reducible refine C_drewN ?_ _) | (with_reducible refine C_drew ?_))); (case side2 => exact HC0_0.out); (case side3 => repeat (first | exact (C_below HR1_0.out HB.out) | (with_reducible refine C_alloc ?_ _) | (with_reducible refine C_drewN ?_ _) | (with_reducible refine C_drew ?_))); (case side4 => exact HC1_0.out); rintro e w16 ⟨rfl, hb⟩; refine ⟨_, rfl, ?_⟩; have n0_ := Zh (Zm (g := gb231) (o := .cells #[.slice A0_0 l0_0.length c0_0] 28 (0, 0)) Zk hb); have n1_ := Zh (Zm (g := gb232) (o := .cells #[.slice A1_0 l1_0.length c1_0] 28 (0, 0)) Zk hb); have n2_ := Zh (Zl Zs hb); clear BK231; clear BK232; clear HB; have BK231 := n0_; have BK232 := n1_; have HB := n2_; clear n0_ n1_ n2_; (try clear hb); (try clear hb2); (try clear hk); (try clear hi)))
 go_ret
 exact ⟨by first | rfl | (simp [errW_none, errW_some] <;> rfl) | (simp [*, errW_none, errW_some] <;> rfl), by repeat (first | (with_reducible first | exact HB.out | apply Zf | apply Zd | apply Ze | refine Zg ?_ GE231.out | refine Zg ?_ GE232.out) | exact HB.out)⟩
def laws_heldByteS.l0 : Nat → List Int → Int → Int → Option (Int)
 | 0, _, _, _ => none
 | k + 1, x0, x1, x5 => if x5 < (x0.length : Int) then (if 0 ≤ x5 then (if (rd x0 x5) = ((x1) % 256) then (laws_heldByteS.l0 k x0 (wrap64 (x1 + 1)) (wrap64 (x5 + 1))) else (some (-1))) else (none)) else (some x1)
def laws_heldByteS.f (k : Nat) (l0 : List Int) (a1 : Int) : Option (Int) := laws_heldByteS.l0 k l0 a1 0
set_option maxHeartbeats 8000000 in
set_option maxRecDepth 100000 in
theorem laws_heldByteS.calls (k : Nat) (A0 : Option Addr) (c0 : Nat) (l0 : List Int) (a1 : Int) (r : Int) (w : World) (hr0 : Kd.C (Kd.int .u8) w A0 l0.length l0) (hc0 : l0.length ≤ c0) (h : laws_heldByteS.f k l0 a1 = some r) :
  Calls Tryd.prog 53 #[.slice A0 l0.length c0, .int .i64 a1] w fun e w' => e = .returned (.int .i64 r) ∧ Drawn0 w w' := by
 have HR0 := Zh hr0
 have HC0 := Zh hc0
 clear hr0 hc0
 have H : (laws_heldByteS.l0 k l0 a1 0) = some r := h
 clear h
 have H' := Zh H
 clear H
 go_enter Tryd.func53, Tryd.ntmps53
 go_wp2
 go_loopg [1, 5] k (fun kq v1 v5 w' => ∃ (x1_1 : Int) (x5_1 : Int), v1 = .int .i64 x1_1 ∧ v5 = .int .i64 x5_1 ∧ Aside0 (laws_heldByteS.l0 kq l0 x1_1 x5_1 = some r) ∧ Aside0 (kq ≤ k) ∧ Drawn0 w w')
 case atStart => exact ⟨(a1), (0), (by first | rfl | (simp; done) | (simp [*]; done)), (by first | rfl | (simp; done) | (simp [*]; done)), H', ⟨Nat.le_refl _⟩, by repeat (first | exact Drawn0.refl _ | apply Drawn0.step)⟩
 case round =>
  clear H'
  try clear p2
  obtain ⟨x1_1, x5_1, rfl, rfl, HA, HK1, ⟨m1, rfl⟩⟩ := hrel
  cases gk with
  | zero => exact absurd HA.out (by simp [laws_heldByteS.l0])
  | succ k1 =>
   have H := HA.out
   clear HA
   simp only [laws_heldByteS.l0] at H
   by_cases c3 : x5_1 < (l0.length : Int)
   ·
    rw [if_pos c3] at H
    have c3b0 : decide (x5_1 < (l0.length : Int)) = true := decide_eq_true c3
    clear c3
    by_cases c4 : 0 ≤ x5_1
    ·
     rw [if_pos c4] at H
     have c4b0 : decide (0 ≤ x5_1) = true := decide_eq_true c4
     clear c4
     by_cases c5 : (rd l0 x5_1) = ((x1_1) % 256)
     ·
      rw [if_pos c5] at H
      have c5b0 : ((rd l0 x5_1) == ((x1_1) % 256)) = true := beq_iff_eq.mpr c5
      have c5b1 : ((rd l0 x5_1) != ((x1_1) % 256)) = false := bne_eq_false_iff_eq.mpr c5
      clear c5
      have H' := Zh H
      clear H
      have p238 : 0 ≤ (x5_1 : Int) := Zo
      have q238 : x5_1 < (l0.length : Int) := Zo
      obtain ⟨ad238, e238, hx238_0⟩ := Kd.at_int HR0.out x5_1 p238 q238
      cases e238
      replace p238 := eq_true p238
      replace q238 := eq_true q238
      go_wp2
      go_roundg k1
      case measure => have := HK1.out; omega
      case rel => exact ⟨(wrap64 (x1_1 + 1)), (wrap64 (x5_1 + 1)), (by first | rfl | (simp; done) | (simp [*]; done)), (by first | rfl | (simp; done) | (simp [*]; done)), H', ⟨by have := HK1.out; omega⟩, by repeat (first | exact Drawn0.refl _ | apply Drawn0.step)⟩
     rw [if_neg c5] at H
     have c5b0 : ((rd l0 x5_1) == ((x1_1) % 256)) = false := beq_eq_false_iff_ne.mpr c5
     have c5b1 : ((rd l0 x5_1) != ((x1_1) % 256)) = true := bne_iff_ne.mpr c5
     obtain rfl := Option.some.inj H
     have p238 : 0 ≤ (x5_1 : Int) := Zo
     have q238 : x5_1 < (l0.length : Int) := Zo
     obtain ⟨ad238, e238, hx238_0⟩ := Kd.at_int HR0.out x5_1 p238 q238
     cases e238
     replace p238 := eq_true p238
     replace q238 := eq_true q238
     go_wp2
     go_ret
     exact ⟨by first | rfl | (simp; done) | (simp [*]; done), by repeat (first | exact Drawn0.refl _ | apply Drawn0.step)⟩
    rw [if_neg c4] at H
    exact absurd H (by simp)
   rw [if_neg c3] at H
   have c3b0 : decide (x5_1 < (l0.length : Int)) = false := decide_eq_false c3
   clear c3
   obtain rfl := Option.some.inj H
   go_wp2
   go_ret
   exact ⟨by first | rfl | (simp; done) | (simp [*]; done), by repeat (first | exact Drawn0.refl _ | apply Drawn0.step)⟩
def laws_markText.l0 : Nat → Int → ByteArray → Option (ByteArray)
 | 0, _, _ => none
 | k + 1, x0, x3 => if x0 > 0 then ((some (([(wrap64 (48 + (Int.tmod x0 10))) % 256] : List Int) : List Int)).bind fun y235 => (if (strOfNums y235).size + x3.size ≤ 9223372036854775807 then (laws_markText.l0 k (wrap64 (Int.tdiv x0 10)) ((strOfNums y235) ++ x3)) else (none))) else (if 1 + x3.size ≤ 9223372036854775807 then (some ((⟨#[109]⟩ : ByteArray) ++ x3)) else (none))
def laws_markText.f (k : Nat) (a0 : Int) : Option (ByteArray) := if a0 ≤ 0 then (some (⟨#[109, 48]⟩ : ByteArray)) else (laws_markText.l0 k a0 (⟨#[]⟩ : ByteArray))
set_option maxHeartbeats 8000000 in
set_option maxRecDepth 100000 in
theorem laws_markText.calls (k : Nat) (a0 : Int) (r : ByteArray) (w : World) (h : laws_markText.f k a0 = some r) :
  Calls Tryd.prog 80 #[.int .i64 a0] w fun e w' => e = .returned (.string r) ∧ Below w.heap.size w w' := by
 have HB := Zh (Below.refl w.heap.size w)
 have H : (if a0 ≤ 0 then (some (⟨#[109, 48]⟩ : ByteArray)) else (laws_markText.l0 k a0 (⟨#[]⟩ : ByteArray))) = some r := h
 clear h
 by_cases c2 : a0 ≤ 0
 ·
  rw [if_pos c2] at H
  have c2b0 : decide (a0 ≤ 0) = true := decide_eq_true c2
  clear c2
  obtain rfl := Option.some.inj H
  go_enter Tryd.func80, Tryd.ntmps80
  go_wp2
  go_ret
  exact ⟨by first | rfl | (simp [errW_none, errW_some] <;> rfl) | (simp [*, errW_none, errW_some] <;> rfl), by repeat (first | (with_reducible first | exact HB.out | apply Zf | apply Zd | apply Ze) | exact HB.out)⟩
 rw [if_neg c2] at H
 have c2b0 : decide (a0 ≤ 0) = false := decide_eq_false c2
 clear c2
 have H' := Zh H
 clear H
 go_enter Tryd.func80, Tryd.ntmps80
 go_wp2
 go_loopg [0, 3] k (fun kq v0 v3 w' => ∃ (x0_1 : Int) (x3_1 : ByteArray), v0 = .int .i64 x0_1 ∧ v3 = .string x3_1 ∧ Aside0 (laws_markText.l0 kq x0_1 x3_1 = some r) ∧ Aside0 (kq ≤ k) ∧ Aside0 (Below w.heap.size w w'))
 case atStart => exact ⟨(a0), ((⟨#[]⟩ : ByteArray)), (by first | rfl | (simp; done) | (simp [*]; done)), (by first | rfl | (simp; done) | (simp [*]; done)), H', ⟨Nat.le_refl _⟩, ⟨by repeat (first | (with_reducible first | exact HB.out | apply Zf | apply Zd | apply Ze) | exact HB.out)⟩⟩
 case round =>
  clear H'
  try clear c2
  try clear c2b0
  try clear p2
  obtain ⟨x0_1, x3_1, rfl, rfl, HA, HK1, HB⟩ := hrel
  cases gk with
  | zero => exact absurd HA.out (by simp [laws_markText.l0])
  | succ k1 =>
   have H := HA.out
   clear HA
   simp only [laws_markText.l0] at H
   by_cases c3 : x0_1 > 0
   ·
    rw [if_pos c3] at H
    have c3b0 : decide (0 < x0_1) = true := decide_eq_true c3
    clear c3
    obtain ⟨y235, hy235⟩ : ∃ y_ : List Int, y_ = (([(wrap64 (48 + (Int.tmod x0_1 10))) % 256] : List Int)) := ⟨_, rfl⟩
    replace H : (if (strOfNums y235).size + x3_1.size ≤ 9223372036854775807 then (laws_markText.l0 k1 (wrap64 (Int.tdiv x0_1 10)) ((strOfNums y235) ++ x3_1)) else (none)) = some r := by first | (rw [hy235]; with_reducible exact H) | (have H2_ := (Option.bind_some _ _).symm.trans H; rw [hy235]; with_reducible exact H2_) | (have H2_ := (Option.bind_some _ _).symm.trans H; with_reducible exact H2_) | with_reducible exact H | (rw [hy235]; exact H) | exact H
    have Ny235 := Zh hy235
    clear hy235
    by_cases c4 : (strOfNums y235).size + x3_1.size ≤ 9223372036854775807
    ·
     rw [if_pos c4] at H
     have c4b0 := eq_true c4
     have c4b1 : decide ((strOfNums y235).size + x3_1.size ≤ 9223372036854775807) = true := decide_eq_true c4
     try have c4b2 : (9223372036854775807 < (strOfNums y235).size + x3_1.size) = False := eq_false (Nat.not_lt.2 c4)
     have H' := Zh H
     clear H
     go_wp2_with (first | ((with_reducible refine gate_dst (N := 12) rfl ?_); refine R_lit (Kd.int .u8) _ 5 ?hg (N := 12) ?hd (xs := ([(wrap64 (48 + (Int.tmod x0_1 10))) % 256] : List Int)) (inner := [.int .u8 ((wrap64 (48 + (Int.tmod x0_1 10))) % 256)]) (ok := fun _ => True) (okp := fun _ => True) ?hr ?hp (fun _ hk => hk) trivial (Below.refl _ _) (Nat.le_refl _) (by simp) ?_; (case hd => rfl); (case hg => rfl); (case hr => first | (go_simp; done) | (go_simp; rfl)); (case hp => exact (Reps.one (show Kd.M (Kd.int .u8) _ _ _ ((wrap64 (48 + (Int.tmod x0_1 10))) % 256) [.int .u8 ((wrap64 (48 + (Int.tmod x0_1 10))) % 256)] from rfl) (Reps.none _ _))); intro v236 w5 ho6 hb hg_ hnew_; clear hg_ hnew_; (first | rw [← Ny235.out] at ho6 | (simp only [Int.reduceToNat] at ho6; rw [← Ny235.out] at ho6)); have n0_ := Zh (R_lower ho6 (below_size Zs)); have n1_ := Zh (Zl Zs hb); clear HB; have HO237 := n0_; have HB := n1_; clear n0_ n1_; clear hb ho6; have hcv7 := own_string (P := Tryd.prog) Tryd.underlying41 Tryd.underlying5 Tryd.underlying9 (Kd.own_of_R HO237.out); have hcv8 := fun (nq_ : Nat) => own_string (P := Tryd.prog) Tryd.underlying41 Tryd.underlying5 Tryd.underlying9 (Kd.own_of_R (R_drewN HO237.out nq_))))
     go_roundg k1
     case measure => have := HK1.out; omega
     case rel => exact ⟨(wrap64 (Int.tdiv x0_1 10)), ((strOfNums y235) ++ x3_1), (by first | rfl | (simp; done) | (simp [*]; done)), (by first | rfl | (simp; done) | (simp [*]; done)), H', ⟨by have := HK1.out; omega⟩, ⟨by repeat (first | (with_reducible first | exact HB.out | apply Zf | apply Zd | apply Ze) | exact HB.out)⟩⟩
    rw [if_neg c4] at H
    exact absurd H (by simp)
   rw [if_neg c3] at H
   have c3b0 : decide (0 < x0_1) = false := decide_eq_false c3
   clear c3
   by_cases c9 : 1 + x3_1.size ≤ 9223372036854775807
   ·
    rw [if_pos c9] at H
    have c9b0 := eq_true c9
    have c9b1 : decide (1 + x3_1.size ≤ 9223372036854775807) = true := decide_eq_true c9
    try have c9b2 : (9223372036854775807 < 1 + x3_1.size) = False := eq_false (Nat.not_lt.2 c9)
    obtain rfl := Option.some.inj H
    go_wp2
    go_ret
    exact ⟨by first | rfl | (simp [errW_none, errW_some] <;> rfl) | (simp [*, errW_none, errW_some] <;> rfl), by repeat (first | (with_reducible first | exact HB.out | apply Zf | apply Zd | apply Ze) | exact HB.out)⟩
   rw [if_neg c9] at H
   exact absurd H (by simp)
end Go.Proofs.YtcgojdhbphocgaaDoor.F

namespace Go.Proofs.YtcgojdhbphocgaaDoor.F
open Go.Proofs.YtcgojdhbphocgaaDoor
open Go.RowKit Go.Proofs.YtcgojdhbphocgaaDoorW.PrintWords Go.Proofs.YtcgojdhbphocgaaDoorW.PrintWords.Kd Go.Proofs.YtcgojdhbphocgaaDoorW.PrintMore.Kd Go.Proofs.YtcgojdhbphocgaaDoorW.PrintLast Go.Proofs.YtcgojdhbphocgaaDoorW.PrintMore
attribute [local go_sem] max2_int min2_int max_two min_two max_three min_three max_four min_four   -- for this text's walks alone
set_option linter.unusedVariables false
set_option linter.unusedSimpArgs false
def laws_heldFileS.l0 : Nat → List (S55) → Int → Int → Option (Int)
 | 0, _, _, _ => none
 | k + 1, x0, x1, x5 => if x5 < (x0.length : Int) then (if 0 ≤ x5 then ((laws_markText.f k x1).bind fun t240 => (if ((rd_T55 x0 x5).f0).toList = t240.toList then ((laws_heldByteS.f k ((rd_T55 x0 x5).f1) (wrap64 (x1 + 1))).bind fun t242 => (if t242 < 0 then (some (-1)) else ((laws_heldByteS.f k ((rd_T55 x0 x5).f2) t242).bind fun t244 => (if t244 < 0 then (some (-1)) else (laws_heldFileS.l0 k x0 t244 (wrap64 (x5 + 1))))))) else (some (-1)))) else (none)) else (some x1)
def laws_heldFileS.f (k : Nat) (l0 : List (S55)) (a1 : Int) : Option (Int) := laws_heldFileS.l0 k l0 a1 0
def laws_heldFileS.T4 : Bool × List (List Nat × List Nat) := (true, [([], []), ([], []), ([0, 1], [0, 1]), ([2], [2]), ([3], [3]), ([], []), ([5], [5]), ([4, 6], [4, 6])])
def laws_heldFileS.B4 : List Nat := [0, 0, 3, 7, 15, 0, 32, 127]
theorem laws_heldFileS.tab4 : rtab .any (opsOf Tryd.f48 4) = laws_heldFileS.T4 := by kernel_rfl
theorem laws_heldFileS.bits4 : waitsOk laws_heldFileS.T4.2 laws_heldFileS.B4 = true := by kernel_rfl
set_option maxHeartbeats 8000000 in
set_option maxRecDepth 100000 in
theorem laws_heldFileS.calls (k : Nat) (A0 : Option Addr) (c0 : Nat) (l0 : List (S55)) (a1 : Int) (r : Int) (w : World) (hr0 : Kd.C k55 w A0 l0.length l0) (hc0 : l0.length ≤ c0) (h : laws_heldFileS.f k l0 a1 = some r) :
  Calls Tryd.prog 48 #[.slice A0 l0.length c0, .int .i64 a1] w fun e w' => e = .returned (.int .i64 r) ∧ Below w.heap.size w w' := by
 have HR0 := Zh hr0
 have HC0 := Zh hc0
 clear hr0 hc0
 have HB := Zh (Below.refl w.heap.size w)
 have H : (laws_heldFileS.l0 k l0 a1 0) = some r := h
 clear h
 have H' := Zh H
 clear H
 go_enter Tryd.func48, Tryd.ntmps48
 go_wp2
 go_loopg [1, 5] k (fun kq v1 v5 w' => ∃ (x1_1 : Int) (x5_1 : Int), v1 = .int .i64 x1_1 ∧ v5 = .int .i64 x5_1 ∧ Aside0 (laws_heldFileS.l0 kq l0 x1_1 x5_1 = some r) ∧ Aside0 (kq ≤ k) ∧ Aside0 (Below w.heap.size w w'))
 case atStart => exact ⟨(a1), (0), (by first | rfl | (simp; done) | (simp [*]; done)), (by first | rfl | (simp; done) | (simp [*]; done)), H', ⟨Nat.le_refl _⟩, ⟨by repeat (first | (with_reducible first | exact HB.out | apply Zf | apply Zd | apply Ze) | exact HB.out)⟩⟩
 case round =>
  clear H'
  try clear p2
  obtain ⟨x1_1, x5_1, rfl, rfl, HA, HK1, HB⟩ := hrel
  cases gk with
  | zero => exact absurd HA.out (by simp [laws_heldFileS.l0])
  | succ k1 =>
   have H := HA.out
   clear HA
   simp only [laws_heldFileS.l0] at H
   by_cases c3 : x5_1 < (l0.length : Int)
   ·
    rw [if_pos c3] at H
    have c3b0 : decide (x5_1 < (l0.length : Int)) = true := decide_eq_true c3
    clear c3
    by_cases c4 : 0 ≤ x5_1
    ·
     rw [if_pos c4] at H
     have c4b0 : decide (0 ≤ x5_1) = true := decide_eq_true c4
     clear c4
     replace H := Option.bind_eq_some_iff.mp H
     obtain ⟨t240, A50, H⟩ := H
     replace H : (if ((rd_T55 l0 x5_1).f0).toList = t240.toList then ((laws_heldByteS.f k1 ((rd_T55 l0 x5_1).f1) (wrap64 (x1_1 + 1))).bind fun t242 => (if t242 < 0 then (some (-1)) else ((laws_heldByteS.f k1 ((rd_T55 l0 x5_1).f2) t242).bind fun t244 => (if t244 < 0 then (some (-1)) else (laws_heldFileS.l0 k1 l0 t244 (wrap64 (x5_1 + 1))))))) else (some (-1))) = some r := H
     have A5 := Zh A50
     clear A50
     by_cases c6 : ((rd_T55 l0 x5_1).f0).toList = t240.toList
     ·
      rw [if_pos c6] at H
      have c6b0 : (((rd_T55 l0 x5_1).f0).toList == t240.toList) = true := beq_iff_eq.mpr c6
      have c6b1 : (((rd_T55 l0 x5_1).f0).toList != t240.toList) = false := bne_eq_false_iff_eq.mpr c6
      clear c6
      replace H := Option.bind_eq_some_iff.mp H
      obtain ⟨t242, A70, H⟩ := H
      replace H : (if t242 < 0 then (some (-1)) else ((laws_heldByteS.f k1 ((rd_T55 l0 x5_1).f2) t242).bind fun t244 => (if t244 < 0 then (some (-1)) else (laws_heldFileS.l0 k1 l0 t244 (wrap64 (x5_1 + 1)))))) = some r := H
      have A7 := Zh A70
      clear A70
      by_cases c8 : t242 < 0
      ·
       rw [if_pos c8] at H
       have c8b0 : decide (t242 < 0) = true := decide_eq_true c8
       clear c8
       obtain rfl := Option.some.inj H
       try go_wp2
       have n0_ := Zh (Ze HB.out)
       clear HB
       have HB := n0_
       clear n0_
       have p239 : 0 ≤ (x5_1 : Int) := Zo
       have q239 : x5_1 < (l0.length : Int) := Zo
       obtain ⟨ad239, A239_1, c239_1, A239_2, c239_2, e239, hx239_0, hx239_1, hx239_2, hl239_1, hi239_1, hl239_2, hi239_2⟩ := at_T55 HR0.out x5_1 p239 q239
       have hw239_2 := hx239_2
       have hw239_1 := hx239_1
       have hw239_0 := hx239_0
       cases e239
       replace hx239_0 := Zc HB.out hx239_0
       replace hx239_1 := Zc HB.out hx239_1
       replace hx239_2 := Zc HB.out hx239_2
       have HR239_1 := Zh hi239_1
       have HC239_1 := Zh hl239_1
       clear hi239_1 hl239_1
       have HR239_2 := Zh hi239_2
       have HC239_2 := Zh hl239_2
       clear hi239_2 hl239_2
       replace p239 := eq_true p239
       replace q239 := eq_true q239
       refine start_ (n := 8) (S := fun w' => w'.cell? (ad239.add ((x5_1).toNat * 3)) = some (.string ((rd_T55 l0 x5_1).f0)) ∧ w'.cell? ⟨(ad239.add ((x5_1).toNat * 3)).block, (ad239.add ((x5_1).toNat * 3)).off + 1, none⟩ = some (.slice A239_1 ((rd_T55 l0 x5_1).f1).length c239_1) ∧ w'.cell? ⟨(ad239.add ((x5_1).toNat * 3)).block, (ad239.add ((x5_1).toNat * 3)).off + 2, none⟩ = some (.slice A239_2 ((rd_T55 l0 x5_1).f2).length c239_2)) (ds := []) #[false, false, false, false, false, false, false, false] (by kernel_rfl) rfl rfl ⟨((HB.out.cell (Zi w _ hw239_0)).trans hw239_0), ((HB.out.cell (Zi w _ hw239_1)).trans hw239_1), ((HB.out.cell (Zi w _ hw239_2)).trans hw239_2)⟩ (fun hHeld => ?_); refine with_tabW laws_heldFileS.tab4 laws_heldFileS.bits4 (fun HT_ HW_ => ?_)
       generalize wr.drew = w9 at HB HR239_1 HR239_2 hx239_0 hx239_1 hx239_2 hHeld ⊢
       refine SQ.pu 0 12 HT_ ?_
       refine SQ.pu 1 13 HT_ ?_
       refine SQ.pu 2 14 HT_ ?_
       refine SQ.pu 3 15 HT_ ?_
       refine SQ.pu 5 17 HT_ ?_
       refine SQ.tk 4 16 HT_ HW_ hHeld ?_
       refine one_ (i := 6) (N := some 18) #[true, true, true, true, true, true, true, false] rfl rfl (one_of HT_.out (by kernel_rfl)) (by decide) (fun K hK => ?_)
       refine goes_ Tryd.func80 (by kernel_rfl) rfl #[.int .i64 x1_1] (by rfl) rfl rfl (by (try simp only [List.map_toArray, List.map_cons, List.map_nil]); first | done | rfl | (simp only [List.length_drop, List.length_take]; rfl)) ?_
       with_reducible refine (laws_markText.calls k1 x1_1 t240 _ A5.out).mono ?_
       rintro e w10 ⟨rfl, hb⟩
       refine ⟨_, rfl, ?_⟩
       have n0_ := Zh (Zl Zs hb)
       clear HB
       have HB := n0_
       clear n0_
       (try clear hb)
       (try clear hb2)
       (try clear hk)
       (try clear hi)
       refine hK.out _ _ ⟨((HB.out.cell (Zi w _ hw239_0)).trans hw239_0), ((HB.out.cell (Zi w _ hw239_1)).trans hw239_1), ((HB.out.cell (Zi w _ hw239_2)).trans hw239_2)⟩ (fun hHeld => ?_)
       clear hK K
       refine norm_ (a' := ?_) ?_ ?_
       rotate_left
       ·
        show Act.put _ (some 18) _ = _
        simp only [Act.put, List.setIfInBounds_toArray, List.set_cons_zero, List.set_cons_succ, i64_w, i32_w]
        rfl
       refine SQ.pu 7 19 HT_ ?_
       refine done_ (done_of HT_.out (by kernel_rfl)) ?_
       have p241 : 0 ≤ (x5_1 : Int) := Zo
       have q241 : x5_1 < (l0.length : Int) := Zo
       obtain ⟨ad241, A241_1, c241_1, A241_2, c241_2, e241, hx241_0, hx241_1, hx241_2, hl241_1, hi241_1, hl241_2, hi241_2⟩ := at_T55 HR0.out x5_1 p241 q241
       obtain rfl : ad239 = ad241 := (by injection e241)
       (try clear hx239_0); (try clear hx239_1); (try clear hx239_2); (try clear hx239_3); (try clear hHeld)
       replace hx241_0 := Zc HB.out hx241_0
       replace hx241_1 := Zc HB.out hx241_1
       replace hx241_2 := Zc HB.out hx241_2
       have HR241_1 := Zh hi241_1
       have HC241_1 := Zh hl241_1
       clear hi241_1 hl241_1
       have HR241_2 := Zh hi241_2
       have HC241_2 := Zh hl241_2
       clear hi241_2 hl241_2
       replace p241 := eq_true p241
       replace q241 := eq_true q241
       try go_wp2_with (first | ((with_reducible refine gate_callee (f := 53) rfl ?_); refine goesL_ (some 28) rfl rfl Tryd.func53 (by kernel_rfl) rfl #[.slice A241_1 ((rd_T55 l0 x5_1).f1).length c241_1, .int .i64 (wrap64 (x1_1 + 1))] rfl (by (try simp only [List.map_toArray, List.map_cons, List.map_nil]); first | done | rfl | (simp only [List.length_drop, List.length_take]; rfl)) ?_; (with_reducible refine (laws_heldByteS.calls k1 _ _ ((rd_T55 l0 x5_1).f1) (wrap64 (x1_1 + 1)) t242 _ ?side1 ?side2 A7.out).mono ?_); (case side1 => repeat (first | exact (C_below HR241_1.out HB.out) | (with_reducible refine C_alloc ?_ _) | (with_reducible refine C_drewN ?_ _) | (with_reducible refine C_drew ?_))); (case side2 => exact HC241_1.out); rintro e w' ⟨rfl, ⟨nd, rfl⟩⟩; refine ⟨_, rfl, ?_⟩))
       go_ret
       exact ⟨by first | rfl | (simp [errW_none, errW_some] <;> rfl) | (simp [*, errW_none, errW_some] <;> rfl), by repeat (first | (with_reducible first | exact HB.out | apply Zf | apply Zd | apply Ze) | exact HB.out)⟩
      rw [if_neg c8] at H
      have c8b0 : decide (t242 < 0) = false := decide_eq_false c8
      clear c8
      replace H := Option.bind_eq_some_iff.mp H
      obtain ⟨t244, A110, H⟩ := H
      replace H : (if t244 < 0 then (some (-1)) else (laws_heldFileS.l0 k1 l0 t244 (wrap64 (x5_1 + 1)))) = some r := H
      have A11 := Zh A110
      clear A110
      by_cases c12 : t244 < 0
      ·
       rw [if_pos c12] at H
       have c12b0 : decide (t244 < 0) = true := decide_eq_true c12
       clear c12
       obtain rfl := Option.some.inj H
       try go_wp2
       have n0_ := Zh (Ze HB.out)
       clear HB
       have HB := n0_
       clear n0_
       have p239 : 0 ≤ (x5_1 : Int) := Zo
       have q239 : x5_1 < (l0.length : Int) := Zo
       obtain ⟨ad239, A239_1, c239_1, A239_2, c239_2, e239, hx239_0, hx239_1, hx239_2, hl239_1, hi239_1, hl239_2, hi239_2⟩ := at_T55 HR0.out x5_1 p239 q239
       have hw239_2 := hx239_2
       have hw239_1 := hx239_1
       have hw239_0 := hx239_0
       cases e239
       replace hx239_0 := Zc HB.out hx239_0
       replace hx239_1 := Zc HB.out hx239_1
       replace hx239_2 := Zc HB.out hx239_2
       have HR239_1 := Zh hi239_1
       have HC239_1 := Zh hl239_1
       clear hi239_1 hl239_1
       have HR239_2 := Zh hi239_2
       have HC239_2 := Zh hl239_2
       clear hi239_2 hl239_2
       replace p239 := eq_true p239
       replace q239 := eq_true q239
       refine start_ (n := 8) (S := fun w' => w'.cell? (ad239.add ((x5_1).toNat * 3)) = some (.string ((rd_T55 l0 x5_1).f0)) ∧ w'.cell? ⟨(ad239.add ((x5_1).toNat * 3)).block, (ad239.add ((x5_1).toNat * 3)).off + 1, none⟩ = some (.slice A239_1 ((rd_T55 l0 x5_1).f1).length c239_1) ∧ w'.cell? ⟨(ad239.add ((x5_1).toNat * 3)).block, (ad239.add ((x5_1).toNat * 3)).off + 2, none⟩ = some (.slice A239_2 ((rd_T55 l0 x5_1).f2).length c239_2)) (ds := []) #[false, false, false, false, false, false, false, false] (by kernel_rfl) rfl rfl ⟨((HB.out.cell (Zi w _ hw239_0)).trans hw239_0), ((HB.out.cell (Zi w _ hw239_1)).trans hw239_1), ((HB.out.cell (Zi w _ hw239_2)).trans hw239_2)⟩ (fun hHeld => ?_); refine with_tabW laws_heldFileS.tab4 laws_heldFileS.bits4 (fun HT_ HW_ => ?_)
       generalize wr.drew = w13 at HB HR239_1 HR239_2 hx239_0 hx239_1 hx239_2 hHeld ⊢
       refine SQ.pu 0 12 HT_ ?_
       refine SQ.pu 1 13 HT_ ?_
       refine SQ.pu 2 14 HT_ ?_
       refine SQ.pu 3 15 HT_ ?_
       refine SQ.pu 5 17 HT_ ?_
       refine SQ.tk 4 16 HT_ HW_ hHeld ?_
       refine one_ (i := 6) (N := some 18) #[true, true, true, true, true, true, true, false] rfl rfl (one_of HT_.out (by kernel_rfl)) (by decide) (fun K hK => ?_)
       refine goes_ Tryd.func80 (by kernel_rfl) rfl #[.int .i64 x1_1] (by rfl) rfl rfl (by (try simp only [List.map_toArray, List.map_cons, List.map_nil]); first | done | rfl | (simp only [List.length_drop, List.length_take]; rfl)) ?_
       with_reducible refine (laws_markText.calls k1 x1_1 t240 _ A5.out).mono ?_
       rintro e w14 ⟨rfl, hb⟩
       refine ⟨_, rfl, ?_⟩
       have n0_ := Zh (Zl Zs hb)
       clear HB
       have HB := n0_
       clear n0_
       (try clear hb)
       (try clear hb2)
       (try clear hk)
       (try clear hi)
       refine hK.out _ _ ⟨((HB.out.cell (Zi w _ hw239_0)).trans hw239_0), ((HB.out.cell (Zi w _ hw239_1)).trans hw239_1), ((HB.out.cell (Zi w _ hw239_2)).trans hw239_2)⟩ (fun hHeld => ?_)
       clear hK K
       refine norm_ (a' := ?_) ?_ ?_
       rotate_left
       ·
        show Act.put _ (some 18) _ = _
        simp only [Act.put, List.setIfInBounds_toArray, List.set_cons_zero, List.set_cons_succ, i64_w, i32_w]
        rfl
       refine SQ.pu 7 19 HT_ ?_
       refine done_ (done_of HT_.out (by kernel_rfl)) ?_
       have p241 : 0 ≤ (x5_1 : Int) := Zo
       have q241 : x5_1 < (l0.length : Int) := Zo
       obtain ⟨ad241, A241_1, c241_1, A241_2, c241_2, e241, hx241_0, hx241_1, hx241_2, hl241_1, hi241_1, hl241_2, hi241_2⟩ := at_T55 HR0.out x5_1 p241 q241
       obtain rfl : ad239 = ad241 := (by injection e241)
       (try clear hx239_0); (try clear hx239_1); (try clear hx239_2); (try clear hx239_3); (try clear hHeld)
       replace hx241_0 := Zc HB.out hx241_0
       replace hx241_1 := Zc HB.out hx241_1
       replace hx241_2 := Zc HB.out hx241_2
       have HR241_1 := Zh hi241_1
       have HC241_1 := Zh hl241_1
       clear hi241_1 hl241_1
       have HR241_2 := Zh hi241_2
       have HC241_2 := Zh hl241_2
       clear hi241_2 hl241_2
       replace p241 := eq_true p241
       replace q241 := eq_true q241
       try go_wp2_with (first | ((with_reducible refine gate_callee (f := 53) rfl ?_); refine goesL_ (some 28) rfl rfl Tryd.func53 (by kernel_rfl) rfl #[.slice A241_1 ((rd_T55 l0 x5_1).f1).length c241_1, .int .i64 (wrap64 (x1_1 + 1))] rfl (by (try simp only [List.map_toArray, List.map_cons, List.map_nil]); first | done | rfl | (simp only [List.length_drop, List.length_take]; rfl)) ?_; (with_reducible refine (laws_heldByteS.calls k1 _ _ ((rd_T55 l0 x5_1).f1) (wrap64 (x1_1 + 1)) t242 _ ?side1 ?side2 A7.out).mono ?_); (case side1 => repeat (first | exact (C_below HR241_1.out HB.out) | (with_reducible refine C_alloc ?_ _) | (with_reducible refine C_drewN ?_ _) | (with_reducible refine C_drew ?_))); (case side2 => exact HC241_1.out); rintro e w' ⟨rfl, ⟨nd, rfl⟩⟩; refine ⟨_, rfl, ?_⟩; have p243 : 0 ≤ (x5_1 : Int) := Zo; have q243 : x5_1 < (l0.length : Int) := Zo; obtain ⟨ad243, A243_1, c243_1, A243_2, c243_2, e243, hx243_0, hx243_1, hx243_2, hl243_1, hi243_1, hl243_2, hi243_2⟩ := at_T55 HR0.out x5_1 p243 q243; obtain rfl : ad239 = ad243 := (by injection e243); replace hx243_0 := Zc HB.out hx243_0; replace hx243_1 := Zc HB.out hx243_1; replace hx243_2 := Zc HB.out hx243_2; have HR243_1 := Zh hi243_1; have HC243_1 := Zh hl243_1; clear hi243_1 hl243_1; have HR243_2 := Zh hi243_2; have HC243_2 := Zh hl243_2; clear hi243_2 hl243_2; replace p243 := eq_true p243; replace q243 := eq_true q243; have ea_ := Option.some.inj (hx241_1.symm.trans hx243_1); injection ea_ with ea_ en_ ec_; subst ea_; subst ec_; clear en_; have ea_ := Option.some.inj (hx241_2.symm.trans hx243_2); injection ea_ with ea_ en_ ec_; subst ea_; subst ec_; clear en_) | ((with_reducible refine gate_callee (f := 53) rfl ?_); refine goesL_ (some 37) rfl rfl Tryd.func53 (by kernel_rfl) rfl #[.slice A241_2 ((rd_T55 l0 x5_1).f2).length c241_2, .int .i64 t242] rfl (by (try simp only [List.map_toArray, List.map_cons, List.map_nil]); first | done | rfl | (simp only [List.length_drop, List.length_take]; rfl)) ?_; (with_reducible refine (laws_heldByteS.calls k1 _ _ ((rd_T55 l0 x5_1).f2) t242 t244 _ ?side1 ?side2 A11.out).mono ?_); (case side1 => repeat (first | exact (C_below HR243_2.out Zs) | (with_reducible refine C_alloc ?_ _) | (with_reducible refine C_drewN ?_ _) | (with_reducible refine C_drew ?_))); (case side2 => exact HC243_2.out); rintro e w' ⟨rfl, ⟨nd, rfl⟩⟩; refine ⟨_, rfl, ?_⟩))
       go_ret
       exact ⟨by first | rfl | (simp [errW_none, errW_some] <;> rfl) | (simp [*, errW_none, errW_some] <;> rfl), by repeat (first | (with_reducible first | exact HB.out | apply Zf | apply Zd | apply Ze) | exact HB.out)⟩
      rw [if_neg c12] at H
      have c12b0 : decide (t244 < 0) = false := decide_eq_false c12
      clear c12
      have H' := Zh H
      clear H
      try go_wp2
      have n0_ := Zh (Ze HB.out)
      clear HB
      have HB := n0_
      clear n0_
      have p239 : 0 ≤ (x5_1 : Int) := Zo
      have q239 : x5_1 < (l0.length : Int) := Zo
      obtain ⟨ad239, A239_1, c239_1, A239_2, c239_2, e239, hx239_0, hx239_1, hx239_2, hl239_1, hi239_1, hl239_2, hi239_2⟩ := at_T55 HR0.out x5_1 p239 q239
      have hw239_2 := hx239_2
      have hw239_1 := hx239_1
      have hw239_0 := hx239_0
      cases e239
      replace hx239_0 := Zc HB.out hx239_0
      replace hx239_1 := Zc HB.out hx239_1
      replace hx239_2 := Zc HB.out hx239_2
      have HR239_1 := Zh hi239_1
      have HC239_1 := Zh hl239_1
      clear hi239_1 hl239_1
      have HR239_2 := Zh hi239_2
      have HC239_2 := Zh hl239_2
      clear hi239_2 hl239_2
      replace p239 := eq_true p239
      replace q239 := eq_true q239
      refine start_ (n := 8) (S := fun w' => w'.cell? (ad239.add ((x5_1).toNat * 3)) = some (.string ((rd_T55 l0 x5_1).f0)) ∧ w'.cell? ⟨(ad239.add ((x5_1).toNat * 3)).block, (ad239.add ((x5_1).toNat * 3)).off + 1, none⟩ = some (.slice A239_1 ((rd_T55 l0 x5_1).f1).length c239_1) ∧ w'.cell? ⟨(ad239.add ((x5_1).toNat * 3)).block, (ad239.add ((x5_1).toNat * 3)).off + 2, none⟩ = some (.slice A239_2 ((rd_T55 l0 x5_1).f2).length c239_2)) (ds := []) #[false, false, false, false, false, false, false, false] (by kernel_rfl) rfl rfl ⟨((HB.out.cell (Zi w _ hw239_0)).trans hw239_0), ((HB.out.cell (Zi w _ hw239_1)).trans hw239_1), ((HB.out.cell (Zi w _ hw239_2)).trans hw239_2)⟩ (fun hHeld => ?_); refine with_tabW laws_heldFileS.tab4 laws_heldFileS.bits4 (fun HT_ HW_ => ?_)
      generalize wr.drew = w15 at HB HR239_1 HR239_2 hx239_0 hx239_1 hx239_2 hHeld ⊢
      refine SQ.pu 0 12 HT_ ?_
      refine SQ.pu 1 13 HT_ ?_
      refine SQ.pu 2 14 HT_ ?_
      refine SQ.pu 3 15 HT_ ?_
      refine SQ.pu 5 17 HT_ ?_
      refine SQ.tk 4 16 HT_ HW_ hHeld ?_
      refine one_ (i := 6) (N := some 18) #[true, true, true, true, true, true, true, false] rfl rfl (one_of HT_.out (by kernel_rfl)) (by decide) (fun K hK => ?_)
      refine goes_ Tryd.func80 (by kernel_rfl) rfl #[.int .i64 x1_1] (by rfl) rfl rfl (by (try simp only [List.map_toArray, List.map_cons, List.map_nil]); first | done | rfl | (simp only [List.length_drop, List.length_take]; rfl)) ?_
      with_reducible refine (laws_markText.calls k1 x1_1 t240 _ A5.out).mono ?_
      rintro e w16 ⟨rfl, hb⟩
      refine ⟨_, rfl, ?_⟩
      have n0_ := Zh (Zl Zs hb)
      clear HB
      have HB := n0_
      clear n0_
      (try clear hb)
      (try clear hb2)
      (try clear hk)
      (try clear hi)
      refine hK.out _ _ ⟨((HB.out.cell (Zi w _ hw239_0)).trans hw239_0), ((HB.out.cell (Zi w _ hw239_1)).trans hw239_1), ((HB.out.cell (Zi w _ hw239_2)).trans hw239_2)⟩ (fun hHeld => ?_)
      clear hK K
      refine norm_ (a' := ?_) ?_ ?_
      rotate_left
      ·
       show Act.put _ (some 18) _ = _
       simp only [Act.put, List.setIfInBounds_toArray, List.set_cons_zero, List.set_cons_succ, i64_w, i32_w]
       rfl
      refine SQ.pu 7 19 HT_ ?_
      refine done_ (done_of HT_.out (by kernel_rfl)) ?_
      have p241 : 0 ≤ (x5_1 : Int) := Zo
      have q241 : x5_1 < (l0.length : Int) := Zo
      obtain ⟨ad241, A241_1, c241_1, A241_2, c241_2, e241, hx241_0, hx241_1, hx241_2, hl241_1, hi241_1, hl241_2, hi241_2⟩ := at_T55 HR0.out x5_1 p241 q241
      obtain rfl : ad239 = ad241 := (by injection e241)
      (try clear hx239_0); (try clear hx239_1); (try clear hx239_2); (try clear hx239_3); (try clear hHeld)
      replace hx241_0 := Zc HB.out hx241_0
      replace hx241_1 := Zc HB.out hx241_1
      replace hx241_2 := Zc HB.out hx241_2
      have HR241_1 := Zh hi241_1
      have HC241_1 := Zh hl241_1
      clear hi241_1 hl241_1
      have HR241_2 := Zh hi241_2
      have HC241_2 := Zh hl241_2
      clear hi241_2 hl241_2
      replace p241 := eq_true p241
      replace q241 := eq_true q241
      try go_wp2_with (first | ((with_reducible refine gate_callee (f := 53) rfl ?_); refine goesL_ (some 28) rfl rfl Tryd.func53 (by kernel_rfl) rfl #[.slice A241_1 ((rd_T55 l0 x5_1).f1).length c241_1, .int .i64 (wrap64 (x1_1 + 1))] rfl (by (try simp only [List.map_toArray, List.map_cons, List.map_nil]); first | done | rfl | (simp only [List.length_drop, List.length_take]; rfl)) ?_; (with_reducible refine (laws_heldByteS.calls k1 _ _ ((rd_T55 l0 x5_1).f1) (wrap64 (x1_1 + 1)) t242 _ ?side1 ?side2 A7.out).mono ?_); (case side1 => repeat (first | exact (C_below HR241_1.out HB.out) | (with_reducible refine C_alloc ?_ _) | (with_reducible refine C_drewN ?_ _) | (with_reducible refine C_drew ?_))); (case side2 => exact HC241_1.out); rintro e w' ⟨rfl, ⟨nd, rfl⟩⟩; refine ⟨_, rfl, ?_⟩; have p243 : 0 ≤ (x5_1 : Int) := Zo; have q243 : x5_1 < (l0.length : Int) := Zo; obtain ⟨ad243, A243_1, c243_1, A243_2, c243_2, e243, hx243_0, hx243_1, hx243_2, hl243_1, hi243_1, hl243_2, hi243_2⟩ := at_T55 HR0.out x5_1 p243 q243; obtain rfl : ad239 = ad243 := (by injection e243); replace hx243_0 := Zc HB.out hx243_0; replace hx243_1 := Zc HB.out hx243_1; replace hx243_2 := Zc HB.out hx243_2; have HR243_1 := Zh hi243_1; have HC243_1 := Zh hl243_1; clear hi243_1 hl243_1; have HR243_2 := Zh hi243_2; have HC243_2 := Zh hl243_2; clear hi243_2 hl243_2; replace p243 := eq_true p243; replace q243 := eq_true q243; have ea_ := Option.some.inj (hx241_1.symm.trans hx243_1); injection ea_ with ea_ en_ ec_; subst ea_; subst ec_; clear en_; have ea_ := Option.some.inj (hx241_2.symm.trans hx243_2); injection ea_ with ea_ en_ ec_; subst ea_; subst ec_; clear en_) | ((with_reducible refine gate_callee (f := 53) rfl ?_); refine goesL_ (some 37) rfl rfl Tryd.func53 (by kernel_rfl) rfl #[.slice A241_2 ((rd_T55 l0 x5_1).f2).length c241_2, .int .i64 t242] rfl (by (try simp only [List.map_toArray, List.map_cons, List.map_nil]); first | done | rfl | (simp only [List.length_drop, List.length_take]; rfl)) ?_; (with_reducible refine (laws_heldByteS.calls k1 _ _ ((rd_T55 l0 x5_1).f2) t242 t244 _ ?side1 ?side2 A11.out).mono ?_); (case side1 => repeat (first | exact (C_below HR243_2.out Zs) | (with_reducible refine C_alloc ?_ _) | (with_reducible refine C_drewN ?_ _) | (with_reducible refine C_drew ?_))); (case side2 => exact HC243_2.out); rintro e w' ⟨rfl, ⟨nd, rfl⟩⟩; refine ⟨_, rfl, ?_⟩))
      go_roundg k1
      case measure => have := HK1.out; omega
      case rel => exact ⟨(t244), (wrap64 (x5_1 + 1)), (by first | rfl | (simp; done) | (simp [*]; done)), (by first | rfl | (simp; done) | (simp [*]; done)), H', ⟨by have := HK1.out; omega⟩, ⟨by repeat (first | (with_reducible first | exact HB.out | apply Zf | apply Zd | apply Ze) | exact HB.out)⟩⟩
     rw [if_neg c6] at H
     have c6b0 : (((rd_T55 l0 x5_1).f0).toList == t240.toList) = false := beq_eq_false_iff_ne.mpr c6
     have c6b1 : (((rd_T55 l0 x5_1).f0).toList != t240.toList) = true := bne_iff_ne.mpr c6
     obtain rfl := Option.some.inj H
     try go_wp2
     have n0_ := Zh (Ze HB.out)
     clear HB
     have HB := n0_
     clear n0_
     have p239 : 0 ≤ (x5_1 : Int) := Zo
     have q239 : x5_1 < (l0.length : Int) := Zo
     obtain ⟨ad239, A239_1, c239_1, A239_2, c239_2, e239, hx239_0, hx239_1, hx239_2, hl239_1, hi239_1, hl239_2, hi239_2⟩ := at_T55 HR0.out x5_1 p239 q239
     have hw239_2 := hx239_2
     have hw239_1 := hx239_1
     have hw239_0 := hx239_0
     cases e239
     replace hx239_0 := Zc HB.out hx239_0
     replace hx239_1 := Zc HB.out hx239_1
     replace hx239_2 := Zc HB.out hx239_2
     have HR239_1 := Zh hi239_1
     have HC239_1 := Zh hl239_1
     clear hi239_1 hl239_1
     have HR239_2 := Zh hi239_2
     have HC239_2 := Zh hl239_2
     clear hi239_2 hl239_2
     replace p239 := eq_true p239
     replace q239 := eq_true q239
     refine start_ (n := 8) (S := fun w' => w'.cell? (ad239.add ((x5_1).toNat * 3)) = some (.string ((rd_T55 l0 x5_1).f0)) ∧ w'.cell? ⟨(ad239.add ((x5_1).toNat * 3)).block, (ad239.add ((x5_1).toNat * 3)).off + 1, none⟩ = some (.slice A239_1 ((rd_T55 l0 x5_1).f1).length c239_1) ∧ w'.cell? ⟨(ad239.add ((x5_1).toNat * 3)).block, (ad239.add ((x5_1).toNat * 3)).off + 2, none⟩ = some (.slice A239_2 ((rd_T55 l0 x5_1).f2).length c239_2)) (ds := []) #[false, false, false, false, false, false, false, false] (by kernel_rfl) rfl rfl ⟨((HB.out.cell (Zi w _ hw239_0)).trans hw239_0), ((HB.out.cell (Zi w _ hw239_1)).trans hw239_1), ((HB.out.cell (Zi w _ hw239_2)).trans hw239_2)⟩ (fun hHeld => ?_); refine with_tabW laws_heldFileS.tab4 laws_heldFileS.bits4 (fun HT_ HW_ => ?_)
     generalize wr.drew = w17 at HB HR239_1 HR239_2 hx239_0 hx239_1 hx239_2 hHeld ⊢
     refine SQ.pu 0 12 HT_ ?_
     refine SQ.pu 1 13 HT_ ?_
     refine SQ.pu 2 14 HT_ ?_
     refine SQ.pu 3 15 HT_ ?_
     refine SQ.pu 5 17 HT_ ?_
     refine SQ.tk 4 16 HT_ HW_ hHeld ?_
     refine one_ (i := 6) (N := some 18) #[true, true, true, true, true, true, true, false] rfl rfl (one_of HT_.out (by kernel_rfl)) (by decide) (fun K hK => ?_)
     refine goes_ Tryd.func80 (by kernel_rfl) rfl #[.int .i64 x1_1] (by rfl) rfl rfl (by (try simp only [List.map_toArray, List.map_cons, List.map_nil]); first | done | rfl | (simp only [List.length_drop, List.length_take]; rfl)) ?_
     with_reducible refine (laws_markText.calls k1 x1_1 t240 _ A5.out).mono ?_
     rintro e w18 ⟨rfl, hb⟩
     refine ⟨_, rfl, ?_⟩
     have n0_ := Zh (Zl Zs hb)
     clear HB
     have HB := n0_
     clear n0_
     (try clear hb)
     (try clear hb2)
     (try clear hk)
     (try clear hi)
     refine hK.out _ _ ⟨((HB.out.cell (Zi w _ hw239_0)).trans hw239_0), ((HB.out.cell (Zi w _ hw239_1)).trans hw239_1), ((HB.out.cell (Zi w _ hw239_2)).trans hw239_2)⟩ (fun hHeld => ?_)
     clear hK K
     refine norm_ (a' := ?_) ?_ ?_
     rotate_left
     ·
      show Act.put _ (some 18) _ = _
      simp only [Act.put, List.setIfInBounds_toArray, List.set_cons_zero, List.set_cons_succ, i64_w, i32_w]
      rfl
     refine SQ.pu 7 19 HT_ ?_
     refine done_ (done_of HT_.out (by kernel_rfl)) ?_
     try go_wp2
     go_ret
     exact ⟨by first | rfl | (simp [errW_none, errW_some] <;> rfl) | (simp [*, errW_none, errW_some] <;> rfl), by repeat (first | (with_reducible first | exact HB.out | apply Zf | apply Zd | apply Ze) | exact HB.out)⟩
    rw [if_neg c4] at H
    exact absurd H (by simp)
   rw [if_neg c3] at H
   have c3b0 : decide (x5_1 < (l0.length : Int)) = false := decide_eq_false c3
   clear c3
   obtain rfl := Option.some.inj H
   go_wp2
   go_ret
   exact ⟨by first | rfl | (simp [errW_none, errW_some] <;> rfl) | (simp [*, errW_none, errW_some] <;> rfl), by repeat (first | (with_reducible first | exact HB.out | apply Zf | apply Zd | apply Ze) | exact HB.out)⟩
end Go.Proofs.YtcgojdhbphocgaaDoor.F

namespace Go.Proofs.YtcgojdhbphocgaaDoor.F
open Go.RowKit Go.Proofs.YtcgojdhbphocgaaDoorW.PrintWords Go.Proofs.YtcgojdhbphocgaaDoorW.PrintWords.Kd Go.Proofs.YtcgojdhbphocgaaDoorW.PrintMore.Kd Go.Proofs.YtcgojdhbphocgaaDoorW.PrintLast Go.Proofs.YtcgojdhbphocgaaDoorW.PrintMore
attribute [local go_sem] max2_int min2_int max_two min_two max_three min_three max_four min_four   -- for this text's walks alone
set_option linter.unusedVariables false
set_option linter.unusedSimpArgs false
def laws_heldDisk.f (k : Nat) (l0_0 : List (S55)) (a1 : Int) : Option (Int) := (laws_heldFileS.f k l0_0 a1).bind fun t246 => (if t246 < 0 then (some (-1)) else (some t246))
set_option maxHeartbeats 8000000 in
set_option maxRecDepth 100000 in
theorem laws_heldDisk.calls (k : Nat) (A0_0 : Option Addr) (c0_0 : Nat) (l0_0 : List (S55)) (a1 : Int) (r : Int) (w : World) (hr0_0 : Kd.C k55 w A0_0 l0_0.length l0_0) (hc0_0 : l0_0.length ≤ c0_0) (h : laws_heldDisk.f k l0_0 a1 = some r) :
  Calls Tryd.prog 17 #[.agg #[.slice A0_0 l0_0.length c0_0], .int .i64 a1] w fun e w' => e = .returned (.int .i64 r) ∧ Below w.heap.size w w' := by
 have hu28 := Tryd.underlying28
 have HR0_0 := Zh hr0_0
 have HC0_0 := Zh hc0_0
 clear hr0_0 hc0_0
 have HB := Zh (Below.refl w.heap.size w)
 have H : ((laws_heldFileS.f k l0_0 a1).bind fun t246 => (if t246 < 0 then (some (-1)) else (some t246))) = some r := h
 clear h
 replace H := Option.bind_eq_some_iff.mp H
 obtain ⟨t246, A30, H⟩ := H
 replace H : (if t246 < 0 then (some (-1)) else (some t246)) = some r := H
 have A3 := Zh A30
 clear A30
 by_cases c4 : t246 < 0
 ·
  rw [if_pos c4] at H
  have c4b0 : decide (t246 < 0) = true := decide_eq_true c4
  clear c4
  obtain rfl := Option.some.inj H
  go_enter Tryd.func17, Tryd.ntmps17
  go_wp2_with (first | ((with_reducible refine gate_dst (N := 2) rfl ?_); refine box_event ?hg (N := 2) ?hd (cs := #[.slice A0_0 l0_0.length c0_0]) (t := 28) ?hr ?_; (case hd => rfl); (case hg => rfl); (case hr => first | (go_simp; done) | (go_simp; rfl)); intro gb245 hg w5 hbox hb; have n0_ := Zh (Zl Zs hb); have n1_ := Zh (hbox); have n2_ := Zh ((by rw [hg]; exact (below_size Zs) : w.heap.size ≤ gb245)); have n3_ := Zh ((by rw [hg]; exact (below_size Zs) : w.heap.size ≤ gb245)); clear HB; have HB := n0_; have BK245 := n1_; have GW245 := n2_; have GE245 := n3_; clear n0_ n1_ n2_ n3_; clear hb hbox hg; have hcz6_0 : w5.cell? ⟨gb245, 0, none⟩ = some (.slice A0_0 l0_0.length c0_0) := (blk_cell BK245.out 0).trans rfl; have hfz6_0 := Zn BK245.out 0) | ((with_reducible refine gate_callee (f := 48) rfl ?_); refine goesL_ (some 8) rfl rfl Tryd.func48 (by kernel_rfl) rfl #[.slice A0_0 l0_0.length c0_0, .int .i64 a1] rfl (by (try simp only [List.map_toArray, List.map_cons, List.map_nil]); first | done | rfl | (simp only [List.length_drop, List.length_take]; rfl)) ?_; (with_reducible refine (laws_heldFileS.calls k _ _ l0_0 a1 t246 _ ?side1 ?side2 A3.out).mono ?_); (case side1 => repeat (first | exact (C_below HR0_0.out HB.out) | (with_reducible refine C_alloc ?_ _) | (with_reducible refine C_drewN ?_ _) | (with_reducible refine C_drew ?_))); (case side2 => exact HC0_0.out); rintro e w7 ⟨rfl, hb⟩; refine ⟨_, rfl, ?_⟩; have n0_ := Zh (Zm (g := gb245) (o := .cells #[.slice A0_0 l0_0.length c0_0] 28 (0, 0)) Zk hb); have n1_ := Zh (Zl Zs hb); clear BK245; clear HB; have BK245 := n0_; have HB := n1_; clear n0_ n1_; (try clear hb); (try clear hb2); (try clear hk); (try clear hi)))
  go_ret
  exact ⟨by first | rfl | (simp [errW_none, errW_some] <;> rfl) | (simp [*, errW_none, errW_some] <;> rfl), by repeat (first | (with_reducible first | exact HB.out | apply Zf | apply Zd | apply Ze | refine Zg ?_ GE245.out) | exact HB.out)⟩
 rw [if_neg c4] at H
 have c4b0 : decide (t246 < 0) = false := decide_eq_false c4
 clear c4
 obtain rfl := Option.some.inj H
 go_enter Tryd.func17, Tryd.ntmps17
 go_wp2_with (first | ((with_reducible refine gate_dst (N := 2) rfl ?_); refine box_event ?hg (N := 2) ?hd (cs := #[.slice A0_0 l0_0.length c0_0]) (t := 28) ?hr ?_; (case hd => rfl); (case hg => rfl); (case hr => first | (go_simp; done) | (go_simp; rfl)); intro gb245 hg w8 hbox hb; have n0_ := Zh (Zl Zs hb); have n1_ := Zh (hbox); have n2_ := Zh ((by rw [hg]; exact (below_size Zs) : w.heap.size ≤ gb245)); have n3_ := Zh ((by rw [hg]; exact (below_size Zs) : w.heap.size ≤ gb245)); clear HB; have HB := n0_; have BK245 := n1_; have GW245 := n2_; have GE245 := n3_; clear n0_ n1_ n2_ n3_; clear hb hbox hg; have hcz9_0 : w8.cell? ⟨gb245, 0, none⟩ = some (.slice A0_0 l0_0.length c0_0) := (blk_cell BK245.out 0).trans rfl; have hfz9_0 := Zn BK245.out 0) | ((with_reducible refine gate_callee (f := 48) rfl ?_); refine goesL_ (some 8) rfl rfl Tryd.func48 (by kernel_rfl) rfl #[.slice A0_0 l0_0.length c0_0, .int .i64 a1] rfl (by (try simp only [List.map_toArray, List.map_cons, List.map_nil]); first | done | rfl | (simp only [List.length_drop, List.length_take]; rfl)) ?_; (with_reducible refine (laws_heldFileS.calls k _ _ l0_0 a1 t246 _ ?side1 ?side2 A3.out).mono ?_); (case side1 => repeat (first | exact (C_below HR0_0.out HB.out) | (with_reducible refine C_alloc ?_ _) | (with_reducible refine C_drewN ?_ _) | (with_reducible refine C_drew ?_))); (case side2 => exact HC0_0.out); rintro e w10 ⟨rfl, hb⟩; refine ⟨_, rfl, ?_⟩; have n0_ := Zh (Zm (g := gb245) (o := .cells #[.slice A0_0 l0_0.length c0_0] 28 (0, 0)) Zk hb); have n1_ := Zh (Zl Zs hb); clear BK245; clear HB; have BK245 := n0_; have HB := n1_; clear n0_ n1_; (try clear hb); (try clear hb2); (try clear hk); (try clear hi)))
 go_ret
 exact ⟨by first | rfl | (simp [errW_none, errW_some] <;> rfl) | (simp [*, errW_none, errW_some] <;> rfl), by repeat (first | (with_reducible first | exact HB.out | apply Zf | apply Zd | apply Ze | refine Zg ?_ GE245.out) | exact HB.out)⟩
def laws_markByteS.l0 : Nat → List Int → Int → Int → Option (Int × List Int)
 | 0, _, _, _ => none
 | k + 1, x0, x1, x5 => if x5 < (x0.length : Int) then (if 0 ≤ x5 then (laws_markByteS.l0 k (x0.set (x5 : Int).toNat ((x1) % 256)) (wrap64 (x1 + 1)) (wrap64 (x5 + 1))) else (none)) else (some (x1, x0))
def laws_markByteS.f (k : Nat) (l0 : List Int) (a1 : Int) : Option (Int × List Int) := laws_markByteS.l0 k l0 a1 0
set_option maxHeartbeats 8000000 in
set_option maxRecDepth 100000 in
theorem laws_markByteS.calls (k : Nat) (P0_ : Nat → Prop) (u9000_ : Value) (l0 : List Int) (a1 : Int) (r1 : Int) (r2 : List Int) (w0 w : World) (hB : Below w0.heap.size w0 w) (ho0 : Kd.R (Kd.int .u8) 5 w w0.heap.size P0_ u9000_ l0) (h : laws_markByteS.f k l0 a1 = some (r1, r2)) :
  Calls Tryd.prog 31 #[u9000_, .int .i64 a1] w fun e w' => e = .returned (.int .i64 r1) ∧ Kd.R (Kd.int .u8) 5 w' w0.heap.size (fun k_ => (P0_ k_ ∨ w.heap.size ≤ k_)) u9000_ r2 ∧ Below w0.heap.size w0 w' ∧ Kept w w' (fun k_ => P0_ k_) := by
 have HO0 := Zh (show Kd.R (Kd.int .u8) 5 w w0.heap.size (fun k_ => (P0_ k_ ∨ w.heap.size ≤ k_)) u9000_ l0 from R_mono ho0 (fun k_ hk => (.inl hk)))
 have HK := Zh (Kept.refl w (fun k_ => P0_ k_))
 have HW0 := Zh hB.size
 have HB := Zh hB
 clear hB
 have H : (laws_markByteS.l0 k l0 a1 0) = some (r1, r2) := h
 clear h
 have H' := Zh H
 clear H
 go_enter Tryd.func31, Tryd.ntmps31
 go_wp2
 go_loopg [1, 5] k (fun kq v1 v5 w' => ∃ (x0_1 : List Int) (x1_1 : Int) (x5_1 : Int), v1 = .int .i64 x1_1 ∧ v5 = .int .i64 x5_1 ∧ Aside0 (laws_markByteS.l0 kq x0_1 x1_1 x5_1 = some (r1, r2)) ∧ Aside0 (kq ≤ k) ∧ Aside0 (Kd.R (Kd.int .u8) 5 w' w0.heap.size (fun k_ => (P0_ k_ ∨ w.heap.size ≤ k_)) u9000_ x0_1) ∧ Aside0 (Kept w w' (fun k_ => P0_ k_)) ∧ Aside0 (Below w0.heap.size w0 w'))
 case atStart => exact ⟨(l0), (a1), (0), (by first | rfl | (simp; done) | (simp [*]; done)), (by first | rfl | (simp; done) | (simp [*]; done)), H', ⟨Nat.le_refl _⟩, ⟨by (with_reducible repeat (first | apply R_alloc | apply R_drewN | apply R_drew)); exact HO0.out⟩, ⟨by repeat (first | (with_reducible first | exact HK.out | apply Kept.alloc | apply Kept.drewN | apply Kept.drew) | exact HK.out)⟩, ⟨by repeat (first | (with_reducible first | exact HB.out | apply Zf | apply Zd | apply Ze) | exact HB.out)⟩⟩
 case round =>
  clear H'
  try clear p2
  obtain ⟨x0_1, x1_1, x5_1, rfl, rfl, HA, HK1, HO_0, HK, HB⟩ := hrel
  cases gk with
  | zero => exact absurd HA.out (by simp [laws_markByteS.l0])
  | succ k1 =>
   have H := HA.out
   clear HA
   simp only [laws_markByteS.l0] at H
   by_cases c3 : x5_1 < (x0_1.length : Int)
   ·
    rw [if_pos c3] at H
    have c3b0 : decide (x5_1 < (x0_1.length : Int)) = true := decide_eq_true c3
    clear c3
    by_cases c4 : 0 ≤ x5_1
    ·
     rw [if_pos c4] at H
     have c4b0 : decide (0 ≤ x5_1) = true := decide_eq_true c4
     clear c4
     obtain ⟨y234, hy234⟩ : ∃ y_ : List Int, y_ = (x0_1.set (x5_1 : Int).toNat ((x1_1) % 256)) := ⟨_, rfl⟩
     replace H : (laws_markByteS.l0 k1 y234 (wrap64 (x1_1 + 1)) (wrap64 (x5_1 + 1))) = some (r1, r2) := by first | (rw [hy234]; with_reducible exact H) | (have H2_ := (Option.bind_some _ _).symm.trans H; rw [hy234]; with_reducible exact H2_) | (have H2_ := (Option.bind_some _ _).symm.trans H; with_reducible exact H2_) | with_reducible exact H | (rw [hy234]; exact H) | exact H
     have Ny234 := Zh hy234
     clear hy234
     have H' := Zh H
     clear H
     obtain ⟨Ao6, co6, eo6⟩ := R_slice HO_0.out
     subst eo6
     have p5 : 0 ≤ (x5_1 : Int) := Zo
     have q5 : (x5_1 : Int) < ((x0_1.length : Int) : Int) := Zo
     obtain ⟨go5, co5, eo5, gb5, gl5, cl5, HG5⟩ := R_form HO_0.out (by omega)
     (first | cases eo5 | (injection eo5 with ea_ en_ ec_; (first | subst ea_ | (injection ea_ with ea_; subst ea_)); subst ec_; clear en_))
     have GB5 := Zh gb5
     have GG5 := Zh HG5
     clear gb5 gl5 HG5
     have HMgo5 := Zh (show (P0_ go5 ∨ w.heap.size ≤ go5) from (HO_0.out.1 _ rfl))
     obtain ⟨hx5_0, hf5_0⟩ := R_celln 0 HO_0.out (x5_1 : Int) p5 q5
     replace p5 := eq_true p5
     replace q5 := eq_true q5
     have HP7 := R_putg HO_0.out (x5_1 : Int) ((x1_1) % 256)
     go_wp2_with (first | ((with_reducible refine gate_store (t := 5) (p := 16) rfl ?_); refine store_event (t := 5) (p := 16) (v := ?vo_w8) (w1 := (wr.setCell ⟨go5, (x5_1 : Int).toNat, none⟩ (.int .u8 ((x1_1) % 256)))) ?hg ?ho ?hn ?hr ?_; (case ho => rfl); (case hg => rfl); (case hn => rfl); (case hr => first | (go_simp; done) | (go_simp; rfl)); intro w8 hw; have hg : wr.grownBy w8 (some go5) := (by rw [hw]; exact HP7.2); have hp_ : Kd.R (Kd.int .u8) 5 w8 w0.heap.size (fun k_ => (P0_ k_ ∨ w.heap.size ≤ k_)) (.slice (some ⟨go5, 0, none⟩) x0_1.length co6) y234 := (by rw [hw, Ny234.out]; exact HP7.1); clear HP7; have n0_ := Zh (hp_); have n1_ := Zh ((by rw [hw]; exact Zg (HB.out) GB5.out : Below w0.heap.size w0 w8)); have n2_ := Zh (Kept.of_grown (S := (fun k_ => P0_ k_)) hg (by repeat (first | (with_reducible first | exact HK.out | apply Kept.alloc | apply Kept.drewN | apply Kept.drew) | exact HK.out)) (fun k_ e_ => (HO_0.out.1 k_ e_))); clear HO_0; clear HB; clear HK; have HO_0 := n0_; have HB := n1_; have HK := n2_; clear n0_ n1_ n2_; clear hg hw hp_))
     go_roundg k1
     case measure => have := HK1.out; omega
     case rel => exact ⟨(y234), (wrap64 (x1_1 + 1)), (wrap64 (x5_1 + 1)), (by first | rfl | (simp; done) | (simp [*]; done)), (by first | rfl | (simp; done) | (simp [*]; done)), H', ⟨by have := HK1.out; omega⟩, ⟨by (with_reducible repeat (first | apply R_alloc | apply R_drewN | apply R_drew)); exact HO_0.out⟩, ⟨by repeat (first | (with_reducible first | exact HK.out | apply Kept.alloc | apply Kept.drewN | apply Kept.drew) | exact HK.out)⟩, ⟨by repeat (first | (with_reducible first | exact HB.out | apply Zf | apply Zd | apply Ze) | exact HB.out)⟩⟩
    rw [if_neg c4] at H
    exact absurd H (by simp)
   rw [if_neg c3] at H
   have c3b0 : decide (x5_1 < (x0_1.length : Int)) = false := decide_eq_false c3
   clear c3
   simp only [Option.some.injEq, Prod.mk.injEq] at H
   obtain ⟨rfl, rfl⟩ := H
   obtain ⟨Ao9, co9, eo9⟩ := R_slice HO_0.out
   subst eo9
   go_wp2
   go_ret
   exact ⟨by first | rfl | (simp [errW_none, errW_some] <;> rfl) | (simp [*, errW_none, errW_some] <;> rfl), by (with_reducible repeat (first | apply R_alloc | apply R_drewN | apply R_drew)); exact HO_0.out, by repeat (first | (with_reducible first | exact HB.out | apply Zf | apply Zd | apply Ze) | exact HB.out), by repeat (first | (with_reducible first | exact HK.out | apply Kept.alloc | apply Kept.drewN | apply Kept.drew) | exact HK.out)⟩
end Go.Proofs.YtcgojdhbphocgaaDoor.F

namespace Go.Proofs.YtcgojdhbphocgaaDoor.F
open Go.RowKit Go.Proofs.YtcgojdhbphocgaaDoorW.PrintWords Go.Proofs.YtcgojdhbphocgaaDoorW.PrintLast Go.Proofs.YtcgojdhbphocgaaDoorW.PrintMore
set_option linter.unusedVariables false
set_option linter.unusedSimpArgs false
def laws_markFileS.l0 : Nat → List S55 → Int → Int → Option (Int × List S55)
  | 0, _, _, _ => none
  | k + 1, x0, x1, x5 => if x5 < (x0.length : Int) then (if 0 ≤ x5 then ((laws_markText.f k x1).bind fun a => ((laws_markByteS.f k (rd_T55 x0 x5).f1 (wrap64 (x1 + 1))).bind fun b => ((laws_markByteS.f k (rd_T55 x0 x5).f2 b.1).bind fun c => laws_markFileS.l0 k (x0.set x5.toNat ⟨a, b.2, c.2⟩) c.1 (wrap64 (x5 + 1))))) else none) else some (x1, x0)
def laws_markFileS.f (k : Nat) (l0 : List S55) (a1 : Int) : Option (Int × List S55) := laws_markFileS.l0 k l0 a1 0
theorem S_lent {α : Type} {d : Kd α} {e base : Nat} {W : World} {ok : Nat → Prop} {v : Value} {xs : List α} (h : Kd.S d e W base ok v xs) (z : α) (i : Int) (h0 : 0 ≤ i) (h1 : i < xs.length) :
    ∃ (g cap : Nat) (oki : Nat → Prop) (c : List Value), v = .slice (some ⟨g, 0, none⟩) xs.length cap ∧ base ≤ g ∧ ok g ∧ c.length = d.sz ∧ d.M W base oki (xs.getD i.toNat z) c ∧ (∀ j u, c[j]? = some u → W.cell? ⟨g, i.toNat * d.sz + j, none⟩ = some u) ∧ (∀ j, W.frozen? ⟨g, i.toNat * d.sz + j, none⟩ = false) ∧ (∀ k, oki k → ok k ∧ k ≠ g) ∧ Kd.H d e W base ok v xs i oki c := by
  obtain ⟨g, cap, rfl, hg, _, _⟩ := Kd.S_form h (by omega)
  obtain ⟨oki, c, a1, a2, a3, a6, a4, a5⟩ := Kd.S_elem h z i h0 h1
  exact ⟨g, cap, oki, c, rfl, hg, (Kd.S_R h).1 g (by simp [Value.ownBlock]), a1, a2, a3, a6, a4, a5⟩
theorem R_back {α : Type} {d : Kd α} {e base : Nat} {W W1 : World} {ok ok' : Nat → Prop} {v : Value} {xs ys : List α} (hE : d.E = []) (h : d.R e W base ok v xs) (h' : d.R e W1 base ok' v ys) : d.R e W1 base ok v ys :=
  Kd.R_mono (Kd.R_tight hE h') (fun k hk => h.1 k hk.symm)
set_option maxHeartbeats 8000000 in
set_option maxRecDepth 100000 in
theorem laws_markFileS.calls (k : Nat) (P0_ : Nat → Prop) (u9000_ : Value) (l0 : List S55) (a1 : Int) (r1 : Int) (r2 : List S55) (w0 w : World) (hB : Below w0.heap.size w0 w) (ho0 : Kd.S k55 55 w w0.heap.size P0_ u9000_ l0) (h : laws_markFileS.f k l0 a1 = some (r1, r2)) :
    Calls Tryd.prog 47 #[u9000_, .int .i64 a1] w fun e w' => e = .returned (.int .i64 r1) ∧ Kd.S k55 55 w' w0.heap.size P0_ u9000_ r2 ∧ Below w0.heap.size w0 w' ∧ Kept w w' (fun k_ => P0_ k_) := by
  obtain ⟨A0, c0, rfl⟩ := Kd.S_slice ho0
  have HO0 := Zh ho0
  have HK := Zh (Kept.refl w (fun k_ => P0_ k_))
  have HB := Zh hB
  clear hB ho0
  have H' := Zh (show laws_markFileS.l0 k l0 a1 0 = some (r1, r2) from h)
  clear h
  have hu55 := Tryd.underlying55
  go_enter Tryd.func47, Tryd.ntmps47
  go_wp2
  go_loopg [1, 5] k (fun kq v1 v5 w' => ∃ (x0 : List S55) (x1 x5 : Int), v1 = .int .i64 x1 ∧ v5 = .int .i64 x5 ∧ Aside0 (laws_markFileS.l0 kq x0 x1 x5 = some (r1, r2)) ∧ Aside0 (kq ≤ k) ∧ Aside0 (Kd.S k55 55 w' w0.heap.size P0_ (.slice A0 l0.length c0) x0) ∧ Aside0 (Kept w w' (fun k_ => P0_ k_)) ∧ Aside0 (Below w0.heap.size w0 w'))
  case atStart => exact ⟨l0, a1, 0, by first | rfl | (simp; done), by first | rfl | (simp; done), H', ⟨Nat.le_refl _⟩, HO0, HK, HB⟩
  case round =>
    clear H' HO0 HK HB
    obtain ⟨x0, x1, x5, rfl, rfl, HA, HK1, HO, HK, HB⟩ := hrel
    cases gk with
    | zero => exact absurd HA.out (by simp [laws_markFileS.l0])
    | succ k1 =>
      have H := HA.out
      clear HA
      have hl : l0.length = x0.length := (Kd.S_reads' HO.out).1
      simp only [laws_markFileS.l0, ← hl] at H
      by_cases c3 : x5 < (l0.length : Int)
      · rw [if_pos c3] at H
        have q5 := decide_eq_true c3
        by_cases c4 : 0 ≤ x5
        · rw [if_pos c4] at H
          obtain ⟨t0, A4, H⟩ := Option.bind_eq_some_iff.mp H
          obtain ⟨⟨t1, t2⟩, A5, H⟩ := Option.bind_eq_some_iff.mp H
          obtain ⟨⟨t3, t4⟩, A7, H⟩ := Option.bind_eq_some_iff.mp H
          dsimp only at A7 H
          have H' := Zh H
          clear H
          have A3 := Zh A4
          clear A4
          have p6 := eq_true c4
          have q6 := eq_true c3
          have C3 := Zh c3
          have C4 := Zh c4
          have HL := Zh hl
          clear hl
          go_wp2_with fail
          refine (laws_markText.calls k1 x1 t0 _ A3.out).mono ?_
          rintro e w5 ⟨rfl, hb0⟩
          replace HO := Zh (Kd.S_below HO.out hb0)
          replace HB := Zh (below_then HB.out HB.out.size hb0)
          replace HK := Zh (HK.out.below hb0)
          clear hb0
          have hl := HL.out
          have c3 := C3.out
          have c4 := C4.out
          obtain ⟨g, cap, oki, c, hv, hg, hok, hcl, hM, hcc, hfr, hoki, hH⟩ := S_lent HO.out z55 x5 c4 (by omega)
          have hM : k55.M w5 w0.heap.size oki (rd_T55 x0 x5) c := hM
          generalize rd_T55 x0 x5 = y at A5 A7 hM
          have A6 := Zh A5
          have A8 := Zh A7
          clear A5 A7
          obtain ⟨pp, v1, v2, rfl, hA1, hA2⟩ := k55_openA hM
          have hNN := fun k (h1 : some k = v1.ownBlock) (h2 : some k = v2.ownBlock) => (hA2.1 k h2.symm).2 (hA1.1 k h1.symm).2
          have hR1 := Kd.R_mono hA1 (fun _ h => h.1)
          have hR2 := Kd.R_mono hA2 (fun _ h => h.1)
          have hx0 : w5.cell? ⟨g, x5.toNat * 3, none⟩ = some (.string y.f0) := hcc 0 _ rfl
          have hf0 : w5.frozen? ⟨g, x5.toNat * 3, none⟩ = false := hfr 0
          have hil : x5.toNat < x0.length := by omega
          have hP := (Kd.S_seg (okg := fun _ => False) (seg := [.string t0]) (j := 0) (x' := (⟨t0, y.f1, y.f2⟩ : S55)) (Kd.H_mono (v := .slice (some ⟨g, 0, none⟩) x0.length cap) (hv ▸ hH) (fun k hk => ⟨hk, fun h => h⟩)) c4 (by omega) (show 0 + 1 ≤ 3 by decide) (k55_mkM _ _ _ (⟨t0, y.f1, y.f2⟩ : S55) hR1 hR2 hNN) (fun k hk => .inl hk) (fun k hk => hk.elim)).1
          have HP : Aside0 (Kd.S k55 55 (w5.setCell ⟨g, x5.toNat * 3, none⟩ (.string t0)) w0.heap.size P0_ (.slice (some ⟨g, 0, none⟩) x0.length cap) (x0.set x5.toNat (⟨t0, y.f1, y.f2⟩ : S55))) := ⟨hP⟩
          have HB2 := Zh (Zg (g := g) (j := x5.toNat * 3) (v := .string t0) HB.out hg)
          have HK2 := Zh (Kept.setCell (p := ⟨g, x5.toNat * 3, none⟩) HK.out (.inl hok) (.string t0))
          injection hv with e1 e2 e3
          subst e1
          subst e3
          have HIL := Zh hil
          clear hNN hA1 hA2
          clear e2 hM hcc hfr hoki hH hcl hR1 hR2 hP hil HO HB HK hg hok hl
          go_wp2_with ((with_reducible refine gate_store (t := 9) (p := 17) rfl ?_); refine store_event (t := 9) (p := 17) (v := ?vo) (w1 := (w5.setCell ⟨g, x5.toNat * 3, none⟩ (.string t0))) ?hg ?ho ?hn ?hr ?_; (case ho => rfl); (case hg => rfl); (case hn => rfl); (case hr => first | (go_simp; done) | (go_simp; rfl)); intro w2 hw; rw [← hw] at HP HB2 HK2; clear hw hx0 hf0; obtain ⟨g2, cap2, oki, c, hv, hg, hok, hcl, hM, hcc, hfr, hoki, hH⟩ := S_lent HP.out z55 x5 C4.out (by rw [List.length_set]; exact (Int.toNat_lt C4.out).1 HIL.out); injection hv with e1 e2 e3; injection e1 with e1; injection e1 with e1; subst e1; clear e2 e3; rw [List.getD_eq_getElem?_getD, List.getElem?_set_self HIL.out, Option.getD_some] at hM; obtain ⟨pp2, v3, v4, rfl, hA1, hA2⟩ := k55_openA hM; have GN := Zh (fun k (h1 : some k = v3.ownBlock) (h2 : some k = v4.ownBlock) => (hA2.1 k h2.symm).2 (hA1.1 k h1.symm).2); have hR1 := Kd.R_mono hA1 (fun _ h => h.1); have hR2 := Kd.R_mono hA2 (fun _ h => h.1); have hx1 : w2.cell? ⟨g, x5.toNat * 3 + 1, none⟩ = some v3 := hcc 1 _ rfl; have hx2 : w2.cell? ⟨g, x5.toNat * 3 + 2, none⟩ = some v4 := hcc 2 _ rfl; have GR1 := Zh hR1; have GR2 := Zh hR2; have GH := Zh hH; have GI := Zh hoki; have GO := Zh hok; clear hM hcc hfr hoki hH hcl hR1 hR2 hg hok HP hA1 hA2)
          have T1 := Kd.R_tight rfl GR1.out
          have T2 := Kd.R_tight rfl GR2.out
          refine (laws_markByteS.calls k1 (fun k => some k = v3.ownBlock) v3 y.f1 _ t1 t2 w0 _ HB2.out T1 A6.out).mono ?_
          rintro e w3 ⟨rfl, hR1, hB1, hK1⟩
          have U1 := Zh (R_back rfl T1 hR1)
          have U2 := Zh (Kd.R_kept T2 hK1 (fun k h1 h2 => GN.out k h2 h1))
          have UH := Zh (Kd.H_kept GH.out hK1 (fun k hk hn hs => hn (GR1.out.1 k hs.symm)))
          have UK := Zh (HK2.out.then_ hK1 (fun k hk => .inl (GI.out k (GR1.out.1 k hk.symm)).1))
          have hx3 : w3.cell? ⟨g, x5.toNat * 3 + 2, none⟩ = some v4 := cell_kept hx2 hK1 (fun hs => (GI.out _ (GR1.out.1 _ hs.symm)).2 rfl)
          have UB := Zh hB1
          have NE1 := Zh GN.out
          clear T1 T2 hR1 hB1 hK1 hx1 hx2 GH HK2 HB2
          go_wp2_with fail
          refine (laws_markByteS.calls k1 (fun k => some k = v4.ownBlock) v4 y.f2 _ t3 t4 w0 _ UB.out U2.out A8.out).mono ?_
          rintro e w4 ⟨rfl, hR2, hB1, hK1⟩
          have V2 := R_back rfl U2.out hR2
          have V1 := Kd.R_kept U1.out hK1 NE1.out
          have VH := Kd.H_kept UH.out hK1 (fun k hk hn hs => hn (GR2.out.1 k hs.symm))
          have N1 := Zh (Kd.H_back VH (okp := oki) (k55_mkM _ _ _ (⟨t0, t2, t4⟩ : S55) (Kd.R_mono V1 (fun k hk => GR1.out.1 k hk.symm)) (Kd.R_mono V2 (fun k hk => GR2.out.1 k hk.symm)) GN.out) (fun _ h => h))
          rw [List.set_set] at N1
          have N2 := Zh (UK.out.then_ hK1 (fun k hk => .inl (GI.out k (GR2.out.1 k hk.symm)).1))
          have N3 := Zh hB1
          clear V1 V2 VH hR2 hB1 hK1 hx3 U1 U2 UH UK UB NE1 GR1 GR2 GI GO
          rw [HL.out.symm] at N1
          go_wp2
          go_roundg k1
          case measure => have := HK1.out; omega
          case rel => exact ⟨_, t3, _, rfl, by first | rfl | (simp; done), H', ⟨by have := HK1.out; omega⟩, N1, N2, N3⟩
        rw [if_neg c4] at H
        exact absurd H (by simp)
      rw [if_neg c3] at H
      have q5 := decide_eq_false c3
      simp only [Option.some.injEq, Prod.mk.injEq] at H
      obtain ⟨rfl, rfl⟩ := H
      clear hl c3
      go_wp2
      go_ret
      exact ⟨rfl, HO.out, HB.out, HK.out⟩
def laws_markDisk.f (k : Nat) (l0_0 : List S55) (a1 : Int) : Option (Int × List S55) := laws_markFileS.f k l0_0 a1
set_option maxHeartbeats 8000000 in
theorem laws_markDisk.calls (k : Nat) (P0_0_ : Nat → Prop) (u9000_ : Value) (l0_0 : List S55) (a1 : Int) (r1 : Int) (r2 : List S55) (w0 w : World) (hB : Below w0.heap.size w0 w) (ho0_0 : Kd.S k55 55 w w0.heap.size P0_0_ u9000_ l0_0) (h : laws_markDisk.f k l0_0 a1 = some (r1, r2)) :
    Calls Tryd.prog 16 #[.agg #[u9000_], .int .i64 a1] w fun e w' => e = .returned (.int .i64 r1) ∧ Kd.S k55 55 w' w0.heap.size P0_0_ u9000_ r2 ∧ Below w0.heap.size w0 w' ∧ Kept w w' (fun k_ => P0_0_ k_) := by
  obtain ⟨A0, c0, rfl⟩ := Kd.S_slice ho0_0
  have HO0 := Zh ho0_0
  have HB := Zh hB
  have H := Zh (show laws_markFileS.f k l0_0 a1 = some (r1, r2) from h)
  clear hB ho0_0 h
  go_enter Tryd.func16, Tryd.ntmps16
  go_wp2_with fail
  have B1 := Zf (Below.refl w.heap.size w) (.cells #[.slice A0 l0_0.length c0] 28)
  refine (laws_markFileS.calls k P0_0_ _ l0_0 a1 r1 r2 w0 _ (below_then HB.out HB.out.size B1) (Kd.S_below HO0.out B1) H.out).mono ?_
  rintro e w' ⟨rfl, hS, hB2, hK⟩
  have HS := Zh hS
  have HB2 := Zh hB2
  have HK := Zh ((Kept.of_below B1 _).then_ hK (fun k hk => .inl hk))
  clear hS hB2 hK B1
  go_wp2
  go_ret
  exact ⟨rfl, HS.out, HB2.out, HK.out⟩
end Go.Proofs.YtcgojdhbphocgaaDoor.F

namespace Go.Proofs.YtcgojdhbphocgaaDoor.LW
set_option linter.unusedVariables false
set_option linter.unusedSimpArgs false
open Go.RowKit Go.Proofs.YtcgojdhbphocgaaDoorW.PrintWords Go.Proofs.YtcgojdhbphocgaaDoorW.PrintLast Go.Proofs.YtcgojdhbphocgaaDoorW.PrintMore
structure It where
  P : World → Prop
  F : Nat → Prop
  mv : ∀ w w1 : World, (∀ k, F k → w1.heap[k]? = w.heap[k]?) → P w → P w1
def Its (w : World) (B n : Nat) : List It → Prop
  | [] => True
  | i :: r => (∀ k, i.F k → B ≤ k ∧ k < n) ∧ i.P w ∧ (∀ j, j ∈ r → ∀ k, i.F k → ¬ j.F k) ∧ Its w B n r
variable {w w0 w1 : World} {B B' n m g t e : Nat} {l : List It} {i : It} {cs : Array Value} {α : Type} {d : Kd α} {v : Value} {xs ys : List α} {F S ok : Nat → Prop}
theorem Its.mono (h : Its w B n l) (hB : B' ≤ B) (hn : n ≤ m) : Its w B' m l := by
  induction l with
  | nil => trivial
  | cons i r ih => exact ⟨fun k hk => ⟨Nat.le_trans hB (h.1 k hk).1, Nat.lt_of_lt_of_le (h.1 k hk).2 hn⟩, h.2.1, h.2.2.1, ih h.2.2.2⟩
theorem Its.all (h : Its w B n l) : ∀ j, j ∈ l → j.P w ∧ ∀ k, j.F k → B ≤ k ∧ k < n := by
  induction l with
  | nil => intro j hj; cases hj
  | cons i r ih =>
    intro j hj
    cases hj with
    | head => exact ⟨h.2.1, h.1⟩
    | tail _ hj => exact ih h.2.2.2 j hj
theorem Its.move (h : Its w B n l) (hm : ∀ j, j ∈ l → ∀ k, j.F k → w1.heap[k]? = w.heap[k]?) : Its w1 B n l := by
  induction l with
  | nil => trivial
  | cons i r ih => exact ⟨h.1, i.mv w w1 (hm i List.mem_cons_self) h.2.1, h.2.2.1, ih h.2.2.2 (fun j hj => hm j (List.mem_cons_of_mem _ hj))⟩
theorem Its.app {l' : List It} (h' : Its w B' n l') (h : Its w B B' l) (hB : B ≤ B') (hn : B' ≤ n) : Its w B n (l' ++ l) := by
  induction l' with
  | nil => exact h.mono (Nat.le_refl _) hn
  | cons i r ih =>
    refine ⟨fun k hk => ⟨Nat.le_trans hB (h'.1 k hk).1, (h'.1 k hk).2⟩, h'.2.1, fun j hj k hk => ?_, ih h'.2.2.2⟩
    rcases List.mem_append.1 hj with hj | hj
    · exact h'.2.2.1 j hj k hk
    intro hf
    have h1 := (h'.1 k hk).1
    have h2 := ((h.all j hj).2 k hf).2
    omega
theorem Its.write (h : Its w B n l) (i' : It) (hF : ∀ k, i'.F k → i.F k) (hP : i'.P w1) (hk : ∀ k, k < n → ¬ i.F k → w1.heap[k]? = w.heap[k]?) : ∀ q, l[q]? = some i → Its w1 B n (l.set q i') := by
  induction l with
  | nil => intro q hq; simp at hq
  | cons j r ih =>
    intro q hq
    cases q with
    | zero =>
      simp only [List.getElem?_cons_zero, Option.some.injEq] at hq
      subst hq
      exact ⟨fun k hk' => h.1 k (hF k hk'), hP, fun x hx k hk' => h.2.2.1 x hx k (hF k hk'), h.2.2.2.move (fun x hx k hk' => hk k ((h.2.2.2.all x hx).2 k hk').2 (fun hi => h.2.2.1 x hx k hi hk'))⟩
    | succ q =>
      rw [List.getElem?_cons_succ] at hq
      have hm := List.mem_of_getElem? hq
      refine ⟨h.1, j.mv w w1 (fun k hk' => hk k (h.1 k hk').2 (fun hi => h.2.2.1 i hm k hk' hi)) h.2.1, fun x hx k hk' => ?_, ih h.2.2.2 q hq⟩
      rcases List.mem_or_eq_of_mem_set hx with hx | rfl
      · exact h.2.2.1 x hx k hk'
      exact fun hi => h.2.2.1 i hm k hk' (hF k hi)
def box (g : Nat) (cs : Array Value) (t : Nat) : It := ⟨fun w => w.heap[g]? = some (.cells cs t (0, 0)), fun k => k = g, fun _ _ hk h => (hk g rfl).trans h⟩
def row {α : Type} (d : Kd α) (e B : Nat) (v : Value) (xs : List α) (F : Nat → Prop) : It := ⟨fun w => Kd.S d e w B F v xs, F, fun _ _ hk h => Kd.S_move h hk⟩
structure St (w0 w : World) (l : List It) : Prop where
  b : Below w0.heap.size w0 w
  i : Its w w0.heap.size w.heap.size l
theorem St.start (w : World) : St w w [] := ⟨Below.refl _ _, trivial⟩
theorem St.step (h : St w0 w l) (hb : Below w.heap.size w w1) : St w0 w1 l :=
  ⟨below_step h.b hb, (h.i.move (fun j hj k hk => hb.block k ((h.i.all j hj).2 k hk).2)).mono (Nat.le_refl _) hb.size⟩
theorem St.drew (h : St w0 w l) : St w0 w.drew l := h.step (below_drew (Below.refl _ _))
theorem St.add (h : St w0 w l) (hb : Below w.heap.size w w1) {l' : List It} (hn : Its w1 w.heap.size w1.heap.size l') : St w0 w1 (l' ++ l) :=
  ⟨below_step h.b hb, hn.app (h.i.move (fun j hj k hk => hb.block k ((h.i.all j hj).2 k hk).2)) h.b.size hb.size⟩
theorem St.box (h : St w0 w l) (hg : g = w.heap.size) (hx : w1.heap[g]? = some (.cells cs t (0, 0))) (hb : Below w.heap.size w w1) : St w0 w1 (box g cs t :: l) :=
  h.add hb (l' := [LW.box g cs t]) ⟨fun k hk => by have : k = g := hk; subst this; exact ⟨by omega, blk_lt hx⟩, hx, fun j hj => (List.not_mem_nil hj).elim, trivial⟩
theorem St.alloc (h : St w0 w l) (cs : Array Value) (t : Nat) (hg : g = w.heap.size) : St w0 (w.alloc (.cells cs t)) (LW.box g cs t :: l) := h.box hg (by subst hg; simpa using blk_new w (.cells cs t)) (below_alloc (Below.refl _ _) _)
theorem St.lt (h : St w0 w l) (q : Nat) (hq : l[q]? = some (LW.box g cs t)) : g < w.heap.size := blk_lt (h.i.all _ (List.mem_of_getElem? hq)).1
theorem S_between (h : Kd.S d e w1 w.heap.size ok v xs) (h0 : w0.heap.size ≤ w.heap.size) : Kd.S d e w1 w0.heap.size (fun k => w.heap.size ≤ k ∧ k < w1.heap.size) v xs := Kd.S_lower (Kd.S_mono (Kd.S_bound h) (fun k hk => ⟨hk.2.1, hk.2.2.1⟩)) h0
theorem St.row (h : St w0 w l) (hb : Below w.heap.size w w1) (ho : Kd.S d e w1 w.heap.size ok v xs) : St w0 w1 (row d e w0.heap.size v xs (fun k => w.heap.size ≤ k ∧ k < w1.heap.size) :: l) :=
  h.add hb (l' := [LW.row d e w0.heap.size v xs (fun k => w.heap.size ≤ k ∧ k < w1.heap.size)]) ⟨fun k hk => hk, S_between ho h.b.size, fun j hj => (List.not_mem_nil hj).elim, trivial⟩
theorem S_flat (hE : d.E = []) (h : d.R e w B ok v xs) : Kd.S d e w B ok v xs := by
  obtain ⟨h0, inner, ho, hr⟩ := h
  refine ⟨fun _ => 0, h0, inner, by rw [List.length_zipIdx]; exact ho, by rw [List.length_zipIdx]; exact hr.1, fun j p hj => ?_⟩
  rw [List.getElem?_zipIdx, Nat.zero_add] at hj
  obtain ⟨x, hx, rfl⟩ := Option.map_eq_some_iff.1 hj
  refine d.M_mono (fun k hk => ?_) (d.M_bound (hr.2 j x hx))
  obtain ⟨_, _, _, q, hq, _⟩ := hk
  rw [hE] at hq
  cases hq
theorem St.rowR (h : St w0 w l) (hE : d.E = []) (hb : Below w.heap.size w w1) (ho : d.R e w1 w.heap.size ok v xs) : St w0 w1 (LW.row d e w0.heap.size v xs (fun k => w.heap.size ≤ k ∧ k < w1.heap.size) :: l) := h.row hb (S_flat hE ho)
theorem setCell_size (w : World) (p : Addr) (u : Value) : (w.setCell p u).heap.size = w.heap.size := by simp [World.setCell]
theorem St.set (h : St w0 w l) (q : Nat) (hq : l[q]? = some (LW.box g cs t)) (j : Nat) (u : Value) : St w0 (w.setCell ⟨g, j, none⟩ u) (l.set q (LW.box g (cs.setIfInBounds j u) t)) := by
  have hx := h.i.all _ (List.mem_of_getElem? hq)
  refine ⟨below_set h.b (hx.2 g rfl).1, ?_⟩
  rw [setCell_size]
  exact h.i.write (i := LW.box g cs t) (LW.box g (cs.setIfInBounds j u) t) (fun k hk => hk) (blk_set hx.1 j u) (fun k _ hk => Below.heap_setCell w ⟨g, j, none⟩ u k hk) q hq
theorem St.cell (h : St w0 w l) (q : Nat) (hq : l[q]? = some (LW.box g cs t)) (j : Nat) {u : Value} (hu : cs[j]? = some u) : w.cell? ⟨g, j, none⟩ = some u := (blk_cell (h.i.all _ (List.mem_of_getElem? hq)).1 j).trans hu
theorem St.blk (h : St w0 w l) (q : Nat) (hq : l[q]? = some (LW.box g cs t)) : w.heap[g]? = some (.cells cs t (0, 0)) := (h.i.all _ (List.mem_of_getElem? hq)).1
theorem St.frozen (h : St w0 w l) (q : Nat) (hq : l[q]? = some (LW.box g cs t)) (j : Nat) : w.frozen? ⟨g, j, none⟩ = false := blk_frozen (h.i.all _ (List.mem_of_getElem? hq)).1 j
theorem St.own (h : St w0 w l) (q : Nat) (hq : l[q]? = some (LW.row d e B v xs F)) : Kd.S d e w B F v xs := (h.i.all _ (List.mem_of_getElem? hq)).1
theorem St.reads {A : Option Addr} {m c : Nat} (h : St w0 w l) (q : Nat) (hq : l[q]? = some (LW.row d e B (.slice A m c) xs F)) : m = xs.length ∧ m ≤ c ∧ d.C w A xs.length xs := Kd.S_reads' (h.own q hq)
theorem St.write (h : St w0 w l) (q : Nat) (hq : l[q]? = some (LW.row d e w0.heap.size v xs F)) (hS : Kd.S d e w1 w0.heap.size F v ys) (hB : Below w0.heap.size w0 w1) (hk : Kept w w1 F) : St w0 w1 (l.set q (LW.row d e w0.heap.size v ys F)) := by
  have hx := h.i.all _ (List.mem_of_getElem? hq)
  exact ⟨hB, (h.i.write (i := LW.row d e w0.heap.size v xs F) (LW.row d e w0.heap.size v ys F) (fun k hk => hk) hS (fun k hlt hn => hk.2 k hlt hn) q hq).mono (Nat.le_refl _) hk.1⟩
theorem St.writeV {v' : Value} (h : St w0 w l) (q : Nat) (hq : l[q]? = some (LW.row d e w0.heap.size v xs F)) (hS : Kd.S d e w1 w0.heap.size F v' ys) (hB : Below w0.heap.size w0 w1) (hk : Kept w w1 F) : St w0 w1 (l.set q (LW.row d e w0.heap.size v' ys F)) := by
  have hx := h.i.all _ (List.mem_of_getElem? hq)
  exact ⟨hB, (h.i.write (i := LW.row d e w0.heap.size v xs F) (LW.row d e w0.heap.size v' ys F) (fun k hk => hk) hS (fun k hlt hn => hk.2 k hlt hn) q hq).mono (Nat.le_refl _) hk.1⟩
theorem Its.disj : ∀ {l : List It}, Its w B n l → ∀ (p q : Nat) (i j : It), p ≠ q → l[p]? = some i → l[q]? = some j → ∀ k, i.F k → ¬ j.F k
  | [], _, p, q, i, j, _, hi, _ => by simp at hi
  | a :: r, h, 0, 0, i, j, hn, _, _ => absurd rfl hn
  | a :: r, h, 0, q + 1, i, j, hn, hi, hj => by
    rw [List.getElem?_cons_succ] at hj
    simp only [List.getElem?_cons_zero, Option.some.injEq] at hi
    subst hi
    exact h.2.2.1 j (List.mem_of_getElem? hj)
  | a :: r, h, p + 1, 0, i, j, hn, hi, hj => by
    rw [List.getElem?_cons_succ] at hi
    simp only [List.getElem?_cons_zero, Option.some.injEq] at hj
    subst hj
    exact fun k hk hf => h.2.2.1 i (List.mem_of_getElem? hi) k hf hk
  | a :: r, h, p + 1, q + 1, i, j, hn, hi, hj => by
    rw [List.getElem?_cons_succ] at hi hj
    exact Its.disj h.2.2.2 p q i j (by omega) hi hj
theorem St.ne {g' t' : Nat} {cs' : Array Value} (h : St w0 w l) (p q : Nat) (hn : p ≠ q) (hp : l[p]? = some (LW.box g cs t)) (hq : l[q]? = some (LW.box g' cs' t')) : g ≠ g' := fun he => Its.disj h.i p q _ _ hn hp hq g rfl he
def gone : It := ⟨fun _ => True, fun _ => False, fun _ _ _ _ => trivial⟩
theorem Its.of : ∀ {l : List It}, (∀ (q : Nat) (i : It), l[q]? = some i → (∀ k, i.F k → B ≤ k ∧ k < n) ∧ i.P w) → (∀ (p q : Nat) (i j : It), p < q → l[p]? = some i → l[q]? = some j → ∀ k, i.F k → ¬ j.F k) → Its w B n l
  | [], _, _ => trivial
  | a :: r, h1, h2 => ⟨(h1 0 a rfl).1, (h1 0 a rfl).2, fun j hj => by
      obtain ⟨q, hq⟩ := List.mem_iff_getElem?.1 hj
      exact h2 0 (q + 1) a j (by omega) rfl (by rw [List.getElem?_cons_succ]; exact hq), Its.of (fun q i hq => h1 (q + 1) i (by rw [List.getElem?_cons_succ]; exact hq)) (fun p q i j hpq hp hq => h2 (p + 1) (q + 1) i j (by omega) (by rw [List.getElem?_cons_succ]; exact hp) (by rw [List.getElem?_cons_succ]; exact hq))⟩
theorem St.merge (h : St w0 w l) (q p : Nat) (hn : q ≠ p) {i j : It} (hq : l[q]? = some i) (hp : l[p]? = some j) (i' : It) (hF : ∀ k, i'.F k → i.F k ∨ j.F k) (hP : i'.P w1) (hB : Below w0.heap.size w0 w1) (hkp : Kept w w1 i.F) : St w0 w1 ((l.set q i').set p gone) := by
  have hql : q < l.length := (List.getElem?_eq_some_iff.1 hq).1
  have hpl : p < l.length := (List.getElem?_eq_some_iff.1 hp).1
  have hI := h.i.all i (List.mem_of_getElem? hq)
  have hJ := h.i.all j (List.mem_of_getElem? hp)
  have look : ∀ (m : Nat) (x : It), ((l.set q i').set p gone)[m]? = some x → (m = p ∧ x = gone) ∨ (m ≠ p ∧ m = q ∧ x = i') ∨ (m ≠ p ∧ m ≠ q ∧ l[m]? = some x) := by
    intro m x hm
    by_cases e1 : m = p
    · subst e1
      rw [List.getElem?_set_self (by simpa using hpl)] at hm
      exact .inl ⟨rfl, (Option.some.inj hm).symm⟩
    rw [List.getElem?_set_ne (Ne.symm e1)] at hm
    by_cases e2 : m = q
    · subst e2
      rw [List.getElem?_set_self hql] at hm
      exact .inr (.inl ⟨e1, rfl, (Option.some.inj hm).symm⟩)
    rw [List.getElem?_set_ne (Ne.symm e2)] at hm
    exact .inr (.inr ⟨e1, e2, hm⟩)
  have apart : ∀ (m : Nat) (x : It), m ≠ p → m ≠ q → l[m]? = some x → ∀ k, x.F k → ¬ i.F k ∧ ¬ j.F k := fun m x e1 e2 hm k hk => ⟨Its.disj h.i m q x i e2 hm hq k hk, Its.disj h.i m p x j e1 hm hp k hk⟩
  refine ⟨hB, Its.of (fun m x hm0 => ?_) (fun m m' x y hlt hm0 hm0' => ?_)⟩
  · rcases look m x hm0 with ⟨_, rfl⟩ | ⟨_, _, rfl⟩ | ⟨e1, e2, hm⟩
    · exact ⟨fun k hk => hk.elim, trivial⟩
    · refine ⟨fun k hk => ?_, hP⟩
      rcases hF k hk with h2 | h2
      · exact ⟨(hI.2 k h2).1, Nat.lt_of_lt_of_le (hI.2 k h2).2 hkp.1⟩
      exact ⟨(hJ.2 k h2).1, Nat.lt_of_lt_of_le (hJ.2 k h2).2 hkp.1⟩
    have hX := h.i.all x (List.mem_of_getElem? hm)
    exact ⟨fun k hkx => ⟨(hX.2 k hkx).1, Nat.lt_of_lt_of_le (hX.2 k hkx).2 hkp.1⟩, x.mv w w1 (fun k hkx => hkp.2 k (hX.2 k hkx).2 (apart m x e1 e2 hm k hkx).1) hX.1⟩
  intro k hx hy
  rcases look m x hm0 with ⟨_, rfl⟩ | ⟨_, e, rfl⟩ | ⟨e1, e2, hm⟩
  · exact hx
  · rcases look m' y hm0' with ⟨_, rfl⟩ | ⟨_, e', rfl⟩ | ⟨e1', e2', hm'⟩
    · exact hy
    · omega
    rcases hF k hx with h2 | h2
    · exact (apart m' y e1' e2' hm' k hy).1 h2
    exact (apart m' y e1' e2' hm' k hy).2 h2
  rcases look m' y hm0' with ⟨_, rfl⟩ | ⟨_, e', rfl⟩ | ⟨e1', e2', hm'⟩
  · exact hy
  · rcases hF k hy with h2 | h2
    · exact (apart m x e1 e2 hm k hx).1 h2
    exact (apart m x e1 e2 hm k hx).2 h2
  exact Its.disj h.i m m' x y (by omega) hm hm' k hx hy
end Go.Proofs.YtcgojdhbphocgaaDoor.LW

namespace Go.Proofs.YtcgojdhbphocgaaDoor.LW
open Go.RowKit Go.Proofs.YtcgojdhbphocgaaDoorW.PrintWords Go.Proofs.YtcgojdhbphocgaaDoorW.PrintLast Go.Proofs.YtcgojdhbphocgaaDoorW.PrintMore
set_option linter.unusedVariables false
set_option linter.unusedSimpArgs false
theorem St.grow {w0 w w1 : World} {l : List It} {i : It} (h : St w0 w l) (q : Nat) (hq : l[q]? = some i) (i' : It) (hF : ∀ k, i'.F k → i.F k ∨ (w.heap.size ≤ k ∧ k < w1.heap.size)) (hP : i'.P w1) (hB : Below w0.heap.size w0 w1) (hk : Kept w w1 i.F) : St w0 w1 (l.set q i') := by
  have hql : q < l.length := (List.getElem?_eq_some_iff.1 hq).1
  have hI := h.i.all i (List.mem_of_getElem? hq)
  have look : ∀ (m : Nat) (x : It), (l.set q i')[m]? = some x → (m = q ∧ x = i') ∨ (m ≠ q ∧ l[m]? = some x) := by
    intro m x hm
    by_cases e : m = q
    · subst e
      rw [List.getElem?_set_self hql] at hm
      exact .inl ⟨rfl, (Option.some.inj hm).symm⟩
    rw [List.getElem?_set_ne (Ne.symm e)] at hm
    exact .inr ⟨e, hm⟩
  refine ⟨hB, Its.of (fun m x hm => ?_) (fun m m' x y hlt hm hm' k hx hy => ?_)⟩
  · rcases look m x hm with ⟨_, rfl⟩ | ⟨e, hm⟩
    · refine ⟨fun k hkx => ?_, hP⟩
      rcases hF k hkx with h2 | h2
      · exact ⟨(hI.2 k h2).1, Nat.lt_of_lt_of_le (hI.2 k h2).2 hk.1⟩
      exact ⟨Nat.le_trans h.b.size h2.1, h2.2⟩
    have hX := h.i.all x (List.mem_of_getElem? hm)
    exact ⟨fun k hkx => ⟨(hX.2 k hkx).1, Nat.lt_of_lt_of_le (hX.2 k hkx).2 hk.1⟩, x.mv w w1 (fun k hkx => hk.2 k (hX.2 k hkx).2 (fun hi => Its.disj h.i m q x i e hm hq k hkx hi)) hX.1⟩
  rcases look m x hm with ⟨e, hxe⟩ | ⟨e, hm2⟩
  · rcases look m' y hm' with ⟨e', _⟩ | ⟨e', hm3⟩
    · omega
    rw [hxe] at hx
    rcases hF k hx with h2 | h2
    · exact Its.disj h.i m' q y i e' hm3 hq k hy h2
    have := ((h.i.all y (List.mem_of_getElem? hm3)).2 k hy).2
    omega
  rcases look m' y hm' with ⟨e', hye⟩ | ⟨e', hm3⟩
  · rw [hye] at hy
    rcases hF k hy with h2 | h2
    · exact Its.disj h.i m q x i e hm2 hq k hx h2
    have := ((h.i.all x (List.mem_of_getElem? hm2)).2 k hx).2
    omega
  exact Its.disj h.i m m' x y (by omega) hm2 hm3 k hx hy
end Go.Proofs.YtcgojdhbphocgaaDoor.LW
namespace Go.Proofs.YtcgojdhbphocgaaDoor.F
open Go.RowKit Go.Proofs.YtcgojdhbphocgaaDoorW.PrintWords Go.Proofs.YtcgojdhbphocgaaDoorW.PrintLast Go.Proofs.YtcgojdhbphocgaaDoorW.PrintMore
open Go.Proofs.YtcgojdhbphocgaaDoor
set_option linter.unusedVariables false
set_option linter.unusedSimpArgs false
theorem cell_blk {w w1 : World} {g o : Nat} (h : w1.heap[g]? = w.heap[g]?) : w1.cell? ⟨g, o, none⟩ = w.cell? ⟨g, o, none⟩ := by
  simp only [World.cell?, h]
theorem frozen_blk {w w1 : World} {g o : Nat} (h : w1.heap[g]? = w.heap[g]?) : w1.frozen? ⟨g, o, none⟩ = w.frozen? ⟨g, o, none⟩ := by
  simp only [World.frozen?, h]
theorem blk_lt_of {w : World} {g o : Nat} {v : Value} (h : w.cell? ⟨g, o, none⟩ = some v) : g < w.heap.size := Zi w _ h
theorem lendLoose {w0 w : World} {l : List LW.It} {g n c : Nat} {xs : List S55} {F : Nat → Prop} (h : LW.St w0 w l) (q : Nat) (hq : l[q]? = some (LW.row k55 55 w0.heap.size (.slice (some ⟨g, 0, none⟩) n c) xs F)) (i : Int) (h0 : 0 ≤ i) (h1 : i < n) :
    ∃ (u1 u2 : Value) (ok2 : Nat → Prop), w.cell? ⟨g, i.toNat * 3, none⟩ = some (.string (rd_T55 xs i).f0) ∧ w.cell? ⟨g, i.toNat * 3 + 1, none⟩ = some u1 ∧ w.cell? ⟨g, i.toNat * 3 + 2, none⟩ = some u2 ∧ w.frozen? ⟨g, i.toNat * 3 + 2, none⟩ = false ∧ Kd.R (Kd.int .u8) 5 w w0.heap.size ok2 u2 (rd_T55 xs i).f2 ∧ (∀ k, ok2 k → k ≠ g) ∧ (∀ k, u2.ownBlock = some k → F k) ∧
      ∀ (v1 : Value) (w1 : World) (zs : List Int), (∀ ok : Nat → Prop, (∀ k, v1.ownBlock = some k → ok k) → Kd.R (Kd.int .u8) 5 w1 w0.heap.size ok v1 zs) → Below w0.heap.size w0 w1 → w.grownBy w1 u2.ownBlock → (v1.ownBlock = u2.ownBlock ∨ ∃ b, v1.ownBlock = some b ∧ w.heap.size ≤ b) →
        LW.St w0 (w1.setCell ⟨g, i.toNat * 3 + 2, none⟩ v1) (l.set q (LW.row k55 55 w0.heap.size (.slice (some ⟨g, 0, none⟩) n c) (xs.set i.toNat ⟨(rd_T55 xs i).f0, (rd_T55 xs i).f1, zs⟩) (fun k => F k ∨ (w.heap.size ≤ k ∧ k < w1.heap.size)))) := by
  have hS := h.own q hq
  have hFg : F g := (Kd.S_R hS).1 g (by simp [Value.ownBlock])
  have hbg := (h.i.all _ (List.mem_of_getElem? hq)).2 g hFg
  obtain ⟨oki, cs, hcl, hM, hcc, hfr, hoki, hH⟩ := Kd.S_elem (Kd.S_mono hS (fun k hk => (.inl hk : F k ∨ w.heap.size ≤ k))) z55 i h0 h1
  obtain ⟨pp, u1, u2, rfl, hA1, hA2⟩ := k55_openA hM
  refine ⟨u1, u2, fun k => oki k ∧ ¬ pp k, hcc 0 _ rfl, hcc 1 _ rfl, hcc 2 _ rfl, hfr 2, hA2, fun k hk => (hoki k hk.1).2, fun k hk => ((hoki k (hA2.1 k hk).1).1).elim id (fun a => absurd (Kd.R_lt hA2 k hk) (by omega)), fun v1 w1 zs hR hB hg hat => ?_⟩
  have hu2 : ∀ k, u2.ownBlock = some k → oki k := fun k hk => (hA2.1 k hk).1
  have H1 := Kd.H_grown (Kd.H_widen hH) hg (fun k hk => .inl (hu2 k hk))
  have hR1 : Kd.R (Kd.int .u8) 5 w1 w0.heap.size (fun k => oki k ∨ w.heap.size ≤ k) u1 (xs.getD i.toNat z55).f1 := Kd.R_mono (Kd.R_step hA1 (fun k hk hlt => hg.block k hlt (fun he => (hA2.1 k he.symm).2 hk.2))) (fun k hk => .inl hk.1)
  have hR2 := hR (fun k => oki k ∨ w.heap.size ≤ k) (fun k hk => by
    rcases hat with e | ⟨b, e, hb⟩
    · exact .inl (hu2 k (e ▸ hk))
    rw [e] at hk
    injection hk with hk
    exact .inr (hk ▸ hb))
  have hne : ∀ k, some k = u1.ownBlock → ¬ some k = v1.ownBlock := fun k a b => by
    rcases hat with e | ⟨b', e, hb⟩
    · rw [e] at b
      exact (hA2.1 k b.symm).2 (hA1.1 k a.symm).2
    rw [e] at b
    injection b with b
    have := Kd.R_lt hA1 k a.symm
    omega
  have hM1 := k55_mkM w1 w0.heap.size (fun k => oki k ∨ w.heap.size ≤ k) (⟨(xs.getD i.toNat z55).f0, (xs.getD i.toNat z55).f1, zs⟩ : S55) hR1 hR2 hne
  have hP := Kd.S_seg (okg := fun _ => False) (seg := [v1]) (j := 2) (x' := (⟨(xs.getD i.toNat z55).f0, (xs.getD i.toNat z55).f1, zs⟩ : S55)) (Kd.H_mono H1 (fun k hk => (⟨hk, fun hf => hf⟩ : (F k ∨ w.heap.size ≤ k) ∧ ¬ False))) h0 h1 (show 2 + 1 ≤ 3 by decide) hM1 (fun k hk => hk.elim (fun a => .inl (.inl a)) (fun a => .inl (.inr ⟨.inr a, a⟩))) (fun k hk => hk.elim)
  have hPS : Kd.S k55 55 (w1.setCell ⟨g, i.toNat * 3 + 2, none⟩ v1) w0.heap.size (fun k => F k ∨ w.heap.size ≤ k) (.slice (some ⟨g, 0, none⟩) n c) (xs.set i.toNat ⟨(xs.getD i.toNat z55).f0, (xs.getD i.toNat z55).f1, zs⟩) := hP.1
  refine h.grow q hq (LW.row k55 55 w0.heap.size (.slice (some ⟨g, 0, none⟩) n c) (xs.set i.toNat ⟨(xs.getD i.toNat z55).f0, (xs.getD i.toNat z55).f1, zs⟩) (fun k => F k ∨ (w.heap.size ≤ k ∧ k < w1.heap.size))) (fun k hk => ?_) (Kd.S_mono (Kd.S_bound hPS) (fun k hk => ?_)) (Zg hB hbg.1) ⟨?_, fun k hk hn => ?_⟩
  · rw [LW.setCell_size]; exact hk
  · have h2 := hk.2.2.1
    rw [LW.setCell_size] at h2
    exact hk.1.elim .inl (fun a => .inr ⟨a, h2⟩)
  · rw [LW.setCell_size]; exact hg.size
  rw [Below.heap_setCell _ _ _ k (fun he => hn (by rw [he]; exact hFg))]
  exact hg.block k hk (fun he => hn (by
    have := hu2 k he.symm
    rcases (hoki k this).1 with a | a
    · exact a
    omega))
end Go.Proofs.YtcgojdhbphocgaaDoor.F

namespace Go.Proofs.YtcgojdhbphocgaaDoor.LW
open Go.RowKit Go.Proofs.YtcgojdhbphocgaaDoorW.PrintWords Go.Proofs.YtcgojdhbphocgaaDoorW.PrintLast Go.Proofs.YtcgojdhbphocgaaDoorW.PrintMore
set_option linter.unusedVariables false
set_option linter.unusedSimpArgs false
variable {w0 w w1 : World} {l : List It} {e B : Nat} {α : Type} {d : Kd α} {v v1 : Value} {xs : List α}
def pick (d : Kd α) (e B : Nat) (w0 : World) (v : Value) (xs : List α) : It :=
  ⟨fun w => ∃ rows : List (List Value), rows.length = xs.length ∧ (Kd.raw d.sz).R e w B (fun k => some k = v.ownBlock) v rows ∧ ∀ (j : Nat) (x : α) (c : List Value), xs[j]? = some x → rows[j]? = some c → d.K w0 x c, fun k => some k = v.ownBlock,
    fun w w1 hm h => by obtain ⟨rows, hl, hR, hc⟩ := h; exact ⟨rows, hl, Kd.R_move hR hm, hc⟩⟩
theorem St.pick0 (h : St w0 w l) : St w0 w (pick d e B w0 (.slice none 0 0) [] :: l) :=
  ⟨h.b, fun k hk => by simp [pick, Value.ownBlock] at hk, ⟨[], rfl, Kd.R_nil _ _ _ _ _, fun j x c hx => by simp at hx⟩, fun j hj k hk => by simp [pick, Value.ownBlock] at hk, h.i⟩
theorem St.drewN (h : St w0 w l) (n : Nat) : St w0 (w.drewN n) l := h.step (pw_below_drewN (Below.refl _ _) n)
theorem St.tail {i : It} (h : St w0 w (i :: l)) : St w0 w l := ⟨h.b, h.i.2.2.2⟩
theorem St.picks {A : Option Addr} {m c : Nat} (h : St w0 w l) (q : Nat) (hq : l[q]? = some (pick d e B w0 (.slice A m c) xs)) : m = xs.length ∧ m ≤ c ∧ d.C w A xs.length xs := by
  obtain ⟨rows, hl, hR, hc⟩ := (h.i.all _ (List.mem_of_getElem? hq)).1
  obtain ⟨h1, h2, h3⟩ := Kd.R_reads' hR
  refine ⟨by omega, h2, rfl, by have := h3.2.1; omega, fun hn => ?_⟩
  obtain ⟨ad, ea, hcell⟩ := h3.2.2 (by omega)
  refine ⟨ad, ea, fun j x hx => ?_⟩
  have hj : j < rows.length := by have := (List.getElem?_eq_some_iff.1 hx).1; omega
  obtain ⟨c', hs, hr, hu⟩ := hcell j _ (List.getElem?_eq_getElem hj)
  obtain ⟨rfl, _, _⟩ := hr
  have hK := d.K_below h.b (hc j x _ hx (List.getElem?_eq_getElem hj))
  exact ⟨_, hs, hK, hu⟩
theorem St.picked (h : St w0 w l) (q : Nat) (hq : l[q]? = some (pick d e w0.heap.size w0 v xs)) : ∃ rows : List (List Value), rows.length = xs.length ∧ (Kd.raw d.sz).R e w w0.heap.size (fun _ => True) v rows ∧
    ∀ (x : α) (cx : List Value) (v1 : Value) (w1 : World), d.K w0 x cx → (Kd.raw d.sz).R e w1 w0.heap.size (fun _ => True) v1 (rows ++ [cx]) → Below w0.heap.size w0 w1 → w.grownBy w1 v.ownBlock → (v1.ownBlock = v.ownBlock ∨ ∃ b, v1.ownBlock = some b ∧ w.heap.size ≤ b) →
      St w0 w1 (l.set q (pick d e w0.heap.size w0 v1 (xs ++ [x]))) := by
  obtain ⟨rows, hl, hR, hc⟩ := (h.i.all _ (List.mem_of_getElem? hq)).1
  refine ⟨rows, hl, Kd.R_mono hR (fun _ _ => trivial), fun x cx v1 w1 hK hR1 hB hg hat => ?_⟩
  refine h.grow q hq _ (fun k hk => ?_) ⟨rows ++ [cx], by simp [hl], Kd.R_tight rfl hR1, fun j y c hy hcj => ?_⟩ hB ⟨hg.size, fun k hk hn => hg.block k hk (fun he => hn he)⟩
  · have hk : some k = v1.ownBlock := hk
    rcases hat with e1 | ⟨b, e1, hb⟩
    · exact .inl (hk.trans e1)
    rw [e1] at hk
    injection hk with hk
    subst hk
    exact .inr ⟨hb, Kd.R_lt hR1 _ e1⟩
  rcases Nat.lt_or_ge j xs.length with hj | hj
  · rw [List.getElem?_append_left hj] at hy
    rw [List.getElem?_append_left (by omega)] at hcj
    exact hc j y c hy hcj
  rw [List.getElem?_append_right hj] at hy
  rw [List.getElem?_append_right (by omega)] at hcj
  have e0 : j - xs.length = 0 := by have := (List.getElem?_eq_some_iff.1 hy).1; simp at this; omega
  rw [e0] at hy
  rw [show j - rows.length = 0 by omega] at hcj
  simp only [List.getElem?_cons_zero, Option.some.injEq] at hy hcj
  subst hy
  subst hcj
  exact hK
end Go.Proofs.YtcgojdhbphocgaaDoor.LW

namespace Go.Proofs.YtcgojdhbphocgaaDoor.F
open Go.RowKit Go.Proofs.YtcgojdhbphocgaaDoorW.PrintWords Go.Proofs.YtcgojdhbphocgaaDoorW.PrintLast Go.Proofs.YtcgojdhbphocgaaDoorW.PrintMore
open Go.Proofs.YtcgojdhbphocgaaDoor
set_option linter.unusedVariables false
set_option linter.unusedSimpArgs false
theorem St_app2 {w0 w : World} {l : List LW.It} {v v1 v2 : Value} {xs : List S55} {y1 y2 : List Int} {F G1 G2 : Nat → Prop} (h : LW.St w0 w l) (q p1 p2 : Nat) (n1 : q ≠ p1) (n2 : q ≠ p2) (n3 : p1 ≠ p2) (hq : l[q]? = some (LW.row k55 55 w0.heap.size v xs F)) (hp1 : l[p1]? = some (LW.row (Kd.int .u8) 5 w0.heap.size v1 y1 G1)) (hp2 : l[p2]? = some (LW.row (Kd.int .u8) 5 w0.heap.size v2 y2 G2)) (s : ByteArray) :
    Kd.S k55 55 w w0.heap.size (fun k => (F k ∨ G1 k ∨ G2 k ∨ w.heap.size ≤ k) ∧ ¬ (G1 k ∨ G2 k)) v xs ∧ k55.M w w0.heap.size (fun k => G1 k ∨ G2 k) (⟨s, y1, y2⟩ : S55) [.string s, v1, v2] ∧ (∀ k, G1 k ∨ G2 k → (F k ∨ G1 k ∨ G2 k ∨ w.heap.size ≤ k) ∧ some k ≠ v.ownBlock) ∧
      ∀ (v' : Value) (w1 : World), Kd.S k55 55 w1 w0.heap.size (fun k => F k ∨ G1 k ∨ G2 k ∨ w.heap.size ≤ k) v' (xs ++ [(⟨s, y1, y2⟩ : S55)]) → Below w0.heap.size w0 w1 → w.grownBy w1 v.ownBlock →
        LW.St w0 w1 (((l.set p1 LW.gone).set p2 LW.gone).set q (LW.row k55 55 w0.heap.size v' (xs ++ [(⟨s, y1, y2⟩ : S55)]) (fun k => (F k ∨ G1 k ∨ G2 k) ∨ (w.heap.size ≤ k ∧ k < w1.heap.size)))) := by
  have hS := h.own q hq
  have hR1 := Kd.S_R (h.own p1 hp1)
  have hR2 := Kd.S_R (h.own p2 hp2)
  have d1 := LW.Its.disj h.i q p1 _ _ n1 hq hp1
  have d2 := LW.Its.disj h.i q p2 _ _ n2 hq hp2
  have d3 := LW.Its.disj h.i p1 p2 _ _ n3 hp1 hp2
  have own : ∀ k, v.ownBlock = some k → F k := (Kd.S_R hS).1
  refine ⟨Kd.S_mono hS (fun k hk => ⟨.inl hk, fun hg => hg.elim (d1 k hk) (d2 k hk)⟩), k55_mkM _ _ _ (⟨s, y1, y2⟩ : S55) (Kd.R_mono hR1 (fun k hk => .inl hk)) (Kd.R_mono hR2 (fun k hk => .inr hk)) (fun k a b => d3 k (hR1.1 k a.symm) (hR2.1 k b.symm)), fun k hk => ⟨hk.elim (fun a => .inr (.inl a)) (fun a => .inr (.inr (.inl a))), fun he => hk.elim (d1 k (own k he.symm)) (d2 k (own k he.symm))⟩, fun v' w1 hS' hB hg => ?_⟩
  have lq : ∀ {x : LW.It} {m : Nat}, q ≠ m → (l.set m x)[q]? = l[q]? := fun hm => List.getElem?_set_ne hm.symm
  have m1 := h.merge q p1 n1 hq hp1 (LW.row k55 55 w0.heap.size v xs (fun k => F k ∨ G1 k)) (fun k hk => hk) (Kd.S_mono hS (fun k hk => .inl hk)) h.b ⟨Nat.le_refl _, fun k _ _ => rfl⟩
  have hql : q < l.length := (List.getElem?_eq_some_iff.1 hq).1
  have hq1 : ((l.set q (LW.row k55 55 w0.heap.size v xs (fun k => F k ∨ G1 k))).set p1 LW.gone)[q]? = some (LW.row k55 55 w0.heap.size v xs (fun k => F k ∨ G1 k)) := by
    rw [List.getElem?_set_ne n1.symm, List.getElem?_set_self hql]
  have hp2' : ((l.set q (LW.row k55 55 w0.heap.size v xs (fun k => F k ∨ G1 k))).set p1 LW.gone)[p2]? = some (LW.row (Kd.int .u8) 5 w0.heap.size v2 y2 G2) := by
    rw [List.getElem?_set_ne n3, List.getElem?_set_ne n2, hp2]
  have m2 := m1.merge q p2 n2 hq1 hp2' (LW.row k55 55 w0.heap.size v xs (fun k => F k ∨ G1 k ∨ G2 k)) (fun k hk => by rcases hk with a | a | a; exact .inl (.inl a); exact .inl (.inr a); exact .inr a) (Kd.S_mono hS (fun k hk => .inl hk)) h.b ⟨Nat.le_refl _, fun k _ _ => rfl⟩
  have hq2 : ((((l.set q (LW.row k55 55 w0.heap.size v xs (fun k => F k ∨ G1 k))).set p1 LW.gone).set q (LW.row k55 55 w0.heap.size v xs (fun k => F k ∨ G1 k ∨ G2 k))).set p2 LW.gone)[q]? = some (LW.row k55 55 w0.heap.size v xs (fun k => F k ∨ G1 k ∨ G2 k)) := by
    rw [List.getElem?_set_ne n2.symm, List.getElem?_set_self (by simpa using hql)]
  have m3 := m2.grow q hq2 (LW.row k55 55 w0.heap.size v' (xs ++ [(⟨s, y1, y2⟩ : S55)]) (fun k => (F k ∨ G1 k ∨ G2 k) ∨ (w.heap.size ≤ k ∧ k < w1.heap.size))) (fun k hk => hk) (Kd.S_mono (Kd.S_bound hS') (fun k hk => by
    rcases hk.1 with a | a | a | a
    · exact .inl (.inl a)
    · exact .inl (.inr (.inl a))
    · exact .inl (.inr (.inr a))
    exact .inr ⟨a, hk.2.2.1⟩)) hB ⟨hg.size, fun k hk hn => hg.block k hk (fun he => hn (.inl (own k he.symm)))⟩
  have e : ((((l.set q (LW.row k55 55 w0.heap.size v xs (fun k => F k ∨ G1 k))).set p1 LW.gone).set q (LW.row k55 55 w0.heap.size v xs (fun k => F k ∨ G1 k ∨ G2 k))).set p2 LW.gone).set q (LW.row k55 55 w0.heap.size v' (xs ++ [(⟨s, y1, y2⟩ : S55)]) (fun k => (F k ∨ G1 k ∨ G2 k) ∨ (w.heap.size ≤ k ∧ k < w1.heap.size))) = ((l.set p1 LW.gone).set p2 LW.gone).set q (LW.row k55 55 w0.heap.size v' (xs ++ [(⟨s, y1, y2⟩ : S55)]) (fun k => (F k ∨ G1 k ∨ G2 k) ∨ (w.heap.size ≤ k ∧ k < w1.heap.size))) := by
    apply List.ext_getElem?
    intro m
    by_cases e0 : q = m
    · subst e0
      rw [List.getElem?_set_self (by simpa using hql), List.getElem?_set_self (by simpa using hql)]
    rw [List.getElem?_set_ne e0, List.getElem?_set_ne e0]
    by_cases e2 : p2 = m
    · subst e2
      by_cases hm : p2 < l.length
      · rw [List.getElem?_set_self (by simpa using hm), List.getElem?_set_self (by simpa using hm)]
      rw [List.getElem?_eq_none (by simpa using Nat.le_of_not_lt hm), List.getElem?_eq_none (by simpa using Nat.le_of_not_lt hm)]
    rw [List.getElem?_set_ne e2, List.getElem?_set_ne e2, List.getElem?_set_ne e0]
    by_cases e1 : p1 = m
    · subst e1
      by_cases hm : p1 < l.length
      · rw [List.getElem?_set_self (by simpa using hm), List.getElem?_set_self (by simpa using hm)]
      rw [List.getElem?_eq_none (by simpa using Nat.le_of_not_lt hm), List.getElem?_eq_none (by simpa using Nat.le_of_not_lt hm)]
    rw [List.getElem?_set_ne e1, List.getElem?_set_ne e1, List.getElem?_set_ne e0]
  rw [e] at m3
  exact m3
theorem R_empty (w : World) : Kd.R (Kd.int .u8) 5 (w.alloc (.cells #[] 5)) w.heap.size (fun _ => True) (.slice (some ⟨w.heap.size, 0, none⟩) 0 0) [] := ⟨fun _ _ => trivial, OwnRow.lit (inner := []) w w.heap.size (Reps.none _ _) (Nat.le_refl _) (by simp)⟩
end Go.Proofs.YtcgojdhbphocgaaDoor.F

namespace Go.Proofs.YtcgojdhbphocgaaDoor.F
open Go.RowKit Go.Proofs.YtcgojdhbphocgaaDoorW.PrintWords Go.Proofs.YtcgojdhbphocgaaDoorW.PrintWords.Kd Go.Proofs.YtcgojdhbphocgaaDoorW.PrintMore.Kd Go.Proofs.YtcgojdhbphocgaaDoorW.PrintLast Go.Proofs.YtcgojdhbphocgaaDoorW.PrintMore
attribute [local go_sem] max2_int min2_int max_two min_two max_three min_three max_four min_four   -- for this text's walks alone
set_option linter.unusedVariables false
set_option linter.unusedSimpArgs false
def binary_littleEndian_AppendUint32.f  (l1 : List Int) (a2 : Int) : Option (List Int) := (some (([(a2) % 256, (a2 / 256) % 256, (a2 / 65536) % 256, (a2 / 16777216) % 256] : List Int) : List Int)).bind fun y379 => (if l1.length + y379.length < 140737488355328 then (some (l1 ++ y379)) else (none))
set_option maxHeartbeats 8000000 in
set_option maxRecDepth 100000 in
theorem binary_littleEndian_AppendUint32.calls  (P1_ : Nat → Prop) (u9000_ : Value) (l1 : List Int) (a2 : Int) (r : List Int) (w0 w : World) (hB : Below w0.heap.size w0 w) (ho1 : Kd.R (Kd.int .u8) 5 w w0.heap.size P1_ u9000_ l1) (h : binary_littleEndian_AppendUint32.f l1 a2 = some r) :
  Calls Tryd.prog 91 #[.agg #[], u9000_, .int .u32 a2] w fun e w' => ∃ v0_ : Value, e = .returned (v0_) ∧ Kd.R (Kd.int .u8) 5 w' w0.heap.size (fun k_ => (P1_ k_ ∨ w.heap.size ≤ k_)) v0_ r ∧ Below w0.heap.size w0 w' ∧ Kept w w' (fun k_ => P1_ k_) := by
 have hu94 := Tryd.underlying94
 have HO1 := Zh (show Kd.R (Kd.int .u8) 5 w w0.heap.size (fun k_ => (P1_ k_ ∨ w.heap.size ≤ k_)) u9000_ l1 from R_mono ho1 (fun k_ hk => (.inl hk)))
 have HK := Zh (Kept.refl w (fun k_ => P1_ k_))
 have HW0 := Zh hB.size
 have HB := Zh hB
 clear hB
 have H : ((some (([(a2) % 256, (a2 / 256) % 256, (a2 / 65536) % 256, (a2 / 16777216) % 256] : List Int) : List Int)).bind fun y379 => (if l1.length + y379.length < 140737488355328 then (some (l1 ++ y379)) else (none))) = some r := h
 clear h
 obtain ⟨y379, hy379⟩ : ∃ y_ : List Int, y_ = (([(a2) % 256, (a2 / 256) % 256, (a2 / 65536) % 256, (a2 / 16777216) % 256] : List Int)) := ⟨_, rfl⟩
 replace H : (if l1.length + y379.length < 140737488355328 then (some (l1 ++ y379)) else (none)) = some r := by first | (rw [hy379]; with_reducible exact H) | (have H2_ := (Option.bind_some _ _).symm.trans H; rw [hy379]; with_reducible exact H2_) | (have H2_ := (Option.bind_some _ _).symm.trans H; with_reducible exact H2_) | with_reducible exact H | (rw [hy379]; exact H) | exact H
 have Ny379 := Zh hy379
 clear hy379
 by_cases c4 : l1.length + y379.length < 140737488355328
 ·
  rw [if_pos c4] at H
  have LMc4 := Zh c4
  clear c4
  obtain ⟨y382, hy382⟩ : ∃ y_ : List Int, y_ = (l1 ++ y379) := ⟨_, rfl⟩
  replace H : (some y382) = some r := by first | (rw [hy382]; with_reducible exact H) | (have H2_ := (Option.bind_some _ _).symm.trans H; rw [hy382]; with_reducible exact H2_) | (have H2_ := (Option.bind_some _ _).symm.trans H; with_reducible exact H2_) | with_reducible exact H | (rw [hy382]; exact H) | exact H
  have Ny382 := Zh hy382
  clear hy382
  obtain rfl := Option.some.inj H
  go_enter Tryd.func91, Tryd.ntmps91
  go_wp2_with (first | ((with_reducible refine gate_dst (N := 3) rfl ?_); refine box_event ?hg (N := 3) ?hd (cs := #[]) (t := 94) ?hr ?_; (case hd => rfl); (case hg => rfl); (case hr => first | (go_simp; done) | (go_simp; rfl)); intro gb378 hg w5 hbox hb; have n0_ := Zh (R_below (by (with_reducible repeat (first | apply R_alloc | apply R_drewN | apply R_drew)); exact HO1.out) hb); have n1_ := Zh (Kept.below (S := (fun k_ => P1_ k_)) (by repeat (first | (with_reducible first | exact HK.out | apply Kept.alloc | apply Kept.drewN | apply Kept.drew) | exact HK.out)) hb); have n2_ := Zh (Zl Zs hb); have n3_ := Zh (hbox); have n4_ := Zh ((by rw [hg]; exact (by first | exact HK.out.1 | exact (show Kept w _ (fun k_ => P1_ k_) from by repeat (first | (with_reducible first | exact HK.out | apply Kept.alloc | apply Kept.drewN | apply Kept.drew) | exact HK.out)).1) : w.heap.size ≤ gb378)); have n5_ := Zh ((by rw [hg]; exact (below_size Zs) : w0.heap.size ≤ gb378)); clear HO1; clear HK; clear HB; have HO1 := n0_; have HK := n1_; have HB := n2_; have BK378 := n3_; have GW378 := n4_; have GE378 := n5_; clear n0_ n1_ n2_ n3_ n4_ n5_; clear hb hbox hg) | ((with_reducible refine gate_dst (N := 19) rfl ?_); refine R_lit (Kd.int .u8) _ 5 ?hg (N := 19) ?hd (xs := ([(a2) % 256, (a2 / 256) % 256, (a2 / 65536) % 256, (a2 / 16777216) % 256] : List Int)) (inner := [.int .u8 ((a2) % 256), .int .u8 ((a2 / 256) % 256), .int .u8 ((a2 / 65536) % 256), .int .u8 ((a2 / 16777216) % 256)]) (ok := fun _ => True) (okp := fun _ => True) ?hr ?hp (fun _ hk => hk) trivial (Below.refl _ _) (Nat.le_refl _) (by simp) ?_; (case hd => rfl); (case hg => rfl); (case hr => first | (go_simp; done) | (go_simp; rfl)); (case hp => exact (Reps.one (show Kd.M (Kd.int .u8) _ _ _ ((a2) % 256) [.int .u8 ((a2) % 256)] from rfl) (Reps.one (show Kd.M (Kd.int .u8) _ _ _ ((a2 / 256) % 256) [.int .u8 ((a2 / 256) % 256)] from rfl) (Reps.one (show Kd.M (Kd.int .u8) _ _ _ ((a2 / 65536) % 256) [.int .u8 ((a2 / 65536) % 256)] from rfl) (Reps.one (show Kd.M (Kd.int .u8) _ _ _ ((a2 / 16777216) % 256) [.int .u8 ((a2 / 16777216) % 256)] from rfl) (Reps.none _ _)))))); intro v380 w6 ho7 hb hg_ hnew_; clear hg_ hnew_; (first | rw [← Ny379.out] at ho7 | (simp only [Int.reduceToNat] at ho7; rw [← Ny379.out] at ho7)); have n0_ := Zh (R_elder' (by (with_reducible repeat (first | apply R_alloc | apply R_drewN | apply R_drew)); exact HO1.out) (R_base ho7) hb); have n1_ := Zh (R_lower (R_new' (R_newM (M := fun k_ => (P1_ k_ ∨ w.heap.size ≤ k_)) ho7 (by first | exact HK.out.1 | exact (show Kept w _ (fun k_ => P1_ k_) from by repeat (first | (with_reducible first | exact HK.out | apply Kept.alloc | apply Kept.drewN | apply Kept.drew | refine Kept.setCell ?_ (.inr GW378.out) _) | exact HK.out)).1) (fun k_ h_ => .inr h_)) (R_lt (by (with_reducible repeat (first | apply R_alloc | apply R_drewN | apply R_drew)); exact HO1.out))) (below_size Zs)); have n2_ := Zh (Zm (g := gb378) (o := .cells #[] 94 (0, 0)) Zk hb); have n3_ := Zh (Kept.below (S := (fun k_ => P1_ k_)) (by repeat (first | (with_reducible first | exact HK.out | apply Kept.alloc | apply Kept.drewN | apply Kept.drew | refine Kept.setCell ?_ (.inr GW378.out) _) | exact HK.out)) hb); have n4_ := Zh (Zl Zs hb); clear HO1; clear BK378; clear HK; clear HB; have HO1 := n0_; have HO381 := n1_; have BK378 := n2_; have HK := n3_; have HB := n4_; clear n0_ n1_ n2_ n3_ n4_; clear hb ho7; obtain ⟨Ao9, co9, eo9⟩ := R_slice HO381.out; subst eo9) | ((with_reducible refine gate_builtin (b := .append) (xs := #[.tmp 7, .tmp 19]) rfl ?_); at_builtin; refine R_append_rows (Kd.int .u8) (w0 := w0) w0.heap.size rfl (.tmp 7) (.tmp 19) 41 5 (.int .u8 0) 1 rfl Tryd.underlying41 info5 rfl (by decide) (by omega) u9000_ l1 y379 _ _ _ (fun k_ => (P1_ k_ ∨ w.heap.size ≤ k_) ∧ some k_ ≠ (.slice Ao9 y379.length co9 : Value).ownBlock) (fun _ => False) rfl rfl ?aO ?aR (fun _ _ h => h) (fun _ h => h.elim) ?aF ?aB ?aS ?aL ?_; (case aR => repeat (first | exact (R_reads' HO381.out).2.2 | (with_reducible refine C_alloc ?_ _) | (with_reducible refine C_drewN ?_ _) | (with_reducible refine C_drew ?_))); (case aB => exact Zs); (case aF => exact (fun k_ hk => ⟨(.inr (Nat.le_trans (by first | exact HK.out.1 | exact (show Kept w _ (fun k_ => P1_ k_) from by repeat (first | (with_reducible first | exact HK.out | apply Kept.alloc | apply Kept.drewN | apply Kept.drew | refine Kept.setCell ?_ (.inr GW378.out) _) | exact HK.out)).1) hk)), Kd.fresh' (R_lt (by (with_reducible repeat (first | apply R_alloc | apply R_drewN | apply R_drew)); exact HO381.out)) k_ hk⟩)); (case aO => exact (by (with_reducible repeat (first | apply R_alloc | apply R_drewN | apply R_drew)); exact HO1.out)); (case aS => exact (below_size Zs)); (case aL => have := LMc4.out; omega); intro v383 w8 ho hb hg hat; rw [← Ny382.out] at ho; have n0_ := Zh (blk_grown (g := gb378) (o := .cells #[] 94 (0, 0)) Zk hg (R_ne HO1.out BK378.out (by decide))); have n1_ := Zh (R_after (ok := (fun k_ => (P1_ k_ ∨ w.heap.size ≤ k_))) (by (with_reducible repeat (first | apply R_alloc | apply R_drewN | apply R_drew)); exact R_mono HO381.out (fun _ hk => ⟨hk.1.1, hk.2⟩)) hg hat); have n2_ := Zh (hb); have n3_ := Zh (Kept.of_grown (S := (fun k_ => P1_ k_)) hg (by repeat (first | (with_reducible first | exact HK.out | apply Kept.alloc | apply Kept.drewN | apply Kept.drew | refine Kept.setCell ?_ (.inr GW378.out) _) | exact HK.out)) (fun k_ e_ => (HO1.out.1 k_ e_).1)); have n4_ := Zh (ho); clear BK378; clear HO381; clear HB; clear HK; clear HO1; have BK378 := n0_; have HO381 := n1_; have HB := n2_; have HK := n3_; have HO384 := n4_; clear n0_ n1_ n2_ n3_ n4_; clear ho hb hg hat))
  go_ret
  exact ⟨_, by first | rfl | (simp [errW_none, errW_some] <;> rfl) | (simp [*, errW_none, errW_some] <;> rfl), by (with_reducible repeat (first | apply R_alloc | apply R_drewN | apply R_drew)); exact R_mono HO384.out (fun _ hk => hk.1), by repeat (first | (with_reducible first | exact HB.out | apply Zf | apply Zd | apply Ze | refine Zg ?_ GE378.out) | exact HB.out), by repeat (first | (with_reducible first | exact HK.out | apply Kept.alloc | apply Kept.drewN | apply Kept.drew | refine Kept.setCell ?_ (.inr GW378.out) _) | exact HK.out)⟩
 rw [if_neg c4] at H
 exact absurd H (by simp)
mutual
def impl_crc32.l0 : Nat → Int → List Int → Int → Int → Option (Int)
 | 0, _, _, _, _ => none
 | k + 1, x3, x7, x8, x9 => if x9 < x8 then (if 0 ≤ x9 then (if x9 < (x7.length : Int) then (impl_crc32.l1 k (Go.bits .xor .u32 x3 ((rd x7 x9) % 4294967296)) x7 x8 x9 0) else (none)) else (none)) else (some (Go.bits .xor .u32 4294967295 x3))
def impl_crc32.l1 : Nat → Int → List Int → Int → Int → Int → Option (Int)
 | 0, _, _, _, _, _ => none
 | k + 1, x3, x7, x8, x9, x17 => if x17 < 8 then (if (Go.bits .and .u32 x3 1) = 1 then (impl_crc32.l1 k (Go.bits .xor .u32 (x3 / 2) 3988292384) x7 x8 x9 (wrap64 (x17 + 1))) else (impl_crc32.l1 k (x3 / 2) x7 x8 x9 (wrap64 (x17 + 1)))) else (impl_crc32.l0 k x3 x7 x8 (wrap64 (x9 + 1)))
end
def impl_crc32.f (k : Nat) (l0 : List Int) : Option (Int) := impl_crc32.l0 k 4294967295 l0 (l0.length : Int) 0
set_option maxHeartbeats 8000000 in
set_option maxRecDepth 100000 in
theorem impl_crc32.calls (k : Nat) (A0 : Option Addr) (c0 : Nat) (l0 : List Int) (r : Int) (w : World) (hr0 : Kd.C (Kd.int .u8) w A0 l0.length l0) (hc0 : l0.length ≤ c0) (h : impl_crc32.f k l0 = some r) :
  Calls Tryd.prog 92 #[.slice A0 l0.length c0] w fun e w' => e = .returned (.int .u32 r) ∧ Drawn0 w w' := by
 have HR0 := Zh hr0
 have HC0 := Zh hc0
 clear hr0 hc0
 have H : (impl_crc32.l0 k 4294967295 l0 (l0.length : Int) 0) = some r := h
 clear h
 have H' := Zh H
 clear H
 go_enter Tryd.func92, Tryd.ntmps92
 go_wp2
 go_loopg [3, 9] k (fun kq v3 v9 w' => ∃ (x3_1 : Int) (x9_1 : Int), v3 = .int .u32 x3_1 ∧ v9 = .int .i64 x9_1 ∧ Aside0 (impl_crc32.l0 kq x3_1 l0 (l0.length : Int) x9_1 = some r) ∧ Aside0 (kq ≤ k) ∧ Drawn0 w w')
 case atStart => exact ⟨(4294967295), (0), (by first | rfl | (simp; done) | (simp [*]; done)), (by first | rfl | (simp; done) | (simp [*]; done)), H', ⟨Nat.le_refl _⟩, by repeat (first | exact Drawn0.refl _ | apply Drawn0.step)⟩
 case round =>
  clear H'
  obtain ⟨x3_1, x9_1, rfl, rfl, HA, HK1, ⟨m1, rfl⟩⟩ := hrel
  cases gk with
  | zero => exact absurd HA.out (by simp [impl_crc32.l0])
  | succ k1 =>
   have H := HA.out
   clear HA
   simp only [impl_crc32.l0] at H
   by_cases c2 : x9_1 < (l0.length : Int)
   ·
    rw [if_pos c2] at H
    have c2b0 : decide (x9_1 < (l0.length : Int)) = true := decide_eq_true c2
    clear c2
    by_cases c3 : 0 ≤ x9_1
    ·
     rw [if_pos c3] at H
     have c3b0 : decide (0 ≤ x9_1) = true := decide_eq_true c3
     clear c3
     by_cases c4 : x9_1 < (l0.length : Int)
     ·
      rw [if_pos c4] at H
      have c4b0 : decide (x9_1 < (l0.length : Int)) = true := decide_eq_true c4
      clear c4
      have H' := Zh H
      clear H
      have p353 : 0 ≤ (x9_1 : Int) := Zo
      have q353 : x9_1 < (l0.length : Int) := Zo
      obtain ⟨ad353, e353, hx353_0⟩ := Kd.at_int HR0.out x9_1 p353 q353
      cases e353
      replace p353 := eq_true p353
      replace q353 := eq_true q353
      go_wp2
      go_loopg [3, 17] k1 (fun kq v3 v17 w' => ∃ (x3_2 : Int) (x17_2 : Int), v3 = .int .u32 x3_2 ∧ v17 = .int .i64 x17_2 ∧ Aside0 (impl_crc32.l1 kq x3_2 l0 (l0.length : Int) x9_1 x17_2 = some r) ∧ Aside0 (kq ≤ k1) ∧ Drawn0 w w')
      case atStart => exact ⟨(Go.bits .xor .u32 x3_1 ((rd l0 x9_1) % 4294967296)), (0), (by first | rfl | (simp; done) | (simp [*]; done)), (by first | rfl | (simp; done) | (simp [*]; done)), H', ⟨Nat.le_refl _⟩, by repeat (first | exact Drawn0.refl _ | apply Drawn0.step)⟩
      case round =>
       clear H'
       try clear c2
       try clear c2b0
       try clear p2
       try clear c3
       try clear c3b0
       try clear p3
       try clear q3
       try clear hx3
       try clear c4
       try clear c4b0
       try clear hx353_0
       try clear p353
       try clear q353
       obtain ⟨x3_2, x17_2, rfl, rfl, HA, HK2, ⟨m2, rfl⟩⟩ := hrel
       cases gk with
       | zero => exact absurd HA.out (by simp [impl_crc32.l1])
       | succ k2 =>
        have H := HA.out
        clear HA
        simp only [impl_crc32.l1] at H
        by_cases c5 : x17_2 < 8
        ·
         rw [if_pos c5] at H
         have c5b0 : decide (x17_2 < 8) = true := decide_eq_true c5
         clear c5
         by_cases c6 : (Go.bits .and .u32 x3_2 1) = 1
         ·
          rw [if_pos c6] at H
          have c6b0 : ((Go.bits .and .u32 x3_2 1) == 1) = true := beq_iff_eq.mpr c6
          have c6b1 : ((Go.bits .and .u32 x3_2 1) != 1) = false := bne_eq_false_iff_eq.mpr c6
          clear c6
          have H' := Zh H
          clear H
          go_wp2
          go_roundg k2
          case measure => have := HK1.out; have := HK2.out; omega
          case rel => exact ⟨(Go.bits .xor .u32 (x3_2 / 2) 3988292384), (wrap64 (x17_2 + 1)), (by first | rfl | (simp; done) | (simp [*]; done)), (by first | rfl | (simp; done) | (simp [*]; done)), H', ⟨by have := HK1.out; have := HK2.out; omega⟩, by repeat (first | exact Drawn0.refl _ | apply Drawn0.step)⟩
         rw [if_neg c6] at H
         have c6b0 : ((Go.bits .and .u32 x3_2 1) == 1) = false := beq_eq_false_iff_ne.mpr c6
         have c6b1 : ((Go.bits .and .u32 x3_2 1) != 1) = true := bne_iff_ne.mpr c6
         have H' := Zh H
         clear H
         go_wp2
         go_roundg k2
         case measure => have := HK1.out; have := HK2.out; omega
         case rel => exact ⟨(x3_2 / 2), (wrap64 (x17_2 + 1)), (by first | rfl | (simp; done) | (simp [*]; done)), (by first | rfl | (simp; done) | (simp [*]; done)), H', ⟨by have := HK1.out; have := HK2.out; omega⟩, by repeat (first | exact Drawn0.refl _ | apply Drawn0.step)⟩
        rw [if_neg c5] at H
        have c5b0 : decide (x17_2 < 8) = false := decide_eq_false c5
        clear c5
        have H' := Zh H
        clear H
        go_wp2
        go_roundg k2
        case measure => have := HK1.out; have := HK2.out; omega
        case rel => exact ⟨(x3_2), (wrap64 (x9_1 + 1)), (by first | rfl | (simp; done) | (simp [*]; done)), (by first | rfl | (simp; done) | (simp [*]; done)), H', ⟨by have := HK1.out; have := HK2.out; omega⟩, by repeat (first | exact Drawn0.refl _ | apply Drawn0.step)⟩
     rw [if_neg c4] at H
     exact absurd H (by simp)
    rw [if_neg c3] at H
    exact absurd H (by simp)
   rw [if_neg c2] at H
   have c2b0 : decide (x9_1 < (l0.length : Int)) = false := decide_eq_false c2
   clear c2
   obtain rfl := Option.some.inj H
   go_wp2
   go_ret
   exact ⟨by first | rfl | (simp; done) | (simp [*]; done), by repeat (first | exact Drawn0.refl _ | apply Drawn0.step)⟩
def impl_frame.j0 : Nat → List Int → Bool → Option (List Int)
 | 0, _, _ => none
 | k + 1, x0, x11 => if x11 = true then (some ([] : List Int)) else ((binary_littleEndian_AppendUint32.f ([] : List Int) (((x0.length : Int)) % 4294967296)).bind fun t385 => ((impl_crc32.f k x0).bind fun t388 => ((binary_littleEndian_AppendUint32.f t385 t388).bind fun t389 => (if t389.length + x0.length < 140737488355328 then (some (t389 ++ x0)) else (none)))))
def impl_frame.f (k : Nat) (l0 : List Int) : Option (List Int) := if (l0.length : Int) < 1 then (impl_frame.j0 k l0 true) else (impl_frame.j0 k l0 (decide ((l0.length : Int) > 600)))
set_option maxHeartbeats 8000000 in
set_option maxRecDepth 100000 in
theorem impl_frame.calls (k : Nat) (A0 : Option Addr) (c0 : Nat) (l0 : List Int) (r : List Int) (w : World) (hr0 : Kd.C (Kd.int .u8) w A0 l0.length l0) (hc0 : l0.length ≤ c0) (h : impl_frame.f k l0 = some r) :
  Calls Tryd.prog 60 #[.slice A0 l0.length c0] w fun e w' => ∃ v0_ : Value, e = .returned (v0_) ∧ Kd.R (Kd.int .u8) 5 w' w.heap.size (fun _ => True) v0_ r ∧ Below w.heap.size w w' := by
 have hu94 := Tryd.underlying94
 have HR0 := Zh hr0
 have HC0 := Zh hc0
 clear hr0 hc0
 have HB := Zh (Below.refl w.heap.size w)
 have H : (if (l0.length : Int) < 1 then (impl_frame.j0 k l0 true) else (impl_frame.j0 k l0 (decide ((l0.length : Int) > 600)))) = some r := h
 clear h
 have HC2 := Zh H
 clear H
 go_enter Tryd.func60, Tryd.ntmps60
 go_upto_region 1 with (fail)
 go_cut [11] (fun v11 wc => ∃ (kq : Nat) (x11_1 : Bool), v11 = .bool x11_1 ∧ Aside0 (impl_frame.j0 kq l0 x11_1 = some r) ∧ Aside0 (kq ≤ k) ∧ Aside0 (Below w.heap.size w wc))
 case first =>
  have H := HC2.out
  clear HC2
  by_cases c3 : (l0.length : Int) < 1
  ·
   rw [if_pos c3] at H
   have c3b0 : decide ((l0.length : Int) < 1) = true := decide_eq_true c3
   have c3b1 : decide (l0.length < 1) = true := decide_eq_true (by omega)
   clear c3
   (first | rw [c3b0] | (simp only [i64_w, i32_w]; rw [c3b0]) | skip)
   have H' := Zh H
   clear H
   go_wp2
   go_meet
   case rel => exact ⟨_, (true), (by first | rfl | (simp; done) | (simp [*]; done)), H', ⟨by first | omega | exact Nat.le_refl _⟩, ⟨by repeat (first | (with_reducible first | exact HB.out | apply Zf | apply Zd | apply Ze) | exact HB.out)⟩⟩
  rw [if_neg c3] at H
  have c3b0 : decide ((l0.length : Int) < 1) = false := decide_eq_false c3
  have c3b1 : decide (l0.length < 1) = false := decide_eq_false (by omega)
  clear c3
  (first | rw [c3b0] | (simp only [i64_w, i32_w]; rw [c3b0]) | skip)
  have H' := Zh H
  clear H
  go_wp2
  go_meet
  case rel => exact ⟨_, (decide ((l0.length : Int) > 600)), (by first | rfl | (simp; done) | (simp [*]; done)), H', ⟨by first | omega | exact Nat.le_refl _⟩, ⟨by repeat (first | (with_reducible first | exact HB.out | apply Zf | apply Zd | apply Ze) | exact HB.out)⟩⟩
 case rest =>
  clear HC2
  try clear p2
  try clear c3
  try clear c3b0
  try clear c3b1
  obtain ⟨kq, x11_1, rfl, HA, HJ1, HB⟩ := hcut
  cases kq with
  | zero => exact absurd HA.out (by simp [impl_frame.j0])
  | succ kj1 =>
   have H := HA.out
   clear HA
   simp only [impl_frame.j0] at H
   by_cases c4 : x11_1 = true
   ·
    subst c4
    have H1 : (some ([] : List Int)) = some r := by rw [if_pos rfl] at H; exact H
    clear H
    have H := H1
    clear H1
    obtain rfl := Option.some.inj H
    go_wp2
    go_ret
    exact ⟨_, by first | rfl | (simp [errW_none, errW_some] <;> rfl) | (simp [*, errW_none, errW_some] <;> rfl), by first | exact R_nil _ _ _ _ _ | exact N_nil _ _ _ _ _ | exact V_nil _ _ _ _ _ | exact Q_nil _ _ _ _ _ | exact S_nil _ _ _ _ _, by repeat (first | (with_reducible first | exact HB.out | apply Zf | apply Zd | apply Ze) | exact HB.out)⟩
   replace c4 := Bool.eq_false_iff.mpr c4
   subst c4
   have H1 : ((binary_littleEndian_AppendUint32.f ([] : List Int) (((l0.length : Int)) % 4294967296)).bind fun t385 => ((impl_crc32.f kj1 l0).bind fun t388 => ((binary_littleEndian_AppendUint32.f t385 t388).bind fun t389 => (if t389.length + l0.length < 140737488355328 then (some (t389 ++ l0)) else (none))))) = some r := by rw [if_neg (show ¬ (false = true) by decide)] at H; exact H
   clear H
   have H := H1
   clear H1
   replace H := Option.bind_eq_some_iff.mp H
   obtain ⟨t385, A50, H⟩ := H
   replace H : ((impl_crc32.f kj1 l0).bind fun t388 => ((binary_littleEndian_AppendUint32.f t385 t388).bind fun t389 => (if t389.length + l0.length < 140737488355328 then (some (t389 ++ l0)) else (none)))) = some r := H
   have A5 := Zh A50
   clear A50
   replace H := Option.bind_eq_some_iff.mp H
   obtain ⟨t388, A60, H⟩ := H
   replace H : ((binary_littleEndian_AppendUint32.f t385 t388).bind fun t389 => (if t389.length + l0.length < 140737488355328 then (some (t389 ++ l0)) else (none))) = some r := H
   have A6 := Zh A60
   clear A60
   replace H := Option.bind_eq_some_iff.mp H
   obtain ⟨t389, A70, H⟩ := H
   replace H : (if t389.length + l0.length < 140737488355328 then (some (t389 ++ l0)) else (none)) = some r := H
   have A7 := Zh A70
   clear A70
   by_cases c8 : t389.length + l0.length < 140737488355328
   ·
    rw [if_pos c8] at H
    have LMc8 := Zh c8
    clear c8
    obtain ⟨y392, hy392⟩ : ∃ y_ : List Int, y_ = (t389 ++ l0) := ⟨_, rfl⟩
    replace H : (some y392) = some r := by first | (rw [hy392]; with_reducible exact H) | (have H2_ := (Option.bind_some _ _).symm.trans H; rw [hy392]; with_reducible exact H2_) | (have H2_ := (Option.bind_some _ _).symm.trans H; with_reducible exact H2_) | with_reducible exact H | (rw [hy392]; exact H) | exact H
    have Ny392 := Zh hy392
    clear hy392
    obtain rfl := Option.some.inj H
    try go_wp2_with (first | ((with_reducible refine gate_callee (f := 91) rfl ?_); refine goesL_ (some 16) rfl rfl Tryd.func91 (by kernel_rfl) rfl #[.agg #[], .slice none 0 0, .int .u32 (((l0.length : Int)) % 4294967296)] rfl (by (try simp only [List.map_toArray, List.map_cons, List.map_nil]); first | done | rfl | (simp only [List.length_drop, List.length_take]; rfl)) ?_; (refine (binary_littleEndian_AppendUint32.calls  (fun k_ => some k_ = (.slice none 0 0 : Value).ownBlock) (.slice none 0 0) ([] : List Int) (((l0.length : Int)) % 4294967296) t385 w _ ?side1 ?side2 A5.out).mono ?_); (case side1 => repeat (first | (with_reducible first | exact HB.out | apply Zf | apply Zd | apply Ze) | exact HB.out)); (case side2 => exact R_nil _ _ _ _ _); rintro e w9 ⟨v386, rfl, ho0, hb, hkp⟩; refine ⟨_, rfl, ?_⟩; have n0_ := Zh (R_mono (ok' := fun k_ => True) ho0 (fun k_ hk_ => trivial)); have n1_ := Zh (hb); clear HB; have HO387 := n0_; have HB := n1_; clear n0_ n1_; (try clear hb); (try clear hkp); (try clear ho0)))
    have n0_ := Zh (R_drew HO387.out)
    have n1_ := Zh (Ze HB.out)
    clear HO387
    clear HB
    have HO387 := n0_
    have HB := n1_
    clear n0_ n1_
    refine start_ (n := 6) (S := fun w' => True) (ds := []) #[false, false, false, false, false, false] (by kernel_rfl) rfl rfl trivial (fun hHeld => ?_)
    generalize w9.drew = w10 at HO387 HB hHeld ⊢
    refine pure_ (i := 1) (N := some 18) (v := ?_) (a' := ?_) #[false, true, false, false, false, false] rfl rfl (by kernel_rfl) (fun _ _ _ h => h) (Or.inl ⟨by rfl, ?_⟩) ?_ ?_
    rotate_left
    ·
     intro w'
     go_simp
     with_reducible rfl
    rotate_left
    ·
     simp only [Act.put, List.setIfInBounds_toArray, List.set_cons_zero, List.set_cons_succ, i64_w, i32_w]
     rfl
    refine pure_ (i := 2) (N := some 19) (v := ?_) (a' := ?_) #[false, true, true, false, false, false] rfl rfl (by kernel_rfl) (fun _ _ _ h => h) (Or.inl ⟨by rfl, ?_⟩) ?_ ?_
    rotate_left
    ·
     intro w'
     go_simp
     with_reducible rfl
    rotate_left
    ·
     simp only [Act.put, List.setIfInBounds_toArray, List.set_cons_zero, List.set_cons_succ, i64_w, i32_w]
     rfl
    refine take_ (i := 0) (N := some 17) (v := ?_) (a' := ?_) #[true, true, true, false, false, false] rfl rfl (by kernel_rfl) (fun _ _ _ h => h) (Or.inl ⟨by rfl, ?_⟩) hHeld ?_ ?_
    rotate_left
    ·
     intro w' _
     go_simp
     with_reducible rfl
    rotate_left
    ·
     simp only [Act.put, List.setIfInBounds_toArray, List.set_cons_zero, List.set_cons_succ, i64_w, i32_w]
     rfl
    refine one_ (i := 3) (N := some 20) #[true, true, true, true, false, false] rfl rfl (by kernel_rfl) (by decide) (fun K hK => ?_)
    refine goes_ Tryd.func92 (by kernel_rfl) rfl #[.slice A0 l0.length c0] (by rfl) rfl rfl (by (try simp only [List.map_toArray, List.map_cons, List.map_nil]); first | done | rfl | (simp only [List.length_drop, List.length_take]; rfl)) ?_
    with_reducible refine (impl_crc32.calls kj1 _ _ l0 t388 _ ?side1 ?side2 A6.out).mono ?_
    (case side1 => repeat (first | exact (C_below HR0.out HB.out) | (with_reducible refine C_alloc ?_ _) | (with_reducible refine C_drewN ?_ _) | (with_reducible refine C_drew ?_)))
    (case side2 => exact HC0.out)
    rintro e w' ⟨rfl, ⟨nd, rfl⟩⟩
    refine ⟨_, rfl, ?_⟩
    obtain ⟨Ao11, co11, eo11⟩ := R_slice HO387.out
    (first | subst eo11 | (injection eo11 with f1_ f2_ f3_; have f4_ := f1_.symm; have f5_ := f3_.symm; clear f1_ f2_ f3_; subst f4_; subst f5_))
    refine hK.out _ _ trivial (fun hHeld => ?_)
    clear hK K
    refine norm_ (a' := ?_) ?_ ?_
    rotate_left
    ·
     show Act.put _ (some 20) _ = _
     simp only [Act.put, List.setIfInBounds_toArray, List.set_cons_zero, List.set_cons_succ, i64_w, i32_w]
     rfl
    refine one_ (i := 4) (N := some 21) #[true, true, true, true, true, false] rfl rfl (by kernel_rfl) (by decide) (fun K hK => ?_)
    refine goes_ Tryd.func91 (by kernel_rfl) rfl #[.agg #[], .slice Ao11 t385.length co11, .int .u32 t388] (by rfl) rfl rfl (by (try simp only [List.map_toArray, List.map_cons, List.map_nil]); first | done | rfl | (simp only [List.length_drop, List.length_take]; rfl)) ?_
    with_reducible refine (binary_littleEndian_AppendUint32.calls  (fun k_ => some k_ = (.slice Ao11 t385.length co11 : Value).ownBlock) (.slice Ao11 t385.length co11) t385 t388 t389 w _ ?side1 ?side2 A7.out).mono ?_
    (case side1 => repeat (first | (with_reducible first | exact HB.out | apply Zf | apply Zd | apply Ze) | exact HB.out))
    (case side2 => exact R_tight rfl HO387.out)
    rintro e w12 ⟨v390, rfl, ho0, hb, hkp⟩
    refine ⟨_, rfl, ?_⟩
    have n0_ := Zh (R_mono (ok' := fun k_ => True) ho0 (fun k_ hk_ => trivial))
    have n1_ := Zh (hb)
    clear HB
    clear HO387
    have HO391 := n0_
    have HB := n1_
    clear n0_ n1_
    (try clear hb)
    (try clear hkp)
    (try clear ho0)
    refine hK.out _ _ trivial (fun hHeld => ?_)
    clear hK K
    refine norm_ (a' := ?_) ?_ ?_
    rotate_left
    ·
     show Act.put _ (some 21) _ = _
     simp only [Act.put, List.setIfInBounds_toArray, List.set_cons_zero, List.set_cons_succ, i64_w, i32_w]
     rfl
    refine pure_ (i := 5) (N := some 3) (v := ?_) (a' := ?_) #[true, true, true, true, true, true] rfl rfl (by kernel_rfl) (fun _ _ _ h => h) (Or.inl ⟨by rfl, ?_⟩) ?_ ?_
    rotate_left
    ·
     intro w'
     go_simp
     with_reducible rfl
    rotate_left
    ·
     simp only [Act.put, List.setIfInBounds_toArray, List.set_cons_zero, List.set_cons_succ, i64_w, i32_w]
     rfl
    refine done_ (by kernel_rfl) ?_
    try go_wp2_with (first | ((with_reducible refine gate_builtin (b := .append) (xs := #[.tmp 22, .tmp 23]) rfl ?_); (try (refine gate_guard (by rfl) ?_; dsimp only)); at_builtin; refine R_append_rows (Kd.int .u8) (w0 := w) w.heap.size rfl (.tmp 22) (.tmp 23) 41 5 (.int .u8 0) 1 rfl Tryd.underlying41 info5 rfl (by decide) (by omega) v390 t389 l0 _ _ _ (fun _ => True) (fun _ => False) rfl rfl ?aO ?aR (fun _ _ h => h) (fun _ h => h.elim) ?aF ?aB ?aS ?aL ?_; (case aR => repeat (first | exact (C_below HR0.out HB.out) | (with_reducible refine C_alloc ?_ _) | (with_reducible refine C_drewN ?_ _) | (with_reducible refine C_drew ?_))); (case aB => exact Zs); (case aF => exact (fun _ _ => trivial)); (case aO => exact (by (with_reducible repeat (first | apply R_alloc | apply R_drewN | apply R_drew)); exact HO391.out)); (case aS => exact (below_size Zs)); (case aL => have := LMc8.out; omega); intro v393 w13 ho hb hg hat; rw [← Ny392.out] at ho; have n0_ := Zh (hb); have n1_ := Zh (ho); clear HB; clear HO391; have HB := n0_; have HO394 := n1_; clear n0_ n1_; clear ho hb hg hat))
    go_ret
    exact ⟨_, by first | rfl | (simp [errW_none, errW_some] <;> rfl) | (simp [*, errW_none, errW_some] <;> rfl), by (with_reducible repeat (first | apply R_alloc | apply R_drewN | apply R_drew)); exact HO394.out, by repeat (first | (with_reducible first | exact HB.out | apply Zf | apply Zd | apply Ze) | exact HB.out)⟩
   rw [if_neg c8] at H
   exact absurd H (by simp)
end Go.Proofs.YtcgojdhbphocgaaDoor.F

namespace Go.Proofs.YtcgojdhbphocgaaDoor.F
open Go.RowKit Go.Proofs.YtcgojdhbphocgaaDoorW.PrintWords Go.Proofs.YtcgojdhbphocgaaDoorW.PrintLast Go.Proofs.YtcgojdhbphocgaaDoorW.PrintMore
set_option linter.unusedVariables false
set_option linter.unusedSimpArgs false
theorem R_beyond {α : Type} {d : Kd α} {e base n c g o : Nat} {W : World} {ok : Nat → Prop} {xs : List α} (h : d.R e W base ok (.slice (some ⟨g, 0, none⟩) n c) xs) (vs : List Value) (ho : n * d.sz ≤ o) (hc : o + vs.length ≤ c * d.sz) :
    d.R e (W.setCells g o vs) base ok (.slice (some ⟨g, 0, none⟩) n c) xs := by
  have hn := (Kd.R_reads' h).1
  have hgo : some g = (Value.slice (some ⟨g, 0, none⟩) n c).ownBlock := by simp [Value.ownBlock]
  obtain ⟨hok, inner, ⟨hl, hown⟩, hr⟩ := h
  rcases hown with ⟨hv, _⟩ | ⟨g', cap', cur, hv, hb, hh, hnc, hcm, hcs, htake⟩
  · cases hv
  injection hv with ha _ hc'
  injection ha with ha
  injection ha with hg
  subst hg; subst hc'
  obtain ⟨cur', h1, h2, h3⟩ := setCells_row vs o W cur hh (by omega)
  refine ⟨hok, inner, ⟨hl, .inr ⟨g, c, cur', by rw [← hn], hb, h1, hnc, hcm, by omega, ?_⟩⟩, hr.1, fun j p hj => d.M_move (fun k hk => setCells_far vs o k (fun he => hk.2 (by rw [he]; exact hgo))) (hr.2 j p hj)⟩
  rw [← htake, h3, ← hn, List.append_assoc, List.take_append_of_le_length (by rw [List.length_take, Array.length_toList]; omega), List.take_take]
  congr 1
  omega
theorem S_beyond {α : Type} {d : Kd α} {e base n c g o : Nat} {W : World} {ok : Nat → Prop} {xs : List α} (h : Kd.S d e W base ok (.slice (some ⟨g, 0, none⟩) n c) xs) (vs : List Value) (ho : n * d.sz ≤ o) (hc : o + vs.length ≤ c * d.sz) :
    Kd.S d e (W.setCells g o vs) base ok (.slice (some ⟨g, 0, none⟩) n c) xs := by
  obtain ⟨f, h⟩ := h
  exact ⟨f, R_beyond h vs ho hc⟩
theorem S_there {α : Type} {d : Kd α} {e base n c g : Nat} {W : World} {ok : Nat → Prop} {xs : List α} (h : Kd.S d e W base ok (.slice (some ⟨g, 0, none⟩) n c) xs) (j : Nat) (hj : j < c * d.sz) : (W.cell? ⟨g, j, none⟩).isSome = true ∧ W.frozen? ⟨g, j, none⟩ = false := by
  obtain ⟨inner, _, hown⟩ := Kd.S_own h
  rcases hown with ⟨hv, _⟩ | ⟨g', cap', cur, hv, hb, hh, hnc, hcm, hcs, htake⟩
  · cases hv
  injection hv with ha _ hc'
  injection ha with ha
  injection ha with hg
  subst hg; subst hc'
  refine ⟨?_, Zn hh j⟩
  rw [blk_cell hh j, Array.getElem?_eq_getElem (by omega)]
  rfl
theorem S_cap {α : Type} {d : Kd α} {e base n c g : Nat} {W : World} {ok : Nat → Prop} {xs : List α} (h : Kd.S d e W base ok (.slice (some ⟨g, 0, none⟩) n c) xs) : c ≤ 9223372036854775807 := by
  obtain ⟨inner, _, hown⟩ := Kd.S_own h
  rcases hown with ⟨hv, _⟩ | ⟨g', cap', cur, hv, hb, hh, hnc, hcm, hcs, htake⟩
  · cases hv
  injection hv with ha _ hc'
  subst hc'
  exact hcm
theorem info55s : (Tryd.prog.info? 55).map (·.size) = some k55.sz := by kernel_rfl
theorem below_setCells {g : Nat} {a : World} (hg : a.heap.size ≤ g) : ∀ (vs : List Value) (o : Nat) {w : World}, Below a.heap.size a w → Below a.heap.size a (w.setCells g o vs)
  | [], _, _, hb => hb
  | _ :: r, o, _, hb => below_setCells hg r (o + 1) (Zg hb hg)
theorem zeroed3 (W : World) (g o c ty : Nat) (hc : ∀ j, j < 3 → (W.cell? ⟨g, o + j, none⟩).isSome = true ∧ W.frozen? ⟨g, o + j, none⟩ = false) :
    (Builtin.clear_ #[26] ty #[.slice (some ⟨g, o, none⟩) 1 c]).run Tryd.prog W = .ok (.tuple #[]) (W.setCells g o [.string ⟨#[]⟩, .slice none 0 0, .slice none 0 0]) := by
  have hst := run_storeCells_cells (P := Tryd.prog) g o [.string ⟨#[]⟩, .slice none 0 0, .slice none 0 0] 0 W (fun j hj => by rw [Nat.add_zero]; exact (hc j hj).1) (fun j hj => by rw [Nat.add_zero]; exact (hc j hj).2) (by intro v hv; simp at hv; rcases hv with rfl | rfl <;> rfl)
  rw [Nat.add_zero] at hst
  have hz : (Builtin.zeroCells (Value.agg #[.string ⟨#[]⟩, .slice none 0 0, .slice none 0 0]).cells 1).toList = [.string ⟨#[]⟩, .slice none 0 0, .slice none 0 0] := by kernel_rfl
  simp [Builtin.clear_, run_underlying Tryd.underlying26, Tryd.zeroValue55, hz, hst]
theorem S_delete_law {P : Program} {ops : Array Oper} {o : Oper} {a : Act} {Q : Exit → Act → World → Prop} {α : Type} {Kc : Act → World → Prop} {E : Prop} (d : Kd α) {w0 W : World} (base : Nat) (hgd : o.guard = none) (s x : Operand) (t e : TypeId) (ho : o.op = .call { callee := .builtin .append, args := #[s, x], argTypes := #[t, t] })
    (ht : P.underlying t = some (.slice e)) (hinfo : (P.info? e).map (·.size) = some d.sz) {g n c k m c2 : Nat} {A : Option Addr} {xs : List α} {ok : Nat → Prop}
    (hs : a.eval s = .slice (some ⟨g, 0, none⟩) k c) (hx : a.eval x = .slice A m c2) (hA : A = if c = k + 1 then some ⟨g, 0, none⟩ else (some (⟨g, 0, none⟩ : Addr)).map (·.add ((k + 1) * d.sz))) (hm : m = n - (k + 1))
    (HO : Kd.S d e W base ok (.slice (some ⟨g, 0, none⟩) n c) xs) (hk : k < n) (HB : Below base w0 W) (hbase : base ≤ W.heap.size)
    (h : ∀ w1, Kd.S d e w1 base ok (.slice (some ⟨g, 0, none⟩) (n - 1) c) (xs.eraseIdx k) → Below base w0 w1 → W.grownBy w1 (some g) → Kc (a.put o.dst (.slice (some ⟨g, 0, none⟩) (n - 1) c)) w1) :
    if Region.wanted o (yielded ops a.tmps) = true then Oper.wp P o a W Kc Q else E := by
  have hw : Region.wanted o (yielded ops a.tmps) = true := by simp [Region.wanted, hgd]
  have := Kd.S_delete_step (Q := Q) d base hw s x t e ho ht hinfo hs hx hA hm HO hk HB hbase h
  rw [if_pos hw] at this ⊢
  exact this
set_option maxHeartbeats 4000000 in
set_option maxRecDepth 100000 in
theorem sDelete.calls (i : Nat) (P : Nat → Prop) (v : Value) (l : List S55) (w0 w : World) (hB : Below w0.heap.size w0 w) (ho : Kd.S k55 55 w w0.heap.size P v l) (hi : i < l.length) :
    Calls Tryd.prog 96 #[v, .int .i64 i, .int .i64 (i + 1)] w fun e w' => ∃ v' : Value, e = .returned v' ∧ Kd.S k55 55 w' w0.heap.size P v' (l.eraseIdx i) ∧ Below w0.heap.size w0 w' ∧ Kept w w' P := by
  obtain ⟨g, c, rfl, hbg, hgw, _⟩ := Kd.S_form ho (by omega)
  have hnc := (Kd.S_reads' ho).2.1
  have hcm := S_cap ho
  have hPg : P g := (Kd.S_R ho).1 g (by simp [Value.ownBlock])
  have HO := Zh (Kd.S_drew ho)
  have HB := Zh (Ze hB)
  have HK := Zh (Kept.of_below (Ze (Below.refl w.heap.size w)) P)
  have HS := Zh (show w0.heap.size ≤ w.drew.heap.size from Nat.le_of_lt (Nat.lt_of_le_of_lt hbg hgw))
  have HG := Zh hPg
  have HBG := Zh hbg
  have hic : i ≤ c := by omega
  have hjc : i + 1 ≤ c := by omega
  have hjl : i + 1 ≤ l.length := by omega
  have hj0 : (0 : Int) ≤ (i : Int) + 1 := by omega
  have hj1 : (i : Int) + 1 ≤ (l.length : Int) := by omega
  have hil : (i : Int) < (l.length : Int) := by omega
  have hi1 : ((i : Int) == (i : Int) + 1) = false := by simp; omega
  clear ho hB hbg hPg
  by_cases hci : c = i + 1
  · subst hci
    have hii : (i : Int) ≤ (i : Int) + 1 := by omega
    go_enter Tryd.func96, Tryd.ntmps96
    go_wp2
    go_region_law (refine S_delete_law (w0 := w0) k55 w0.heap.size rfl (.tmp 22) (.tmp 25) 26 55 rfl Tryd.underlying26 info55s (g := g) (n := l.length) (c := i + 1) (k := i) (m := 0) (c2 := 0) (A := some ⟨g, 0, none⟩) (ok := P) (by simp [Act.eval, Act.put]) (by simp [Act.eval, Act.put]) (by simp) (by omega) HO.out hi HB.out HS.out ?_; intro w1 hS1 hB1 hG1)
    all_goals
      have hnc1 : l.length - 1 < l.length := by omega
      have hth := fun j (hj : j < (i + 1) * 3) => S_there hS1 j hj
      have HC := Zh (fun ty => zeroed3 w1 g ((l.length - 1) * 3) (i + 1 - (l.length - 1)) ty (fun j hj => hth _ (by omega)))
      have HS1 := Zh (S_beyond hS1 [.string ⟨#[]⟩, .slice none 0 0, .slice none 0 0] (o := (l.length - 1) * 3) (Nat.le_refl _) (by show (l.length - 1) * 3 + 3 ≤ (i + 1) * 3; omega))
      have e1 : l.length - (l.length - 1) = 1 := by omega
      have hlc : l.length - 1 ≤ i + 1 := by omega
      have hcl := HC.out
      clear hS1 hth
      go_wp2
      go_ret
      refine ⟨.slice (some ⟨g, 0, none⟩) (l.length - 1) _, rfl, HS1.out, below_setCells HBG.out _ _ hB1, ?_⟩
      refine ⟨by rw [(setCells_same g _ _ w1).2.2.2]; exact hG1.size, fun k hk hn => ?_⟩
      have hkg : k ≠ g := fun he => hn (he ▸ HG.out)
      rw [setCells_far _ _ k hkg]
      exact hG1.block k hk (fun he => hkg (Option.some.inj he))
  have hcf : (c = i + 1) = False := eq_false hci
  clear hci
  go_enter Tryd.func96, Tryd.ntmps96
  go_wp2
  go_region_law (refine S_delete_law (w0 := w0) k55 w0.heap.size rfl (.tmp 22) (.tmp 25) 26 55 rfl Tryd.underlying26 info55s (g := g) (n := l.length) (c := c) (k := i) (m := l.length - (i + 1)) (c2 := c - (i + 1)) (A := some ⟨g, (i + 1) * 3, none⟩) (ok := P) (by simp [Act.eval, Act.put, hcf]) (by simp [Act.eval, Act.put, hcf]) (by rw [if_neg (of_eq_false hcf)]; exact congrArg some (add_at g 0 ((i + 1) * 3) |>.trans (by rw [Nat.zero_add])).symm) rfl HO.out hi HB.out HS.out ?_; intro w1 hS1 hB1 hG1)
  all_goals
    have hnc1 : l.length - 1 < l.length := by omega
    have hth := fun j (hj : j < (c) * 3) => S_there hS1 j hj
    have HC := Zh (fun ty => zeroed3 w1 g ((l.length - 1) * 3) (c - (l.length - 1)) ty (fun j hj => hth _ (by omega)))
    have HS1 := Zh (S_beyond hS1 [.string ⟨#[]⟩, .slice none 0 0, .slice none 0 0] (o := (l.length - 1) * 3) (Nat.le_refl _) (by show (l.length - 1) * 3 + 3 ≤ (c) * 3; omega))
    have e1 : l.length - (l.length - 1) = 1 := by omega
    have hlc : l.length - 1 ≤ c := by omega
    have hcl := HC.out
    clear hS1 hth
    go_wp2
    go_ret
    refine ⟨.slice (some ⟨g, 0, none⟩) (l.length - 1) _, rfl, HS1.out, below_setCells HBG.out _ _ hB1, ?_⟩
    refine ⟨by rw [(setCells_same g _ _ w1).2.2.2]; exact hG1.size, fun k hk hn => ?_⟩
    have hkg : k ≠ g := fun he => hn (he ▸ HG.out)
    rw [setCells_far _ _ k hkg]
    exact hG1.block k hk (fun he => hkg (Option.some.inj he))
end Go.Proofs.YtcgojdhbphocgaaDoor.F
