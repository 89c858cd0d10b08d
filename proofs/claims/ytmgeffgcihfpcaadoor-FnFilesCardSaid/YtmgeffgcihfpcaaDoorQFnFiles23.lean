/- Merged texts below the law FnFiles: Go functions as Lean functions, their contracts, and plain lemmas. -/
import Derived.Test.YtmgeffgcihfpcaaDoorQFnFiles13
import Derived.Laws.Cover1
import Derived.Test.YtmgeffgcihfpcaaDoorProg
import Derived.Below
import Derived.Deep.Draws
import Derived.Deep.AppendLies
import Derived.Maps.AppendAt
import Derived.OwnWalk
import Derived.Laws.BytesArg
import Derived.Laws.MakeOwn
import Derived.Laws.OwnMore
import Derived.Deep.OwnRows
import Derived.Tactics
import Derived.Lib.ConvBytes
import Derived.Laws.Slices
import Derived.WalkKit
import Derived.KernelRfl
import Derived.RowKit3
import Derived.Deep.LoopGhost
import Derived.Deep.QuietTactic
import Derived.BigQuiet
import Derived.WideLaws
import Derived.Deep.DeepCutAuto
import Derived.Deep.CutBlock
import Derived.Deep.RegionHeld3
import Derived.Laws.Rows
import Derived.Lib.AppendStr
import Derived.ArgAppend
import Derived.Laws.IdiomCopy
import Derived.OrdersHeld
import Derived.Laws.BitsLemmas
import Derived.RowKit
import Derived.Test.YtmgeffgcihfpcaaDoorVFnFilesWords
import Derived.Test.YtmgeffgcihfpcaaDoorVFnFilesLast
import Derived.Test.YtmgeffgcihfpcaaDoorVFnFilesTab
import Derived.Test.YtmgeffgcihfpcaaDoorVFnFilesFour
import Derived.Test.YtmgeffgcihfpcaaDoorVFnFilesQPut
import Derived.Test.YtmgeffgcihfpcaaDoorVFnFilesApart
import Derived.Test.YtmgeffgcihfpcaaDoorVFnFilesArr
import Derived.Test.YtmgeffgcihfpcaaDoorVFnFilesZeros
import Derived.Test.YtmgeffgcihfpcaaDoorVFnFilesFoot
import Derived.Test.YtmgeffgcihfpcaaDoorVFnFilesKept
import Derived.Test.YtmgeffgcihfpcaaDoorVFnFilesShare
import Derived.Test.YtmgeffgcihfpcaaDoorVFnFilesN
import Derived.Test.YtmgeffgcihfpcaaDoorVFnFilesFootNe
import Derived.Test.YtmgeffgcihfpcaaDoorVFnFilesAt
import Derived.Test.YtmgeffgcihfpcaaDoorVFnFilesEqStruct
import Derived.Test.YtmgeffgcihfpcaaDoorVFnFilesRepsOne
import Derived.Test.YtmgeffgcihfpcaaDoorVFnFilesInv
import Derived.Test.YtmgeffgcihfpcaaDoorVFnFilesInvWords
import Derived.Test.YtmgeffgcihfpcaaDoorVFnFilesGuard
import Derived.Test.YtmgeffgcihfpcaaDoorVFnFilesNEv
import Derived.Test.YtmgeffgcihfpcaaDoorVFnFilesMore
import Derived.Deep.RegionLaw
import Derived.Lib.Overlaps
import Derived.Laws.Externs
import Derived.Lib.AppendZerosOnto
import Derived.Laws.NewBlocks
namespace Go.Proofs.YtmgeffgcihfpcaaDoor.F
open Go.Proofs.YtmgeffgcihfpcaaDoor
open Go.RowKit Go.Proofs.YtmgeffgcihfpcaaDoorW.PrintWords Go.Proofs.YtmgeffgcihfpcaaDoorW.PrintWords.Kd Go.Proofs.YtmgeffgcihfpcaaDoorW.PrintMore.Kd Go.Proofs.YtmgeffgcihfpcaaDoorW.PrintLast Go.Proofs.YtmgeffgcihfpcaaDoorW.PrintMore
attribute [local go_sem] max2_int min2_int max_two min_two max_three min_three max_four min_four   -- for this text's walks alone
set_option linter.unusedVariables false
set_option linter.unusedSimpArgs false
def errW : Option Int → Value
 | none => .nilIface
 | some c => .iface 0 (.int .i64 c)
theorem errW_none : errW none = .nilIface := rfl
theorem errW_some (c : Int) : errW (some c) = .iface 0 (.int .i64 c) := rfl
theorem info3 : (Tryd.prog.info? 3).map (fun i => (i.zero, i.size, i.bytes)) = some (some (.int .i64 0), 1, 8) := by kernel_rfl
theorem info5 : (Tryd.prog.info? 5).map (fun i => (i.zero, i.size, i.bytes)) = some (some (.int .u8 0), 1, 1) := by kernel_rfl
theorem info71 : (Tryd.prog.info? 71).map (fun i => (i.zero, i.size, i.bytes)) = some (some (.agg #[(.int .i64 0), (.string ⟨#[]⟩), (.string ⟨#[]⟩), (.slice none 0 0), (.int .i64 0)]), 5, 72) := by kernel_rfl
theorem info74 : (Tryd.prog.info? 74).map (fun i => (i.zero, i.size, i.bytes)) = some (some (.agg #[(.string ⟨#[]⟩), (.slice none 0 0), (.slice none 0 0)]), 3, 64) := by kernel_rfl
structure S101 where
 f0 : ByteArray
 f1 : (List Int)
 f2 : (List Int)
structure S74 where
 f0 : ByteArray
 f1 : (List Int)
 f2 : (List Int)
def z74 : S74 := ⟨(⟨#[]⟩ : ByteArray), ([] : List Int), ([] : List Int)⟩
def k74 : Kd S74 := Kd.iso (Kd.pair Kd.string (AP.apair (Kd.slice 5 (Kd.int .u8)) (Kd.slice 5 (Kd.int .u8)))) (fun x : S74 => (x.f0, x.f1, x.f2))
theorem k74_open {w : World} {x : S74} {cs : List Value} (h : k74.K w x cs) : ∃ A1 c1 A2 c2, cs = [.string x.f0, .slice A1 x.f1.length c1, .slice A2 x.f2.length c2] ∧ x.f1.length ≤ c1 ∧ (Kd.int .u8).C w A1 x.f1.length x.f1 ∧ x.f2.length ≤ c2 ∧ (Kd.int .u8).C w A2 x.f2.length x.f2 := by
 obtain ⟨_, _, rfl, rfl, ⟨_, _, rfl, ⟨A1, c1, rfl, l1, g1⟩, ⟨A2, c2, rfl, l2, g2⟩⟩⟩ := h
 exact ⟨A1, c1, A2, c2, rfl, l1, g1, l2, g2⟩
theorem k74_openA {w : World} {base : Nat} {ok : Nat → Prop} {x : S74} {cs : List Value} (h : k74.M w base ok x cs) : ∃ p : Nat → Prop, ∃ v1 v2, cs = [.string x.f0, v1, v2] ∧ (Kd.int .u8).R 5 w base (fun k => ok k ∧ p k) v1 x.f1 ∧ (Kd.int .u8).R 5 w base (fun k => ok k ∧ ¬ p k) v2 x.f2 := by
 obtain ⟨_, _, rfl, rfl, ⟨_, _, rfl, p, ⟨v1, rfl, g1⟩, ⟨v2, rfl, g2⟩⟩⟩ := h
 exact ⟨p, v1, v2, rfl, g1, g2⟩
theorem k74_mk (w : World) (x : S74) {A1 : Option Addr} {c1 : Nat} (l1 : x.f1.length ≤ c1) (g1 : (Kd.int .u8).C w A1 x.f1.length x.f1) {A2 : Option Addr} {c2 : Nat} (l2 : x.f2.length ≤ c2) (g2 : (Kd.int .u8).C w A2 x.f2.length x.f2) : k74.K w x [.string x.f0, .slice A1 x.f1.length c1, .slice A2 x.f2.length c2] := ⟨[.string x.f0], [.slice A1 x.f1.length c1, .slice A2 x.f2.length c2], rfl, rfl, ⟨[.slice A1 x.f1.length c1], [.slice A2 x.f2.length c2], rfl, ⟨A1, c1, rfl, l1, g1⟩, ⟨A2, c2, rfl, l2, g2⟩⟩⟩
theorem k74_mkM (w : World) (base : Nat) (ok : Nat → Prop) (x : S74) {v1 : Value} (g1 : (Kd.int .u8).R 5 w base ok v1 x.f1) {v2 : Value} (g2 : (Kd.int .u8).R 5 w base ok v2 x.f2) (hne : ∀ k, some k = v1.ownBlock → ¬ some k = v2.ownBlock) : k74.M w base ok x [.string x.f0, v1, v2] := ⟨[.string x.f0], [v1, v2], rfl, rfl, ⟨[v1], [v2], rfl, _, ⟨v1, rfl, (AP.split_of rfl rfl g1 g2 hne).1⟩, ⟨v2, rfl, (AP.split_of rfl rfl g1 g2 hne).2⟩⟩⟩
def rd_T74 (xs : List S74) (i : Int) : S74 := xs.getD i.toNat z74
theorem at_T74 {w : World} {A : Option Addr} {n : Nat} {xs : List S74} (h : Kd.C k74 w A n xs) (i : Int) (h0 : 0 ≤ i) (h1 : i < n) : ∃ ad A1 c1 A2 c2, A = some ad ∧ w.cell? (ad.add (i.toNat * 3)) = some (.string (rd_T74 xs i).f0) ∧ w.cell? ⟨(ad.add (i.toNat * 3)).block, (ad.add (i.toNat * 3)).off + 1, none⟩ = some (.slice A1 (rd_T74 xs i).f1.length c1) ∧ w.cell? ⟨(ad.add (i.toNat * 3)).block, (ad.add (i.toNat * 3)).off + 2, none⟩ = some (.slice A2 (rd_T74 xs i).f2.length c2) ∧ (rd_T74 xs i).f1.length ≤ c1 ∧ (Kd.int .u8).C w A1 (rd_T74 xs i).f1.length (rd_T74 xs i).f1 ∧ (rd_T74 xs i).f2.length ≤ c2 ∧ (Kd.int .u8).C w A2 (rd_T74 xs i).f2.length (rd_T74 xs i).f2 := by
 obtain ⟨ad, c, e, _, hK, hc0⟩ := C_get h z74 i h0 h1
 have hc : ∀ j u, c[j]? = some u → w.cell? (ad.add (i.toNat * 3 + j)) = some u := hc0
 obtain ⟨A1, c1, A2, c2, rfl, l1, g1, l2, g2⟩ := k74_open hK
 exact ⟨ad, A1, c1, A2, c2, e, hc 0 _ rfl, by rw [← add_field _ _ 1 (by omega)]; exact hc 1 _ rfl, by rw [← add_field _ _ 2 (by omega)]; exact hc 2 _ rfl, l1, g1, l2, g2⟩
structure S90 where
 f0 : Int
 f1 : ByteArray
 f2 : ByteArray
 f3 : (List Int)
 f4 : Int
structure S71 where
 f0 : Int
 f1 : ByteArray
 f2 : ByteArray
 f3 : (List Int)
 f4 : Int
def z71 : S71 := ⟨(0 : Int), (⟨#[]⟩ : ByteArray), (⟨#[]⟩ : ByteArray), ([] : List Int), (0 : Int)⟩
def k71 : Kd S71 := Kd.iso (Kd.pair (Kd.int .i64) (Kd.pair Kd.string (Kd.pair Kd.string (Kd.pair (Kd.slice 5 (Kd.int .u8)) (Kd.int .i64))))) (fun x : S71 => (x.f0, x.f1, x.f2, x.f3, x.f4))
theorem k71_open {w : World} {x : S71} {cs : List Value} (h : k71.K w x cs) : ∃ A3 c3, cs = [.int .i64 x.f0, .string x.f1, .string x.f2, .slice A3 x.f3.length c3, .int .i64 x.f4] ∧ x.f3.length ≤ c3 ∧ (Kd.int .u8).C w A3 x.f3.length x.f3 := by
 obtain ⟨_, _, rfl, rfl, ⟨_, _, rfl, rfl, ⟨_, _, rfl, rfl, ⟨_, _, rfl, ⟨A3, c3, rfl, l3, g3⟩, rfl⟩⟩⟩⟩ := h
 exact ⟨A3, c3, rfl, l3, g3⟩
theorem k71_mkM (w : World) (base : Nat) (ok : Nat → Prop) (x : S71) {v3 : Value} (g3 : (Kd.int .u8).R 5 w base ok v3 x.f3) : k71.M w base ok x [.int .i64 x.f0, .string x.f1, .string x.f2, v3, .int .i64 x.f4] := ⟨[.int .i64 x.f0], [.string x.f1, .string x.f2, v3, .int .i64 x.f4], rfl, rfl, ⟨[.string x.f1], [.string x.f2, v3, .int .i64 x.f4], rfl, rfl, ⟨[.string x.f2], [v3, .int .i64 x.f4], rfl, rfl, ⟨[v3], [.int .i64 x.f4], rfl, ⟨v3, rfl, g3⟩, rfl⟩⟩⟩⟩
def rd_T71 (xs : List S71) (i : Int) : S71 := xs.getD i.toNat z71
theorem at_T71 {w : World} {A : Option Addr} {n : Nat} {xs : List S71} (h : Kd.C k71 w A n xs) (i : Int) (h0 : 0 ≤ i) (h1 : i < n) : ∃ ad A3 c3, A = some ad ∧ w.cell? (ad.add (i.toNat * 5)) = some (.int .i64 (rd_T71 xs i).f0) ∧ w.cell? ⟨(ad.add (i.toNat * 5)).block, (ad.add (i.toNat * 5)).off + 1, none⟩ = some (.string (rd_T71 xs i).f1) ∧ w.cell? ⟨(ad.add (i.toNat * 5)).block, (ad.add (i.toNat * 5)).off + 2, none⟩ = some (.string (rd_T71 xs i).f2) ∧ w.cell? ⟨(ad.add (i.toNat * 5)).block, (ad.add (i.toNat * 5)).off + 3, none⟩ = some (.slice A3 (rd_T71 xs i).f3.length c3) ∧ w.cell? ⟨(ad.add (i.toNat * 5)).block, (ad.add (i.toNat * 5)).off + 4, none⟩ = some (.int .i64 (rd_T71 xs i).f4) ∧ (rd_T71 xs i).f3.length ≤ c3 ∧ (Kd.int .u8).C w A3 (rd_T71 xs i).f3.length (rd_T71 xs i).f3 := by
 obtain ⟨ad, c, e, _, hK, hc0⟩ := C_get h z71 i h0 h1
 have hc : ∀ j u, c[j]? = some u → w.cell? (ad.add (i.toNat * 5 + j)) = some u := hc0
 obtain ⟨A3, c3, rfl, l3, g3⟩ := k71_open hK
 exact ⟨ad, A3, c3, e, hc 0 _ rfl, by rw [← add_field _ _ 1 (by omega)]; exact hc 1 _ rfl, by rw [← add_field _ _ 2 (by omega)]; exact hc 2 _ rfl, by rw [← add_field _ _ 3 (by omega)]; exact hc 3 _ rfl, by rw [← add_field _ _ 4 (by omega)]; exact hc 4 _ rfl, l3, g3⟩
theorem Zs {n : Nat} {w w1 : World} (h : Below n w w1 := by repeat (first | (with_reducible first | exact HB.out | apply below_alloc | apply pw_below_drewN | apply below_drew1) | refine below_set ?_ (Aside0.out (by assumption)) | exact HB.out)) : Below n w w1 := h
theorem Zk {w : World} {g : Nat} {o : Obj} (h : w.heap[g]? = some o := by (with_reducible repeat (first | refine blk_drewN ?_ _ | refine blk_drew ?_ | refine blk_alloc ?_ _)); exact Aside0.out (by assumption)) : w.heap[g]? = some o := h
theorem Zo {p : Prop} [Decidable p] (h : decide p = true := by first | (with_reducible assumption) | assumption) : p := of_decide_eq_true h
theorem Zc {w w1 : World} {a : Addr} {v : Value} (hb : Below w.heap.size w w1) (h : w.cell? a = some v) : w1.cell? a = some v := (hb.cell (World.block_lt_of_cell? w _ h)).trans h
theorem ZS {α : Type} {d : Kd α} {e base : Nat} {w w1 : World} {ok : Nat → Prop} {v : Value} {xs : List α} (h : Kd.S d e w base ok v xs) (hb : Below w.heap.size w w1 := by (with_reducible repeat (first | exact Below.refl _ _ | apply below_alloc | apply pw_below_drewN | apply below_drew1))) : Kd.S d e w1 base ok v xs := S_below h hb
theorem ZR {α : Type} {d : Kd α} {e base : Nat} {w w1 : World} {ok : Nat → Prop} {v : Value} {xs : List α} (h : d.R e w base ok v xs) (hb : Below w.heap.size w w1 := by (with_reducible repeat (first | exact Below.refl _ _ | apply below_alloc | apply pw_below_drewN | apply below_drew1))) : d.R e w1 base ok v xs := R_below h hb
theorem ZE {p : Prop} (h : p := by first | rfl | (simp [errW_none, errW_some] <;> rfl) | (simp [*, errW_none, errW_some] <;> rfl)) : p := h
theorem ZG {P : Program} {ops : Array Oper} {Q : Exit → Act → World → Prop} {rest : List Oper} {oi : Oper} {a : Act} {w : World} (N : Option Tmp) {f : FuncId} {fn : Func} {as_ : Array Operand} {ts : Array TypeId} (hf : P.funcs[f]? = some fn) (args : Array Value) (hop : oi.op = .call { callee := .value (.func f), args := as_, argTypes := ts }) (h : Calls P f args w fun e w' => ∃ v, e = .returned v ∧ wpList P ops Q rest (a.put N v) w') (hd : oi.dst = N := by rfl) (hg : oi.guard = none := by rfl) (hn : (fn.name == "runtime.NumGoroutine") = false := by kernel_rfl) (hb : fn.body.isSome = true := by rfl) (hargs : as_.map a.eval = args := by (try simp only [List.map_toArray, List.map_cons, List.map_nil]); first | done | rfl | (simp only [List.length_drop, List.length_take]; rfl)) : wpList P ops Q (oi :: rest) a w := goesL_ N hd hg hf hn hb args hop hargs h
abbrev Za := @blk_drewN
abbrev Zb := @blk_drew
abbrev Zd := @pw_below_drewN
abbrev Ze := @below_drew1
abbrev Zf := @below_alloc
abbrev Zg := @below_set
abbrev Zh := @Aside0.mk
abbrev Zi := @World.block_lt_of_cell?
abbrev Zl := @below_step
abbrev Zm := @blk_below
abbrev Zn := @blk_frozen
abbrev Zq := @bodyPost_ret
end Go.Proofs.YtmgeffgcihfpcaaDoor.F

namespace Go.Proofs.YtmgeffgcihfpcaaDoor.LW
set_option linter.unusedVariables false
set_option linter.unusedSimpArgs false
open Go.RowKit Go.Proofs.YtmgeffgcihfpcaaDoorW.PrintWords Go.Proofs.YtmgeffgcihfpcaaDoorW.PrintLast Go.Proofs.YtmgeffgcihfpcaaDoorW.PrintMore
structure It where
  P : World → Prop
  F : Nat → Prop
  mv : ∀ w w1 : World, (∀ k, F k → w1.heap[k]? = w.heap[k]?) → P w → P w1
def Its (w : World) (B n : Nat) : List It → Prop
  | [] => True
  | i :: r => (∀ k, i.F k → B ≤ k ∧ k < n) ∧ i.P w ∧ (∀ j, j ∈ r → ∀ k, i.F k → ¬ j.F k) ∧ Its w B n r
variable {w w0 w1 : World} {B B' n m g t e : Nat} {l : List It} {i : It} {cs : Array Value} {α : Type} {d : Kd α} {v : Value} {xs ys : List α} {F S ok : Nat → Prop}
theorem Its.mono (h : Its w B n l) (hB : B' ≤ B) (hn : n ≤ m) : Its w B' m l := by
  induction l with
  | nil => trivial
  | cons i r ih => exact ⟨fun k hk => ⟨Nat.le_trans hB (h.1 k hk).1, Nat.lt_of_lt_of_le (h.1 k hk).2 hn⟩, h.2.1, h.2.2.1, ih h.2.2.2⟩
theorem Its.all (h : Its w B n l) : ∀ j, j ∈ l → j.P w ∧ ∀ k, j.F k → B ≤ k ∧ k < n := by
  induction l with
  | nil => intro j hj; cases hj
  | cons i r ih =>
    intro j hj
    cases hj with
    | head => exact ⟨h.2.1, h.1⟩
    | tail _ hj => exact ih h.2.2.2 j hj
theorem Its.move (h : Its w B n l) (hm : ∀ j, j ∈ l → ∀ k, j.F k → w1.heap[k]? = w.heap[k]?) : Its w1 B n l := by
  induction l with
  | nil => trivial
  | cons i r ih => exact ⟨h.1, i.mv w w1 (hm i List.mem_cons_self) h.2.1, h.2.2.1, ih h.2.2.2 (fun j hj => hm j (List.mem_cons_of_mem _ hj))⟩
theorem Its.app {l' : List It} (h' : Its w B' n l') (h : Its w B B' l) (hB : B ≤ B') (hn : B' ≤ n) : Its w B n (l' ++ l) := by
  induction l' with
  | nil => exact h.mono (Nat.le_refl _) hn
  | cons i r ih =>
    refine ⟨fun k hk => ⟨Nat.le_trans hB (h'.1 k hk).1, (h'.1 k hk).2⟩, h'.2.1, fun j hj k hk => ?_, ih h'.2.2.2⟩
    rcases List.mem_append.1 hj with hj | hj
    · exact h'.2.2.1 j hj k hk
    intro hf
    have h1 := (h'.1 k hk).1
    have h2 := ((h.all j hj).2 k hf).2
    omega
theorem Its.write (h : Its w B n l) (i' : It) (hF : ∀ k, i'.F k → i.F k) (hP : i'.P w1) (hk : ∀ k, k < n → ¬ i.F k → w1.heap[k]? = w.heap[k]?) : ∀ q, l[q]? = some i → Its w1 B n (l.set q i') := by
  induction l with
  | nil => intro q hq; simp at hq
  | cons j r ih =>
    intro q hq
    cases q with
    | zero =>
      simp only [List.getElem?_cons_zero, Option.some.injEq] at hq
      subst hq
      exact ⟨fun k hk' => h.1 k (hF k hk'), hP, fun x hx k hk' => h.2.2.1 x hx k (hF k hk'), h.2.2.2.move (fun x hx k hk' => hk k ((h.2.2.2.all x hx).2 k hk').2 (fun hi => h.2.2.1 x hx k hi hk'))⟩
    | succ q =>
      rw [List.getElem?_cons_succ] at hq
      have hm := List.mem_of_getElem? hq
      refine ⟨h.1, j.mv w w1 (fun k hk' => hk k (h.1 k hk').2 (fun hi => h.2.2.1 i hm k hk' hi)) h.2.1, fun x hx k hk' => ?_, ih h.2.2.2 q hq⟩
      rcases List.mem_or_eq_of_mem_set hx with hx | rfl
      · exact h.2.2.1 x hx k hk'
      exact fun hi => h.2.2.1 i hm k hk' (hF k hi)
def box (g : Nat) (cs : Array Value) (t : Nat) : It := ⟨fun w => w.heap[g]? = some (.cells cs t (0, 0)), fun k => k = g, fun _ _ hk h => (hk g rfl).trans h⟩
def row {α : Type} (d : Kd α) (e B : Nat) (v : Value) (xs : List α) (F : Nat → Prop) : It := ⟨fun w => Kd.S d e w B F v xs, F, fun _ _ hk h => Kd.S_move h hk⟩
structure St (w0 w : World) (l : List It) : Prop where
  b : Below w0.heap.size w0 w
  i : Its w w0.heap.size w.heap.size l
theorem St.start (w : World) : St w w [] := ⟨Below.refl _ _, trivial⟩
theorem St.step (h : St w0 w l) (hb : Below w.heap.size w w1) : St w0 w1 l :=
  ⟨below_step h.b hb, (h.i.move (fun j hj k hk => hb.block k ((h.i.all j hj).2 k hk).2)).mono (Nat.le_refl _) hb.size⟩
theorem St.drew (h : St w0 w l) : St w0 w.drew l := h.step (below_drew (Below.refl _ _))
theorem St.add (h : St w0 w l) (hb : Below w.heap.size w w1) {l' : List It} (hn : Its w1 w.heap.size w1.heap.size l') : St w0 w1 (l' ++ l) :=
  ⟨below_step h.b hb, hn.app (h.i.move (fun j hj k hk => hb.block k ((h.i.all j hj).2 k hk).2)) h.b.size hb.size⟩
theorem St.box (h : St w0 w l) (hg : g = w.heap.size) (hx : w1.heap[g]? = some (.cells cs t (0, 0))) (hb : Below w.heap.size w w1) : St w0 w1 (box g cs t :: l) :=
  h.add hb (l' := [LW.box g cs t]) ⟨fun k hk => by have : k = g := hk; subst this; exact ⟨by omega, blk_lt hx⟩, hx, fun j hj => (List.not_mem_nil hj).elim, trivial⟩
theorem St.alloc (h : St w0 w l) (cs : Array Value) (t : Nat) (hg : g = w.heap.size) : St w0 (w.alloc (.cells cs t)) (LW.box g cs t :: l) := h.box hg (by subst hg; simpa using blk_new w (.cells cs t)) (below_alloc (Below.refl _ _) _)
theorem St.lt (h : St w0 w l) (q : Nat) (hq : l[q]? = some (LW.box g cs t)) : g < w.heap.size := blk_lt (h.i.all _ (List.mem_of_getElem? hq)).1
theorem S_between (h : Kd.S d e w1 w.heap.size ok v xs) (h0 : w0.heap.size ≤ w.heap.size) : Kd.S d e w1 w0.heap.size (fun k => w.heap.size ≤ k ∧ k < w1.heap.size) v xs := Kd.S_lower (Kd.S_mono (Kd.S_bound h) (fun k hk => ⟨hk.2.1, hk.2.2.1⟩)) h0
theorem St.row (h : St w0 w l) (hb : Below w.heap.size w w1) (ho : Kd.S d e w1 w.heap.size ok v xs) : St w0 w1 (row d e w0.heap.size v xs (fun k => w.heap.size ≤ k ∧ k < w1.heap.size) :: l) :=
  h.add hb (l' := [LW.row d e w0.heap.size v xs (fun k => w.heap.size ≤ k ∧ k < w1.heap.size)]) ⟨fun k hk => hk, S_between ho h.b.size, fun j hj => (List.not_mem_nil hj).elim, trivial⟩
theorem S_flat (hE : d.E = []) (h : d.R e w B ok v xs) : Kd.S d e w B ok v xs := by
  obtain ⟨h0, inner, ho, hr⟩ := h
  refine ⟨fun _ => 0, h0, inner, by rw [List.length_zipIdx]; exact ho, by rw [List.length_zipIdx]; exact hr.1, fun j p hj => ?_⟩
  rw [List.getElem?_zipIdx, Nat.zero_add] at hj
  obtain ⟨x, hx, rfl⟩ := Option.map_eq_some_iff.1 hj
  refine d.M_mono (fun k hk => ?_) (d.M_bound (hr.2 j x hx))
  obtain ⟨_, _, _, q, hq, _⟩ := hk
  rw [hE] at hq
  cases hq
theorem St.rowR (h : St w0 w l) (hE : d.E = []) (hb : Below w.heap.size w w1) (ho : d.R e w1 w.heap.size ok v xs) : St w0 w1 (LW.row d e w0.heap.size v xs (fun k => w.heap.size ≤ k ∧ k < w1.heap.size) :: l) := h.row hb (S_flat hE ho)
theorem setCell_size (w : World) (p : Addr) (u : Value) : (w.setCell p u).heap.size = w.heap.size := by simp [World.setCell]
theorem St.set (h : St w0 w l) (q : Nat) (hq : l[q]? = some (LW.box g cs t)) (j : Nat) (u : Value) : St w0 (w.setCell ⟨g, j, none⟩ u) (l.set q (LW.box g (cs.setIfInBounds j u) t)) := by
  have hx := h.i.all _ (List.mem_of_getElem? hq)
  refine ⟨below_set h.b (hx.2 g rfl).1, ?_⟩
  rw [setCell_size]
  exact h.i.write (i := LW.box g cs t) (LW.box g (cs.setIfInBounds j u) t) (fun k hk => hk) (blk_set hx.1 j u) (fun k _ hk => Below.heap_setCell w ⟨g, j, none⟩ u k hk) q hq
theorem St.cell (h : St w0 w l) (q : Nat) (hq : l[q]? = some (LW.box g cs t)) (j : Nat) {u : Value} (hu : cs[j]? = some u) : w.cell? ⟨g, j, none⟩ = some u := (blk_cell (h.i.all _ (List.mem_of_getElem? hq)).1 j).trans hu
theorem St.blk (h : St w0 w l) (q : Nat) (hq : l[q]? = some (LW.box g cs t)) : w.heap[g]? = some (.cells cs t (0, 0)) := (h.i.all _ (List.mem_of_getElem? hq)).1
theorem St.frozen (h : St w0 w l) (q : Nat) (hq : l[q]? = some (LW.box g cs t)) (j : Nat) : w.frozen? ⟨g, j, none⟩ = false := blk_frozen (h.i.all _ (List.mem_of_getElem? hq)).1 j
theorem St.own (h : St w0 w l) (q : Nat) (hq : l[q]? = some (LW.row d e B v xs F)) : Kd.S d e w B F v xs := (h.i.all _ (List.mem_of_getElem? hq)).1
theorem St.reads {A : Option Addr} {m c : Nat} (h : St w0 w l) (q : Nat) (hq : l[q]? = some (LW.row d e B (.slice A m c) xs F)) : m = xs.length ∧ m ≤ c ∧ d.C w A xs.length xs := Kd.S_reads' (h.own q hq)
theorem St.write (h : St w0 w l) (q : Nat) (hq : l[q]? = some (LW.row d e w0.heap.size v xs F)) (hS : Kd.S d e w1 w0.heap.size F v ys) (hB : Below w0.heap.size w0 w1) (hk : Kept w w1 F) : St w0 w1 (l.set q (LW.row d e w0.heap.size v ys F)) := by
  have hx := h.i.all _ (List.mem_of_getElem? hq)
  exact ⟨hB, (h.i.write (i := LW.row d e w0.heap.size v xs F) (LW.row d e w0.heap.size v ys F) (fun k hk => hk) hS (fun k hlt hn => hk.2 k hlt hn) q hq).mono (Nat.le_refl _) hk.1⟩
theorem St.writeV {v' : Value} (h : St w0 w l) (q : Nat) (hq : l[q]? = some (LW.row d e w0.heap.size v xs F)) (hS : Kd.S d e w1 w0.heap.size F v' ys) (hB : Below w0.heap.size w0 w1) (hk : Kept w w1 F) : St w0 w1 (l.set q (LW.row d e w0.heap.size v' ys F)) := by
  have hx := h.i.all _ (List.mem_of_getElem? hq)
  exact ⟨hB, (h.i.write (i := LW.row d e w0.heap.size v xs F) (LW.row d e w0.heap.size v' ys F) (fun k hk => hk) hS (fun k hlt hn => hk.2 k hlt hn) q hq).mono (Nat.le_refl _) hk.1⟩
theorem Its.disj : ∀ {l : List It}, Its w B n l → ∀ (p q : Nat) (i j : It), p ≠ q → l[p]? = some i → l[q]? = some j → ∀ k, i.F k → ¬ j.F k
  | [], _, p, q, i, j, _, hi, _ => by simp at hi
  | a :: r, h, 0, 0, i, j, hn, _, _ => absurd rfl hn
  | a :: r, h, 0, q + 1, i, j, hn, hi, hj => by
    rw [List.getElem?_cons_succ] at hj
    simp only [List.getElem?_cons_zero, Option.some.injEq] at hi
    subst hi
    exact h.2.2.1 j (List.mem_of_getElem? hj)
  | a :: r, h, p + 1, 0, i, j, hn, hi, hj => by
    rw [List.getElem?_cons_succ] at hi
    simp only [List.getElem?_cons_zero, Option.some.injEq] at hj
    subst hj
    exact fun k hk hf => h.2.2.1 i (List.mem_of_getElem? hi) k hf hk
  | a :: r, h, p + 1, q + 1, i, j, hn, hi, hj => by
    rw [List.getElem?_cons_succ] at hi hj
    exact Its.disj h.2.2.2 p q i j (by omega) hi hj
theorem St.ne {g' t' : Nat} {cs' : Array Value} (h : St w0 w l) (p q : Nat) (hn : p ≠ q) (hp : l[p]? = some (LW.box g cs t)) (hq : l[q]? = some (LW.box g' cs' t')) : g ≠ g' := fun he => Its.disj h.i p q _ _ hn hp hq g rfl he
def gone : It := ⟨fun _ => True, fun _ => False, fun _ _ _ _ => trivial⟩
theorem Its.of : ∀ {l : List It}, (∀ (q : Nat) (i : It), l[q]? = some i → (∀ k, i.F k → B ≤ k ∧ k < n) ∧ i.P w) → (∀ (p q : Nat) (i j : It), p < q → l[p]? = some i → l[q]? = some j → ∀ k, i.F k → ¬ j.F k) → Its w B n l
  | [], _, _ => trivial
  | a :: r, h1, h2 => ⟨(h1 0 a rfl).1, (h1 0 a rfl).2, fun j hj => by
      obtain ⟨q, hq⟩ := List.mem_iff_getElem?.1 hj
      exact h2 0 (q + 1) a j (by omega) rfl (by rw [List.getElem?_cons_succ]; exact hq), Its.of (fun q i hq => h1 (q + 1) i (by rw [List.getElem?_cons_succ]; exact hq)) (fun p q i j hpq hp hq => h2 (p + 1) (q + 1) i j (by omega) (by rw [List.getElem?_cons_succ]; exact hp) (by rw [List.getElem?_cons_succ]; exact hq))⟩
theorem St.merge (h : St w0 w l) (q p : Nat) (hn : q ≠ p) {i j : It} (hq : l[q]? = some i) (hp : l[p]? = some j) (i' : It) (hF : ∀ k, i'.F k → i.F k ∨ j.F k) (hP : i'.P w1) (hB : Below w0.heap.size w0 w1) (hkp : Kept w w1 i.F) : St w0 w1 ((l.set q i').set p gone) := by
  have hql : q < l.length := (List.getElem?_eq_some_iff.1 hq).1
  have hpl : p < l.length := (List.getElem?_eq_some_iff.1 hp).1
  have hI := h.i.all i (List.mem_of_getElem? hq)
  have hJ := h.i.all j (List.mem_of_getElem? hp)
  have look : ∀ (m : Nat) (x : It), ((l.set q i').set p gone)[m]? = some x → (m = p ∧ x = gone) ∨ (m ≠ p ∧ m = q ∧ x = i') ∨ (m ≠ p ∧ m ≠ q ∧ l[m]? = some x) := by
    intro m x hm
    by_cases e1 : m = p
    · subst e1
      rw [List.getElem?_set_self (by simpa using hpl)] at hm
      exact .inl ⟨rfl, (Option.some.inj hm).symm⟩
    rw [List.getElem?_set_ne (Ne.symm e1)] at hm
    by_cases e2 : m = q
    · subst e2
      rw [List.getElem?_set_self hql] at hm
      exact .inr (.inl ⟨e1, rfl, (Option.some.inj hm).symm⟩)
    rw [List.getElem?_set_ne (Ne.symm e2)] at hm
    exact .inr (.inr ⟨e1, e2, hm⟩)
  have apart : ∀ (m : Nat) (x : It), m ≠ p → m ≠ q → l[m]? = some x → ∀ k, x.F k → ¬ i.F k ∧ ¬ j.F k := fun m x e1 e2 hm k hk => ⟨Its.disj h.i m q x i e2 hm hq k hk, Its.disj h.i m p x j e1 hm hp k hk⟩
  refine ⟨hB, Its.of (fun m x hm0 => ?_) (fun m m' x y hlt hm0 hm0' => ?_)⟩
  · rcases look m x hm0 with ⟨_, rfl⟩ | ⟨_, _, rfl⟩ | ⟨e1, e2, hm⟩
    · exact ⟨fun k hk => hk.elim, trivial⟩
    · refine ⟨fun k hk => ?_, hP⟩
      rcases hF k hk with h2 | h2
      · exact ⟨(hI.2 k h2).1, Nat.lt_of_lt_of_le (hI.2 k h2).2 hkp.1⟩
      exact ⟨(hJ.2 k h2).1, Nat.lt_of_lt_of_le (hJ.2 k h2).2 hkp.1⟩
    have hX := h.i.all x (List.mem_of_getElem? hm)
    exact ⟨fun k hkx => ⟨(hX.2 k hkx).1, Nat.lt_of_lt_of_le (hX.2 k hkx).2 hkp.1⟩, x.mv w w1 (fun k hkx => hkp.2 k (hX.2 k hkx).2 (apart m x e1 e2 hm k hkx).1) hX.1⟩
  intro k hx hy
  rcases look m x hm0 with ⟨_, rfl⟩ | ⟨_, e, rfl⟩ | ⟨e1, e2, hm⟩
  · exact hx
  · rcases look m' y hm0' with ⟨_, rfl⟩ | ⟨_, e', rfl⟩ | ⟨e1', e2', hm'⟩
    · exact hy
    · omega
    rcases hF k hx with h2 | h2
    · exact (apart m' y e1' e2' hm' k hy).1 h2
    exact (apart m' y e1' e2' hm' k hy).2 h2
  rcases look m' y hm0' with ⟨_, rfl⟩ | ⟨_, e', rfl⟩ | ⟨e1', e2', hm'⟩
  · exact hy
  · rcases hF k hy with h2 | h2
    · exact (apart m x e1 e2 hm k hx).1 h2
    exact (apart m x e1 e2 hm k hx).2 h2
  exact Its.disj h.i m m' x y (by omega) hm hm' k hx hy
end Go.Proofs.YtmgeffgcihfpcaaDoor.LW

namespace Go.Proofs.YtmgeffgcihfpcaaDoor.LW
open Go.RowKit Go.Proofs.YtmgeffgcihfpcaaDoorW.PrintWords Go.Proofs.YtmgeffgcihfpcaaDoorW.PrintLast Go.Proofs.YtmgeffgcihfpcaaDoorW.PrintMore
set_option linter.unusedVariables false
set_option linter.unusedSimpArgs false
theorem St.grow {w0 w w1 : World} {l : List It} {i : It} (h : St w0 w l) (q : Nat) (hq : l[q]? = some i) (i' : It) (hF : ∀ k, i'.F k → i.F k ∨ (w.heap.size ≤ k ∧ k < w1.heap.size)) (hP : i'.P w1) (hB : Below w0.heap.size w0 w1) (hk : Kept w w1 i.F) : St w0 w1 (l.set q i') := by
  have hql : q < l.length := (List.getElem?_eq_some_iff.1 hq).1
  have hI := h.i.all i (List.mem_of_getElem? hq)
  have look : ∀ (m : Nat) (x : It), (l.set q i')[m]? = some x → (m = q ∧ x = i') ∨ (m ≠ q ∧ l[m]? = some x) := by
    intro m x hm
    by_cases e : m = q
    · subst e
      rw [List.getElem?_set_self hql] at hm
      exact .inl ⟨rfl, (Option.some.inj hm).symm⟩
    rw [List.getElem?_set_ne (Ne.symm e)] at hm
    exact .inr ⟨e, hm⟩
  refine ⟨hB, Its.of (fun m x hm => ?_) (fun m m' x y hlt hm hm' k hx hy => ?_)⟩
  · rcases look m x hm with ⟨_, rfl⟩ | ⟨e, hm⟩
    · refine ⟨fun k hkx => ?_, hP⟩
      rcases hF k hkx with h2 | h2
      · exact ⟨(hI.2 k h2).1, Nat.lt_of_lt_of_le (hI.2 k h2).2 hk.1⟩
      exact ⟨Nat.le_trans h.b.size h2.1, h2.2⟩
    have hX := h.i.all x (List.mem_of_getElem? hm)
    exact ⟨fun k hkx => ⟨(hX.2 k hkx).1, Nat.lt_of_lt_of_le (hX.2 k hkx).2 hk.1⟩, x.mv w w1 (fun k hkx => hk.2 k (hX.2 k hkx).2 (fun hi => Its.disj h.i m q x i e hm hq k hkx hi)) hX.1⟩
  rcases look m x hm with ⟨e, hxe⟩ | ⟨e, hm2⟩
  · rcases look m' y hm' with ⟨e', _⟩ | ⟨e', hm3⟩
    · omega
    rw [hxe] at hx
    rcases hF k hx with h2 | h2
    · exact Its.disj h.i m' q y i e' hm3 hq k hy h2
    have := ((h.i.all y (List.mem_of_getElem? hm3)).2 k hy).2
    omega
  rcases look m' y hm' with ⟨e', hye⟩ | ⟨e', hm3⟩
  · rw [hye] at hy
    rcases hF k hy with h2 | h2
    · exact Its.disj h.i m q x i e hm2 hq k hx h2
    have := ((h.i.all x (List.mem_of_getElem? hm2)).2 k hx).2
    omega
  exact Its.disj h.i m m' x y (by omega) hm2 hm3 k hx hy
end Go.Proofs.YtmgeffgcihfpcaaDoor.LW
namespace Go.Proofs.YtmgeffgcihfpcaaDoor.F
open Go.RowKit Go.Proofs.YtmgeffgcihfpcaaDoorW.PrintWords Go.Proofs.YtmgeffgcihfpcaaDoorW.PrintLast Go.Proofs.YtmgeffgcihfpcaaDoorW.PrintMore
open Go.Proofs.YtmgeffgcihfpcaaDoor
set_option linter.unusedVariables false
set_option linter.unusedSimpArgs false
theorem cell_blk {w w1 : World} {g o : Nat} (h : w1.heap[g]? = w.heap[g]?) : w1.cell? ⟨g, o, none⟩ = w.cell? ⟨g, o, none⟩ := by
  simp only [World.cell?, h]
theorem frozen_blk {w w1 : World} {g o : Nat} (h : w1.heap[g]? = w.heap[g]?) : w1.frozen? ⟨g, o, none⟩ = w.frozen? ⟨g, o, none⟩ := by
  simp only [World.frozen?, h]
theorem blk_lt_of {w : World} {g o : Nat} {v : Value} (h : w.cell? ⟨g, o, none⟩ = some v) : g < w.heap.size := Zi w _ h
theorem lendLoose {w0 w : World} {l : List LW.It} {g n c : Nat} {xs : List S74} {F : Nat → Prop} (h : LW.St w0 w l) (q : Nat) (hq : l[q]? = some (LW.row k74 74 w0.heap.size (.slice (some ⟨g, 0, none⟩) n c) xs F)) (i : Int) (h0 : 0 ≤ i) (h1 : i < n) :
    ∃ (u1 u2 : Value) (ok2 : Nat → Prop), w.cell? ⟨g, i.toNat * 3, none⟩ = some (.string (rd_T74 xs i).f0) ∧ w.cell? ⟨g, i.toNat * 3 + 1, none⟩ = some u1 ∧ w.cell? ⟨g, i.toNat * 3 + 2, none⟩ = some u2 ∧ w.frozen? ⟨g, i.toNat * 3 + 2, none⟩ = false ∧ Kd.R (Kd.int .u8) 5 w w0.heap.size ok2 u2 (rd_T74 xs i).f2 ∧ (∀ k, ok2 k → k ≠ g) ∧ (∀ k, u2.ownBlock = some k → F k) ∧
      ∀ (v1 : Value) (w1 : World) (zs : List Int), (∀ ok : Nat → Prop, (∀ k, v1.ownBlock = some k → ok k) → Kd.R (Kd.int .u8) 5 w1 w0.heap.size ok v1 zs) → Below w0.heap.size w0 w1 → w.grownBy w1 u2.ownBlock → (v1.ownBlock = u2.ownBlock ∨ ∃ b, v1.ownBlock = some b ∧ w.heap.size ≤ b) →
        LW.St w0 (w1.setCell ⟨g, i.toNat * 3 + 2, none⟩ v1) (l.set q (LW.row k74 74 w0.heap.size (.slice (some ⟨g, 0, none⟩) n c) (xs.set i.toNat ⟨(rd_T74 xs i).f0, (rd_T74 xs i).f1, zs⟩) (fun k => F k ∨ (w.heap.size ≤ k ∧ k < w1.heap.size)))) := by
  have hS := h.own q hq
  have hFg : F g := (Kd.S_R hS).1 g (by simp [Value.ownBlock])
  have hbg := (h.i.all _ (List.mem_of_getElem? hq)).2 g hFg
  obtain ⟨oki, cs, hcl, hM, hcc, hfr, hoki, hH⟩ := Kd.S_elem (Kd.S_mono hS (fun k hk => (.inl hk : F k ∨ w.heap.size ≤ k))) z74 i h0 h1
  obtain ⟨pp, u1, u2, rfl, hA1, hA2⟩ := k74_openA hM
  refine ⟨u1, u2, fun k => oki k ∧ ¬ pp k, hcc 0 _ rfl, hcc 1 _ rfl, hcc 2 _ rfl, hfr 2, hA2, fun k hk => (hoki k hk.1).2, fun k hk => ((hoki k (hA2.1 k hk).1).1).elim id (fun a => absurd (Kd.R_lt hA2 k hk) (by omega)), fun v1 w1 zs hR hB hg hat => ?_⟩
  have hu2 : ∀ k, u2.ownBlock = some k → oki k := fun k hk => (hA2.1 k hk).1
  have H1 := Kd.H_grown (Kd.H_widen hH) hg (fun k hk => .inl (hu2 k hk))
  have hR1 : Kd.R (Kd.int .u8) 5 w1 w0.heap.size (fun k => oki k ∨ w.heap.size ≤ k) u1 (xs.getD i.toNat z74).f1 := Kd.R_mono (Kd.R_step hA1 (fun k hk hlt => hg.block k hlt (fun he => (hA2.1 k he.symm).2 hk.2))) (fun k hk => .inl hk.1)
  have hR2 := hR (fun k => oki k ∨ w.heap.size ≤ k) (fun k hk => by
    rcases hat with e | ⟨b, e, hb⟩
    · exact .inl (hu2 k (e ▸ hk))
    rw [e] at hk
    injection hk with hk
    exact .inr (hk ▸ hb))
  have hne : ∀ k, some k = u1.ownBlock → ¬ some k = v1.ownBlock := fun k a b => by
    rcases hat with e | ⟨b', e, hb⟩
    · rw [e] at b
      exact (hA2.1 k b.symm).2 (hA1.1 k a.symm).2
    rw [e] at b
    injection b with b
    have := Kd.R_lt hA1 k a.symm
    omega
  have hM1 := k74_mkM w1 w0.heap.size (fun k => oki k ∨ w.heap.size ≤ k) (⟨(xs.getD i.toNat z74).f0, (xs.getD i.toNat z74).f1, zs⟩ : S74) hR1 hR2 hne
  have hP := Kd.S_seg (okg := fun _ => False) (seg := [v1]) (j := 2) (x' := (⟨(xs.getD i.toNat z74).f0, (xs.getD i.toNat z74).f1, zs⟩ : S74)) (Kd.H_mono H1 (fun k hk => (⟨hk, fun hf => hf⟩ : (F k ∨ w.heap.size ≤ k) ∧ ¬ False))) h0 h1 (show 2 + 1 ≤ 3 by decide) hM1 (fun k hk => hk.elim (fun a => .inl (.inl a)) (fun a => .inl (.inr ⟨.inr a, a⟩))) (fun k hk => hk.elim)
  have hPS : Kd.S k74 74 (w1.setCell ⟨g, i.toNat * 3 + 2, none⟩ v1) w0.heap.size (fun k => F k ∨ w.heap.size ≤ k) (.slice (some ⟨g, 0, none⟩) n c) (xs.set i.toNat ⟨(xs.getD i.toNat z74).f0, (xs.getD i.toNat z74).f1, zs⟩) := hP.1
  refine h.grow q hq (LW.row k74 74 w0.heap.size (.slice (some ⟨g, 0, none⟩) n c) (xs.set i.toNat ⟨(xs.getD i.toNat z74).f0, (xs.getD i.toNat z74).f1, zs⟩) (fun k => F k ∨ (w.heap.size ≤ k ∧ k < w1.heap.size))) (fun k hk => ?_) (Kd.S_mono (Kd.S_bound hPS) (fun k hk => ?_)) (Zg hB hbg.1) ⟨?_, fun k hk hn => ?_⟩
  · rw [LW.setCell_size]; exact hk
  · have h2 := hk.2.2.1
    rw [LW.setCell_size] at h2
    exact hk.1.elim .inl (fun a => .inr ⟨a, h2⟩)
  · rw [LW.setCell_size]; exact hg.size
  rw [Below.heap_setCell _ _ _ k (fun he => hn (by rw [he]; exact hFg))]
  exact hg.block k hk (fun he => hn (by
    have := hu2 k he.symm
    rcases (hoki k this).1 with a | a
    · exact a
    omega))
end Go.Proofs.YtmgeffgcihfpcaaDoor.F

namespace Go.Proofs.YtmgeffgcihfpcaaDoor.LW
open Go.RowKit Go.Proofs.YtmgeffgcihfpcaaDoorW.PrintWords Go.Proofs.YtmgeffgcihfpcaaDoorW.PrintLast Go.Proofs.YtmgeffgcihfpcaaDoorW.PrintMore
set_option linter.unusedVariables false
set_option linter.unusedSimpArgs false
variable {w0 w w1 : World} {l : List It} {e B : Nat} {α : Type} {d : Kd α} {v v1 : Value} {xs : List α}
def pick (d : Kd α) (e B : Nat) (w0 : World) (v : Value) (xs : List α) : It :=
  ⟨fun w => ∃ rows : List (List Value), rows.length = xs.length ∧ (Kd.raw d.sz).R e w B (fun k => some k = v.ownBlock) v rows ∧ ∀ (j : Nat) (x : α) (c : List Value), xs[j]? = some x → rows[j]? = some c → d.K w0 x c, fun k => some k = v.ownBlock,
    fun w w1 hm h => by obtain ⟨rows, hl, hR, hc⟩ := h; exact ⟨rows, hl, Kd.R_move hR hm, hc⟩⟩
theorem St.pick0 (h : St w0 w l) : St w0 w (pick d e B w0 (.slice none 0 0) [] :: l) :=
  ⟨h.b, fun k hk => by simp [pick, Value.ownBlock] at hk, ⟨[], rfl, Kd.R_nil _ _ _ _ _, fun j x c hx => by simp at hx⟩, fun j hj k hk => by simp [pick, Value.ownBlock] at hk, h.i⟩
theorem St.drewN (h : St w0 w l) (n : Nat) : St w0 (w.drewN n) l := h.step (pw_below_drewN (Below.refl _ _) n)
theorem St.tail {i : It} (h : St w0 w (i :: l)) : St w0 w l := ⟨h.b, h.i.2.2.2⟩
theorem St.picks {A : Option Addr} {m c : Nat} (h : St w0 w l) (q : Nat) (hq : l[q]? = some (pick d e B w0 (.slice A m c) xs)) : m = xs.length ∧ m ≤ c ∧ d.C w A xs.length xs := by
  obtain ⟨rows, hl, hR, hc⟩ := (h.i.all _ (List.mem_of_getElem? hq)).1
  obtain ⟨h1, h2, h3⟩ := Kd.R_reads' hR
  refine ⟨by omega, h2, rfl, by have := h3.2.1; omega, fun hn => ?_⟩
  obtain ⟨ad, ea, hcell⟩ := h3.2.2 (by omega)
  refine ⟨ad, ea, fun j x hx => ?_⟩
  have hj : j < rows.length := by have := (List.getElem?_eq_some_iff.1 hx).1; omega
  obtain ⟨c', hs, hr, hu⟩ := hcell j _ (List.getElem?_eq_getElem hj)
  obtain ⟨rfl, _, _⟩ := hr
  have hK := d.K_below h.b (hc j x _ hx (List.getElem?_eq_getElem hj))
  exact ⟨_, hs, hK, hu⟩
theorem St.picked (h : St w0 w l) (q : Nat) (hq : l[q]? = some (pick d e w0.heap.size w0 v xs)) : ∃ rows : List (List Value), rows.length = xs.length ∧ (Kd.raw d.sz).R e w w0.heap.size (fun _ => True) v rows ∧
    ∀ (x : α) (cx : List Value) (v1 : Value) (w1 : World), d.K w0 x cx → (Kd.raw d.sz).R e w1 w0.heap.size (fun _ => True) v1 (rows ++ [cx]) → Below w0.heap.size w0 w1 → w.grownBy w1 v.ownBlock → (v1.ownBlock = v.ownBlock ∨ ∃ b, v1.ownBlock = some b ∧ w.heap.size ≤ b) →
      St w0 w1 (l.set q (pick d e w0.heap.size w0 v1 (xs ++ [x]))) := by
  obtain ⟨rows, hl, hR, hc⟩ := (h.i.all _ (List.mem_of_getElem? hq)).1
  refine ⟨rows, hl, Kd.R_mono hR (fun _ _ => trivial), fun x cx v1 w1 hK hR1 hB hg hat => ?_⟩
  refine h.grow q hq _ (fun k hk => ?_) ⟨rows ++ [cx], by simp [hl], Kd.R_tight rfl hR1, fun j y c hy hcj => ?_⟩ hB ⟨hg.size, fun k hk hn => hg.block k hk (fun he => hn he)⟩
  · have hk : some k = v1.ownBlock := hk
    rcases hat with e1 | ⟨b, e1, hb⟩
    · exact .inl (hk.trans e1)
    rw [e1] at hk
    injection hk with hk
    subst hk
    exact .inr ⟨hb, Kd.R_lt hR1 _ e1⟩
  rcases Nat.lt_or_ge j xs.length with hj | hj
  · rw [List.getElem?_append_left hj] at hy
    rw [List.getElem?_append_left (by omega)] at hcj
    exact hc j y c hy hcj
  rw [List.getElem?_append_right hj] at hy
  rw [List.getElem?_append_right (by omega)] at hcj
  have e0 : j - xs.length = 0 := by have := (List.getElem?_eq_some_iff.1 hy).1; simp at this; omega
  rw [e0] at hy
  rw [show j - rows.length = 0 by omega] at hcj
  simp only [List.getElem?_cons_zero, Option.some.injEq] at hy hcj
  subst hy
  subst hcj
  exact hK
end Go.Proofs.YtmgeffgcihfpcaaDoor.LW

namespace Go.Proofs.YtmgeffgcihfpcaaDoor.F
open Go.RowKit Go.Proofs.YtmgeffgcihfpcaaDoorW.PrintWords Go.Proofs.YtmgeffgcihfpcaaDoorW.PrintWords.Kd Go.Proofs.YtmgeffgcihfpcaaDoorW.PrintMore.Kd Go.Proofs.YtmgeffgcihfpcaaDoorW.PrintLast Go.Proofs.YtmgeffgcihfpcaaDoorW.PrintMore
attribute [local go_sem] max2_int min2_int max_two min_two max_three min_three max_four min_four   -- for this text's walks alone
set_option linter.unusedVariables false
set_option linter.unusedSimpArgs false
end Go.Proofs.YtmgeffgcihfpcaaDoor.F

namespace Go.Proofs.YtmgeffgcihfpcaaDoor.F
open Go.RowKit Go.Proofs.YtmgeffgcihfpcaaDoorW.PrintWords Go.Proofs.YtmgeffgcihfpcaaDoorW.PrintLast Go.Proofs.YtmgeffgcihfpcaaDoorW.PrintMore
set_option linter.unusedVariables false
set_option linter.unusedSimpArgs false
def cutv (v u : Value) : Prop := ∃ A n c c', v = .slice A n c ∧ u = .slice A n c' ∧ n ≤ c ∧ c ≤ c'
theorem cutv_refl {A : Option Addr} {n c : Nat} (h : n ≤ c) : cutv (.slice A n c) (.slice A n c) := ⟨A, n, c, c, rfl, rfl, h, Nat.le_refl _⟩
def cslice {α : Type} (e : Nat) (d : Kd α) : Kd (List α) where
  sz := 1
  E := e :: d.E
  K := (Kd.slice e d).K
  M := fun w base ok xs cs => ∃ v u, cs = [v] ∧ cutv v u ∧ d.R e w base ok u xs
  K_len := (Kd.slice e d).K_len
  K_one := (Kd.slice e d).K_one
  K_below := (Kd.slice e d).K_below
  K_of_M := by
    rintro w base ok x cs ⟨v, u, rfl, ⟨A, n, c, c', rfl, rfl, h1, h2⟩, h⟩
    obtain ⟨rfl, _, hC⟩ := Kd.R_reads' h
    exact ⟨A, c, rfl, h1, hC⟩
  M_mono := by
    rintro w base ok ok' x cs hok ⟨v, u, rfl, hc, h⟩
    exact ⟨v, u, rfl, hc, Kd.R_mono h hok⟩
  M_bound := by
    rintro w base ok x cs ⟨v, u, rfl, hc, h⟩
    exact ⟨v, u, rfl, hc, Kd.R_bound h⟩
  M_move := by
    rintro w w1 base ok x cs hm ⟨v, u, rfl, hc, h⟩
    exact ⟨v, u, rfl, hc, Kd.R_move h hm⟩
  M_lower := by
    rintro w base base' ok x cs hb ⟨v, u, rfl, hc, h⟩
    exact ⟨v, u, rfl, hc, Kd.R_lower h hb⟩
def k74c : Kd S74 := Kd.iso (Kd.pair Kd.string (AP.apair (cslice 5 (Kd.int .u8)) (cslice 5 (Kd.int .u8)))) (fun x : S74 => (x.f0, x.f1, x.f2))
theorem k74c_C {w : World} {A : Option Addr} {n : Nat} {xs : List S74} (h : k74c.C w A n xs) : k74.C w A n xs := h
theorem k74c_openA {w : World} {base : Nat} {ok : Nat → Prop} {x : S74} {cs : List Value} (h : k74c.M w base ok x cs) : ∃ p : Nat → Prop, ∃ v1 v2 u1 u2, cs = [.string x.f0, v1, v2] ∧ cutv v1 u1 ∧ cutv v2 u2 ∧ (Kd.int .u8).R 5 w base (fun k => ok k ∧ p k) u1 x.f1 ∧ (Kd.int .u8).R 5 w base (fun k => ok k ∧ ¬ p k) u2 x.f2 := by
  obtain ⟨c0, c1, rfl, h0, d0, d1, rfl, p, ⟨v1, u1, rfl, hc1, h1⟩, ⟨v2, u2, rfl, hc2, h2⟩⟩ := h
  obtain rfl : c0 = [.string x.f0] := h0
  exact ⟨p, v1, v2, u1, u2, rfl, hc1, hc2, h1, h2⟩
theorem k74c_mkM (w : World) (base : Nat) (ok : Nat → Prop) (x : S74) {v1 u1 v2 u2 : Value} (hc1 : cutv v1 u1) (hc2 : cutv v2 u2) (g1 : (Kd.int .u8).R 5 w base ok u1 x.f1) (g2 : (Kd.int .u8).R 5 w base ok u2 x.f2) (hne : ∀ k, some k = u1.ownBlock → ¬ some k = u2.ownBlock) : k74c.M w base ok x [.string x.f0, v1, v2] :=
  ⟨[.string x.f0], [v1, v2], rfl, rfl, [v1], [v2], rfl, _, ⟨v1, u1, rfl, hc1, (AP.split_of rfl rfl g1 g2 hne).1⟩, ⟨v2, u2, rfl, hc2, (AP.split_of rfl rfl g1 g2 hne).2⟩⟩
theorem k74c_of {w : World} {base : Nat} {ok : Nat → Prop} {x : S74} {cs : List Value} (h : k74.M w base ok x cs) : k74c.M w base ok x cs := by
  obtain ⟨c0, c1, rfl, h0, d0, d1, rfl, p, ⟨v1, rfl, h1⟩, ⟨v2, rfl, h2⟩⟩ := h
  obtain ⟨A1, c1, rfl, l1, _⟩ := Kd.R_reads h1
  obtain ⟨A2, c2, rfl, l2, _⟩ := Kd.R_reads h2
  exact ⟨c0, _, rfl, h0, _, _, rfl, p, ⟨_, _, rfl, cutv_refl l1, h1⟩, ⟨_, _, rfl, cutv_refl l2, h2⟩⟩
theorem S_c {e base : Nat} {w : World} {ok : Nat → Prop} {v : Value} {xs : List S74} (h : Kd.S k74 e w base ok v xs) : Kd.S k74c e w base ok v xs := by
  obtain ⟨f, h0, ho⟩ := h
  exact ⟨f, h0, ho.imp_ (fun p c hp => k74c_of hp)⟩
end Go.Proofs.YtmgeffgcihfpcaaDoor.F

namespace Go.Proofs.YtmgeffgcihfpcaaDoor.LW
open Go.RowKit Go.Proofs.YtmgeffgcihfpcaaDoorW.PrintWords Go.Proofs.YtmgeffgcihfpcaaDoorW.PrintLast Go.Proofs.YtmgeffgcihfpcaaDoorW.PrintMore
set_option linter.unusedVariables false
set_option linter.unusedSimpArgs false
theorem St.sel {w0 w : World} {l : List It} (h : St w0 w l) (f : List Nat) (hn : f.Nodup) : St w0 w (f.map fun n => l.getD n gone) := by
  have look : ∀ (q : Nat) (i : It), (f.map fun n => l.getD n gone)[q]? = some i → ∃ hq : q < f.length, (i = gone ∨ l[f[q]]? = some i) := fun q i hq => by
    rw [List.getElem?_map] at hq
    obtain ⟨n, hn, rfl⟩ := Option.map_eq_some_iff.1 hq
    obtain ⟨hlt, rfl⟩ := List.getElem?_eq_some_iff.1 hn
    refine ⟨hlt, ?_⟩
    rw [List.getD_eq_getElem?_getD]
    cases e : l[f[q]]? with
    | none => exact .inl rfl
    | some i => exact .inr rfl
  refine ⟨h.b, Its.of (fun q i hq => ?_) (fun p q i j hpq hp hq k hk hf => ?_)⟩
  · obtain ⟨_, rfl | hi⟩ := look q i hq
    · exact ⟨fun k hk => hk.elim, trivial⟩
    exact ⟨(h.i.all i (List.mem_of_getElem? hi)).2, (h.i.all i (List.mem_of_getElem? hi)).1⟩
  obtain ⟨h1, rfl | hi⟩ := look p i hp
  · exact hk
  obtain ⟨h2, rfl | hj⟩ := look q j hq
  · exact hf
  exact Its.disj h.i _ _ i j (List.pairwise_iff_getElem.1 hn p q h1 h2 hpq) hi hj k hk hf
end Go.Proofs.YtmgeffgcihfpcaaDoor.LW
namespace Go.Proofs.YtmgeffgcihfpcaaDoor.F
open Go.RowKit Go.Proofs.YtmgeffgcihfpcaaDoorW.PrintWords Go.Proofs.YtmgeffgcihfpcaaDoorW.PrintLast Go.Proofs.YtmgeffgcihfpcaaDoorW.PrintMore
theorem R_emptyB (w : World) : Kd.R Kd.bool 4 (w.alloc (.cells #[] 4)) w.heap.size (fun _ => True) (.slice (some ⟨w.heap.size, 0, none⟩) 0 0) [] := ⟨fun _ _ => trivial, OwnRow.lit (inner := []) w w.heap.size (Reps.none _ _) (Nat.le_refl _) (by simp)⟩
end Go.Proofs.YtmgeffgcihfpcaaDoor.F

namespace Go.Proofs.YtmgeffgcihfpcaaDoor.F
open Go.RowKit Go.Proofs.YtmgeffgcihfpcaaDoorW.PrintWords Go.Proofs.YtmgeffgcihfpcaaDoorW.PrintLast Go.Proofs.YtmgeffgcihfpcaaDoorW.PrintMore
set_option linter.unusedVariables false
set_option linter.unusedSimpArgs false
theorem R_beyond {α : Type} {d : Kd α} {e base n c g o : Nat} {W : World} {ok : Nat → Prop} {xs : List α} (h : d.R e W base ok (.slice (some ⟨g, 0, none⟩) n c) xs) (vs : List Value) (ho : n * d.sz ≤ o) (hc : o + vs.length ≤ c * d.sz) :
    d.R e (W.setCells g o vs) base ok (.slice (some ⟨g, 0, none⟩) n c) xs := by
  have hn := (Kd.R_reads' h).1
  have hgo : some g = (Value.slice (some ⟨g, 0, none⟩) n c).ownBlock := by simp [Value.ownBlock]
  obtain ⟨hok, inner, ⟨hl, hown⟩, hr⟩ := h
  rcases hown with ⟨hv, _⟩ | ⟨g', cap', cur, hv, hb, hh, hnc, hcm, hcs, htake⟩
  · cases hv
  injection hv with ha _ hc'
  injection ha with ha
  injection ha with hg
  subst hg; subst hc'
  obtain ⟨cur', h1, h2, h3⟩ := setCells_row vs o W cur hh (by omega)
  refine ⟨hok, inner, ⟨hl, .inr ⟨g, c, cur', by rw [← hn], hb, h1, hnc, hcm, by omega, ?_⟩⟩, hr.1, fun j p hj => d.M_move (fun k hk => setCells_far vs o k (fun he => hk.2 (by rw [he]; exact hgo))) (hr.2 j p hj)⟩
  rw [← htake, h3, ← hn, List.append_assoc, List.take_append_of_le_length (by rw [List.length_take, Array.length_toList]; omega), List.take_take]
  congr 1
  omega
theorem S_beyond {α : Type} {d : Kd α} {e base n c g o : Nat} {W : World} {ok : Nat → Prop} {xs : List α} (h : Kd.S d e W base ok (.slice (some ⟨g, 0, none⟩) n c) xs) (vs : List Value) (ho : n * d.sz ≤ o) (hc : o + vs.length ≤ c * d.sz) :
    Kd.S d e (W.setCells g o vs) base ok (.slice (some ⟨g, 0, none⟩) n c) xs := by
  obtain ⟨f, h⟩ := h
  exact ⟨f, R_beyond h vs ho hc⟩
theorem S_there {α : Type} {d : Kd α} {e base n c g : Nat} {W : World} {ok : Nat → Prop} {xs : List α} (h : Kd.S d e W base ok (.slice (some ⟨g, 0, none⟩) n c) xs) (j : Nat) (hj : j < c * d.sz) : (W.cell? ⟨g, j, none⟩).isSome = true ∧ W.frozen? ⟨g, j, none⟩ = false := by
  obtain ⟨inner, _, hown⟩ := Kd.S_own h
  rcases hown with ⟨hv, _⟩ | ⟨g', cap', cur, hv, hb, hh, hnc, hcm, hcs, htake⟩
  · cases hv
  injection hv with ha _ hc'
  injection ha with ha
  injection ha with hg
  subst hg; subst hc'
  refine ⟨?_, Zn hh j⟩
  rw [blk_cell hh j, Array.getElem?_eq_getElem (by omega)]
  rfl
theorem S_cap {α : Type} {d : Kd α} {e base n c g : Nat} {W : World} {ok : Nat → Prop} {xs : List α} (h : Kd.S d e W base ok (.slice (some ⟨g, 0, none⟩) n c) xs) : c ≤ 9223372036854775807 := by
  obtain ⟨inner, _, hown⟩ := Kd.S_own h
  rcases hown with ⟨hv, _⟩ | ⟨g', cap', cur, hv, hb, hh, hnc, hcm, hcs, htake⟩
  · cases hv
  injection hv with ha _ hc'
  subst hc'
  exact hcm
theorem info74s : (Tryd.prog.info? 74).map (·.size) = some k74.sz := by kernel_rfl
theorem below_setCells {g : Nat} {a : World} (hg : a.heap.size ≤ g) : ∀ (vs : List Value) (o : Nat) {w : World}, Below a.heap.size a w → Below a.heap.size a (w.setCells g o vs)
  | [], _, _, hb => hb
  | _ :: r, o, _, hb => below_setCells hg r (o + 1) (Zg hb hg)
theorem zeroed3 (W : World) (g o c ty : Nat) (hc : ∀ j, j < 3 → (W.cell? ⟨g, o + j, none⟩).isSome = true ∧ W.frozen? ⟨g, o + j, none⟩ = false) :
    (Builtin.clear_ #[27] ty #[.slice (some ⟨g, o, none⟩) 1 c]).run Tryd.prog W = .ok (.tuple #[]) (W.setCells g o [.string ⟨#[]⟩, .slice none 0 0, .slice none 0 0]) := by
  have hst := run_storeCells_cells (P := Tryd.prog) g o [.string ⟨#[]⟩, .slice none 0 0, .slice none 0 0] 0 W (fun j hj => by rw [Nat.add_zero]; exact (hc j hj).1) (fun j hj => by rw [Nat.add_zero]; exact (hc j hj).2) (by intro v hv; simp at hv; rcases hv with rfl | rfl <;> rfl)
  rw [Nat.add_zero] at hst
  have hz : (Builtin.zeroCells (Value.agg #[.string ⟨#[]⟩, .slice none 0 0, .slice none 0 0]).cells 1).toList = [.string ⟨#[]⟩, .slice none 0 0, .slice none 0 0] := by kernel_rfl
  simp [Builtin.clear_, run_underlying Tryd.underlying27, Tryd.zeroValue74, hz, hst]
theorem S_delete_law {P : Program} {ops : Array Oper} {o : Oper} {a : Act} {Q : Exit → Act → World → Prop} {α : Type} {Kc : Act → World → Prop} {E : Prop} (d : Kd α) {w0 W : World} (base : Nat) (hgd : o.guard = none) (s x : Operand) (t e : TypeId) (ho : o.op = .call { callee := .builtin .append, args := #[s, x], argTypes := #[t, t] })
    (ht : P.underlying t = some (.slice e)) (hinfo : (P.info? e).map (·.size) = some d.sz) {g n c k m c2 : Nat} {A : Option Addr} {xs : List α} {ok : Nat → Prop}
    (hs : a.eval s = .slice (some ⟨g, 0, none⟩) k c) (hx : a.eval x = .slice A m c2) (hA : A = if c = k + 1 then some ⟨g, 0, none⟩ else (some (⟨g, 0, none⟩ : Addr)).map (·.add ((k + 1) * d.sz))) (hm : m = n - (k + 1))
    (HO : Kd.S d e W base ok (.slice (some ⟨g, 0, none⟩) n c) xs) (hk : k < n) (HB : Below base w0 W) (hbase : base ≤ W.heap.size)
    (h : ∀ w1, Kd.S d e w1 base ok (.slice (some ⟨g, 0, none⟩) (n - 1) c) (xs.eraseIdx k) → Below base w0 w1 → W.grownBy w1 (some g) → Kc (a.put o.dst (.slice (some ⟨g, 0, none⟩) (n - 1) c)) w1) :
    if Region.wanted o (yielded ops a.tmps) = true then Oper.wp P o a W Kc Q else E := by
  have hw : Region.wanted o (yielded ops a.tmps) = true := by simp [Region.wanted, hgd]
  have := Kd.S_delete_step (Q := Q) d base hw s x t e ho ht hinfo hs hx hA hm HO hk HB hbase h
  rw [if_pos hw] at this ⊢
  exact this
set_option maxHeartbeats 4000000 in
set_option maxRecDepth 100000 in
theorem sDelete.calls (i : Nat) (P : Nat → Prop) (v : Value) (l : List S74) (w0 w : World) (hB : Below w0.heap.size w0 w) (ho : Kd.S k74 74 w w0.heap.size P v l) (hi : i < l.length) :
    Calls Tryd.prog 96 #[v, .int .i64 i, .int .i64 (i + 1)] w fun e w' => ∃ v' : Value, e = .returned v' ∧ Kd.S k74 74 w' w0.heap.size P v' (l.eraseIdx i) ∧ Below w0.heap.size w0 w' ∧ Kept w w' P := by
  obtain ⟨g, c, rfl, hbg, hgw, _⟩ := Kd.S_form ho (by omega)
  have hnc := (Kd.S_reads' ho).2.1
  have hcm := S_cap ho
  have hPg : P g := (Kd.S_R ho).1 g (by simp [Value.ownBlock])
  have HO := Zh (Kd.S_drew ho)
  have HB := Zh (Ze hB)
  have HK := Zh (Kept.of_below (Ze (Below.refl w.heap.size w)) P)
  have HS := Zh (show w0.heap.size ≤ w.drew.heap.size from Nat.le_of_lt (Nat.lt_of_le_of_lt hbg hgw))
  have HG := Zh hPg
  have HBG := Zh hbg
  have hic : i ≤ c := by omega
  have hjc : i + 1 ≤ c := by omega
  have hjl : i + 1 ≤ l.length := by omega
  have hj0 : (0 : Int) ≤ (i : Int) + 1 := by omega
  have hj1 : (i : Int) + 1 ≤ (l.length : Int) := by omega
  have hil : (i : Int) < (l.length : Int) := by omega
  have hi1 : ((i : Int) == (i : Int) + 1) = false := by simp; omega
  clear ho hB hbg hPg
  by_cases hci : c = i + 1
  · subst hci
    have hii : (i : Int) ≤ (i : Int) + 1 := by omega
    go_enter Tryd.func96, Tryd.ntmps96
    go_wp2
    go_region_law (refine S_delete_law (w0 := w0) k74 w0.heap.size rfl (.tmp 22) (.tmp 25) 27 74 rfl Tryd.underlying27 info74s (g := g) (n := l.length) (c := i + 1) (k := i) (m := 0) (c2 := 0) (A := some ⟨g, 0, none⟩) (ok := P) (by simp [Act.eval, Act.put]) (by simp [Act.eval, Act.put]) (by simp) (by omega) HO.out hi HB.out HS.out ?_; intro w1 hS1 hB1 hG1)
    all_goals
      have hnc1 : l.length - 1 < l.length := by omega
      have hth := fun j (hj : j < (i + 1) * 3) => S_there hS1 j hj
      have HC := Zh (fun ty => zeroed3 w1 g ((l.length - 1) * 3) (i + 1 - (l.length - 1)) ty (fun j hj => hth _ (by omega)))
      have HS1 := Zh (S_beyond hS1 [.string ⟨#[]⟩, .slice none 0 0, .slice none 0 0] (o := (l.length - 1) * 3) (Nat.le_refl _) (by show (l.length - 1) * 3 + 3 ≤ (i + 1) * 3; omega))
      have e1 : l.length - (l.length - 1) = 1 := by omega
      have hlc : l.length - 1 ≤ i + 1 := by omega
      have hcl := HC.out
      clear hS1 hth
      go_wp2
      go_ret
      refine ⟨.slice (some ⟨g, 0, none⟩) (l.length - 1) _, rfl, HS1.out, below_setCells HBG.out _ _ hB1, ?_⟩
      refine ⟨by rw [(setCells_same g _ _ w1).2.2.2]; exact hG1.size, fun k hk hn => ?_⟩
      have hkg : k ≠ g := fun he => hn (he ▸ HG.out)
      rw [setCells_far _ _ k hkg]
      exact hG1.block k hk (fun he => hkg (Option.some.inj he))
  have hcf : (c = i + 1) = False := eq_false hci
  clear hci
  go_enter Tryd.func96, Tryd.ntmps96
  go_wp2
  go_region_law (refine S_delete_law (w0 := w0) k74 w0.heap.size rfl (.tmp 22) (.tmp 25) 27 74 rfl Tryd.underlying27 info74s (g := g) (n := l.length) (c := c) (k := i) (m := l.length - (i + 1)) (c2 := c - (i + 1)) (A := some ⟨g, (i + 1) * 3, none⟩) (ok := P) (by simp [Act.eval, Act.put, hcf]) (by simp [Act.eval, Act.put, hcf]) (by rw [if_neg (of_eq_false hcf)]; exact congrArg some (add_at g 0 ((i + 1) * 3) |>.trans (by rw [Nat.zero_add])).symm) rfl HO.out hi HB.out HS.out ?_; intro w1 hS1 hB1 hG1)
  all_goals
    have hnc1 : l.length - 1 < l.length := by omega
    have hth := fun j (hj : j < (c) * 3) => S_there hS1 j hj
    have HC := Zh (fun ty => zeroed3 w1 g ((l.length - 1) * 3) (c - (l.length - 1)) ty (fun j hj => hth _ (by omega)))
    have HS1 := Zh (S_beyond hS1 [.string ⟨#[]⟩, .slice none 0 0, .slice none 0 0] (o := (l.length - 1) * 3) (Nat.le_refl _) (by show (l.length - 1) * 3 + 3 ≤ (c) * 3; omega))
    have e1 : l.length - (l.length - 1) = 1 := by omega
    have hlc : l.length - 1 ≤ c := by omega
    have hcl := HC.out
    clear hS1 hth
    go_wp2
    go_ret
    refine ⟨.slice (some ⟨g, 0, none⟩) (l.length - 1) _, rfl, HS1.out, below_setCells HBG.out _ _ hB1, ?_⟩
    refine ⟨by rw [(setCells_same g _ _ w1).2.2.2]; exact hG1.size, fun k hk hn => ?_⟩
    have hkg : k ≠ g := fun he => hn (he ▸ HG.out)
    rw [setCells_far _ _ k hkg]
    exact hG1.block k hk (fun he => hkg (Option.some.inj he))
theorem run_copy_k {P : Program} (w : World) (dT sT ty elem : TypeId) (size : Nat) (b o dLen dCap : Nat) (a : Addr) (sLen sCap : Nat) (cs : List Value)
    (hu : P.underlying dT = some (.slice elem)) (hs : (P.info? elem).map (·.size) = some size) (hn : cs.length = Nat.min sLen dLen * size)
    (hsrc : ∀ j v, cs[j]? = some v → w.cell? (a.add j) = some v) (hc : ∀ j, j < cs.length → (w.cell? ⟨b, o + j, none⟩).isSome = true) (hf : ∀ j, j < cs.length → w.frozen? ⟨b, o + j, none⟩ = false) (h1 : ∀ v ∈ cs, v.oneCell' = true) :
    (Builtin.copy_ #[dT, sT] ty #[.slice (some ⟨b, o, none⟩) dLen dCap, .slice (some a) sLen sCap]).run P w = .ok (goInt (Nat.min sLen dLen)) (w.setCells b o cs) := by
  have hl := run_loadCells_list (P := P) w a cs hsrc
  have hst := run_storeCells_cells (P := P) b o cs 0 w (by simpa using hc) (by simpa using hf) h1
  cases hq : P.info? elem with
  | none => simp [hq] at hs
  | some i =>
    have hi : i.size = size := by simpa [hq] using hs
    simp [Builtin.copy_, run_underlying hu, Builtin.lenOf, Builtin.firstCells, sizeOf, typeInfo, hq, hi, ← hn, hl, hst]
theorem wpList_copy_run {P : Program} (w : World) {ops : Array Oper} {rest : List Oper} {o : Oper} {a : Act} {Q : Exit → Act → World → Prop} (hgd : o.guard = none) (d s : Operand) (t t' : TypeId)
    (ho : o.op = .call { callee := .builtin .copy, args := #[d, s], argTypes := #[t, t'] }) (v u : Value) (hd : a.eval d = v) (hs : a.eval s = u) {v' : Value} {w' : World}
    (hr : (Builtin.copy_ #[t, t'] o.type #[v, u]).run P w = .ok v' w') (h : wpList P ops Q rest (a.put o.dst v') w') : wpList P ops Q (o :: rest) a w :=
  wpList_plain hgd fun _ hK => by
    unfold Oper.wp execOp
    simp only [ho, resolve, invoke, builtin, Sem.run_bind, Sem.run_pure, Result.andThen_ok, List.map_toArray, List.map_cons, List.map_nil, hd, hs, hr]
    exact hK _ _ h
theorem step_copy_run {P : Program} {ops : Array Oper} {o : Oper} {a : Act} {w : World} {K : Act → World → Prop} {Q : Exit → Act → World → Prop} {E : Prop}
    (hg : o.guard = none) (d x : Operand) (dT sT : TypeId) (hop : o.op = Op.call { callee := Callee.builtin Builtin.copy, args := #[d, x], argTypes := #[dT, sT] })
    (v u : Value) (hd : a.eval d = v) (hx : a.eval x = u) {v' : Value} {w' : World} (hr : (Builtin.copy_ #[dT, sT] o.type #[v, u]).run P w = .ok v' w') (hK : K (a.put o.dst v') w') :
    if Region.wanted o (yielded ops a.tmps) = true then Oper.wp P o a w K Q else E := by
  have hw : Region.wanted o (yielded ops a.tmps) = true := by simp [Region.wanted, hg]
  rw [if_pos hw]
  unfold Oper.wp
  simp [execOp, hop, resolve, invoke, builtin, hd, hx, hr, Result.andThen]
  exact hK
theorem S_parts {α : Type} {d : Kd α} {e base : Nat} {W : World} {ok : Nat → Prop} {v : Value} {xs : List α} (h : Kd.S d e W base ok v xs) :
    ∃ (inner : List Value) (okj : Nat → Nat → Prop), W.ownsRow base e d.sz v xs.length inner ∧ inner.length = xs.length * d.sz ∧ (∀ k, v.ownBlock = some k → ok k) ∧ (∀ i j k, okj i k → okj j k → i = j) ∧ (∀ j k, okj j k → ok k ∧ some k ≠ v.ownBlock) ∧ ∀ j x, xs[j]? = some x → d.M W base (okj j) x ((inner.drop (j * d.sz)).take d.sz) := by
  obtain ⟨f, h0, inner, ho, hr⟩ := h
  rw [List.length_zipIdx] at ho
  have hl : inner.length = xs.length * d.sz := by have := hr.1; rw [List.length_zipIdx] at this; exact this
  exact ⟨inner, fun j k => (ok k ∧ some k ≠ v.ownBlock) ∧ f k = j, ho, hl, h0, fun i j k h1 h2 => h1.2.symm.trans h2.2, fun j k hk => hk.1, fun j x hx => hr.2 j (x, j) (Kd.zip_at hx)⟩
theorem ins_get {α : Type} (l : List α) (x : α) (i : Nat) (hi : i ≤ l.length) (j : Nat) (y : α) (h : (l.take i ++ x :: l.drop i)[j]? = some y) : (j < i ∧ l[j]? = some y) ∨ (j = i ∧ y = x) ∨ (i < j ∧ l[j - 1]? = some y) := by
  have hl : (l.take i).length = i := by rw [List.length_take]; omega
  by_cases h1 : j < i
  · rw [List.getElem?_append_left (by omega), List.getElem?_take, if_pos h1] at h
    exact .inl ⟨h1, h⟩
  rw [List.getElem?_append_right (by omega), hl] at h
  by_cases h2 : j = i
  · subst h2
    rw [Nat.sub_self, List.getElem?_cons_zero] at h
    exact .inr (.inl ⟨rfl, (Option.some.inj h).symm⟩)
  obtain ⟨m, hm⟩ : ∃ m, j - i = m + 1 := ⟨j - i - 1, by omega⟩
  rw [hm, List.getElem?_cons_succ, List.getElem?_drop] at h
  exact .inr (.inr ⟨by omega, by rw [show j - 1 = i + m by omega]; exact h⟩)
theorem ins_cells {inner cx : List Value} {n i sz : Nat} (hin : inner.length = n * sz) (hcx : cx.length = sz) (hi : i ≤ n) (j : Nat) :
    (j < i → ((inner.take (i * sz) ++ cx ++ inner.drop (i * sz)).drop (j * sz)).take sz = (inner.drop (j * sz)).take sz) ∧ (j = i → ((inner.take (i * sz) ++ cx ++ inner.drop (i * sz)).drop (j * sz)).take sz = cx) ∧ (i < j → ((inner.take (i * sz) ++ cx ++ inner.drop (i * sz)).drop (j * sz)).take sz = (inner.drop ((j - 1) * sz)).take sz) := by
  have hil : i * sz ≤ inner.length := by rw [hin]; exact Nat.mul_le_mul_right _ hi
  have htl : (inner.take (i * sz)).length = i * sz := by rw [List.length_take]; omega
  refine ⟨fun h => ?_, fun h => ?_, fun h => ?_⟩
  · have h1 : j * sz + sz ≤ i * sz := by rw [← Nat.succ_mul]; exact Nat.mul_le_mul_right _ h
    rw [List.append_assoc, List.drop_append_of_le_length (by omega), List.take_append_of_le_length (by rw [List.length_drop]; omega), List.drop_take, List.take_take]
    congr 1
    omega
  · subst h
    rw [List.append_assoc, List.drop_append, htl, Nat.sub_self, List.drop_zero, List.drop_eq_nil_of_le (by omega), List.nil_append, List.take_append_of_le_length (by omega), List.take_of_length_le (by omega)]
  have h1 : i * sz + sz ≤ j * sz := by rw [← Nat.succ_mul]; exact Nat.mul_le_mul_right _ h
  have h2 : (j - 1) * sz = j * sz - sz := by rw [Nat.sub_mul, Nat.one_mul]
  rw [List.drop_append, List.drop_eq_nil_of_le (by rw [List.length_append]; omega), List.nil_append, List.length_append, htl, hcx, List.drop_drop]
  congr 2
  omega
theorem S_put {α : Type} {d : Kd α} {e base g' c' i : Nat} {W w1 : World} {ok G : Nat → Prop} {v : Value} {xs : List α} {x : α} {cx inner : List Value} {okj : Nat → Nat → Prop} {cur' : Array Value}
    (hin : inner.length = xs.length * d.sz) (h0 : ∀ k, v.ownBlock = some k → ok k) (hap : ∀ i j k, okj i k → okj j k → i = j) (hok : ∀ j k, okj j k → ok k ∧ some k ≠ v.ownBlock) (hrep : ∀ j x, xs[j]? = some x → d.M W base (okj j) x ((inner.drop (j * d.sz)).take d.sz))
    (hx : d.M W base G x cx) (hG : ∀ k, G k → ¬ ok k) (hi : i ≤ xs.length) (hb : base ≤ g') (hg' : v.ownBlock = some g' ∨ W.heap.size ≤ g')
    (hcur : w1.heap[g']? = some (.cells cur' e (0, 0))) (hsz : cur'.size = c' * d.sz) (hnc : xs.length + 1 ≤ c') (hcm : c' ≤ maxLen) (htk : cur'.toList.take ((xs.length + 1) * d.sz) = inner.take (i * d.sz) ++ cx ++ inner.drop (i * d.sz))
    (hmv : ∀ k, k < W.heap.size → some k ≠ v.ownBlock → w1.heap[k]? = W.heap[k]?) :
    Kd.S d e w1 base (fun k => ok k ∨ G k ∨ (W.heap.size ≤ k ∧ k < w1.heap.size)) (.slice (some ⟨g', 0, none⟩) (xs.length + 1) c') (xs.take i ++ x :: xs.drop i) := by
  have hlen : (xs.take i ++ x :: xs.drop i).length = xs.length + 1 := by simp; omega
  have hcx : cx.length = d.sz := d.K_len (d.K_of_M hx)
  have hgl : g' < w1.heap.size := blk_lt hcur
  have hcells := fun j => ins_cells (inner := inner) (cx := cx) hin hcx hi j
  have hmove : ∀ (q : Nat → Prop) (y : α) (cs : List Value), (∀ k, q k → some k ≠ v.ownBlock) → d.M W base q y cs → d.M w1 base (fun k => q k ∧ k < W.heap.size) y cs := fun q y cs hq hM =>
    d.M_move (fun k hk => hmv k hk.2 (hq k hk.1)) (d.M_mono (fun k hk => ⟨hk.1, hk.2.2.1⟩) (d.M_bound hM))
  have hGv : ∀ k, G k → some k ≠ v.ownBlock := fun k hk he => hG k hk (h0 k he.symm)
  have hnew : ∀ q : Nat → Prop, (∀ k, q k → some k ≠ v.ownBlock) → ∀ k, (q k ∧ k < W.heap.size) → some k ≠ some g' := fun q hq k hk he => by
    injection he with he
    rcases hg' with h | h
    · exact hq k hk.1 (by rw [h, he])
    have := hk.2; omega
  obtain ⟨f, hr⟩ := Kd.reps_tag (d := d) (w := w1) (base := base) (ok := fun k => (ok k ∨ G k ∨ (W.heap.size ≤ k ∧ k < w1.heap.size)) ∧ some k ≠ (Value.slice (some ⟨g', 0, none⟩) (xs.length + 1) c').ownBlock) (xs := xs.take i ++ x :: xs.drop i) (inner := inner.take (i * d.sz) ++ cx ++ inner.drop (i * d.sz))
    (fun j k => ((j < i ∧ okj j k) ∨ (j = i ∧ G k) ∨ (i < j ∧ okj (j - 1) k)) ∧ k < W.heap.size)
    (fun a b k h1 h2 => by
      rcases h1.1 with ⟨a1, a2⟩ | ⟨a1, a2⟩ | ⟨a1, a2⟩ <;> rcases h2.1 with ⟨b1, b2⟩ | ⟨b1, b2⟩ | ⟨b1, b2⟩
      · exact hap _ _ k a2 b2
      · exact absurd (hok _ k a2).1 (hG k b2)
      · have := hap _ _ k a2 b2; omega
      · exact absurd (hok _ k b2).1 (hG k a2)
      · omega
      · exact absurd (hok _ k b2).1 (hG k a2)
      · have := hap _ _ k a2 b2; omega
      · exact absurd (hok _ k a2).1 (hG k b2)
      have := hap _ _ k a2 b2; omega)
    (fun j k hk => by
      show _ ∧ some k ≠ (Value.slice (some ⟨g', 0, none⟩) (xs.length + 1) c').ownBlock
      have ho : (Value.slice (some ⟨g', 0, none⟩) (xs.length + 1) c').ownBlock = some g' := by simp [Value.ownBlock]
      rw [ho]
      rcases hk.1 with ⟨_, a2⟩ | ⟨_, a2⟩ | ⟨_, a2⟩
      · exact ⟨.inl (hok _ k a2).1, hnew (okj j) (fun k hk => (hok _ k hk).2) k ⟨a2, hk.2⟩⟩
      · exact ⟨.inr (.inl a2), hnew G hGv k ⟨a2, hk.2⟩⟩
      exact ⟨.inl (hok _ k a2).1, hnew (okj (j - 1)) (fun k hk => (hok _ k hk).2) k ⟨a2, hk.2⟩⟩)
    (by rw [hlen]; simp only [List.length_append, List.length_take, List.length_drop, hcx]; have : i * d.sz ≤ inner.length := by rw [hin]; exact Nat.mul_le_mul_right _ hi
        rw [Nat.add_mul, Nat.one_mul, ← hin]; omega)
    (fun j y hy => by
      rcases ins_get xs x i hi j y hy with ⟨h1, h2⟩ | ⟨h1, rfl⟩ | ⟨h1, h2⟩
      · rw [(hcells j).1 h1]
        exact d.M_mono (fun k hk => ⟨.inl ⟨h1, hk.1⟩, hk.2⟩) (hmove (okj j) y _ (fun k hk => (hok _ k hk).2) (hrep j y h2))
      · rw [(hcells j).2.1 h1]
        exact d.M_mono (fun k hk => ⟨.inr (.inl ⟨h1, hk.1⟩), hk.2⟩) (hmove G y _ hGv hx)
      rw [(hcells j).2.2 h1]
      exact d.M_mono (fun k hk => ⟨.inr (.inr ⟨h1, hk.1⟩), hk.2⟩) (hmove (okj (j - 1)) y _ (fun k hk => (hok _ k hk).2) (hrep (j - 1) y h2)))
  refine ⟨f, fun k hk => ?_, inner.take (i * d.sz) ++ cx ++ inner.drop (i * d.sz), ⟨?_, .inr ⟨g', c', cur', ?_, hb, hcur, ?_, hcm, hsz, ?_⟩⟩, hr⟩
  · have : g' = k := by simpa [Value.ownBlock] using hk
    subst this
    rcases hg' with h | h
    · exact .inl (h0 _ h)
    exact .inr (.inr ⟨h, hgl⟩)
  · rw [List.length_zipIdx]; have := hr.1; rw [List.length_zipIdx] at this; exact this
  · rw [List.length_zipIdx, hlen]
  · rw [List.length_zipIdx, hlen]; exact hnc
  rw [List.length_zipIdx, hlen]; exact htk
theorem S_putO {α : Type} {d : Kd α} {e base i : Nat} {W w1 : World} {ok G : Nat → Prop} {v v' : Value} {xs : List α} {x : α} {cx inner : List Value} {okj : Nat → Nat → Prop}
    (hin : inner.length = xs.length * d.sz) (h0 : ∀ k, v.ownBlock = some k → ok k) (hap : ∀ i j k, okj i k → okj j k → i = j) (hok : ∀ j k, okj j k → ok k ∧ some k ≠ v.ownBlock) (hrep : ∀ j x, xs[j]? = some x → d.M W base (okj j) x ((inner.drop (j * d.sz)).take d.sz))
    (hx : d.M W base G x cx) (hG : ∀ k, G k → ¬ ok k) (hi : i ≤ xs.length) (hown : w1.ownsRow base e d.sz v' (xs.length + 1) (inner.take (i * d.sz) ++ cx ++ inner.drop (i * d.sz))) (hat : v'.ownBlock = v.ownBlock ∨ ∃ b, v'.ownBlock = some b ∧ W.heap.size ≤ b)
    (hmv : ∀ k, k < W.heap.size → some k ≠ v.ownBlock → w1.heap[k]? = W.heap[k]?) :
    Kd.S d e w1 base (fun k => ok k ∨ G k ∨ (W.heap.size ≤ k ∧ k < w1.heap.size)) v' (xs.take i ++ x :: xs.drop i) := by
  rcases hown.2 with ⟨_, hn⟩ | ⟨g', c', cur', rfl, hb, hcur, hnc, hcm, hsz, htk⟩
  · omega
  refine S_put hin h0 hap hok hrep hx hG hi hb ?_ hcur hsz hnc hcm htk hmv
  have hg : (Value.slice (some ⟨g', 0, none⟩) (xs.length + 1) c').ownBlock = some g' := by simp [Value.ownBlock]
  rw [hg] at hat
  rcases hat with h | ⟨b, h, hb'⟩
  · exact .inl h.symm
  injection h with h
  subst h
  exact .inr hb'
theorem ins_row {cur cur1 cur2 inner cx : List Value} {n i : Nat} (hin : inner.length = n * 3) (hcx : cx.length = 3) (hi : i < n) (hcl : (n + 1) * 3 ≤ cur.length) (htk : cur.take (n * 3) = inner)
    (h1 : cur1 = cur.take ((i + 1) * 3) ++ inner.drop (i * 3) ++ cur.drop ((i + 1) * 3 + (inner.drop (i * 3)).length)) (h2 : cur2 = cur1.take (i * 3) ++ cx ++ cur1.drop (i * 3 + cx.length)) :
    cur2.take ((n + 1) * 3) = inner.take (i * 3) ++ cx ++ inner.drop (i * 3) := by
  have e0 : (cur.take ((i + 1) * 3)).length = i * 3 + 3 := by rw [List.length_take]; omega
  have e1 : cur1.take (i * 3) = inner.take (i * 3) := by
    rw [h1, List.append_assoc, List.take_append_of_le_length (by omega), List.take_take, ← htk, List.take_take, Nat.min_eq_left (by omega), Nat.min_eq_left (by omega)]
  have e2 : cur1.drop (i * 3 + cx.length) = inner.drop (i * 3) ++ cur.drop ((i + 1) * 3 + (inner.drop (i * 3)).length) := by
    rw [h1, List.append_assoc, List.drop_left' (by rw [e0, hcx])]
  rw [h2, e1, e2, ← List.append_assoc, List.take_left']
  simp only [List.length_append, List.length_take, List.length_drop, hcx, hin]
  omega
def InsPost (w0 w : World) (P G : Nat → Prop) (l : List S74) (e : Ending) (w' : World) : Prop := ∃ v' : Value, e = .returned v' ∧ Kd.S k74 74 w' w0.heap.size (fun k => P k ∨ G k ∨ (w.heap.size ≤ k ∧ k < w'.heap.size)) v' l ∧ Below w0.heap.size w0 w' ∧ Kept w w' P
theorem kept_of_grown {w w1 : World} {v : Value} {P : Nat → Prop} (hg : w.grownBy w1 v.ownBlock) (h0 : ∀ k, v.ownBlock = some k → P k) : Kept w w1 P := ⟨hg.size, fun k hk hn => hg.block k hk (fun he => hn (h0 k he.symm))⟩
set_option maxHeartbeats 4000000 in
set_option maxRecDepth 100000 in
theorem sInsert_end (P G : Nat → Prop) (v : Value) (l : List S74) (x : S74) (cx : List Value) (gv : Nat) (w0 w : World) (hB : Below w0.heap.size w0 w) (ho : Kd.S k74 74 w w0.heap.size P v l) (hlen : (l.length + 1) * 64 ≤ 140737488355328)
    (hx : k74.M w w0.heap.size G x cx) (hgv : w.heap[gv]? = some (.cells cx.toArray 74 (0, 0))) (hPG : ∀ k, G k → ¬ P k) (r : List S74) (hr : r = l.take l.length ++ x :: l.drop l.length) :
    Calls Tryd.prog 105 #[v, .int .i64 l.length, .slice (some ⟨gv, 0, none⟩) 1 1] w (InsPost w0 w P G r) := by
  obtain ⟨inner, okj, hown, hin, h0, hap, hok, hrep⟩ := S_parts ho
  obtain ⟨A, c, rfl⟩ := Kd.S_slice ho
  obtain ⟨i0, hi0, hz0, hz1, hz2⟩ := info_parts info74
  have hcx : cx.length = 3 := k74.K_len (k74.K_of_M hx)
  have hone := k74.K_one (k74.K_of_M hx)
  have hnc := (Kd.S_reads' ho).2.1
  have HOW := Zh hown
  have HB := Zh hB
  have HV := Zh (World.news_of_block hgv)
  have HX := Zh hone
  have HS := Zh hB.size
  have K1 := Zh (And.intro hin (And.intro h0 (And.intro hap (And.intro hok (And.intro hrep (And.intro hx hPG))))))
  have hl63 : l.length + 1 ≤ maxLen := by simp only [maxLen]; omega
  have hll : (l.length : Int) ≤ (l.length : Int) := Int.le_refl _
  have fin : ∀ (v' : Value) (w' : World), w'.ownsRow w0.heap.size 74 3 v' (l.length + 1) (inner ++ cx) → w.grownBy w' (Value.slice A l.length c).ownBlock → (v'.ownBlock = (Value.slice A l.length c).ownBlock ∨ v'.ownBlock = some w.heap.size) → InsPost w0 w P G r (.returned v') w' := by
    intro v' w' h1 h2 h3
    subst hr
    refine ⟨v', rfl, S_putO (i := l.length) hin h0 hap hok hrep hx hPG (Nat.le_refl _) ?_ ?_ (fun k hk hn => h2.block k hk hn), hB.grown h2 hB.size (Kd.S_base ho), kept_of_grown h2 h0⟩
    · have e1 : inner.take (l.length * k74.sz) = inner := List.take_of_length_le (by omega)
      have e2 : inner.drop (l.length * k74.sz) = [] := List.drop_eq_nil_of_le (by omega)
      rw [e1, e2, List.append_nil]
      exact h1
    rcases h3 with h3 | h3
    · exact .inl h3
    exact .inr ⟨_, h3, Nat.le_refl _⟩
  have FIN := Zh fin
  clear hown hB hgv hone ho hin h0 hap hok hrep hx hPG fin K1 hr
  have hA : (A = none ∧ l.length = 0 ∧ c = 0) ∨ ∃ g, A = some ⟨g, 0, none⟩ := by
    rcases HOW.out.2 with ⟨hv, hn⟩ | ⟨g, cap, cur, hv, _⟩
    · injection hv with h1 h2 h3; exact .inl ⟨h1, h2, h3⟩
    injection hv with h1 _ _; exact .inr ⟨g, h1⟩
  rcases hA with ⟨rfl, hn0, rfl⟩ | ⟨g, rfl⟩
  all_goals
    go_enter Tryd.func105, Tryd.ntmps105
    go_wp2_with (at_builtin; refine wpList_append_own_at _ rfl _ _ 27 rfl w0.heap.size 74 i0 _ 3 64 Tryd.underlying27 hi0 hz0 hz1 hz2 rfl (by decide) _ l.length inner rfl HOW.out ⟨gv, 0, none⟩ 1 1 cx rfl (by rw [hcx]) HV.out HX.out hl63 hlen HS.out ?_; intro v' w' h1 h2 _ h3; have F := Zh (FIN.out v' w' h1 h2 h3); clear h1 h2 h3)
    all_goals (go_ret; exact F.out)
set_option maxHeartbeats 4000000 in
set_option maxRecDepth 100000 in
theorem sInsert_room (i : Nat) (P G : Nat → Prop) (g n c : Nat) (l : List S74) (x : S74) (cx : List Value) (gv : Nat) (w0 w : World) (hB : Below w0.heap.size w0 w) (ho : Kd.S k74 74 w w0.heap.size P (.slice (some ⟨g, 0, none⟩) n c) l) (hlen : (l.length + 1) * 64 ≤ 140737488355328)
    (hx : k74.M w w0.heap.size G x cx) (hgv : w.heap[gv]? = some (.cells cx.toArray 74 (0, 0))) (hPG : ∀ k, G k → ¬ P k) (hgP : ¬ P gv) (hi : i < n) (hroom : n + 1 ≤ c) (r : List S74) (hr : r = l.take i ++ x :: l.drop i) :
    Calls Tryd.prog 105 #[.slice (some ⟨g, 0, none⟩) n c, .int .i64 i, .slice (some ⟨gv, 0, none⟩) 1 1] w (InsPost w0 w P G r) := by
  obtain ⟨inner, okj, hown, hin, h0, hap, hok, hrep⟩ := S_parts ho
  have hn := (Kd.S_reads' ho).1
  have hcx : cx.length = 3 := k74.K_len (k74.K_of_M hx)
  have hone := k74.K_one (k74.K_of_M hx)
  have hPg : P g := h0 g (by simp [Value.ownBlock])
  have hvb : gv ≠ g := fun he => hgP (he ▸ hPg)
  have hcm := S_cap ho
  have hin3 : inner.length = n * 3 := by rw [hin, hn]; rfl
  obtain ⟨cur, hh, hcs, htk, hbg⟩ : ∃ cur, w.heap[g]? = some (.cells cur 74 (0, 0)) ∧ cur.size = c * 3 ∧ cur.toList.take (n * 3) = inner ∧ w0.heap.size ≤ g := by
    rcases hown.2 with ⟨hv, _⟩ | ⟨g', cap', cur, hv, hb, hh, hnc, hcm, hcs, htake⟩
    · cases hv
    injection hv with ha _ hc'
    injection ha with ha
    injection ha with hg
    subst hg; subst hc'
    exact ⟨cur, hh, hcs, by rw [hn]; exact htake, hb⟩
  have hgw : g < w.heap.size := blk_lt hh
  have hone2 : ∀ u ∈ inner, u.oneCell' = true := by
    intro u hu
    obtain ⟨q, hq⟩ := List.mem_iff_getElem?.1 hu
    have hql := (List.getElem?_eq_some_iff.1 hq).1
    have hqn : q / 3 < l.length := by omega
    have hM := hrep (q / 3) _ (List.getElem?_eq_getElem hqn)
    refine k74.K_one (k74.K_of_M hM) u (List.mem_iff_getElem?.2 ⟨q % 3, ?_⟩)
    show ((inner.drop (q / 3 * 3)).take 3)[q % 3]? = some u
    rw [List.getElem?_take, if_pos (Nat.mod_lt _ (by decide)), List.getElem?_drop, show q / 3 * 3 + q % 3 = q by omega]
    exact hq
  have hc0 : ∀ j u, inner[j]? = some u → w.cell? ⟨g, j, none⟩ = some u := fun j u hu => by
    rw [blk_cell hh j]
    rw [← htk, List.getElem?_take] at hu
    split at hu
    · simpa using hu
    cases hu
  have hsp : ∀ j, j < c * 3 → (w.cell? ⟨g, j, none⟩).isSome = true := fun j hj => by rw [blk_cell hh j, Array.getElem?_eq_getElem (by omega)]; rfl
  have hfz : ∀ j, w.frozen? ⟨g, j, none⟩ = false := fun j => Zn hh j
  have hvs : ∀ j u, cx[j]? = some u → w.cell? ⟨gv, j, none⟩ = some u := fun j u hu => by rw [blk_cell hgv j]; simpa using hu
  have hdl : (inner.drop (i * 3)).length = (n - i) * 3 := by rw [List.length_drop, hin3, Nat.sub_mul]
  have hov : ∀ lb cb, (callFunc 116 #[.slice (some ⟨gv, 0, none⟩) 1 1, .slice (some ⟨g, (i + 1) * 3, none⟩) lb cb]).run Tryd.prog w = .ok (.value (.bool false)) w := fun lb cb => by
    rw [run_callFunc_extern Tryd.func116 (by kernel_rfl) (by kernel_rfl) (by kernel_rfl) (e := Extern.SlicesOverlaps.overlaps #[27, 27] #[4]) (by kernel_rfl),
      Lib.run_overlaps_apart w 27 4 74 Tryd.underlying27 3 Tryd.sizeOf74 ⟨gv, 0, none⟩ ⟨g, (i + 1) * 3, none⟩ 1 1 lb cb hvb 74 74 3 (c * 3) (by simp [World.shape?, hgv, hcx]) (by simp [World.shape?, hh, hcs]) (by omega) (Zn hgv 0) (Zn hgv 3)]
    rfl
  have hmin1 : Nat.min (n + 1 - i) (n - i) = n - i := by simp only [Nat.min_def]; split <;> omega
  have hmin2 : Nat.min 1 (n + 1 - i) = 1 := by simp only [Nat.min_def]; split <;> omega
  have hcp1 : ∀ ty dc sc, (Builtin.copy_ #[27, 27] ty #[.slice (some ⟨g, (i + 1) * 3, none⟩) (n - i) dc, .slice (some ⟨g, i * 3, none⟩) (n + 1 - i) sc]).run Tryd.prog w.drew = .ok (goInt ((n - i : Nat) : Int)) (w.drew.setCells g ((i + 1) * 3) (inner.drop (i * 3))) := fun ty dc sc => by
    have h := run_copy_k (P := Tryd.prog) w.drew 27 27 ty 74 3 g ((i + 1) * 3) (n - i) dc ⟨g, i * 3, none⟩ (n + 1 - i) sc (inner.drop (i * 3)) Tryd.underlying27 info74s (by rw [hmin1]; exact hdl)
      (fun j u hj => by rw [Addr.add_lit]; exact hc0 (i * 3 + j) u (by rwa [List.getElem?_drop] at hj))
      (fun j hj => hsp _ (by rw [hdl, Nat.sub_mul] at hj; omega)) (fun j hj => hfz _) (fun u hu => hone2 u (List.mem_of_mem_drop hu))
    rw [hmin1] at h
    exact h
  obtain ⟨cur1, hh1, hcs1, hl1⟩ := setCells_row (inner.drop (i * 3)) ((i + 1) * 3) w.drew cur hh (by rw [hdl, Nat.sub_mul]; omega)
  obtain ⟨W1, hW1⟩ : ∃ W1, W1 = w.drew.setCells g ((i + 1) * 3) (inner.drop (i * 3)) := ⟨_, rfl⟩
  rw [← hW1] at hcp1 hh1
  have hgv1 : W1.heap[gv]? = some (.cells cx.toArray 74 (0, 0)) := by rw [hW1, setCells_far _ _ gv hvb]; exact hgv
  have hcp2 : ∀ ty dc, (Builtin.copy_ #[27, 27] ty #[.slice (some ⟨g, i * 3, none⟩) (n + 1 - i) dc, .slice (some ⟨gv, 0, none⟩) 1 1]).run Tryd.prog W1 = .ok (goInt ((1 : Nat) : Int)) (W1.setCells g (i * 3) cx) := fun ty dc => by
    have h := run_copy_k (P := Tryd.prog) W1 27 27 ty 74 3 g (i * 3) (n + 1 - i) dc ⟨gv, 0, none⟩ 1 1 cx Tryd.underlying27 info74s (by rw [hmin2, hcx])
      (fun j u hj => by rw [Addr.add_lit, Nat.zero_add, blk_cell hgv1 j]; simpa using hj)
      (fun j hj => by rw [blk_cell hh1, Array.getElem?_eq_getElem (by omega)]; rfl) (fun j hj => Zn hh1 _) hone
    rw [hmin2] at h
    exact h
  obtain ⟨cur2, hh2, hcs2, hl2⟩ := setCells_row cx (i * 3) W1 cur1 hh1 (by omega)
  have hfin : InsPost w0 w P G r (.returned (.slice (some ⟨g, 0, none⟩) (n + 1) c)) (W1.setCells g (i * 3) cx) := by
    subst hr
    have hB1 : Below w0.heap.size w0 (W1.setCells g (i * 3) cx) := by rw [hW1]; exact below_setCells hbg _ _ (below_setCells hbg _ _ (Ze hB))
    have hfar : ∀ k, k ≠ g → (W1.setCells g (i * 3) cx).heap[k]? = w.heap[k]? := fun k hk => by rw [setCells_far _ _ k hk, hW1, setCells_far _ _ k hk]; rfl
    have hsz2 : (W1.setCells g (i * 3) cx).heap.size = w.heap.size := by rw [(setCells_same g _ _ W1).2.2.2, hW1, (setCells_same g _ _ w.drew).2.2.2]; rfl
    have ho' : (Value.slice (some ⟨g, 0, none⟩) n c).ownBlock = some g := by simp [Value.ownBlock]
    refine ⟨_, rfl, S_putO (i := i) hin h0 hap hok hrep hx hPG (by omega) ⟨?_, .inr ⟨g, c, cur2, by rw [hn], hbg, hh2, by omega, by simp only [maxLen]; omega, ?_, ?_⟩⟩ (.inl (by simp [Value.ownBlock])) (fun k hk hne => hfar k (fun he => hne (by rw [ho', he]))), hB1, by omega, fun k hk hne => hfar k (fun he => hne (he ▸ hPg))⟩
    · simp only [List.length_append, List.length_take, List.length_drop, hcx, hin3]
      show min (i * 3) (n * 3) + 3 + (n * 3 - i * 3) = (l.length + 1) * 3
      omega
    · show cur2.size = c * 3; omega
    show cur2.toList.take ((l.length + 1) * 3) = inner.take (i * 3) ++ cx ++ inner.drop (i * 3)
    rw [← hn]
    exact ins_row hin3 hcx hi (by rw [Array.length_toList]; omega) htk hl1 hl2
  have FIN := Zh hfin
  have hcp1' := Zh hcp1
  have hcp2' := Zh hcp2
  have hic : i ≤ c := by omega
  have hi1c : i + 1 ≤ c := by omega
  have hinz : ¬ ((i : Int) = (n : Int)) := by omega
  have hin1 : (i : Int) ≤ (n : Int) := by omega
  have hii0 : (0 : Int) ≤ (i : Int) + 1 := by omega
  have hii1 : (i : Int) + 1 ≤ (n : Int) + 1 := by omega
  have hii2 : (i : Int) ≤ (n : Int) + 1 := by omega
  have hnn0 : (0 : Int) ≤ (n : Int) + 1 := by omega
  have hnn1 : (n : Int) + 1 ≤ (c : Int) := by omega
  have hnc : n ≤ c := by omega
  have hcgt : ¬ ((c : Int) < (n : Int) + 1) := by omega
  have hb2 : ¬ (c = i + 1) := by omega
  have hb4 : ¬ (c = i) := by omega
  have hnt : ((n : Int) + 1).toNat = n + 1 := by omega
  have hit : ((i : Int) + 1).toNat = i + 1 := by omega
  clear hown hin h0 hap hok hrep ho hx hPG hr hfin hcp1 hcp2 hone hone2 hc0 hsp hfz hvs hdl hh hh1 hh2 hl1 hl2 hcs hcs1 hcs2 htk hmin1 hmin2 hgv hgv1 hB hn hW1 hgP hPg
  clear hlen
  go_enter Tryd.func105, Tryd.ntmps105
  go_wp2_with (simp only [hov])
  have hw1 : IntKind.i64.wrap ((i : Int) + 1) = (i : Int) + 1 := by rw [IntKind.wrap_i64]; omega
  go_region_law (refine step_copy_run rfl (.tmp 73) (.tmp 76) 27 27 rfl _ _ (by simp [Act.eval, Act.put]) (by simp [Act.eval, Act.put]) (hcp1'.out _ (c - (i + 1)) (c - i)) ?_)
  go_wp2_with ((with_reducible refine gate_builtin (b := .copy) (xs := #[.tmp 80, .tmp 81]) rfl ?_); refine wpList_copy_run _ rfl (.tmp 80) (.tmp 81) 27 27 rfl _ _ rfl rfl (hcp2'.out _ _) ?_)
  go_ret
  exact FIN.out
theorem wpList_append_run {P : Program} (w : World) {ops : Array Oper} {rest : List Oper} {o : Oper} {a : Act} {Q : Exit → Act → World → Prop} (hgd : o.guard = none) (d s : Operand) (t t' : TypeId)
    (ho : o.op = .call { callee := .builtin .append, args := #[d, s], argTypes := #[t, t'] }) (v u : Value) (hd : a.eval d = v) (hs : a.eval s = u) {v' : Value} {w' : World}
    (hr : (Builtin.append_ #[t, t'] o.type #[v, u]).run P w = .ok v' w') (h : wpList P ops Q rest (a.put o.dst v') w') : wpList P ops Q (o :: rest) a w :=
  wpList_plain hgd fun _ hK => by
    unfold Oper.wp execOp
    simp only [ho, resolve, invoke, builtin, Sem.run_bind, Sem.run_pure, Result.andThen_ok, List.map_toArray, List.map_cons, List.map_nil, hd, hs, hr]
    exact hK _ _ h
theorem ins_new {cur cur1 cur2 inner cx z : List Value} {n i : Nat} (hin : inner.length = n * 3) (hcx : cx.length = 3) (hi : i < n) (hcl : (n + 1) * 3 ≤ cur.length) (h0 : cur.take (i * 3) = inner.take (i * 3))
    (h1 : cur1 = cur.take (i * 3) ++ cx ++ cur.drop (i * 3 + cx.length)) (h2 : cur2 = cur1.take ((i + 1) * 3) ++ inner.drop (i * 3) ++ cur1.drop ((i + 1) * 3 + (inner.drop (i * 3)).length)) :
    cur2.take ((n + 1) * 3) = inner.take (i * 3) ++ cx ++ inner.drop (i * 3) := by
  have e0 : (inner.take (i * 3)).length = i * 3 := by rw [List.length_take]; omega
  have e1 : cur1.take ((i + 1) * 3) = inner.take (i * 3) ++ cx := by
    rw [h1, h0, List.take_left']
    rw [List.length_append, e0, hcx]; omega
  rw [h2, e1, List.take_left']
  simp only [List.length_append, List.length_drop, hcx, hin, e0]
  omega
set_option maxHeartbeats 4000000 in
set_option maxRecDepth 100000 in
theorem sInsert_grow (i : Nat) (P G : Nat → Prop) (g n c : Nat) (l : List S74) (x : S74) (cx : List Value) (gv : Nat) (w0 w : World) (hB : Below w0.heap.size w0 w) (ho : Kd.S k74 74 w w0.heap.size P (.slice (some ⟨g, 0, none⟩) n c) l) (hlen : (l.length + 1) * 64 ≤ 140737488355328)
    (hx : k74.M w w0.heap.size G x cx) (hgv : w.heap[gv]? = some (.cells cx.toArray 74 (0, 0))) (hPG : ∀ k, G k → ¬ P k) (hgP : ¬ P gv) (hi : i < n) (hroom : c < n + 1) (r : List S74) (hr : r = l.take i ++ x :: l.drop i) :
    Calls Tryd.prog 105 #[.slice (some ⟨g, 0, none⟩) n c, .int .i64 i, .slice (some ⟨gv, 0, none⟩) 1 1] w (InsPost w0 w P G r) := by
  obtain ⟨inner, okj, hown, hin, h0, hap, hok, hrep⟩ := S_parts ho
  have hn := (Kd.S_reads' ho).1
  have hcx : cx.length = 3 := k74.K_len (k74.K_of_M hx)
  have hone := k74.K_one (k74.K_of_M hx)
  have hPg : P g := h0 g (by simp [Value.ownBlock])
  have hvb : gv ≠ g := fun he => hgP (he ▸ hPg)
  have hin3 : inner.length = n * 3 := by rw [hin, hn]; rfl
  obtain ⟨cur, hh, hcs, htk, hbg⟩ : ∃ cur, w.heap[g]? = some (.cells cur 74 (0, 0)) ∧ cur.size = c * 3 ∧ cur.toList.take (n * 3) = inner ∧ w0.heap.size ≤ g := by
    rcases hown.2 with ⟨hv, _⟩ | ⟨g', cap', cur, hv, hb, hh, hnc, hcm, hcs, htake⟩
    · cases hv
    injection hv with ha _ hc'
    injection ha with ha
    injection ha with hg
    subst hg; subst hc'
    exact ⟨cur, hh, hcs, by rw [hn]; exact htake, hb⟩
  have hgw : g < w.heap.size := blk_lt hh
  have hone2 : ∀ u ∈ inner, u.oneCell' = true := by
    intro u hu
    obtain ⟨q, hq⟩ := List.mem_iff_getElem?.1 hu
    have hql := (List.getElem?_eq_some_iff.1 hq).1
    have hqn : q / 3 < l.length := by omega
    have hM := hrep (q / 3) _ (List.getElem?_eq_getElem hqn)
    refine k74.K_one (k74.K_of_M hM) u (List.mem_iff_getElem?.2 ⟨q % 3, ?_⟩)
    show ((inner.drop (q / 3 * 3)).take 3)[q % 3]? = some u
    rw [List.getElem?_take, if_pos (Nat.mod_lt _ (by decide)), List.getElem?_drop, show q / 3 * 3 + q % 3 = q by omega]
    exact hq
  have hc0 : ∀ j u, inner[j]? = some u → w.cell? ⟨g, j, none⟩ = some u := fun j u hu => by
    rw [blk_cell hh j]
    rw [← htk, List.getElem?_take] at hu
    split at hu
    · simpa using hu
    cases hu
  have hsp : ∀ j, j < c * 3 → (w.cell? ⟨g, j, none⟩).isSome = true := fun j hj => by rw [blk_cell hh j, Array.getElem?_eq_getElem (by omega)]; rfl
  have hfz : ∀ j, w.frozen? ⟨g, j, none⟩ = false := fun j => Zn hh j
  have hvs : ∀ j u, cx[j]? = some u → w.cell? ⟨gv, j, none⟩ = some u := fun j u hu => by rw [blk_cell hgv j]; simpa using hu
  have hdl : (inner.drop (i * 3)).length = (n - i) * 3 := by rw [List.length_drop, hin3, Nat.sub_mul]
  obtain ⟨i0, hi0, hz0, hz1, hz2⟩ := info_parts info74
  have hnc : n ≤ c := (Kd.S_reads' ho).2.1
  have hgvw : gv < w.heap.size := blk_lt hgv
  have hold : (Builtin.firstCells i0.size i (.slice (some ⟨g, 0, none⟩) i c)).run Tryd.prog w.drew = .ok (inner.take (i * 3)).toArray w.drew := by
    rw [hz1]
    exact run_firstCells_some w.drew 3 i ⟨g, 0, none⟩ i c (inner.take (i * 3)) (by rw [List.length_take]; omega) (fun j v hj => by
      rw [Addr.add_lit, Nat.zero_add]
      rw [List.getElem?_take] at hj
      split at hj
      · exact hc0 j v hj
      cases hj)
  have hik : i + (n + 1 - i) = n + 1 := by omega
  obtain ⟨GC, hGC⟩ : ∃ GC, GC = grownCap w (n + 1) c 74 := ⟨_, rfl⟩
  have hGn : n + 1 ≤ GC := by rw [hGC]; exact grownCap_ge w _ _ _
  have hGm : GC ≤ maxLen := by rw [hGC]; exact grownCap_le_maxLen w (n + 1) c 74 (by simp only [maxLen]; omega)
  obtain ⟨ROW, hROW⟩ : ∃ ROW : Array Value, ROW = (inner.take (i * 3)).toArray ++ Builtin.zeroCells (Value.agg #[.string ⟨#[]⟩, .slice none 0 0, .slice none 0 0]).cells (n + 1 - i) ++ Builtin.zeroCells (Value.agg #[.string ⟨#[]⟩, .slice none 0 0, .slice none 0 0]).cells (GC - (n + 1)) := ⟨_, rfl⟩
  have hRs : ROW.size = GC * 3 := by
    rw [hROW]
    simp only [Array.size_append, List.size_toArray, List.length_take, size_zeroCells, show (Value.agg #[.string ⟨#[]⟩, .slice none 0 0, .slice none 0 0]).cells.size = 3 from rfl]
    omega
  have hRt : ROW.toList.take (i * 3) = inner.take (i * 3) := by
    rw [hROW]
    simp only [Array.toList_append]
    rw [List.append_assoc, List.take_left']
    rw [List.length_take]; omega
  obtain ⟨W1, hW1⟩ : ∃ W1, W1 = w.drew.alloc (.cells ROW 74) := ⟨_, rfl⟩
  have hrz : ∀ ty, (Builtin.append_ #[27, 3] ty #[.slice (some ⟨g, 0, none⟩) i c, .int .i64 ((n + 1 - i : Nat) : Int)]).run Tryd.prog w = .ok (.slice (some ⟨w.heap.size, 0, none⟩) (n + 1) GC) W1 := fun ty => by
    have h := Lib.run_append_grow_zeros (P := Tryd.prog) w 27 3 ty 74 i0 _ .i64 .i64 Tryd.underlying27 Tryd.underlying3 hi0 hz0 (some ⟨g, 0, none⟩) i c (inner.take (i * 3)) hold (n + 1 - i) (by omega) (by omega) (by omega) (by omega) (by rw [hz2]; omega) (by rw [hz2, hik]; exact growslice_fits hroom (by omega))
    rw [hik, ← hGC, ← hROW, ← hW1] at h
    exact h
  have hW1n : W1.heap[w.heap.size]? = some (.cells ROW 74 (0, 0)) := by rw [hW1]; exact heap_alloc_new w.drew _
  have hW1o : ∀ k, k < w.heap.size → W1.heap[k]? = w.heap[k]? := fun k hk => by rw [hW1]; exact heap_alloc_old (w := w.drew) _ hk
  have hW1s : W1.heap.size = w.heap.size + 1 := by rw [hW1]; simp
  have hB1 : Below w0.heap.size w0 W1 := by rw [hW1]; exact Zf (Ze hB) _
  have hmin2 : Nat.min 1 (n + 1 - i) = 1 := by simp only [Nat.min_def]; split <;> omega
  have hmin1 : Nat.min (n - i) (n - i) = n - i := by simp only [Nat.min_def]; split <;> omega
  have hcpA : ∀ ty dc, (Builtin.copy_ #[27, 27] ty #[.slice (some ⟨w.heap.size, i * 3, none⟩) (n + 1 - i) dc, .slice (some ⟨gv, 0, none⟩) 1 1]).run Tryd.prog W1 = .ok (goInt ((1 : Nat) : Int)) (W1.setCells w.heap.size (i * 3) cx) := fun ty dc => by
    have h := run_copy_k (P := Tryd.prog) W1 27 27 ty 74 3 w.heap.size (i * 3) (n + 1 - i) dc ⟨gv, 0, none⟩ 1 1 cx Tryd.underlying27 info74s (by rw [hmin2, hcx])
      (fun j u hj => by rw [Addr.add_lit, Nat.zero_add, blk_cell ((hW1o gv hgvw).trans hgv) j]; simpa using hj)
      (fun j hj => by rw [blk_cell hW1n, Array.getElem?_eq_getElem (by omega)]; rfl) (fun j hj => Zn hW1n _) hone
    rw [hmin2] at h
    exact h
  obtain ⟨cur1, hh1, hcs1, hl1⟩ := setCells_row cx (i * 3) W1 ROW hW1n (by omega)
  obtain ⟨W2, hW2⟩ : ∃ W2, W2 = W1.setCells w.heap.size (i * 3) cx := ⟨_, rfl⟩
  rw [← hW2] at hcpA hh1
  have hgW2 : W2.heap[g]? = some (.cells cur 74 (0, 0)) := by rw [hW2, setCells_far _ _ g (by omega)]; exact (hW1o g hgw).trans hh
  have hcpB : ∀ ty dc sc, (Builtin.copy_ #[27, 27] ty #[.slice (some ⟨w.heap.size, (i + 1) * 3, none⟩) (n - i) dc, .slice (some ⟨g, i * 3, none⟩) (n - i) sc]).run Tryd.prog W2.drew = .ok (goInt ((n - i : Nat) : Int)) (W2.drew.setCells w.heap.size ((i + 1) * 3) (inner.drop (i * 3))) := fun ty dc sc => by
    have h := run_copy_k (P := Tryd.prog) W2.drew 27 27 ty 74 3 w.heap.size ((i + 1) * 3) (n - i) dc ⟨g, i * 3, none⟩ (n - i) sc (inner.drop (i * 3)) Tryd.underlying27 info74s (by rw [hmin1]; exact hdl)
      (fun j u hj => by
        have hj2 : inner[i * 3 + j]? = some u := by rwa [List.getElem?_drop] at hj
        rw [Addr.add_lit]
        show W2.cell? ⟨g, i * 3 + j, none⟩ = some u
        rw [blk_cell hgW2]
        rw [← htk, List.getElem?_take] at hj2
        split at hj2
        · simpa using hj2
        cases hj2)
      (fun j hj => by show (W2.cell? _).isSome = true; rw [blk_cell hh1, Array.getElem?_eq_getElem (by rw [hdl, Nat.sub_mul] at hj; omega)]; rfl) (fun j hj => Zn (w := W2) hh1 _) (fun u hu => hone2 u (List.mem_of_mem_drop hu))
    rw [hmin1] at h
    exact h
  obtain ⟨cur2, hh2, hcs2, hl2⟩ := setCells_row (inner.drop (i * 3)) ((i + 1) * 3) W2.drew cur1 hh1 (by rw [hdl, Nat.sub_mul]; omega)
  obtain ⟨W3, hW3⟩ : ∃ W3, W3 = W2.drew.setCells w.heap.size ((i + 1) * 3) (inner.drop (i * 3)) := ⟨_, rfl⟩
  rw [← hW3] at hcpB hh2
  have hfin : InsPost w0 w P G r (.returned (.slice (some ⟨w.heap.size, 0, none⟩) (n + 1) GC)) W3 := by
    subst hr
    have hws : w0.heap.size ≤ w.heap.size := hB.size
    have hB3 : Below w0.heap.size w0 W3 := by rw [hW3, hW2]; exact below_setCells hws _ _ (Ze (below_setCells hws _ _ hB1))
    have hfar : ∀ k, k < w.heap.size → W3.heap[k]? = w.heap[k]? := fun k hk => by
      rw [hW3, setCells_far _ _ k (by omega)]
      show W2.heap[k]? = _
      rw [hW2, setCells_far _ _ k (by omega)]
      exact hW1o k hk
    have hs3 : W3.heap.size = w.heap.size + 1 := by
      rw [hW3, (setCells_same _ _ _ W2.drew).2.2.2]
      show W2.heap.size = _
      rw [hW2, (setCells_same _ _ _ W1).2.2.2, hW1s]
    refine ⟨_, rfl, S_putO (i := i) hin h0 hap hok hrep hx hPG (by omega) ⟨?_, .inr ⟨w.heap.size, GC, cur2, by rw [hn], hws, hh2, by omega, hGm, ?_, ?_⟩⟩ (.inr ⟨w.heap.size, by simp [Value.ownBlock], Nat.le_refl _⟩) (fun k hk hne => hfar k hk), hB3, by omega, fun k hk hne => hfar k hk⟩
    · simp only [List.length_append, List.length_take, List.length_drop, hcx, hin3]
      show min (i * 3) (n * 3) + 3 + (n * 3 - i * 3) = (l.length + 1) * 3
      omega
    · show cur2.size = GC * 3; omega
    show cur2.toList.take ((l.length + 1) * 3) = inner.take (i * 3) ++ cx ++ inner.drop (i * 3)
    rw [← hn]
    exact ins_new (z := []) hin3 hcx hi (by rw [Array.length_toList]; omega) hRt hl1 hl2
  have FIN := Zh hfin
  have hrz' := Zh hrz
  have hcpA' := Zh hcpA
  have hcpB' := Zh hcpB
  have hnb : n + 1 ≤ 9223372036854775807 := by omega
  have hinz : ¬ ((i : Int) = (n : Int)) := by omega
  have hin1 : (i : Int) ≤ (n : Int) := by omega
  have hii0 : (0 : Int) ≤ (i : Int) + 1 := by omega
  have hii1 : (i : Int) + 1 ≤ (n : Int) + 1 := by omega
  have hii2 : (i : Int) ≤ (n : Int) + 1 := by omega
  have hcgt : ((c : Int) < (n : Int) + 1) := by omega
  have hic : i ≤ c := by omega
  have hb4 : ¬ (c = i) := by omega
  have hGi : ¬ (GC = i) := by omega
  have hGi1 : ¬ (GC = i + 1) := by omega
  have hiG : i ≤ GC := by omega
  have hi1G : i + 1 ≤ GC := by omega
  have hkk : (n : Int) + 1 - (i : Int) = ((n + 1 - i : Nat) : Int) := by omega
  have hit : ((i : Int) + 1).toNat = i + 1 := by omega
  have hwn : IntKind.i64.wrap ((n : Int) + 1) = (n : Int) + 1 := by rw [IntKind.wrap_i64]; omega
  have hwk : IntKind.i64.wrap ((n : Int) + 1 - (i : Int)) = ((n + 1 - i : Nat) : Int) := by rw [IntKind.wrap_i64]; omega
  have hw1 : IntKind.i64.wrap ((i : Int) + 1) = (i : Int) + 1 := by rw [IntKind.wrap_i64]; omega
  clear hown hin h0 hap hok hrep ho hx hPG hr hfin hrz hcpA hcpB hone hone2 hc0 hsp hfz hvs hdl hh hh1 hh2 hl1 hl2 hcs hcs1 hcs2 htk hmin1 hmin2 hgv hB hB1 hn hW1 hW2 hW3 hgP hPg hlen hW1n hW1o hW1s hRs hRt hROW hGC hold hik hgW2 hi0 hz0 hz1 hz2 hGm
  go_enter Tryd.func105, Tryd.ntmps105
  go_wp2_with (first
    | ((with_reducible refine gate_builtin (b := .append) (xs := #[.tmp 34, .tmp 39]) rfl ?_); refine wpList_append_run _ rfl (.tmp 34) (.tmp 39) 27 3 rfl _ _ rfl rfl (hrz'.out _) ?_)
    | ((with_reducible refine gate_builtin (b := .copy) (xs := #[.tmp 43, .tmp 44]) rfl ?_); refine wpList_copy_run _ rfl (.tmp 43) (.tmp 44) 27 27 rfl _ _ rfl rfl (hcpA'.out _ _) ?_))
  go_region_law (refine step_copy_run rfl (.tmp 50) (.tmp 53) 27 27 rfl _ _ (by simp [Act.eval, Act.put]) (by simp [Act.eval, Act.put]) (hcpB'.out _ (GC - (i + 1)) (c - i)) ?_)
  go_wp2
  go_ret
  exact FIN.out
end Go.Proofs.YtmgeffgcihfpcaaDoor.F
