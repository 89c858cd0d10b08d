/- Merged texts below the law FnExactWalRepair: Go functions as Lean functions, their contracts, and plain lemmas. -/
import Derived.Test.YtcgojdhbphocgaaDoorQFnExactWalRepair23
import Derived.Test.YtcgojdhbphocgaaDoorQFnExactWalRepair24
namespace Go.Proofs.YtcgojdhbphocgaaDoor.F
open Go.RowKit Go.Proofs.YtcgojdhbphocgaaDoorW.PrintWords Go.Proofs.YtcgojdhbphocgaaDoorW.PrintWords.Kd Go.Proofs.YtcgojdhbphocgaaDoorW.PrintMore.Kd Go.Proofs.YtcgojdhbphocgaaDoorW.PrintLast Go.Proofs.YtcgojdhbphocgaaDoorW.PrintMore
attribute [local go_sem] max2_int min2_int max_two min_two max_three min_three max_four min_four   -- for this text's walks alone
set_option linter.unusedVariables false
set_option linter.unusedSimpArgs false
def impl_WalRepair.j0 : Nat → Int → Bool → List (S55) → Option ((List (S55)) × Bool)
 | 0, _, _, _ => none
 | k + 1, x5, x18, x505000 => if x18 = true then ((impl_copyDisk.f k x505000).bind fun t511 => (some (t511, false))) else ((impl_cutFile.f k x505000 (⟨#[108, 111, 103]⟩ : ByteArray) x5).bind fun bt514 => (some (bt514.1, bt514.2)))
def impl_WalRepair.f (k : Nat) (l0_0 : List (S55)) : Option ((List (S55)) × Bool) := (impl_walRead.f k l0_0).bind fun bt506 => (if bt506.2.2 = 0 then (impl_WalRepair.j0 k bt506.2.1 false l0_0) else (impl_WalRepair.j0 k bt506.2.1 (bt506.2.2 != 1) l0_0))
set_option maxHeartbeats 8000000 in
set_option maxRecDepth 100000 in
theorem impl_WalRepair.calls (k : Nat) (A0_0 : Option Addr) (c0_0 : Nat) (l0_0 : List (S55)) (r1 : List (S55)) (r2 : Bool) (w : World) (hr0_0 : Kd.C k55 w A0_0 l0_0.length l0_0) (hc0_0 : l0_0.length ≤ c0_0) (h : impl_WalRepair.f k l0_0 = some (r1, r2)) :
  Calls Tryd.prog 26 #[.agg #[.slice A0_0 l0_0.length c0_0]] w fun e w' => ∃ v0_ : Value, e = .returned (.tuple #[.agg #[v0_], .bool r2]) ∧ Kd.S k55c 55 w' w.heap.size (fun _ => True) v0_ r1 ∧ Below w.heap.size w w' := by
 have hu28 := Tryd.underlying28
 have HR0_0 := Zh hr0_0
 have HC0_0 := Zh hc0_0
 clear hr0_0 hc0_0
 have HB := Zh (Below.refl w.heap.size w)
 have H : ((impl_walRead.f k l0_0).bind fun bt506 => (if bt506.2.2 = 0 then (impl_WalRepair.j0 k bt506.2.1 false l0_0) else (impl_WalRepair.j0 k bt506.2.1 (bt506.2.2 != 1) l0_0))) = some (r1, r2) := h
 clear h
 replace H := Option.bind_eq_some_iff.mp H
 obtain ⟨⟨t506, t509, t510⟩, A20, H⟩ := H
 replace H : (if t510 = 0 then (impl_WalRepair.j0 k t509 false l0_0) else (impl_WalRepair.j0 k t509 (t510 != 1) l0_0)) = some (r1, r2) := H
 have A2 := Zh A20
 clear A20
 have HC3 := Zh H
 clear H
 go_enter Tryd.func26, Tryd.ntmps26
 go_upto_region 2 with (first | ((with_reducible refine gate_dst (N := 1) rfl ?_); refine box_event ?hg (N := 1) ?hd (cs := #[.slice A0_0 l0_0.length c0_0]) (t := 28) ?hr ?_; (case hd => rfl); (case hg => rfl); (case hr => first | (go_simp; done) | (go_simp; rfl)); intro gb504 hg w4 hbox hb; have n0_ := Zh (Zl Zs hb); have n1_ := Zh (hbox); have n2_ := Zh ((by rw [hg]; exact (below_size Zs) : w.heap.size ≤ gb504)); have n3_ := Zh ((by rw [hg]; exact (below_size Zs) : w.heap.size ≤ gb504)); clear HB; have HB := n0_; have BK504 := n1_; have GW504 := n2_; have GE504 := n3_; clear n0_ n1_ n2_ n3_; clear hb hbox hg) | ((with_reducible refine gate_dst (N := 2) rfl ?_); refine box_event ?hg (N := 2) ?hd (cs := #[.slice none 0 0]) (t := 28) ?hr ?_; (case hd => rfl); (case hg => rfl); (case hr => first | (go_simp; done) | (go_simp; rfl)); intro gb505 hg w5 hbox hb; have n0_ := Zh (Zm (g := gb504) (o := .cells #[.slice A0_0 l0_0.length c0_0] 28 (0, 0)) Zk hb); have n1_ := Zh (Zl Zs hb); have n2_ := Zh (hbox); have n3_ := Zh ((by rw [hg]; exact (below_size Zs) : w.heap.size ≤ gb505)); have n4_ := Zh ((by rw [hg]; exact (below_size Zs) : w.heap.size ≤ gb505)); have n5_ := Zh ((by rw [hg]; exact Nat.ne_of_lt (blk_lt (g := gb504) (o := .cells #[.slice A0_0 l0_0.length c0_0] 28 (0, 0)) Zk) : gb504 ≠ gb505)); have n6_ := Zh ((by rw [hg]; exact Nat.ne_of_gt (blk_lt (g := gb504) (o := .cells #[.slice A0_0 l0_0.length c0_0] 28 (0, 0)) Zk) : gb505 ≠ gb504)); clear BK504; clear HB; have BK504 := n0_; have HB := n1_; have BK505 := n2_; have GW505 := n3_; have GE505 := n4_; have NB504_505 := n5_; have NB505_504 := n6_; clear n0_ n1_ n2_ n3_ n4_ n5_ n6_; clear hb hbox hg; have hnb6 := NB504_505.out; have hnc6 := NB505_504.out; have hcz7_0 : w5.cell? ⟨gb504, 0, none⟩ = some (.slice A0_0 l0_0.length c0_0) := (blk_cell BK504.out 0).trans rfl; have hfz7_0 := Zn BK504.out 0) | ((with_reducible refine gate_callee (f := 49) rfl ?_); refine goesL_ (some 9) rfl rfl Tryd.func49 (by kernel_rfl) rfl #[.agg #[.slice A0_0 l0_0.length c0_0]] rfl (by (try simp only [List.map_toArray, List.map_cons, List.map_nil]); first | done | rfl | (simp only [List.length_drop, List.length_take]; rfl)) ?_; (with_reducible refine (impl_walRead.calls k _ _ l0_0 t506 t509 t510 _ ?side1 ?side2 A2.out).mono ?_); (case side1 => repeat (first | exact (C_below HR0_0.out HB.out) | (with_reducible refine C_alloc ?_ _) | (with_reducible refine C_drewN ?_ _) | (with_reducible refine C_drew ?_))); (case side2 => exact HC0_0.out); rintro e w8 ⟨v507, rfl, ho0, hb⟩; refine ⟨_, rfl, ?_⟩; have n0_ := Zh (S_lower ho0 (below_size Zs)); have n1_ := Zh (Zm (g := gb504) (o := .cells #[.slice A0_0 l0_0.length c0_0] 28 (0, 0)) Zk hb); have n2_ := Zh (Zm (g := gb505) (o := .cells #[.slice none 0 0] 28 (0, 0)) Zk hb); have n3_ := Zh (Zl Zs hb); clear BK504; clear BK505; clear HB; have HO508 := n0_; have BK504 := n1_; have BK505 := n2_; have HB := n3_; clear n0_ n1_ n2_ n3_; (try clear hb); (try clear hb2); (try clear hk); (try clear hi); (try clear ho0)))
 (try simp only [Act.put, List.setIfInBounds_toArray, List.set_cons_zero, List.set_cons_succ])
 go_cut [18] (fun v18 wc => ∃ (kq : Nat) (x18_2 : Bool), v18 = .bool x18_2 ∧ Aside0 (impl_WalRepair.j0 kq t509 x18_2 l0_0 = some (r1, r2)) ∧ Aside0 (kq ≤ k) ∧ Aside0 (wc.heap[gb504]? = some (.cells #[(.slice A0_0 l0_0.length c0_0)] 28 (0, 0))) ∧ Aside0 (wc.heap[gb505]? = some (.cells #[(.slice none 0 0)] 28 (0, 0))) ∧ Aside0 (Below w.heap.size w wc))
 case first =>
  have H := HC3.out
  clear HC3
  by_cases c9 : t510 = 0
  ·
   rw [if_pos c9] at H
   have c9b0 : (t510 == 0) = true := beq_iff_eq.mpr c9
   have c9b1 : (t510 != 0) = false := bne_eq_false_iff_eq.mpr c9
   clear c9
   (first | rw [c9b0] | (simp only [i64_w, i32_w]; rw [c9b0]) | skip)
   have H' := Zh H
   clear H
   go_wp2
   go_meet
   case rel => exact ⟨_, (false), (by first | rfl | (simp; done) | (simp [*]; done)), H', ⟨by first | omega | exact Nat.le_refl _⟩, ⟨by (with_reducible repeat (first | refine Za ?_ _ | refine Zb ?_ | refine blk_alloc ?_ _)); exact BK504.out⟩, ⟨by (with_reducible repeat (first | refine Za ?_ _ | refine Zb ?_ | refine blk_alloc ?_ _)); exact BK505.out⟩, ⟨by repeat (first | (with_reducible first | exact HB.out | apply Zf | apply Zd | apply Ze | refine Zg ?_ GE504.out | refine Zg ?_ GE505.out) | exact HB.out)⟩⟩
  rw [if_neg c9] at H
  have c9b0 : (t510 == 0) = false := beq_eq_false_iff_ne.mpr c9
  have c9b1 : (t510 != 0) = true := bne_iff_ne.mpr c9
  (first | rw [c9b0] | (simp only [i64_w, i32_w]; rw [c9b0]) | skip)
  have H' := Zh H
  clear H
  go_wp2
  go_meet
  case rel => exact ⟨_, ((t510 != 1)), (by first | rfl | (simp; done) | (simp [*]; done)), H', ⟨by first | omega | exact Nat.le_refl _⟩, ⟨by (with_reducible repeat (first | refine Za ?_ _ | refine Zb ?_ | refine blk_alloc ?_ _)); exact BK504.out⟩, ⟨by (with_reducible repeat (first | refine Za ?_ _ | refine Zb ?_ | refine blk_alloc ?_ _)); exact BK505.out⟩, ⟨by repeat (first | (with_reducible first | exact HB.out | apply Zf | apply Zd | apply Ze | refine Zg ?_ GE504.out | refine Zg ?_ GE505.out) | exact HB.out)⟩⟩
 case rest =>
  clear HC3
  try clear c2
  try clear p2
  try clear c4
  try clear c6
  try clear c9
  try clear c9b0
  try clear c9b1
  try clear hcz7_0
  try clear hfz7_0
  obtain ⟨kq, x18_2, rfl, HA, HJ2, BK504, BK505, HB⟩ := hcut
  cases kq with
  | zero => exact absurd HA.out (by simp [impl_WalRepair.j0])
  | succ kj2 =>
   have H := HA.out
   clear HA
   simp only [impl_WalRepair.j0] at H
   by_cases c10 : x18_2 = true
   ·
    subst c10
    have H1 : ((impl_copyDisk.f kj2 l0_0).bind fun t511 => (some (t511, false))) = some (r1, r2) := by rw [if_pos rfl] at H; exact H
    clear H
    have H := H1
    clear H1
    replace H := Option.bind_eq_some_iff.mp H
    obtain ⟨t511, A110, H⟩ := H
    replace H : (some (t511, false)) = some (r1, r2) := H
    have A11 := Zh A110
    clear A110
    simp only [Option.some.injEq, Prod.mk.injEq] at H
    obtain ⟨rfl, rfl⟩ := H
    have hnb12 := NB504_505.out
    have hnc12 := NB505_504.out
    have hcz13_0 : wc.cell? ⟨gb504, 0, none⟩ = some (.slice A0_0 l0_0.length c0_0) := (blk_cell BK504.out 0).trans rfl
    have hfz13_0 := Zn BK504.out 0
    go_wp2_with (first | ((with_reducible refine gate_callee (f := 56) rfl ?_); refine goesL_ (some 20) rfl rfl Tryd.func56 (by kernel_rfl) rfl #[.agg #[.slice A0_0 l0_0.length c0_0]] rfl (by (try simp only [List.map_toArray, List.map_cons, List.map_nil]); first | done | rfl | (simp only [List.length_drop, List.length_take]; rfl)) ?_; (with_reducible refine (impl_copyDisk.calls kj2 _ _ l0_0 t511 _ ?side1 ?side2 A11.out).mono ?_); (case side1 => repeat (first | exact (C_below HR0_0.out HB.out) | (with_reducible refine C_alloc ?_ _) | (with_reducible refine C_drewN ?_ _) | (with_reducible refine C_drew ?_))); (case side2 => exact HC0_0.out); rintro e w14 ⟨v512, rfl, ho0, hb⟩; refine ⟨_, rfl, ?_⟩; have n0_ := Zh (S_lower ho0 (below_size Zs)); have n1_ := Zh (Zm (g := gb504) (o := .cells #[.slice A0_0 l0_0.length c0_0] 28 (0, 0)) Zk hb); have n2_ := Zh (Zm (g := gb505) (o := .cells #[.slice none 0 0] 28 (0, 0)) Zk hb); have n3_ := Zh (Zl Zs hb); clear BK504; clear BK505; clear HB; have HO513 := n0_; have BK504 := n1_; have BK505 := n2_; have HB := n3_; clear n0_ n1_ n2_ n3_; (try clear hb); (try clear hb2); (try clear hk); (try clear hi); (try clear ho0); obtain ⟨Ao15, co15, eo15⟩ := S_slice HO513.out; subst eo15; have hcz16_0 : w14.cell? ⟨gb505, 0, none⟩ = some (.slice none 0 0) := (blk_cell BK505.out 0).trans rfl; have hfz16_0 := Zn BK505.out 0))
    refine bodyPost_ret (results_ct rfl _ _ gb505 28 #[.slice Ao15 t511.length co15] (0, 0) _ rfl (by (with_reducible repeat (first | refine Za ?_ _ | refine Zb ?_ | refine blk_alloc ?_ _)); refine blk_put (cs := #[.slice none 0 0]) ?_ 0 _ rfl; (with_reducible repeat (first | refine Za ?_ _ | refine Zb ?_ | refine blk_alloc ?_ _)); exact BK505.out) Tryd.underlying28 rfl (by kernel_rfl)) rfl ?_
    exact ⟨_, by first | rfl | (simp [errW_none, errW_some] <;> rfl) | (simp [*, errW_none, errW_some] <;> rfl), by (with_reducible repeat (first | apply S_alloc | apply S_drewN | apply S_drew)); exact S_mono (S_far (p := ⟨gb505, 0, none⟩) (S_types (S_c HO513.out) BK505.out (by decide)) (fun _ hk => hk.2) (.slice Ao15 t511.length co15)) (fun _ hk => trivial), by repeat (first | (with_reducible first | exact HB.out | apply Zf | apply Zd | apply Ze | refine Zg ?_ GE504.out | refine Zg ?_ GE505.out) | exact HB.out)⟩
   replace c10 := Bool.eq_false_iff.mpr c10
   subst c10
   have H1 : ((impl_cutFile.f kj2 l0_0 (⟨#[108, 111, 103]⟩ : ByteArray) t509).bind fun bt514 => (some (bt514.1, bt514.2))) = some (r1, r2) := by rw [if_neg (show ¬ (false = true) by decide)] at H; exact H
   clear H
   have H := H1
   clear H1
   replace H := Option.bind_eq_some_iff.mp H
   obtain ⟨⟨t514, t517⟩, A170, H⟩ := H
   replace H : (some (t514, t517)) = some (r1, r2) := H
   have A17 := Zh A170
   clear A170
   simp only [Option.some.injEq, Prod.mk.injEq] at H
   obtain ⟨rfl, rfl⟩ := H
   have hnb18 := NB504_505.out
   have hnc18 := NB505_504.out
   have hcz19_0 : wc.cell? ⟨gb504, 0, none⟩ = some (.slice A0_0 l0_0.length c0_0) := (blk_cell BK504.out 0).trans rfl
   have hfz19_0 := Zn BK504.out 0
   go_wp2_with (first | ((with_reducible refine gate_callee (f := 57) rfl ?_); refine goesL_ (some 23) rfl rfl Tryd.func57 (by kernel_rfl) rfl #[.agg #[.slice A0_0 l0_0.length c0_0], .string (⟨#[108, 111, 103]⟩ : ByteArray), .int .i64 t509] rfl (by (try simp only [List.map_toArray, List.map_cons, List.map_nil]); first | done | rfl | (simp only [List.length_drop, List.length_take]; rfl)) ?_; (with_reducible refine (impl_cutFile.calls kj2 _ _ l0_0 (⟨#[108, 111, 103]⟩ : ByteArray) t509 t514 t517 _ ?side1 ?side2 A17.out).mono ?_); (case side1 => repeat (first | exact (C_below HR0_0.out HB.out) | (with_reducible refine C_alloc ?_ _) | (with_reducible refine C_drewN ?_ _) | (with_reducible refine C_drew ?_))); (case side2 => exact HC0_0.out); rintro e w20 ⟨v515, rfl, ho0, hb⟩; refine ⟨_, rfl, ?_⟩; have n0_ := Zh (S_lower ho0 (below_size Zs)); have n1_ := Zh (Zm (g := gb504) (o := .cells #[.slice A0_0 l0_0.length c0_0] 28 (0, 0)) Zk hb); have n2_ := Zh (Zm (g := gb505) (o := .cells #[.slice none 0 0] 28 (0, 0)) Zk hb); have n3_ := Zh (Zl Zs hb); clear BK504; clear BK505; clear HB; have HO516 := n0_; have BK504 := n1_; have BK505 := n2_; have HB := n3_; clear n0_ n1_ n2_ n3_; (try clear hb); (try clear hb2); (try clear hk); (try clear hi); (try clear ho0); obtain ⟨Ao21, co21, eo21⟩ := S_slice HO516.out; subst eo21; have hcz22_0 : w20.cell? ⟨gb505, 0, none⟩ = some (.slice none 0 0) := (blk_cell BK505.out 0).trans rfl; have hfz22_0 := Zn BK505.out 0))
   refine bodyPost_ret (results_ct rfl _ _ gb505 28 #[.slice Ao21 t514.length co21] (0, 0) _ rfl (by (with_reducible repeat (first | refine Za ?_ _ | refine Zb ?_ | refine blk_alloc ?_ _)); refine blk_put (cs := #[.slice none 0 0]) ?_ 0 _ rfl; (with_reducible repeat (first | refine Za ?_ _ | refine Zb ?_ | refine blk_alloc ?_ _)); exact BK505.out) Tryd.underlying28 rfl (by kernel_rfl)) rfl ?_
   exact ⟨_, by first | rfl | (simp [errW_none, errW_some] <;> rfl) | (simp [*, errW_none, errW_some] <;> rfl), by (with_reducible repeat (first | apply S_alloc | apply S_drewN | apply S_drew)); exact S_mono (S_far (p := ⟨gb505, 0, none⟩) (S_types HO516.out BK505.out (by decide)) (fun _ hk => hk.2) (.slice Ao21 t514.length co21)) (fun _ hk => trivial), by repeat (first | (with_reducible first | exact HB.out | apply Zf | apply Zd | apply Ze | refine Zg ?_ GE504.out | refine Zg ?_ GE505.out) | exact HB.out)⟩
end Go.Proofs.YtcgojdhbphocgaaDoor.F

namespace Go.Proofs.YtcgojdhbphocgaaDoor.F
open Go.RowKit Go.Proofs.YtcgojdhbphocgaaDoorW.PrintWords Go.Proofs.YtcgojdhbphocgaaDoorW.PrintLast Go.Proofs.YtcgojdhbphocgaaDoorW.PrintMore
set_option linter.unusedVariables false
set_option linter.unusedSimpArgs false
def laws_markFileS.l0 : Nat → List S55 → Int → Int → Option (Int × List S55)
  | 0, _, _, _ => none
  | k + 1, x0, x1, x5 => if x5 < (x0.length : Int) then (if 0 ≤ x5 then ((laws_markText.f k x1).bind fun a => ((laws_markByteS.f k (rd_T55 x0 x5).f1 (wrap64 (x1 + 1))).bind fun b => ((laws_markByteS.f k (rd_T55 x0 x5).f2 b.1).bind fun c => laws_markFileS.l0 k (x0.set x5.toNat ⟨a, b.2, c.2⟩) c.1 (wrap64 (x5 + 1))))) else none) else some (x1, x0)
def laws_markFileS.f (k : Nat) (l0 : List S55) (a1 : Int) : Option (Int × List S55) := laws_markFileS.l0 k l0 a1 0
theorem S_lent {α : Type} {d : Kd α} {e base : Nat} {W : World} {ok : Nat → Prop} {v : Value} {xs : List α} (h : Kd.S d e W base ok v xs) (z : α) (i : Int) (h0 : 0 ≤ i) (h1 : i < xs.length) :
    ∃ (g cap : Nat) (oki : Nat → Prop) (c : List Value), v = .slice (some ⟨g, 0, none⟩) xs.length cap ∧ base ≤ g ∧ ok g ∧ c.length = d.sz ∧ d.M W base oki (xs.getD i.toNat z) c ∧ (∀ j u, c[j]? = some u → W.cell? ⟨g, i.toNat * d.sz + j, none⟩ = some u) ∧ (∀ j, W.frozen? ⟨g, i.toNat * d.sz + j, none⟩ = false) ∧ (∀ k, oki k → ok k ∧ k ≠ g) ∧ Kd.H d e W base ok v xs i oki c := by
  obtain ⟨g, cap, rfl, hg, _, _⟩ := Kd.S_form h (by omega)
  obtain ⟨oki, c, a1, a2, a3, a6, a4, a5⟩ := Kd.S_elem h z i h0 h1
  exact ⟨g, cap, oki, c, rfl, hg, (Kd.S_R h).1 g (by simp [Value.ownBlock]), a1, a2, a3, a6, a4, a5⟩
theorem R_back {α : Type} {d : Kd α} {e base : Nat} {W W1 : World} {ok ok' : Nat → Prop} {v : Value} {xs ys : List α} (hE : d.E = []) (h : d.R e W base ok v xs) (h' : d.R e W1 base ok' v ys) : d.R e W1 base ok v ys :=
  Kd.R_mono (Kd.R_tight hE h') (fun k hk => h.1 k hk.symm)
set_option maxHeartbeats 8000000 in
set_option maxRecDepth 100000 in
theorem laws_markFileS.calls (k : Nat) (P0_ : Nat → Prop) (u9000_ : Value) (l0 : List S55) (a1 : Int) (r1 : Int) (r2 : List S55) (w0 w : World) (hB : Below w0.heap.size w0 w) (ho0 : Kd.S k55 55 w w0.heap.size P0_ u9000_ l0) (h : laws_markFileS.f k l0 a1 = some (r1, r2)) :
    Calls Tryd.prog 47 #[u9000_, .int .i64 a1] w fun e w' => e = .returned (.int .i64 r1) ∧ Kd.S k55 55 w' w0.heap.size P0_ u9000_ r2 ∧ Below w0.heap.size w0 w' ∧ Kept w w' (fun k_ => P0_ k_) := by
  obtain ⟨A0, c0, rfl⟩ := Kd.S_slice ho0
  have HO0 := Zh ho0
  have HK := Zh (Kept.refl w (fun k_ => P0_ k_))
  have HB := Zh hB
  clear hB ho0
  have H' := Zh (show laws_markFileS.l0 k l0 a1 0 = some (r1, r2) from h)
  clear h
  have hu55 := Tryd.underlying55
  go_enter Tryd.func47, Tryd.ntmps47
  go_wp2
  go_loopg [1, 5] k (fun kq v1 v5 w' => ∃ (x0 : List S55) (x1 x5 : Int), v1 = .int .i64 x1 ∧ v5 = .int .i64 x5 ∧ Aside0 (laws_markFileS.l0 kq x0 x1 x5 = some (r1, r2)) ∧ Aside0 (kq ≤ k) ∧ Aside0 (Kd.S k55 55 w' w0.heap.size P0_ (.slice A0 l0.length c0) x0) ∧ Aside0 (Kept w w' (fun k_ => P0_ k_)) ∧ Aside0 (Below w0.heap.size w0 w'))
  case atStart => exact ⟨l0, a1, 0, by first | rfl | (simp; done), by first | rfl | (simp; done), H', ⟨Nat.le_refl _⟩, HO0, HK, HB⟩
  case round =>
    clear H' HO0 HK HB
    obtain ⟨x0, x1, x5, rfl, rfl, HA, HK1, HO, HK, HB⟩ := hrel
    cases gk with
    | zero => exact absurd HA.out (by simp [laws_markFileS.l0])
    | succ k1 =>
      have H := HA.out
      clear HA
      have hl : l0.length = x0.length := (Kd.S_reads' HO.out).1
      simp only [laws_markFileS.l0, ← hl] at H
      by_cases c3 : x5 < (l0.length : Int)
      · rw [if_pos c3] at H
        have q5 := decide_eq_true c3
        by_cases c4 : 0 ≤ x5
        · rw [if_pos c4] at H
          obtain ⟨t0, A4, H⟩ := Option.bind_eq_some_iff.mp H
          obtain ⟨⟨t1, t2⟩, A5, H⟩ := Option.bind_eq_some_iff.mp H
          obtain ⟨⟨t3, t4⟩, A7, H⟩ := Option.bind_eq_some_iff.mp H
          dsimp only at A7 H
          have H' := Zh H
          clear H
          have A3 := Zh A4
          clear A4
          have p6 := eq_true c4
          have q6 := eq_true c3
          have C3 := Zh c3
          have C4 := Zh c4
          have HL := Zh hl
          clear hl
          go_wp2_with fail
          refine (laws_markText.calls k1 x1 t0 _ A3.out).mono ?_
          rintro e w5 ⟨rfl, hb0⟩
          replace HO := Zh (Kd.S_below HO.out hb0)
          replace HB := Zh (below_then HB.out HB.out.size hb0)
          replace HK := Zh (HK.out.below hb0)
          clear hb0
          have hl := HL.out
          have c3 := C3.out
          have c4 := C4.out
          obtain ⟨g, cap, oki, c, hv, hg, hok, hcl, hM, hcc, hfr, hoki, hH⟩ := S_lent HO.out z55 x5 c4 (by omega)
          have hM : k55.M w5 w0.heap.size oki (rd_T55 x0 x5) c := hM
          generalize rd_T55 x0 x5 = y at A5 A7 hM
          have A6 := Zh A5
          have A8 := Zh A7
          clear A5 A7
          obtain ⟨pp, v1, v2, rfl, hA1, hA2⟩ := k55_openA hM
          have hNN := fun k (h1 : some k = v1.ownBlock) (h2 : some k = v2.ownBlock) => (hA2.1 k h2.symm).2 (hA1.1 k h1.symm).2
          have hR1 := Kd.R_mono hA1 (fun _ h => h.1)
          have hR2 := Kd.R_mono hA2 (fun _ h => h.1)
          have hx0 : w5.cell? ⟨g, x5.toNat * 3, none⟩ = some (.string y.f0) := hcc 0 _ rfl
          have hf0 : w5.frozen? ⟨g, x5.toNat * 3, none⟩ = false := hfr 0
          have hil : x5.toNat < x0.length := by omega
          have hP := (Kd.S_seg (okg := fun _ => False) (seg := [.string t0]) (j := 0) (x' := (⟨t0, y.f1, y.f2⟩ : S55)) (Kd.H_mono (v := .slice (some ⟨g, 0, none⟩) x0.length cap) (hv ▸ hH) (fun k hk => ⟨hk, fun h => h⟩)) c4 (by omega) (show 0 + 1 ≤ 3 by decide) (k55_mkM _ _ _ (⟨t0, y.f1, y.f2⟩ : S55) hR1 hR2 hNN) (fun k hk => .inl hk) (fun k hk => hk.elim)).1
          have HP : Aside0 (Kd.S k55 55 (w5.setCell ⟨g, x5.toNat * 3, none⟩ (.string t0)) w0.heap.size P0_ (.slice (some ⟨g, 0, none⟩) x0.length cap) (x0.set x5.toNat (⟨t0, y.f1, y.f2⟩ : S55))) := ⟨hP⟩
          have HB2 := Zh (Zg (g := g) (j := x5.toNat * 3) (v := .string t0) HB.out hg)
          have HK2 := Zh (Kept.setCell (p := ⟨g, x5.toNat * 3, none⟩) HK.out (.inl hok) (.string t0))
          injection hv with e1 e2 e3
          subst e1
          subst e3
          have HIL := Zh hil
          clear hNN hA1 hA2
          clear e2 hM hcc hfr hoki hH hcl hR1 hR2 hP hil HO HB HK hg hok hl
          go_wp2_with ((with_reducible refine gate_store (t := 9) (p := 17) rfl ?_); refine store_event (t := 9) (p := 17) (v := ?vo) (w1 := (w5.setCell ⟨g, x5.toNat * 3, none⟩ (.string t0))) ?hg ?ho ?hn ?hr ?_; (case ho => rfl); (case hg => rfl); (case hn => rfl); (case hr => first | (go_simp; done) | (go_simp; rfl)); intro w2 hw; rw [← hw] at HP HB2 HK2; clear hw hx0 hf0; obtain ⟨g2, cap2, oki, c, hv, hg, hok, hcl, hM, hcc, hfr, hoki, hH⟩ := S_lent HP.out z55 x5 C4.out (by rw [List.length_set]; exact (Int.toNat_lt C4.out).1 HIL.out); injection hv with e1 e2 e3; injection e1 with e1; injection e1 with e1; subst e1; clear e2 e3; rw [List.getD_eq_getElem?_getD, List.getElem?_set_self HIL.out, Option.getD_some] at hM; obtain ⟨pp2, v3, v4, rfl, hA1, hA2⟩ := k55_openA hM; have GN := Zh (fun k (h1 : some k = v3.ownBlock) (h2 : some k = v4.ownBlock) => (hA2.1 k h2.symm).2 (hA1.1 k h1.symm).2); have hR1 := Kd.R_mono hA1 (fun _ h => h.1); have hR2 := Kd.R_mono hA2 (fun _ h => h.1); have hx1 : w2.cell? ⟨g, x5.toNat * 3 + 1, none⟩ = some v3 := hcc 1 _ rfl; have hx2 : w2.cell? ⟨g, x5.toNat * 3 + 2, none⟩ = some v4 := hcc 2 _ rfl; have GR1 := Zh hR1; have GR2 := Zh hR2; have GH := Zh hH; have GI := Zh hoki; have GO := Zh hok; clear hM hcc hfr hoki hH hcl hR1 hR2 hg hok HP hA1 hA2)
          have T1 := Kd.R_tight rfl GR1.out
          have T2 := Kd.R_tight rfl GR2.out
          refine (laws_markByteS.calls k1 (fun k => some k = v3.ownBlock) v3 y.f1 _ t1 t2 w0 _ HB2.out T1 A6.out).mono ?_
          rintro e w3 ⟨rfl, hR1, hB1, hK1⟩
          have U1 := Zh (R_back rfl T1 hR1)
          have U2 := Zh (Kd.R_kept T2 hK1 (fun k h1 h2 => GN.out k h2 h1))
          have UH := Zh (Kd.H_kept GH.out hK1 (fun k hk hn hs => hn (GR1.out.1 k hs.symm)))
          have UK := Zh (HK2.out.then_ hK1 (fun k hk => .inl (GI.out k (GR1.out.1 k hk.symm)).1))
          have hx3 : w3.cell? ⟨g, x5.toNat * 3 + 2, none⟩ = some v4 := cell_kept hx2 hK1 (fun hs => (GI.out _ (GR1.out.1 _ hs.symm)).2 rfl)
          have UB := Zh hB1
          have NE1 := Zh GN.out
          clear T1 T2 hR1 hB1 hK1 hx1 hx2 GH HK2 HB2
          go_wp2_with fail
          refine (laws_markByteS.calls k1 (fun k => some k = v4.ownBlock) v4 y.f2 _ t3 t4 w0 _ UB.out U2.out A8.out).mono ?_
          rintro e w4 ⟨rfl, hR2, hB1, hK1⟩
          have V2 := R_back rfl U2.out hR2
          have V1 := Kd.R_kept U1.out hK1 NE1.out
          have VH := Kd.H_kept UH.out hK1 (fun k hk hn hs => hn (GR2.out.1 k hs.symm))
          have N1 := Zh (Kd.H_back VH (okp := oki) (k55_mkM _ _ _ (⟨t0, t2, t4⟩ : S55) (Kd.R_mono V1 (fun k hk => GR1.out.1 k hk.symm)) (Kd.R_mono V2 (fun k hk => GR2.out.1 k hk.symm)) GN.out) (fun _ h => h))
          rw [List.set_set] at N1
          have N2 := Zh (UK.out.then_ hK1 (fun k hk => .inl (GI.out k (GR2.out.1 k hk.symm)).1))
          have N3 := Zh hB1
          clear V1 V2 VH hR2 hB1 hK1 hx3 U1 U2 UH UK UB NE1 GR1 GR2 GI GO
          rw [HL.out.symm] at N1
          go_wp2
          go_roundg k1
          case measure => have := HK1.out; omega
          case rel => exact ⟨_, t3, _, rfl, by first | rfl | (simp; done), H', ⟨by have := HK1.out; omega⟩, N1, N2, N3⟩
        rw [if_neg c4] at H
        exact absurd H (by simp)
      rw [if_neg c3] at H
      have q5 := decide_eq_false c3
      simp only [Option.some.injEq, Prod.mk.injEq] at H
      obtain ⟨rfl, rfl⟩ := H
      clear hl c3
      go_wp2
      go_ret
      exact ⟨rfl, HO.out, HB.out, HK.out⟩
def laws_markDisk.f (k : Nat) (l0_0 : List S55) (a1 : Int) : Option (Int × List S55) := laws_markFileS.f k l0_0 a1
set_option maxHeartbeats 8000000 in
theorem laws_markDisk.calls (k : Nat) (P0_0_ : Nat → Prop) (u9000_ : Value) (l0_0 : List S55) (a1 : Int) (r1 : Int) (r2 : List S55) (w0 w : World) (hB : Below w0.heap.size w0 w) (ho0_0 : Kd.S k55 55 w w0.heap.size P0_0_ u9000_ l0_0) (h : laws_markDisk.f k l0_0 a1 = some (r1, r2)) :
    Calls Tryd.prog 16 #[.agg #[u9000_], .int .i64 a1] w fun e w' => e = .returned (.int .i64 r1) ∧ Kd.S k55 55 w' w0.heap.size P0_0_ u9000_ r2 ∧ Below w0.heap.size w0 w' ∧ Kept w w' (fun k_ => P0_0_ k_) := by
  obtain ⟨A0, c0, rfl⟩ := Kd.S_slice ho0_0
  have HO0 := Zh ho0_0
  have HB := Zh hB
  have H := Zh (show laws_markFileS.f k l0_0 a1 = some (r1, r2) from h)
  clear hB ho0_0 h
  go_enter Tryd.func16, Tryd.ntmps16
  go_wp2_with fail
  have B1 := Zf (Below.refl w.heap.size w) (.cells #[.slice A0 l0_0.length c0] 28)
  refine (laws_markFileS.calls k P0_0_ _ l0_0 a1 r1 r2 w0 _ (below_then HB.out HB.out.size B1) (Kd.S_below HO0.out B1) H.out).mono ?_
  rintro e w' ⟨rfl, hS, hB2, hK⟩
  have HS := Zh hS
  have HB2 := Zh hB2
  have HK := Zh ((Kept.of_below B1 _).then_ hK (fun k hk => .inl hk))
  clear hS hB2 hK B1
  go_wp2
  go_ret
  exact ⟨rfl, HS.out, HB2.out, HK.out⟩
end Go.Proofs.YtcgojdhbphocgaaDoor.F

namespace Go.Proofs.YtcgojdhbphocgaaDoor.F
open Go.RowKit Go.Proofs.YtcgojdhbphocgaaDoorW.PrintWords Go.Proofs.YtcgojdhbphocgaaDoorW.PrintWords.Kd Go.Proofs.YtcgojdhbphocgaaDoorW.PrintMore.Kd Go.Proofs.YtcgojdhbphocgaaDoorW.PrintLast Go.Proofs.YtcgojdhbphocgaaDoorW.PrintMore
attribute [local go_sem] max2_int min2_int max_two min_two max_three min_three max_four min_four   -- for this text's walks alone
set_option linter.unusedVariables false
set_option linter.unusedSimpArgs false
def spec_l03Find.l0 : Nat → ByteArray → Int → List (S55) → Option (Int)
 | 0, _, _, _ => none
 | k + 1, x1, x5, x109000 => if x5 < (x109000.length : Int) then (if 0 ≤ x5 then (if ((rd_T55 x109000 x5).f0).toList = x1.toList then (some x5) else (spec_l03Find.l0 k x1 (wrap64 (x5 + 1)) x109000)) else (none)) else (some (-1))
def spec_l03Find.f (k : Nat) (l0_0 : List (S55)) (a1 : ByteArray) : Option (Int) := spec_l03Find.l0 k a1 0 l0_0
set_option maxHeartbeats 8000000 in
set_option maxRecDepth 100000 in
theorem spec_l03Find.calls (k : Nat) (A0_0 : Option Addr) (c0_0 : Nat) (l0_0 : List (S55)) (a1 : ByteArray) (r : Int) (w : World) (hr0_0 : Kd.C k55 w A0_0 l0_0.length l0_0) (hc0_0 : l0_0.length ≤ c0_0) (h : spec_l03Find.f k l0_0 a1 = some r) :
  Calls Tryd.prog 83 #[.agg #[.slice A0_0 l0_0.length c0_0], .string a1] w fun e w' => e = .returned (.int .i64 r) ∧ Below w.heap.size w w' := by
 have hu28 := Tryd.underlying28
 have HR0_0 := Zh hr0_0
 have HC0_0 := Zh hc0_0
 clear hr0_0 hc0_0
 have HB := Zh (Below.refl w.heap.size w)
 have H : (spec_l03Find.l0 k a1 0 l0_0) = some r := h
 clear h
 have H' := Zh H
 clear H
 go_enter Tryd.func83, Tryd.ntmps83
 go_wp2_with (first | ((with_reducible refine gate_dst (N := 2) rfl ?_); refine box_event ?hg (N := 2) ?hd (cs := #[.slice A0_0 l0_0.length c0_0]) (t := 28) ?hr ?_; (case hd => rfl); (case hg => rfl); (case hr => first | (go_simp; done) | (go_simp; rfl)); intro gb108 hg w3 hbox hb; have n0_ := Zh (Zl Zs hb); have n1_ := Zh (hbox); have n2_ := Zh ((by rw [hg]; exact (below_size Zs) : w.heap.size ≤ gb108)); have n3_ := Zh ((by rw [hg]; exact (below_size Zs) : w.heap.size ≤ gb108)); clear HB; have HB := n0_; have BK108 := n1_; have GW108 := n2_; have GE108 := n3_; clear n0_ n1_ n2_ n3_; clear hb hbox hg))
 go_loopg [5] k (fun kq v5 w' => ∃ (x5_1 : Int), v5 = .int .i64 x5_1 ∧ Aside0 (spec_l03Find.l0 kq a1 x5_1 l0_0 = some r) ∧ Aside0 (kq ≤ k) ∧ Aside0 (w'.heap[gb108]? = some (.cells #[(.slice A0_0 l0_0.length c0_0)] 28 (0, 0))) ∧ Aside0 (Below w.heap.size w w'))
 case atStart => exact ⟨(0), (by first | rfl | (simp; done) | (simp [*]; done)), H', ⟨Nat.le_refl _⟩, ⟨by (with_reducible repeat (first | refine Za ?_ _ | refine Zb ?_ | refine blk_alloc ?_ _)); exact BK108.out⟩, ⟨by repeat (first | (with_reducible first | exact HB.out | apply Zf | apply Zd | apply Ze | refine Zg ?_ GE108.out) | exact HB.out)⟩⟩
 case round =>
  clear H'
  try clear p2
  obtain ⟨x5_1, rfl, HA, HK1, BK108, HB⟩ := hrel
  cases gk with
  | zero => exact absurd HA.out (by simp [spec_l03Find.l0])
  | succ k1 =>
   have H := HA.out
   clear HA
   simp only [spec_l03Find.l0] at H
   by_cases c4 : x5_1 < (l0_0.length : Int)
   ·
    rw [if_pos c4] at H
    have c4b0 : decide (x5_1 < (l0_0.length : Int)) = true := decide_eq_true c4
    clear c4
    by_cases c5 : 0 ≤ x5_1
    ·
     rw [if_pos c5] at H
     have c5b0 : decide (0 ≤ x5_1) = true := decide_eq_true c5
     clear c5
     by_cases c6 : ((rd_T55 l0_0 x5_1).f0).toList = a1.toList
     ·
      rw [if_pos c6] at H
      have c6b0 : (((rd_T55 l0_0 x5_1).f0).toList == a1.toList) = true := beq_iff_eq.mpr c6
      have c6b1 : (((rd_T55 l0_0 x5_1).f0).toList != a1.toList) = false := bne_eq_false_iff_eq.mpr c6
      clear c6
      obtain rfl := Option.some.inj H
      have hcz7_0 : wr.cell? ⟨gb108, 0, none⟩ = some (.slice A0_0 l0_0.length c0_0) := (blk_cell BK108.out 0).trans rfl
      have hfz7_0 := Zn BK108.out 0
      have p109 : 0 ≤ (x5_1 : Int) := Zo
      have q109 : x5_1 < (l0_0.length : Int) := Zo
      obtain ⟨ad109, A109_1, c109_1, A109_2, c109_2, e109, hx109_0, hx109_1, hx109_2, hl109_1, hi109_1, hl109_2, hi109_2⟩ := at_T55 HR0_0.out x5_1 p109 q109
      cases e109
      replace hx109_0 := Zc HB.out hx109_0
      replace hx109_1 := Zc HB.out hx109_1
      replace hx109_2 := Zc HB.out hx109_2
      have HR109_1 := Zh hi109_1
      have HC109_1 := Zh hl109_1
      clear hi109_1 hl109_1
      have HR109_2 := Zh hi109_2
      have HC109_2 := Zh hl109_2
      clear hi109_2 hl109_2
      replace p109 := eq_true p109
      replace q109 := eq_true q109
      go_wp2
      go_ret
      exact ⟨by first | rfl | (simp [errW_none, errW_some] <;> rfl) | (simp [*, errW_none, errW_some] <;> rfl), by repeat (first | (with_reducible first | exact HB.out | apply Zf | apply Zd | apply Ze | refine Zg ?_ GE108.out) | exact HB.out)⟩
     rw [if_neg c6] at H
     have c6b0 : (((rd_T55 l0_0 x5_1).f0).toList == a1.toList) = false := beq_eq_false_iff_ne.mpr c6
     have c6b1 : (((rd_T55 l0_0 x5_1).f0).toList != a1.toList) = true := bne_iff_ne.mpr c6
     have H' := Zh H
     clear H
     have hcz8_0 : wr.cell? ⟨gb108, 0, none⟩ = some (.slice A0_0 l0_0.length c0_0) := (blk_cell BK108.out 0).trans rfl
     have hfz8_0 := Zn BK108.out 0
     have p109 : 0 ≤ (x5_1 : Int) := Zo
     have q109 : x5_1 < (l0_0.length : Int) := Zo
     obtain ⟨ad109, A109_1, c109_1, A109_2, c109_2, e109, hx109_0, hx109_1, hx109_2, hl109_1, hi109_1, hl109_2, hi109_2⟩ := at_T55 HR0_0.out x5_1 p109 q109
     cases e109
     replace hx109_0 := Zc HB.out hx109_0
     replace hx109_1 := Zc HB.out hx109_1
     replace hx109_2 := Zc HB.out hx109_2
     have HR109_1 := Zh hi109_1
     have HC109_1 := Zh hl109_1
     clear hi109_1 hl109_1
     have HR109_2 := Zh hi109_2
     have HC109_2 := Zh hl109_2
     clear hi109_2 hl109_2
     replace p109 := eq_true p109
     replace q109 := eq_true q109
     go_wp2
     go_roundg k1
     case measure => have := HK1.out; omega
     case rel => exact ⟨(wrap64 (x5_1 + 1)), (by first | rfl | (simp; done) | (simp [*]; done)), H', ⟨by have := HK1.out; omega⟩, ⟨by (with_reducible repeat (first | refine Za ?_ _ | refine Zb ?_ | refine blk_alloc ?_ _)); exact BK108.out⟩, ⟨by repeat (first | (with_reducible first | exact HB.out | apply Zf | apply Zd | apply Ze | refine Zg ?_ GE108.out) | exact HB.out)⟩⟩
    rw [if_neg c5] at H
    exact absurd H (by simp)
   rw [if_neg c4] at H
   have c4b0 : decide (x5_1 < (l0_0.length : Int)) = false := decide_eq_false c4
   clear c4
   obtain rfl := Option.some.inj H
   have hcz9_0 : wr.cell? ⟨gb108, 0, none⟩ = some (.slice A0_0 l0_0.length c0_0) := (blk_cell BK108.out 0).trans rfl
   have hfz9_0 := Zn BK108.out 0
   go_wp2
   go_ret
   exact ⟨by first | rfl | (simp [errW_none, errW_some] <;> rfl) | (simp [*, errW_none, errW_some] <;> rfl), by repeat (first | (with_reducible first | exact HB.out | apply Zf | apply Zd | apply Ze | refine Zg ?_ GE108.out) | exact HB.out)⟩
def spec_l01In.f (a0 : Int) (a1 : Int) (a2 : Int) : Option (Bool) := if a1 ≤ a0 then (some (decide (a0 ≤ a2))) else (some false)
set_option maxHeartbeats 8000000 in
set_option maxRecDepth 100000 in
theorem spec_l01In.calls (a0 : Int) (a1 : Int) (a2 : Int) (r : Bool) (w : World) (h : spec_l01In.f a0 a1 a2 = some r) :
  Calls Tryd.prog 62 #[.int .i64 a0, .int .i64 a1, .int .i64 a2] w fun e w' => e = .returned (.bool r) ∧ Drawn0 w w' := by
 have H : (if a1 ≤ a0 then (some (decide (a0 ≤ a2))) else (some false)) = some r := h
 clear h
 by_cases c4 : a1 ≤ a0
 ·
  rw [if_pos c4] at H
  have c4b0 : decide (a1 ≤ a0) = true := decide_eq_true c4
  clear c4
  obtain rfl := Option.some.inj H
  go_enter Tryd.func62, Tryd.ntmps62
  go_wp2
  go_ret
  exact ⟨by first | rfl | (simp; done) | (simp [*]; done), by repeat (first | exact Drawn0.refl _ | apply Drawn0.step)⟩
 rw [if_neg c4] at H
 have c4b0 : decide (a1 ≤ a0) = false := decide_eq_false c4
 clear c4
 obtain rfl := Option.some.inj H
 go_enter Tryd.func62, Tryd.ntmps62
 go_wp2
 go_ret
 exact ⟨by first | rfl | (simp; done) | (simp [*]; done), by repeat (first | exact Drawn0.refl _ | apply Drawn0.step)⟩
def spec_l01Name.l0 : Nat → ByteArray → Int → Option (Bool)
 | 0, _, _ => none
 | k + 1, x0, x3 => if x3 < (x0.size : Int) then (if 0 ≤ x3 then (if (bt x0 x3) ≥ 97 then (if ((bt x0 x3) ≤ 122) then (spec_l01Name.l0 k x0 (wrap64 (x3 + 1))) else (if (bt x0 x3) ≥ 48 then (if ((bt x0 x3) ≤ 57) then (spec_l01Name.l0 k x0 (wrap64 (x3 + 1))) else (some false)) else (some false))) else (if (bt x0 x3) ≥ 48 then (if ((bt x0 x3) ≤ 57) then (spec_l01Name.l0 k x0 (wrap64 (x3 + 1))) else (some false)) else (some false))) else (none)) else ((spec_l01In.f (x0.size : Int) 1 12).bind fun t110 => (some t110))
def spec_l01Name.f (k : Nat) (a0 : ByteArray) : Option (Bool) := spec_l01Name.l0 k a0 0
set_option maxHeartbeats 8000000 in
set_option maxRecDepth 100000 in
theorem spec_l01Name.calls (k : Nat) (a0 : ByteArray) (r : Bool) (w : World) (h : spec_l01Name.f k a0 = some r) :
  Calls Tryd.prog 90 #[.string a0] w fun e w' => e = .returned (.bool r) ∧ Drawn0 w w' := by
 have H : (spec_l01Name.l0 k a0 0) = some r := h
 clear h
 have H' := Zh H
 clear H
 go_enter Tryd.func90, Tryd.ntmps90
 go_wp2
 go_loopg [3] k (fun kq v3 w' => ∃ (x3_1 : Int), v3 = .int .i64 x3_1 ∧ Aside0 (spec_l01Name.l0 kq a0 x3_1 = some r) ∧ Aside0 (kq ≤ k) ∧ Drawn0 w w')
 case atStart => exact ⟨(0), (by first | rfl | (simp; done) | (simp [*]; done)), H', ⟨Nat.le_refl _⟩, by repeat (first | exact Drawn0.refl _ | apply Drawn0.step)⟩
 case round =>
  clear H'
  obtain ⟨x3_1, rfl, HA, HK1, ⟨m1, rfl⟩⟩ := hrel
  cases gk with
  | zero => exact absurd HA.out (by simp [spec_l01Name.l0])
  | succ k1 =>
   have H := HA.out
   clear HA
   simp only [spec_l01Name.l0] at H
   by_cases c2 : x3_1 < (a0.size : Int)
   ·
    rw [if_pos c2] at H
    have c2b0 : decide (x3_1 < (a0.size : Int)) = true := decide_eq_true c2
    clear c2
    by_cases c3 : 0 ≤ x3_1
    ·
     rw [if_pos c3] at H
     have c3b0 : decide (0 ≤ x3_1) = true := decide_eq_true c3
     clear c3
     by_cases c5 : (bt a0 x3_1) ≥ 97
     ·
      rw [if_pos c5] at H
      have c5b0 : decide (97 ≤ (bt a0 x3_1)) = true := decide_eq_true c5
      clear c5
      by_cases c6 : ((bt a0 x3_1) ≤ 122)
      ·
       rw [if_pos c6] at H
       have c6b0 : decide ((bt a0 x3_1) ≤ 122) = true := decide_eq_true c6
       clear c6
       have H' := Zh H
       clear H
       have p4 : 0 ≤ (x3_1 : Int) := Zo
       have q4 : x3_1 < (a0.size : Int) := Zo
       have hx4 := bt_at a0 x3_1
       replace p4 := eq_true p4
       replace q4 := eq_true q4
       go_wp2
       go_roundg k1
       case measure => have := HK1.out; omega
       case rel => exact ⟨(wrap64 (x3_1 + 1)), (by first | rfl | (simp; done) | (simp [*]; done)), H', ⟨by have := HK1.out; omega⟩, by repeat (first | exact Drawn0.refl _ | apply Drawn0.step)⟩
      rw [if_neg c6] at H
      have c6b0 : decide ((bt a0 x3_1) ≤ 122) = false := decide_eq_false c6
      clear c6
      by_cases c7 : (bt a0 x3_1) ≥ 48
      ·
       rw [if_pos c7] at H
       have c7b0 : decide (48 ≤ (bt a0 x3_1)) = true := decide_eq_true c7
       clear c7
       by_cases c8 : ((bt a0 x3_1) ≤ 57)
       ·
        rw [if_pos c8] at H
        have c8b0 : decide ((bt a0 x3_1) ≤ 57) = true := decide_eq_true c8
        clear c8
        have H' := Zh H
        clear H
        have p4 : 0 ≤ (x3_1 : Int) := Zo
        have q4 : x3_1 < (a0.size : Int) := Zo
        have hx4 := bt_at a0 x3_1
        replace p4 := eq_true p4
        replace q4 := eq_true q4
        go_wp2
        go_roundg k1
        case measure => have := HK1.out; omega
        case rel => exact ⟨(wrap64 (x3_1 + 1)), (by first | rfl | (simp; done) | (simp [*]; done)), H', ⟨by have := HK1.out; omega⟩, by repeat (first | exact Drawn0.refl _ | apply Drawn0.step)⟩
       rw [if_neg c8] at H
       have c8b0 : decide ((bt a0 x3_1) ≤ 57) = false := decide_eq_false c8
       clear c8
       obtain rfl := Option.some.inj H
       have p4 : 0 ≤ (x3_1 : Int) := Zo
       have q4 : x3_1 < (a0.size : Int) := Zo
       have hx4 := bt_at a0 x3_1
       replace p4 := eq_true p4
       replace q4 := eq_true q4
       go_wp2
       go_ret
       exact ⟨by first | rfl | (simp; done) | (simp [*]; done), by repeat (first | exact Drawn0.refl _ | apply Drawn0.step)⟩
      rw [if_neg c7] at H
      have c7b0 : decide (48 ≤ (bt a0 x3_1)) = false := decide_eq_false c7
      clear c7
      obtain rfl := Option.some.inj H
      have p4 : 0 ≤ (x3_1 : Int) := Zo
      have q4 : x3_1 < (a0.size : Int) := Zo
      have hx4 := bt_at a0 x3_1
      replace p4 := eq_true p4
      replace q4 := eq_true q4
      go_wp2
      go_ret
      exact ⟨by first | rfl | (simp; done) | (simp [*]; done), by repeat (first | exact Drawn0.refl _ | apply Drawn0.step)⟩
     rw [if_neg c5] at H
     have c5b0 : decide (97 ≤ (bt a0 x3_1)) = false := decide_eq_false c5
     clear c5
     by_cases c9 : (bt a0 x3_1) ≥ 48
     ·
      rw [if_pos c9] at H
      have c9b0 : decide (48 ≤ (bt a0 x3_1)) = true := decide_eq_true c9
      clear c9
      by_cases c10 : ((bt a0 x3_1) ≤ 57)
      ·
       rw [if_pos c10] at H
       have c10b0 : decide ((bt a0 x3_1) ≤ 57) = true := decide_eq_true c10
       clear c10
       have H' := Zh H
       clear H
       have p4 : 0 ≤ (x3_1 : Int) := Zo
       have q4 : x3_1 < (a0.size : Int) := Zo
       have hx4 := bt_at a0 x3_1
       replace p4 := eq_true p4
       replace q4 := eq_true q4
       go_wp2
       go_roundg k1
       case measure => have := HK1.out; omega
       case rel => exact ⟨(wrap64 (x3_1 + 1)), (by first | rfl | (simp; done) | (simp [*]; done)), H', ⟨by have := HK1.out; omega⟩, by repeat (first | exact Drawn0.refl _ | apply Drawn0.step)⟩
      rw [if_neg c10] at H
      have c10b0 : decide ((bt a0 x3_1) ≤ 57) = false := decide_eq_false c10
      clear c10
      obtain rfl := Option.some.inj H
      have p4 : 0 ≤ (x3_1 : Int) := Zo
      have q4 : x3_1 < (a0.size : Int) := Zo
      have hx4 := bt_at a0 x3_1
      replace p4 := eq_true p4
      replace q4 := eq_true q4
      go_wp2
      go_ret
      exact ⟨by first | rfl | (simp; done) | (simp [*]; done), by repeat (first | exact Drawn0.refl _ | apply Drawn0.step)⟩
     rw [if_neg c9] at H
     have c9b0 : decide (48 ≤ (bt a0 x3_1)) = false := decide_eq_false c9
     clear c9
     obtain rfl := Option.some.inj H
     have p4 : 0 ≤ (x3_1 : Int) := Zo
     have q4 : x3_1 < (a0.size : Int) := Zo
     have hx4 := bt_at a0 x3_1
     replace p4 := eq_true p4
     replace q4 := eq_true q4
     go_wp2
     go_ret
     exact ⟨by first | rfl | (simp; done) | (simp [*]; done), by repeat (first | exact Drawn0.refl _ | apply Drawn0.step)⟩
    rw [if_neg c3] at H
    exact absurd H (by simp)
   rw [if_neg c2] at H
   have c2b0 : decide (x3_1 < (a0.size : Int)) = false := decide_eq_false c2
   clear c2
   replace H := Option.bind_eq_some_iff.mp H
   obtain ⟨t110, A110, H⟩ := H
   replace H : (some t110) = some r := H
   have A11 := Zh A110
   clear A110
   obtain rfl := Option.some.inj H
   go_wp2_with (first | ((with_reducible refine gate_callee (f := 62) rfl ?_); refine goesL_ (some 32) rfl rfl Tryd.func62 (by kernel_rfl) rfl #[.int .i64 (a0.size : Int), .int .i64 1, .int .i64 12] rfl (by (try simp only [List.map_toArray, List.map_cons, List.map_nil]); first | done | rfl | (simp only [List.length_drop, List.length_take]; rfl)) ?_; (with_reducible refine (spec_l01In.calls (a0.size : Int) 1 12 t110 _ A11.out).mono ?_); rintro e w' ⟨rfl, ⟨nd, rfl⟩⟩; refine ⟨_, rfl, ?_⟩))
   go_ret
   exact ⟨by first | rfl | (simp; done) | (simp [*]; done), by repeat (first | exact Drawn0.refl _ | apply Drawn0.step)⟩
end Go.Proofs.YtcgojdhbphocgaaDoor.F

namespace Go.Proofs.YtcgojdhbphocgaaDoor.F
open Go.Proofs.YtcgojdhbphocgaaDoor
open Go.RowKit Go.Proofs.YtcgojdhbphocgaaDoorW.PrintWords Go.Proofs.YtcgojdhbphocgaaDoorW.PrintWords.Kd Go.Proofs.YtcgojdhbphocgaaDoorW.PrintMore.Kd Go.Proofs.YtcgojdhbphocgaaDoorW.PrintLast Go.Proofs.YtcgojdhbphocgaaDoorW.PrintMore
attribute [local go_sem] max2_int min2_int max_two min_two max_three min_three max_four min_four   -- for this text's walks alone
set_option linter.unusedVariables false
set_option linter.unusedSimpArgs false
def spec_DiskOk.l0 : Nat → Int → List (S55) → Option (Bool)
 | 0, _, _ => none
 | k + 1, x3, x112000 => if x3 < (x112000.length : Int) then (if 0 ≤ x3 then ((spec_l01Name.f k ((rd_T55 x112000 x3).f0)).bind fun t114 => (if t114 = true then (if (((rd_T55 x112000 x3).f1).length : Int) > 20000 then (some false) else (if (((rd_T55 x112000 x3).f2).length : Int) > (wrap64 (20000 - (((rd_T55 x112000 x3).f1).length : Int))) then (some false) else (if x3 > 0 then (if 0 ≤ (wrap64 (x3 - 1)) then (if (wrap64 (x3 - 1)) < (x112000.length : Int) then (if ((Op.bytesLess (((rd_T55 x112000 (wrap64 (x3 - 1))).f0).toList) (((rd_T55 x112000 x3).f0).toList)) = true) then (spec_DiskOk.l0 k (wrap64 (x3 + 1)) x112000) else (some false)) else (none)) else (none)) else (spec_DiskOk.l0 k (wrap64 (x3 + 1)) x112000)))) else (some false))) else (none)) else (some true)
def spec_DiskOk.f (k : Nat) (l0_0 : List (S55)) : Option (Bool) := if (l0_0.length : Int) > 8 then (some false) else (spec_DiskOk.l0 k 0 l0_0)
def spec_DiskOk.T7 : Bool × List (List Nat × List Nat) := (true, [([], []), ([0], [0]), ([1], [1]), ([2], [2]), ([3, 2], [3]), ([4], [4]), ([5, 4], [4, 5]), ([6, 4], [4, 6]), ([7, 4], [4, 7]), ([4, 8], [4, 8]), ([9, 4], [9]), ([10], [10]), ([11, 10], [10, 11]), ([12, 10], [10, 12]), ([10], [10]), ([14, 10], [10, 14]), ([15, 10], [10, 15]), ([16, 10], [10, 16]), ([13, 17, 10], [10, 13, 17]), ([10, 18], [10, 18]), ([19, 10], [19]), ([20], [20]), ([21, 20], [20, 21]), ([22, 20, 20], [20, 22]), ([23], [23]), ([24, 23], [23, 24]), ([23], [23]), ([26, 23], [23, 26]), ([25, 27, 23], [23, 25, 27]), ([28, 23], [23, 28]), ([29, 23], [23, 29]), ([23], [23]), ([31, 23], [23, 31]), ([30, 32, 23], [23, 30, 32]), ([23, 33, 20], [20, 23, 33]), ([20, 34], [20, 34])])
def spec_DiskOk.B7 : List Nat := [0, 1, 3, 7, 15, 31, 63, 127, 255, 511, 1023, 2047, 4095, 8191, 2047, 18431, 51199, 116735, 262143, 524287, 1048575, 2097151, 4194303, 8388607, 16777215, 33554431, 16777215, 83886079, 268435455, 536870911, 1073741823, 16777215, 2164260863, 8589934591, 17179869183, 34359738367]
theorem spec_DiskOk.tab7 : rtab .any (opsOf Tryd.f84 7) = spec_DiskOk.T7 := by kernel_rfl
theorem spec_DiskOk.bits7 : waitsOk spec_DiskOk.T7.2 spec_DiskOk.B7 = true := by kernel_rfl
set_option maxHeartbeats 8000000 in
set_option maxRecDepth 100000 in
theorem spec_DiskOk.calls (k : Nat) (A0_0 : Option Addr) (c0_0 : Nat) (l0_0 : List (S55)) (r : Bool) (w : World) (hr0_0 : Kd.C k55 w A0_0 l0_0.length l0_0) (hc0_0 : l0_0.length ≤ c0_0) (h : spec_DiskOk.f k l0_0 = some r) :
  Calls Tryd.prog 84 #[.agg #[.slice A0_0 l0_0.length c0_0]] w fun e w' => e = .returned (.bool r) ∧ Below w.heap.size w w' := by
 have hu28 := Tryd.underlying28
 have hu55 := Tryd.underlying55
 have HR0_0 := Zh hr0_0
 have HC0_0 := Zh hc0_0
 clear hr0_0 hc0_0
 have HB := Zh (Below.refl w.heap.size w)
 have H : (if (l0_0.length : Int) > 8 then (some false) else (spec_DiskOk.l0 k 0 l0_0)) = some r := h
 clear h
 by_cases c2 : (l0_0.length : Int) > 8
 ·
  rw [if_pos c2] at H
  have c2b0 : decide (8 < (l0_0.length : Int)) = true := decide_eq_true c2
  have c2b1 : decide (8 < l0_0.length) = true := decide_eq_true (by omega)
  clear c2
  obtain rfl := Option.some.inj H
  go_enter Tryd.func84, Tryd.ntmps84
  go_wp2_with (first | ((with_reducible refine gate_dst (N := 1) rfl ?_); (try (refine gate_guard (by rfl) ?_; dsimp only)); refine box_event ?hg (N := 1) ?hd (cs := #[.slice A0_0 l0_0.length c0_0]) (t := 28) ?hr ?_; (case hd => rfl); (case hg => rfl); (case hr => first | (go_simp; done) | (go_simp; rfl)); intro gb111 hg w3 hbox hb; have n0_ := Zh (Zl Zs hb); have n1_ := Zh (hbox); have n2_ := Zh ((by rw [hg]; exact (below_size Zs) : w.heap.size ≤ gb111)); have n3_ := Zh ((by rw [hg]; exact (below_size Zs) : w.heap.size ≤ gb111)); clear HB; have HB := n0_; have BK111 := n1_; have GW111 := n2_; have GE111 := n3_; clear n0_ n1_ n2_ n3_; clear hb hbox hg; have hcz4_0 : w3.cell? ⟨gb111, 0, none⟩ = some (.slice A0_0 l0_0.length c0_0) := (blk_cell BK111.out 0).trans rfl; have hfz4_0 := Zn BK111.out 0))
  go_ret
  exact ⟨by first | rfl | (simp [errW_none, errW_some] <;> rfl) | (simp [*, errW_none, errW_some] <;> rfl), by repeat (first | (with_reducible first | exact HB.out | apply Zf | apply Zd | apply Ze | refine Zg ?_ GE111.out) | exact HB.out)⟩
 rw [if_neg c2] at H
 have c2b0 : decide (8 < (l0_0.length : Int)) = false := decide_eq_false c2
 have c2b1 : decide (8 < l0_0.length) = false := decide_eq_false (by omega)
 clear c2
 have H' := Zh H
 clear H
 go_enter Tryd.func84, Tryd.ntmps84
 go_wp2_with (first | ((with_reducible refine gate_dst (N := 1) rfl ?_); (try (refine gate_guard (by rfl) ?_; dsimp only)); refine box_event ?hg (N := 1) ?hd (cs := #[.slice A0_0 l0_0.length c0_0]) (t := 28) ?hr ?_; (case hd => rfl); (case hg => rfl); (case hr => first | (go_simp; done) | (go_simp; rfl)); intro gb111 hg w5 hbox hb; have n0_ := Zh (Zl Zs hb); have n1_ := Zh (hbox); have n2_ := Zh ((by rw [hg]; exact (below_size Zs) : w.heap.size ≤ gb111)); have n3_ := Zh ((by rw [hg]; exact (below_size Zs) : w.heap.size ≤ gb111)); clear HB; have HB := n0_; have BK111 := n1_; have GW111 := n2_; have GE111 := n3_; clear n0_ n1_ n2_ n3_; clear hb hbox hg; have hcz6_0 : w5.cell? ⟨gb111, 0, none⟩ = some (.slice A0_0 l0_0.length c0_0) := (blk_cell BK111.out 0).trans rfl; have hfz6_0 := Zn BK111.out 0))
 go_loopg [3] k (fun kq v3 w' => ∃ (x3_1 : Int), v3 = .int .i64 x3_1 ∧ Aside0 (spec_DiskOk.l0 kq x3_1 l0_0 = some r) ∧ Aside0 (kq ≤ k) ∧ Aside0 (w'.heap[gb111]? = some (.cells #[(.slice A0_0 l0_0.length c0_0)] 28 (0, 0))) ∧ Aside0 (Below w.heap.size w w'))
 case atStart => exact ⟨(0), (by first | rfl | (simp; done) | (simp [*]; done)), H', ⟨Nat.le_refl _⟩, ⟨by (with_reducible repeat (first | refine Za ?_ _ | refine Zb ?_ | refine blk_alloc ?_ _)); exact BK111.out⟩, ⟨by repeat (first | (with_reducible first | exact HB.out | apply Zf | apply Zd | apply Ze | refine Zg ?_ GE111.out) | exact HB.out)⟩⟩
 case round =>
  clear H'
  try clear c2
  try clear c2b0
  try clear c2b1
  try clear p2
  try clear hcz4_0
  try clear hcz6_0
  try clear hfz4_0
  try clear hfz6_0
  obtain ⟨x3_1, rfl, HA, HK1, BK111, HB⟩ := hrel
  cases gk with
  | zero => exact absurd HA.out (by simp [spec_DiskOk.l0])
  | succ k1 =>
   have H := HA.out
   clear HA
   simp only [spec_DiskOk.l0] at H
   by_cases c7 : x3_1 < (l0_0.length : Int)
   ·
    rw [if_pos c7] at H
    have c7b0 : decide (x3_1 < (l0_0.length : Int)) = true := decide_eq_true c7
    clear c7
    by_cases c8 : 0 ≤ x3_1
    ·
     rw [if_pos c8] at H
     have c8b0 : decide (0 ≤ x3_1) = true := decide_eq_true c8
     clear c8
     replace H := Option.bind_eq_some_iff.mp H
     obtain ⟨t114, A90, H⟩ := H
     replace H : (if t114 = true then (if (((rd_T55 l0_0 x3_1).f1).length : Int) > 20000 then (some false) else (if (((rd_T55 l0_0 x3_1).f2).length : Int) > (wrap64 (20000 - (((rd_T55 l0_0 x3_1).f1).length : Int))) then (some false) else (if x3_1 > 0 then (if 0 ≤ (wrap64 (x3_1 - 1)) then (if (wrap64 (x3_1 - 1)) < (l0_0.length : Int) then (if ((Op.bytesLess (((rd_T55 l0_0 (wrap64 (x3_1 - 1))).f0).toList) (((rd_T55 l0_0 x3_1).f0).toList)) = true) then (spec_DiskOk.l0 k1 (wrap64 (x3_1 + 1)) l0_0) else (some false)) else (none)) else (none)) else (spec_DiskOk.l0 k1 (wrap64 (x3_1 + 1)) l0_0)))) else (some false)) = some r := H
     have A9 := Zh A90
     clear A90
     by_cases c10 : t114 = true
     ·
      subst c10
      have H1 : (if (((rd_T55 l0_0 x3_1).f1).length : Int) > 20000 then (some false) else (if (((rd_T55 l0_0 x3_1).f2).length : Int) > (wrap64 (20000 - (((rd_T55 l0_0 x3_1).f1).length : Int))) then (some false) else (if x3_1 > 0 then (if 0 ≤ (wrap64 (x3_1 - 1)) then (if (wrap64 (x3_1 - 1)) < (l0_0.length : Int) then (if ((Op.bytesLess (((rd_T55 l0_0 (wrap64 (x3_1 - 1))).f0).toList) (((rd_T55 l0_0 x3_1).f0).toList)) = true) then (spec_DiskOk.l0 k1 (wrap64 (x3_1 + 1)) l0_0) else (some false)) else (none)) else (none)) else (spec_DiskOk.l0 k1 (wrap64 (x3_1 + 1)) l0_0)))) = some r := by rw [if_pos rfl] at H; exact H
      clear H
      have H := H1
      clear H1
      by_cases c11 : (((rd_T55 l0_0 x3_1).f1).length : Int) > 20000
      ·
       rw [if_pos c11] at H
       have c11b0 : decide (20000 < (((rd_T55 l0_0 x3_1).f1).length : Int)) = true := decide_eq_true c11
       have c11b1 : decide (20000 < ((rd_T55 l0_0 x3_1).f1).length) = true := decide_eq_true (by omega)
       clear c11
       obtain rfl := Option.some.inj H
       have hcz12_0 : wr.cell? ⟨gb111, 0, none⟩ = some (.slice A0_0 l0_0.length c0_0) := (blk_cell BK111.out 0).trans rfl
       have hfz12_0 := Zn BK111.out 0
       have p112 : 0 ≤ (x3_1 : Int) := Zo
       have q112 : x3_1 < (l0_0.length : Int) := Zo
       obtain ⟨ad112, A112_1, c112_1, A112_2, c112_2, e112, hx112_0, hx112_1, hx112_2, hl112_1, hi112_1, hl112_2, hi112_2⟩ := at_T55 HR0_0.out x3_1 p112 q112
       cases e112
       replace hx112_0 := Zc HB.out hx112_0
       replace hx112_1 := Zc HB.out hx112_1
       replace hx112_2 := Zc HB.out hx112_2
       have HR112_1 := Zh hi112_1
       have HC112_1 := Zh hl112_1
       clear hi112_1 hl112_1
       have HR112_2 := Zh hi112_2
       have HC112_2 := Zh hl112_2
       clear hi112_2 hl112_2
       replace p112 := eq_true p112
       replace q112 := eq_true q112
       try go_wp2_with (first | ((with_reducible refine gate_dst (N := 4) rfl ?_); (try (refine gate_guard (by rfl) ?_; dsimp only)); refine box_event ?hg (N := 4) ?hd (cs := #[.string (⟨#[]⟩ : ByteArray), .slice none 0 0, .slice none 0 0]) (t := 55) ?hr ?_; (case hd => rfl); (case hg => rfl); (case hr => first | (go_simp; done) | (go_simp; rfl)); intro gb113 hg w13 hbox hb; have n0_ := Zh (Zm (g := gb111) (o := .cells #[.slice (some ad112) l0_0.length c0_0] 28 (0, 0)) Zk hb); have n1_ := Zh (Zl Zs hb); have n2_ := Zh (hbox); have n3_ := Zh ((by rw [hg]; exact (below_size Zs) : w.heap.size ≤ gb113)); have n4_ := Zh ((by rw [hg]; exact (below_size Zs) : w.heap.size ≤ gb113)); have n5_ := Zh ((by rw [hg]; exact Nat.ne_of_lt (blk_lt (g := gb111) (o := .cells #[.slice (some ad112) l0_0.length c0_0] 28 (0, 0)) Zk) : gb111 ≠ gb113)); have n6_ := Zh ((by rw [hg]; exact Nat.ne_of_gt (blk_lt (g := gb111) (o := .cells #[.slice (some ad112) l0_0.length c0_0] 28 (0, 0)) Zk) : gb113 ≠ gb111)); clear BK111; clear HB; have BK111 := n0_; have HB := n1_; have BK113 := n2_; have GW113 := n3_; have GE113 := n4_; have NB111_113 := n5_; have NB113_111 := n6_; clear n0_ n1_ n2_ n3_ n4_ n5_ n6_; clear hb hbox hg; have hnb14 := NB113_111.out; have hnc14 := NB111_113.out; have hcz15_0 : w13.cell? ⟨gb113, 0, none⟩ = some (.string (⟨#[]⟩ : ByteArray)) := (blk_cell BK113.out 0).trans rfl; have hcz15_1 : w13.cell? ⟨gb113, 1, none⟩ = some (.slice none 0 0) := (blk_cell BK113.out 1).trans rfl; have hcz15_2 : w13.cell? ⟨gb113, 2, none⟩ = some (.slice none 0 0) := (blk_cell BK113.out 2).trans rfl; have hfz15_0 := Zn BK113.out 0; have hfz15_1 := Zn BK113.out 1; have hfz15_2 := Zn BK113.out 2))
       have n0_ : Aside0 ((((w13.setCell ⟨gb113, 0, none⟩ (.string ((rd_T55 l0_0 x3_1).f0))).setCell ⟨gb113, 1, none⟩ (.slice A112_1 ((rd_T55 l0_0 x3_1).f1).length c112_1)).setCell ⟨gb113, 2, none⟩ (.slice A112_2 ((rd_T55 l0_0 x3_1).f2).length c112_2)).heap[gb111]? = some (.cells #[.slice (some ad112) l0_0.length c0_0] 28 (0, 0))) := ⟨by (with_reducible repeat (first | refine Za ?_ _ | refine Zb ?_ | refine blk_alloc ?_ _)); refine Zp ?_ NB111_113.out _; (with_reducible repeat (first | refine Za ?_ _ | refine Zb ?_ | refine blk_alloc ?_ _)); refine Zp ?_ NB111_113.out _; (with_reducible repeat (first | refine Za ?_ _ | refine Zb ?_ | refine blk_alloc ?_ _)); refine Zp ?_ NB111_113.out _; (with_reducible repeat (first | refine Za ?_ _ | refine Zb ?_ | refine blk_alloc ?_ _)); exact BK111.out⟩
       have n1_ : Aside0 ((((w13.setCell ⟨gb113, 0, none⟩ (.string ((rd_T55 l0_0 x3_1).f0))).setCell ⟨gb113, 1, none⟩ (.slice A112_1 ((rd_T55 l0_0 x3_1).f1).length c112_1)).setCell ⟨gb113, 2, none⟩ (.slice A112_2 ((rd_T55 l0_0 x3_1).f2).length c112_2)).heap[gb113]? = some (.cells #[.string ((rd_T55 l0_0 x3_1).f0), .slice A112_1 ((rd_T55 l0_0 x3_1).f1).length c112_1, .slice A112_2 ((rd_T55 l0_0 x3_1).f2).length c112_2] 55 (0, 0))) := ⟨by (with_reducible repeat (first | refine Za ?_ _ | refine Zb ?_ | refine blk_alloc ?_ _)); refine blk_put (cs := #[.string ((rd_T55 l0_0 x3_1).f0), .slice A112_1 ((rd_T55 l0_0 x3_1).f1).length c112_1, .slice none 0 0]) ?_ 2 _ rfl; (with_reducible repeat (first | refine Za ?_ _ | refine Zb ?_ | refine blk_alloc ?_ _)); refine blk_put (cs := #[.string ((rd_T55 l0_0 x3_1).f0), .slice none 0 0, .slice none 0 0]) ?_ 1 _ rfl; (with_reducible repeat (first | refine Za ?_ _ | refine Zb ?_ | refine blk_alloc ?_ _)); refine blk_put (cs := #[.string (⟨#[]⟩ : ByteArray), .slice none 0 0, .slice none 0 0]) ?_ 0 _ rfl; (with_reducible repeat (first | refine Za ?_ _ | refine Zb ?_ | refine blk_alloc ?_ _)); exact BK113.out⟩
       have n2_ : Aside0 (Below w.heap.size w (((w13.setCell ⟨gb113, 0, none⟩ (.string ((rd_T55 l0_0 x3_1).f0))).setCell ⟨gb113, 1, none⟩ (.slice A112_1 ((rd_T55 l0_0 x3_1).f1).length c112_1)).setCell ⟨gb113, 2, none⟩ (.slice A112_2 ((rd_T55 l0_0 x3_1).f2).length c112_2))) := ⟨by repeat (first | (with_reducible first | exact HB.out | apply Zf | apply Zd | apply Ze | refine Zg ?_ GE111.out | refine Zg ?_ GE113.out) | exact HB.out)⟩
       (try clear BK111)
       (try clear BK113)
       (try clear HB)
       generalize (((w13.setCell ⟨gb113, 0, none⟩ (.string ((rd_T55 l0_0 x3_1).f0))).setCell ⟨gb113, 1, none⟩ (.slice A112_1 ((rd_T55 l0_0 x3_1).f1).length c112_1)).setCell ⟨gb113, 2, none⟩ (.slice A112_2 ((rd_T55 l0_0 x3_1).f2).length c112_2)) = w16 at n0_ n1_ n2_ ⊢
       have BK111 := n0_
       have BK113 := n1_
       have HB := n2_
       clear n0_ n1_ n2_
       have n0_ := Zh (Zb BK111.out)
       have n1_ := Zh (Zb BK113.out)
       have n2_ := Zh (Ze HB.out)
       clear BK111
       clear BK113
       clear HB
       have BK111 := n0_
       have BK113 := n1_
       have HB := n2_
       clear n0_ n1_ n2_
       refine start_ (n := 36) (S := fun w' => w'.cell? ⟨gb113, 0, none⟩ = some (.string ((rd_T55 l0_0 x3_1).f0)) ∧ w'.cell? ⟨gb113, 1, none⟩ = some (.slice A112_1 ((rd_T55 l0_0 x3_1).f1).length c112_1) ∧ w'.cell? ⟨gb113, 2, none⟩ = some (.slice A112_2 ((rd_T55 l0_0 x3_1).f2).length c112_2)) (ds := []) #[false, false, false, false, false, false, false, false, false, false, false, false, false, false, false, false, false, false, false, false, false, false, false, false, false, false, false, false, false, false, false, false, false, false, false, false] (by kernel_rfl) rfl rfl ⟨(blk_cell BK113.out 0).trans rfl, (blk_cell BK113.out 1).trans rfl, (blk_cell BK113.out 2).trans rfl⟩ (fun hHeld => ?_); refine with_tabW spec_DiskOk.tab7 spec_DiskOk.bits7 (fun HT_ HW_ => ?_)
       generalize w16.drew = w17 at BK111 BK113 HB hHeld ⊢
       refine SQ.pu 0 21 HT_ ?_
       refine SQ.tk 1 22 HT_ HW_ hHeld ?_
       refine one_ (i := 2) (N := some 23) #[true, true, true, false, false, false, false, false, false, false, false, false, false, false, false, false, false, false, false, false, false, false, false, false, false, false, false, false, false, false, false, false, false, false, false, false] rfl rfl (one_of HT_.out (by kernel_rfl)) (by decide) (fun K hK => ?_)
       refine goes_ Tryd.func90 (by kernel_rfl) rfl #[.string ((rd_T55 l0_0 x3_1).f0)] (by rfl) rfl rfl (by (try simp only [List.map_toArray, List.map_cons, List.map_nil]); first | done | rfl | (simp only [List.length_drop, List.length_take]; rfl)) ?_
       with_reducible refine (spec_l01Name.calls k1 ((rd_T55 l0_0 x3_1).f0) true _ A9.out).mono ?_
       rintro e w' ⟨rfl, ⟨nd, rfl⟩⟩
       refine ⟨_, rfl, ?_⟩
       refine hK.out _ _ ⟨(blk_cell BK113.out 0).trans rfl, (blk_cell BK113.out 1).trans rfl, (blk_cell BK113.out 2).trans rfl⟩ (fun hHeld => ?_)
       clear hK K
       refine norm_ (a' := ?_) ?_ ?_
       rotate_left
       ·
        show Act.put _ (some 23) _ = _
        simp only [Act.put, List.setIfInBounds_toArray, List.set_cons_zero, List.set_cons_succ, i64_w, i32_w]
        rfl
       refine SQ.pu 3 24 HT_ ?_
       refine SQ.pu 4 25 HT_ ?_
       refine SQ.pu 5 26 HT_ ?_
       refine SQ.tk 6 27 HT_ HW_ hHeld ?_
       refine SQ.pu 7 28 HT_ ?_
       refine SQ.pu 8 29 HT_ ?_
       refine SQ.pu 9 30 HT_ ?_
       refine SQ.pu 10 31 HT_ ?_
       refine SQ.of 11 32 HT_ ?_
       refine SQ.of 12 33 HT_ ?_
       refine SQ.of 13 34 HT_ ?_
       refine SQ.of 14 35 HT_ ?_
       refine SQ.of 15 36 HT_ ?_
       refine SQ.of 16 37 HT_ ?_
       refine SQ.of 17 38 HT_ ?_
       refine SQ.of 18 39 HT_ ?_
       refine SQ.pu 19 40 HT_ ?_
       refine SQ.pu 20 41 HT_ ?_
       refine SQ.of 21 42 HT_ ?_
       refine SQ.of 22 43 HT_ ?_
       refine SQ.of 23 44 HT_ ?_
       refine SQ.of 24 45 HT_ ?_
       refine SQ.of 25 46 HT_ ?_
       refine SQ.of 26 47 HT_ ?_
       refine SQ.of 27 48 HT_ ?_
       refine SQ.of 28 49 HT_ ?_
       refine SQ.of 29 50 HT_ ?_
       refine SQ.of 30 51 HT_ ?_
       refine SQ.of 31 52 HT_ ?_
       refine SQ.of 32 53 HT_ ?_
       refine SQ.of 33 54 HT_ ?_
       refine SQ.of 34 55 HT_ ?_
       refine SQ.pu 35 56 HT_ ?_
       refine done_ (done_of HT_.out (by kernel_rfl)) ?_
       try go_wp2
       go_ret
       exact ⟨by first | rfl | (simp [errW_none, errW_some] <;> rfl) | (simp [*, errW_none, errW_some] <;> rfl), by repeat (first | (with_reducible first | exact HB.out | apply Zf | apply Zd | apply Ze | refine Zg ?_ GE111.out | refine Zg ?_ GE113.out) | exact HB.out)⟩
      rw [if_neg c11] at H
      have c11b0 : decide (20000 < (((rd_T55 l0_0 x3_1).f1).length : Int)) = false := decide_eq_false c11
      have c11b1 : decide (20000 < ((rd_T55 l0_0 x3_1).f1).length) = false := decide_eq_false (by omega)
      clear c11
      by_cases c18 : (((rd_T55 l0_0 x3_1).f2).length : Int) > (wrap64 (20000 - (((rd_T55 l0_0 x3_1).f1).length : Int)))
      ·
       rw [if_pos c18] at H
       have c18b0 : decide ((wrap64 (20000 - (((rd_T55 l0_0 x3_1).f1).length : Int))) < (((rd_T55 l0_0 x3_1).f2).length : Int)) = true := decide_eq_true c18
       clear c18
       obtain rfl := Option.some.inj H
       have hcz19_0 : wr.cell? ⟨gb111, 0, none⟩ = some (.slice A0_0 l0_0.length c0_0) := (blk_cell BK111.out 0).trans rfl
       have hfz19_0 := Zn BK111.out 0
       have p112 : 0 ≤ (x3_1 : Int) := Zo
       have q112 : x3_1 < (l0_0.length : Int) := Zo
       obtain ⟨ad112, A112_1, c112_1, A112_2, c112_2, e112, hx112_0, hx112_1, hx112_2, hl112_1, hi112_1, hl112_2, hi112_2⟩ := at_T55 HR0_0.out x3_1 p112 q112
       cases e112
       replace hx112_0 := Zc HB.out hx112_0
       replace hx112_1 := Zc HB.out hx112_1
       replace hx112_2 := Zc HB.out hx112_2
       have HR112_1 := Zh hi112_1
       have HC112_1 := Zh hl112_1
       clear hi112_1 hl112_1
       have HR112_2 := Zh hi112_2
       have HC112_2 := Zh hl112_2
       clear hi112_2 hl112_2
       replace p112 := eq_true p112
       replace q112 := eq_true q112
       try go_wp2_with (first | ((with_reducible refine gate_dst (N := 4) rfl ?_); (try (refine gate_guard (by rfl) ?_; dsimp only)); refine box_event ?hg (N := 4) ?hd (cs := #[.string (⟨#[]⟩ : ByteArray), .slice none 0 0, .slice none 0 0]) (t := 55) ?hr ?_; (case hd => rfl); (case hg => rfl); (case hr => first | (go_simp; done) | (go_simp; rfl)); intro gb113 hg w20 hbox hb; have n0_ := Zh (Zm (g := gb111) (o := .cells #[.slice (some ad112) l0_0.length c0_0] 28 (0, 0)) Zk hb); have n1_ := Zh (Zl Zs hb); have n2_ := Zh (hbox); have n3_ := Zh ((by rw [hg]; exact (below_size Zs) : w.heap.size ≤ gb113)); have n4_ := Zh ((by rw [hg]; exact (below_size Zs) : w.heap.size ≤ gb113)); have n5_ := Zh ((by rw [hg]; exact Nat.ne_of_lt (blk_lt (g := gb111) (o := .cells #[.slice (some ad112) l0_0.length c0_0] 28 (0, 0)) Zk) : gb111 ≠ gb113)); have n6_ := Zh ((by rw [hg]; exact Nat.ne_of_gt (blk_lt (g := gb111) (o := .cells #[.slice (some ad112) l0_0.length c0_0] 28 (0, 0)) Zk) : gb113 ≠ gb111)); clear BK111; clear HB; have BK111 := n0_; have HB := n1_; have BK113 := n2_; have GW113 := n3_; have GE113 := n4_; have NB111_113 := n5_; have NB113_111 := n6_; clear n0_ n1_ n2_ n3_ n4_ n5_ n6_; clear hb hbox hg; have hnb21 := NB113_111.out; have hnc21 := NB111_113.out; have hcz22_0 : w20.cell? ⟨gb113, 0, none⟩ = some (.string (⟨#[]⟩ : ByteArray)) := (blk_cell BK113.out 0).trans rfl; have hcz22_1 : w20.cell? ⟨gb113, 1, none⟩ = some (.slice none 0 0) := (blk_cell BK113.out 1).trans rfl; have hcz22_2 : w20.cell? ⟨gb113, 2, none⟩ = some (.slice none 0 0) := (blk_cell BK113.out 2).trans rfl; have hfz22_0 := Zn BK113.out 0; have hfz22_1 := Zn BK113.out 1; have hfz22_2 := Zn BK113.out 2))
       have n0_ : Aside0 ((((w20.setCell ⟨gb113, 0, none⟩ (.string ((rd_T55 l0_0 x3_1).f0))).setCell ⟨gb113, 1, none⟩ (.slice A112_1 ((rd_T55 l0_0 x3_1).f1).length c112_1)).setCell ⟨gb113, 2, none⟩ (.slice A112_2 ((rd_T55 l0_0 x3_1).f2).length c112_2)).heap[gb111]? = some (.cells #[.slice (some ad112) l0_0.length c0_0] 28 (0, 0))) := ⟨by (with_reducible repeat (first | refine Za ?_ _ | refine Zb ?_ | refine blk_alloc ?_ _)); refine Zp ?_ NB111_113.out _; (with_reducible repeat (first | refine Za ?_ _ | refine Zb ?_ | refine blk_alloc ?_ _)); refine Zp ?_ NB111_113.out _; (with_reducible repeat (first | refine Za ?_ _ | refine Zb ?_ | refine blk_alloc ?_ _)); refine Zp ?_ NB111_113.out _; (with_reducible repeat (first | refine Za ?_ _ | refine Zb ?_ | refine blk_alloc ?_ _)); exact BK111.out⟩
       have n1_ : Aside0 ((((w20.setCell ⟨gb113, 0, none⟩ (.string ((rd_T55 l0_0 x3_1).f0))).setCell ⟨gb113, 1, none⟩ (.slice A112_1 ((rd_T55 l0_0 x3_1).f1).length c112_1)).setCell ⟨gb113, 2, none⟩ (.slice A112_2 ((rd_T55 l0_0 x3_1).f2).length c112_2)).heap[gb113]? = some (.cells #[.string ((rd_T55 l0_0 x3_1).f0), .slice A112_1 ((rd_T55 l0_0 x3_1).f1).length c112_1, .slice A112_2 ((rd_T55 l0_0 x3_1).f2).length c112_2] 55 (0, 0))) := ⟨by (with_reducible repeat (first | refine Za ?_ _ | refine Zb ?_ | refine blk_alloc ?_ _)); refine blk_put (cs := #[.string ((rd_T55 l0_0 x3_1).f0), .slice A112_1 ((rd_T55 l0_0 x3_1).f1).length c112_1, .slice none 0 0]) ?_ 2 _ rfl; (with_reducible repeat (first | refine Za ?_ _ | refine Zb ?_ | refine blk_alloc ?_ _)); refine blk_put (cs := #[.string ((rd_T55 l0_0 x3_1).f0), .slice none 0 0, .slice none 0 0]) ?_ 1 _ rfl; (with_reducible repeat (first | refine Za ?_ _ | refine Zb ?_ | refine blk_alloc ?_ _)); refine blk_put (cs := #[.string (⟨#[]⟩ : ByteArray), .slice none 0 0, .slice none 0 0]) ?_ 0 _ rfl; (with_reducible repeat (first | refine Za ?_ _ | refine Zb ?_ | refine blk_alloc ?_ _)); exact BK113.out⟩
       have n2_ : Aside0 (Below w.heap.size w (((w20.setCell ⟨gb113, 0, none⟩ (.string ((rd_T55 l0_0 x3_1).f0))).setCell ⟨gb113, 1, none⟩ (.slice A112_1 ((rd_T55 l0_0 x3_1).f1).length c112_1)).setCell ⟨gb113, 2, none⟩ (.slice A112_2 ((rd_T55 l0_0 x3_1).f2).length c112_2))) := ⟨by repeat (first | (with_reducible first | exact HB.out | apply Zf | apply Zd | apply Ze | refine Zg ?_ GE111.out | refine Zg ?_ GE113.out) | exact HB.out)⟩
       (try clear BK111)
       (try clear BK113)
       (try clear HB)
       generalize (((w20.setCell ⟨gb113, 0, none⟩ (.string ((rd_T55 l0_0 x3_1).f0))).setCell ⟨gb113, 1, none⟩ (.slice A112_1 ((rd_T55 l0_0 x3_1).f1).length c112_1)).setCell ⟨gb113, 2, none⟩ (.slice A112_2 ((rd_T55 l0_0 x3_1).f2).length c112_2)) = w23 at n0_ n1_ n2_ ⊢
       have BK111 := n0_
       have BK113 := n1_
       have HB := n2_
       clear n0_ n1_ n2_
       have n0_ := Zh (Zb BK111.out)
       have n1_ := Zh (Zb BK113.out)
       have n2_ := Zh (Ze HB.out)
       clear BK111
       clear BK113
       clear HB
       have BK111 := n0_
       have BK113 := n1_
       have HB := n2_
       clear n0_ n1_ n2_
       refine start_ (n := 36) (S := fun w' => w'.cell? ⟨gb113, 0, none⟩ = some (.string ((rd_T55 l0_0 x3_1).f0)) ∧ w'.cell? ⟨gb113, 1, none⟩ = some (.slice A112_1 ((rd_T55 l0_0 x3_1).f1).length c112_1) ∧ w'.cell? ⟨gb113, 2, none⟩ = some (.slice A112_2 ((rd_T55 l0_0 x3_1).f2).length c112_2)) (ds := []) #[false, false, false, false, false, false, false, false, false, false, false, false, false, false, false, false, false, false, false, false, false, false, false, false, false, false, false, false, false, false, false, false, false, false, false, false] (by kernel_rfl) rfl rfl ⟨(blk_cell BK113.out 0).trans rfl, (blk_cell BK113.out 1).trans rfl, (blk_cell BK113.out 2).trans rfl⟩ (fun hHeld => ?_); refine with_tabW spec_DiskOk.tab7 spec_DiskOk.bits7 (fun HT_ HW_ => ?_)
       generalize w23.drew = w24 at BK111 BK113 HB hHeld ⊢
       refine SQ.pu 0 21 HT_ ?_
       refine SQ.tk 1 22 HT_ HW_ hHeld ?_
       refine one_ (i := 2) (N := some 23) #[true, true, true, false, false, false, false, false, false, false, false, false, false, false, false, false, false, false, false, false, false, false, false, false, false, false, false, false, false, false, false, false, false, false, false, false] rfl rfl (one_of HT_.out (by kernel_rfl)) (by decide) (fun K hK => ?_)
       refine goes_ Tryd.func90 (by kernel_rfl) rfl #[.string ((rd_T55 l0_0 x3_1).f0)] (by rfl) rfl rfl (by (try simp only [List.map_toArray, List.map_cons, List.map_nil]); first | done | rfl | (simp only [List.length_drop, List.length_take]; rfl)) ?_
       with_reducible refine (spec_l01Name.calls k1 ((rd_T55 l0_0 x3_1).f0) true _ A9.out).mono ?_
       rintro e w' ⟨rfl, ⟨nd, rfl⟩⟩
       refine ⟨_, rfl, ?_⟩
       refine hK.out _ _ ⟨(blk_cell BK113.out 0).trans rfl, (blk_cell BK113.out 1).trans rfl, (blk_cell BK113.out 2).trans rfl⟩ (fun hHeld => ?_)
       clear hK K
       refine norm_ (a' := ?_) ?_ ?_
       rotate_left
       ·
        show Act.put _ (some 23) _ = _
        simp only [Act.put, List.setIfInBounds_toArray, List.set_cons_zero, List.set_cons_succ, i64_w, i32_w]
        rfl
       refine SQ.pu 3 24 HT_ ?_
       refine SQ.pu 4 25 HT_ ?_
       refine SQ.pu 5 26 HT_ ?_
       refine SQ.tk 6 27 HT_ HW_ hHeld ?_
       refine SQ.pu 7 28 HT_ ?_
       refine SQ.pu 8 29 HT_ ?_
       refine SQ.pu 9 30 HT_ ?_
       refine SQ.pu 10 31 HT_ ?_
       refine SQ.pu 11 32 HT_ ?_
       refine SQ.pu 14 35 HT_ ?_
       refine SQ.tk 12 33 HT_ HW_ hHeld ?_
       refine SQ.pu 13 34 HT_ ?_
       refine SQ.tk 15 36 HT_ HW_ hHeld ?_
       refine SQ.pu 16 37 HT_ ?_
       refine SQ.pu 17 38 HT_ ?_
       refine SQ.pu 18 39 HT_ ?_
       refine SQ.pu 19 40 HT_ ?_
       refine SQ.pu 20 41 HT_ ?_
       refine SQ.of 21 42 HT_ ?_
       refine SQ.of 22 43 HT_ ?_
       refine SQ.of 23 44 HT_ ?_
       refine SQ.of 24 45 HT_ ?_
       refine SQ.of 25 46 HT_ ?_
       refine SQ.of 26 47 HT_ ?_
       refine SQ.of 27 48 HT_ ?_
       refine SQ.of 28 49 HT_ ?_
       refine SQ.of 29 50 HT_ ?_
       refine SQ.of 30 51 HT_ ?_
       refine SQ.of 31 52 HT_ ?_
       refine SQ.of 32 53 HT_ ?_
       refine SQ.of 33 54 HT_ ?_
       refine SQ.of 34 55 HT_ ?_
       refine SQ.pu 35 56 HT_ ?_
       refine done_ (done_of HT_.out (by kernel_rfl)) ?_
       try go_wp2
       go_ret
       exact ⟨by first | rfl | (simp [errW_none, errW_some] <;> rfl) | (simp [*, errW_none, errW_some] <;> rfl), by repeat (first | (with_reducible first | exact HB.out | apply Zf | apply Zd | apply Ze | refine Zg ?_ GE111.out | refine Zg ?_ GE113.out) | exact HB.out)⟩
      rw [if_neg c18] at H
      have c18b0 : decide ((wrap64 (20000 - (((rd_T55 l0_0 x3_1).f1).length : Int))) < (((rd_T55 l0_0 x3_1).f2).length : Int)) = false := decide_eq_false c18
      clear c18
      by_cases c25 : x3_1 > 0
      ·
       rw [if_pos c25] at H
       have c25b0 : decide (0 < x3_1) = true := decide_eq_true c25
       clear c25
       obtain ⟨ji26, hji26⟩ : ∃ j_ : Int, (wrap64 (x3_1 - 1)) = j_ := ⟨_, rfl⟩
       replace H : (if 0 ≤ (ji26) then (if (ji26) < (l0_0.length : Int) then (if ((Op.bytesLess (((rd_T55 l0_0 (ji26)).f0).toList) (((rd_T55 l0_0 x3_1).f0).toList)) = true) then (spec_DiskOk.l0 k1 (wrap64 (x3_1 + 1)) l0_0) else (some false)) else (none)) else (none)) = some r := by first | (rw [hji26] at H; exact H) | (simp only [hji26] at H ⊢; exact H)
       (try rw [hji26] at A9)
       have hji26w : (IntKind.i64.wrap (x3_1 - 1)) = ji26 := (i64_w _).trans hji26
       by_cases c27 : 0 ≤ (ji26)
       ·
        rw [if_pos c27] at H
        have c27b0 : decide (0 ≤ (ji26)) = true := decide_eq_true c27
        clear c27
        by_cases c28 : (ji26) < (l0_0.length : Int)
        ·
         rw [if_pos c28] at H
         have c28b0 : decide ((ji26) < (l0_0.length : Int)) = true := decide_eq_true c28
         clear c28
         by_cases c29 : ((Op.bytesLess (((rd_T55 l0_0 (ji26)).f0).toList) (((rd_T55 l0_0 x3_1).f0).toList)) = true)
         ·
          rw [if_pos c29] at H
          have c29b0 : (Op.bytesLess (((rd_T55 l0_0 (ji26)).f0).toList) (((rd_T55 l0_0 x3_1).f0).toList)) = true := c29
          clear c29
          have H' := Zh H
          clear H
          have hcz30_0 : wr.cell? ⟨gb111, 0, none⟩ = some (.slice A0_0 l0_0.length c0_0) := (blk_cell BK111.out 0).trans rfl
          have hfz30_0 := Zn BK111.out 0
          have p112 : 0 ≤ (x3_1 : Int) := Zo
          have q112 : x3_1 < (l0_0.length : Int) := Zo
          obtain ⟨ad112, A112_1, c112_1, A112_2, c112_2, e112, hx112_0, hx112_1, hx112_2, hl112_1, hi112_1, hl112_2, hi112_2⟩ := at_T55 HR0_0.out x3_1 p112 q112
          cases e112
          replace hx112_0 := Zc HB.out hx112_0
          replace hx112_1 := Zc HB.out hx112_1
          replace hx112_2 := Zc HB.out hx112_2
          have HR112_1 := Zh hi112_1
          have HC112_1 := Zh hl112_1
          clear hi112_1 hl112_1
          have HR112_2 := Zh hi112_2
          have HC112_2 := Zh hl112_2
          clear hi112_2 hl112_2
          replace p112 := eq_true p112
          replace q112 := eq_true q112
          try go_wp2_with (first | ((with_reducible refine gate_dst (N := 4) rfl ?_); (try (refine gate_guard (by rfl) ?_; dsimp only)); refine box_event ?hg (N := 4) ?hd (cs := #[.string (⟨#[]⟩ : ByteArray), .slice none 0 0, .slice none 0 0]) (t := 55) ?hr ?_; (case hd => rfl); (case hg => rfl); (case hr => first | (go_simp; done) | (go_simp; rfl)); intro gb113 hg w31 hbox hb; have n0_ := Zh (Zm (g := gb111) (o := .cells #[.slice (some ad112) l0_0.length c0_0] 28 (0, 0)) Zk hb); have n1_ := Zh (Zl Zs hb); have n2_ := Zh (hbox); have n3_ := Zh ((by rw [hg]; exact (below_size Zs) : w.heap.size ≤ gb113)); have n4_ := Zh ((by rw [hg]; exact (below_size Zs) : w.heap.size ≤ gb113)); have n5_ := Zh ((by rw [hg]; exact Nat.ne_of_lt (blk_lt (g := gb111) (o := .cells #[.slice (some ad112) l0_0.length c0_0] 28 (0, 0)) Zk) : gb111 ≠ gb113)); have n6_ := Zh ((by rw [hg]; exact Nat.ne_of_gt (blk_lt (g := gb111) (o := .cells #[.slice (some ad112) l0_0.length c0_0] 28 (0, 0)) Zk) : gb113 ≠ gb111)); clear BK111; clear HB; have BK111 := n0_; have HB := n1_; have BK113 := n2_; have GW113 := n3_; have GE113 := n4_; have NB111_113 := n5_; have NB113_111 := n6_; clear n0_ n1_ n2_ n3_ n4_ n5_ n6_; clear hb hbox hg; have hnb32 := NB113_111.out; have hnc32 := NB111_113.out; have hcz33_0 : w31.cell? ⟨gb113, 0, none⟩ = some (.string (⟨#[]⟩ : ByteArray)) := (blk_cell BK113.out 0).trans rfl; have hcz33_1 : w31.cell? ⟨gb113, 1, none⟩ = some (.slice none 0 0) := (blk_cell BK113.out 1).trans rfl; have hcz33_2 : w31.cell? ⟨gb113, 2, none⟩ = some (.slice none 0 0) := (blk_cell BK113.out 2).trans rfl; have hfz33_0 := Zn BK113.out 0; have hfz33_1 := Zn BK113.out 1; have hfz33_2 := Zn BK113.out 2))
          have n0_ : Aside0 ((((w31.setCell ⟨gb113, 0, none⟩ (.string ((rd_T55 l0_0 x3_1).f0))).setCell ⟨gb113, 1, none⟩ (.slice A112_1 ((rd_T55 l0_0 x3_1).f1).length c112_1)).setCell ⟨gb113, 2, none⟩ (.slice A112_2 ((rd_T55 l0_0 x3_1).f2).length c112_2)).heap[gb111]? = some (.cells #[.slice (some ad112) l0_0.length c0_0] 28 (0, 0))) := ⟨by (with_reducible repeat (first | refine Za ?_ _ | refine Zb ?_ | refine blk_alloc ?_ _)); refine Zp ?_ NB111_113.out _; (with_reducible repeat (first | refine Za ?_ _ | refine Zb ?_ | refine blk_alloc ?_ _)); refine Zp ?_ NB111_113.out _; (with_reducible repeat (first | refine Za ?_ _ | refine Zb ?_ | refine blk_alloc ?_ _)); refine Zp ?_ NB111_113.out _; (with_reducible repeat (first | refine Za ?_ _ | refine Zb ?_ | refine blk_alloc ?_ _)); exact BK111.out⟩
          have n1_ : Aside0 ((((w31.setCell ⟨gb113, 0, none⟩ (.string ((rd_T55 l0_0 x3_1).f0))).setCell ⟨gb113, 1, none⟩ (.slice A112_1 ((rd_T55 l0_0 x3_1).f1).length c112_1)).setCell ⟨gb113, 2, none⟩ (.slice A112_2 ((rd_T55 l0_0 x3_1).f2).length c112_2)).heap[gb113]? = some (.cells #[.string ((rd_T55 l0_0 x3_1).f0), .slice A112_1 ((rd_T55 l0_0 x3_1).f1).length c112_1, .slice A112_2 ((rd_T55 l0_0 x3_1).f2).length c112_2] 55 (0, 0))) := ⟨by (with_reducible repeat (first | refine Za ?_ _ | refine Zb ?_ | refine blk_alloc ?_ _)); refine blk_put (cs := #[.string ((rd_T55 l0_0 x3_1).f0), .slice A112_1 ((rd_T55 l0_0 x3_1).f1).length c112_1, .slice none 0 0]) ?_ 2 _ rfl; (with_reducible repeat (first | refine Za ?_ _ | refine Zb ?_ | refine blk_alloc ?_ _)); refine blk_put (cs := #[.string ((rd_T55 l0_0 x3_1).f0), .slice none 0 0, .slice none 0 0]) ?_ 1 _ rfl; (with_reducible repeat (first | refine Za ?_ _ | refine Zb ?_ | refine blk_alloc ?_ _)); refine blk_put (cs := #[.string (⟨#[]⟩ : ByteArray), .slice none 0 0, .slice none 0 0]) ?_ 0 _ rfl; (with_reducible repeat (first | refine Za ?_ _ | refine Zb ?_ | refine blk_alloc ?_ _)); exact BK113.out⟩
          have n2_ : Aside0 (Below w.heap.size w (((w31.setCell ⟨gb113, 0, none⟩ (.string ((rd_T55 l0_0 x3_1).f0))).setCell ⟨gb113, 1, none⟩ (.slice A112_1 ((rd_T55 l0_0 x3_1).f1).length c112_1)).setCell ⟨gb113, 2, none⟩ (.slice A112_2 ((rd_T55 l0_0 x3_1).f2).length c112_2))) := ⟨by repeat (first | (with_reducible first | exact HB.out | apply Zf | apply Zd | apply Ze | refine Zg ?_ GE111.out | refine Zg ?_ GE113.out) | exact HB.out)⟩
          (try clear BK111)
          (try clear BK113)
          (try clear HB)
          generalize (((w31.setCell ⟨gb113, 0, none⟩ (.string ((rd_T55 l0_0 x3_1).f0))).setCell ⟨gb113, 1, none⟩ (.slice A112_1 ((rd_T55 l0_0 x3_1).f1).length c112_1)).setCell ⟨gb113, 2, none⟩ (.slice A112_2 ((rd_T55 l0_0 x3_1).f2).length c112_2)) = w34 at n0_ n1_ n2_ ⊢
          have BK111 := n0_
          have BK113 := n1_
          have HB := n2_
          clear n0_ n1_ n2_
          have n0_ := Zh (Zb BK111.out)
          have n1_ := Zh (Zb BK113.out)
          have n2_ := Zh (Ze HB.out)
          clear BK111
          clear BK113
          clear HB
          have BK111 := n0_
          have BK113 := n1_
          have HB := n2_
          clear n0_ n1_ n2_
          have p115 : 0 ≤ ((ji26) : Int) := Zo
          have q115 : (ji26) < (l0_0.length : Int) := Zo
          obtain ⟨ad115, A115_1, c115_1, A115_2, c115_2, e115, hx115_0, hx115_1, hx115_2, hl115_1, hi115_1, hl115_2, hi115_2⟩ := at_T55 HR0_0.out (ji26) p115 q115
          have hw115_2 := hx115_2
          have hw115_1 := hx115_1
          have hw115_0 := hx115_0
          obtain rfl : ad112 = ad115 := (by injection e115)
          replace hx115_0 := Zc HB.out hx115_0
          replace hx115_1 := Zc HB.out hx115_1
          replace hx115_2 := Zc HB.out hx115_2
          have HR115_1 := Zh hi115_1
          have HC115_1 := Zh hl115_1
          clear hi115_1 hl115_1
          have HR115_2 := Zh hi115_2
          have HC115_2 := Zh hl115_2
          clear hi115_2 hl115_2
          replace p115 := eq_true p115
          replace q115 := eq_true q115
          refine start_ (n := 36) (S := fun w' => w'.cell? ⟨gb113, 0, none⟩ = some (.string ((rd_T55 l0_0 x3_1).f0)) ∧ w'.cell? ⟨gb113, 1, none⟩ = some (.slice A112_1 ((rd_T55 l0_0 x3_1).f1).length c112_1) ∧ w'.cell? ⟨gb113, 2, none⟩ = some (.slice A112_2 ((rd_T55 l0_0 x3_1).f2).length c112_2) ∧ w'.cell? ⟨gb111, 0, none⟩ = some (.slice (some ad112) l0_0.length c0_0) ∧ w'.cell? (ad112.add (((ji26)).toNat * 3)) = some (.string ((rd_T55 l0_0 (ji26)).f0)) ∧ w'.cell? ⟨(ad112.add (((ji26)).toNat * 3)).block, (ad112.add (((ji26)).toNat * 3)).off + 1, none⟩ = some (.slice A115_1 ((rd_T55 l0_0 (ji26)).f1).length c115_1) ∧ w'.cell? ⟨(ad112.add (((ji26)).toNat * 3)).block, (ad112.add (((ji26)).toNat * 3)).off + 2, none⟩ = some (.slice A115_2 ((rd_T55 l0_0 (ji26)).f2).length c115_2)) (ds := []) #[false, false, false, false, false, false, false, false, false, false, false, false, false, false, false, false, false, false, false, false, false, false, false, false, false, false, false, false, false, false, false, false, false, false, false, false] (by kernel_rfl) rfl rfl ⟨(blk_cell BK113.out 0).trans rfl, (blk_cell BK113.out 1).trans rfl, (blk_cell BK113.out 2).trans rfl, (blk_cell BK111.out 0).trans rfl, ((HB.out.cell (Zi w _ hw115_0)).trans hw115_0), ((HB.out.cell (Zi w _ hw115_1)).trans hw115_1), ((HB.out.cell (Zi w _ hw115_2)).trans hw115_2)⟩ (fun hHeld => ?_); refine with_tabW spec_DiskOk.tab7 spec_DiskOk.bits7 (fun HT_ HW_ => ?_)
          generalize w34.drew = w35 at BK111 BK113 HB HR115_1 HR115_2 hx115_0 hx115_1 hx115_2 hHeld ⊢
          refine SQ.pu 0 21 HT_ ?_
          refine SQ.tk 1 22 HT_ HW_ hHeld ?_
          refine one_ (i := 2) (N := some 23) #[true, true, true, false, false, false, false, false, false, false, false, false, false, false, false, false, false, false, false, false, false, false, false, false, false, false, false, false, false, false, false, false, false, false, false, false] rfl rfl (one_of HT_.out (by kernel_rfl)) (by decide) (fun K hK => ?_)
          refine goes_ Tryd.func90 (by kernel_rfl) rfl #[.string ((rd_T55 l0_0 x3_1).f0)] (by rfl) rfl rfl (by (try simp only [List.map_toArray, List.map_cons, List.map_nil]); first | done | rfl | (simp only [List.length_drop, List.length_take]; rfl)) ?_
          with_reducible refine (spec_l01Name.calls k1 ((rd_T55 l0_0 x3_1).f0) true _ A9.out).mono ?_
          rintro e w' ⟨rfl, ⟨nd, rfl⟩⟩
          refine ⟨_, rfl, ?_⟩
          refine hK.out _ _ ⟨(blk_cell BK113.out 0).trans rfl, (blk_cell BK113.out 1).trans rfl, (blk_cell BK113.out 2).trans rfl, (blk_cell BK111.out 0).trans rfl, ((HB.out.cell (Zi w _ hw115_0)).trans hw115_0), ((HB.out.cell (Zi w _ hw115_1)).trans hw115_1), ((HB.out.cell (Zi w _ hw115_2)).trans hw115_2)⟩ (fun hHeld => ?_)
          clear hK K
          refine norm_ (a' := ?_) ?_ ?_
          rotate_left
          ·
           show Act.put _ (some 23) _ = _
           simp only [Act.put, List.setIfInBounds_toArray, List.set_cons_zero, List.set_cons_succ, i64_w, i32_w]
           rfl
          refine SQ.pu 3 24 HT_ ?_
          refine SQ.pu 4 25 HT_ ?_
          refine SQ.pu 5 26 HT_ ?_
          refine SQ.tk 6 27 HT_ HW_ hHeld ?_
          refine SQ.pu 7 28 HT_ ?_
          refine SQ.pu 8 29 HT_ ?_
          refine SQ.pu 9 30 HT_ ?_
          refine SQ.pu 10 31 HT_ ?_
          refine SQ.pu 11 32 HT_ ?_
          refine SQ.pu 14 35 HT_ ?_
          refine SQ.tk 12 33 HT_ HW_ hHeld ?_
          refine SQ.pu 13 34 HT_ ?_
          refine SQ.tk 15 36 HT_ HW_ hHeld ?_
          refine SQ.pu 16 37 HT_ ?_
          refine SQ.pu 17 38 HT_ ?_
          refine SQ.pu 18 39 HT_ ?_
          refine SQ.pu 19 40 HT_ ?_
          refine SQ.pu 20 41 HT_ ?_
          refine SQ.pu 21 42 HT_ ?_
          refine SQ.pu 22 43 HT_ ?_
          refine SQ.pu 23 44 HT_ ?_
          refine SQ.pu 24 45 HT_ ?_
          refine SQ.pu 26 47 HT_ ?_
          refine SQ.pu 27 48 HT_ ?_
          refine SQ.pu 31 52 HT_ ?_
          refine SQ.tk 25 46 HT_ HW_ hHeld ?_
          refine SQ.pu 28 49 HT_ ?_
          refine SQ.pu 29 50 HT_ ?_
          refine SQ.tk 30 51 HT_ HW_ hHeld ?_
          refine SQ.tk 32 53 HT_ HW_ hHeld ?_
          refine SQ.pu 33 54 HT_ ?_
          refine SQ.pu 34 55 HT_ ?_
          refine SQ.pu 35 56 HT_ ?_
          refine done_ (done_of HT_.out (by kernel_rfl)) ?_
          try go_wp2
          go_roundg k1
          case measure => have := HK1.out; omega
          case rel => exact ⟨(wrap64 (x3_1 + 1)), (by first | rfl | (simp; done) | (simp [*]; done)), H', ⟨by have := HK1.out; omega⟩, ⟨by (with_reducible repeat (first | refine Za ?_ _ | refine Zb ?_ | refine blk_alloc ?_ _)); exact BK111.out⟩, ⟨by repeat (first | (with_reducible first | exact HB.out | apply Zf | apply Zd | apply Ze | refine Zg ?_ GE111.out | refine Zg ?_ GE113.out) | exact HB.out)⟩⟩
         rw [if_neg c29] at H
         have c29b0 : (Op.bytesLess (((rd_T55 l0_0 (ji26)).f0).toList) (((rd_T55 l0_0 x3_1).f0).toList)) = false := by simpa using c29
         clear c29
         obtain rfl := Option.some.inj H
         have hcz36_0 : wr.cell? ⟨gb111, 0, none⟩ = some (.slice A0_0 l0_0.length c0_0) := (blk_cell BK111.out 0).trans rfl
         have hfz36_0 := Zn BK111.out 0
         have p112 : 0 ≤ (x3_1 : Int) := Zo
         have q112 : x3_1 < (l0_0.length : Int) := Zo
         obtain ⟨ad112, A112_1, c112_1, A112_2, c112_2, e112, hx112_0, hx112_1, hx112_2, hl112_1, hi112_1, hl112_2, hi112_2⟩ := at_T55 HR0_0.out x3_1 p112 q112
         cases e112
         replace hx112_0 := Zc HB.out hx112_0
         replace hx112_1 := Zc HB.out hx112_1
         replace hx112_2 := Zc HB.out hx112_2
         have HR112_1 := Zh hi112_1
         have HC112_1 := Zh hl112_1
         clear hi112_1 hl112_1
         have HR112_2 := Zh hi112_2
         have HC112_2 := Zh hl112_2
         clear hi112_2 hl112_2
         replace p112 := eq_true p112
         replace q112 := eq_true q112
         try go_wp2_with (first | ((with_reducible refine gate_dst (N := 4) rfl ?_); (try (refine gate_guard (by rfl) ?_; dsimp only)); refine box_event ?hg (N := 4) ?hd (cs := #[.string (⟨#[]⟩ : ByteArray), .slice none 0 0, .slice none 0 0]) (t := 55) ?hr ?_; (case hd => rfl); (case hg => rfl); (case hr => first | (go_simp; done) | (go_simp; rfl)); intro gb113 hg w37 hbox hb; have n0_ := Zh (Zm (g := gb111) (o := .cells #[.slice (some ad112) l0_0.length c0_0] 28 (0, 0)) Zk hb); have n1_ := Zh (Zl Zs hb); have n2_ := Zh (hbox); have n3_ := Zh ((by rw [hg]; exact (below_size Zs) : w.heap.size ≤ gb113)); have n4_ := Zh ((by rw [hg]; exact (below_size Zs) : w.heap.size ≤ gb113)); have n5_ := Zh ((by rw [hg]; exact Nat.ne_of_lt (blk_lt (g := gb111) (o := .cells #[.slice (some ad112) l0_0.length c0_0] 28 (0, 0)) Zk) : gb111 ≠ gb113)); have n6_ := Zh ((by rw [hg]; exact Nat.ne_of_gt (blk_lt (g := gb111) (o := .cells #[.slice (some ad112) l0_0.length c0_0] 28 (0, 0)) Zk) : gb113 ≠ gb111)); clear BK111; clear HB; have BK111 := n0_; have HB := n1_; have BK113 := n2_; have GW113 := n3_; have GE113 := n4_; have NB111_113 := n5_; have NB113_111 := n6_; clear n0_ n1_ n2_ n3_ n4_ n5_ n6_; clear hb hbox hg; have hnb38 := NB113_111.out; have hnc38 := NB111_113.out; have hcz39_0 : w37.cell? ⟨gb113, 0, none⟩ = some (.string (⟨#[]⟩ : ByteArray)) := (blk_cell BK113.out 0).trans rfl; have hcz39_1 : w37.cell? ⟨gb113, 1, none⟩ = some (.slice none 0 0) := (blk_cell BK113.out 1).trans rfl; have hcz39_2 : w37.cell? ⟨gb113, 2, none⟩ = some (.slice none 0 0) := (blk_cell BK113.out 2).trans rfl; have hfz39_0 := Zn BK113.out 0; have hfz39_1 := Zn BK113.out 1; have hfz39_2 := Zn BK113.out 2))
         have n0_ : Aside0 ((((w37.setCell ⟨gb113, 0, none⟩ (.string ((rd_T55 l0_0 x3_1).f0))).setCell ⟨gb113, 1, none⟩ (.slice A112_1 ((rd_T55 l0_0 x3_1).f1).length c112_1)).setCell ⟨gb113, 2, none⟩ (.slice A112_2 ((rd_T55 l0_0 x3_1).f2).length c112_2)).heap[gb111]? = some (.cells #[.slice (some ad112) l0_0.length c0_0] 28 (0, 0))) := ⟨by (with_reducible repeat (first | refine Za ?_ _ | refine Zb ?_ | refine blk_alloc ?_ _)); refine Zp ?_ NB111_113.out _; (with_reducible repeat (first | refine Za ?_ _ | refine Zb ?_ | refine blk_alloc ?_ _)); refine Zp ?_ NB111_113.out _; (with_reducible repeat (first | refine Za ?_ _ | refine Zb ?_ | refine blk_alloc ?_ _)); refine Zp ?_ NB111_113.out _; (with_reducible repeat (first | refine Za ?_ _ | refine Zb ?_ | refine blk_alloc ?_ _)); exact BK111.out⟩
         have n1_ : Aside0 ((((w37.setCell ⟨gb113, 0, none⟩ (.string ((rd_T55 l0_0 x3_1).f0))).setCell ⟨gb113, 1, none⟩ (.slice A112_1 ((rd_T55 l0_0 x3_1).f1).length c112_1)).setCell ⟨gb113, 2, none⟩ (.slice A112_2 ((rd_T55 l0_0 x3_1).f2).length c112_2)).heap[gb113]? = some (.cells #[.string ((rd_T55 l0_0 x3_1).f0), .slice A112_1 ((rd_T55 l0_0 x3_1).f1).length c112_1, .slice A112_2 ((rd_T55 l0_0 x3_1).f2).length c112_2] 55 (0, 0))) := ⟨by (with_reducible repeat (first | refine Za ?_ _ | refine Zb ?_ | refine blk_alloc ?_ _)); refine blk_put (cs := #[.string ((rd_T55 l0_0 x3_1).f0), .slice A112_1 ((rd_T55 l0_0 x3_1).f1).length c112_1, .slice none 0 0]) ?_ 2 _ rfl; (with_reducible repeat (first | refine Za ?_ _ | refine Zb ?_ | refine blk_alloc ?_ _)); refine blk_put (cs := #[.string ((rd_T55 l0_0 x3_1).f0), .slice none 0 0, .slice none 0 0]) ?_ 1 _ rfl; (with_reducible repeat (first | refine Za ?_ _ | refine Zb ?_ | refine blk_alloc ?_ _)); refine blk_put (cs := #[.string (⟨#[]⟩ : ByteArray), .slice none 0 0, .slice none 0 0]) ?_ 0 _ rfl; (with_reducible repeat (first | refine Za ?_ _ | refine Zb ?_ | refine blk_alloc ?_ _)); exact BK113.out⟩
         have n2_ : Aside0 (Below w.heap.size w (((w37.setCell ⟨gb113, 0, none⟩ (.string ((rd_T55 l0_0 x3_1).f0))).setCell ⟨gb113, 1, none⟩ (.slice A112_1 ((rd_T55 l0_0 x3_1).f1).length c112_1)).setCell ⟨gb113, 2, none⟩ (.slice A112_2 ((rd_T55 l0_0 x3_1).f2).length c112_2))) := ⟨by repeat (first | (with_reducible first | exact HB.out | apply Zf | apply Zd | apply Ze | refine Zg ?_ GE111.out | refine Zg ?_ GE113.out) | exact HB.out)⟩
         (try clear BK111)
         (try clear BK113)
         (try clear HB)
         generalize (((w37.setCell ⟨gb113, 0, none⟩ (.string ((rd_T55 l0_0 x3_1).f0))).setCell ⟨gb113, 1, none⟩ (.slice A112_1 ((rd_T55 l0_0 x3_1).f1).length c112_1)).setCell ⟨gb113, 2, none⟩ (.slice A112_2 ((rd_T55 l0_0 x3_1).f2).length c112_2)) = w40 at n0_ n1_ n2_ ⊢
         have BK111 := n0_
         have BK113 := n1_
         have HB := n2_
         clear n0_ n1_ n2_
         have n0_ := Zh (Zb BK111.out)
         have n1_ := Zh (Zb BK113.out)
         have n2_ := Zh (Ze HB.out)
         clear BK111
         clear BK113
         clear HB
         have BK111 := n0_
         have BK113 := n1_
         have HB := n2_
         clear n0_ n1_ n2_
         have p115 : 0 ≤ ((ji26) : Int) := Zo
         have q115 : (ji26) < (l0_0.length : Int) := Zo
         obtain ⟨ad115, A115_1, c115_1, A115_2, c115_2, e115, hx115_0, hx115_1, hx115_2, hl115_1, hi115_1, hl115_2, hi115_2⟩ := at_T55 HR0_0.out (ji26) p115 q115
         have hw115_2 := hx115_2
         have hw115_1 := hx115_1
         have hw115_0 := hx115_0
         obtain rfl : ad112 = ad115 := (by injection e115)
         replace hx115_0 := Zc HB.out hx115_0
         replace hx115_1 := Zc HB.out hx115_1
         replace hx115_2 := Zc HB.out hx115_2
         have HR115_1 := Zh hi115_1
         have HC115_1 := Zh hl115_1
         clear hi115_1 hl115_1
         have HR115_2 := Zh hi115_2
         have HC115_2 := Zh hl115_2
         clear hi115_2 hl115_2
         replace p115 := eq_true p115
         replace q115 := eq_true q115
         refine start_ (n := 36) (S := fun w' => w'.cell? ⟨gb113, 0, none⟩ = some (.string ((rd_T55 l0_0 x3_1).f0)) ∧ w'.cell? ⟨gb113, 1, none⟩ = some (.slice A112_1 ((rd_T55 l0_0 x3_1).f1).length c112_1) ∧ w'.cell? ⟨gb113, 2, none⟩ = some (.slice A112_2 ((rd_T55 l0_0 x3_1).f2).length c112_2) ∧ w'.cell? ⟨gb111, 0, none⟩ = some (.slice (some ad112) l0_0.length c0_0) ∧ w'.cell? (ad112.add (((ji26)).toNat * 3)) = some (.string ((rd_T55 l0_0 (ji26)).f0)) ∧ w'.cell? ⟨(ad112.add (((ji26)).toNat * 3)).block, (ad112.add (((ji26)).toNat * 3)).off + 1, none⟩ = some (.slice A115_1 ((rd_T55 l0_0 (ji26)).f1).length c115_1) ∧ w'.cell? ⟨(ad112.add (((ji26)).toNat * 3)).block, (ad112.add (((ji26)).toNat * 3)).off + 2, none⟩ = some (.slice A115_2 ((rd_T55 l0_0 (ji26)).f2).length c115_2)) (ds := []) #[false, false, false, false, false, false, false, false, false, false, false, false, false, false, false, false, false, false, false, false, false, false, false, false, false, false, false, false, false, false, false, false, false, false, false, false] (by kernel_rfl) rfl rfl ⟨(blk_cell BK113.out 0).trans rfl, (blk_cell BK113.out 1).trans rfl, (blk_cell BK113.out 2).trans rfl, (blk_cell BK111.out 0).trans rfl, ((HB.out.cell (Zi w _ hw115_0)).trans hw115_0), ((HB.out.cell (Zi w _ hw115_1)).trans hw115_1), ((HB.out.cell (Zi w _ hw115_2)).trans hw115_2)⟩ (fun hHeld => ?_); refine with_tabW spec_DiskOk.tab7 spec_DiskOk.bits7 (fun HT_ HW_ => ?_)
         generalize w40.drew = w41 at BK111 BK113 HB HR115_1 HR115_2 hx115_0 hx115_1 hx115_2 hHeld ⊢
         refine SQ.pu 0 21 HT_ ?_
         refine SQ.tk 1 22 HT_ HW_ hHeld ?_
         refine one_ (i := 2) (N := some 23) #[true, true, true, false, false, false, false, false, false, false, false, false, false, false, false, false, false, false, false, false, false, false, false, false, false, false, false, false, false, false, false, false, false, false, false, false] rfl rfl (one_of HT_.out (by kernel_rfl)) (by decide) (fun K hK => ?_)
         refine goes_ Tryd.func90 (by kernel_rfl) rfl #[.string ((rd_T55 l0_0 x3_1).f0)] (by rfl) rfl rfl (by (try simp only [List.map_toArray, List.map_cons, List.map_nil]); first | done | rfl | (simp only [List.length_drop, List.length_take]; rfl)) ?_
         with_reducible refine (spec_l01Name.calls k1 ((rd_T55 l0_0 x3_1).f0) true _ A9.out).mono ?_
         rintro e w' ⟨rfl, ⟨nd, rfl⟩⟩
         refine ⟨_, rfl, ?_⟩
         refine hK.out _ _ ⟨(blk_cell BK113.out 0).trans rfl, (blk_cell BK113.out 1).trans rfl, (blk_cell BK113.out 2).trans rfl, (blk_cell BK111.out 0).trans rfl, ((HB.out.cell (Zi w _ hw115_0)).trans hw115_0), ((HB.out.cell (Zi w _ hw115_1)).trans hw115_1), ((HB.out.cell (Zi w _ hw115_2)).trans hw115_2)⟩ (fun hHeld => ?_)
         clear hK K
         refine norm_ (a' := ?_) ?_ ?_
         rotate_left
         ·
          show Act.put _ (some 23) _ = _
          simp only [Act.put, List.setIfInBounds_toArray, List.set_cons_zero, List.set_cons_succ, i64_w, i32_w]
          rfl
         refine SQ.pu 3 24 HT_ ?_
         refine SQ.pu 4 25 HT_ ?_
         refine SQ.pu 5 26 HT_ ?_
         refine SQ.tk 6 27 HT_ HW_ hHeld ?_
         refine SQ.pu 7 28 HT_ ?_
         refine SQ.pu 8 29 HT_ ?_
         refine SQ.pu 9 30 HT_ ?_
         refine SQ.pu 10 31 HT_ ?_
         refine SQ.pu 11 32 HT_ ?_
         refine SQ.pu 14 35 HT_ ?_
         refine SQ.tk 12 33 HT_ HW_ hHeld ?_
         refine SQ.pu 13 34 HT_ ?_
         refine SQ.tk 15 36 HT_ HW_ hHeld ?_
         refine SQ.pu 16 37 HT_ ?_
         refine SQ.pu 17 38 HT_ ?_
         refine SQ.pu 18 39 HT_ ?_
         refine SQ.pu 19 40 HT_ ?_
         refine SQ.pu 20 41 HT_ ?_
         refine SQ.pu 21 42 HT_ ?_
         refine SQ.pu 22 43 HT_ ?_
         refine SQ.pu 23 44 HT_ ?_
         refine SQ.pu 24 45 HT_ ?_
         refine SQ.pu 26 47 HT_ ?_
         refine SQ.pu 27 48 HT_ ?_
         refine SQ.pu 31 52 HT_ ?_
         refine SQ.tk 25 46 HT_ HW_ hHeld ?_
         refine SQ.pu 28 49 HT_ ?_
         refine SQ.pu 29 50 HT_ ?_
         refine SQ.tk 30 51 HT_ HW_ hHeld ?_
         refine SQ.tk 32 53 HT_ HW_ hHeld ?_
         refine SQ.pu 33 54 HT_ ?_
         refine SQ.pu 34 55 HT_ ?_
         refine SQ.pu 35 56 HT_ ?_
         refine done_ (done_of HT_.out (by kernel_rfl)) ?_
         try go_wp2
         go_ret
         exact ⟨by first | rfl | (simp [errW_none, errW_some] <;> rfl) | (simp only [← hji26]; first | rfl | (simp [errW_none, errW_some] <;> rfl)) | (simp [*, errW_none, errW_some] <;> rfl), by repeat (first | (with_reducible first | exact HB.out | apply Zf | apply Zd | apply Ze | refine Zg ?_ GE111.out | refine Zg ?_ GE113.out) | exact HB.out)⟩
        rw [if_neg c28] at H
        exact absurd H (by simp)
       rw [if_neg c27] at H
       exact absurd H (by simp)
      rw [if_neg c25] at H
      have c25b0 : decide (0 < x3_1) = false := decide_eq_false c25
      clear c25
      have H' := Zh H
      clear H
      have hcz42_0 : wr.cell? ⟨gb111, 0, none⟩ = some (.slice A0_0 l0_0.length c0_0) := (blk_cell BK111.out 0).trans rfl
      have hfz42_0 := Zn BK111.out 0
      have p112 : 0 ≤ (x3_1 : Int) := Zo
      have q112 : x3_1 < (l0_0.length : Int) := Zo
      obtain ⟨ad112, A112_1, c112_1, A112_2, c112_2, e112, hx112_0, hx112_1, hx112_2, hl112_1, hi112_1, hl112_2, hi112_2⟩ := at_T55 HR0_0.out x3_1 p112 q112
      cases e112
      replace hx112_0 := Zc HB.out hx112_0
      replace hx112_1 := Zc HB.out hx112_1
      replace hx112_2 := Zc HB.out hx112_2
      have HR112_1 := Zh hi112_1
      have HC112_1 := Zh hl112_1
      clear hi112_1 hl112_1
      have HR112_2 := Zh hi112_2
      have HC112_2 := Zh hl112_2
      clear hi112_2 hl112_2
      replace p112 := eq_true p112
      replace q112 := eq_true q112
      try go_wp2_with (first | ((with_reducible refine gate_dst (N := 4) rfl ?_); (try (refine gate_guard (by rfl) ?_; dsimp only)); refine box_event ?hg (N := 4) ?hd (cs := #[.string (⟨#[]⟩ : ByteArray), .slice none 0 0, .slice none 0 0]) (t := 55) ?hr ?_; (case hd => rfl); (case hg => rfl); (case hr => first | (go_simp; done) | (go_simp; rfl)); intro gb113 hg w43 hbox hb; have n0_ := Zh (Zm (g := gb111) (o := .cells #[.slice (some ad112) l0_0.length c0_0] 28 (0, 0)) Zk hb); have n1_ := Zh (Zl Zs hb); have n2_ := Zh (hbox); have n3_ := Zh ((by rw [hg]; exact (below_size Zs) : w.heap.size ≤ gb113)); have n4_ := Zh ((by rw [hg]; exact (below_size Zs) : w.heap.size ≤ gb113)); have n5_ := Zh ((by rw [hg]; exact Nat.ne_of_lt (blk_lt (g := gb111) (o := .cells #[.slice (some ad112) l0_0.length c0_0] 28 (0, 0)) Zk) : gb111 ≠ gb113)); have n6_ := Zh ((by rw [hg]; exact Nat.ne_of_gt (blk_lt (g := gb111) (o := .cells #[.slice (some ad112) l0_0.length c0_0] 28 (0, 0)) Zk) : gb113 ≠ gb111)); clear BK111; clear HB; have BK111 := n0_; have HB := n1_; have BK113 := n2_; have GW113 := n3_; have GE113 := n4_; have NB111_113 := n5_; have NB113_111 := n6_; clear n0_ n1_ n2_ n3_ n4_ n5_ n6_; clear hb hbox hg; have hnb44 := NB113_111.out; have hnc44 := NB111_113.out; have hcz45_0 : w43.cell? ⟨gb113, 0, none⟩ = some (.string (⟨#[]⟩ : ByteArray)) := (blk_cell BK113.out 0).trans rfl; have hcz45_1 : w43.cell? ⟨gb113, 1, none⟩ = some (.slice none 0 0) := (blk_cell BK113.out 1).trans rfl; have hcz45_2 : w43.cell? ⟨gb113, 2, none⟩ = some (.slice none 0 0) := (blk_cell BK113.out 2).trans rfl; have hfz45_0 := Zn BK113.out 0; have hfz45_1 := Zn BK113.out 1; have hfz45_2 := Zn BK113.out 2))
      have n0_ : Aside0 ((((w43.setCell ⟨gb113, 0, none⟩ (.string ((rd_T55 l0_0 x3_1).f0))).setCell ⟨gb113, 1, none⟩ (.slice A112_1 ((rd_T55 l0_0 x3_1).f1).length c112_1)).setCell ⟨gb113, 2, none⟩ (.slice A112_2 ((rd_T55 l0_0 x3_1).f2).length c112_2)).heap[gb111]? = some (.cells #[.slice (some ad112) l0_0.length c0_0] 28 (0, 0))) := ⟨by (with_reducible repeat (first | refine Za ?_ _ | refine Zb ?_ | refine blk_alloc ?_ _)); refine Zp ?_ NB111_113.out _; (with_reducible repeat (first | refine Za ?_ _ | refine Zb ?_ | refine blk_alloc ?_ _)); refine Zp ?_ NB111_113.out _; (with_reducible repeat (first | refine Za ?_ _ | refine Zb ?_ | refine blk_alloc ?_ _)); refine Zp ?_ NB111_113.out _; (with_reducible repeat (first | refine Za ?_ _ | refine Zb ?_ | refine blk_alloc ?_ _)); exact BK111.out⟩
      have n1_ : Aside0 ((((w43.setCell ⟨gb113, 0, none⟩ (.string ((rd_T55 l0_0 x3_1).f0))).setCell ⟨gb113, 1, none⟩ (.slice A112_1 ((rd_T55 l0_0 x3_1).f1).length c112_1)).setCell ⟨gb113, 2, none⟩ (.slice A112_2 ((rd_T55 l0_0 x3_1).f2).length c112_2)).heap[gb113]? = some (.cells #[.string ((rd_T55 l0_0 x3_1).f0), .slice A112_1 ((rd_T55 l0_0 x3_1).f1).length c112_1, .slice A112_2 ((rd_T55 l0_0 x3_1).f2).length c112_2] 55 (0, 0))) := ⟨by (with_reducible repeat (first | refine Za ?_ _ | refine Zb ?_ | refine blk_alloc ?_ _)); refine blk_put (cs := #[.string ((rd_T55 l0_0 x3_1).f0), .slice A112_1 ((rd_T55 l0_0 x3_1).f1).length c112_1, .slice none 0 0]) ?_ 2 _ rfl; (with_reducible repeat (first | refine Za ?_ _ | refine Zb ?_ | refine blk_alloc ?_ _)); refine blk_put (cs := #[.string ((rd_T55 l0_0 x3_1).f0), .slice none 0 0, .slice none 0 0]) ?_ 1 _ rfl; (with_reducible repeat (first | refine Za ?_ _ | refine Zb ?_ | refine blk_alloc ?_ _)); refine blk_put (cs := #[.string (⟨#[]⟩ : ByteArray), .slice none 0 0, .slice none 0 0]) ?_ 0 _ rfl; (with_reducible repeat (first | refine Za ?_ _ | refine Zb ?_ | refine blk_alloc ?_ _)); exact BK113.out⟩
      have n2_ : Aside0 (Below w.heap.size w (((w43.setCell ⟨gb113, 0, none⟩ (.string ((rd_T55 l0_0 x3_1).f0))).setCell ⟨gb113, 1, none⟩ (.slice A112_1 ((rd_T55 l0_0 x3_1).f1).length c112_1)).setCell ⟨gb113, 2, none⟩ (.slice A112_2 ((rd_T55 l0_0 x3_1).f2).length c112_2))) := ⟨by repeat (first | (with_reducible first | exact HB.out | apply Zf | apply Zd | apply Ze | refine Zg ?_ GE111.out | refine Zg ?_ GE113.out) | exact HB.out)⟩
      (try clear BK111)
      (try clear BK113)
      (try clear HB)
      generalize (((w43.setCell ⟨gb113, 0, none⟩ (.string ((rd_T55 l0_0 x3_1).f0))).setCell ⟨gb113, 1, none⟩ (.slice A112_1 ((rd_T55 l0_0 x3_1).f1).length c112_1)).setCell ⟨gb113, 2, none⟩ (.slice A112_2 ((rd_T55 l0_0 x3_1).f2).length c112_2)) = w46 at n0_ n1_ n2_ ⊢
      have BK111 := n0_
      have BK113 := n1_
      have HB := n2_
      clear n0_ n1_ n2_
      have n0_ := Zh (Zb BK111.out)
      have n1_ := Zh (Zb BK113.out)
      have n2_ := Zh (Ze HB.out)
      clear BK111
      clear BK113
      clear HB
      have BK111 := n0_
      have BK113 := n1_
      have HB := n2_
      clear n0_ n1_ n2_
      refine start_ (n := 36) (S := fun w' => w'.cell? ⟨gb113, 0, none⟩ = some (.string ((rd_T55 l0_0 x3_1).f0)) ∧ w'.cell? ⟨gb113, 1, none⟩ = some (.slice A112_1 ((rd_T55 l0_0 x3_1).f1).length c112_1) ∧ w'.cell? ⟨gb113, 2, none⟩ = some (.slice A112_2 ((rd_T55 l0_0 x3_1).f2).length c112_2)) (ds := []) #[false, false, false, false, false, false, false, false, false, false, false, false, false, false, false, false, false, false, false, false, false, false, false, false, false, false, false, false, false, false, false, false, false, false, false, false] (by kernel_rfl) rfl rfl ⟨(blk_cell BK113.out 0).trans rfl, (blk_cell BK113.out 1).trans rfl, (blk_cell BK113.out 2).trans rfl⟩ (fun hHeld => ?_); refine with_tabW spec_DiskOk.tab7 spec_DiskOk.bits7 (fun HT_ HW_ => ?_)
      generalize w46.drew = w47 at BK111 BK113 HB hHeld ⊢
      refine SQ.pu 0 21 HT_ ?_
      refine SQ.tk 1 22 HT_ HW_ hHeld ?_
      refine one_ (i := 2) (N := some 23) #[true, true, true, false, false, false, false, false, false, false, false, false, false, false, false, false, false, false, false, false, false, false, false, false, false, false, false, false, false, false, false, false, false, false, false, false] rfl rfl (one_of HT_.out (by kernel_rfl)) (by decide) (fun K hK => ?_)
      refine goes_ Tryd.func90 (by kernel_rfl) rfl #[.string ((rd_T55 l0_0 x3_1).f0)] (by rfl) rfl rfl (by (try simp only [List.map_toArray, List.map_cons, List.map_nil]); first | done | rfl | (simp only [List.length_drop, List.length_take]; rfl)) ?_
      with_reducible refine (spec_l01Name.calls k1 ((rd_T55 l0_0 x3_1).f0) true _ A9.out).mono ?_
      rintro e w' ⟨rfl, ⟨nd, rfl⟩⟩
      refine ⟨_, rfl, ?_⟩
      refine hK.out _ _ ⟨(blk_cell BK113.out 0).trans rfl, (blk_cell BK113.out 1).trans rfl, (blk_cell BK113.out 2).trans rfl⟩ (fun hHeld => ?_)
      clear hK K
      refine norm_ (a' := ?_) ?_ ?_
      rotate_left
      ·
       show Act.put _ (some 23) _ = _
       simp only [Act.put, List.setIfInBounds_toArray, List.set_cons_zero, List.set_cons_succ, i64_w, i32_w]
       rfl
      refine SQ.pu 3 24 HT_ ?_
      refine SQ.pu 4 25 HT_ ?_
      refine SQ.pu 5 26 HT_ ?_
      refine SQ.tk 6 27 HT_ HW_ hHeld ?_
      refine SQ.pu 7 28 HT_ ?_
      refine SQ.pu 8 29 HT_ ?_
      refine SQ.pu 9 30 HT_ ?_
      refine SQ.pu 10 31 HT_ ?_
      refine SQ.pu 11 32 HT_ ?_
      refine SQ.pu 14 35 HT_ ?_
      refine SQ.tk 12 33 HT_ HW_ hHeld ?_
      refine SQ.pu 13 34 HT_ ?_
      refine SQ.tk 15 36 HT_ HW_ hHeld ?_
      refine SQ.pu 16 37 HT_ ?_
      refine SQ.pu 17 38 HT_ ?_
      refine SQ.pu 18 39 HT_ ?_
      refine SQ.pu 19 40 HT_ ?_
      refine SQ.pu 20 41 HT_ ?_
      refine SQ.pu 21 42 HT_ ?_
      refine SQ.pu 22 43 HT_ ?_
      refine SQ.pu 23 44 HT_ ?_
      refine SQ.of 24 45 HT_ ?_
      refine SQ.of 25 46 HT_ ?_
      refine SQ.of 26 47 HT_ ?_
      refine SQ.of 27 48 HT_ ?_
      refine SQ.of 28 49 HT_ ?_
      refine SQ.of 29 50 HT_ ?_
      refine SQ.of 30 51 HT_ ?_
      refine SQ.of 31 52 HT_ ?_
      refine SQ.of 32 53 HT_ ?_
      refine SQ.of 33 54 HT_ ?_
      refine SQ.pu 34 55 HT_ ?_
      refine SQ.pu 35 56 HT_ ?_
      refine done_ (done_of HT_.out (by kernel_rfl)) ?_
      try go_wp2
      go_roundg k1
      case measure => have := HK1.out; omega
      case rel => exact ⟨(wrap64 (x3_1 + 1)), (by first | rfl | (simp; done) | (simp [*]; done)), H', ⟨by have := HK1.out; omega⟩, ⟨by (with_reducible repeat (first | refine Za ?_ _ | refine Zb ?_ | refine blk_alloc ?_ _)); exact BK111.out⟩, ⟨by repeat (first | (with_reducible first | exact HB.out | apply Zf | apply Zd | apply Ze | refine Zg ?_ GE111.out | refine Zg ?_ GE113.out) | exact HB.out)⟩⟩
     replace c10 := Bool.eq_false_iff.mpr c10
     subst c10
     have H1 : (some false) = some r := by rw [if_neg (show ¬ (false = true) by decide)] at H; exact H
     clear H
     have H := H1
     clear H1
     obtain rfl := Option.some.inj H
     have hcz48_0 : wr.cell? ⟨gb111, 0, none⟩ = some (.slice A0_0 l0_0.length c0_0) := (blk_cell BK111.out 0).trans rfl
     have hfz48_0 := Zn BK111.out 0
     have p112 : 0 ≤ (x3_1 : Int) := Zo
     have q112 : x3_1 < (l0_0.length : Int) := Zo
     obtain ⟨ad112, A112_1, c112_1, A112_2, c112_2, e112, hx112_0, hx112_1, hx112_2, hl112_1, hi112_1, hl112_2, hi112_2⟩ := at_T55 HR0_0.out x3_1 p112 q112
     cases e112
     replace hx112_0 := Zc HB.out hx112_0
     replace hx112_1 := Zc HB.out hx112_1
     replace hx112_2 := Zc HB.out hx112_2
     have HR112_1 := Zh hi112_1
     have HC112_1 := Zh hl112_1
     clear hi112_1 hl112_1
     have HR112_2 := Zh hi112_2
     have HC112_2 := Zh hl112_2
     clear hi112_2 hl112_2
     replace p112 := eq_true p112
     replace q112 := eq_true q112
     try go_wp2_with (first | ((with_reducible refine gate_dst (N := 4) rfl ?_); (try (refine gate_guard (by rfl) ?_; dsimp only)); refine box_event ?hg (N := 4) ?hd (cs := #[.string (⟨#[]⟩ : ByteArray), .slice none 0 0, .slice none 0 0]) (t := 55) ?hr ?_; (case hd => rfl); (case hg => rfl); (case hr => first | (go_simp; done) | (go_simp; rfl)); intro gb113 hg w49 hbox hb; have n0_ := Zh (Zm (g := gb111) (o := .cells #[.slice (some ad112) l0_0.length c0_0] 28 (0, 0)) Zk hb); have n1_ := Zh (Zl Zs hb); have n2_ := Zh (hbox); have n3_ := Zh ((by rw [hg]; exact (below_size Zs) : w.heap.size ≤ gb113)); have n4_ := Zh ((by rw [hg]; exact (below_size Zs) : w.heap.size ≤ gb113)); have n5_ := Zh ((by rw [hg]; exact Nat.ne_of_lt (blk_lt (g := gb111) (o := .cells #[.slice (some ad112) l0_0.length c0_0] 28 (0, 0)) Zk) : gb111 ≠ gb113)); have n6_ := Zh ((by rw [hg]; exact Nat.ne_of_gt (blk_lt (g := gb111) (o := .cells #[.slice (some ad112) l0_0.length c0_0] 28 (0, 0)) Zk) : gb113 ≠ gb111)); clear BK111; clear HB; have BK111 := n0_; have HB := n1_; have BK113 := n2_; have GW113 := n3_; have GE113 := n4_; have NB111_113 := n5_; have NB113_111 := n6_; clear n0_ n1_ n2_ n3_ n4_ n5_ n6_; clear hb hbox hg; have hnb50 := NB113_111.out; have hnc50 := NB111_113.out; have hcz51_0 : w49.cell? ⟨gb113, 0, none⟩ = some (.string (⟨#[]⟩ : ByteArray)) := (blk_cell BK113.out 0).trans rfl; have hcz51_1 : w49.cell? ⟨gb113, 1, none⟩ = some (.slice none 0 0) := (blk_cell BK113.out 1).trans rfl; have hcz51_2 : w49.cell? ⟨gb113, 2, none⟩ = some (.slice none 0 0) := (blk_cell BK113.out 2).trans rfl; have hfz51_0 := Zn BK113.out 0; have hfz51_1 := Zn BK113.out 1; have hfz51_2 := Zn BK113.out 2))
     have n0_ : Aside0 ((((w49.setCell ⟨gb113, 0, none⟩ (.string ((rd_T55 l0_0 x3_1).f0))).setCell ⟨gb113, 1, none⟩ (.slice A112_1 ((rd_T55 l0_0 x3_1).f1).length c112_1)).setCell ⟨gb113, 2, none⟩ (.slice A112_2 ((rd_T55 l0_0 x3_1).f2).length c112_2)).heap[gb111]? = some (.cells #[.slice (some ad112) l0_0.length c0_0] 28 (0, 0))) := ⟨by (with_reducible repeat (first | refine Za ?_ _ | refine Zb ?_ | refine blk_alloc ?_ _)); refine Zp ?_ NB111_113.out _; (with_reducible repeat (first | refine Za ?_ _ | refine Zb ?_ | refine blk_alloc ?_ _)); refine Zp ?_ NB111_113.out _; (with_reducible repeat (first | refine Za ?_ _ | refine Zb ?_ | refine blk_alloc ?_ _)); refine Zp ?_ NB111_113.out _; (with_reducible repeat (first | refine Za ?_ _ | refine Zb ?_ | refine blk_alloc ?_ _)); exact BK111.out⟩
     have n1_ : Aside0 ((((w49.setCell ⟨gb113, 0, none⟩ (.string ((rd_T55 l0_0 x3_1).f0))).setCell ⟨gb113, 1, none⟩ (.slice A112_1 ((rd_T55 l0_0 x3_1).f1).length c112_1)).setCell ⟨gb113, 2, none⟩ (.slice A112_2 ((rd_T55 l0_0 x3_1).f2).length c112_2)).heap[gb113]? = some (.cells #[.string ((rd_T55 l0_0 x3_1).f0), .slice A112_1 ((rd_T55 l0_0 x3_1).f1).length c112_1, .slice A112_2 ((rd_T55 l0_0 x3_1).f2).length c112_2] 55 (0, 0))) := ⟨by (with_reducible repeat (first | refine Za ?_ _ | refine Zb ?_ | refine blk_alloc ?_ _)); refine blk_put (cs := #[.string ((rd_T55 l0_0 x3_1).f0), .slice A112_1 ((rd_T55 l0_0 x3_1).f1).length c112_1, .slice none 0 0]) ?_ 2 _ rfl; (with_reducible repeat (first | refine Za ?_ _ | refine Zb ?_ | refine blk_alloc ?_ _)); refine blk_put (cs := #[.string ((rd_T55 l0_0 x3_1).f0), .slice none 0 0, .slice none 0 0]) ?_ 1 _ rfl; (with_reducible repeat (first | refine Za ?_ _ | refine Zb ?_ | refine blk_alloc ?_ _)); refine blk_put (cs := #[.string (⟨#[]⟩ : ByteArray), .slice none 0 0, .slice none 0 0]) ?_ 0 _ rfl; (with_reducible repeat (first | refine Za ?_ _ | refine Zb ?_ | refine blk_alloc ?_ _)); exact BK113.out⟩
     have n2_ : Aside0 (Below w.heap.size w (((w49.setCell ⟨gb113, 0, none⟩ (.string ((rd_T55 l0_0 x3_1).f0))).setCell ⟨gb113, 1, none⟩ (.slice A112_1 ((rd_T55 l0_0 x3_1).f1).length c112_1)).setCell ⟨gb113, 2, none⟩ (.slice A112_2 ((rd_T55 l0_0 x3_1).f2).length c112_2))) := ⟨by repeat (first | (with_reducible first | exact HB.out | apply Zf | apply Zd | apply Ze | refine Zg ?_ GE111.out | refine Zg ?_ GE113.out) | exact HB.out)⟩
     (try clear BK111)
     (try clear BK113)
     (try clear HB)
     generalize (((w49.setCell ⟨gb113, 0, none⟩ (.string ((rd_T55 l0_0 x3_1).f0))).setCell ⟨gb113, 1, none⟩ (.slice A112_1 ((rd_T55 l0_0 x3_1).f1).length c112_1)).setCell ⟨gb113, 2, none⟩ (.slice A112_2 ((rd_T55 l0_0 x3_1).f2).length c112_2)) = w52 at n0_ n1_ n2_ ⊢
     have BK111 := n0_
     have BK113 := n1_
     have HB := n2_
     clear n0_ n1_ n2_
     have n0_ := Zh (Zb BK111.out)
     have n1_ := Zh (Zb BK113.out)
     have n2_ := Zh (Ze HB.out)
     clear BK111
     clear BK113
     clear HB
     have BK111 := n0_
     have BK113 := n1_
     have HB := n2_
     clear n0_ n1_ n2_
     refine start_ (n := 36) (S := fun w' => w'.cell? ⟨gb113, 0, none⟩ = some (.string ((rd_T55 l0_0 x3_1).f0)) ∧ w'.cell? ⟨gb113, 1, none⟩ = some (.slice A112_1 ((rd_T55 l0_0 x3_1).f1).length c112_1) ∧ w'.cell? ⟨gb113, 2, none⟩ = some (.slice A112_2 ((rd_T55 l0_0 x3_1).f2).length c112_2)) (ds := []) #[false, false, false, false, false, false, false, false, false, false, false, false, false, false, false, false, false, false, false, false, false, false, false, false, false, false, false, false, false, false, false, false, false, false, false, false] (by kernel_rfl) rfl rfl ⟨(blk_cell BK113.out 0).trans rfl, (blk_cell BK113.out 1).trans rfl, (blk_cell BK113.out 2).trans rfl⟩ (fun hHeld => ?_); refine with_tabW spec_DiskOk.tab7 spec_DiskOk.bits7 (fun HT_ HW_ => ?_)
     generalize w52.drew = w53 at BK111 BK113 HB hHeld ⊢
     refine SQ.pu 0 21 HT_ ?_
     refine SQ.tk 1 22 HT_ HW_ hHeld ?_
     refine one_ (i := 2) (N := some 23) #[true, true, true, false, false, false, false, false, false, false, false, false, false, false, false, false, false, false, false, false, false, false, false, false, false, false, false, false, false, false, false, false, false, false, false, false] rfl rfl (one_of HT_.out (by kernel_rfl)) (by decide) (fun K hK => ?_)
     refine goes_ Tryd.func90 (by kernel_rfl) rfl #[.string ((rd_T55 l0_0 x3_1).f0)] (by rfl) rfl rfl (by (try simp only [List.map_toArray, List.map_cons, List.map_nil]); first | done | rfl | (simp only [List.length_drop, List.length_take]; rfl)) ?_
     with_reducible refine (spec_l01Name.calls k1 ((rd_T55 l0_0 x3_1).f0) false _ A9.out).mono ?_
     rintro e w' ⟨rfl, ⟨nd, rfl⟩⟩
     refine ⟨_, rfl, ?_⟩
     refine hK.out _ _ ⟨(blk_cell BK113.out 0).trans rfl, (blk_cell BK113.out 1).trans rfl, (blk_cell BK113.out 2).trans rfl⟩ (fun hHeld => ?_)
     clear hK K
     refine norm_ (a' := ?_) ?_ ?_
     rotate_left
     ·
      show Act.put _ (some 23) _ = _
      simp only [Act.put, List.setIfInBounds_toArray, List.set_cons_zero, List.set_cons_succ, i64_w, i32_w]
      rfl
     refine SQ.pu 3 24 HT_ ?_
     refine SQ.pu 4 25 HT_ ?_
     refine SQ.of 5 26 HT_ ?_
     refine SQ.of 6 27 HT_ ?_
     refine SQ.of 7 28 HT_ ?_
     refine SQ.of 8 29 HT_ ?_
     refine SQ.pu 9 30 HT_ ?_
     refine SQ.pu 10 31 HT_ ?_
     refine SQ.of 11 32 HT_ ?_
     refine SQ.of 12 33 HT_ ?_
     refine SQ.of 13 34 HT_ ?_
     refine SQ.of 14 35 HT_ ?_
     refine SQ.of 15 36 HT_ ?_
     refine SQ.of 16 37 HT_ ?_
     refine SQ.of 17 38 HT_ ?_
     refine SQ.of 18 39 HT_ ?_
     refine SQ.pu 19 40 HT_ ?_
     refine SQ.pu 20 41 HT_ ?_
     refine SQ.of 21 42 HT_ ?_
     refine SQ.of 22 43 HT_ ?_
     refine SQ.of 23 44 HT_ ?_
     refine SQ.of 24 45 HT_ ?_
     refine SQ.of 25 46 HT_ ?_
     refine SQ.of 26 47 HT_ ?_
     refine SQ.of 27 48 HT_ ?_
     refine SQ.of 28 49 HT_ ?_
     refine SQ.of 29 50 HT_ ?_
     refine SQ.of 30 51 HT_ ?_
     refine SQ.of 31 52 HT_ ?_
     refine SQ.of 32 53 HT_ ?_
     refine SQ.of 33 54 HT_ ?_
     refine SQ.of 34 55 HT_ ?_
     refine SQ.pu 35 56 HT_ ?_
     refine done_ (done_of HT_.out (by kernel_rfl)) ?_
     try go_wp2
     go_ret
     exact ⟨by first | rfl | (simp [errW_none, errW_some] <;> rfl) | (simp [*, errW_none, errW_some] <;> rfl), by repeat (first | (with_reducible first | exact HB.out | apply Zf | apply Zd | apply Ze | refine Zg ?_ GE111.out | refine Zg ?_ GE113.out) | exact HB.out)⟩
    rw [if_neg c8] at H
    exact absurd H (by simp)
   rw [if_neg c7] at H
   have c7b0 : decide (x3_1 < (l0_0.length : Int)) = false := decide_eq_false c7
   clear c7
   obtain rfl := Option.some.inj H
   have hcz54_0 : wr.cell? ⟨gb111, 0, none⟩ = some (.slice A0_0 l0_0.length c0_0) := (blk_cell BK111.out 0).trans rfl
   have hfz54_0 := Zn BK111.out 0
   go_wp2
   go_ret
   exact ⟨by first | rfl | (simp [errW_none, errW_some] <;> rfl) | (simp [*, errW_none, errW_some] <;> rfl), by repeat (first | (with_reducible first | exact HB.out | apply Zf | apply Zd | apply Ze | refine Zg ?_ GE111.out) | exact HB.out)⟩
end Go.Proofs.YtcgojdhbphocgaaDoor.F

namespace Go.Proofs.YtcgojdhbphocgaaDoor.F
open Go.RowKit Go.Proofs.YtcgojdhbphocgaaDoorW.PrintWords Go.Proofs.YtcgojdhbphocgaaDoorW.PrintWords.Kd Go.Proofs.YtcgojdhbphocgaaDoorW.PrintMore.Kd Go.Proofs.YtcgojdhbphocgaaDoorW.PrintLast Go.Proofs.YtcgojdhbphocgaaDoorW.PrintMore
attribute [local go_sem] max2_int min2_int max_two min_two max_three min_three max_four min_four   -- for this text's walks alone
set_option linter.unusedVariables false
set_option linter.unusedSimpArgs false
def spec_l01Bytes.l0 : Nat → List Int → List Int → Int → Option (List Int)
 | 0, _, _, _ => none
 | k + 1, x0, x3, x4 => if x4 < (x0.length : Int) then (if 0 ≤ x4 then (if x3.length < 140737488355328 then (spec_l01Bytes.l0 k x0 (x3 ++ [rd x0 x4]) (wrap64 (x4 + 1))) else (none)) else (none)) else (some x3)
def spec_l01Bytes.f (k : Nat) (l0 : List Int) : Option (List Int) := spec_l01Bytes.l0 k l0 (([] : List Int)) 0
set_option maxHeartbeats 8000000 in
set_option maxRecDepth 100000 in
theorem spec_l01Bytes.calls (k : Nat) (A0 : Option Addr) (c0 : Nat) (l0 : List Int) (r : List Int) (w : World) (hr0 : Kd.C (Kd.int .u8) w A0 l0.length l0) (hc0 : l0.length ≤ c0) (h : spec_l01Bytes.f k l0 = some r) :
  Calls Tryd.prog 87 #[.slice A0 l0.length c0] w fun e w' => ∃ v0_ : Value, e = .returned (v0_) ∧ Kd.R (Kd.int .u8) 5 w' w.heap.size (fun _ => True) v0_ r ∧ Below w.heap.size w w' := by
 have HR0 := Zh hr0
 have HC0 := Zh hc0
 clear hr0 hc0
 have HB := Zh (Below.refl w.heap.size w)
 have H : (spec_l01Bytes.l0 k l0 (([] : List Int)) 0) = some r := h
 clear h
 obtain ⟨y116, hy116⟩ : ∃ y_ : List Int, y_ = (([] : List Int)) := ⟨_, rfl⟩
 replace H : (spec_l01Bytes.l0 k l0 y116 0) = some r := by first | (rw [hy116]; with_reducible exact H) | (have H2_ := (Option.bind_some _ _).symm.trans H; rw [hy116]; with_reducible exact H2_) | (have H2_ := (Option.bind_some _ _).symm.trans H; with_reducible exact H2_) | with_reducible exact H | (rw [hy116]; exact H) | exact H
 have Ny116 := Zh hy116
 clear hy116
 have H' := Zh H
 clear H
 go_enter Tryd.func87, Tryd.ntmps87
 go_wp2_with (first | ((with_reducible refine gate_dst (N := 5) rfl ?_); refine R_lit (Kd.int .u8) _ 5 ?hg (N := 5) ?hd (xs := ([] : List Int)) (inner := []) (ok := fun _ => True) (okp := fun _ => True) ?hr ?hp (fun _ hk => hk) trivial (Below.refl _ _) (Nat.le_refl _) (by simp) ?_; (case hd => rfl); (case hg => rfl); (case hr => first | (go_simp; done) | (go_simp; rfl)); (case hp => exact (Reps.none _ _)); intro v117 w2 ho3 hb hg_ hnew_; clear hg_ hnew_; (first | rw [← Ny116.out] at ho3 | (simp only [Int.reduceToNat] at ho3; rw [← Ny116.out] at ho3)); have n0_ := Zh (R_lower ho3 (below_size Zs)); have n1_ := Zh (Zl Zs hb); clear HB; have HO118 := n0_; have HB := n1_; clear n0_ n1_; clear hb ho3))
 go_loopg [3, 4] k (fun kq v3 v4 w' => ∃ (x3_1 : List Int) (x4_1 : Int), v4 = .int .i64 x4_1 ∧ Aside0 (spec_l01Bytes.l0 kq l0 x3_1 x4_1 = some r) ∧ Aside0 (kq ≤ k) ∧ Aside0 (Kd.R (Kd.int .u8) 5 w' w.heap.size (fun _ => True) v3 x3_1) ∧ Aside0 (Below w.heap.size w w'))
 case atStart => exact ⟨(y116), (0), (by first | rfl | (simp; done) | (simp [*]; done)), H', ⟨Nat.le_refl _⟩, ⟨by (with_reducible repeat (first | apply R_alloc | apply R_drewN | apply R_drew)); exact HO118.out⟩, ⟨by repeat (first | (with_reducible first | exact HB.out | apply Zf | apply Zd | apply Ze) | exact HB.out)⟩⟩
 case round =>
  clear H'
  try clear p2
  obtain ⟨x3_1, x4_1, rfl, HA, HK1, HO_3, HB⟩ := hrel
  cases gk with
  | zero => exact absurd HA.out (by simp [spec_l01Bytes.l0])
  | succ k1 =>
   have H := HA.out
   clear HA
   simp only [spec_l01Bytes.l0] at H
   by_cases c4 : x4_1 < (l0.length : Int)
   ·
    rw [if_pos c4] at H
    have c4b0 : decide (x4_1 < (l0.length : Int)) = true := decide_eq_true c4
    clear c4
    by_cases c5 : 0 ≤ x4_1
    ·
     rw [if_pos c5] at H
     have c5b0 : decide (0 ≤ x4_1) = true := decide_eq_true c5
     clear c5
     by_cases c6 : x3_1.length < 140737488355328
     ·
      rw [if_pos c6] at H
      have LMc6 := Zh c6
      clear c6
      obtain ⟨y120, hy120⟩ : ∃ y_ : List Int, y_ = (x3_1 ++ [rd l0 x4_1]) := ⟨_, rfl⟩
      replace H : (spec_l01Bytes.l0 k1 l0 y120 (wrap64 (x4_1 + 1))) = some r := by first | (rw [hy120]; with_reducible exact H) | (have H2_ := (Option.bind_some _ _).symm.trans H; rw [hy120]; with_reducible exact H2_) | (have H2_ := (Option.bind_some _ _).symm.trans H; with_reducible exact H2_) | with_reducible exact H | (rw [hy120]; exact H) | exact H
      have Ny120 := Zh hy120
      clear hy120
      have H' := Zh H
      clear H
      have p119 : 0 ≤ (x4_1 : Int) := Zo
      have q119 : x4_1 < (l0.length : Int) := Zo
      obtain ⟨ad119, e119, hx119_0⟩ := Kd.at_int HR0.out x4_1 p119 q119
      cases e119
      replace hx119_0 := Zc HB.out hx119_0
      replace p119 := eq_true p119
      replace q119 := eq_true q119
      go_wp2_with (first | ((with_reducible refine gate_builtin (b := .append) (xs := #[.tmp 12, .tmp 17]) rfl ?_); at_builtin; refine R_append (Kd.int .u8) (w0 := w) w.heap.size rfl (.tmp 12) (.tmp 17) 41 5 (.int .u8 0) 1 rfl Tryd.underlying41 info5 rfl (by decide) (by omega) u3 x3_1 (rd l0 x4_1) [.int .u8 (rd l0 x4_1)] (fun _ => True) (fun _ => False) rfl rfl ?aP (fun _ hk => hk.elim) ?aF ?aO ?aB ?aS ?aL ?_; (case aP => exact rfl); (case aB => exact Zs); (case aF => exact (fun _ _ => trivial)); (case aO => exact (by (with_reducible repeat (first | apply R_alloc | apply R_drewN | apply R_drew)); exact HO_3.out)); (case aS => exact (below_size Zs)); (case aL => have := LMc6.out; omega); intro v121 w7 ho hb hg hat; rw [← Ny120.out] at ho; have n0_ := Zh (hb); have n1_ := Zh (ho); clear HB; clear HO_3; have HB := n0_; have HO122 := n1_; clear n0_ n1_; clear ho hb hg hat))
      go_roundg k1
      case measure => have := HK1.out; omega
      case rel => exact ⟨(y120), (wrap64 (x4_1 + 1)), (by first | rfl | (simp; done) | (simp [*]; done)), H', ⟨by have := HK1.out; omega⟩, ⟨by (with_reducible repeat (first | apply R_alloc | apply R_drewN | apply R_drew)); exact HO122.out⟩, ⟨by repeat (first | (with_reducible first | exact HB.out | apply Zf | apply Zd | apply Ze) | exact HB.out)⟩⟩
     rw [if_neg c6] at H
     exact absurd H (by simp)
    rw [if_neg c5] at H
    exact absurd H (by simp)
   rw [if_neg c4] at H
   have c4b0 : decide (x4_1 < (l0.length : Int)) = false := decide_eq_false c4
   clear c4
   obtain rfl := Option.some.inj H
   go_wp2
   go_ret
   exact ⟨_, by first | rfl | (simp [errW_none, errW_some] <;> rfl) | (simp [*, errW_none, errW_some] <;> rfl), by (with_reducible repeat (first | apply R_alloc | apply R_drewN | apply R_drew)); exact HO_3.out, by repeat (first | (with_reducible first | exact HB.out | apply Zf | apply Zd | apply Ze) | exact HB.out)⟩
def spec_l01Join.l0 : Nat → List Int → List Int → Int → Option (List Int)
 | 0, _, _, _ => none
 | k + 1, x1, x5, x6 => if x6 < (x1.length : Int) then (if 0 ≤ x6 then (if x5.length < 140737488355328 then (spec_l01Join.l0 k x1 (x5 ++ [rd x1 x6]) (wrap64 (x6 + 1))) else (none)) else (none)) else (some x5)
def spec_l01Join.f (k : Nat) (l0 : List Int) (l1 : List Int) : Option (List Int) := (spec_l01Bytes.f k l0).bind fun t123 => (spec_l01Join.l0 k l1 t123 0)
set_option maxHeartbeats 8000000 in
set_option maxRecDepth 100000 in
theorem spec_l01Join.calls (k : Nat) (A0 : Option Addr) (c0 : Nat) (l0 : List Int) (A1 : Option Addr) (c1 : Nat) (l1 : List Int) (r : List Int) (w : World) (hr0 : Kd.C (Kd.int .u8) w A0 l0.length l0) (hc0 : l0.length ≤ c0) (hr1 : Kd.C (Kd.int .u8) w A1 l1.length l1) (hc1 : l1.length ≤ c1) (h : spec_l01Join.f k l0 l1 = some r) :
  Calls Tryd.prog 85 #[.slice A0 l0.length c0, .slice A1 l1.length c1] w fun e w' => ∃ v0_ : Value, e = .returned (v0_) ∧ Kd.R (Kd.int .u8) 5 w' w.heap.size (fun _ => True) v0_ r ∧ Below w.heap.size w w' := by
 have HR0 := Zh hr0
 have HC0 := Zh hc0
 clear hr0 hc0
 have HR1 := Zh hr1
 have HC1 := Zh hc1
 clear hr1 hc1
 have HB := Zh (Below.refl w.heap.size w)
 have H : ((spec_l01Bytes.f k l0).bind fun t123 => (spec_l01Join.l0 k l1 t123 0)) = some r := h
 clear h
 replace H := Option.bind_eq_some_iff.mp H
 obtain ⟨t123, A30, H⟩ := H
 replace H : (spec_l01Join.l0 k l1 t123 0) = some r := H
 have A3 := Zh A30
 clear A30
 have H' := Zh H
 clear H
 go_enter Tryd.func85, Tryd.ntmps85
 go_wp2_with (first | ((with_reducible refine gate_callee (f := 87) rfl ?_); refine goesL_ (some 8) rfl rfl Tryd.func87 (by kernel_rfl) rfl #[.slice A0 l0.length c0] rfl (by (try simp only [List.map_toArray, List.map_cons, List.map_nil]); first | done | rfl | (simp only [List.length_drop, List.length_take]; rfl)) ?_; (with_reducible refine (spec_l01Bytes.calls k _ _ l0 t123 _ ?side1 ?side2 A3.out).mono ?_); (case side1 => repeat (first | exact HR0.out | (with_reducible refine C_alloc ?_ _) | (with_reducible refine C_drewN ?_ _) | (with_reducible refine C_drew ?_))); (case side2 => exact HC0.out); rintro e w4 ⟨v124, rfl, ho0, hb⟩; refine ⟨_, rfl, ?_⟩; have n0_ := Zh (R_lower ho0 (below_size Zs)); have n1_ := Zh (Zl Zs hb); clear HB; have HO125 := n0_; have HB := n1_; clear n0_ n1_; (try clear hb); (try clear hb2); (try clear hk); (try clear hi); (try clear ho0)))
 go_loopg [5, 6] k (fun kq v5 v6 w' => ∃ (x5_1 : List Int) (x6_1 : Int), v6 = .int .i64 x6_1 ∧ Aside0 (spec_l01Join.l0 kq l1 x5_1 x6_1 = some r) ∧ Aside0 (kq ≤ k) ∧ Aside0 (Kd.R (Kd.int .u8) 5 w' w.heap.size (fun _ => True) v5 x5_1) ∧ Aside0 (Below w.heap.size w w'))
 case atStart => exact ⟨(t123), (0), (by first | rfl | (simp; done) | (simp [*]; done)), H', ⟨Nat.le_refl _⟩, ⟨by (with_reducible repeat (first | apply R_alloc | apply R_drewN | apply R_drew)); exact HO125.out⟩, ⟨by repeat (first | (with_reducible first | exact HB.out | apply Zf | apply Zd | apply Ze) | exact HB.out)⟩⟩
 case round =>
  clear H'
  try clear c1
  try clear p2
  obtain ⟨x5_1, x6_1, rfl, HA, HK1, HO_5, HB⟩ := hrel
  cases gk with
  | zero => exact absurd HA.out (by simp [spec_l01Join.l0])
  | succ k1 =>
   have H := HA.out
   clear HA
   simp only [spec_l01Join.l0] at H
   by_cases c5 : x6_1 < (l1.length : Int)
   ·
    rw [if_pos c5] at H
    have c5b0 : decide (x6_1 < (l1.length : Int)) = true := decide_eq_true c5
    clear c5
    by_cases c6 : 0 ≤ x6_1
    ·
     rw [if_pos c6] at H
     have c6b0 : decide (0 ≤ x6_1) = true := decide_eq_true c6
     clear c6
     by_cases c7 : x5_1.length < 140737488355328
     ·
      rw [if_pos c7] at H
      have LMc7 := Zh c7
      clear c7
      obtain ⟨y127, hy127⟩ : ∃ y_ : List Int, y_ = (x5_1 ++ [rd l1 x6_1]) := ⟨_, rfl⟩
      replace H : (spec_l01Join.l0 k1 l1 y127 (wrap64 (x6_1 + 1))) = some r := by first | (rw [hy127]; with_reducible exact H) | (have H2_ := (Option.bind_some _ _).symm.trans H; rw [hy127]; with_reducible exact H2_) | (have H2_ := (Option.bind_some _ _).symm.trans H; with_reducible exact H2_) | with_reducible exact H | (rw [hy127]; exact H) | exact H
      have Ny127 := Zh hy127
      clear hy127
      have H' := Zh H
      clear H
      have p126 : 0 ≤ (x6_1 : Int) := Zo
      have q126 : x6_1 < (l1.length : Int) := Zo
      obtain ⟨ad126, e126, hx126_0⟩ := Kd.at_int HR1.out x6_1 p126 q126
      cases e126
      replace hx126_0 := Zc HB.out hx126_0
      replace p126 := eq_true p126
      replace q126 := eq_true q126
      go_wp2_with (first | ((with_reducible refine gate_builtin (b := .append) (xs := #[.tmp 15, .tmp 20]) rfl ?_); at_builtin; refine R_append (Kd.int .u8) (w0 := w) w.heap.size rfl (.tmp 15) (.tmp 20) 41 5 (.int .u8 0) 1 rfl Tryd.underlying41 info5 rfl (by decide) (by omega) u5 x5_1 (rd l1 x6_1) [.int .u8 (rd l1 x6_1)] (fun _ => True) (fun _ => False) rfl rfl ?aP (fun _ hk => hk.elim) ?aF ?aO ?aB ?aS ?aL ?_; (case aP => exact rfl); (case aB => exact Zs); (case aF => exact (fun _ _ => trivial)); (case aO => exact (by (with_reducible repeat (first | apply R_alloc | apply R_drewN | apply R_drew)); exact HO_5.out)); (case aS => exact (below_size Zs)); (case aL => have := LMc7.out; omega); intro v128 w8 ho hb hg hat; rw [← Ny127.out] at ho; have n0_ := Zh (hb); have n1_ := Zh (ho); clear HB; clear HO_5; have HB := n0_; have HO129 := n1_; clear n0_ n1_; clear ho hb hg hat))
      go_roundg k1
      case measure => have := HK1.out; omega
      case rel => exact ⟨(y127), (wrap64 (x6_1 + 1)), (by first | rfl | (simp; done) | (simp [*]; done)), H', ⟨by have := HK1.out; omega⟩, ⟨by (with_reducible repeat (first | apply R_alloc | apply R_drewN | apply R_drew)); exact HO129.out⟩, ⟨by repeat (first | (with_reducible first | exact HB.out | apply Zf | apply Zd | apply Ze) | exact HB.out)⟩⟩
     rw [if_neg c7] at H
     exact absurd H (by simp)
    rw [if_neg c6] at H
    exact absurd H (by simp)
   rw [if_neg c5] at H
   have c5b0 : decide (x6_1 < (l1.length : Int)) = false := decide_eq_false c5
   clear c5
   obtain rfl := Option.some.inj H
   go_wp2
   go_ret
   exact ⟨_, by first | rfl | (simp [errW_none, errW_some] <;> rfl) | (simp [*, errW_none, errW_some] <;> rfl), by (with_reducible repeat (first | apply R_alloc | apply R_drewN | apply R_drew)); exact HO_5.out, by repeat (first | (with_reducible first | exact HB.out | apply Zf | apply Zd | apply Ze) | exact HB.out)⟩
end Go.Proofs.YtcgojdhbphocgaaDoor.F

namespace Go.Proofs.YtcgojdhbphocgaaDoor.F
open Go.Proofs.YtcgojdhbphocgaaDoor
open Go.RowKit Go.Proofs.YtcgojdhbphocgaaDoorW.PrintWords Go.Proofs.YtcgojdhbphocgaaDoorW.PrintWords.Kd Go.Proofs.YtcgojdhbphocgaaDoorW.PrintMore.Kd Go.Proofs.YtcgojdhbphocgaaDoorW.PrintLast Go.Proofs.YtcgojdhbphocgaaDoorW.PrintMore
attribute [local go_sem] max2_int min2_int max_two min_two max_three min_three max_four min_four   -- for this text's walks alone
set_option linter.unusedVariables false
set_option linter.unusedSimpArgs false
def spec_Content.f (k : Nat) (l0_0 : List (S55)) (a1 : ByteArray) : Option (List Int × Bool) := (spec_l03Find.f k l0_0 a1).bind fun t131 => ((spec_DiskOk.f k l0_0).bind fun t132 => (if t132 = true then (if t131 < 0 then (some (([] : List Int), false)) else (if 0 ≤ t131 then (if t131 < (l0_0.length : Int) then ((spec_l01Join.f k ((rd_T55 l0_0 t131).f1) ((rd_T55 l0_0 t131).f2)).bind fun t135 => (some (t135, true))) else (none)) else (none))) else (some (([] : List Int), false))))
def spec_Content.T4 : Bool × List (List Nat × List Nat) := (true, [([], []), ([0], [0]), ([], []), ([1, 2], [1, 2]), ([3], [3]), ([4], [4]), ([], []), ([6], [6]), ([], []), ([7, 8], [7, 8]), ([9], [9]), ([10], [10]), ([5, 11], [5, 11]), ([12, 12, 0, 1, 2, 3, 4, 5, 6, 7, 8, 9, 10, 11, 12], [12]), ([13, 0, 1, 2, 3, 4, 5, 6, 7, 8, 9, 10, 11, 12, 13], [])])
def spec_Content.B4 : List Nat := [0, 1, 0, 7, 15, 31, 0, 64, 0, 448, 960, 1984, 4095, 8191, 16383]
theorem spec_Content.tab4 : rtab .any (opsOf Tryd.f50 4) = spec_Content.T4 := by kernel_rfl
theorem spec_Content.bits4 : waitsOk spec_Content.T4.2 spec_Content.B4 = true := by kernel_rfl
set_option maxHeartbeats 8000000 in
set_option maxRecDepth 100000 in
theorem spec_Content.calls (k : Nat) (A0_0 : Option Addr) (c0_0 : Nat) (l0_0 : List (S55)) (a1 : ByteArray) (r1 : List Int) (r2 : Bool) (w : World) (hr0_0 : Kd.C k55 w A0_0 l0_0.length l0_0) (hc0_0 : l0_0.length ≤ c0_0) (h : spec_Content.f k l0_0 a1 = some (r1, r2)) :
  Calls Tryd.prog 50 #[.agg #[.slice A0_0 l0_0.length c0_0], .string a1] w fun e w' => ∃ v0_ : Value, e = .returned (.tuple #[v0_, .bool r2]) ∧ Kd.R (Kd.int .u8) 5 w' w.heap.size (fun _ => True) v0_ r1 ∧ Below w.heap.size w w' := by
 have hu28 := Tryd.underlying28
 have HR0_0 := Zh hr0_0
 have HC0_0 := Zh hc0_0
 clear hr0_0 hc0_0
 have HB := Zh (Below.refl w.heap.size w)
 have H : ((spec_l03Find.f k l0_0 a1).bind fun t131 => ((spec_DiskOk.f k l0_0).bind fun t132 => (if t132 = true then (if t131 < 0 then (some (([] : List Int), false)) else (if 0 ≤ t131 then (if t131 < (l0_0.length : Int) then ((spec_l01Join.f k ((rd_T55 l0_0 t131).f1) ((rd_T55 l0_0 t131).f2)).bind fun t135 => (some (t135, true))) else (none)) else (none))) else (some (([] : List Int), false))))) = some (r1, r2) := h
 clear h
 replace H := Option.bind_eq_some_iff.mp H
 obtain ⟨t131, A30, H⟩ := H
 replace H : ((spec_DiskOk.f k l0_0).bind fun t132 => (if t132 = true then (if t131 < 0 then (some (([] : List Int), false)) else (if 0 ≤ t131 then (if t131 < (l0_0.length : Int) then ((spec_l01Join.f k ((rd_T55 l0_0 t131).f1) ((rd_T55 l0_0 t131).f2)).bind fun t135 => (some (t135, true))) else (none)) else (none))) else (some (([] : List Int), false)))) = some (r1, r2) := H
 have A3 := Zh A30
 clear A30
 replace H := Option.bind_eq_some_iff.mp H
 obtain ⟨t132, A40, H⟩ := H
 replace H : (if t132 = true then (if t131 < 0 then (some (([] : List Int), false)) else (if 0 ≤ t131 then (if t131 < (l0_0.length : Int) then ((spec_l01Join.f k ((rd_T55 l0_0 t131).f1) ((rd_T55 l0_0 t131).f2)).bind fun t135 => (some (t135, true))) else (none)) else (none))) else (some (([] : List Int), false))) = some (r1, r2) := H
 have A4 := Zh A40
 clear A40
 by_cases c5 : t132 = true
 ·
  subst c5
  have H1 : (if t131 < 0 then (some (([] : List Int), false)) else (if 0 ≤ t131 then (if t131 < (l0_0.length : Int) then ((spec_l01Join.f k ((rd_T55 l0_0 t131).f1) ((rd_T55 l0_0 t131).f2)).bind fun t135 => (some (t135, true))) else (none)) else (none))) = some (r1, r2) := by rw [if_pos rfl] at H; exact H
  clear H
  have H := H1
  clear H1
  by_cases c6 : t131 < 0
  ·
   rw [if_pos c6] at H
   have c6b0 : decide (t131 < 0) = true := decide_eq_true c6
   clear c6
   simp only [Option.some.injEq, Prod.mk.injEq] at H
   obtain ⟨rfl, rfl⟩ := H
   go_enter Tryd.func50, Tryd.ntmps50
   go_wp2_with (first | ((with_reducible refine gate_dst (N := 2) rfl ?_); refine box_event ?hg (N := 2) ?hd (cs := #[.slice A0_0 l0_0.length c0_0]) (t := 28) ?hr ?_; (case hd => rfl); (case hg => rfl); (case hr => first | (go_simp; done) | (go_simp; rfl)); intro gb130 hg w7 hbox hb; have n0_ := Zh (Zl Zs hb); have n1_ := Zh (hbox); have n2_ := Zh ((by rw [hg]; exact (below_size Zs) : w.heap.size ≤ gb130)); have n3_ := Zh ((by rw [hg]; exact (below_size Zs) : w.heap.size ≤ gb130)); clear HB; have HB := n0_; have BK130 := n1_; have GW130 := n2_; have GE130 := n3_; clear n0_ n1_ n2_ n3_; clear hb hbox hg; have hcz8_0 : w7.cell? ⟨gb130, 0, none⟩ = some (.slice A0_0 l0_0.length c0_0) := (blk_cell BK130.out 0).trans rfl; have hfz8_0 := Zn BK130.out 0) | ((with_reducible refine gate_callee (f := 83) rfl ?_); refine goesL_ (some 9) rfl rfl Tryd.func83 (by kernel_rfl) rfl #[.agg #[.slice A0_0 l0_0.length c0_0], .string a1] rfl (by (try simp only [List.map_toArray, List.map_cons, List.map_nil]); first | done | rfl | (simp only [List.length_drop, List.length_take]; rfl)) ?_; (with_reducible refine (spec_l03Find.calls k _ _ l0_0 a1 t131 _ ?side1 ?side2 A3.out).mono ?_); (case side1 => repeat (first | exact (C_below HR0_0.out HB.out) | (with_reducible refine C_alloc ?_ _) | (with_reducible refine C_drewN ?_ _) | (with_reducible refine C_drew ?_))); (case side2 => exact HC0_0.out); rintro e w9 ⟨rfl, hb⟩; refine ⟨_, rfl, ?_⟩; have n0_ := Zh (Zm (g := gb130) (o := .cells #[.slice A0_0 l0_0.length c0_0] 28 (0, 0)) Zk hb); have n1_ := Zh (Zl Zs hb); clear BK130; clear HB; have BK130 := n0_; have HB := n1_; clear n0_ n1_; (try clear hb); (try clear hb2); (try clear hk); (try clear hi); have hcz10_0 : w9.cell? ⟨gb130, 0, none⟩ = some (.slice A0_0 l0_0.length c0_0) := (blk_cell BK130.out 0).trans rfl; have hfz10_0 := Zn BK130.out 0) | ((with_reducible refine gate_callee (f := 84) rfl ?_); refine goesL_ (some 11) rfl rfl Tryd.func84 (by kernel_rfl) rfl #[.agg #[.slice A0_0 l0_0.length c0_0]] rfl (by (try simp only [List.map_toArray, List.map_cons, List.map_nil]); first | done | rfl | (simp only [List.length_drop, List.length_take]; rfl)) ?_; (with_reducible refine (spec_DiskOk.calls k _ _ l0_0 true _ ?side1 ?side2 A4.out).mono ?_); (case side1 => repeat (first | exact (C_below HR0_0.out HB.out) | (with_reducible refine C_alloc ?_ _) | (with_reducible refine C_drewN ?_ _) | (with_reducible refine C_drew ?_))); (case side2 => exact HC0_0.out); rintro e w11 ⟨rfl, hb⟩; refine ⟨_, rfl, ?_⟩; have n0_ := Zh (Zm (g := gb130) (o := .cells #[.slice A0_0 l0_0.length c0_0] 28 (0, 0)) Zk hb); have n1_ := Zh (Zl Zs hb); clear BK130; clear HB; have BK130 := n0_; have HB := n1_; clear n0_ n1_; (try clear hb); (try clear hb2); (try clear hk); (try clear hi)))
   go_ret2
   exact ⟨_, by first | rfl | (simp [errW_none, errW_some] <;> rfl) | (simp [*, errW_none, errW_some] <;> rfl), by first | exact R_nil _ _ _ _ _ | exact N_nil _ _ _ _ _ | exact V_nil _ _ _ _ _ | exact Q_nil _ _ _ _ _ | exact S_nil _ _ _ _ _, by repeat (first | (with_reducible first | exact HB.out | apply Zf | apply Zd | apply Ze | refine Zg ?_ GE130.out) | exact HB.out)⟩
  rw [if_neg c6] at H
  have c6b0 : decide (t131 < 0) = false := decide_eq_false c6
  clear c6
  by_cases c12 : 0 ≤ t131
  ·
   rw [if_pos c12] at H
   have c12b0 : decide (0 ≤ t131) = true := decide_eq_true c12
   clear c12
   by_cases c13 : t131 < (l0_0.length : Int)
   ·
    rw [if_pos c13] at H
    have c13b0 : decide (t131 < (l0_0.length : Int)) = true := decide_eq_true c13
    clear c13
    replace H := Option.bind_eq_some_iff.mp H
    obtain ⟨t135, A140, H⟩ := H
    replace H : (some (t135, true)) = some (r1, r2) := H
    have A14 := Zh A140
    clear A140
    simp only [Option.some.injEq, Prod.mk.injEq] at H
    obtain ⟨rfl, rfl⟩ := H
    go_enter Tryd.func50, Tryd.ntmps50
    try go_wp2_with (first | ((with_reducible refine gate_dst (N := 2) rfl ?_); refine box_event ?hg (N := 2) ?hd (cs := #[.slice A0_0 l0_0.length c0_0]) (t := 28) ?hr ?_; (case hd => rfl); (case hg => rfl); (case hr => first | (go_simp; done) | (go_simp; rfl)); intro gb130 hg w15 hbox hb; have n0_ := Zh (Zl Zs hb); have n1_ := Zh (hbox); have n2_ := Zh ((by rw [hg]; exact (below_size Zs) : w.heap.size ≤ gb130)); have n3_ := Zh ((by rw [hg]; exact (below_size Zs) : w.heap.size ≤ gb130)); clear HB; have HB := n0_; have BK130 := n1_; have GW130 := n2_; have GE130 := n3_; clear n0_ n1_ n2_ n3_; clear hb hbox hg; have hcz16_0 : w15.cell? ⟨gb130, 0, none⟩ = some (.slice A0_0 l0_0.length c0_0) := (blk_cell BK130.out 0).trans rfl; have hfz16_0 := Zn BK130.out 0) | ((with_reducible refine gate_callee (f := 83) rfl ?_); refine goesL_ (some 9) rfl rfl Tryd.func83 (by kernel_rfl) rfl #[.agg #[.slice A0_0 l0_0.length c0_0], .string a1] rfl (by (try simp only [List.map_toArray, List.map_cons, List.map_nil]); first | done | rfl | (simp only [List.length_drop, List.length_take]; rfl)) ?_; (with_reducible refine (spec_l03Find.calls k _ _ l0_0 a1 t131 _ ?side1 ?side2 A3.out).mono ?_); (case side1 => repeat (first | exact (C_below HR0_0.out HB.out) | (with_reducible refine C_alloc ?_ _) | (with_reducible refine C_drewN ?_ _) | (with_reducible refine C_drew ?_))); (case side2 => exact HC0_0.out); rintro e w17 ⟨rfl, hb⟩; refine ⟨_, rfl, ?_⟩; have n0_ := Zh (Zm (g := gb130) (o := .cells #[.slice A0_0 l0_0.length c0_0] 28 (0, 0)) Zk hb); have n1_ := Zh (Zl Zs hb); clear BK130; clear HB; have BK130 := n0_; have HB := n1_; clear n0_ n1_; (try clear hb); (try clear hb2); (try clear hk); (try clear hi); have hcz18_0 : w17.cell? ⟨gb130, 0, none⟩ = some (.slice A0_0 l0_0.length c0_0) := (blk_cell BK130.out 0).trans rfl; have hfz18_0 := Zn BK130.out 0) | ((with_reducible refine gate_callee (f := 84) rfl ?_); refine goesL_ (some 11) rfl rfl Tryd.func84 (by kernel_rfl) rfl #[.agg #[.slice A0_0 l0_0.length c0_0]] rfl (by (try simp only [List.map_toArray, List.map_cons, List.map_nil]); first | done | rfl | (simp only [List.length_drop, List.length_take]; rfl)) ?_; (with_reducible refine (spec_DiskOk.calls k _ _ l0_0 true _ ?side1 ?side2 A4.out).mono ?_); (case side1 => repeat (first | exact (C_below HR0_0.out HB.out) | (with_reducible refine C_alloc ?_ _) | (with_reducible refine C_drewN ?_ _) | (with_reducible refine C_drew ?_))); (case side2 => exact HC0_0.out); rintro e w19 ⟨rfl, hb⟩; refine ⟨_, rfl, ?_⟩; have n0_ := Zh (Zm (g := gb130) (o := .cells #[.slice A0_0 l0_0.length c0_0] 28 (0, 0)) Zk hb); have n1_ := Zh (Zl Zs hb); clear BK130; clear HB; have BK130 := n0_; have HB := n1_; clear n0_ n1_; (try clear hb); (try clear hb2); (try clear hk); (try clear hi)))
    have n0_ := Zh (Zb BK130.out)
    have n1_ := Zh (Ze HB.out)
    clear BK130
    clear HB
    have BK130 := n0_
    have HB := n1_
    clear n0_ n1_
    have p133 : 0 ≤ (t131 : Int) := Zo
    have q133 : t131 < (l0_0.length : Int) := Zo
    obtain ⟨ad133, A133_1, c133_1, A133_2, c133_2, e133, hx133_0, hx133_1, hx133_2, hl133_1, hi133_1, hl133_2, hi133_2⟩ := at_T55 HR0_0.out t131 p133 q133
    have hw133_2 := hx133_2
    have hw133_1 := hx133_1
    have hw133_0 := hx133_0
    cases e133
    replace hx133_0 := Zc HB.out hx133_0
    replace hx133_1 := Zc HB.out hx133_1
    replace hx133_2 := Zc HB.out hx133_2
    have HR133_1 := Zh hi133_1
    have HC133_1 := Zh hl133_1
    clear hi133_1 hl133_1
    have HR133_2 := Zh hi133_2
    have HC133_2 := Zh hl133_2
    clear hi133_2 hl133_2
    replace p133 := eq_true p133
    replace q133 := eq_true q133
    have p134 : 0 ≤ (t131 : Int) := Zo
    have q134 : t131 < (l0_0.length : Int) := Zo
    obtain ⟨ad134, A134_1, c134_1, A134_2, c134_2, e134, hx134_0, hx134_1, hx134_2, hl134_1, hi134_1, hl134_2, hi134_2⟩ := at_T55 HR0_0.out t131 p134 q134
    have hw134_2 := hx134_2
    have hw134_1 := hx134_1
    have hw134_0 := hx134_0
    obtain rfl : ad133 = ad134 := (by injection e134)
    replace hx134_0 := Zc HB.out hx134_0
    replace hx134_1 := Zc HB.out hx134_1
    replace hx134_2 := Zc HB.out hx134_2
    have HR134_1 := Zh hi134_1
    have HC134_1 := Zh hl134_1
    clear hi134_1 hl134_1
    have HR134_2 := Zh hi134_2
    have HC134_2 := Zh hl134_2
    clear hi134_2 hl134_2
    replace p134 := eq_true p134
    replace q134 := eq_true q134
    have ea_ := Option.some.inj (hx133_1.symm.trans hx134_1)
    injection ea_ with ea_ en_ ec_
    subst ea_
    subst ec_
    clear en_
    have ea_ := Option.some.inj (hx133_2.symm.trans hx134_2)
    injection ea_ with ea_ en_ ec_
    subst ea_
    subst ec_
    clear en_
    refine start_ (n := 15) (S := fun w' => w'.cell? ⟨gb130, 0, none⟩ = some (.slice (some ad133) l0_0.length c0_0) ∧ w'.cell? (ad133.add ((t131).toNat * 3)) = some (.string ((rd_T55 l0_0 t131).f0)) ∧ w'.cell? ⟨(ad133.add ((t131).toNat * 3)).block, (ad133.add ((t131).toNat * 3)).off + 1, none⟩ = some (.slice A133_1 ((rd_T55 l0_0 t131).f1).length c133_1) ∧ w'.cell? ⟨(ad133.add ((t131).toNat * 3)).block, (ad133.add ((t131).toNat * 3)).off + 2, none⟩ = some (.slice A133_2 ((rd_T55 l0_0 t131).f2).length c133_2) ∧ w'.cell? (ad133.add ((t131).toNat * 3)) = some (.string ((rd_T55 l0_0 t131).f0)) ∧ w'.cell? ⟨(ad133.add ((t131).toNat * 3)).block, (ad133.add ((t131).toNat * 3)).off + 1, none⟩ = some (.slice A133_1 ((rd_T55 l0_0 t131).f1).length c133_1) ∧ w'.cell? ⟨(ad133.add ((t131).toNat * 3)).block, (ad133.add ((t131).toNat * 3)).off + 2, none⟩ = some (.slice A133_2 ((rd_T55 l0_0 t131).f2).length c133_2)) (ds := []) #[false, false, false, false, false, false, false, false, false, false, false, false, false, false, false] (by kernel_rfl) rfl rfl ⟨(blk_cell BK130.out 0).trans rfl, ((HB.out.cell (Zi w _ hw133_0)).trans hw133_0), ((HB.out.cell (Zi w _ hw133_1)).trans hw133_1), ((HB.out.cell (Zi w _ hw133_2)).trans hw133_2), ((HB.out.cell (Zi w _ hw134_0)).trans hw134_0), ((HB.out.cell (Zi w _ hw134_1)).trans hw134_1), ((HB.out.cell (Zi w _ hw134_2)).trans hw134_2)⟩ (fun hHeld => ?_); refine with_tabW spec_Content.tab4 spec_Content.bits4 (fun HT_ HW_ => ?_)
    generalize w19.drew = w20 at BK130 HB HR133_1 HR133_2 HR134_1 HR134_2 hx133_0 hx133_1 hx133_2 hx134_0 hx134_1 hx134_2 hHeld ⊢
    refine SQ.pu 0 17 HT_ ?_
    refine SQ.pu 2 19 HT_ ?_
    refine SQ.pu 6 23 HT_ ?_
    refine SQ.pu 8 25 HT_ ?_
    refine SQ.tk 1 18 HT_ HW_ hHeld ?_
    refine SQ.pu 3 20 HT_ ?_
    refine SQ.pu 4 21 HT_ ?_
    refine SQ.tk 5 22 HT_ HW_ hHeld ?_
    refine SQ.tk 7 24 HT_ HW_ hHeld ?_
    refine SQ.pu 9 26 HT_ ?_
    refine SQ.pu 10 27 HT_ ?_
    refine SQ.tk 11 28 HT_ HW_ hHeld ?_
    refine one_ (i := 12) (N := some 29) #[true, true, true, true, true, true, true, true, true, true, true, true, true, false, false] rfl rfl (one_of HT_.out (by kernel_rfl)) (by decide) (fun K hK => ?_)
    refine goes_ Tryd.func85 (by kernel_rfl) rfl #[.slice A133_1 ((rd_T55 l0_0 t131).f1).length c133_1, .slice A133_2 ((rd_T55 l0_0 t131).f2).length c133_2] (by rfl) rfl rfl (by (try simp only [List.map_toArray, List.map_cons, List.map_nil]); first | done | rfl | (simp only [List.length_drop, List.length_take]; rfl)) ?_
    with_reducible refine (spec_l01Join.calls k _ _ ((rd_T55 l0_0 t131).f1) _ _ ((rd_T55 l0_0 t131).f2) t135 _ ?side1 ?side2 ?side3 ?side4 A14.out).mono ?_
    (case side1 => repeat (first | exact (C_below HR133_1.out HB.out) | (with_reducible refine C_alloc ?_ _) | (with_reducible refine C_drewN ?_ _) | (with_reducible refine C_drew ?_)))
    (case side2 => exact HC133_1.out)
    (case side3 => repeat (first | exact (C_below HR134_2.out HB.out) | (with_reducible refine C_alloc ?_ _) | (with_reducible refine C_drewN ?_ _) | (with_reducible refine C_drew ?_)))
    (case side4 => exact HC134_2.out)
    rintro e w21 ⟨v136, rfl, ho0, hb⟩
    refine ⟨_, rfl, ?_⟩
    have n0_ := Zh (R_lower ho0 (below_size Zs))
    have n1_ := Zh (Zm (g := gb130) (o := .cells #[.slice (some ad133) l0_0.length c0_0] 28 (0, 0)) Zk hb)
    have n2_ := Zh (Zl Zs hb)
    clear BK130
    clear HB
    have HO137 := n0_
    have BK130 := n1_
    have HB := n2_
    clear n0_ n1_ n2_
    (try clear hb)
    (try clear hb2)
    (try clear hk)
    (try clear hi)
    (try clear ho0)
    refine hK.out _ _ ⟨(blk_cell BK130.out 0).trans rfl, ((HB.out.cell (Zi w _ hw133_0)).trans hw133_0), ((HB.out.cell (Zi w _ hw133_1)).trans hw133_1), ((HB.out.cell (Zi w _ hw133_2)).trans hw133_2), ((HB.out.cell (Zi w _ hw134_0)).trans hw134_0), ((HB.out.cell (Zi w _ hw134_1)).trans hw134_1), ((HB.out.cell (Zi w _ hw134_2)).trans hw134_2)⟩ (fun hHeld => ?_)
    clear hK K
    refine norm_ (a' := ?_) ?_ ?_
    rotate_left
    ·
     show Act.put _ (some 29) _ = _
     simp only [Act.put, List.setIfInBounds_toArray, List.set_cons_zero, List.set_cons_succ, i64_w, i32_w]
     rfl
    refine SQ.pu 13 4 HT_ ?_
    refine SQ.pu 14 5 HT_ ?_
    refine done_ (done_of HT_.out (by kernel_rfl)) ?_
    try go_wp2
    go_ret2
    exact ⟨_, by first | rfl | (simp [errW_none, errW_some] <;> rfl) | (simp [*, errW_none, errW_some] <;> rfl), by (with_reducible repeat (first | apply R_alloc | apply R_drewN | apply R_drew)); exact HO137.out, by repeat (first | (with_reducible first | exact HB.out | apply Zf | apply Zd | apply Ze | refine Zg ?_ GE130.out) | exact HB.out)⟩
   rw [if_neg c13] at H
   exact absurd H (by simp)
  rw [if_neg c12] at H
  exact absurd H (by simp)
 replace c5 := Bool.eq_false_iff.mpr c5
 subst c5
 have H1 : (some (([] : List Int), false)) = some (r1, r2) := by rw [if_neg (show ¬ (false = true) by decide)] at H; exact H
 clear H
 have H := H1
 clear H1
 simp only [Option.some.injEq, Prod.mk.injEq] at H
 obtain ⟨rfl, rfl⟩ := H
 go_enter Tryd.func50, Tryd.ntmps50
 go_wp2_with (first | ((with_reducible refine gate_dst (N := 2) rfl ?_); refine box_event ?hg (N := 2) ?hd (cs := #[.slice A0_0 l0_0.length c0_0]) (t := 28) ?hr ?_; (case hd => rfl); (case hg => rfl); (case hr => first | (go_simp; done) | (go_simp; rfl)); intro gb130 hg w22 hbox hb; have n0_ := Zh (Zl Zs hb); have n1_ := Zh (hbox); have n2_ := Zh ((by rw [hg]; exact (below_size Zs) : w.heap.size ≤ gb130)); have n3_ := Zh ((by rw [hg]; exact (below_size Zs) : w.heap.size ≤ gb130)); clear HB; have HB := n0_; have BK130 := n1_; have GW130 := n2_; have GE130 := n3_; clear n0_ n1_ n2_ n3_; clear hb hbox hg; have hcz23_0 : w22.cell? ⟨gb130, 0, none⟩ = some (.slice A0_0 l0_0.length c0_0) := (blk_cell BK130.out 0).trans rfl; have hfz23_0 := Zn BK130.out 0) | ((with_reducible refine gate_callee (f := 83) rfl ?_); refine goesL_ (some 9) rfl rfl Tryd.func83 (by kernel_rfl) rfl #[.agg #[.slice A0_0 l0_0.length c0_0], .string a1] rfl (by (try simp only [List.map_toArray, List.map_cons, List.map_nil]); first | done | rfl | (simp only [List.length_drop, List.length_take]; rfl)) ?_; (with_reducible refine (spec_l03Find.calls k _ _ l0_0 a1 t131 _ ?side1 ?side2 A3.out).mono ?_); (case side1 => repeat (first | exact (C_below HR0_0.out HB.out) | (with_reducible refine C_alloc ?_ _) | (with_reducible refine C_drewN ?_ _) | (with_reducible refine C_drew ?_))); (case side2 => exact HC0_0.out); rintro e w24 ⟨rfl, hb⟩; refine ⟨_, rfl, ?_⟩; have n0_ := Zh (Zm (g := gb130) (o := .cells #[.slice A0_0 l0_0.length c0_0] 28 (0, 0)) Zk hb); have n1_ := Zh (Zl Zs hb); clear BK130; clear HB; have BK130 := n0_; have HB := n1_; clear n0_ n1_; (try clear hb); (try clear hb2); (try clear hk); (try clear hi); have hcz25_0 : w24.cell? ⟨gb130, 0, none⟩ = some (.slice A0_0 l0_0.length c0_0) := (blk_cell BK130.out 0).trans rfl; have hfz25_0 := Zn BK130.out 0) | ((with_reducible refine gate_callee (f := 84) rfl ?_); refine goesL_ (some 11) rfl rfl Tryd.func84 (by kernel_rfl) rfl #[.agg #[.slice A0_0 l0_0.length c0_0]] rfl (by (try simp only [List.map_toArray, List.map_cons, List.map_nil]); first | done | rfl | (simp only [List.length_drop, List.length_take]; rfl)) ?_; (with_reducible refine (spec_DiskOk.calls k _ _ l0_0 false _ ?side1 ?side2 A4.out).mono ?_); (case side1 => repeat (first | exact (C_below HR0_0.out HB.out) | (with_reducible refine C_alloc ?_ _) | (with_reducible refine C_drewN ?_ _) | (with_reducible refine C_drew ?_))); (case side2 => exact HC0_0.out); rintro e w26 ⟨rfl, hb⟩; refine ⟨_, rfl, ?_⟩; have n0_ := Zh (Zm (g := gb130) (o := .cells #[.slice A0_0 l0_0.length c0_0] 28 (0, 0)) Zk hb); have n1_ := Zh (Zl Zs hb); clear BK130; clear HB; have BK130 := n0_; have HB := n1_; clear n0_ n1_; (try clear hb); (try clear hb2); (try clear hk); (try clear hi)))
 go_ret2
 exact ⟨_, by first | rfl | (simp [errW_none, errW_some] <;> rfl) | (simp [*, errW_none, errW_some] <;> rfl), by first | exact R_nil _ _ _ _ _ | exact N_nil _ _ _ _ _ | exact V_nil _ _ _ _ _ | exact Q_nil _ _ _ _ _ | exact S_nil _ _ _ _ _, by repeat (first | (with_reducible first | exact HB.out | apply Zf | apply Zd | apply Ze | refine Zg ?_ GE130.out) | exact HB.out)⟩
end Go.Proofs.YtcgojdhbphocgaaDoor.F

namespace Go.Proofs.YtcgojdhbphocgaaDoor.F
open Go.RowKit Go.Proofs.YtcgojdhbphocgaaDoorW.PrintWords Go.Proofs.YtcgojdhbphocgaaDoorW.PrintWords.Kd Go.Proofs.YtcgojdhbphocgaaDoorW.PrintMore.Kd Go.Proofs.YtcgojdhbphocgaaDoorW.PrintLast Go.Proofs.YtcgojdhbphocgaaDoorW.PrintMore
attribute [local go_sem] max2_int min2_int max_two min_two max_three min_three max_four min_four   -- for this text's walks alone
set_option linter.unusedVariables false
set_option linter.unusedSimpArgs false
def spec_l02Four.f (a0 : Int) : Option (List Int) := some (([(Int.tmod a0 256) % 256, ((Int.tdiv a0 256) % 4294967296) % 256, ((Int.tdiv a0 65536) % 4294967296) % 256, ((Int.tdiv a0 16777216) % 4294967296) % 256] : List Int))
set_option maxHeartbeats 8000000 in
set_option maxRecDepth 100000 in
theorem spec_l02Four.calls (a0 : Int) (r : List Int) (w : World) (h : spec_l02Four.f a0 = some r) :
  Calls Tryd.prog 88 #[.int .u32 a0] w fun e w' => ∃ v0_ : Value, e = .returned (v0_) ∧ Kd.R (Kd.int .u8) 5 w' w.heap.size (fun _ => True) v0_ r ∧ Below w.heap.size w w' := by
 have HB := Zh (Below.refl w.heap.size w)
 have H : (some (([(Int.tmod a0 256) % 256, ((Int.tdiv a0 256) % 4294967296) % 256, ((Int.tdiv a0 65536) % 4294967296) % 256, ((Int.tdiv a0 16777216) % 4294967296) % 256] : List Int))) = some r := h
 clear h
 obtain ⟨y298, hy298⟩ : ∃ y_ : List Int, y_ = (([(Int.tmod a0 256) % 256, ((Int.tdiv a0 256) % 4294967296) % 256, ((Int.tdiv a0 65536) % 4294967296) % 256, ((Int.tdiv a0 16777216) % 4294967296) % 256] : List Int)) := ⟨_, rfl⟩
 replace H : (some y298) = some r := by first | (rw [hy298]; with_reducible exact H) | (have H2_ := (Option.bind_some _ _).symm.trans H; rw [hy298]; with_reducible exact H2_) | (have H2_ := (Option.bind_some _ _).symm.trans H; with_reducible exact H2_) | with_reducible exact H | (rw [hy298]; exact H) | exact H
 have Ny298 := Zh hy298
 clear hy298
 obtain rfl := Option.some.inj H
 go_enter Tryd.func88, Tryd.ntmps88
 go_wp2_with (first | ((with_reducible refine gate_dst (N := 17) rfl ?_); refine R_lit (Kd.int .u8) _ 5 ?hg (N := 17) ?hd (xs := ([(Int.tmod a0 256) % 256, ((Int.tdiv a0 256) % 4294967296) % 256, ((Int.tdiv a0 65536) % 4294967296) % 256, ((Int.tdiv a0 16777216) % 4294967296) % 256] : List Int)) (inner := [.int .u8 ((Int.tmod a0 256) % 256), .int .u8 (((Int.tdiv a0 256) % 4294967296) % 256), .int .u8 (((Int.tdiv a0 65536) % 4294967296) % 256), .int .u8 (((Int.tdiv a0 16777216) % 4294967296) % 256)]) (ok := fun _ => True) (okp := fun _ => True) ?hr ?hp (fun _ hk => hk) trivial (Below.refl _ _) (Nat.le_refl _) (by simp) ?_; (case hd => rfl); (case hg => rfl); (case hr => first | (go_simp; done) | (go_simp; rfl)); (case hp => exact (Reps.one (show Kd.M (Kd.int .u8) _ _ _ ((Int.tmod a0 256) % 256) [.int .u8 ((Int.tmod a0 256) % 256)] from rfl) (Reps.one (show Kd.M (Kd.int .u8) _ _ _ (((Int.tdiv a0 256) % 4294967296) % 256) [.int .u8 (((Int.tdiv a0 256) % 4294967296) % 256)] from rfl) (Reps.one (show Kd.M (Kd.int .u8) _ _ _ (((Int.tdiv a0 65536) % 4294967296) % 256) [.int .u8 (((Int.tdiv a0 65536) % 4294967296) % 256)] from rfl) (Reps.one (show Kd.M (Kd.int .u8) _ _ _ (((Int.tdiv a0 16777216) % 4294967296) % 256) [.int .u8 (((Int.tdiv a0 16777216) % 4294967296) % 256)] from rfl) (Reps.none _ _)))))); intro v299 w2 ho3 hb hg_ hnew_; clear hg_ hnew_; (first | rw [← Ny298.out] at ho3 | (simp only [Int.reduceToNat] at ho3; rw [← Ny298.out] at ho3)); have n0_ := Zh (R_lower ho3 (below_size Zs)); have n1_ := Zh (Zl Zs hb); clear HB; have HO300 := n0_; have HB := n1_; clear n0_ n1_; clear hb ho3))
 go_ret
 exact ⟨_, by first | rfl | (simp [errW_none, errW_some] <;> rfl) | (simp [*, errW_none, errW_some] <;> rfl), by (with_reducible repeat (first | apply R_alloc | apply R_drewN | apply R_drew)); exact HO300.out, by repeat (first | (with_reducible first | exact HB.out | apply Zf | apply Zd | apply Ze) | exact HB.out)⟩
mutual
def spec_Crc32.l0 : Nat → List Int → Int → Int → Option (Int)
 | 0, _, _, _ => none
 | k + 1, x0, x3, x4 => if x4 < (x0.length : Int) then (if 0 ≤ x4 then (spec_Crc32.l1 k x0 (Go.bits .xor .u32 x3 ((rd x0 x4) % 4294967296)) x4 0) else (none)) else (some (Go.bits .xor .u32 x3 4294967295))
def spec_Crc32.l1 : Nat → List Int → Int → Int → Int → Option (Int)
 | 0, _, _, _, _ => none
 | k + 1, x0, x3, x4, x5 => if x5 < 8 then (if (Int.tmod x3 2) = 1 then (spec_Crc32.l1 k x0 (Go.bits .xor .u32 ((Int.tdiv x3 2) % 4294967296) 3988292384) x4 (wrap64 (x5 + 1))) else (spec_Crc32.l1 k x0 ((Int.tdiv x3 2) % 4294967296) x4 (wrap64 (x5 + 1)))) else (spec_Crc32.l0 k x0 x3 (wrap64 (x4 + 1)))
end
def spec_Crc32.f (k : Nat) (l0 : List Int) : Option (Int) := if (l0.length : Int) > 20000 then (some 0) else (spec_Crc32.l0 k l0 4294967295 0)
set_option maxHeartbeats 8000000 in
set_option maxRecDepth 100000 in
theorem spec_Crc32.calls (k : Nat) (A0 : Option Addr) (c0 : Nat) (l0 : List Int) (r : Int) (w : World) (hr0 : Kd.C (Kd.int .u8) w A0 l0.length l0) (hc0 : l0.length ≤ c0) (h : spec_Crc32.f k l0 = some r) :
  Calls Tryd.prog 89 #[.slice A0 l0.length c0] w fun e w' => e = .returned (.int .u32 r) ∧ Drawn0 w w' := by
 have HR0 := Zh hr0
 have HC0 := Zh hc0
 clear hr0 hc0
 have H : (if (l0.length : Int) > 20000 then (some 0) else (spec_Crc32.l0 k l0 4294967295 0)) = some r := h
 clear h
 by_cases c2 : (l0.length : Int) > 20000
 ·
  rw [if_pos c2] at H
  have c2b0 : decide (20000 < (l0.length : Int)) = true := decide_eq_true c2
  have c2b1 : decide (20000 < l0.length) = true := decide_eq_true (by omega)
  clear c2
  obtain rfl := Option.some.inj H
  go_enter Tryd.func89, Tryd.ntmps89
  go_wp2
  go_ret
  exact ⟨by first | rfl | (simp; done) | (simp [*]; done), by repeat (first | exact Drawn0.refl _ | apply Drawn0.step)⟩
 rw [if_neg c2] at H
 have c2b0 : decide (20000 < (l0.length : Int)) = false := decide_eq_false c2
 have c2b1 : decide (20000 < l0.length) = false := decide_eq_false (by omega)
 clear c2
 have H' := Zh H
 clear H
 go_enter Tryd.func89, Tryd.ntmps89
 go_wp2
 go_loopg [3, 4] k (fun kq v3 v4 w' => ∃ (x3_1 : Int) (x4_1 : Int), v3 = .int .u32 x3_1 ∧ v4 = .int .i64 x4_1 ∧ Aside0 (spec_Crc32.l0 kq l0 x3_1 x4_1 = some r) ∧ Aside0 (kq ≤ k) ∧ Drawn0 w w')
 case atStart => exact ⟨(4294967295), (0), (by first | rfl | (simp; done) | (simp [*]; done)), (by first | rfl | (simp; done) | (simp [*]; done)), H', ⟨Nat.le_refl _⟩, by repeat (first | exact Drawn0.refl _ | apply Drawn0.step)⟩
 case round =>
  clear H'
  try clear c2
  try clear c2b0
  try clear c2b1
  try clear p2
  obtain ⟨x3_1, x4_1, rfl, rfl, HA, HK1, ⟨m1, rfl⟩⟩ := hrel
  cases gk with
  | zero => exact absurd HA.out (by simp [spec_Crc32.l0])
  | succ k1 =>
   have H := HA.out
   clear HA
   simp only [spec_Crc32.l0] at H
   by_cases c3 : x4_1 < (l0.length : Int)
   ·
    rw [if_pos c3] at H
    have c3b0 : decide (x4_1 < (l0.length : Int)) = true := decide_eq_true c3
    clear c3
    by_cases c4 : 0 ≤ x4_1
    ·
     rw [if_pos c4] at H
     have c4b0 : decide (0 ≤ x4_1) = true := decide_eq_true c4
     clear c4
     have H' := Zh H
     clear H
     have p301 : 0 ≤ (x4_1 : Int) := Zo
     have q301 : x4_1 < (l0.length : Int) := Zo
     obtain ⟨ad301, e301, hx301_0⟩ := Kd.at_int HR0.out x4_1 p301 q301
     cases e301
     replace p301 := eq_true p301
     replace q301 := eq_true q301
     go_wp2
     go_loopg [3, 5] k1 (fun kq v3 v5 w' => ∃ (x3_2 : Int) (x5_2 : Int), v3 = .int .u32 x3_2 ∧ v5 = .int .i64 x5_2 ∧ Aside0 (spec_Crc32.l1 kq l0 x3_2 x4_1 x5_2 = some r) ∧ Aside0 (kq ≤ k1) ∧ Drawn0 w w')
     case atStart => exact ⟨(Go.bits .xor .u32 x3_1 ((rd l0 x4_1) % 4294967296)), (0), (by first | rfl | (simp; done) | (simp [*]; done)), (by first | rfl | (simp; done) | (simp [*]; done)), H', ⟨Nat.le_refl _⟩, by repeat (first | exact Drawn0.refl _ | apply Drawn0.step)⟩
     case round =>
      clear H'
      try clear c2
      try clear c2b0
      try clear c2b1
      try clear p2
      try clear c3
      try clear c3b0
      try clear p3
      try clear q3
      try clear hx3
      try clear c4
      try clear c4b0
      try clear hx301_0
      try clear p2
      try clear p301
      try clear q301
      obtain ⟨x3_2, x5_2, rfl, rfl, HA, HK2, ⟨m2, rfl⟩⟩ := hrel
      cases gk with
      | zero => exact absurd HA.out (by simp [spec_Crc32.l1])
      | succ k2 =>
       have H := HA.out
       clear HA
       simp only [spec_Crc32.l1] at H
       by_cases c5 : x5_2 < 8
       ·
        rw [if_pos c5] at H
        have c5b0 : decide (x5_2 < 8) = true := decide_eq_true c5
        clear c5
        by_cases c6 : (Int.tmod x3_2 2) = 1
        ·
         rw [if_pos c6] at H
         have c6b0 : ((Int.tmod x3_2 2) == 1) = true := beq_iff_eq.mpr c6
         have c6b1 : ((Int.tmod x3_2 2) != 1) = false := bne_eq_false_iff_eq.mpr c6
         clear c6
         have H' := Zh H
         clear H
         go_wp2
         go_roundg k2
         case measure => have := HK1.out; have := HK2.out; omega
         case rel => exact ⟨(Go.bits .xor .u32 ((Int.tdiv x3_2 2) % 4294967296) 3988292384), (wrap64 (x5_2 + 1)), (by first | rfl | (simp; done) | (simp [*]; done)), (by first | rfl | (simp; done) | (simp [*]; done)), H', ⟨by have := HK1.out; have := HK2.out; omega⟩, by repeat (first | exact Drawn0.refl _ | apply Drawn0.step)⟩
        rw [if_neg c6] at H
        have c6b0 : ((Int.tmod x3_2 2) == 1) = false := beq_eq_false_iff_ne.mpr c6
        have c6b1 : ((Int.tmod x3_2 2) != 1) = true := bne_iff_ne.mpr c6
        have H' := Zh H
        clear H
        go_wp2
        go_roundg k2
        case measure => have := HK1.out; have := HK2.out; omega
        case rel => exact ⟨((Int.tdiv x3_2 2) % 4294967296), (wrap64 (x5_2 + 1)), (by first | rfl | (simp; done) | (simp [*]; done)), (by first | rfl | (simp; done) | (simp [*]; done)), H', ⟨by have := HK1.out; have := HK2.out; omega⟩, by repeat (first | exact Drawn0.refl _ | apply Drawn0.step)⟩
       rw [if_neg c5] at H
       have c5b0 : decide (x5_2 < 8) = false := decide_eq_false c5
       clear c5
       have H' := Zh H
       clear H
       go_wp2
       go_roundg k2
       case measure => have := HK1.out; have := HK2.out; omega
       case rel => exact ⟨(x3_2), (wrap64 (x4_1 + 1)), (by first | rfl | (simp; done) | (simp [*]; done)), (by first | rfl | (simp; done) | (simp [*]; done)), H', ⟨by have := HK1.out; have := HK2.out; omega⟩, by repeat (first | exact Drawn0.refl _ | apply Drawn0.step)⟩
    rw [if_neg c4] at H
    exact absurd H (by simp)
   rw [if_neg c3] at H
   have c3b0 : decide (x4_1 < (l0.length : Int)) = false := decide_eq_false c3
   clear c3
   obtain rfl := Option.some.inj H
   go_wp2
   go_ret
   exact ⟨by first | rfl | (simp; done) | (simp [*]; done), by repeat (first | exact Drawn0.refl _ | apply Drawn0.step)⟩
def spec_Frame.f (k : Nat) (l0 : List Int) : Option (List Int) := (spec_l01In.f (l0.length : Int) 1 600).bind fun t302 => (if t302 = true then ((spec_l02Four.f (((l0.length : Int)) % 4294967296)).bind fun t303 => ((spec_Crc32.f k l0).bind fun t306 => ((spec_l02Four.f t306).bind fun t307 => ((spec_l01Join.f k t303 t307).bind fun t310 => ((spec_l01Join.f k t310 l0).bind fun t313 => (some t313)))))) else (some ([] : List Int)))
set_option maxHeartbeats 8000000 in
set_option maxRecDepth 100000 in
theorem spec_Frame.calls (k : Nat) (A0 : Option Addr) (c0 : Nat) (l0 : List Int) (r : List Int) (w : World) (hr0 : Kd.C (Kd.int .u8) w A0 l0.length l0) (hc0 : l0.length ≤ c0) (h : spec_Frame.f k l0 = some r) :
  Calls Tryd.prog 58 #[.slice A0 l0.length c0] w fun e w' => ∃ v0_ : Value, e = .returned (v0_) ∧ Kd.R (Kd.int .u8) 5 w' w.heap.size (fun _ => True) v0_ r ∧ Below w.heap.size w w' := by
 have HR0 := Zh hr0
 have HC0 := Zh hc0
 clear hr0 hc0
 have HB := Zh (Below.refl w.heap.size w)
 have H : ((spec_l01In.f (l0.length : Int) 1 600).bind fun t302 => (if t302 = true then ((spec_l02Four.f (((l0.length : Int)) % 4294967296)).bind fun t303 => ((spec_Crc32.f k l0).bind fun t306 => ((spec_l02Four.f t306).bind fun t307 => ((spec_l01Join.f k t303 t307).bind fun t310 => ((spec_l01Join.f k t310 l0).bind fun t313 => (some t313)))))) else (some ([] : List Int)))) = some r := h
 clear h
 replace H := Option.bind_eq_some_iff.mp H
 obtain ⟨t302, A20, H⟩ := H
 replace H : (if t302 = true then ((spec_l02Four.f (((l0.length : Int)) % 4294967296)).bind fun t303 => ((spec_Crc32.f k l0).bind fun t306 => ((spec_l02Four.f t306).bind fun t307 => ((spec_l01Join.f k t303 t307).bind fun t310 => ((spec_l01Join.f k t310 l0).bind fun t313 => (some t313)))))) else (some ([] : List Int))) = some r := H
 have A2 := Zh A20
 clear A20
 by_cases c3 : t302 = true
 ·
  subst c3
  have H1 : ((spec_l02Four.f (((l0.length : Int)) % 4294967296)).bind fun t303 => ((spec_Crc32.f k l0).bind fun t306 => ((spec_l02Four.f t306).bind fun t307 => ((spec_l01Join.f k t303 t307).bind fun t310 => ((spec_l01Join.f k t310 l0).bind fun t313 => (some t313)))))) = some r := by rw [if_pos rfl] at H; exact H
  clear H
  have H := H1
  clear H1
  replace H := Option.bind_eq_some_iff.mp H
  obtain ⟨t303, A40, H⟩ := H
  replace H : ((spec_Crc32.f k l0).bind fun t306 => ((spec_l02Four.f t306).bind fun t307 => ((spec_l01Join.f k t303 t307).bind fun t310 => ((spec_l01Join.f k t310 l0).bind fun t313 => (some t313))))) = some r := H
  have A4 := Zh A40
  clear A40
  replace H := Option.bind_eq_some_iff.mp H
  obtain ⟨t306, A50, H⟩ := H
  replace H : ((spec_l02Four.f t306).bind fun t307 => ((spec_l01Join.f k t303 t307).bind fun t310 => ((spec_l01Join.f k t310 l0).bind fun t313 => (some t313)))) = some r := H
  have A5 := Zh A50
  clear A50
  replace H := Option.bind_eq_some_iff.mp H
  obtain ⟨t307, A60, H⟩ := H
  replace H : ((spec_l01Join.f k t303 t307).bind fun t310 => ((spec_l01Join.f k t310 l0).bind fun t313 => (some t313))) = some r := H
  have A6 := Zh A60
  clear A60
  replace H := Option.bind_eq_some_iff.mp H
  obtain ⟨t310, A70, H⟩ := H
  replace H : ((spec_l01Join.f k t310 l0).bind fun t313 => (some t313)) = some r := H
  have A7 := Zh A70
  clear A70
  replace H := Option.bind_eq_some_iff.mp H
  obtain ⟨t313, A80, H⟩ := H
  replace H : (some t313) = some r := H
  have A8 := Zh A80
  clear A80
  obtain rfl := Option.some.inj H
  go_enter Tryd.func58, Tryd.ntmps58
  go_wp2_with (first | ((with_reducible refine gate_callee (f := 62) rfl ?_); refine goesL_ (some 5) rfl rfl Tryd.func62 (by kernel_rfl) rfl #[.int .i64 (l0.length : Int), .int .i64 1, .int .i64 600] rfl (by (try simp only [List.map_toArray, List.map_cons, List.map_nil]); first | done | rfl | (simp only [List.length_drop, List.length_take]; rfl)) ?_; (with_reducible refine (spec_l01In.calls (l0.length : Int) 1 600 true _ A2.out).mono ?_); rintro e w' ⟨rfl, ⟨nd, rfl⟩⟩; refine ⟨_, rfl, ?_⟩) | ((with_reducible refine gate_callee (f := 88) rfl ?_); refine goesL_ (some 10) rfl rfl Tryd.func88 (by kernel_rfl) rfl #[.int .u32 (((l0.length : Int)) % 4294967296)] rfl (by (try simp only [List.map_toArray, List.map_cons, List.map_nil]); first | done | rfl | (simp only [List.length_drop, List.length_take]; rfl)) ?_; (with_reducible refine (spec_l02Four.calls (((l0.length : Int)) % 4294967296) t303 _ A4.out).mono ?_); rintro e w9 ⟨v304, rfl, ho0, hb⟩; refine ⟨_, rfl, ?_⟩; have n0_ := Zh (R_lower ho0 (below_size Zs)); have n1_ := Zh (Zl Zs hb); clear HB; have HO305 := n0_; have HB := n1_; clear n0_ n1_; (try clear hb); (try clear hb2); (try clear hk); (try clear hi); (try clear ho0)) | ((with_reducible refine gate_callee (f := 89) rfl ?_); refine goesL_ (some 12) rfl rfl Tryd.func89 (by kernel_rfl) rfl #[.slice A0 l0.length c0] rfl (by (try simp only [List.map_toArray, List.map_cons, List.map_nil]); first | done | rfl | (simp only [List.length_drop, List.length_take]; rfl)) ?_; (with_reducible refine (spec_Crc32.calls k _ _ l0 t306 _ ?side1 ?side2 A5.out).mono ?_); (case side1 => repeat (first | exact (C_below HR0.out HB.out) | (with_reducible refine C_alloc ?_ _) | (with_reducible refine C_drewN ?_ _) | (with_reducible refine C_drew ?_))); (case side2 => exact HC0.out); rintro e w' ⟨rfl, ⟨nd, rfl⟩⟩; refine ⟨_, rfl, ?_⟩) | ((with_reducible refine gate_callee (f := 88) rfl ?_); refine goesL_ (some 13) rfl rfl Tryd.func88 (by kernel_rfl) rfl #[.int .u32 t306] rfl (by (try simp only [List.map_toArray, List.map_cons, List.map_nil]); first | done | rfl | (simp only [List.length_drop, List.length_take]; rfl)) ?_; (with_reducible refine (spec_l02Four.calls t306 t307 _ A6.out).mono ?_); rintro e w10 ⟨v308, rfl, ho0, hb⟩; refine ⟨_, rfl, ?_⟩; have n0_ := Zh (R_elder' (by (with_reducible repeat (first | apply R_alloc | apply R_drewN | apply R_drew)); exact HO305.out) (R_base ho0) hb); have n1_ := Zh (R_lower (R_new' ho0 (R_lt (by (with_reducible repeat (first | apply R_alloc | apply R_drewN | apply R_drew)); exact HO305.out))) (below_size Zs)); have n2_ := Zh (Zl Zs hb); clear HO305; clear HB; have HO305 := n0_; have HO309 := n1_; have HB := n2_; clear n0_ n1_ n2_; (try clear hb); (try clear hb2); (try clear hk); (try clear hi); (try clear ho0); obtain ⟨Ao11, co11, eo11⟩ := R_slice HO305.out; subst eo11; obtain ⟨Ao12, co12, eo12⟩ := R_slice HO309.out; subst eo12) | ((with_reducible refine gate_callee (f := 85) rfl ?_); refine goesL_ (some 14) rfl rfl Tryd.func85 (by kernel_rfl) rfl #[.slice Ao11 t303.length co11, .slice Ao12 t307.length co12] rfl (by (try simp only [List.map_toArray, List.map_cons, List.map_nil]); first | done | rfl | (simp only [List.length_drop, List.length_take]; rfl)) ?_; (with_reducible refine (spec_l01Join.calls k _ _ t303 _ _ t307 t310 _ ?side1 ?side2 ?side3 ?side4 A7.out).mono ?_); (case side1 => repeat (first | exact (R_reads' HO305.out).2.2 | (with_reducible refine C_alloc ?_ _) | (with_reducible refine C_drewN ?_ _) | (with_reducible refine C_drew ?_))); (case side2 => exact (R_reads' HO305.out).2.1); (case side3 => repeat (first | exact (R_reads' HO309.out).2.2 | (with_reducible refine C_alloc ?_ _) | (with_reducible refine C_drewN ?_ _) | (with_reducible refine C_drew ?_))); (case side4 => exact (R_reads' HO309.out).2.1); rintro e w13 ⟨v311, rfl, ho0, hb⟩; refine ⟨_, rfl, ?_⟩; have n0_ := Zh (R_elder' (by (with_reducible repeat (first | apply R_alloc | apply R_drewN | apply R_drew)); exact HO305.out) (R_base ho0) hb); have n1_ := Zh (R_elder' (by (with_reducible repeat (first | apply R_alloc | apply R_drewN | apply R_drew)); exact HO309.out) (R_base ho0) hb); have n2_ := Zh (R_lower (R_new' (R_new' ho0 (R_lt (by (with_reducible repeat (first | apply R_alloc | apply R_drewN | apply R_drew)); exact HO305.out))) (R_lt (by (with_reducible repeat (first | apply R_alloc | apply R_drewN | apply R_drew)); exact HO309.out))) (below_size Zs)); have n3_ := Zh (Zl Zs hb); clear HO305; clear HO309; clear HB; have HO305 := n0_; have HO309 := n1_; have HO312 := n2_; have HB := n3_; clear n0_ n1_ n2_ n3_; (try clear hb); (try clear hb2); (try clear hk); (try clear hi); (try clear ho0); obtain ⟨Ao14, co14, eo14⟩ := R_slice HO312.out; subst eo14) | ((with_reducible refine gate_callee (f := 85) rfl ?_); refine goesL_ (some 16) rfl rfl Tryd.func85 (by kernel_rfl) rfl #[.slice Ao14 t310.length co14, .slice A0 l0.length c0] rfl (by (try simp only [List.map_toArray, List.map_cons, List.map_nil]); first | done | rfl | (simp only [List.length_drop, List.length_take]; rfl)) ?_; (with_reducible refine (spec_l01Join.calls k _ _ t310 _ _ l0 t313 _ ?side1 ?side2 ?side3 ?side4 A8.out).mono ?_); (case side1 => repeat (first | exact (R_reads' HO312.out).2.2 | (with_reducible refine C_alloc ?_ _) | (with_reducible refine C_drewN ?_ _) | (with_reducible refine C_drew ?_))); (case side2 => exact (R_reads' HO312.out).2.1); (case side3 => repeat (first | exact (C_below HR0.out HB.out) | (with_reducible refine C_alloc ?_ _) | (with_reducible refine C_drewN ?_ _) | (with_reducible refine C_drew ?_))); (case side4 => exact HC0.out); rintro e w15 ⟨v314, rfl, ho0, hb⟩; refine ⟨_, rfl, ?_⟩; have n0_ := Zh (R_elder' (by (with_reducible repeat (first | apply R_alloc | apply R_drewN | apply R_drew)); exact HO305.out) (R_base ho0) hb); have n1_ := Zh (R_elder' (by (with_reducible repeat (first | apply R_alloc | apply R_drewN | apply R_drew)); exact HO309.out) (R_base ho0) hb); have n2_ := Zh (R_elder' (by (with_reducible repeat (first | apply R_alloc | apply R_drewN | apply R_drew)); exact HO312.out) (R_base ho0) hb); have n3_ := Zh (R_lower (R_new' (R_new' (R_new' ho0 (R_lt (by (with_reducible repeat (first | apply R_alloc | apply R_drewN | apply R_drew)); exact HO305.out))) (R_lt (by (with_reducible repeat (first | apply R_alloc | apply R_drewN | apply R_drew)); exact HO309.out))) (R_lt (by (with_reducible repeat (first | apply R_alloc | apply R_drewN | apply R_drew)); exact HO312.out))) (below_size Zs)); have n4_ := Zh (Zl Zs hb); clear HO305; clear HO309; clear HO312; clear HB; have HO305 := n0_; have HO309 := n1_; have HO312 := n2_; have HO315 := n3_; have HB := n4_; clear n0_ n1_ n2_ n3_ n4_; (try clear hb); (try clear hb2); (try clear hk); (try clear hi); (try clear ho0)))
  go_ret
  exact ⟨_, by first | rfl | (simp [errW_none, errW_some] <;> rfl) | (simp [*, errW_none, errW_some] <;> rfl), by (with_reducible repeat (first | apply R_alloc | apply R_drewN | apply R_drew)); exact R_mono HO315.out (fun _ hk => trivial), by repeat (first | (with_reducible first | exact HB.out | apply Zf | apply Zd | apply Ze) | exact HB.out)⟩
 replace c3 := Bool.eq_false_iff.mpr c3
 subst c3
 have H1 : (some ([] : List Int)) = some r := by rw [if_neg (show ¬ (false = true) by decide)] at H; exact H
 clear H
 have H := H1
 clear H1
 obtain rfl := Option.some.inj H
 go_enter Tryd.func58, Tryd.ntmps58
 go_wp2_with (first | ((with_reducible refine gate_callee (f := 62) rfl ?_); refine goesL_ (some 5) rfl rfl Tryd.func62 (by kernel_rfl) rfl #[.int .i64 (l0.length : Int), .int .i64 1, .int .i64 600] rfl (by (try simp only [List.map_toArray, List.map_cons, List.map_nil]); first | done | rfl | (simp only [List.length_drop, List.length_take]; rfl)) ?_; (with_reducible refine (spec_l01In.calls (l0.length : Int) 1 600 false _ A2.out).mono ?_); rintro e w' ⟨rfl, ⟨nd, rfl⟩⟩; refine ⟨_, rfl, ?_⟩))
 go_ret
 exact ⟨_, by first | rfl | (simp [errW_none, errW_some] <;> rfl) | (simp [*, errW_none, errW_some] <;> rfl), by first | exact R_nil _ _ _ _ _ | exact N_nil _ _ _ _ _ | exact V_nil _ _ _ _ _ | exact Q_nil _ _ _ _ _ | exact S_nil _ _ _ _ _, by repeat (first | (with_reducible first | exact HB.out | apply Zf | apply Zd | apply Ze) | exact HB.out)⟩
def spec_l01Same.l0 : Nat → List Int → List Int → Int → Option (Bool)
 | 0, _, _, _ => none
 | k + 1, x0, x1, x5 => if x5 < (x0.length : Int) then (if 0 ≤ x5 then (if x5 < (x1.length : Int) then (if (rd x0 x5) = (rd x1 x5) then (spec_l01Same.l0 k x0 x1 (wrap64 (x5 + 1))) else (some false)) else (none)) else (none)) else (some true)
def spec_l01Same.f (k : Nat) (l0 : List Int) (l1 : List Int) : Option (Bool) := if (l0.length : Int) = (l1.length : Int) then (spec_l01Same.l0 k l0 l1 0) else (some false)
set_option maxHeartbeats 8000000 in
set_option maxRecDepth 100000 in
theorem spec_l01Same.calls (k : Nat) (A0 : Option Addr) (c0 : Nat) (l0 : List Int) (A1 : Option Addr) (c1 : Nat) (l1 : List Int) (r : Bool) (w : World) (hr0 : Kd.C (Kd.int .u8) w A0 l0.length l0) (hc0 : l0.length ≤ c0) (hr1 : Kd.C (Kd.int .u8) w A1 l1.length l1) (hc1 : l1.length ≤ c1) (h : spec_l01Same.f k l0 l1 = some r) :
  Calls Tryd.prog 86 #[.slice A0 l0.length c0, .slice A1 l1.length c1] w fun e w' => e = .returned (.bool r) ∧ Drawn0 w w' := by
 have HR0 := Zh hr0
 have HC0 := Zh hc0
 clear hr0 hc0
 have HR1 := Zh hr1
 have HC1 := Zh hc1
 clear hr1 hc1
 have H : (if (l0.length : Int) = (l1.length : Int) then (spec_l01Same.l0 k l0 l1 0) else (some false)) = some r := h
 clear h
 by_cases c3 : (l0.length : Int) = (l1.length : Int)
 ·
  rw [if_pos c3] at H
  have c3b0 : ((l0.length : Int) == (l1.length : Int)) = true := beq_iff_eq.mpr c3
  have c3b1 : ((l0.length : Int) != (l1.length : Int)) = false := bne_eq_false_iff_eq.mpr c3
  have c3b2 : (l0.length == l1.length) = true := by first | simpa using c3 | (simp at c3 ⊢; omega)
  clear c3
  have H' := Zh H
  clear H
  go_enter Tryd.func86, Tryd.ntmps86
  go_wp2
  repeat (go_quiet (fail); try go_wp2)
  go_loopg [5] k (fun kq v5 w' => ∃ (x5_1 : Int), v5 = .int .i64 x5_1 ∧ Aside0 (spec_l01Same.l0 kq l0 l1 x5_1 = some r) ∧ Aside0 (kq ≤ k) ∧ Drawn0 w w')
  case atStart => exact ⟨(0), (by first | rfl | (simp; done) | (simp [*]; done)), H', ⟨Nat.le_refl _⟩, by repeat (first | exact Drawn0.refl _ | apply Drawn0.step)⟩
  case round =>
   clear H'
   try clear c1
   try clear p2
   try clear c3
   try clear c3b0
   try clear c3b1
   try clear c3b2
   obtain ⟨x5_1, rfl, HA, HK1, ⟨m1, rfl⟩⟩ := hrel
   cases gk with
   | zero => exact absurd HA.out (by simp [spec_l01Same.l0])
   | succ k1 =>
    have H := HA.out
    clear HA
    simp only [spec_l01Same.l0] at H
    by_cases c4 : x5_1 < (l0.length : Int)
    ·
     rw [if_pos c4] at H
     have c4b0 : decide (x5_1 < (l0.length : Int)) = true := decide_eq_true c4
     clear c4
     by_cases c5 : 0 ≤ x5_1
     ·
      rw [if_pos c5] at H
      have c5b0 : decide (0 ≤ x5_1) = true := decide_eq_true c5
      clear c5
      by_cases c6 : x5_1 < (l1.length : Int)
      ·
       rw [if_pos c6] at H
       have c6b0 : decide (x5_1 < (l1.length : Int)) = true := decide_eq_true c6
       clear c6
       by_cases c7 : (rd l0 x5_1) = (rd l1 x5_1)
       ·
        rw [if_pos c7] at H
        have c7b0 : ((rd l0 x5_1) == (rd l1 x5_1)) = true := beq_iff_eq.mpr c7
        have c7b1 : ((rd l0 x5_1) != (rd l1 x5_1)) = false := bne_eq_false_iff_eq.mpr c7
        clear c7
        have H' := Zh H
        clear H
        have p316 : 0 ≤ (x5_1 : Int) := Zo
        have q316 : x5_1 < (l0.length : Int) := Zo
        obtain ⟨ad316, e316, hx316_0⟩ := Kd.at_int HR0.out x5_1 p316 q316
        cases e316
        replace p316 := eq_true p316
        replace q316 := eq_true q316
        have p317 : 0 ≤ (x5_1 : Int) := Zo
        have q317 : x5_1 < (l1.length : Int) := Zo
        obtain ⟨ad317, e317, hx317_0⟩ := Kd.at_int HR1.out x5_1 p317 q317
        cases e317
        replace p317 := eq_true p317
        replace q317 := eq_true q317
        go_wp2
        repeat (go_quiet (fail); try go_wp2)
        go_roundg k1
        case measure => have := HK1.out; omega
        case rel => exact ⟨(wrap64 (x5_1 + 1)), (by first | rfl | (simp; done) | (simp [*]; done)), H', ⟨by have := HK1.out; omega⟩, by repeat (first | exact Drawn0.refl _ | apply Drawn0.step)⟩
       rw [if_neg c7] at H
       have c7b0 : ((rd l0 x5_1) == (rd l1 x5_1)) = false := beq_eq_false_iff_ne.mpr c7
       have c7b1 : ((rd l0 x5_1) != (rd l1 x5_1)) = true := bne_iff_ne.mpr c7
       obtain rfl := Option.some.inj H
       have p316 : 0 ≤ (x5_1 : Int) := Zo
       have q316 : x5_1 < (l0.length : Int) := Zo
       obtain ⟨ad316, e316, hx316_0⟩ := Kd.at_int HR0.out x5_1 p316 q316
       cases e316
       replace p316 := eq_true p316
       replace q316 := eq_true q316
       have p317 : 0 ≤ (x5_1 : Int) := Zo
       have q317 : x5_1 < (l1.length : Int) := Zo
       obtain ⟨ad317, e317, hx317_0⟩ := Kd.at_int HR1.out x5_1 p317 q317
       cases e317
       replace p317 := eq_true p317
       replace q317 := eq_true q317
       go_wp2
       repeat (go_quiet (fail); try go_wp2)
       go_ret
       exact ⟨by first | rfl | (simp; done) | (simp [*]; done), by repeat (first | exact Drawn0.refl _ | apply Drawn0.step)⟩
      rw [if_neg c6] at H
      exact absurd H (by simp)
     rw [if_neg c5] at H
     exact absurd H (by simp)
    rw [if_neg c4] at H
    have c4b0 : decide (x5_1 < (l0.length : Int)) = false := decide_eq_false c4
    clear c4
    obtain rfl := Option.some.inj H
    go_wp2
    repeat (go_quiet (fail); try go_wp2)
    go_ret
    exact ⟨by first | rfl | (simp; done) | (simp [*]; done), by repeat (first | exact Drawn0.refl _ | apply Drawn0.step)⟩
 rw [if_neg c3] at H
 have c3b0 : ((l0.length : Int) == (l1.length : Int)) = false := beq_eq_false_iff_ne.mpr c3
 have c3b1 : ((l0.length : Int) != (l1.length : Int)) = true := bne_iff_ne.mpr c3
 have c3b2 : (l0.length == l1.length) = false := by first | simpa using c3 | (simp at c3 ⊢; omega)
 obtain rfl := Option.some.inj H
 go_enter Tryd.func86, Tryd.ntmps86
 go_wp2
 repeat (go_quiet (fail); try go_wp2)
 go_ret
 exact ⟨by first | rfl | (simp; done) | (simp [*]; done), by repeat (first | exact Drawn0.refl _ | apply Drawn0.step)⟩
end Go.Proofs.YtcgojdhbphocgaaDoor.F

namespace Go.Proofs.YtcgojdhbphocgaaDoor.F
open Go.Proofs.YtcgojdhbphocgaaDoor
open Go.RowKit Go.Proofs.YtcgojdhbphocgaaDoorW.PrintWords Go.Proofs.YtcgojdhbphocgaaDoorW.PrintWords.Kd Go.Proofs.YtcgojdhbphocgaaDoorW.PrintMore.Kd Go.Proofs.YtcgojdhbphocgaaDoorW.PrintLast Go.Proofs.YtcgojdhbphocgaaDoorW.PrintMore
attribute [local go_sem] max2_int min2_int max_two min_two max_three min_three max_four min_four   -- for this text's walks alone
set_option linter.unusedVariables false
set_option linter.unusedSimpArgs false
def spec_l02One.j0 : Nat → List Int → Bool → Option (List Int)
 | 0, _, _ => none
 | k + 1, x0, x18 => if x18 = true then (some ([] : List Int)) else (if 0 < (x0.length : Int) then (if 1 < (x0.length : Int) then ((spec_l01In.f (wrap64 ((wrap64 (rd x0 0)) + (wrap64 (256 * (wrap64 (rd x0 1)))))) 1 600).bind fun t322 => (if t322 = true then (if (wrap64 ((wrap64 (rd x0 0)) + (wrap64 (256 * (wrap64 (rd x0 1)))))) > (wrap64 ((x0.length : Int) - 8)) then (some ([] : List Int)) else (if 8 ≤ (wrap64 (8 + (wrap64 ((wrap64 (rd x0 0)) + (wrap64 (256 * (wrap64 (rd x0 1)))))))) then (if (wrap64 (8 + (wrap64 ((wrap64 (rd x0 0)) + (wrap64 (256 * (wrap64 (rd x0 1)))))))) ≤ (x0.length : Int) then ((spec_Frame.f k ((x0.take ((wrap64 (8 + (wrap64 ((wrap64 (rd x0 0)) + (wrap64 (256 * (wrap64 (rd x0 1)))))))) : Int).toNat).drop 8)).bind fun t324 => (if 0 ≤ (wrap64 (8 + (wrap64 ((wrap64 (rd x0 0)) + (wrap64 (256 * (wrap64 (rd x0 1)))))))) then ((spec_l01Same.f k t324 (x0.take ((wrap64 (8 + (wrap64 ((wrap64 (rd x0 0)) + (wrap64 (256 * (wrap64 (rd x0 1)))))))) : Int).toNat)).bind fun t328 => (if t328 = true then ((spec_l01Bytes.f k ((x0.take ((wrap64 (8 + (wrap64 ((wrap64 (rd x0 0)) + (wrap64 (256 * (wrap64 (rd x0 1)))))))) : Int).toNat).drop 8)).bind fun t330 => (some t330)) else (some ([] : List Int)))) else (none))) else (none)) else (none))) else (some ([] : List Int)))) else (none)) else (none))
def spec_l02One.f (k : Nat) (l0 : List Int) : Option (List Int) := if (l0.length : Int) < 9 then (spec_l02One.j0 k l0 true) else (if 2 < (l0.length : Int) then (if (rd l0 2) = 0 then (if 3 < (l0.length : Int) then (spec_l02One.j0 k l0 ((rd l0 3) != 0)) else (none)) else (spec_l02One.j0 k l0 true)) else (none))
def spec_l02One.T3 : Bool × List (List Nat × List Nat) := (true, [([], []), ([0], [0]), ([1], [1]), ([2], [2]), ([], []), ([4], [4]), ([5], [5]), ([6], [6]), ([7], [7]), ([3, 8], [3, 8]), ([9, 0, 1, 2, 3, 4, 5, 6, 7, 8, 9], [9])])
def spec_l02One.B3 : List Nat := [0, 1, 3, 7, 0, 16, 48, 112, 240, 511, 1023]
theorem spec_l02One.tab3 : rtab .any (opsOf Tryd.f52 3) = spec_l02One.T3 := by kernel_rfl
theorem spec_l02One.bits3 : waitsOk spec_l02One.T3.2 spec_l02One.B3 = true := by kernel_rfl
def spec_l02One.T4 : Bool × List (List Nat × List Nat) := (true, [([], []), ([0], [0]), ([1], [1]), ([2, 1], [2]), ([3], [3]), ([3], [3]), ([5, 3], [3, 5]), ([6, 3], [3, 6]), ([4, 7, 3], [3, 4, 7]), ([3, 8], [3, 8]), ([9, 3], [9]), ([10], [10]), ([10], [10]), ([12, 10], [10, 12]), ([11, 13, 10], [10, 11, 13]), ([14, 10, 10], [10, 14]), ([10], [10]), ([10], [10]), ([17, 10], [10, 17]), ([16, 18, 10], [10, 16, 18]), ([15, 19, 15, 10], [10, 15, 19]), ([20, 10], [10, 20]), ([10, 21], [10, 21])])
def spec_l02One.B4 : List Nat := [0, 1, 3, 7, 15, 15, 47, 111, 255, 511, 1023, 2047, 2047, 6143, 16383, 32767, 2047, 2047, 133119, 460799, 1048575, 2097151, 4194303]
theorem spec_l02One.tab4 : rtab .any (opsOf Tryd.f52 4) = spec_l02One.T4 := by kernel_rfl
theorem spec_l02One.bits4 : waitsOk spec_l02One.T4.2 spec_l02One.B4 = true := by kernel_rfl
set_option maxHeartbeats 8000000 in
set_option maxRecDepth 100000 in
theorem spec_l02One.calls (k : Nat) (A0 : Option Addr) (c0 : Nat) (l0 : List Int) (r : List Int) (w : World) (hr0 : Kd.C (Kd.int .u8) w A0 l0.length l0) (hc0 : l0.length ≤ c0) (h : spec_l02One.f k l0 = some r) :
  Calls Tryd.prog 52 #[.slice A0 l0.length c0] w fun e w' => ∃ v0_ : Value, e = .returned (v0_) ∧ Kd.R (Kd.int .u8) 5 w' w.heap.size (fun _ => True) v0_ r ∧ Below w.heap.size w w' := by
 have HR0 := Zh hr0
 have HC0 := Zh hc0
 clear hr0 hc0
 have HB := Zh (Below.refl w.heap.size w)
 have H : (if (l0.length : Int) < 9 then (spec_l02One.j0 k l0 true) else (if 2 < (l0.length : Int) then (if (rd l0 2) = 0 then (if 3 < (l0.length : Int) then (spec_l02One.j0 k l0 ((rd l0 3) != 0)) else (none)) else (spec_l02One.j0 k l0 true)) else (none))) = some r := h
 clear h
 have HC2 := Zh H
 clear H
 go_enter Tryd.func52, Tryd.ntmps52
 go_upto_region 1 with (fail)
 go_cut [18] (fun v18 wc => ∃ (kq : Nat) (x18_1 : Bool), v18 = .bool x18_1 ∧ Aside0 (spec_l02One.j0 kq l0 x18_1 = some r) ∧ Aside0 (kq ≤ k) ∧ Aside0 (Below w.heap.size w wc))
 case first =>
  have H := HC2.out
  clear HC2
  by_cases c3 : (l0.length : Int) < 9
  ·
   rw [if_pos c3] at H
   have c3b0 : decide ((l0.length : Int) < 9) = true := decide_eq_true c3
   have c3b1 : decide (l0.length < 9) = true := decide_eq_true (by omega)
   clear c3
   (first | rw [c3b0] | (simp only [i64_w, i32_w]; rw [c3b0]) | skip)
   have H' := Zh H
   clear H
   go_wp2
   go_meet
   case rel => exact ⟨_, (true), (by first | rfl | (simp; done) | (simp [*]; done)), H', ⟨by first | omega | exact Nat.le_refl _⟩, ⟨by repeat (first | (with_reducible first | exact HB.out | apply Zf | apply Zd | apply Ze) | exact HB.out)⟩⟩
  rw [if_neg c3] at H
  have c3b0 : decide ((l0.length : Int) < 9) = false := decide_eq_false c3
  have c3b1 : decide (l0.length < 9) = false := decide_eq_false (by omega)
  clear c3
  (first | rw [c3b0] | (simp only [i64_w, i32_w]; rw [c3b0]) | skip)
  by_cases c4 : 2 < (l0.length : Int)
  ·
   rw [if_pos c4] at H
   have c4b0 : decide (2 < (l0.length : Int)) = true := decide_eq_true c4
   have c4b1 : decide (2 < l0.length) = true := decide_eq_true (by omega)
   clear c4
   by_cases c5 : (rd l0 2) = 0
   ·
    rw [if_pos c5] at H
    have c5b0 : ((rd l0 2) == 0) = true := beq_iff_eq.mpr c5
    have c5b1 : ((rd l0 2) != 0) = false := bne_eq_false_iff_eq.mpr c5
    clear c5
    by_cases c6 : 3 < (l0.length : Int)
    ·
     rw [if_pos c6] at H
     have c6b0 : decide (3 < (l0.length : Int)) = true := decide_eq_true c6
     have c6b1 : decide (3 < l0.length) = true := decide_eq_true (by omega)
     clear c6
     have H' := Zh H
     clear H
     have p318 : 0 ≤ (2 : Int) := (by omega)
     have q318 : 2 < (l0.length : Int) := Zo
     obtain ⟨ad318, e318, hx318_0⟩ := Kd.at_int HR0.out 2 p318 q318
     cases e318
     (try simp only [show (2 : Int).toNat = 2 from rfl, Nat.reduceMul, Nat.reduceEqDiff, Go.Addr.add, ↓reduceIte] at hx318_0)
     have qi318 : (2 < l0.length) = True := eq_true (by omega)
     (try rw [show ((2 : Int)).toNat = 2 from rfl] at hx318_0)
     replace hx318_0 := Zc HB.out hx318_0
     replace p318 := eq_true p318
     replace q318 := eq_true q318
     have p319 : 0 ≤ (3 : Int) := (by omega)
     have q319 : 3 < (l0.length : Int) := Zo
     obtain ⟨ad319, e319, hx319_0⟩ := Kd.at_int HR0.out 3 p319 q319
     obtain rfl : ad318 = ad319 := (by injection e319)
     (try simp only [show (3 : Int).toNat = 3 from rfl, Nat.reduceMul, Nat.reduceEqDiff, Go.Addr.add, ↓reduceIte] at hx319_0)
     have qi319 : (3 < l0.length) = True := eq_true (by omega)
     (try rw [show ((3 : Int)).toNat = 3 from rfl] at hx319_0)
     replace hx319_0 := Zc HB.out hx319_0
     replace p319 := eq_true p319
     replace q319 := eq_true q319
     go_wp2
     go_meet
     case rel => exact ⟨_, (((rd l0 3) != 0)), (by first | rfl | (simp; done) | (simp [*]; done)), H', ⟨by first | omega | exact Nat.le_refl _⟩, ⟨by repeat (first | (with_reducible first | exact HB.out | apply Zf | apply Zd | apply Ze) | exact HB.out)⟩⟩
    rw [if_neg c6] at H
    exact absurd H (by simp)
   rw [if_neg c5] at H
   have c5b0 : ((rd l0 2) == 0) = false := beq_eq_false_iff_ne.mpr c5
   have c5b1 : ((rd l0 2) != 0) = true := bne_iff_ne.mpr c5
   have H' := Zh H
   clear H
   have p318 : 0 ≤ (2 : Int) := (by omega)
   have q318 : 2 < (l0.length : Int) := Zo
   obtain ⟨ad318, e318, hx318_0⟩ := Kd.at_int HR0.out 2 p318 q318
   cases e318
   (try simp only [show (2 : Int).toNat = 2 from rfl, Nat.reduceMul, Nat.reduceEqDiff, Go.Addr.add, ↓reduceIte] at hx318_0)
   have qi318 : (2 < l0.length) = True := eq_true (by omega)
   (try rw [show ((2 : Int)).toNat = 2 from rfl] at hx318_0)
   replace hx318_0 := Zc HB.out hx318_0
   replace p318 := eq_true p318
   replace q318 := eq_true q318
   go_wp2
   go_meet
   case rel => exact ⟨_, (true), (by first | rfl | (simp; done) | (simp [*]; done)), H', ⟨by first | omega | exact Nat.le_refl _⟩, ⟨by repeat (first | (with_reducible first | exact HB.out | apply Zf | apply Zd | apply Ze) | exact HB.out)⟩⟩
  rw [if_neg c4] at H
  exact absurd H (by simp)
 case rest =>
  clear HC2
  try clear p2
  try clear c3
  try clear c3b0
  try clear c3b1
  try clear p3
  try clear q3
  try clear hx3
  try clear qi3
  try clear c4
  try clear c4b0
  try clear c4b1
  try clear c5
  try clear c5b0
  try clear c5b1
  try clear c6
  try clear c6b0
  try clear c6b1
  try clear hx318_0
  try clear hx319_0
  try clear p318
  try clear p319
  try clear q318
  try clear q319
  obtain ⟨kq, x18_1, rfl, HA, HJ1, HB⟩ := hcut
  cases kq with
  | zero => exact absurd HA.out (by simp [spec_l02One.j0])
  | succ kj1 =>
   have H := HA.out
   clear HA
   simp only [spec_l02One.j0] at H
   by_cases c7 : x18_1 = true
   ·
    subst c7
    have H1 : (some ([] : List Int)) = some r := by rw [if_pos rfl] at H; exact H
    clear H
    have H := H1
    clear H1
    obtain rfl := Option.some.inj H
    go_wp2
    go_ret
    exact ⟨_, by first | rfl | (simp [errW_none, errW_some] <;> rfl) | (simp [*, errW_none, errW_some] <;> rfl), by first | exact R_nil _ _ _ _ _ | exact N_nil _ _ _ _ _ | exact V_nil _ _ _ _ _ | exact Q_nil _ _ _ _ _ | exact S_nil _ _ _ _ _, by repeat (first | (with_reducible first | exact HB.out | apply Zf | apply Zd | apply Ze) | exact HB.out)⟩
   replace c7 := Bool.eq_false_iff.mpr c7
   subst c7
   have H1 : (if 0 < (l0.length : Int) then (if 1 < (l0.length : Int) then ((spec_l01In.f (wrap64 ((wrap64 (rd l0 0)) + (wrap64 (256 * (wrap64 (rd l0 1)))))) 1 600).bind fun t322 => (if t322 = true then (if (wrap64 ((wrap64 (rd l0 0)) + (wrap64 (256 * (wrap64 (rd l0 1)))))) > (wrap64 ((l0.length : Int) - 8)) then (some ([] : List Int)) else (if 8 ≤ (wrap64 (8 + (wrap64 ((wrap64 (rd l0 0)) + (wrap64 (256 * (wrap64 (rd l0 1)))))))) then (if (wrap64 (8 + (wrap64 ((wrap64 (rd l0 0)) + (wrap64 (256 * (wrap64 (rd l0 1)))))))) ≤ (l0.length : Int) then ((spec_Frame.f kj1 ((l0.take ((wrap64 (8 + (wrap64 ((wrap64 (rd l0 0)) + (wrap64 (256 * (wrap64 (rd l0 1)))))))) : Int).toNat).drop 8)).bind fun t324 => (if 0 ≤ (wrap64 (8 + (wrap64 ((wrap64 (rd l0 0)) + (wrap64 (256 * (wrap64 (rd l0 1)))))))) then ((spec_l01Same.f kj1 t324 (l0.take ((wrap64 (8 + (wrap64 ((wrap64 (rd l0 0)) + (wrap64 (256 * (wrap64 (rd l0 1)))))))) : Int).toNat)).bind fun t328 => (if t328 = true then ((spec_l01Bytes.f kj1 ((l0.take ((wrap64 (8 + (wrap64 ((wrap64 (rd l0 0)) + (wrap64 (256 * (wrap64 (rd l0 1)))))))) : Int).toNat).drop 8)).bind fun t330 => (some t330)) else (some ([] : List Int)))) else (none))) else (none)) else (none))) else (some ([] : List Int)))) else (none)) else (none)) = some r := by rw [if_neg (show ¬ (false = true) by decide)] at H; exact H
   clear H
   have H := H1
   clear H1
   by_cases c8 : 0 < (l0.length : Int)
   ·
    rw [if_pos c8] at H
    have c8b0 : decide (0 < (l0.length : Int)) = true := decide_eq_true c8
    have c8b1 : decide (0 < l0.length) = true := decide_eq_true (by omega)
    clear c8
    by_cases c9 : 1 < (l0.length : Int)
    ·
     rw [if_pos c9] at H
     have c9b0 : decide (1 < (l0.length : Int)) = true := decide_eq_true c9
     have c9b1 : decide (1 < l0.length) = true := decide_eq_true (by omega)
     clear c9
     replace H := Option.bind_eq_some_iff.mp H
     obtain ⟨t322, A100, H⟩ := H
     replace H : (if t322 = true then (if (wrap64 ((wrap64 (rd l0 0)) + (wrap64 (256 * (wrap64 (rd l0 1)))))) > (wrap64 ((l0.length : Int) - 8)) then (some ([] : List Int)) else (if 8 ≤ (wrap64 (8 + (wrap64 ((wrap64 (rd l0 0)) + (wrap64 (256 * (wrap64 (rd l0 1)))))))) then (if (wrap64 (8 + (wrap64 ((wrap64 (rd l0 0)) + (wrap64 (256 * (wrap64 (rd l0 1)))))))) ≤ (l0.length : Int) then ((spec_Frame.f kj1 ((l0.take ((wrap64 (8 + (wrap64 ((wrap64 (rd l0 0)) + (wrap64 (256 * (wrap64 (rd l0 1)))))))) : Int).toNat).drop 8)).bind fun t324 => (if 0 ≤ (wrap64 (8 + (wrap64 ((wrap64 (rd l0 0)) + (wrap64 (256 * (wrap64 (rd l0 1)))))))) then ((spec_l01Same.f kj1 t324 (l0.take ((wrap64 (8 + (wrap64 ((wrap64 (rd l0 0)) + (wrap64 (256 * (wrap64 (rd l0 1)))))))) : Int).toNat)).bind fun t328 => (if t328 = true then ((spec_l01Bytes.f kj1 ((l0.take ((wrap64 (8 + (wrap64 ((wrap64 (rd l0 0)) + (wrap64 (256 * (wrap64 (rd l0 1)))))))) : Int).toNat).drop 8)).bind fun t330 => (some t330)) else (some ([] : List Int)))) else (none))) else (none)) else (none))) else (some ([] : List Int))) = some r := H
     have A10 := Zh A100
     clear A100
     by_cases c11 : t322 = true
     ·
      subst c11
      have H1 : (if (wrap64 ((wrap64 (rd l0 0)) + (wrap64 (256 * (wrap64 (rd l0 1)))))) > (wrap64 ((l0.length : Int) - 8)) then (some ([] : List Int)) else (if 8 ≤ (wrap64 (8 + (wrap64 ((wrap64 (rd l0 0)) + (wrap64 (256 * (wrap64 (rd l0 1)))))))) then (if (wrap64 (8 + (wrap64 ((wrap64 (rd l0 0)) + (wrap64 (256 * (wrap64 (rd l0 1)))))))) ≤ (l0.length : Int) then ((spec_Frame.f kj1 ((l0.take ((wrap64 (8 + (wrap64 ((wrap64 (rd l0 0)) + (wrap64 (256 * (wrap64 (rd l0 1)))))))) : Int).toNat).drop 8)).bind fun t324 => (if 0 ≤ (wrap64 (8 + (wrap64 ((wrap64 (rd l0 0)) + (wrap64 (256 * (wrap64 (rd l0 1)))))))) then ((spec_l01Same.f kj1 t324 (l0.take ((wrap64 (8 + (wrap64 ((wrap64 (rd l0 0)) + (wrap64 (256 * (wrap64 (rd l0 1)))))))) : Int).toNat)).bind fun t328 => (if t328 = true then ((spec_l01Bytes.f kj1 ((l0.take ((wrap64 (8 + (wrap64 ((wrap64 (rd l0 0)) + (wrap64 (256 * (wrap64 (rd l0 1)))))))) : Int).toNat).drop 8)).bind fun t330 => (some t330)) else (some ([] : List Int)))) else (none))) else (none)) else (none))) = some r := by rw [if_pos rfl] at H; exact H
      clear H
      have H := H1
      clear H1
      by_cases c12 : (wrap64 ((wrap64 (rd l0 0)) + (wrap64 (256 * (wrap64 (rd l0 1)))))) > (wrap64 ((l0.length : Int) - 8))
      ·
       rw [if_pos c12] at H
       have c12b0 : decide ((wrap64 ((l0.length : Int) - 8)) < (wrap64 ((wrap64 (rd l0 0)) + (wrap64 (256 * (wrap64 (rd l0 1))))))) = true := decide_eq_true c12
       clear c12
       obtain rfl := Option.some.inj H
       try go_wp2
       have n0_ := Zh (Ze HB.out)
       clear HB
       have HB := n0_
       clear n0_
       have p320 : 0 ≤ (0 : Int) := (by omega)
       have q320 : 0 < (l0.length : Int) := Zo
       obtain ⟨ad320, e320, hx320_0⟩ := Kd.at_int HR0.out 0 p320 q320
       have hw320_0 := hx320_0
       (try rw [show ((0 : Int)).toNat = 0 from rfl] at hw320_0)
       (try rw [show 0 * 1 = 0 from rfl] at hw320_0)
       (try rw [Addr.add_zero'] at hw320_0)
       cases e320
       have qi320 : (0 < l0.length) = True := eq_true (by omega)
       (try rw [show ((0 : Int)).toNat = 0 from rfl] at hx320_0)
       (try rw [Addr.add_zero'] at hx320_0)
       replace hx320_0 := Zc HB.out hx320_0
       replace p320 := eq_true p320
       replace q320 := eq_true q320
       have p321 : 0 ≤ (1 : Int) := (by omega)
       have q321 : 1 < (l0.length : Int) := Zo
       obtain ⟨ad321, e321, hx321_0⟩ := Kd.at_int HR0.out 1 p321 q321
       have hw321_0 := hx321_0
       (try rw [show ((1 : Int)).toNat = 1 from rfl] at hw321_0)
       (try rw [show 1 * 1 = 1 from rfl] at hw321_0)
       (try simp only [Nat.reduceMul, Nat.reduceEqDiff, Go.Addr.add, ↓reduceIte] at hw321_0)
       obtain rfl : ad320 = ad321 := (by injection e321)
       (try simp only [show (1 : Int).toNat = 1 from rfl, Nat.reduceMul, Nat.reduceEqDiff, Go.Addr.add, ↓reduceIte] at hx321_0)
       have qi321 : (1 < l0.length) = True := eq_true (by omega)
       (try rw [show ((1 : Int)).toNat = 1 from rfl] at hx321_0)
       replace hx321_0 := Zc HB.out hx321_0
       replace p321 := eq_true p321
       replace q321 := eq_true q321
       refine start_ (n := 11) (S := fun w' => w'.cell? ad320 = some (.int .u8 (rd l0 0)) ∧ w'.cell? ⟨ad320.block, ad320.off + 1, none⟩ = some (.int .u8 (rd l0 1))) (ds := []) #[false, false, false, false, false, false, false, false, false, false, false] (by kernel_rfl) rfl rfl ⟨((HB.out.cell (Zi w _ hw320_0)).trans hw320_0), ((HB.out.cell (Zi w _ hw321_0)).trans hw321_0)⟩ (fun hHeld => ?_); refine with_tabW spec_l02One.tab3 spec_l02One.bits3 (fun HT_ HW_ => ?_)
       generalize wc.drew = w13 at HB hx320_0 hx321_0 hHeld ⊢
       refine SQ.pu 0 19 HT_ ?_
       refine SQ.pu 1 20 HT_ ?_
       refine SQ.pu 4 23 HT_ ?_
       refine SQ.pu 5 24 HT_ ?_
       refine SQ.tk 2 21 HT_ HW_ hHeld ?_
       refine SQ.pu 3 22 HT_ ?_
       refine SQ.tk 6 25 HT_ HW_ hHeld ?_
       refine SQ.pu 7 26 HT_ ?_
       refine SQ.pu 8 27 HT_ ?_
       refine SQ.pu 9 28 HT_ ?_
       refine SQ.pu 10 3 HT_ ?_
       refine done_ (done_of HT_.out (by kernel_rfl)) ?_
       try go_wp2
       have n0_ := Zh (Ze HB.out)
       clear HB
       have HB := n0_
       clear n0_
       refine start_ (n := 23) (S := fun w' => True) (ds := []) #[false, false, false, false, false, false, false, false, false, false, false, false, false, false, false, false, false, false, false, false, false, false, false] (by kernel_rfl) rfl rfl trivial (fun hHeld => ?_); refine with_tabW spec_l02One.tab4 spec_l02One.bits4 (fun HT_ HW_ => ?_)
       generalize w13.drew = w14 at HB hHeld ⊢
       refine SQ.pu 0 29 HT_ ?_
       refine one_ (i := 1) (N := some 30) #[true, true, false, false, false, false, false, false, false, false, false, false, false, false, false, false, false, false, false, false, false, false, false] rfl rfl (one_of HT_.out (by kernel_rfl)) (by decide) (fun K hK => ?_)
       refine goes_ Tryd.func62 (by kernel_rfl) rfl #[.int .i64 (wrap64 ((wrap64 (rd l0 0)) + (wrap64 (256 * (wrap64 (rd l0 1)))))), .int .i64 1, .int .i64 600] (by rfl) rfl rfl (by (try simp only [List.map_toArray, List.map_cons, List.map_nil]); first | done | rfl | (simp only [List.length_drop, List.length_take]; rfl)) ?_
       with_reducible refine (spec_l01In.calls (wrap64 ((wrap64 (rd l0 0)) + (wrap64 (256 * (wrap64 (rd l0 1)))))) 1 600 true _ A10.out).mono ?_
       rintro e w' ⟨rfl, ⟨nd, rfl⟩⟩
       refine ⟨_, rfl, ?_⟩
       refine hK.out _ _ trivial (fun hHeld => ?_)
       clear hK K
       refine norm_ (a' := ?_) ?_ ?_
       rotate_left
       ·
        show Act.put _ (some 30) _ = _
        simp only [Act.put, List.setIfInBounds_toArray, List.set_cons_zero, List.set_cons_succ, i64_w, i32_w]
        rfl
       refine SQ.pu 2 31 HT_ ?_
       refine SQ.pu 3 32 HT_ ?_
       refine SQ.pu 4 33 HT_ ?_
       refine SQ.pu 5 34 HT_ ?_
       refine SQ.pu 6 35 HT_ ?_
       refine SQ.pu 7 36 HT_ ?_
       refine SQ.pu 8 37 HT_ ?_
       refine SQ.pu 9 38 HT_ ?_
       refine SQ.pu 10 39 HT_ ?_
       refine SQ.of 11 40 HT_ ?_
       refine SQ.of 12 41 HT_ ?_
       refine SQ.of 13 42 HT_ ?_
       refine SQ.of 14 43 HT_ ?_
       refine SQ.of 15 44 HT_ ?_
       refine SQ.of 16 45 HT_ ?_
       refine SQ.of 17 46 HT_ ?_
       refine SQ.of 18 47 HT_ ?_
       refine SQ.of 19 48 HT_ ?_
       refine SQ.of 20 49 HT_ ?_
       refine SQ.of 21 50 HT_ ?_
       refine SQ.pu 22 51 HT_ ?_
       refine done_ (done_of HT_.out (by kernel_rfl)) ?_
       try go_wp2
       go_ret
       exact ⟨_, by first | rfl | (simp [errW_none, errW_some] <;> rfl) | (simp [*, errW_none, errW_some] <;> rfl), by first | exact R_nil _ _ _ _ _ | exact N_nil _ _ _ _ _ | exact V_nil _ _ _ _ _ | exact Q_nil _ _ _ _ _ | exact S_nil _ _ _ _ _, by repeat (first | (with_reducible first | exact HB.out | apply Zf | apply Zd | apply Ze) | exact HB.out)⟩
      rw [if_neg c12] at H
      have c12b0 : decide ((wrap64 ((l0.length : Int) - 8)) < (wrap64 ((wrap64 (rd l0 0)) + (wrap64 (256 * (wrap64 (rd l0 1))))))) = false := decide_eq_false c12
      clear c12
      by_cases c15 : 8 ≤ (wrap64 (8 + (wrap64 ((wrap64 (rd l0 0)) + (wrap64 (256 * (wrap64 (rd l0 1))))))))
      ·
       rw [if_pos c15] at H
       have c15b0 := eq_true c15
       have c15b1 : decide (8 ≤ (wrap64 (8 + (wrap64 ((wrap64 (rd l0 0)) + (wrap64 (256 * (wrap64 (rd l0 1))))))))) = true := decide_eq_true c15
       by_cases c16 : (wrap64 (8 + (wrap64 ((wrap64 (rd l0 0)) + (wrap64 (256 * (wrap64 (rd l0 1)))))))) ≤ (l0.length : Int)
       ·
        rw [if_pos c16] at H
        have c16b0 := eq_true c16
        have c16b1 : decide ((wrap64 (8 + (wrap64 ((wrap64 (rd l0 0)) + (wrap64 (256 * (wrap64 (rd l0 1)))))))) ≤ (l0.length : Int)) = true := decide_eq_true c16
        replace H := Option.bind_eq_some_iff.mp H
        obtain ⟨t324, A170, H⟩ := H
        replace H : (if 0 ≤ (wrap64 (8 + (wrap64 ((wrap64 (rd l0 0)) + (wrap64 (256 * (wrap64 (rd l0 1)))))))) then ((spec_l01Same.f kj1 t324 (l0.take ((wrap64 (8 + (wrap64 ((wrap64 (rd l0 0)) + (wrap64 (256 * (wrap64 (rd l0 1)))))))) : Int).toNat)).bind fun t328 => (if t328 = true then ((spec_l01Bytes.f kj1 ((l0.take ((wrap64 (8 + (wrap64 ((wrap64 (rd l0 0)) + (wrap64 (256 * (wrap64 (rd l0 1)))))))) : Int).toNat).drop 8)).bind fun t330 => (some t330)) else (some ([] : List Int)))) else (none)) = some r := H
        have A17 := Zh A170
        clear A170
        obtain ⟨ji18, hji18⟩ : ∃ j_ : Int, (wrap64 (8 + (wrap64 ((wrap64 (rd l0 0)) + (wrap64 (256 * (wrap64 (rd l0 1)))))))) = j_ := ⟨_, rfl⟩
        replace H : (if 0 ≤ (ji18) then ((spec_l01Same.f kj1 t324 (l0.take ((ji18) : Int).toNat)).bind fun t328 => (if t328 = true then ((spec_l01Bytes.f kj1 ((l0.take ((ji18) : Int).toNat).drop 8)).bind fun t330 => (some t330)) else (some ([] : List Int)))) else (none)) = some r := by first | (rw [hji18] at H; exact H) | (simp only [hji18] at H ⊢; exact H)
        (try rw [hji18] at c15b0)
        (try rw [hji18] at c15b1)
        (try rw [hji18] at c15)
        (try rw [hji18] at c16b0)
        (try rw [hji18] at c16b1)
        (try rw [hji18] at c16)
        (try rw [hji18] at A10)
        (try rw [hji18] at A17)
        have hji18w : (IntKind.i64.wrap (8 + (wrap64 ((wrap64 (rd l0 0)) + (wrap64 (256 * (wrap64 (rd l0 1)))))))) = ji18 := (i64_w _).trans hji18
        by_cases c19 : 0 ≤ (ji18)
        ·
         rw [if_pos c19] at H
         have c19b0 := eq_true c19
         have c19b1 : decide (0 ≤ (ji18)) = true := decide_eq_true c19
         clear c19
         have c20b0 := eq_true (Zo : (ji18) ≤ (l0.length : Int))
         replace H := Option.bind_eq_some_iff.mp H
         obtain ⟨t328, A210, H⟩ := H
         replace H : (if t328 = true then ((spec_l01Bytes.f kj1 ((l0.take ((ji18) : Int).toNat).drop 8)).bind fun t330 => (some t330)) else (some ([] : List Int))) = some r := H
         have A21 := Zh A210
         clear A210
         by_cases c22 : t328 = true
         ·
          subst c22
          have H1 : ((spec_l01Bytes.f kj1 ((l0.take ((ji18) : Int).toNat).drop 8)).bind fun t330 => (some t330)) = some r := by rw [if_pos rfl] at H; exact H
          clear H
          have H := H1
          clear H1
          have c23b0 := eq_true (Zo : 8 ≤ (ji18))
          have c24b0 := eq_true (Zo : (ji18) ≤ (l0.length : Int))
          replace H := Option.bind_eq_some_iff.mp H
          obtain ⟨t330, A250, H⟩ := H
          replace H : (some t330) = some r := H
          have A25 := Zh A250
          clear A250
          obtain rfl := Option.some.inj H
          try go_wp2
          have n0_ := Zh (Ze HB.out)
          clear HB
          have HB := n0_
          clear n0_
          have p320 : 0 ≤ (0 : Int) := (by omega)
          have q320 : 0 < (l0.length : Int) := Zo
          obtain ⟨ad320, e320, hx320_0⟩ := Kd.at_int HR0.out 0 p320 q320
          have hw320_0 := hx320_0
          (try rw [show ((0 : Int)).toNat = 0 from rfl] at hw320_0)
          (try rw [show 0 * 1 = 0 from rfl] at hw320_0)
          (try rw [Addr.add_zero'] at hw320_0)
          cases e320
          have qi320 : (0 < l0.length) = True := eq_true (by omega)
          (try rw [show ((0 : Int)).toNat = 0 from rfl] at hx320_0)
          (try rw [Addr.add_zero'] at hx320_0)
          replace hx320_0 := Zc HB.out hx320_0
          replace p320 := eq_true p320
          replace q320 := eq_true q320
          have p321 : 0 ≤ (1 : Int) := (by omega)
          have q321 : 1 < (l0.length : Int) := Zo
          obtain ⟨ad321, e321, hx321_0⟩ := Kd.at_int HR0.out 1 p321 q321
          have hw321_0 := hx321_0
          (try rw [show ((1 : Int)).toNat = 1 from rfl] at hw321_0)
          (try rw [show 1 * 1 = 1 from rfl] at hw321_0)
          (try simp only [Nat.reduceMul, Nat.reduceEqDiff, Go.Addr.add, ↓reduceIte] at hw321_0)
          obtain rfl : ad320 = ad321 := (by injection e321)
          (try simp only [show (1 : Int).toNat = 1 from rfl, Nat.reduceMul, Nat.reduceEqDiff, Go.Addr.add, ↓reduceIte] at hx321_0)
          have qi321 : (1 < l0.length) = True := eq_true (by omega)
          (try rw [show ((1 : Int)).toNat = 1 from rfl] at hx321_0)
          replace hx321_0 := Zc HB.out hx321_0
          replace p321 := eq_true p321
          replace q321 := eq_true q321
          refine start_ (n := 11) (S := fun w' => w'.cell? ad320 = some (.int .u8 (rd l0 0)) ∧ w'.cell? ⟨ad320.block, ad320.off + 1, none⟩ = some (.int .u8 (rd l0 1))) (ds := []) #[false, false, false, false, false, false, false, false, false, false, false] (by kernel_rfl) rfl rfl ⟨((HB.out.cell (Zi w _ hw320_0)).trans hw320_0), ((HB.out.cell (Zi w _ hw321_0)).trans hw321_0)⟩ (fun hHeld => ?_); refine with_tabW spec_l02One.tab3 spec_l02One.bits3 (fun HT_ HW_ => ?_)
          generalize wc.drew = w26 at HB hx320_0 hx321_0 hHeld ⊢
          refine SQ.pu 0 19 HT_ ?_
          refine SQ.pu 1 20 HT_ ?_
          refine SQ.pu 4 23 HT_ ?_
          refine SQ.pu 5 24 HT_ ?_
          refine SQ.tk 2 21 HT_ HW_ hHeld ?_
          refine SQ.pu 3 22 HT_ ?_
          refine SQ.tk 6 25 HT_ HW_ hHeld ?_
          refine SQ.pu 7 26 HT_ ?_
          refine SQ.pu 8 27 HT_ ?_
          refine SQ.pu 9 28 HT_ ?_
          refine SQ.pu 10 3 HT_ ?_
          refine done_ (done_of HT_.out (by kernel_rfl)) ?_
          try go_wp2
          have n0_ := Zh (Ze HB.out)
          clear HB
          have HB := n0_
          clear n0_
          refine start_ (n := 23) (S := fun w' => True) (ds := []) #[false, false, false, false, false, false, false, false, false, false, false, false, false, false, false, false, false, false, false, false, false, false, false] (by kernel_rfl) rfl rfl trivial (fun hHeld => ?_); refine with_tabW spec_l02One.tab4 spec_l02One.bits4 (fun HT_ HW_ => ?_)
          generalize w26.drew = w27 at HB hHeld ⊢
          refine SQ.pu 0 29 HT_ ?_
          refine one_ (i := 1) (N := some 30) #[true, true, false, false, false, false, false, false, false, false, false, false, false, false, false, false, false, false, false, false, false, false, false] rfl rfl (one_of HT_.out (by kernel_rfl)) (by decide) (fun K hK => ?_)
          refine goes_ Tryd.func62 (by kernel_rfl) rfl #[.int .i64 (wrap64 ((wrap64 (rd l0 0)) + (wrap64 (256 * (wrap64 (rd l0 1)))))), .int .i64 1, .int .i64 600] (by rfl) rfl rfl (by (try simp only [List.map_toArray, List.map_cons, List.map_nil]); first | done | rfl | (simp only [List.length_drop, List.length_take]; rfl)) ?_
          with_reducible refine (spec_l01In.calls (wrap64 ((wrap64 (rd l0 0)) + (wrap64 (256 * (wrap64 (rd l0 1)))))) 1 600 true _ A10.out).mono ?_
          rintro e w' ⟨rfl, ⟨nd, rfl⟩⟩
          refine ⟨_, rfl, ?_⟩
          obtain ⟨i028, hi028, _, hsz28, _⟩ := info_parts info5
          obtain ⟨A28, hcut28, hA28, hC28⟩ := print_mid_of (P := Tryd.prog) (Value.int .u8) 0 41 5 .i64 .i64 Tryd.underlying41 hi028 hsz28 (some ad320) c0 l0 8 (ji18) (by omega) (by first | omega | exact Zo) (Zo) HC0.out
          have HR323 := Zh (C_of_reads (h1 := fun _ => rfl) (hA28 _ (Kd.reads_of_C HR0.out)))
          have HC323 := Zh hC28
          clear hA28 hC28 hi028 hsz28
          obtain ⟨i030, hi030, _, hsz30, _⟩ := info_parts info5
          obtain ⟨hcut30, hA30, hC30⟩ := print_take_of (P := Tryd.prog) (Value.int .u8) 0 41 5 .i64 Tryd.underlying41 hi030 hsz30 (some ad320) c0 l0 (ji18) (Zo) (Zo) HC0.out
          have HR327 := Zh (C_of_reads (h1 := fun _ => rfl) (hA30 _ (Kd.reads_of_C HR0.out)))
          have HC327 := Zh hC30
          clear hA30 hC30 hi030 hsz30
          refine hK.out _ _ trivial (fun hHeld => ?_)
          clear hK K
          refine norm_ (a' := ?_) ?_ ?_
          rotate_left
          ·
           show Act.put _ (some 30) _ = _
           simp only [Act.put, List.setIfInBounds_toArray, List.set_cons_zero, List.set_cons_succ, i64_w, i32_w]
           rfl
          refine SQ.pu 2 31 HT_ ?_
          refine SQ.pu 3 32 HT_ ?_
          refine SQ.pu 4 33 HT_ ?_
          refine SQ.pu 5 34 HT_ ?_
          refine SQ.pu 6 35 HT_ ?_
          refine SQ.pu 7 36 HT_ ?_
          refine SQ.pu 8 37 HT_ ?_
          refine SQ.pu 9 38 HT_ ?_
          refine SQ.pu 10 39 HT_ ?_
          refine SQ.pu 11 40 HT_ ?_
          refine SQ.pu 12 41 HT_ ?_
          refine SQ.pu 13 42 HT_ ?_
          refine SQ.pu 14 43 HT_ ?_
          refine SQ.pu 16 45 HT_ ?_
          refine SQ.pu 17 46 HT_ ?_
          refine SQ.pu 18 47 HT_ ?_
          refine SQ.pu 19 48 HT_ ?_
          refine one_ (i := 15) (N := some 44) #[true, true, true, true, true, true, true, true, true, true, true, true, true, true, true, true, true, true, true, true, false, false, false] rfl rfl (one_of HT_.out (by kernel_rfl)) (by decide) (fun K hK => ?_)
          refine goes_ Tryd.func58 (by kernel_rfl) rfl #[.slice A28 ((l0.take ((ji18) : Int).toNat).drop 8).length (c0 - 8)] (by rfl) rfl rfl (by (try simp only [List.map_toArray, List.map_cons, List.map_nil]); first | done | (rw [show ((l0.take ((ji18) : Int).toNat).drop 8).length = ((ji18).toNat - 8) from (by rw [List.length_drop, List.length_take]; have h_ : ((ji18) : Int) ≤ (l0.length : Int) := Zo; omega)] <;> rfl) | (simp only [hji18]; rfl) | rfl | (simp only [List.length_drop, List.length_take]; rfl)) ?_
          with_reducible refine (spec_Frame.calls kj1 _ _ ((l0.take ((ji18) : Int).toNat).drop 8) t324 _ ?side1 ?side2 A17.out).mono ?_
          (case side1 => repeat (first | exact (C_below HR323.out Zs) | (with_reducible refine C_alloc ?_ _) | (with_reducible refine C_drewN ?_ _) | (with_reducible refine C_drew ?_)))
          (case side2 => exact HC323.out)
          rintro e w29 ⟨v325, rfl, ho0, hb⟩
          refine ⟨_, rfl, ?_⟩
          have n0_ := Zh (R_lower ho0 (below_size Zs))
          have n1_ := Zh (Zl Zs hb)
          clear HB
          have HO326 := n0_
          have HB := n1_
          clear n0_ n1_
          (try clear hb)
          (try clear hb2)
          (try clear hk)
          (try clear hi)
          (try clear ho0)
          obtain ⟨Ao31, co31, eo31⟩ := R_slice HO326.out
          (first | subst eo31 | (injection eo31 with f1_ f2_ f3_; have f4_ := f1_.symm; have f5_ := f3_.symm; clear f1_ f2_ f3_; subst f4_; subst f5_))
          refine hK.out _ _ trivial (fun hHeld => ?_)
          clear hK K
          refine norm_ (a' := ?_) ?_ ?_
          rotate_left
          ·
           show Act.put _ (some 44) _ = _
           simp only [Act.put, List.setIfInBounds_toArray, List.set_cons_zero, List.set_cons_succ, i64_w, i32_w]
           rfl
          refine one_ (i := 20) (N := some 49) #[true, true, true, true, true, true, true, true, true, true, true, true, true, true, true, true, true, true, true, true, true, false, false] rfl rfl (one_of HT_.out (by kernel_rfl)) (by decide) (fun K hK => ?_)
          refine goes_ Tryd.func86 (by kernel_rfl) rfl #[.slice Ao31 t324.length co31, .slice (some ad320) (l0.take ((ji18) : Int).toNat).length c0] (by rfl) rfl rfl (by (try simp only [List.map_toArray, List.map_cons, List.map_nil]); first | done | (rw [show (l0.take ((ji18) : Int).toNat).length = (ji18).toNat from (by rw [List.length_take]; have h_ : ((ji18) : Int) ≤ (l0.length : Int) := Zo; omega)] <;> rfl) | (simp only [hji18]; rfl) | rfl | (simp only [List.length_drop, List.length_take]; rfl)) ?_
          with_reducible refine (spec_l01Same.calls kj1 _ _ t324 _ _ (l0.take ((ji18) : Int).toNat) true _ ?side1 ?side2 ?side3 ?side4 A21.out).mono ?_
          (case side1 => repeat (first | exact (R_reads' HO326.out).2.2 | (with_reducible refine C_alloc ?_ _) | (with_reducible refine C_drewN ?_ _) | (with_reducible refine C_drew ?_)))
          (case side2 => exact (R_reads' HO326.out).2.1)
          (case side3 => repeat (first | exact (C_below HR327.out HB.out) | (with_reducible refine C_alloc ?_ _) | (with_reducible refine C_drewN ?_ _) | (with_reducible refine C_drew ?_)))
          (case side4 => exact HC327.out)
          rintro e w' ⟨rfl, ⟨nd, rfl⟩⟩
          refine ⟨_, rfl, ?_⟩
          refine hK.out _ _ trivial (fun hHeld => ?_)
          clear hK K
          refine norm_ (a' := ?_) ?_ ?_
          rotate_left
          ·
           show Act.put _ (some 49) _ = _
           simp only [Act.put, List.setIfInBounds_toArray, List.set_cons_zero, List.set_cons_succ, i64_w, i32_w]
           rfl
          refine SQ.pu 21 50 HT_ ?_
          refine SQ.pu 22 51 HT_ ?_
          refine done_ (done_of HT_.out (by kernel_rfl)) ?_
          obtain ⟨i032, hi032, _, hsz32, _⟩ := info_parts info5
          try clear hcut28
          obtain ⟨A32, hcut32, hA32, hC32⟩ := print_mid_of (P := Tryd.prog) (Value.int .u8) 0 41 5 .i64 .i64 Tryd.underlying41 hi032 hsz32 (some ad320) c0 l0 8 (ji18) (by omega) (by first | omega | exact Zo) (Zo) HC0.out
          have HR329 := Zh (C_of_reads (h1 := fun _ => rfl) (hA32 _ (Kd.reads_of_C HR0.out)))
          have HC329 := Zh hC32
          clear hA32 hC32 hi032 hsz32
          try go_wp2_with (first | ((with_reducible refine gate_callee (f := 87) rfl ?_); refine goesL_ (some 56) rfl rfl Tryd.func87 (by kernel_rfl) rfl #[.slice A32 ((l0.take ((ji18) : Int).toNat).drop 8).length (c0 - 8)] rfl (by (try simp only [List.map_toArray, List.map_cons, List.map_nil]); first | done | (rw [show ((l0.take ((ji18) : Int).toNat).drop 8).length = ((ji18).toNat - 8) from (by rw [List.length_drop, List.length_take]; have h_ : ((ji18) : Int) ≤ (l0.length : Int) := Zo; omega)] <;> rfl) | (simp only [hji18]; rfl) | rfl | (simp only [List.length_drop, List.length_take]; rfl)) ?_; (with_reducible refine (spec_l01Bytes.calls kj1 _ _ ((l0.take ((ji18) : Int).toNat).drop 8) t330 _ ?side1 ?side2 A25.out).mono ?_); (case side1 => repeat (first | exact (C_below HR329.out Zs) | (with_reducible refine C_alloc ?_ _) | (with_reducible refine C_drewN ?_ _) | (with_reducible refine C_drew ?_))); (case side2 => exact HC329.out); rintro e w33 ⟨v331, rfl, ho0, hb⟩; refine ⟨_, rfl, ?_⟩; have n0_ := Zh (R_elder' (by (with_reducible repeat (first | apply R_alloc | apply R_drewN | apply R_drew)); exact HO326.out) (R_base ho0) hb); have n1_ := Zh (R_lower (R_new' ho0 (R_lt (by (with_reducible repeat (first | apply R_alloc | apply R_drewN | apply R_drew)); exact HO326.out))) (below_size Zs)); have n2_ := Zh (Zl Zs hb); clear HO326; clear HB; have HO326 := n0_; have HO332 := n1_; have HB := n2_; clear n0_ n1_ n2_; (try clear hb); (try clear hb2); (try clear hk); (try clear hi); (try clear ho0)))
          go_ret
          exact ⟨_, by first | rfl | (simp [errW_none, errW_some] <;> rfl) | (simp only [← hji18]; first | rfl | (simp [errW_none, errW_some] <;> rfl)) | (simp [*, errW_none, errW_some] <;> rfl), by (with_reducible repeat (first | apply R_alloc | apply R_drewN | apply R_drew)); exact R_mono HO332.out (fun _ hk => trivial), by repeat (first | (with_reducible first | exact HB.out | apply Zf | apply Zd | apply Ze) | exact HB.out)⟩
         replace c22 := Bool.eq_false_iff.mpr c22
         subst c22
         have H1 : (some ([] : List Int)) = some r := by rw [if_neg (show ¬ (false = true) by decide)] at H; exact H
         clear H
         have H := H1
         clear H1
         obtain rfl := Option.some.inj H
         try go_wp2
         have n0_ := Zh (Ze HB.out)
         clear HB
         have HB := n0_
         clear n0_
         have p320 : 0 ≤ (0 : Int) := (by omega)
         have q320 : 0 < (l0.length : Int) := Zo
         obtain ⟨ad320, e320, hx320_0⟩ := Kd.at_int HR0.out 0 p320 q320
         have hw320_0 := hx320_0
         (try rw [show ((0 : Int)).toNat = 0 from rfl] at hw320_0)
         (try rw [show 0 * 1 = 0 from rfl] at hw320_0)
         (try rw [Addr.add_zero'] at hw320_0)
         cases e320
         have qi320 : (0 < l0.length) = True := eq_true (by omega)
         (try rw [show ((0 : Int)).toNat = 0 from rfl] at hx320_0)
         (try rw [Addr.add_zero'] at hx320_0)
         replace hx320_0 := Zc HB.out hx320_0
         replace p320 := eq_true p320
         replace q320 := eq_true q320
         have p321 : 0 ≤ (1 : Int) := (by omega)
         have q321 : 1 < (l0.length : Int) := Zo
         obtain ⟨ad321, e321, hx321_0⟩ := Kd.at_int HR0.out 1 p321 q321
         have hw321_0 := hx321_0
         (try rw [show ((1 : Int)).toNat = 1 from rfl] at hw321_0)
         (try rw [show 1 * 1 = 1 from rfl] at hw321_0)
         (try simp only [Nat.reduceMul, Nat.reduceEqDiff, Go.Addr.add, ↓reduceIte] at hw321_0)
         obtain rfl : ad320 = ad321 := (by injection e321)
         (try simp only [show (1 : Int).toNat = 1 from rfl, Nat.reduceMul, Nat.reduceEqDiff, Go.Addr.add, ↓reduceIte] at hx321_0)
         have qi321 : (1 < l0.length) = True := eq_true (by omega)
         (try rw [show ((1 : Int)).toNat = 1 from rfl] at hx321_0)
         replace hx321_0 := Zc HB.out hx321_0
         replace p321 := eq_true p321
         replace q321 := eq_true q321
         refine start_ (n := 11) (S := fun w' => w'.cell? ad320 = some (.int .u8 (rd l0 0)) ∧ w'.cell? ⟨ad320.block, ad320.off + 1, none⟩ = some (.int .u8 (rd l0 1))) (ds := []) #[false, false, false, false, false, false, false, false, false, false, false] (by kernel_rfl) rfl rfl ⟨((HB.out.cell (Zi w _ hw320_0)).trans hw320_0), ((HB.out.cell (Zi w _ hw321_0)).trans hw321_0)⟩ (fun hHeld => ?_); refine with_tabW spec_l02One.tab3 spec_l02One.bits3 (fun HT_ HW_ => ?_)
         generalize wc.drew = w34 at HB hx320_0 hx321_0 hHeld ⊢
         refine SQ.pu 0 19 HT_ ?_
         refine SQ.pu 1 20 HT_ ?_
         refine SQ.pu 4 23 HT_ ?_
         refine SQ.pu 5 24 HT_ ?_
         refine SQ.tk 2 21 HT_ HW_ hHeld ?_
         refine SQ.pu 3 22 HT_ ?_
         refine SQ.tk 6 25 HT_ HW_ hHeld ?_
         refine SQ.pu 7 26 HT_ ?_
         refine SQ.pu 8 27 HT_ ?_
         refine SQ.pu 9 28 HT_ ?_
         refine SQ.pu 10 3 HT_ ?_
         refine done_ (done_of HT_.out (by kernel_rfl)) ?_
         try go_wp2
         have n0_ := Zh (Ze HB.out)
         clear HB
         have HB := n0_
         clear n0_
         refine start_ (n := 23) (S := fun w' => True) (ds := []) #[false, false, false, false, false, false, false, false, false, false, false, false, false, false, false, false, false, false, false, false, false, false, false] (by kernel_rfl) rfl rfl trivial (fun hHeld => ?_); refine with_tabW spec_l02One.tab4 spec_l02One.bits4 (fun HT_ HW_ => ?_)
         generalize w34.drew = w35 at HB hHeld ⊢
         refine SQ.pu 0 29 HT_ ?_
         refine one_ (i := 1) (N := some 30) #[true, true, false, false, false, false, false, false, false, false, false, false, false, false, false, false, false, false, false, false, false, false, false] rfl rfl (one_of HT_.out (by kernel_rfl)) (by decide) (fun K hK => ?_)
         refine goes_ Tryd.func62 (by kernel_rfl) rfl #[.int .i64 (wrap64 ((wrap64 (rd l0 0)) + (wrap64 (256 * (wrap64 (rd l0 1)))))), .int .i64 1, .int .i64 600] (by rfl) rfl rfl (by (try simp only [List.map_toArray, List.map_cons, List.map_nil]); first | done | rfl | (simp only [List.length_drop, List.length_take]; rfl)) ?_
         with_reducible refine (spec_l01In.calls (wrap64 ((wrap64 (rd l0 0)) + (wrap64 (256 * (wrap64 (rd l0 1)))))) 1 600 true _ A10.out).mono ?_
         rintro e w' ⟨rfl, ⟨nd, rfl⟩⟩
         refine ⟨_, rfl, ?_⟩
         obtain ⟨i036, hi036, _, hsz36, _⟩ := info_parts info5
         obtain ⟨A36, hcut36, hA36, hC36⟩ := print_mid_of (P := Tryd.prog) (Value.int .u8) 0 41 5 .i64 .i64 Tryd.underlying41 hi036 hsz36 (some ad320) c0 l0 8 (ji18) (by omega) (by first | omega | exact Zo) (Zo) HC0.out
         have HR323 := Zh (C_of_reads (h1 := fun _ => rfl) (hA36 _ (Kd.reads_of_C HR0.out)))
         have HC323 := Zh hC36
         clear hA36 hC36 hi036 hsz36
         obtain ⟨i038, hi038, _, hsz38, _⟩ := info_parts info5
         obtain ⟨hcut38, hA38, hC38⟩ := print_take_of (P := Tryd.prog) (Value.int .u8) 0 41 5 .i64 Tryd.underlying41 hi038 hsz38 (some ad320) c0 l0 (ji18) (Zo) (Zo) HC0.out
         have HR327 := Zh (C_of_reads (h1 := fun _ => rfl) (hA38 _ (Kd.reads_of_C HR0.out)))
         have HC327 := Zh hC38
         clear hA38 hC38 hi038 hsz38
         refine hK.out _ _ trivial (fun hHeld => ?_)
         clear hK K
         refine norm_ (a' := ?_) ?_ ?_
         rotate_left
         ·
          show Act.put _ (some 30) _ = _
          simp only [Act.put, List.setIfInBounds_toArray, List.set_cons_zero, List.set_cons_succ, i64_w, i32_w]
          rfl
         refine SQ.pu 2 31 HT_ ?_
         refine SQ.pu 3 32 HT_ ?_
         refine SQ.pu 4 33 HT_ ?_
         refine SQ.pu 5 34 HT_ ?_
         refine SQ.pu 6 35 HT_ ?_
         refine SQ.pu 7 36 HT_ ?_
         refine SQ.pu 8 37 HT_ ?_
         refine SQ.pu 9 38 HT_ ?_
         refine SQ.pu 10 39 HT_ ?_
         refine SQ.pu 11 40 HT_ ?_
         refine SQ.pu 12 41 HT_ ?_
         refine SQ.pu 13 42 HT_ ?_
         refine SQ.pu 14 43 HT_ ?_
         refine SQ.pu 16 45 HT_ ?_
         refine SQ.pu 17 46 HT_ ?_
         refine SQ.pu 18 47 HT_ ?_
         refine SQ.pu 19 48 HT_ ?_
         refine one_ (i := 15) (N := some 44) #[true, true, true, true, true, true, true, true, true, true, true, true, true, true, true, true, true, true, true, true, false, false, false] rfl rfl (one_of HT_.out (by kernel_rfl)) (by decide) (fun K hK => ?_)
         refine goes_ Tryd.func58 (by kernel_rfl) rfl #[.slice A36 ((l0.take ((ji18) : Int).toNat).drop 8).length (c0 - 8)] (by rfl) rfl rfl (by (try simp only [List.map_toArray, List.map_cons, List.map_nil]); first | done | (rw [show ((l0.take ((ji18) : Int).toNat).drop 8).length = ((ji18).toNat - 8) from (by rw [List.length_drop, List.length_take]; have h_ : ((ji18) : Int) ≤ (l0.length : Int) := Zo; omega)] <;> rfl) | (simp only [hji18]; rfl) | rfl | (simp only [List.length_drop, List.length_take]; rfl)) ?_
         with_reducible refine (spec_Frame.calls kj1 _ _ ((l0.take ((ji18) : Int).toNat).drop 8) t324 _ ?side1 ?side2 A17.out).mono ?_
         (case side1 => repeat (first | exact (C_below HR323.out Zs) | (with_reducible refine C_alloc ?_ _) | (with_reducible refine C_drewN ?_ _) | (with_reducible refine C_drew ?_)))
         (case side2 => exact HC323.out)
         rintro e w37 ⟨v325, rfl, ho0, hb⟩
         refine ⟨_, rfl, ?_⟩
         have n0_ := Zh (R_lower ho0 (below_size Zs))
         have n1_ := Zh (Zl Zs hb)
         clear HB
         have HO326 := n0_
         have HB := n1_
         clear n0_ n1_
         (try clear hb)
         (try clear hb2)
         (try clear hk)
         (try clear hi)
         (try clear ho0)
         obtain ⟨Ao39, co39, eo39⟩ := R_slice HO326.out
         (first | subst eo39 | (injection eo39 with f1_ f2_ f3_; have f4_ := f1_.symm; have f5_ := f3_.symm; clear f1_ f2_ f3_; subst f4_; subst f5_))
         refine hK.out _ _ trivial (fun hHeld => ?_)
         clear hK K
         refine norm_ (a' := ?_) ?_ ?_
         rotate_left
         ·
          show Act.put _ (some 44) _ = _
          simp only [Act.put, List.setIfInBounds_toArray, List.set_cons_zero, List.set_cons_succ, i64_w, i32_w]
          rfl
         refine one_ (i := 20) (N := some 49) #[true, true, true, true, true, true, true, true, true, true, true, true, true, true, true, true, true, true, true, true, true, false, false] rfl rfl (one_of HT_.out (by kernel_rfl)) (by decide) (fun K hK => ?_)
         refine goes_ Tryd.func86 (by kernel_rfl) rfl #[.slice Ao39 t324.length co39, .slice (some ad320) (l0.take ((ji18) : Int).toNat).length c0] (by rfl) rfl rfl (by (try simp only [List.map_toArray, List.map_cons, List.map_nil]); first | done | (rw [show (l0.take ((ji18) : Int).toNat).length = (ji18).toNat from (by rw [List.length_take]; have h_ : ((ji18) : Int) ≤ (l0.length : Int) := Zo; omega)] <;> rfl) | (simp only [hji18]; rfl) | rfl | (simp only [List.length_drop, List.length_take]; rfl)) ?_
         with_reducible refine (spec_l01Same.calls kj1 _ _ t324 _ _ (l0.take ((ji18) : Int).toNat) false _ ?side1 ?side2 ?side3 ?side4 A21.out).mono ?_
         (case side1 => repeat (first | exact (R_reads' HO326.out).2.2 | (with_reducible refine C_alloc ?_ _) | (with_reducible refine C_drewN ?_ _) | (with_reducible refine C_drew ?_)))
         (case side2 => exact (R_reads' HO326.out).2.1)
         (case side3 => repeat (first | exact (C_below HR327.out HB.out) | (with_reducible refine C_alloc ?_ _) | (with_reducible refine C_drewN ?_ _) | (with_reducible refine C_drew ?_)))
         (case side4 => exact HC327.out)
         rintro e w' ⟨rfl, ⟨nd, rfl⟩⟩
         refine ⟨_, rfl, ?_⟩
         refine hK.out _ _ trivial (fun hHeld => ?_)
         clear hK K
         refine norm_ (a' := ?_) ?_ ?_
         rotate_left
         ·
          show Act.put _ (some 49) _ = _
          simp only [Act.put, List.setIfInBounds_toArray, List.set_cons_zero, List.set_cons_succ, i64_w, i32_w]
          rfl
         refine SQ.pu 21 50 HT_ ?_
         refine SQ.pu 22 51 HT_ ?_
         refine done_ (done_of HT_.out (by kernel_rfl)) ?_
         try go_wp2
         go_ret
         exact ⟨_, by first | rfl | (simp [errW_none, errW_some] <;> rfl) | (simp only [← hji18]; first | rfl | (simp [errW_none, errW_some] <;> rfl)) | (simp [*, errW_none, errW_some] <;> rfl), by first | exact R_nil _ _ _ _ _ | exact N_nil _ _ _ _ _ | exact V_nil _ _ _ _ _ | exact Q_nil _ _ _ _ _ | exact S_nil _ _ _ _ _, by repeat (first | (with_reducible first | exact HB.out | apply Zf | apply Zd | apply Ze) | exact HB.out)⟩
        rw [if_neg c19] at H
        exact absurd H (by simp)
       rw [if_neg c16] at H
       exact absurd H (by simp)
      rw [if_neg c15] at H
      exact absurd H (by simp)
     replace c11 := Bool.eq_false_iff.mpr c11
     subst c11
     have H1 : (some ([] : List Int)) = some r := by rw [if_neg (show ¬ (false = true) by decide)] at H; exact H
     clear H
     have H := H1
     clear H1
     obtain rfl := Option.some.inj H
     try go_wp2
     have n0_ := Zh (Ze HB.out)
     clear HB
     have HB := n0_
     clear n0_
     have p320 : 0 ≤ (0 : Int) := (by omega)
     have q320 : 0 < (l0.length : Int) := Zo
     obtain ⟨ad320, e320, hx320_0⟩ := Kd.at_int HR0.out 0 p320 q320
     have hw320_0 := hx320_0
     (try rw [show ((0 : Int)).toNat = 0 from rfl] at hw320_0)
     (try rw [show 0 * 1 = 0 from rfl] at hw320_0)
     (try rw [Addr.add_zero'] at hw320_0)
     cases e320
     have qi320 : (0 < l0.length) = True := eq_true (by omega)
     (try rw [show ((0 : Int)).toNat = 0 from rfl] at hx320_0)
     (try rw [Addr.add_zero'] at hx320_0)
     replace hx320_0 := Zc HB.out hx320_0
     replace p320 := eq_true p320
     replace q320 := eq_true q320
     have p321 : 0 ≤ (1 : Int) := (by omega)
     have q321 : 1 < (l0.length : Int) := Zo
     obtain ⟨ad321, e321, hx321_0⟩ := Kd.at_int HR0.out 1 p321 q321
     have hw321_0 := hx321_0
     (try rw [show ((1 : Int)).toNat = 1 from rfl] at hw321_0)
     (try rw [show 1 * 1 = 1 from rfl] at hw321_0)
     (try simp only [Nat.reduceMul, Nat.reduceEqDiff, Go.Addr.add, ↓reduceIte] at hw321_0)
     obtain rfl : ad320 = ad321 := (by injection e321)
     (try simp only [show (1 : Int).toNat = 1 from rfl, Nat.reduceMul, Nat.reduceEqDiff, Go.Addr.add, ↓reduceIte] at hx321_0)
     have qi321 : (1 < l0.length) = True := eq_true (by omega)
     (try rw [show ((1 : Int)).toNat = 1 from rfl] at hx321_0)
     replace hx321_0 := Zc HB.out hx321_0
     replace p321 := eq_true p321
     replace q321 := eq_true q321
     refine start_ (n := 11) (S := fun w' => w'.cell? ad320 = some (.int .u8 (rd l0 0)) ∧ w'.cell? ⟨ad320.block, ad320.off + 1, none⟩ = some (.int .u8 (rd l0 1))) (ds := []) #[false, false, false, false, false, false, false, false, false, false, false] (by kernel_rfl) rfl rfl ⟨((HB.out.cell (Zi w _ hw320_0)).trans hw320_0), ((HB.out.cell (Zi w _ hw321_0)).trans hw321_0)⟩ (fun hHeld => ?_); refine with_tabW spec_l02One.tab3 spec_l02One.bits3 (fun HT_ HW_ => ?_)
     generalize wc.drew = w40 at HB hx320_0 hx321_0 hHeld ⊢
     refine SQ.pu 0 19 HT_ ?_
     refine SQ.pu 1 20 HT_ ?_
     refine SQ.pu 4 23 HT_ ?_
     refine SQ.pu 5 24 HT_ ?_
     refine SQ.tk 2 21 HT_ HW_ hHeld ?_
     refine SQ.pu 3 22 HT_ ?_
     refine SQ.tk 6 25 HT_ HW_ hHeld ?_
     refine SQ.pu 7 26 HT_ ?_
     refine SQ.pu 8 27 HT_ ?_
     refine SQ.pu 9 28 HT_ ?_
     refine SQ.pu 10 3 HT_ ?_
     refine done_ (done_of HT_.out (by kernel_rfl)) ?_
     try go_wp2
     have n0_ := Zh (Ze HB.out)
     clear HB
     have HB := n0_
     clear n0_
     refine start_ (n := 23) (S := fun w' => True) (ds := []) #[false, false, false, false, false, false, false, false, false, false, false, false, false, false, false, false, false, false, false, false, false, false, false] (by kernel_rfl) rfl rfl trivial (fun hHeld => ?_); refine with_tabW spec_l02One.tab4 spec_l02One.bits4 (fun HT_ HW_ => ?_)
     generalize w40.drew = w41 at HB hHeld ⊢
     refine SQ.pu 0 29 HT_ ?_
     refine one_ (i := 1) (N := some 30) #[true, true, false, false, false, false, false, false, false, false, false, false, false, false, false, false, false, false, false, false, false, false, false] rfl rfl (one_of HT_.out (by kernel_rfl)) (by decide) (fun K hK => ?_)
     refine goes_ Tryd.func62 (by kernel_rfl) rfl #[.int .i64 (wrap64 ((wrap64 (rd l0 0)) + (wrap64 (256 * (wrap64 (rd l0 1)))))), .int .i64 1, .int .i64 600] (by rfl) rfl rfl (by (try simp only [List.map_toArray, List.map_cons, List.map_nil]); first | done | rfl | (simp only [List.length_drop, List.length_take]; rfl)) ?_
     with_reducible refine (spec_l01In.calls (wrap64 ((wrap64 (rd l0 0)) + (wrap64 (256 * (wrap64 (rd l0 1)))))) 1 600 false _ A10.out).mono ?_
     rintro e w' ⟨rfl, ⟨nd, rfl⟩⟩
     refine ⟨_, rfl, ?_⟩
     refine hK.out _ _ trivial (fun hHeld => ?_)
     clear hK K
     refine norm_ (a' := ?_) ?_ ?_
     rotate_left
     ·
      show Act.put _ (some 30) _ = _
      simp only [Act.put, List.setIfInBounds_toArray, List.set_cons_zero, List.set_cons_succ, i64_w, i32_w]
      rfl
     refine SQ.pu 2 31 HT_ ?_
     refine SQ.pu 3 32 HT_ ?_
     refine SQ.of 4 33 HT_ ?_
     refine SQ.of 5 34 HT_ ?_
     refine SQ.of 6 35 HT_ ?_
     refine SQ.of 7 36 HT_ ?_
     refine SQ.of 8 37 HT_ ?_
     refine SQ.pu 9 38 HT_ ?_
     refine SQ.pu 10 39 HT_ ?_
     refine SQ.of 11 40 HT_ ?_
     refine SQ.of 12 41 HT_ ?_
     refine SQ.of 13 42 HT_ ?_
     refine SQ.of 14 43 HT_ ?_
     refine SQ.of 15 44 HT_ ?_
     refine SQ.of 16 45 HT_ ?_
     refine SQ.of 17 46 HT_ ?_
     refine SQ.of 18 47 HT_ ?_
     refine SQ.of 19 48 HT_ ?_
     refine SQ.of 20 49 HT_ ?_
     refine SQ.of 21 50 HT_ ?_
     refine SQ.pu 22 51 HT_ ?_
     refine done_ (done_of HT_.out (by kernel_rfl)) ?_
     try go_wp2
     go_ret
     exact ⟨_, by first | rfl | (simp [errW_none, errW_some] <;> rfl) | (simp [*, errW_none, errW_some] <;> rfl), by first | exact R_nil _ _ _ _ _ | exact N_nil _ _ _ _ _ | exact V_nil _ _ _ _ _ | exact Q_nil _ _ _ _ _ | exact S_nil _ _ _ _ _, by repeat (first | (with_reducible first | exact HB.out | apply Zf | apply Zd | apply Ze) | exact HB.out)⟩
    rw [if_neg c9] at H
    exact absurd H (by simp)
   rw [if_neg c8] at H
   exact absurd H (by simp)
end Go.Proofs.YtcgojdhbphocgaaDoor.F

namespace Go.Proofs.YtcgojdhbphocgaaDoor.F
open Go.RowKit Go.Proofs.YtcgojdhbphocgaaDoorW.PrintWords Go.Proofs.YtcgojdhbphocgaaDoorW.PrintWords.Kd Go.Proofs.YtcgojdhbphocgaaDoorW.PrintMore.Kd Go.Proofs.YtcgojdhbphocgaaDoorW.PrintLast Go.Proofs.YtcgojdhbphocgaaDoorW.PrintMore
attribute [local go_sem] max2_int min2_int max_two min_two max_three min_three max_four min_four   -- for this text's walks alone
set_option linter.unusedVariables false
set_option linter.unusedSimpArgs false
def spec_ScanFrames.l0 : Nat → List Int → List (List Int) → Int → Option ((List (List Int)) × Int)
 | 0, _, _, _ => none
 | k + 1, x0, x4, x5 => if 0 ≤ x5 then (if x5 ≤ (x0.length : Int) then ((spec_l02One.f k (x0.drop (x5 : Int).toNat)).bind fun t337 => (if (t337.length : Int) = 0 then (some (x4, x5)) else (if x4.length < 5864062014805 then (spec_ScanFrames.l0 k x0 (x4 ++ [t337]) (wrap64 ((wrap64 (x5 + 8)) + (t337.length : Int)))) else (none)))) else (none)) else (none)
def spec_ScanFrames.f (k : Nat) (l0 : List Int) : Option ((List (List Int)) × Int) := if (l0.length : Int) > 20000 then (some (([] : List (List Int)), 0)) else (spec_ScanFrames.l0 k l0 (([] : List (List Int))) 0)
set_option maxHeartbeats 8000000 in
set_option maxRecDepth 100000 in
theorem spec_ScanFrames.calls (k : Nat) (A0 : Option Addr) (c0 : Nat) (l0 : List Int) (r1 : List (List Int)) (r2 : Int) (w : World) (hr0 : Kd.C (Kd.int .u8) w A0 l0.length l0) (hc0 : l0.length ≤ c0) (h : spec_ScanFrames.f k l0 = some (r1, r2)) :
  Calls Tryd.prog 51 #[.slice A0 l0.length c0] w fun e w' => ∃ v0_ : Value, e = .returned (.tuple #[v0_, .int .i64 r2]) ∧ Kd.S (Kd.slice 5 (Kd.int .u8)) 41 w' w.heap.size (fun _ => True) v0_ r1 ∧ Below w.heap.size w w' := by
 have HR0 := Zh hr0
 have HC0 := Zh hc0
 clear hr0 hc0
 have HB := Zh (Below.refl w.heap.size w)
 have H : (if (l0.length : Int) > 20000 then (some (([] : List (List Int)), 0)) else (spec_ScanFrames.l0 k l0 (([] : List (List Int))) 0)) = some (r1, r2) := h
 clear h
 by_cases c2 : (l0.length : Int) > 20000
 ·
  rw [if_pos c2] at H
  have c2b0 : decide (20000 < (l0.length : Int)) = true := decide_eq_true c2
  have c2b1 : decide (20000 < l0.length) = true := decide_eq_true (by omega)
  clear c2
  simp only [Option.some.injEq, Prod.mk.injEq] at H
  obtain ⟨rfl, rfl⟩ := H
  go_enter Tryd.func51, Tryd.ntmps51
  go_wp2
  go_ret2
  exact ⟨_, by first | rfl | (simp [errW_none, errW_some] <;> rfl) | (simp [*, errW_none, errW_some] <;> rfl), by first | exact S_nil _ _ _ _ _ | exact N_nil _ _ _ _ _ | exact V_nil _ _ _ _ _ | exact Q_nil _ _ _ _ _ | exact R_nil _ _ _ _ _, by repeat (first | (with_reducible first | exact HB.out | apply Zf | apply Zd | apply Ze) | exact HB.out)⟩
 rw [if_neg c2] at H
 have c2b0 : decide (20000 < (l0.length : Int)) = false := decide_eq_false c2
 have c2b1 : decide (20000 < l0.length) = false := decide_eq_false (by omega)
 clear c2
 obtain ⟨y333, hy333⟩ : ∃ y_ : List (List Int), y_ = (([] : List (List Int))) := ⟨_, rfl⟩
 replace H : (spec_ScanFrames.l0 k l0 y333 0) = some (r1, r2) := by first | (rw [hy333]; with_reducible exact H) | (have H2_ := (Option.bind_some _ _).symm.trans H; rw [hy333]; with_reducible exact H2_) | (have H2_ := (Option.bind_some _ _).symm.trans H; with_reducible exact H2_) | with_reducible exact H | (rw [hy333]; exact H) | exact H
 have Ny333 := Zh hy333
 clear hy333
 have H' := Zh H
 clear H
 go_enter Tryd.func51, Tryd.ntmps51
 go_wp2_with (first | ((with_reducible refine gate_dst (N := 10) rfl ?_); refine S_lit (Kd.slice 5 (Kd.int .u8)) _ 41 ?hg (N := 10) ?hd (xs := ([] : List (List Int))) (inner := []) (ok := fun _ => True) (okp := fun _ => True) ?hr ?hp (fun _ hk => hk) trivial (Below.refl _ _) (Nat.le_refl _) (by simp) ?_; (case hd => rfl); (case hg => rfl); (case hr => first | (go_simp; done) | (go_simp; rfl)); (case hp => exact (Reps.none _ _)); intro v334 w3 ho4 hb hg_ hnew_; clear hg_ hnew_; (first | rw [← Ny333.out] at ho4 | (simp only [Int.reduceToNat] at ho4; rw [← Ny333.out] at ho4)); have n0_ := Zh (S_lower ho4 (below_size Zs)); have n1_ := Zh (Zl Zs hb); clear HB; have HO335 := n0_; have HB := n1_; clear n0_ n1_; clear hb ho4))
 go_loopg [4, 5] k (fun kq v4 v5 w' => ∃ (x4_1 : List (List Int)) (x5_1 : Int), v5 = .int .i64 x5_1 ∧ Aside0 (spec_ScanFrames.l0 kq l0 x4_1 x5_1 = some (r1, r2)) ∧ Aside0 (kq ≤ k) ∧ Aside0 (Kd.S (Kd.slice 5 (Kd.int .u8)) 41 w' w.heap.size (fun _ => True) v4 x4_1) ∧ Aside0 (Below w.heap.size w w'))
 case atStart => exact ⟨(y333), (0), (by first | rfl | (simp; done) | (simp [*]; done)), H', ⟨Nat.le_refl _⟩, ⟨by (with_reducible repeat (first | apply S_alloc | apply S_drewN | apply S_drew)); exact HO335.out⟩, ⟨by repeat (first | (with_reducible first | exact HB.out | apply Zf | apply Zd | apply Ze) | exact HB.out)⟩⟩
 case round =>
  clear H'
  try clear c2
  try clear c2b0
  try clear c2b1
  try clear p2
  obtain ⟨x4_1, x5_1, rfl, HA, HK1, HO_4, HB⟩ := hrel
  cases gk with
  | zero => exact absurd HA.out (by simp [spec_ScanFrames.l0])
  | succ k1 =>
   have H := HA.out
   clear HA
   simp only [spec_ScanFrames.l0] at H
   by_cases c5 : 0 ≤ x5_1
   ·
    rw [if_pos c5] at H
    have c5b0 := eq_true c5
    have c5b1 : decide (0 ≤ x5_1) = true := decide_eq_true c5
    clear c5
    by_cases c6 : x5_1 ≤ (l0.length : Int)
    ·
     rw [if_pos c6] at H
     have c6b0 := eq_true c6
     have c6b1 : decide (x5_1 ≤ (l0.length : Int)) = true := decide_eq_true c6
     clear c6
     replace H := Option.bind_eq_some_iff.mp H
     obtain ⟨t337, A70, H⟩ := H
     replace H : (if (t337.length : Int) = 0 then (some (x4_1, x5_1)) else (if x4_1.length < 5864062014805 then (spec_ScanFrames.l0 k1 l0 (x4_1 ++ [t337]) (wrap64 ((wrap64 (x5_1 + 8)) + (t337.length : Int)))) else (none))) = some (r1, r2) := H
     have A7 := Zh A70
     clear A70
     by_cases c8 : (t337.length : Int) = 0
     ·
      rw [if_pos c8] at H
      have c8b0 : ((t337.length : Int) == 0) = true := beq_iff_eq.mpr c8
      have c8b1 : ((t337.length : Int) != 0) = false := bne_eq_false_iff_eq.mpr c8
      clear c8
      simp only [Option.some.injEq, Prod.mk.injEq] at H
      obtain ⟨rfl, rfl⟩ := H
      obtain ⟨i09, hi09, _, hsz9, _⟩ := info_parts info5
      obtain ⟨A9, hcut9, hA9, hC9⟩ := print_drop_of (P := Tryd.prog) (Value.int .u8) 0 41 5 .i64 Tryd.underlying41 hi09 hsz9 A0 c0 l0 x5_1 (Zo) (Zo) HC0.out
      have HR336 := Zh (C_of_reads (h1 := fun _ => rfl) (hA9 _ (Kd.reads_of_C HR0.out)))
      have HC336 := Zh hC9
      clear hA9 hC9 hi09 hsz9
      go_wp2_with (first | ((with_reducible refine gate_callee (f := 52) rfl ?_); refine goesL_ (some 14) rfl rfl Tryd.func52 (by kernel_rfl) rfl #[.slice A9 (l0.drop (x5_1 : Int).toNat).length (c0 - x5_1.toNat)] rfl (by (try simp only [List.map_toArray, List.map_cons, List.map_nil]); first | done | (rw [show (l0.drop (x5_1 : Int).toNat).length = (l0.length - x5_1.toNat) from List.length_drop] <;> rfl) | rfl | (simp only [List.length_drop, List.length_take]; rfl)) ?_; (with_reducible refine (spec_l02One.calls k1 _ _ (l0.drop (x5_1 : Int).toNat) t337 _ ?side1 ?side2 A7.out).mono ?_); (case side1 => repeat (first | exact (C_below HR336.out HB.out) | (with_reducible refine C_alloc ?_ _) | (with_reducible refine C_drewN ?_ _) | (with_reducible refine C_drew ?_))); (case side2 => exact HC336.out); rintro e w10 ⟨v338, rfl, ho0, hb⟩; refine ⟨_, rfl, ?_⟩; have n0_ := Zh (S_elder' (by (with_reducible repeat (first | apply S_alloc | apply S_drewN | apply S_drew)); exact HO_4.out) (R_base ho0) hb); have n1_ := Zh (R_lower ho0 (below_size Zs)); have n2_ := Zh (Zl Zs hb); clear HO_4; clear HB; have HO_4 := n0_; have HO339 := n1_; have HB := n2_; clear n0_ n1_ n2_; (try clear hb); (try clear hb2); (try clear hk); (try clear hi); (try clear ho0); obtain ⟨Ao11, co11, eo11⟩ := R_slice HO339.out; subst eo11))
      go_ret2
      exact ⟨_, by first | rfl | (simp [errW_none, errW_some] <;> rfl) | (simp [*, errW_none, errW_some] <;> rfl), by (with_reducible repeat (first | apply S_alloc | apply S_drewN | apply S_drew)); exact S_mono HO_4.out (fun _ hk => trivial), by repeat (first | (with_reducible first | exact HB.out | apply Zf | apply Zd | apply Ze) | exact HB.out)⟩
     rw [if_neg c8] at H
     have c8b0 : ((t337.length : Int) == 0) = false := beq_eq_false_iff_ne.mpr c8
     have c8b1 : ((t337.length : Int) != 0) = true := bne_iff_ne.mpr c8
     have c8b2 : ¬ (t337 = []) := fun h_ => c8 (by rw [h_]; rfl)
     by_cases c12 : x4_1.length < 5864062014805
     ·
      rw [if_pos c12] at H
      have LMc12 := Zh c12
      clear c12
      obtain ⟨y340, hy340⟩ : ∃ y_ : List (List Int), y_ = (x4_1 ++ [t337]) := ⟨_, rfl⟩
      replace H : (spec_ScanFrames.l0 k1 l0 y340 (wrap64 ((wrap64 (x5_1 + 8)) + (t337.length : Int)))) = some (r1, r2) := by first | (rw [hy340]; with_reducible exact H) | (have H2_ := (Option.bind_some _ _).symm.trans H; rw [hy340]; with_reducible exact H2_) | (have H2_ := (Option.bind_some _ _).symm.trans H; with_reducible exact H2_) | with_reducible exact H | (rw [hy340]; exact H) | exact H
      have Ny340 := Zh hy340
      clear hy340
      have H' := Zh H
      clear H
      obtain ⟨i013, hi013, _, hsz13, _⟩ := info_parts info5
      obtain ⟨A13, hcut13, hA13, hC13⟩ := print_drop_of (P := Tryd.prog) (Value.int .u8) 0 41 5 .i64 Tryd.underlying41 hi013 hsz13 A0 c0 l0 x5_1 (Zo) (Zo) HC0.out
      have HR336 := Zh (C_of_reads (h1 := fun _ => rfl) (hA13 _ (Kd.reads_of_C HR0.out)))
      have HC336 := Zh hC13
      clear hA13 hC13 hi013 hsz13
      go_wp2_with (first | ((with_reducible refine gate_callee (f := 52) rfl ?_); refine goesL_ (some 14) rfl rfl Tryd.func52 (by kernel_rfl) rfl #[.slice A13 (l0.drop (x5_1 : Int).toNat).length (c0 - x5_1.toNat)] rfl (by (try simp only [List.map_toArray, List.map_cons, List.map_nil]); first | done | (rw [show (l0.drop (x5_1 : Int).toNat).length = (l0.length - x5_1.toNat) from List.length_drop] <;> rfl) | rfl | (simp only [List.length_drop, List.length_take]; rfl)) ?_; (with_reducible refine (spec_l02One.calls k1 _ _ (l0.drop (x5_1 : Int).toNat) t337 _ ?side1 ?side2 A7.out).mono ?_); (case side1 => repeat (first | exact (C_below HR336.out HB.out) | (with_reducible refine C_alloc ?_ _) | (with_reducible refine C_drewN ?_ _) | (with_reducible refine C_drew ?_))); (case side2 => exact HC336.out); rintro e w14 ⟨v338, rfl, ho0, hb⟩; refine ⟨_, rfl, ?_⟩; have n0_ := Zh (S_elder' (by (with_reducible repeat (first | apply S_alloc | apply S_drewN | apply S_drew)); exact HO_4.out) (R_base ho0) hb); have n1_ := Zh (R_lower ho0 (below_size Zs)); have n2_ := Zh (Zl Zs hb); clear HO_4; clear HB; have HO_4 := n0_; have HO339 := n1_; have HB := n2_; clear n0_ n1_ n2_; (try clear hb); (try clear hb2); (try clear hk); (try clear hi); (try clear ho0); obtain ⟨Ao15, co15, eo15⟩ := R_slice HO339.out; subst eo15) | ((with_reducible refine gate_builtin (b := .append) (xs := #[.tmp 20, .tmp 22]) rfl ?_); at_builtin; refine S_append (Kd.slice 5 (Kd.int .u8)) (w0 := w) w.heap.size rfl (.tmp 20) (.tmp 22) 36 41 (.slice none 0 0) 24 rfl Tryd.underlying36 info41 rfl (by decide) (by omega) u4 x4_1 t337 [.slice Ao15 t337.length co15] (fun _ => True) (fun k_ => some k_ = (.slice Ao15 t337.length co15 : Value).ownBlock) rfl rfl ?aP (fun k_ hk_ => ((R_mono (ok' := fun k_ => ((fun _ => True)) k_ ∧ some k_ ≠ (u4 : Value).ownBlock) (R_apart' (HO339.out) (S_typed HO_4.out) (by decide)) (fun k_ hk => ⟨trivial, hk.2⟩))).1 k_ hk_.symm) ?aF ?aO ?aB ?aS ?aL ?_; (case aP => exact M_row (R_mono (R_tight rfl (R_mono (ok' := fun k_ => ((fun _ => True)) k_ ∧ some k_ ≠ (u4 : Value).ownBlock) (R_apart' (HO339.out) (S_typed HO_4.out) (by decide)) (fun k_ hk => ⟨trivial, hk.2⟩))) (fun _ h_ => h_))); (case aB => exact Zs); (case aF => exact (fun _ _ => trivial)); (case aO => exact (by (with_reducible repeat (first | apply S_alloc | apply S_drewN | apply S_drew)); exact S_mono HO_4.out (fun k_ hk => ⟨trivial, fun e_ => hk.2 e_⟩))); (case aS => exact (below_size Zs)); (case aL => have := LMc12.out; omega); intro v341 w16 ho hb hg hat; rw [← Ny340.out] at ho; have n0_ := Zh (hb); have n1_ := Zh (ho); clear HB; clear HO_4; clear HO339; have HB := n0_; have HO342 := n1_; clear n0_ n1_; clear ho hb hg hat))
      go_roundg k1
      case measure => have := HK1.out; omega
      case rel => exact ⟨(y340), (wrap64 ((wrap64 (x5_1 + 8)) + (t337.length : Int))), (by first | rfl | (simp; done) | (simp [*]; done)), H', ⟨by have := HK1.out; omega⟩, ⟨by (with_reducible repeat (first | apply S_alloc | apply S_drewN | apply S_drew)); exact HO342.out⟩, ⟨by repeat (first | (with_reducible first | exact HB.out | apply Zf | apply Zd | apply Ze) | exact HB.out)⟩⟩
     rw [if_neg c12] at H
     exact absurd H (by simp)
    rw [if_neg c6] at H
    exact absurd H (by simp)
   rw [if_neg c5] at H
   exact absurd H (by simp)
def spec_WalRead.l0 : Nat → List Int → List (List Int) → Int → Option ((List (List Int)) × Int)
 | 0, _, _, _ => none
 | k + 1, x4, x6, x8 => if x8 < (x4.length : Int) then (if 0 ≤ x8 then (if x8 ≤ (x4.length : Int) then ((spec_l02One.f k (x4.drop (x8 : Int).toNat)).bind fun t356 => (if (t356.length : Int) > 0 then (some (x6, 2)) else (spec_WalRead.l0 k x4 x6 (wrap64 (x8 + 1))))) else (none)) else (none)) else (some (x6, 1))
def spec_WalRead.f (k : Nat) (l0_0 : List (S55)) : Option ((List (List Int)) × Int) := (spec_Content.f k l0_0 (⟨#[108, 111, 103]⟩ : ByteArray)).bind fun bt344 => (if bt344.2 = true then ((spec_ScanFrames.f k bt344.1).bind fun bt348 => (if bt348.2 = (bt344.1.length : Int) then (some (bt348.1, 0)) else (spec_WalRead.l0 k bt344.1 bt348.1 (wrap64 (bt348.2 + 1))))) else (some (([] : List (List Int)), 3)))
set_option maxHeartbeats 8000000 in
set_option maxRecDepth 100000 in
theorem spec_WalRead.calls (k : Nat) (A0_0 : Option Addr) (c0_0 : Nat) (l0_0 : List (S55)) (r1 : List (List Int)) (r2 : Int) (w : World) (hr0_0 : Kd.C k55 w A0_0 l0_0.length l0_0) (hc0_0 : l0_0.length ≤ c0_0) (h : spec_WalRead.f k l0_0 = some (r1, r2)) :
  Calls Tryd.prog 20 #[.agg #[.slice A0_0 l0_0.length c0_0]] w fun e w' => ∃ v0_ : Value, e = .returned (.tuple #[v0_, .int .i64 r2]) ∧ Kd.S (Kd.slice 5 (Kd.int .u8)) 41 w' w.heap.size (fun _ => True) v0_ r1 ∧ Below w.heap.size w w' := by
 have hu28 := Tryd.underlying28
 have HR0_0 := Zh hr0_0
 have HC0_0 := Zh hc0_0
 clear hr0_0 hc0_0
 have HB := Zh (Below.refl w.heap.size w)
 have H : ((spec_Content.f k l0_0 (⟨#[108, 111, 103]⟩ : ByteArray)).bind fun bt344 => (if bt344.2 = true then ((spec_ScanFrames.f k bt344.1).bind fun bt348 => (if bt348.2 = (bt344.1.length : Int) then (some (bt348.1, 0)) else (spec_WalRead.l0 k bt344.1 bt348.1 (wrap64 (bt348.2 + 1))))) else (some (([] : List (List Int)), 3)))) = some (r1, r2) := h
 clear h
 replace H := Option.bind_eq_some_iff.mp H
 obtain ⟨⟨t344, t347⟩, A20, H⟩ := H
 replace H : (if t347 = true then ((spec_ScanFrames.f k t344).bind fun bt348 => (if bt348.2 = (t344.length : Int) then (some (bt348.1, 0)) else (spec_WalRead.l0 k t344 bt348.1 (wrap64 (bt348.2 + 1))))) else (some (([] : List (List Int)), 3))) = some (r1, r2) := H
 have A2 := Zh A20
 clear A20
 by_cases c3 : t347 = true
 ·
  subst c3
  have H1 : ((spec_ScanFrames.f k t344).bind fun bt348 => (if bt348.2 = (t344.length : Int) then (some (bt348.1, 0)) else (spec_WalRead.l0 k t344 bt348.1 (wrap64 (bt348.2 + 1))))) = some (r1, r2) := by rw [if_pos rfl] at H; exact H
  clear H
  have H := H1
  clear H1
  replace H := Option.bind_eq_some_iff.mp H
  obtain ⟨⟨t348, t349⟩, A40, H⟩ := H
  replace H : (if t349 = (t344.length : Int) then (some (t348, 0)) else (spec_WalRead.l0 k t344 t348 (wrap64 (t349 + 1)))) = some (r1, r2) := H
  have A4 := Zh A40
  clear A40
  by_cases c5 : t349 = (t344.length : Int)
  ·
   rw [if_pos c5] at H
   have c5b0 : (t349 == (t344.length : Int)) = true := beq_iff_eq.mpr c5
   have c5b1 : (t349 != (t344.length : Int)) = false := bne_eq_false_iff_eq.mpr c5
   clear c5
   simp only [Option.some.injEq, Prod.mk.injEq] at H
   obtain ⟨rfl, rfl⟩ := H
   go_enter Tryd.func20, Tryd.ntmps20
   go_wp2_with (first | ((with_reducible refine gate_dst (N := 1) rfl ?_); refine box_event ?hg (N := 1) ?hd (cs := #[.slice A0_0 l0_0.length c0_0]) (t := 28) ?hr ?_; (case hd => rfl); (case hg => rfl); (case hr => first | (go_simp; done) | (go_simp; rfl)); intro gb343 hg w6 hbox hb; have n0_ := Zh (Zl Zs hb); have n1_ := Zh (hbox); have n2_ := Zh ((by rw [hg]; exact (below_size Zs) : w.heap.size ≤ gb343)); have n3_ := Zh ((by rw [hg]; exact (below_size Zs) : w.heap.size ≤ gb343)); clear HB; have HB := n0_; have BK343 := n1_; have GW343 := n2_; have GE343 := n3_; clear n0_ n1_ n2_ n3_; clear hb hbox hg; have hcz7_0 : w6.cell? ⟨gb343, 0, none⟩ = some (.slice A0_0 l0_0.length c0_0) := (blk_cell BK343.out 0).trans rfl; have hfz7_0 := Zn BK343.out 0) | ((with_reducible refine gate_callee (f := 50) rfl ?_); refine goesL_ (some 11) rfl rfl Tryd.func50 (by kernel_rfl) rfl #[.agg #[.slice A0_0 l0_0.length c0_0], .string (⟨#[108, 111, 103]⟩ : ByteArray)] rfl (by (try simp only [List.map_toArray, List.map_cons, List.map_nil]); first | done | rfl | (simp only [List.length_drop, List.length_take]; rfl)) ?_; (with_reducible refine (spec_Content.calls k _ _ l0_0 (⟨#[108, 111, 103]⟩ : ByteArray) t344 true _ ?side1 ?side2 A2.out).mono ?_); (case side1 => repeat (first | exact (C_below HR0_0.out HB.out) | (with_reducible refine C_alloc ?_ _) | (with_reducible refine C_drewN ?_ _) | (with_reducible refine C_drew ?_))); (case side2 => exact HC0_0.out); rintro e w8 ⟨v345, rfl, ho0, hb⟩; refine ⟨_, rfl, ?_⟩; have n0_ := Zh (R_lower ho0 (below_size Zs)); have n1_ := Zh (Zm (g := gb343) (o := .cells #[.slice A0_0 l0_0.length c0_0] 28 (0, 0)) Zk hb); have n2_ := Zh (Zl Zs hb); clear BK343; clear HB; have HO346 := n0_; have BK343 := n1_; have HB := n2_; clear n0_ n1_ n2_; (try clear hb); (try clear hb2); (try clear hk); (try clear hi); (try clear ho0); obtain ⟨Ao9, co9, eo9⟩ := R_slice HO346.out; subst eo9) | ((with_reducible refine gate_callee (f := 51) rfl ?_); refine goesL_ (some 18) rfl rfl Tryd.func51 (by kernel_rfl) rfl #[.slice Ao9 t344.length co9] rfl (by (try simp only [List.map_toArray, List.map_cons, List.map_nil]); first | done | rfl | (simp only [List.length_drop, List.length_take]; rfl)) ?_; (with_reducible refine (spec_ScanFrames.calls k _ _ t344 t348 t349 _ ?side1 ?side2 A4.out).mono ?_); (case side1 => repeat (first | exact (R_reads' HO346.out).2.2 | (with_reducible refine C_alloc ?_ _) | (with_reducible refine C_drewN ?_ _) | (with_reducible refine C_drew ?_))); (case side2 => exact (R_reads' HO346.out).2.1); rintro e w10 ⟨v350, rfl, ho0, hb⟩; refine ⟨_, rfl, ?_⟩; have n0_ := Zh (R_below (by (with_reducible repeat (first | apply R_alloc | apply R_drewN | apply R_drew)); exact HO346.out) hb); have n1_ := Zh (S_lower (S_new' ho0 (R_lt (by (with_reducible repeat (first | apply R_alloc | apply R_drewN | apply R_drew)); exact HO346.out))) (below_size Zs)); have n2_ := Zh (Zm (g := gb343) (o := .cells #[.slice A0_0 l0_0.length c0_0] 28 (0, 0)) Zk hb); have n3_ := Zh (Zl Zs hb); clear HO346; clear BK343; clear HB; have HO346 := n0_; have HO351 := n1_; have BK343 := n2_; have HB := n3_; clear n0_ n1_ n2_ n3_; (try clear hb); (try clear hb2); (try clear hk); (try clear hi); (try clear ho0)))
   go_ret2
   exact ⟨_, by first | rfl | (simp [errW_none, errW_some] <;> rfl) | (simp [*, errW_none, errW_some] <;> rfl), by (with_reducible repeat (first | apply S_alloc | apply S_drewN | apply S_drew)); exact S_mono HO351.out (fun _ hk => trivial), by repeat (first | (with_reducible first | exact HB.out | apply Zf | apply Zd | apply Ze | refine Zg ?_ GE343.out) | exact HB.out)⟩
  rw [if_neg c5] at H
  have c5b0 : (t349 == (t344.length : Int)) = false := beq_eq_false_iff_ne.mpr c5
  have c5b1 : (t349 != (t344.length : Int)) = true := bne_iff_ne.mpr c5
  have H' := Zh H
  clear H
  go_enter Tryd.func20, Tryd.ntmps20
  go_wp2_with (first | ((with_reducible refine gate_dst (N := 1) rfl ?_); refine box_event ?hg (N := 1) ?hd (cs := #[.slice A0_0 l0_0.length c0_0]) (t := 28) ?hr ?_; (case hd => rfl); (case hg => rfl); (case hr => first | (go_simp; done) | (go_simp; rfl)); intro gb343 hg w11 hbox hb; have n0_ := Zh (Zl Zs hb); have n1_ := Zh (hbox); have n2_ := Zh ((by rw [hg]; exact (below_size Zs) : w.heap.size ≤ gb343)); have n3_ := Zh ((by rw [hg]; exact (below_size Zs) : w.heap.size ≤ gb343)); clear HB; have HB := n0_; have BK343 := n1_; have GW343 := n2_; have GE343 := n3_; clear n0_ n1_ n2_ n3_; clear hb hbox hg; have hcz12_0 : w11.cell? ⟨gb343, 0, none⟩ = some (.slice A0_0 l0_0.length c0_0) := (blk_cell BK343.out 0).trans rfl; have hfz12_0 := Zn BK343.out 0) | ((with_reducible refine gate_callee (f := 50) rfl ?_); refine goesL_ (some 11) rfl rfl Tryd.func50 (by kernel_rfl) rfl #[.agg #[.slice A0_0 l0_0.length c0_0], .string (⟨#[108, 111, 103]⟩ : ByteArray)] rfl (by (try simp only [List.map_toArray, List.map_cons, List.map_nil]); first | done | rfl | (simp only [List.length_drop, List.length_take]; rfl)) ?_; (with_reducible refine (spec_Content.calls k _ _ l0_0 (⟨#[108, 111, 103]⟩ : ByteArray) t344 true _ ?side1 ?side2 A2.out).mono ?_); (case side1 => repeat (first | exact (C_below HR0_0.out HB.out) | (with_reducible refine C_alloc ?_ _) | (with_reducible refine C_drewN ?_ _) | (with_reducible refine C_drew ?_))); (case side2 => exact HC0_0.out); rintro e w13 ⟨v345, rfl, ho0, hb⟩; refine ⟨_, rfl, ?_⟩; have n0_ := Zh (R_lower ho0 (below_size Zs)); have n1_ := Zh (Zm (g := gb343) (o := .cells #[.slice A0_0 l0_0.length c0_0] 28 (0, 0)) Zk hb); have n2_ := Zh (Zl Zs hb); clear BK343; clear HB; have HO346 := n0_; have BK343 := n1_; have HB := n2_; clear n0_ n1_ n2_; (try clear hb); (try clear hb2); (try clear hk); (try clear hi); (try clear ho0); obtain ⟨Ao14, co14, eo14⟩ := R_slice HO346.out; subst eo14) | ((with_reducible refine gate_callee (f := 51) rfl ?_); refine goesL_ (some 18) rfl rfl Tryd.func51 (by kernel_rfl) rfl #[.slice Ao14 t344.length co14] rfl (by (try simp only [List.map_toArray, List.map_cons, List.map_nil]); first | done | rfl | (simp only [List.length_drop, List.length_take]; rfl)) ?_; (with_reducible refine (spec_ScanFrames.calls k _ _ t344 t348 t349 _ ?side1 ?side2 A4.out).mono ?_); (case side1 => repeat (first | exact (R_reads' HO346.out).2.2 | (with_reducible refine C_alloc ?_ _) | (with_reducible refine C_drewN ?_ _) | (with_reducible refine C_drew ?_))); (case side2 => exact (R_reads' HO346.out).2.1); rintro e w15 ⟨v350, rfl, ho0, hb⟩; refine ⟨_, rfl, ?_⟩; have n0_ := Zh (R_below (by (with_reducible repeat (first | apply R_alloc | apply R_drewN | apply R_drew)); exact HO346.out) hb); have n1_ := Zh (S_lower (S_new' ho0 (R_lt (by (with_reducible repeat (first | apply R_alloc | apply R_drewN | apply R_drew)); exact HO346.out))) (below_size Zs)); have n2_ := Zh (Zm (g := gb343) (o := .cells #[.slice A0_0 l0_0.length c0_0] 28 (0, 0)) Zk hb); have n3_ := Zh (Zl Zs hb); clear HO346; clear BK343; clear HB; have HO346 := n0_; have HO351 := n1_; have BK343 := n2_; have HB := n3_; clear n0_ n1_ n2_ n3_; (try clear hb); (try clear hb2); (try clear hk); (try clear hi); (try clear ho0)))
  go_loopg [8] k (fun kq v8 w' => ∃ (x8_1 : Int), v8 = .int .i64 x8_1 ∧ Aside0 (spec_WalRead.l0 kq t344 t348 x8_1 = some (r1, r2)) ∧ Aside0 (kq ≤ k) ∧ Aside0 (Kd.R (Kd.int .u8) 5 w' w.heap.size (fun _ => True) (.slice Ao14 t344.length co14) t344) ∧ Aside0 (Kd.S (Kd.slice 5 (Kd.int .u8)) 41 w' w.heap.size (fun k_ => some k_ ≠ ((.slice Ao14 t344.length co14) : Value).ownBlock) v350 t348) ∧ Aside0 (w'.heap[gb343]? = some (.cells #[(.slice A0_0 l0_0.length c0_0)] 28 (0, 0))) ∧ Aside0 (Below w.heap.size w w'))
  case atStart => exact ⟨(wrap64 (t349 + 1)), (by first | rfl | (simp; done) | (simp [*]; done)), H', ⟨Nat.le_refl _⟩, ⟨by (with_reducible repeat (first | apply R_alloc | apply R_drewN | apply R_drew)); exact HO346.out⟩, ⟨by (with_reducible repeat (first | apply S_alloc | apply S_drewN | apply S_drew)); exact S_mono HO351.out (fun _ hk => hk.2)⟩, ⟨by (with_reducible repeat (first | refine Za ?_ _ | refine Zb ?_ | refine blk_alloc ?_ _)); exact BK343.out⟩, ⟨by repeat (first | (with_reducible first | exact HB.out | apply Zf | apply Zd | apply Ze | refine Zg ?_ GE343.out) | exact HB.out)⟩⟩
  case round =>
   clear H'
   try clear c2
   try clear p2
   try clear c3
   try clear c5
   try clear c5b0
   try clear c5b1
   try clear p6
   try clear hcz12_0
   try clear hcz7_0
   try clear hfz12_0
   try clear hfz7_0
   obtain ⟨x8_1, rfl, HA, HK1, HO_4, HO_6, BK343, HB⟩ := hrel
   cases gk with
   | zero => exact absurd HA.out (by simp [spec_WalRead.l0])
   | succ k1 =>
    have H := HA.out
    clear HA
    simp only [spec_WalRead.l0] at H
    by_cases c16 : x8_1 < (t344.length : Int)
    ·
     rw [if_pos c16] at H
     have c16b0 : decide (x8_1 < (t344.length : Int)) = true := decide_eq_true c16
     clear c16
     by_cases c17 : 0 ≤ x8_1
     ·
      rw [if_pos c17] at H
      have c17b0 := eq_true c17
      have c17b1 : decide (0 ≤ x8_1) = true := decide_eq_true c17
      clear c17
      by_cases c18 : x8_1 ≤ (t344.length : Int)
      ·
       rw [if_pos c18] at H
       have c18b0 := eq_true c18
       have c18b1 : decide (x8_1 ≤ (t344.length : Int)) = true := decide_eq_true c18
       clear c18
       obtain ⟨y352, hy352⟩ : ∃ y_ : List Int, y_ = (t344.drop (x8_1 : Int).toNat) := ⟨_, rfl⟩
       replace H : ((spec_l02One.f k1 y352).bind fun t356 => (if (t356.length : Int) > 0 then (some (t348, 2)) else (spec_WalRead.l0 k1 t344 t348 (wrap64 (x8_1 + 1))))) = some (r1, r2) := by first | (rw [hy352]; with_reducible exact H) | (have H2_ := (Option.bind_some _ _).symm.trans H; rw [hy352]; with_reducible exact H2_) | (have H2_ := (Option.bind_some _ _).symm.trans H; with_reducible exact H2_) | with_reducible exact H | (rw [hy352]; exact H) | exact H
       have Ny352 := Zh hy352
       clear hy352
       replace H := Option.bind_eq_some_iff.mp H
       obtain ⟨t356, A190, H⟩ := H
       replace H : (if (t356.length : Int) > 0 then (some (t348, 2)) else (spec_WalRead.l0 k1 t344 t348 (wrap64 (x8_1 + 1)))) = some (r1, r2) := H
       have A19 := Zh A190
       clear A190
       by_cases c20 : (t356.length : Int) > 0
       ·
        rw [if_pos c20] at H
        have c20b0 : decide (0 < (t356.length : Int)) = true := decide_eq_true c20
        have c20b1 : decide (0 < t356.length) = true := decide_eq_true (by omega)
        clear c20
        simp only [Option.some.injEq, Prod.mk.injEq] at H
        obtain ⟨rfl, rfl⟩ := H
        have q21 : (x8_1 : Int) ≤ ((t344.length : Int) : Int) := Zo
        obtain ⟨i021, hi021, _, hsz21, _⟩ := info_parts info5
        have hroom21 : t344.length ≤ co14 := (R_reads' HO_4.out).2.1
        have hC21 : Kd.C (Kd.int .u8) _ Ao14 t344.length t344 := (R_reads' HO_4.out).2.2
        have q021 : (0 : Int) ≤ (x8_1 : Int) := Zo
        have hcut21 := cut_from (P := Tryd.prog) 41 5 .i64 Tryd.underlying41 hi021 1 hsz21 Ao14 t344.length co14 x8_1 q021 q21
        have hr21 := C_drop (m := (x8_1 : Int).toNat) (c := co14) hC21 (by omega) hroom21
        obtain ⟨A21, hA21⟩ : ∃ A1, A1 = (if co14 = (x8_1 : Int).toNat then Ao14 else (Ao14 : Option Addr).map (·.add ((x8_1 : Int).toNat * 1))) := ⟨_, rfl⟩
        obtain ⟨c21, hc21⟩ : ∃ c1, c1 = co14 - (x8_1 : Int).toNat := ⟨_, rfl⟩
        have hy21 : y352.length = t344.length - (x8_1 : Int).toNat := (by rw [Ny352.out, List.length_drop] <;> omega)
        rw [show (t344).drop (x8_1 : Int).toNat = y352 from Ny352.out.symm] at hr21
        replace hr21 : Kd.C (Kd.int .u8) _ A21 y352.length y352 := (by rw [hA21]; exact hr21)
        rw [← hy21, ← hA21, ← hc21] at hcut21
        have HR355 := Zh hr21
        have HC355 := Zh (show y352.length ≤ c21 from by rw [hy21, hc21]; exact Nat.sub_le_sub_right hroom21 _)
        clear hr21 hC21 hroom21 hi021 hsz21 hc21
        have KY21 := Zh hy21
        have KA21 := Zh hA21
        clear hy21 hA21
        have KL21 := Zh (show (x8_1 : Int).toNat ≤ t344.length from by omega)
        replace q21 := eq_true q21
        go_wp2_with (first | ((with_reducible refine gate_callee (f := 52) rfl ?_); refine goesL_ (some 37) rfl rfl Tryd.func52 (by kernel_rfl) rfl #[.slice A21 y352.length c21] rfl (by (try simp only [List.map_toArray, List.map_cons, List.map_nil]); first | done | rfl | (simp only [List.length_drop, List.length_take]; rfl)) ?_; (with_reducible refine (spec_l02One.calls k1 _ _ y352 t356 _ ?side1 ?side2 A19.out).mono ?_); (case side1 => repeat (first | exact (by repeat (first | (with_reducible exact HR355.out) | (with_reducible refine C_alloc ?_ _) | (with_reducible refine C_drewN ?_ _) | (with_reducible refine C_drew ?_) | exact HR355.out)) | (with_reducible refine C_alloc ?_ _) | (with_reducible refine C_drewN ?_ _) | (with_reducible refine C_drew ?_))); (case side2 => exact HC355.out); rintro e w22 ⟨v357, rfl, ho0, hb⟩; refine ⟨_, rfl, ?_⟩; have n0_ := Zh (R_elder' (by (with_reducible repeat (first | apply R_alloc | apply R_drewN | apply R_drew)); exact HO_4.out) (R_base ho0) hb); have n1_ := Zh (S_elder' (by (with_reducible repeat (first | apply S_alloc | apply S_drewN | apply S_drew)); exact HO_6.out) (R_base ho0) hb); have n2_ := Zh (R_lower (R_new' ho0 (R_lt (by (with_reducible repeat (first | apply R_alloc | apply R_drewN | apply R_drew)); exact HO_4.out))) (below_size Zs)); have n3_ := Zh (Zm (g := gb343) (o := .cells #[.slice A0_0 l0_0.length c0_0] 28 (0, 0)) Zk hb); have n4_ := Zh (C_below (by repeat (first | (with_reducible exact HR355.out) | (with_reducible refine C_alloc ?_ _) | (with_reducible refine C_drewN ?_ _) | (with_reducible refine C_drew ?_) | exact HR355.out)) hb); have n5_ := Zh (Zl Zs hb); clear HO_4; clear HO_6; clear BK343; clear HR355; clear HB; have HO_4 := n0_; have HO_6 := n1_; have HO358 := n2_; have BK343 := n3_; have HR355 := n4_; have HB := n5_; clear n0_ n1_ n2_ n3_ n4_ n5_; (try clear hb); (try clear hb2); (try clear hk); (try clear hi); (try clear ho0); obtain ⟨Ao23, co23, eo23⟩ := R_slice HO358.out; subst eo23))
        go_ret2
        exact ⟨_, by first | rfl | (simp [errW_none, errW_some] <;> rfl) | (simp [*, errW_none, errW_some] <;> rfl), by (with_reducible repeat (first | apply S_alloc | apply S_drewN | apply S_drew)); exact S_mono HO_6.out (fun _ hk => trivial), by repeat (first | (with_reducible first | exact HB.out | apply Zf | apply Zd | apply Ze | refine Zg ?_ GE343.out) | exact HB.out)⟩
       rw [if_neg c20] at H
       have c20b0 : decide (0 < (t356.length : Int)) = false := decide_eq_false c20
       have c20b1 : decide (0 < t356.length) = false := decide_eq_false (by omega)
       clear c20
       have H' := Zh H
       clear H
       have q24 : (x8_1 : Int) ≤ ((t344.length : Int) : Int) := Zo
       obtain ⟨i024, hi024, _, hsz24, _⟩ := info_parts info5
       have hroom24 : t344.length ≤ co14 := (R_reads' HO_4.out).2.1
       have hC24 : Kd.C (Kd.int .u8) _ Ao14 t344.length t344 := (R_reads' HO_4.out).2.2
       have q024 : (0 : Int) ≤ (x8_1 : Int) := Zo
       have hcut24 := cut_from (P := Tryd.prog) 41 5 .i64 Tryd.underlying41 hi024 1 hsz24 Ao14 t344.length co14 x8_1 q024 q24
       have hr24 := C_drop (m := (x8_1 : Int).toNat) (c := co14) hC24 (by omega) hroom24
       obtain ⟨A24, hA24⟩ : ∃ A1, A1 = (if co14 = (x8_1 : Int).toNat then Ao14 else (Ao14 : Option Addr).map (·.add ((x8_1 : Int).toNat * 1))) := ⟨_, rfl⟩
       obtain ⟨c24, hc24⟩ : ∃ c1, c1 = co14 - (x8_1 : Int).toNat := ⟨_, rfl⟩
       have hy24 : y352.length = t344.length - (x8_1 : Int).toNat := (by rw [Ny352.out, List.length_drop] <;> omega)
       rw [show (t344).drop (x8_1 : Int).toNat = y352 from Ny352.out.symm] at hr24
       replace hr24 : Kd.C (Kd.int .u8) _ A24 y352.length y352 := (by rw [hA24]; exact hr24)
       rw [← hy24, ← hA24, ← hc24] at hcut24
       have HR355 := Zh hr24
       have HC355 := Zh (show y352.length ≤ c24 from by rw [hy24, hc24]; exact Nat.sub_le_sub_right hroom24 _)
       clear hr24 hC24 hroom24 hi024 hsz24 hc24
       have KY24 := Zh hy24
       have KA24 := Zh hA24
       clear hy24 hA24
       have KL24 := Zh (show (x8_1 : Int).toNat ≤ t344.length from by omega)
       replace q24 := eq_true q24
       go_wp2_with (first | ((with_reducible refine gate_callee (f := 52) rfl ?_); refine goesL_ (some 37) rfl rfl Tryd.func52 (by kernel_rfl) rfl #[.slice A24 y352.length c24] rfl (by (try simp only [List.map_toArray, List.map_cons, List.map_nil]); first | done | rfl | (simp only [List.length_drop, List.length_take]; rfl)) ?_; (with_reducible refine (spec_l02One.calls k1 _ _ y352 t356 _ ?side1 ?side2 A19.out).mono ?_); (case side1 => repeat (first | exact (by repeat (first | (with_reducible exact HR355.out) | (with_reducible refine C_alloc ?_ _) | (with_reducible refine C_drewN ?_ _) | (with_reducible refine C_drew ?_) | exact HR355.out)) | (with_reducible refine C_alloc ?_ _) | (with_reducible refine C_drewN ?_ _) | (with_reducible refine C_drew ?_))); (case side2 => exact HC355.out); rintro e w25 ⟨v357, rfl, ho0, hb⟩; refine ⟨_, rfl, ?_⟩; have n0_ := Zh (R_elder' (by (with_reducible repeat (first | apply R_alloc | apply R_drewN | apply R_drew)); exact HO_4.out) (R_base ho0) hb); have n1_ := Zh (S_elder' (by (with_reducible repeat (first | apply S_alloc | apply S_drewN | apply S_drew)); exact HO_6.out) (R_base ho0) hb); have n2_ := Zh (R_lower (R_new' ho0 (R_lt (by (with_reducible repeat (first | apply R_alloc | apply R_drewN | apply R_drew)); exact HO_4.out))) (below_size Zs)); have n3_ := Zh (Zm (g := gb343) (o := .cells #[.slice A0_0 l0_0.length c0_0] 28 (0, 0)) Zk hb); have n4_ := Zh (C_below (by repeat (first | (with_reducible exact HR355.out) | (with_reducible refine C_alloc ?_ _) | (with_reducible refine C_drewN ?_ _) | (with_reducible refine C_drew ?_) | exact HR355.out)) hb); have n5_ := Zh (Zl Zs hb); clear HO_4; clear HO_6; clear BK343; clear HR355; clear HB; have HO_4 := n0_; have HO_6 := n1_; have HO358 := n2_; have BK343 := n3_; have HR355 := n4_; have HB := n5_; clear n0_ n1_ n2_ n3_ n4_ n5_; (try clear hb); (try clear hb2); (try clear hk); (try clear hi); (try clear ho0); obtain ⟨Ao26, co26, eo26⟩ := R_slice HO358.out; subst eo26))
       go_roundg k1
       case measure => have := HK1.out; omega
       case rel => exact ⟨(wrap64 (x8_1 + 1)), (by first | rfl | (simp; done) | (simp [*]; done)), H', ⟨by have := HK1.out; omega⟩, ⟨by (with_reducible repeat (first | apply R_alloc | apply R_drewN | apply R_drew)); exact R_mono HO_4.out (fun _ hk => trivial)⟩, ⟨by (with_reducible repeat (first | apply S_alloc | apply S_drewN | apply S_drew)); exact S_mono HO_6.out (fun _ hk => hk.1)⟩, ⟨by (with_reducible repeat (first | refine Za ?_ _ | refine Zb ?_ | refine blk_alloc ?_ _)); exact BK343.out⟩, ⟨by repeat (first | (with_reducible first | exact HB.out | apply Zf | apply Zd | apply Ze | refine Zg ?_ GE343.out) | exact HB.out)⟩⟩
      rw [if_neg c18] at H
      exact absurd H (by simp)
     rw [if_neg c17] at H
     exact absurd H (by simp)
    rw [if_neg c16] at H
    have c16b0 : decide (x8_1 < (t344.length : Int)) = false := decide_eq_false c16
    clear c16
    simp only [Option.some.injEq, Prod.mk.injEq] at H
    obtain ⟨rfl, rfl⟩ := H
    go_wp2
    go_ret2
    exact ⟨_, by first | rfl | (simp [errW_none, errW_some] <;> rfl) | (simp [*, errW_none, errW_some] <;> rfl), by (with_reducible repeat (first | apply S_alloc | apply S_drewN | apply S_drew)); exact S_mono HO_6.out (fun _ hk => trivial), by repeat (first | (with_reducible first | exact HB.out | apply Zf | apply Zd | apply Ze | refine Zg ?_ GE343.out) | exact HB.out)⟩
 replace c3 := Bool.eq_false_iff.mpr c3
 subst c3
 have H1 : (some (([] : List (List Int)), 3)) = some (r1, r2) := by rw [if_neg (show ¬ (false = true) by decide)] at H; exact H
 clear H
 have H := H1
 clear H1
 simp only [Option.some.injEq, Prod.mk.injEq] at H
 obtain ⟨rfl, rfl⟩ := H
 go_enter Tryd.func20, Tryd.ntmps20
 go_wp2_with (first | ((with_reducible refine gate_dst (N := 1) rfl ?_); refine box_event ?hg (N := 1) ?hd (cs := #[.slice A0_0 l0_0.length c0_0]) (t := 28) ?hr ?_; (case hd => rfl); (case hg => rfl); (case hr => first | (go_simp; done) | (go_simp; rfl)); intro gb343 hg w27 hbox hb; have n0_ := Zh (Zl Zs hb); have n1_ := Zh (hbox); have n2_ := Zh ((by rw [hg]; exact (below_size Zs) : w.heap.size ≤ gb343)); have n3_ := Zh ((by rw [hg]; exact (below_size Zs) : w.heap.size ≤ gb343)); clear HB; have HB := n0_; have BK343 := n1_; have GW343 := n2_; have GE343 := n3_; clear n0_ n1_ n2_ n3_; clear hb hbox hg; have hcz28_0 : w27.cell? ⟨gb343, 0, none⟩ = some (.slice A0_0 l0_0.length c0_0) := (blk_cell BK343.out 0).trans rfl; have hfz28_0 := Zn BK343.out 0) | ((with_reducible refine gate_callee (f := 50) rfl ?_); refine goesL_ (some 11) rfl rfl Tryd.func50 (by kernel_rfl) rfl #[.agg #[.slice A0_0 l0_0.length c0_0], .string (⟨#[108, 111, 103]⟩ : ByteArray)] rfl (by (try simp only [List.map_toArray, List.map_cons, List.map_nil]); first | done | rfl | (simp only [List.length_drop, List.length_take]; rfl)) ?_; (with_reducible refine (spec_Content.calls k _ _ l0_0 (⟨#[108, 111, 103]⟩ : ByteArray) t344 false _ ?side1 ?side2 A2.out).mono ?_); (case side1 => repeat (first | exact (C_below HR0_0.out HB.out) | (with_reducible refine C_alloc ?_ _) | (with_reducible refine C_drewN ?_ _) | (with_reducible refine C_drew ?_))); (case side2 => exact HC0_0.out); rintro e w29 ⟨v345, rfl, ho0, hb⟩; refine ⟨_, rfl, ?_⟩; have n0_ := Zh (R_lower ho0 (below_size Zs)); have n1_ := Zh (Zm (g := gb343) (o := .cells #[.slice A0_0 l0_0.length c0_0] 28 (0, 0)) Zk hb); have n2_ := Zh (Zl Zs hb); clear BK343; clear HB; have HO346 := n0_; have BK343 := n1_; have HB := n2_; clear n0_ n1_ n2_; (try clear hb); (try clear hb2); (try clear hk); (try clear hi); (try clear ho0)))
 go_ret2
 exact ⟨_, by first | rfl | (simp [errW_none, errW_some] <;> rfl) | (simp [*, errW_none, errW_some] <;> rfl), by first | exact S_nil _ _ _ _ _ | exact N_nil _ _ _ _ _ | exact V_nil _ _ _ _ _ | exact Q_nil _ _ _ _ _ | exact R_nil _ _ _ _ _, by repeat (first | (with_reducible first | exact HB.out | apply Zf | apply Zd | apply Ze | refine Zg ?_ GE343.out) | exact HB.out)⟩
end Go.Proofs.YtcgojdhbphocgaaDoor.F
