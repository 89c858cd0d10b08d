/- Merged texts below the law FnWal: Go functions as Lean functions, their contracts, and plain lemmas. -/
import Derived.Test.YtcgojdhbphocgaaDoorQFnWal14
import Derived.Test.YtcgojdhbphocgaaDoorQFnWal23
import Derived.Test.YtcgojdhbphocgaaDoorQFnWal24
import Derived.Test.YtcgojdhbphocgaaDoorQFnWal25
import Derived.Test.YtcgojdhbphocgaaDoorVFnWalA
import Derived.Test.YtcgojdhbphocgaaDoorVFnWalMore
namespace Go.Proofs.YtcgojdhbphocgaaDoor.F
open Go.Proofs.YtcgojdhbphocgaaDoor
open Go.RowKit Go.Proofs.YtcgojdhbphocgaaDoorW.PrintWords Go.Proofs.YtcgojdhbphocgaaDoorW.PrintWords.Kd Go.Proofs.YtcgojdhbphocgaaDoorW.PrintMore.Kd Go.Proofs.YtcgojdhbphocgaaDoorW.PrintLast Go.Proofs.YtcgojdhbphocgaaDoorW.PrintMore
attribute [local go_sem] max2_int min2_int max_two min_two max_three min_three max_four min_four   -- for this text's walks alone
set_option linter.unusedVariables false
set_option linter.unusedSimpArgs false
mutual
def laws_FnWal.l0 : Nat → List (List Int) → Int → Int → List (S55) → Option (Bool)
 | 0, _, _, _, _ => none
 | k + 1, x4, x5, x6, x770000 => if x6 < (x4.length : Int) then (if 0 ≤ x6 then ((impl_WalAppend.f k x770000 (rd_L2 x4 x6)).bind fun bt771 => (if bt771.2 = true then (laws_FnWal.l0 k x4 x5 (wrap64 (x6 + 1)) bt771.1) else (none))) else (none)) else ((impl_WalRead.f k x770000).bind fun bt776 => (if (x4.length : Int) > 0 then (if bt776.2 = 0 then (if (bt776.1.length : Int) < (x4.length : Int) then (none) else (if 0 ≤ (wrap64 ((bt776.1.length : Int) - (x4.length : Int))) then (if (wrap64 ((bt776.1.length : Int) - (x4.length : Int))) ≤ (bt776.1.length : Int) then ((laws_samePayloads.f k (bt776.1.drop ((wrap64 ((bt776.1.length : Int) - (x4.length : Int))) : Int).toNat) x4).bind fun t784 => (laws_FnWal.j1 k x5 bt776.1 (!t784) x770000)) else (none)) else (none))) else (none)) else (laws_FnWal.j1 k x5 bt776.1 false x770000)))
def laws_FnWal.j1 : Nat → Int → List (List Int) → Bool → List (S55) → Option (Bool)
 | 0, _, _, _, _ => none
 | k + 1, x5, x9, x82, x770000 => if x82 = true then (none) else (laws_FnWal.l1 k x5 x9 (([] : List Int)) 0 x770000)
def laws_FnWal.l1 : Nat → Int → List (List Int) → List Int → Int → List (S55) → Option (Bool)
 | 0, _, _, _, _, _ => none
 | k + 1, x5, x9, x11, x12, x770000 => if x12 < 8 then (if x11.length < 17592186044416 then (laws_FnWal.l1 k x5 x9 (x11 ++ [x5]) (wrap64 (x12 + 1)) x770000) else (none)) else ((impl_Crash.f k x770000 x11 ([] : List Int)).bind fun t791 => ((impl_WalRead.f k t791).bind fun bt795 => ((laws_starts.f k x9 bt795.1).bind fun t799 => (if t799 = true then ((impl_WalSync.f k x770000).bind fun bt800 => (if bt800.2 = true then ((impl_Crash.f k bt800.1 ([] : List Int) ([] : List Int)).bind fun t805 => ((impl_WalRead.f k t805).bind fun bt808 => (if bt808.2 = 0 then ((laws_samePayloads.f k bt808.1 x9).bind fun t812 => (if t812 = true then (laws_FnWal.j3 k bt795.1 bt795.2 t791) else (none))) else (none)))) else (laws_FnWal.j3 k bt795.1 bt795.2 t791))) else (none)))))
def laws_FnWal.j3 : Nat → List (List Int) → Int → List (S55) → Option (Bool)
 | 0, _, _, _ => none
 | k + 1, x14, x15, x795000 => (spec_WalRead.f k x795000).bind fun bt813 => (if x15 = bt813.2 then (if bt813.2 = 2 then (laws_FnWal.j4 k x14 x15 bt813.2 true x795000) else (laws_FnWal.j4 k x14 x15 bt813.2 (bt813.2 == 3) x795000)) else (laws_FnWal.j4 k x14 x15 bt813.2 true x795000))
def laws_FnWal.j4 : Nat → List (List Int) → Int → Int → Bool → List (S55) → Option (Bool)
 | 0, _, _, _, _, _ => none
 | k + 1, x14, x15, x21, x139, x795000 => if x139 = true then (some (x15 == x21)) else ((impl_WalRepair.f k x795000).bind fun bt817 => ((impl_WalRead.f k bt817.1).bind fun bt822 => (if bt817.2 = true then (if bt822.2 = 0 then ((laws_samePayloads.f k bt822.1 x14).bind fun t826 => (if t826 = true then ((impl_WalCount.f k bt817.1).bind fun t827 => (some (t827 == (x14.length : Int)))) else (none))) else (none)) else (none))))
end
def laws_FnWal.f (k : Nat) (l0 : List Int) : Option (Bool) := (laws_big.f l0).bind fun t761 => (if t761 = true then (some true) else ((spec_DrawRightWal.f k l0).bind fun bt762 => (laws_FnWal.l0 k bt762.2.1 bt762.2.2 0 bt762.1)))
def laws_FnWal.T7 : Bool × List (List Nat × List Nat) := (true, [([], []), ([], []), ([], []), ([1, 2], [1, 2]), ([3], [3]), ([0, 4], [0, 4]), ([5], [5]), ([6], [6]), ([6], [6]), ([], []), ([9, 7, 5, 0, 1, 2, 3, 4, 5, 6, 7, 9], [7, 9]), ([8, 10, 0, 1, 2, 3, 4, 5, 6, 7, 8, 9, 10], [8])])
def laws_FnWal.B7 : List Nat := [0, 0, 0, 6, 14, 31, 63, 127, 127, 0, 767, 2047]
theorem laws_FnWal.tab7 : rtab .any (opsOf Tryd.f9 7) = laws_FnWal.T7 := by kernel_rfl
theorem laws_FnWal.bits7 : waitsOk laws_FnWal.T7.2 laws_FnWal.B7 = true := by kernel_rfl
set_option maxHeartbeats 8000000 in
set_option maxRecDepth 100000 in
theorem laws_FnWal.calls (k : Nat) (A0 : Option Addr) (c0 : Nat) (l0 : List Int) (r : Bool) (w : World) (hr0 : Kd.C (Kd.int .u8) w A0 l0.length l0) (hc0 : l0.length ≤ c0) (h : laws_FnWal.f k l0 = some r) :
  Calls Tryd.prog 9 #[.slice A0 l0.length c0] w fun e w' => e = .returned (.bool r) ∧ Below w.heap.size w w' := by
 have hu28 := Tryd.underlying28
 have HR0 := Zh hr0
 have HC0 := Zh hc0
 clear hr0 hc0
 have HB := Zh (Below.refl w.heap.size w)
 have H : ((laws_big.f l0).bind fun t761 => (if t761 = true then (some true) else ((spec_DrawRightWal.f k l0).bind fun bt762 => (laws_FnWal.l0 k bt762.2.1 bt762.2.2 0 bt762.1)))) = some r := h
 clear h
 replace H := Option.bind_eq_some_iff.mp H
 obtain ⟨t761, A20, H⟩ := H
 replace H : (if t761 = true then (some true) else ((spec_DrawRightWal.f k l0).bind fun bt762 => (laws_FnWal.l0 k bt762.2.1 bt762.2.2 0 bt762.1))) = some r := H
 have A2 := Zh A20
 clear A20
 by_cases c3 : t761 = true
 ·
  subst c3
  have H1 : (some true) = some r := by rw [if_pos rfl] at H; exact H
  clear H
  have H := H1
  clear H1
  obtain rfl := Option.some.inj H
  go_enter Tryd.func9, Tryd.ntmps9
  go_wp2_with (first | ((with_reducible refine gate_callee (f := 34) rfl ?_); refine ZG (some 27) Tryd.func34 #[.slice A0 l0.length c0] rfl ?_; (with_reducible refine (laws_big.calls _ _ l0 true _ ?side1 ?side2 A2.out).mono ?_); (case side1 => repeat (first | exact HR0.out | (with_reducible refine C_alloc ?_ _) | (with_reducible refine C_drewN ?_ _) | (with_reducible refine C_drew ?_))); (case side2 => exact HC0.out); rintro e w' ⟨rfl, ⟨nd, rfl⟩⟩; refine ⟨_, rfl, ?_⟩))
  go_ret
  exact ⟨ZE, Zs⟩
 replace c3 := Bool.eq_false_iff.mpr c3
 subst c3
 have H1 : ((spec_DrawRightWal.f k l0).bind fun bt762 => (laws_FnWal.l0 k bt762.2.1 bt762.2.2 0 bt762.1)) = some r := by rw [if_neg (show ¬ (false = true) by decide)] at H; exact H
 clear H
 have H := H1
 clear H1
 replace H := Option.bind_eq_some_iff.mp H
 obtain ⟨⟨t762, t765, t768⟩, A40, H⟩ := H
 replace H : (laws_FnWal.l0 k t765 t768 0 t762) = some r := H
 have A4 := Zh A40
 clear A40
 have H' := Zh H
 clear H
 go_enter Tryd.func9, Tryd.ntmps9
 go_wp2_with (first | ((with_reducible refine gate_callee (f := 34) rfl ?_); refine ZG (some 27) Tryd.func34 #[.slice A0 l0.length c0] rfl ?_; (with_reducible refine (laws_big.calls _ _ l0 false _ ?side1 ?side2 A2.out).mono ?_); (case side1 => repeat (first | exact HR0.out | (with_reducible refine C_alloc ?_ _) | (with_reducible refine C_drewN ?_ _) | (with_reducible refine C_drew ?_))); (case side2 => exact HC0.out); rintro e w' ⟨rfl, ⟨nd, rfl⟩⟩; refine ⟨_, rfl, ?_⟩) | ((with_reducible refine gate_callee (f := 35) rfl ?_); refine ZG (some 30) Tryd.func35 #[.slice A0 l0.length c0] rfl ?_; (with_reducible refine (spec_DrawRightWal.calls k _ _ l0 t762 t765 t768 _ ?side1 ?side2 A4.out).mono ?_); (case side1 => repeat (first | exact HR0.out | (with_reducible refine C_alloc ?_ _) | (with_reducible refine C_drewN ?_ _) | (with_reducible refine C_drew ?_))); (case side2 => exact HC0.out); rintro e w5 ⟨v763, v766, rfl, ho0, ho1, hb⟩; refine ⟨_, rfl, ?_⟩; have HO764 := Zh (S_lower ho0 (below_size Zs)); have HO767 := Zh (S_lower ho1 (below_size Zs)); replace HB := Zh (Zl Zs hb); (try clear hb); (try clear hb2); (try clear hk); (try clear hi); (try clear ho0); (try clear ho1)) | ((with_reducible refine gate_dst (N := 3) rfl ?_); (try (refine gate_guard (by rfl) ?_; dsimp only)); refine box_event ?hg (N := 3) ?hd (cs := #[.slice none 0 0]) (t := 28) ?hr ?_; (case hd => rfl); (case hg => rfl); (case hr => first | (go_simp; done) | (go_simp; rfl)); intro gb769 hg w6 hbox hb; replace HO764 := Zh (S_below (ZS HO764.out) hb); replace HO767 := Zh (S_below (ZS HO767.out) hb); have BK769 := Zh (hbox); have GW769 := Zh ((by rw [hg]; exact (below_size Zs) : w.heap.size ≤ gb769)); have GE769 := Zh ((by rw [hg]; exact (below_size Zs) : w.heap.size ≤ gb769)); replace HB := Zh (Zl Zs hb); clear hb hbox hg; obtain ⟨Ao7, co7, eo7⟩ := S_slice HO764.out; subst eo7; have hcz8_0 : w6.cell? ⟨gb769, 0, none⟩ = some (.slice none 0 0) := (blk_cell BK769.out 0).trans rfl; have hfz8_0 := Zn BK769.out 0))
 go_loopg [6] k (fun kq v6 w' => ∃ (x6_1 : Int) (x770000_1 : List (S55)) (u770000 : Value), v6 = .int .i64 x6_1 ∧ Aside0 (laws_FnWal.l0 kq t765 t768 x6_1 x770000_1 = some r) ∧ Aside0 (kq ≤ k) ∧ Aside0 (Kd.S (Kd.slice 5 (Kd.int .u8)) 41 w' w.heap.size (fun _ => True) v766 t765) ∧ Aside0 (Kd.S k55 55 w' w.heap.size (fun _ => True) u770000 x770000_1) ∧ Aside0 (w'.heap[gb769]? = some (.cells #[u770000] 28 (0, 0))) ∧ Aside0 (Below w.heap.size w w'))
 case atStart => exact ⟨(0), (t762), (.slice Ao7 t762.length co7), (by first | rfl | (simp; done) | (simp [*]; done)), H', ⟨Nat.le_refl _⟩, ⟨ZS (S_mono (S_far (p := ⟨gb769, 0, none⟩) (S_types HO767.out BK769.out (by decide)) (fun _ hk => hk.2) (.slice Ao7 t762.length co7)) (fun _ hk => trivial))⟩, ⟨ZS (S_mono (S_far (p := ⟨gb769, 0, none⟩) (S_types HO764.out BK769.out (by decide)) (fun _ hk => hk.2) (.slice Ao7 t762.length co7)) (fun _ hk => trivial))⟩, ⟨by (with_reducible repeat (first | refine Za ?_ _ | refine Zb ?_ | refine blk_alloc ?_ _)); refine blk_put (cs := #[.slice none 0 0]) ?_ 0 _ rfl; (with_reducible repeat (first | refine Za ?_ _ | refine Zb ?_ | refine blk_alloc ?_ _)); exact BK769.out⟩, ⟨Zs⟩⟩
 case round =>
  clear H'
  try clear p2
  try clear c3
  try clear hcz8_0
  try clear hfz8_0
  obtain ⟨x6_1, x770000_1, u770000, rfl, HA, HK1, HO_4, HO_770000, BK769, HB⟩ := hrel
  cases gk with
  | zero => exact absurd HA.out (by simp [laws_FnWal.l0])
  | succ k1 =>
   have H := HA.out
   clear HA
   simp only [laws_FnWal.l0] at H
   by_cases c9 : x6_1 < (t765.length : Int)
   ·
    rw [if_pos c9] at H
    have c9b0 : decide (x6_1 < (t765.length : Int)) = true := decide_eq_true c9
    clear c9
    by_cases c10 : 0 ≤ x6_1
    ·
     rw [if_pos c10] at H
     have c10b0 : decide (0 ≤ x6_1) = true := decide_eq_true c10
     clear c10
     replace H := Option.bind_eq_some_iff.mp H
     obtain ⟨⟨t771, t774⟩, A110, H⟩ := H
     replace H : (if t774 = true then (laws_FnWal.l0 k1 t765 t768 (wrap64 (x6_1 + 1)) t771) else (none)) = some r := H
     have A11 := Zh A110
     clear A110
     by_cases c12 : t774 = true
     ·
      subst c12
      have H1 : (laws_FnWal.l0 k1 t765 t768 (wrap64 (x6_1 + 1)) t771) = some r := by rw [if_pos rfl] at H; exact H
      clear H
      have H := H1
      clear H1
      have H' := Zh H
      clear H
      obtain ⟨Ao13, co13, eo13⟩ := S_slice HO_4.out
      subst eo13
      obtain ⟨Ao14, co14, eo14⟩ := S_slice HO_770000.out
      subst eo14
      try go_wp2
      replace HO_4 := Zh (S_drew HO_4.out)
      replace HO_770000 := Zh (S_drew HO_770000.out)
      replace BK769 := Zh (Zb BK769.out)
      replace HB := Zh (Ze HB.out)
      have p770 : 0 ≤ (x6_1 : Int) := Zo
      have q770 : x6_1 < (t765.length : Int) := Zo
      obtain ⟨ad770, A770_0, c770_0, e770, hx770_0, hl770_0, hi770_0⟩ := at_L2 (S_reads' HO_4.out).2.2 x6_1 p770 q770
      cases e770
      obtain ⟨ce770, hce770, hMe770, hcc770⟩ := S_get HO_4.out [] x6_1 p770 (by first | exact q770 | exact Zo | (have e_ := (S_reads' HO_4.out).1; omega))
      obtain ⟨ve770_0, rfl, ge770_0⟩ := hMe770
      have hv770_0 := hcc770 0 _ rfl
      rw [Nat.add_zero, show ((Kd.slice 5 (Kd.int .u8))).sz = 1 from rfl, Nat.mul_one] at hv770_0
      replace hv770_0 := Option.some.inj (hv770_0.symm.trans hx770_0)
      rw [hv770_0] at ge770_0
      have HL770_0 := Zh (show Kd.R (Kd.int .u8) 5 _ _ _ _ (rd_L2 t765 x6_1) from ge770_0)
      clear hv770_0 ge770_0
      clear hcc770 hce770
      have HR770_0 := Zh hi770_0
      have HC770_0 := Zh hl770_0
      clear hi770_0 hl770_0
      replace p770 := eq_true p770
      replace q770 := eq_true q770
      refine start_ (n := 12) (S := fun w' => w'.cell? ⟨gb769, 0, none⟩ = some (.slice Ao14 x770000_1.length co14) ∧ w'.cell? (ad770.add (x6_1).toNat) = some (.slice A770_0 (rd_L2 t765 x6_1).length c770_0)) (ds := []) #[false, false, false, false, false, false, false, false, false, false, false, false] (by kernel_rfl) rfl rfl ⟨(blk_cell BK769.out 0).trans rfl, hx770_0⟩ (fun hHeld => ?_); refine with_tabW laws_FnWal.tab7 laws_FnWal.bits7 (fun HT_ HW_ => ?_)
      generalize wr.drew = w15 at HO_4 HO_770000 BK769 HB HL770_0 HR770_0 hx770_0 hHeld ⊢
      refine SQ.pu 1 42 HT_ ?_
      refine SQ.pu 2 43 HT_ ?_
      refine SQ.pu 3 44 HT_ ?_
      refine SQ.tk 0 41 HT_ HW_ hHeld ?_
      refine SQ.tk 4 45 HT_ HW_ hHeld ?_
      refine join_ (σ := Value × Nat) 2 #[true, true, true, true, true, true, true, true, true, true, false, false] (fun s_ => [(46, .tuple #[.agg #[s_.1], .bool true]), (7, .pointer (some ⟨s_.2, 0, none⟩)), (40, .tuple #[.agg #[s_.1], .bool true]), (47, .agg #[s_.1]), (48, .bool true)]) (fun s_ w' => (w'.cell? ⟨gb769, 0, none⟩ = some (.slice Ao14 x770000_1.length co14) ∧ w'.cell? (ad770.add (x6_1).toNat) = some (.slice A770_0 (rd_L2 t765 x6_1).length c770_0)) ∧ (Kd.R (Kd.int .u8) 5 w' w.heap.size (fun k_ => some k_ ≠ (.slice (some ad770) t765.length co13 : Value).ownBlock) (.slice A770_0 (rd_L2 t765 x6_1).length c770_0) (rd_L2 t765 x6_1)) ∧ (Kd.S k55 55 w' w.heap.size (fun k_ => some k_ ≠ (.slice A770_0 (rd_L2 t765 x6_1).length c770_0 : Value).ownBlock ∧ some k_ ≠ (.slice Ao14 x770000_1.length co14 : Value).ownBlock) s_.1 t771) ∧ (Kd.S (Kd.slice 5 (Kd.int .u8)) 41 w' w.heap.size (fun _ => True) (.slice (some ad770) t765.length co13) t765) ∧ (Kd.S k55 55 w' w.heap.size (fun k_ => some k_ ≠ (s_.1 : Value).ownBlock) (.slice Ao14 x770000_1.length co14) x770000_1) ∧ (w'.heap[gb769]? = some (.cells #[.slice Ao14 x770000_1.length co14] 28 (0, 0))) ∧ (w'.heap[s_.2]? = some (.cells #[.slice none 0 0] 28 (0, 0))) ∧ (w.heap.size ≤ s_.2) ∧ (w.heap.size ≤ s_.2) ∧ (gb769 ≠ s_.2) ∧ (s_.2 ≠ gb769) ∧ (Below w.heap.size w w')) ?_ ?_
      rotate_left
      ·
       intro hCont
       refine two_ (i := 5) (j := 9) (Ni := some 46) (Nj := some 7) #[true, true, true, true, true, true, false, false, false, false, false, false] #[true, true, true, true, true, false, false, false, false, true, false, false] rfl rfl rfl rfl (two_of HT_.out (by kernel_rfl)) (by decide) (by decide) (fun K hK => ?_) (fun K hK => ?_)
       ·
        skip
        refine goes_ Tryd.func29 (by kernel_rfl) rfl #[.agg #[.slice Ao14 x770000_1.length co14], .slice A770_0 (rd_L2 t765 x6_1).length c770_0] (by rfl) rfl rfl (by (try simp only [List.map_toArray, List.map_cons, List.map_nil]); first | done | rfl | (simp only [List.length_drop, List.length_take]; rfl)) ?_
        with_reducible refine (impl_WalAppend.calls k1 _ _ x770000_1 _ _ (rd_L2 t765 x6_1) t771 true _ ?side1 ?side2 ?side3 ?side4 A11.out).mono ?_
        (case side1 => repeat (first | exact (S_reads' HO_770000.out).2.2 | (with_reducible refine C_alloc ?_ _) | (with_reducible refine C_drewN ?_ _) | (with_reducible refine C_drew ?_)))
        (case side2 => exact (S_reads' HO_770000.out).2.1)
        (case side3 => repeat (first | exact (by repeat (first | (with_reducible exact HR770_0.out) | (with_reducible refine C_alloc ?_ _) | (with_reducible refine C_drewN ?_ _) | (with_reducible refine C_drew ?_) | exact HR770_0.out)) | (with_reducible refine C_alloc ?_ _) | (with_reducible refine C_drewN ?_ _) | (with_reducible refine C_drew ?_)))
        (case side4 => exact HC770_0.out)
        rintro e w16 ⟨v772, rfl, ho0, hb⟩
        have HS1_ := (hb.cell (Zi _ _ (hHeld.2))).trans (hHeld.2)
        refine ⟨_, rfl, ?_⟩
        replace HO_4 := Zh (S_below (ZS HO_4.out) hb)
        have HO773 := Zh (S_lower (S_new' (S_new' ho0 (S_lt (ZS HO_770000.out))) (R_lt (ZR HL770_0.out))) (below_size Zs))
        replace HO_770000 := Zh (S_elder' (ZS HO_770000.out) (S_base ho0) hb)
        replace HL770_0 := Zh (R_below (ZR HL770_0.out) hb)
        replace BK769 := Zh (Zm (g := gb769) (o := .cells #[.slice Ao14 x770000_1.length co14] 28 (0, 0)) Zk hb)
        replace HR770_0 := Zh (C_below (by repeat (first | (with_reducible exact HR770_0.out) | (with_reducible refine C_alloc ?_ _) | (with_reducible refine C_drewN ?_ _) | (with_reducible refine C_drew ?_) | exact HR770_0.out)) hb)
        replace HB := Zh (Zl Zs hb)
        (try clear hb)
        (try clear hb2)
        (try clear hk)
        (try clear hi)
        (try clear ho0)
        refine hK.out _ _ ⟨(blk_cell BK769.out 0).trans rfl, HS1_⟩ (fun hHeld => ?_)
        clear hK K
        refine norm_ (a' := ?_) ?_ ?_
        rotate_left
        ·
         show Act.put _ (some 46) _ = _
         simp only [Act.put, List.setIfInBounds_toArray, List.set_cons_zero, List.set_cons_succ, i64_w, i32_w]
         rfl
        refine SQ.pu 6 40 HT_ ?_
        refine SQ.pu 7 47 HT_ ?_
        refine SQ.pu 8 48 HT_ ?_
        refine one_ (i := 9) (N := some 7) #[true, true, true, true, true, true, true, true, true, true, false, false] rfl rfl (one_of HT_.out (by kernel_rfl)) (by decide) (fun K hK => ?_)
        refine box_step ?hg (N := 7) ?hd (cs := #[.slice none 0 0]) (t := 28) ?hr ?_; (case hd => rfl); (case hg => rfl); (case hr => first | (go_simp; done) | (go_simp; rfl))
        intro gb775 hg w17 hbox hb
        have HS1_ := (hb.cell (Zi _ _ (hHeld.2))).trans (hHeld.2)
        replace HO_4 := Zh (S_below (ZS HO_4.out) hb)
        replace HO_770000 := Zh (S_below (ZS HO_770000.out) hb)
        replace HL770_0 := Zh (R_below (ZR HL770_0.out) hb)
        replace HO773 := Zh (S_below (ZS HO773.out) hb)
        replace HR770_0 := Zh (C_below (by repeat (first | (with_reducible exact HR770_0.out) | (with_reducible refine C_alloc ?_ _) | (with_reducible refine C_drewN ?_ _) | (with_reducible refine C_drew ?_) | exact HR770_0.out)) hb)
        have BK775 := Zh (hbox)
        have GW775 := Zh ((by rw [hg]; exact (below_size Zs) : w.heap.size ≤ gb775))
        have GE775 := Zh ((by rw [hg]; exact (below_size Zs) : w.heap.size ≤ gb775))
        replace HB := Zh (Zl Zs hb)
        have NB769_775 := Zh ((by rw [hg]; exact Nat.ne_of_lt (blk_lt (g := gb769) (o := .cells #[.slice Ao14 x770000_1.length co14] 28 (0, 0)) Zk) : gb769 ≠ gb775))
        have NB775_769 := Zh ((by rw [hg]; exact Nat.ne_of_gt (blk_lt (g := gb769) (o := .cells #[.slice Ao14 x770000_1.length co14] 28 (0, 0)) Zk) : gb775 ≠ gb769))
        replace BK769 := Zh (Zm (g := gb769) (o := .cells #[.slice Ao14 x770000_1.length co14] 28 (0, 0)) Zk hb)
        clear hb hbox hg
        refine hK.out _ _ ⟨(blk_cell BK769.out 0).trans rfl, HS1_⟩ (fun hHeld => ?_)
        clear hK K
        refine norm_ (a' := ?_) ?_ ?_
        rotate_left
        ·
         show Act.put _ (some 7) _ = _
         simp only [Act.put, List.setIfInBounds_toArray, List.set_cons_zero, List.set_cons_succ, i64_w, i32_w]
         rfl
        exact norm_ (by simp only [putAll, Act.put, List.setIfInBounds_toArray, List.set_cons_zero, List.set_cons_succ]) (hCont (v772, gb775) _ ⟨hHeld, (ZR (R_mono HL770_0.out (fun _ hk => hk.2))), (ZS (S_mono HO773.out (fun _ hk => ⟨hk.2, hk.1.2⟩))), (ZS HO_4.out), (ZS (S_mono HO_770000.out (fun _ hk => hk.2))), Zk, Zk, GW775.out, GE775.out, NB769_775.out, NB775_769.out, Zs⟩)
       skip
       refine box_step ?hg (N := 7) ?hd (cs := #[.slice none 0 0]) (t := 28) ?hr ?_; (case hd => rfl); (case hg => rfl); (case hr => first | (go_simp; done) | (go_simp; rfl))
       intro gb775 hg w16 hbox hb
       have HS1_ := (hb.cell (Zi _ _ (hHeld.2))).trans (hHeld.2)
       replace HO_4 := Zh (S_below (ZS HO_4.out) hb)
       replace HO_770000 := Zh (S_below (ZS HO_770000.out) hb)
       replace HL770_0 := Zh (R_below (ZR HL770_0.out) hb)
       replace HR770_0 := Zh (C_below (by repeat (first | (with_reducible exact HR770_0.out) | (with_reducible refine C_alloc ?_ _) | (with_reducible refine C_drewN ?_ _) | (with_reducible refine C_drew ?_) | exact HR770_0.out)) hb)
       have BK775 := Zh (hbox)
       have GW775 := Zh ((by rw [hg]; exact (below_size Zs) : w.heap.size ≤ gb775))
       have GE775 := Zh ((by rw [hg]; exact (below_size Zs) : w.heap.size ≤ gb775))
       replace HB := Zh (Zl Zs hb)
       have NB769_775 := Zh ((by rw [hg]; exact Nat.ne_of_lt (blk_lt (g := gb769) (o := .cells #[.slice Ao14 x770000_1.length co14] 28 (0, 0)) Zk) : gb769 ≠ gb775))
       have NB775_769 := Zh ((by rw [hg]; exact Nat.ne_of_gt (blk_lt (g := gb769) (o := .cells #[.slice Ao14 x770000_1.length co14] 28 (0, 0)) Zk) : gb775 ≠ gb769))
       replace BK769 := Zh (Zm (g := gb769) (o := .cells #[.slice Ao14 x770000_1.length co14] 28 (0, 0)) Zk hb)
       clear hb hbox hg
       refine hK.out _ _ ⟨(blk_cell BK769.out 0).trans rfl, HS1_⟩ (fun hHeld => ?_)
       clear hK K
       refine norm_ (a' := ?_) ?_ ?_
       rotate_left
       ·
        show Act.put _ (some 7) _ = _
        simp only [Act.put, List.setIfInBounds_toArray, List.set_cons_zero, List.set_cons_succ, i64_w, i32_w]
        rfl
       refine one_ (i := 5) (N := some 46) #[true, true, true, true, true, true, false, false, false, true, false, false] rfl rfl (one_of HT_.out (by kernel_rfl)) (by decide) (fun K hK => ?_)
       refine goes_ Tryd.func29 (by kernel_rfl) rfl #[.agg #[.slice Ao14 x770000_1.length co14], .slice A770_0 (rd_L2 t765 x6_1).length c770_0] (by rfl) rfl rfl (by (try simp only [List.map_toArray, List.map_cons, List.map_nil]); first | done | rfl | (simp only [List.length_drop, List.length_take]; rfl)) ?_
       with_reducible refine (impl_WalAppend.calls k1 _ _ x770000_1 _ _ (rd_L2 t765 x6_1) t771 true _ ?side1 ?side2 ?side3 ?side4 A11.out).mono ?_
       (case side1 => repeat (first | exact (S_reads' HO_770000.out).2.2 | (with_reducible refine C_alloc ?_ _) | (with_reducible refine C_drewN ?_ _) | (with_reducible refine C_drew ?_)))
       (case side2 => exact (S_reads' HO_770000.out).2.1)
       (case side3 => repeat (first | exact (by repeat (first | (with_reducible exact HR770_0.out) | (with_reducible refine C_alloc ?_ _) | (with_reducible refine C_drewN ?_ _) | (with_reducible refine C_drew ?_) | exact HR770_0.out)) | (with_reducible refine C_alloc ?_ _) | (with_reducible refine C_drewN ?_ _) | (with_reducible refine C_drew ?_)))
       (case side4 => exact HC770_0.out)
       rintro e w17 ⟨v772, rfl, ho0, hb⟩
       have HS1_ := (hb.cell (Zi _ _ (hHeld.2))).trans (hHeld.2)
       refine ⟨_, rfl, ?_⟩
       replace HO_4 := Zh (S_below (ZS HO_4.out) hb)
       have HO773 := Zh (S_lower (S_new' (S_new' ho0 (S_lt (ZS HO_770000.out))) (R_lt (ZR HL770_0.out))) (below_size Zs))
       replace HO_770000 := Zh (S_elder' (ZS HO_770000.out) (S_base ho0) hb)
       replace HL770_0 := Zh (R_below (ZR HL770_0.out) hb)
       replace BK769 := Zh (Zm (g := gb769) (o := .cells #[.slice Ao14 x770000_1.length co14] 28 (0, 0)) Zk hb)
       replace HR770_0 := Zh (C_below (by repeat (first | (with_reducible exact HR770_0.out) | (with_reducible refine C_alloc ?_ _) | (with_reducible refine C_drewN ?_ _) | (with_reducible refine C_drew ?_) | exact HR770_0.out)) hb)
       replace BK775 := Zh (Zm (g := gb775) (o := .cells #[.slice none 0 0] 28 (0, 0)) Zk hb)
       replace HB := Zh (Zl Zs hb)
       (try clear hb)
       (try clear hb2)
       (try clear hk)
       (try clear hi)
       (try clear ho0)
       refine hK.out _ _ ⟨(blk_cell BK769.out 0).trans rfl, HS1_⟩ (fun hHeld => ?_)
       clear hK K
       refine norm_ (a' := ?_) ?_ ?_
       rotate_left
       ·
        show Act.put _ (some 46) _ = _
        simp only [Act.put, List.setIfInBounds_toArray, List.set_cons_zero, List.set_cons_succ, i64_w, i32_w]
        rfl
       refine SQ.pu 6 40 HT_ ?_
       refine SQ.pu 7 47 HT_ ?_
       refine SQ.pu 8 48 HT_ ?_
       exact norm_ (by simp only [putAll, Act.put, List.setIfInBounds_toArray, List.set_cons_zero, List.set_cons_succ]) (hCont (v772, gb775) _ ⟨hHeld, (ZR (R_mono HL770_0.out (fun _ hk => hk.2))), (ZS (S_mono HO773.out (fun _ hk => ⟨hk.2, hk.1.2⟩))), (ZS HO_4.out), (ZS (S_mono HO_770000.out (fun _ hk => hk.2))), Zk, Zk, GW775.out, GE775.out, NB769_775.out, NB775_769.out, Zs⟩)
      rintro ⟨v772, gb775⟩ w18 ⟨hS_, h0_, h1_, h2_, h3_, h4_, h5_, h6_, h7_, h8_, h9_, h10_⟩
      have n0_ : Aside0 (Kd.R (Kd.int .u8) 5 w18 w.heap.size (fun k_ => some k_ ≠ (.slice (some ad770) t765.length co13 : Value).ownBlock) (.slice A770_0 (rd_L2 t765 x6_1).length c770_0) (rd_L2 t765 x6_1)) := ⟨h0_⟩
      have n1_ : Aside0 (Kd.S k55 55 w18 w.heap.size (fun k_ => some k_ ≠ (.slice A770_0 (rd_L2 t765 x6_1).length c770_0 : Value).ownBlock ∧ some k_ ≠ (.slice Ao14 x770000_1.length co14 : Value).ownBlock) v772 t771) := ⟨h1_⟩
      have n2_ : Aside0 (Kd.S (Kd.slice 5 (Kd.int .u8)) 41 w18 w.heap.size (fun _ => True) (.slice (some ad770) t765.length co13) t765) := ⟨h2_⟩
      have n3_ : Aside0 (Kd.S k55 55 w18 w.heap.size (fun k_ => some k_ ≠ (v772 : Value).ownBlock) (.slice Ao14 x770000_1.length co14) x770000_1) := ⟨h3_⟩
      have n4_ : Aside0 (w18.heap[gb769]? = some (.cells #[.slice Ao14 x770000_1.length co14] 28 (0, 0))) := ⟨h4_⟩
      have n5_ : Aside0 (w18.heap[gb775]? = some (.cells #[.slice none 0 0] 28 (0, 0))) := ⟨h5_⟩
      have n6_ : Aside0 (w.heap.size ≤ gb775) := ⟨h6_⟩
      have n7_ : Aside0 (w.heap.size ≤ gb775) := ⟨h7_⟩
      have n8_ : Aside0 (gb769 ≠ gb775) := ⟨h8_⟩
      have n9_ : Aside0 (gb775 ≠ gb769) := ⟨h9_⟩
      have n10_ : Aside0 (Below w.heap.size w w18) := ⟨h10_⟩
      clear HO_4
      clear HO_770000
      clear BK769
      clear HB
      clear h0_ h1_ h2_ h3_ h4_ h5_ h6_ h7_ h8_ h9_ h10_
      have HL770_0 := n0_
      have HO773 := n1_
      have HO_4 := n2_
      have HO_770000 := n3_
      have BK769 := n4_
      have BK775 := n5_
      have GW775 := n6_
      have GE775 := n7_
      have NB769_775 := n8_
      have NB775_769 := n9_
      have HB := n10_
      clear n0_ n1_ n2_ n3_ n4_ n5_ n6_ n7_ n8_ n9_ n10_
      have hHeld : w18.cell? ⟨gb769, 0, none⟩ = some (.slice Ao14 x770000_1.length co14) ∧ w18.cell? (ad770.add (x6_1).toNat) = some (.slice A770_0 (rd_L2 t765 x6_1).length c770_0) := hS_
      obtain ⟨Ao19, co19, eo19⟩ := S_slice HO773.out
      (first | subst eo19 | (injection eo19 with f1_ f2_ f3_; have f4_ := f1_.symm; have f5_ := f3_.symm; clear f1_ f2_ f3_; subst f4_; subst f5_))
      refine norm_ (a' := ?_) ?_ ?_
      rotate_left
      ·
       simp only [putAll, Act.put, List.setIfInBounds_toArray, List.set_cons_zero, List.set_cons_succ]
       rfl
      refine one_ (i := 10) (N := none) #[true, true, true, true, true, true, true, true, true, true, true, false] rfl rfl (one_of HT_.out (by kernel_rfl)) (by decide) (fun K hK => ?_)
      have hs20 : w18.cell? ⟨gb775, 0, none⟩ = some (.slice none 0 0) := (blk_cell BK775.out 0).trans rfl
      have hfs20 := Zn BK775.out 0
      have hns20_0 := NB769_775.out
      have hms20_0 := NB775_769.out
      refine skip_ (w1 := ?_) (by rfl) rfl ?_ ?_
      rotate_left
      ·
       go_simp
       rfl
      refine hK.out _ _ ⟨((cell_far (p := ⟨gb775, _, none⟩) NB769_775.out _).trans (hHeld.1)), ((cell_far (p := ⟨gb775, _, none⟩) (by first | exact Kd.own_blk (S_ne HO_4.out BK775.out (by decide)) | (rw [add_block]; exact Kd.own_blk (S_ne HO_4.out BK775.out (by decide))) | (show (Addr.add _ _).block ≠ _; rw [add_block]; exact Kd.own_blk (S_ne HO_4.out BK775.out (by decide))) | (dsimp only; exact Kd.own_blk (S_ne HO_4.out BK775.out (by decide)))) _).trans (hHeld.2))⟩ (fun hHeld => ?_)
      clear hK K
      refine SQ.pu 11 8 HT_ ?_
      refine done_ (done_of HT_.out (by kernel_rfl)) ?_
      have hnb21 := NB775_769.out
      have hnc21 := NB769_775.out
      have hcz22_0 : w18.cell? ⟨gb775, 0, none⟩ = some (.slice none 0 0) := (blk_cell BK775.out 0).trans rfl
      have hfz22_0 := Zn BK775.out 0
      have hcz23_0 : w18.cell? ⟨gb769, 0, none⟩ = some (.slice Ao14 x770000_1.length co14) := (blk_cell BK769.out 0).trans rfl
      have hfz23_0 := Zn BK769.out 0
      try go_wp2
      go_roundg k1
      case measure => have := HK1.out; omega
      case rel => exact ⟨(wrap64 (x6_1 + 1)), (t771), (.slice Ao19 t771.length co19), (by first | rfl | (simp; done) | (simp [*]; done)), H', ⟨by have := HK1.out; omega⟩, ⟨ZS (S_mono (S_far (p := ⟨gb769, 0, none⟩) (S_far (p := ⟨gb775, 0, none⟩) (S_types (S_types HO_4.out BK775.out (by decide)) BK769.out (by decide)) (fun _ hk => hk.1.2) (.slice Ao19 t771.length co19)) (fun _ hk => hk.2) (.slice Ao19 t771.length co19)) (fun _ hk => trivial))⟩, ⟨ZS (S_mono (S_far (p := ⟨gb769, 0, none⟩) (S_far (p := ⟨gb775, 0, none⟩) (S_types (S_types HO773.out BK775.out (by decide)) BK769.out (by decide)) (fun _ hk => hk.1.2) (.slice Ao19 t771.length co19)) (fun _ hk => hk.2) (.slice Ao19 t771.length co19)) (fun _ hk => trivial))⟩, ⟨by (with_reducible repeat (first | refine Za ?_ _ | refine Zb ?_ | refine blk_alloc ?_ _)); refine blk_put (cs := #[.slice Ao14 x770000_1.length co14]) ?_ 0 _ rfl; (with_reducible repeat (first | refine Za ?_ _ | refine Zb ?_ | refine blk_alloc ?_ _)); refine blk_far ?_ NB769_775.out _; (with_reducible repeat (first | refine Za ?_ _ | refine Zb ?_ | refine blk_alloc ?_ _)); exact BK769.out⟩, ⟨Zs⟩⟩
     replace c12 := Bool.eq_false_iff.mpr c12
     subst c12
     have H1 : (none) = some r := by rw [if_neg (show ¬ (false = true) by decide)] at H; exact H
     clear H
     have H := H1
     clear H1
     exact absurd H (by simp)
    rw [if_neg c10] at H
    exact absurd H (by simp)
   rw [if_neg c9] at H
   have c9b0 : decide (x6_1 < (t765.length : Int)) = false := decide_eq_false c9
   clear c9
   replace H := Option.bind_eq_some_iff.mp H
   obtain ⟨⟨t776, t779⟩, A240, H⟩ := H
   replace H : (if (t765.length : Int) > 0 then (if t779 = 0 then (if (t776.length : Int) < (t765.length : Int) then (none) else (if 0 ≤ (wrap64 ((t776.length : Int) - (t765.length : Int))) then (if (wrap64 ((t776.length : Int) - (t765.length : Int))) ≤ (t776.length : Int) then ((laws_samePayloads.f k1 (t776.drop ((wrap64 ((t776.length : Int) - (t765.length : Int))) : Int).toNat) t765).bind fun t784 => (laws_FnWal.j1 k1 t768 t776 (!t784) x770000_1)) else (none)) else (none))) else (none)) else (laws_FnWal.j1 k1 t768 t776 false x770000_1)) = some r := H
   have A24 := Zh A240
   clear A240
   have HC25 := Zh H
   clear H
   obtain ⟨Ao26, co26, eo26⟩ := S_slice HO_4.out
   subst eo26
   have hcz27_0 : wr.cell? ⟨gb769, 0, none⟩ = some (u770000) := (blk_cell BK769.out 0).trans rfl
   have hfz27_0 := Zn BK769.out 0
   obtain ⟨Ao28, co28, eo28⟩ := S_slice HO_770000.out
   subst eo28
   go_upto_region 12 with (first | ((with_reducible refine gate_callee (f := 21) rfl ?_); refine ZG (some 54) Tryd.func21 #[.agg #[.slice Ao28 x770000_1.length co28]] rfl ?_; (with_reducible refine (impl_WalRead.calls k1 _ _ x770000_1 t776 t779 _ ?side1 ?side2 A24.out).mono ?_); (case side1 => repeat (first | exact (S_reads' HO_770000.out).2.2 | (with_reducible refine C_alloc ?_ _) | (with_reducible refine C_drewN ?_ _) | (with_reducible refine C_drew ?_))); (case side2 => exact (S_reads' HO_770000.out).2.1); rintro e w29 ⟨v777, rfl, ho0, hb⟩; refine ⟨_, rfl, ?_⟩; replace HO_770000 := Zh (S_below (ZS HO_770000.out) hb); have HO778 := Zh (S_lower (S_new' ho0 (S_lt (ZS HO_4.out))) (below_size Zs)); replace HO_4 := Zh (S_elder' (ZS HO_4.out) (S_base ho0) hb); replace BK769 := Zh (Zm (g := gb769) (o := .cells #[.slice Ao28 x770000_1.length co28] 28 (0, 0)) Zk hb); replace HB := Zh (Zl Zs hb); (try clear hb); (try clear hb2); (try clear hk); (try clear hi); (try clear ho0)))
   (try simp only [Act.put, List.setIfInBounds_toArray, List.set_cons_zero, List.set_cons_succ])
   go_cut [82] (fun v82 wc => ∃ (kq : Nat) (x82_24 : Bool), v82 = .bool x82_24 ∧ Aside0 (laws_FnWal.j1 kq t768 t776 x82_24 x770000_1 = some r) ∧ Aside0 (kq ≤ k1) ∧ Aside0 (Kd.S (Kd.slice 5 (Kd.int .u8)) 41 wc w.heap.size (fun _ => True) v777 t776) ∧ Aside0 (Kd.S k55 55 wc w.heap.size (fun _ => True) (.slice Ao28 x770000_1.length co28) x770000_1) ∧ Aside0 (wc.heap[gb769]? = some (.cells #[(.slice Ao28 x770000_1.length co28)] 28 (0, 0))) ∧ Aside0 (Below w.heap.size w wc))
   case first =>
    have H := HC25.out
    clear HC25
    by_cases c30 : (t765.length : Int) > 0
    ·
     rw [if_pos c30] at H
     have c30b0 : decide (0 < (t765.length : Int)) = true := decide_eq_true c30
     have c30b1 : decide (0 < t765.length) = true := decide_eq_true (by omega)
     clear c30
     (first | rw [c30b0] | (simp only [i64_w, i32_w]; rw [c30b0]) | skip)
     by_cases c31 : t779 = 0
     ·
      rw [if_pos c31] at H
      have c31b0 : (t779 == 0) = true := beq_iff_eq.mpr c31
      have c31b1 : (t779 != 0) = false := bne_eq_false_iff_eq.mpr c31
      clear c31
      by_cases c32 : (t776.length : Int) < (t765.length : Int)
      ·
       rw [if_pos c32] at H
       exact absurd H (by simp)
      rw [if_neg c32] at H
      have c32b0 : decide ((t776.length : Int) < (t765.length : Int)) = false := decide_eq_false c32
      have c32b1 : decide (t776.length < t765.length) = false := decide_eq_false (fun h => c32 (Int.ofNat_lt.mpr h))
      clear c32
      obtain ⟨ji33, hji33⟩ : ∃ j_ : Int, (wrap64 ((t776.length : Int) - (t765.length : Int))) = j_ := ⟨_, rfl⟩
      replace H : (if 0 ≤ (ji33) then (if (ji33) ≤ (t776.length : Int) then ((laws_samePayloads.f k1 (t776.drop ((ji33) : Int).toNat) t765).bind fun t784 => (laws_FnWal.j1 k1 t768 t776 (!t784) x770000_1)) else (none)) else (none)) = some r := by first | (rw [hji33] at H; exact H) | (simp only [hji33] at H ⊢; exact H)
      have hji33w : (IntKind.i64.wrap ((t776.length : Int) - (t765.length : Int))) = ji33 := (i64_w _).trans hji33
      by_cases c34 : 0 ≤ (ji33)
      ·
       rw [if_pos c34] at H
       have c34b0 := eq_true c34
       have c34b1 : decide (0 ≤ (ji33)) = true := decide_eq_true c34
       clear c34
       by_cases c35 : (ji33) ≤ (t776.length : Int)
       ·
        rw [if_pos c35] at H
        have c35b0 := eq_true c35
        have c35b1 : decide ((ji33) ≤ (t776.length : Int)) = true := decide_eq_true c35
        clear c35
        obtain ⟨y780, hy780⟩ : ∃ y_ : List (List Int), y_ = (t776.drop ((ji33) : Int).toNat) := ⟨_, rfl⟩
        replace H : ((laws_samePayloads.f k1 y780 t765).bind fun t784 => (laws_FnWal.j1 k1 t768 t776 (!t784) x770000_1)) = some r := by first | (rw [hy780]; with_reducible exact H) | (have H2_ := (Option.bind_some _ _).symm.trans H; rw [hy780]; with_reducible exact H2_) | (have H2_ := (Option.bind_some _ _).symm.trans H; with_reducible exact H2_) | with_reducible exact H | (rw [hy780]; exact H) | exact H
        have Ny780 := Zh hy780
        clear hy780
        replace H := Option.bind_eq_some_iff.mp H
        obtain ⟨t784, A360, H⟩ := H
        replace H : (laws_FnWal.j1 k1 t768 t776 (!t784) x770000_1) = some r := H
        have A36 := Zh A360
        clear A360
        have H' := Zh H
        clear H
        obtain ⟨Ao37, co37, eo37⟩ := S_slice HO778.out
        subst eo37
        have q38 : ((ji33) : Int) ≤ ((t776.length : Int) : Int) := Zo
        obtain ⟨i038, hi038, _, hsz38, _⟩ := info_parts info41
        have hroom38 : t776.length ≤ co37 := (S_reads' HO778.out).2.1
        have hC38 : Kd.C (Kd.slice 5 (Kd.int .u8)) _ Ao37 t776.length t776 := (S_reads' HO778.out).2.2
        have q038 : (0 : Int) ≤ ((ji33) : Int) := Zo
        have hcut38 := cut_from (P := Tryd.prog) 36 41 .i64 Tryd.underlying36 hi038 1 hsz38 Ao37 t776.length co37 (ji33) q038 q38
        have hr38 := C_drop (m := ((ji33) : Int).toNat) (c := co37) hC38 (by omega) hroom38
        obtain ⟨A38, hA38⟩ : ∃ A1, A1 = (if co37 = ((ji33) : Int).toNat then Ao37 else (Ao37 : Option Addr).map (·.add (((ji33) : Int).toNat * 1))) := ⟨_, rfl⟩
        obtain ⟨c38, hc38⟩ : ∃ c1, c1 = co37 - ((ji33) : Int).toNat := ⟨_, rfl⟩
        have hy38 : y780.length = t776.length - ((ji33) : Int).toNat := (by rw [Ny780.out, List.length_drop] <;> omega)
        rw [show (t776).drop ((ji33) : Int).toNat = y780 from Ny780.out.symm] at hr38
        replace hr38 : Kd.C (Kd.slice 5 (Kd.int .u8)) _ A38 y780.length y780 := (by rw [hA38]; exact hr38)
        rw [← hy38, ← hA38, ← hc38] at hcut38
        have HR783 := Zh hr38
        have HC783 := Zh (show y780.length ≤ c38 from by rw [hy38, hc38]; exact Nat.sub_le_sub_right hroom38 _)
        clear hr38 hC38 hroom38 hi038 hsz38 hc38
        have KY38 := Zh hy38
        have KA38 := Zh hA38
        clear hy38 hA38
        have KL38 := Zh (show ((ji33) : Int).toNat ≤ t776.length from by omega)
        replace q38 := eq_true q38
        go_wp2_with (first | (go_at_call 36; (with_reducible refine (laws_samePayloads.calls k1 _ _ y780 _ _ t765 t784 _ ?side1 ?side2 ?side3 ?side4 A36.out).mono ?_); (case side1 => repeat (first | exact (by repeat (first | (with_reducible exact HR783.out) | (with_reducible refine C_alloc ?_ _) | (with_reducible refine C_drewN ?_ _) | (with_reducible refine C_drew ?_) | exact HR783.out)) | (with_reducible refine C_alloc ?_ _) | (with_reducible refine C_drewN ?_ _) | (with_reducible refine C_drew ?_))); (case side2 => exact HC783.out); (case side3 => repeat (first | exact (S_reads' HO_4.out).2.2 | (with_reducible refine C_alloc ?_ _) | (with_reducible refine C_drewN ?_ _) | (with_reducible refine C_drew ?_))); (case side4 => exact (S_reads' HO_4.out).2.1); rintro e w' ⟨rfl, ⟨nd, rfl⟩⟩))
        go_meet
        case rel => exact ⟨_, (!t784), (by first | rfl | (simp; done) | (simp [*]; done)), H', ⟨by have := HK1.out; first | omega | exact Nat.le_refl _⟩, ⟨ZS (S_mono HO778.out (fun _ hk => trivial))⟩, ⟨ZS HO_770000.out⟩, ⟨Zk⟩, ⟨Zs⟩⟩
       rw [if_neg c35] at H
       exact absurd H (by simp)
      rw [if_neg c34] at H
      exact absurd H (by simp)
     rw [if_neg c31] at H
     exact absurd H (by simp)
    rw [if_neg c30] at H
    have c30b0 : decide (0 < (t765.length : Int)) = false := decide_eq_false c30
    have c30b1 : decide (0 < t765.length) = false := decide_eq_false (by omega)
    clear c30
    (first | rw [c30b0] | (simp only [i64_w, i32_w]; rw [c30b0]) | skip)
    have H' := Zh H
    clear H
    go_wp2
    go_meet
    case rel => exact ⟨_, (false), (by first | rfl | (simp; done) | (simp [*]; done)), H', ⟨by have := HK1.out; first | omega | exact Nat.le_refl _⟩, ⟨ZS (S_mono HO778.out (fun _ hk => trivial))⟩, ⟨ZS HO_770000.out⟩, ⟨Zk⟩, ⟨Zs⟩⟩
   case rest =>
    clear HC25
    try clear c1
    try clear c2
    try clear p2
    try clear c3
    try clear q3
    try clear p6
    try clear c7
    try clear p7
    try clear q7
    try clear hx7
    try clear c9
    try clear c9b0
    try clear c10
    try clear c10b0
    try clear c12
    try clear c21
    try clear c29
    try clear c30
    try clear c30b0
    try clear c30b1
    try clear c31
    try clear c31b0
    try clear c31b1
    try clear c32
    try clear c32b0
    try clear c32b1
    try clear c34
    try clear c34b0
    try clear c34b1
    try clear c35
    try clear c35b0
    try clear c35b1
    try clear c38
    try clear q38
    try clear hcz22_0
    try clear hcz23_0
    try clear hcz27_0
    try clear hcz8_0
    try clear hfz22_0
    try clear hfz23_0
    try clear hfz27_0
    try clear hfz8_0
    try clear hx770_0
    try clear p2
    try clear p770
    try clear q038
    try clear q38
    try clear q770
    obtain ⟨kq, x82_24, rfl, HA, HJ24, HO_9, HO_770000, BK769, HB⟩ := hcut
    cases kq with
    | zero => exact absurd HA.out (by simp [laws_FnWal.j1])
    | succ kj24 =>
     have H := HA.out
     clear HA
     simp only [laws_FnWal.j1] at H
     by_cases c39 : x82_24 = true
     ·
      subst c39
      have H1 : (none) = some r := by rw [if_pos rfl] at H; exact H
      clear H
      have H := H1
      clear H1
      exact absurd H (by simp)
     replace c39 := Bool.eq_false_iff.mpr c39
     subst c39
     have H1 : (laws_FnWal.l1 kj24 t768 t776 (([] : List Int)) 0 x770000_1) = some r := by rw [if_neg (show ¬ (false = true) by decide)] at H; exact H
     clear H
     have H := H1
     clear H1
     obtain ⟨y785, hy785⟩ : ∃ y_ : List Int, y_ = (([] : List Int)) := ⟨_, rfl⟩
     replace H : (laws_FnWal.l1 kj24 t768 t776 y785 0 x770000_1) = some r := by first | (rw [hy785]; with_reducible exact H) | (have H2_ := (Option.bind_some _ _).symm.trans H; rw [hy785]; with_reducible exact H2_) | (have H2_ := (Option.bind_some _ _).symm.trans H; with_reducible exact H2_) | with_reducible exact H | (rw [hy785]; exact H) | exact H
     have Ny785 := Zh hy785
     clear hy785
     have H' := Zh H
     clear H
     go_wp2_with (first | ((with_reducible refine gate_dst (N := 83) rfl ?_); (try (refine gate_guard (by rfl) ?_; dsimp only)); refine R_lit (Kd.int .i64) _ 3 ?hg (N := 83) ?hd (xs := ([] : List Int)) (inner := []) (ok := fun _ => True) (okp := fun _ => True) ?hr ?hp (fun _ hk => hk) trivial (Below.refl _ _) (Nat.le_refl _) (by simp) ?_; (case hd => rfl); (case hg => rfl); (case hr => first | (go_simp; done) | (go_simp; rfl)); (case hp => exact (Reps.none _ _)); intro v786 w40 ho41 hb hg_ hnew_; clear hg_ hnew_; (first | rw [← Ny785.out] at ho41 | (simp only [Int.reduceToNat] at ho41; rw [← Ny785.out] at ho41)); replace HO_9 := Zh (S_below (ZS HO_9.out) hb); replace HO_770000 := Zh (S_below (ZS HO_770000.out) hb); have HO787 := Zh (R_lower ho41 (below_size Zs)); replace BK769 := Zh (Zm (g := gb769) (o := .cells #[.slice Ao28 x770000_1.length co28] 28 (0, 0)) Zk hb); replace HB := Zh (Zl Zs hb); clear hb ho41))
     go_loopg [11, 12] kj24 (fun kq v11 v12 w' => ∃ (x11_3 : List Int) (x12_3 : Int), v12 = .int .i64 x12_3 ∧ Aside0 (laws_FnWal.l1 kq t768 t776 x11_3 x12_3 x770000_1 = some r) ∧ Aside0 (kq ≤ kj24) ∧ Aside0 (Kd.S (Kd.slice 5 (Kd.int .u8)) 41 w' w.heap.size (fun _ => True) v777 t776) ∧ Aside0 (Kd.R (Kd.int .i64) 3 w' w.heap.size (fun _ => True) v11 x11_3) ∧ Aside0 (Kd.S k55 55 w' w.heap.size (fun _ => True) (.slice Ao28 x770000_1.length co28) x770000_1) ∧ Aside0 (w'.heap[gb769]? = some (.cells #[(.slice Ao28 x770000_1.length co28)] 28 (0, 0))) ∧ Aside0 (Below w.heap.size w w'))
     case atStart => exact ⟨(y785), (0), (by first | rfl | (simp; done) | (simp [*]; done)), H', ⟨Nat.le_refl _⟩, ⟨ZS HO_9.out⟩, ⟨ZR HO787.out⟩, ⟨ZS HO_770000.out⟩, ⟨Zk⟩, ⟨Zs⟩⟩
     case round =>
      clear H'
      try clear c1
      try clear c2
      try clear p2
      try clear c3
      try clear q3
      try clear p6
      try clear c7
      try clear p7
      try clear q7
      try clear hx7
      try clear c9
      try clear c9b0
      try clear c10
      try clear c10b0
      try clear c12
      try clear c21
      try clear c29
      try clear c30
      try clear c30b0
      try clear c30b1
      try clear c31
      try clear c31b0
      try clear c31b1
      try clear c32
      try clear c32b0
      try clear c32b1
      try clear c34
      try clear c34b0
      try clear c34b1
      try clear c35
      try clear c35b0
      try clear c35b1
      try clear c38
      try clear q38
      try clear c39
      try clear hcz22_0
      try clear hcz23_0
      try clear hcz27_0
      try clear hcz8_0
      try clear hfz22_0
      try clear hfz23_0
      try clear hfz27_0
      try clear hfz8_0
      try clear hx770_0
      try clear p2
      try clear p6
      try clear p7
      try clear p770
      try clear q038
      try clear q3
      try clear q38
      try clear q7
      try clear q770
      obtain ⟨x11_3, x12_3, rfl, HA, HK3, HO_9, HO_11, HO_770000, BK769, HB⟩ := hrel
      cases gk with
      | zero => exact absurd HA.out (by simp [laws_FnWal.l1])
      | succ k3 =>
       have H := HA.out
       clear HA
       simp only [laws_FnWal.l1] at H
       by_cases c42 : x12_3 < 8
       ·
        rw [if_pos c42] at H
        have c42b0 : decide (x12_3 < 8) = true := decide_eq_true c42
        clear c42
        by_cases c43 : x11_3.length < 17592186044416
        ·
         rw [if_pos c43] at H
         have LMc43 := Zh c43
         clear c43
         obtain ⟨y788, hy788⟩ : ∃ y_ : List Int, y_ = (x11_3 ++ [t768]) := ⟨_, rfl⟩
         replace H : (laws_FnWal.l1 k3 t768 t776 y788 (wrap64 (x12_3 + 1)) x770000_1) = some r := by first | (rw [hy788]; with_reducible exact H) | (have H2_ := (Option.bind_some _ _).symm.trans H; rw [hy788]; with_reducible exact H2_) | (have H2_ := (Option.bind_some _ _).symm.trans H; with_reducible exact H2_) | with_reducible exact H | (rw [hy788]; exact H) | exact H
         have Ny788 := Zh hy788
         clear hy788
         have H' := Zh H
         clear H
         go_wp2_with (first | ((with_reducible refine gate_builtin (b := .append) (xs := #[.tmp 88, .tmp 90]) rfl ?_); (try (refine gate_guard (by rfl) ?_; dsimp only)); at_builtin; refine R_append (Kd.int .i64) (w0 := w) w.heap.size rfl (.tmp 88) (.tmp 90) 52 3 (.int .i64 0) 8 rfl Tryd.underlying52 info3 rfl (by decide) (by omega) u11 x11_3 t768 [.int .i64 t768] (fun _ => True) (fun _ => False) rfl rfl ?aP (fun _ hk => hk.elim) ?aF ?aO ?aB ?aS ?aL ?_; (case aP => exact rfl); (case aB => exact Zs); (case aF => exact (fun _ _ => trivial)); (case aO => exact (ZR HO_11.out)); (case aS => exact (below_size Zs)); (case aL => have := LMc43.out; omega); intro v789 w44 ho hb hg hat; rw [← Ny788.out] at ho; have n0_ := Zh (S_over' (ZS HO_9.out) (R_typed (ZR HO_11.out)) (by decide) hg); have n1_ := Zh (S_over' (ZS HO_770000.out) (R_typed (ZR HO_11.out)) (by decide) hg); have n2_ := Zh (blk_grown (g := gb769) (o := .cells #[.slice Ao28 x770000_1.length co28] 28 (0, 0)) Zk hg (R_ne HO_11.out BK769.out (by decide))); have n3_ := Zh (hb); have n4_ := Zh (ho); clear HO_9; clear HO_770000; clear BK769; clear HB; clear HO_11; have HO_9 := n0_; have HO_770000 := n1_; have BK769 := n2_; have HB := n3_; have HO790 := n4_; clear n0_ n1_ n2_ n3_ n4_; clear ho hb hg hat))
         go_roundg k3
         case measure => have := HK1.out; have := HJ24.out; have := HK3.out; omega
         case rel => exact ⟨(y788), (wrap64 (x12_3 + 1)), (by first | rfl | (simp; done) | (simp [*]; done)), H', ⟨by have := HK1.out; have := HJ24.out; have := HK3.out; omega⟩, ⟨ZS HO_9.out⟩, ⟨ZR HO790.out⟩, ⟨ZS HO_770000.out⟩, ⟨Zk⟩, ⟨Zs⟩⟩
        rw [if_neg c43] at H
        exact absurd H (by simp)
       rw [if_neg c42] at H
       have c42b0 : decide (x12_3 < 8) = false := decide_eq_false c42
       clear c42
       replace H := Option.bind_eq_some_iff.mp H
       obtain ⟨t791, A450, H⟩ := H
       replace H : ((impl_WalRead.f k3 t791).bind fun bt795 => ((laws_starts.f k3 t776 bt795.1).bind fun t799 => (if t799 = true then ((impl_WalSync.f k3 x770000_1).bind fun bt800 => (if bt800.2 = true then ((impl_Crash.f k3 bt800.1 ([] : List Int) ([] : List Int)).bind fun t805 => ((impl_WalRead.f k3 t805).bind fun bt808 => (if bt808.2 = 0 then ((laws_samePayloads.f k3 bt808.1 t776).bind fun t812 => (if t812 = true then (laws_FnWal.j3 k3 bt795.1 bt795.2 t791) else (none))) else (none)))) else (laws_FnWal.j3 k3 bt795.1 bt795.2 t791))) else (none)))) = some r := H
       have A45 := Zh A450
       clear A450
       replace H := Option.bind_eq_some_iff.mp H
       obtain ⟨⟨t795, t798⟩, A460, H⟩ := H
       replace H : ((laws_starts.f k3 t776 t795).bind fun t799 => (if t799 = true then ((impl_WalSync.f k3 x770000_1).bind fun bt800 => (if bt800.2 = true then ((impl_Crash.f k3 bt800.1 ([] : List Int) ([] : List Int)).bind fun t805 => ((impl_WalRead.f k3 t805).bind fun bt808 => (if bt808.2 = 0 then ((laws_samePayloads.f k3 bt808.1 t776).bind fun t812 => (if t812 = true then (laws_FnWal.j3 k3 t795 t798 t791) else (none))) else (none)))) else (laws_FnWal.j3 k3 t795 t798 t791))) else (none))) = some r := H
       have A46 := Zh A460
       clear A460
       replace H := Option.bind_eq_some_iff.mp H
       obtain ⟨t799, A470, H⟩ := H
       replace H : (if t799 = true then ((impl_WalSync.f k3 x770000_1).bind fun bt800 => (if bt800.2 = true then ((impl_Crash.f k3 bt800.1 ([] : List Int) ([] : List Int)).bind fun t805 => ((impl_WalRead.f k3 t805).bind fun bt808 => (if bt808.2 = 0 then ((laws_samePayloads.f k3 bt808.1 t776).bind fun t812 => (if t812 = true then (laws_FnWal.j3 k3 t795 t798 t791) else (none))) else (none)))) else (laws_FnWal.j3 k3 t795 t798 t791))) else (none)) = some r := H
       have A47 := Zh A470
       clear A470
       by_cases c48 : t799 = true
       ·
        subst c48
        have H1 : ((impl_WalSync.f k3 x770000_1).bind fun bt800 => (if bt800.2 = true then ((impl_Crash.f k3 bt800.1 ([] : List Int) ([] : List Int)).bind fun t805 => ((impl_WalRead.f k3 t805).bind fun bt808 => (if bt808.2 = 0 then ((laws_samePayloads.f k3 bt808.1 t776).bind fun t812 => (if t812 = true then (laws_FnWal.j3 k3 t795 t798 t791) else (none))) else (none)))) else (laws_FnWal.j3 k3 t795 t798 t791))) = some r := by rw [if_pos rfl] at H; exact H
        clear H
        have H := H1
        clear H1
        replace H := Option.bind_eq_some_iff.mp H
        obtain ⟨⟨t800, t803⟩, A490, H⟩ := H
        replace H : (if t803 = true then ((impl_Crash.f k3 t800 ([] : List Int) ([] : List Int)).bind fun t805 => ((impl_WalRead.f k3 t805).bind fun bt808 => (if bt808.2 = 0 then ((laws_samePayloads.f k3 bt808.1 t776).bind fun t812 => (if t812 = true then (laws_FnWal.j3 k3 t795 t798 t791) else (none))) else (none)))) else (laws_FnWal.j3 k3 t795 t798 t791)) = some r := H
        have A49 := Zh A490
        clear A490
        have HC50 := Zh H
        clear H
        have hcz51_0 : wr.cell? ⟨gb769, 0, none⟩ = some (.slice Ao28 x770000_1.length co28) := (blk_cell BK769.out 0).trans rfl
        have hfz51_0 := Zn BK769.out 0
        obtain ⟨Ao52, co52, eo52⟩ := R_slice HO_11.out
        subst eo52
        go_upto_if 109 with (first | ((with_reducible refine gate_callee (f := 37) rfl ?_); refine ZG (some 94) Tryd.func37 #[.agg #[.slice Ao28 x770000_1.length co28], .slice Ao52 x11_3.length co52, .slice none 0 0] rfl ?_; (refine (impl_Crash.calls k3 _ _ x770000_1 _ _ x11_3 _ _ ([] : List Int) t791 _ ?side1 ?side2 ?side3 ?side4 ?side5 ?side6 A45.out).mono ?_); (case side1 => repeat (first | exact (S_reads' HO_770000.out).2.2 | (with_reducible refine C_alloc ?_ _) | (with_reducible refine C_drewN ?_ _) | (with_reducible refine C_drew ?_))); (case side2 => exact (S_reads' HO_770000.out).2.1); (case side3 => repeat (first | exact (R_reads' HO_11.out).2.2 | (with_reducible refine C_alloc ?_ _) | (with_reducible refine C_drewN ?_ _) | (with_reducible refine C_drew ?_))); (case side4 => exact (R_reads' HO_11.out).2.1); (case side5 => exact C_nil _ _); (case side6 => exact Nat.le_refl _); rintro e w53 ⟨v792, rfl, ho0, hb⟩; refine ⟨_, rfl, ?_⟩; replace HO_9 := Zh (S_below (ZS HO_9.out) hb); replace HO_11 := Zh (R_below (ZR HO_11.out) hb); have HO793 := Zh (S_lower (S_new' ho0 (S_lt (ZS HO_770000.out))) (below_size Zs)); replace HO_770000 := Zh (S_elder' (ZS HO_770000.out) (S_base ho0) hb); replace BK769 := Zh (Zm (g := gb769) (o := .cells #[.slice Ao28 x770000_1.length co28] 28 (0, 0)) Zk hb); replace HB := Zh (Zl Zs hb); (try clear hb); (try clear hb2); (try clear hk); (try clear hi); (try clear ho0)) | ((with_reducible refine gate_dst (N := 13) rfl ?_); (try (refine gate_guard (by rfl) ?_; dsimp only)); refine box_event ?hg (N := 13) ?hd (cs := #[.slice none 0 0]) (t := 28) ?hr ?_; (case hd => rfl); (case hg => rfl); (case hr => first | (go_simp; done) | (go_simp; rfl)); intro gb794 hg w54 hbox hb; replace HO_9 := Zh (S_below (ZS HO_9.out) hb); replace HO_11 := Zh (R_below (ZR HO_11.out) hb); replace HO_770000 := Zh (S_below (ZS HO_770000.out) hb); replace HO793 := Zh (S_below (ZS HO793.out) hb); have BK794 := Zh (hbox); have GW794 := Zh ((by rw [hg]; exact (below_size Zs) : w.heap.size ≤ gb794)); have GE794 := Zh ((by rw [hg]; exact (below_size Zs) : w.heap.size ≤ gb794)); replace HB := Zh (Zl Zs hb); have NB769_794 := Zh ((by rw [hg]; exact Nat.ne_of_lt (blk_lt (g := gb769) (o := .cells #[.slice Ao28 x770000_1.length co28] 28 (0, 0)) Zk) : gb769 ≠ gb794)); have NB794_769 := Zh ((by rw [hg]; exact Nat.ne_of_gt (blk_lt (g := gb769) (o := .cells #[.slice Ao28 x770000_1.length co28] 28 (0, 0)) Zk) : gb794 ≠ gb769)); replace BK769 := Zh (Zm (g := gb769) (o := .cells #[.slice Ao28 x770000_1.length co28] 28 (0, 0)) Zk hb); clear hb hbox hg; obtain ⟨Ao55, co55, eo55⟩ := S_slice HO793.out; subst eo55; have hnb56 := NB794_769.out; have hnc56 := NB769_794.out; have hcz57_0 : w54.cell? ⟨gb794, 0, none⟩ = some (.slice none 0 0) := (blk_cell BK794.out 0).trans rfl; have hfz57_0 := Zn BK794.out 0) | ((with_reducible refine gate_callee (f := 21) rfl ?_); refine ZG (some 97) Tryd.func21 #[.agg #[.slice Ao55 t791.length co55]] rfl ?_; (with_reducible refine (impl_WalRead.calls k3 _ _ t791 t795 t798 _ ?side1 ?side2 A46.out).mono ?_); (case side1 => refine (S_reads' (e := 55) (base := w.heap.size) (ok := fun k_ => (True ∧ some k_ ≠ (.slice Ao28 x770000_1.length co28 : Value).ownBlock)) (n := t791.length) (c := co55) ?_).2.2; exact (ZS (S_mono (S_far (p := ⟨gb794, 0, none⟩) (S_types HO793.out BK794.out (by decide)) (fun _ hk => hk.2) (.slice Ao55 t791.length co55)) (fun _ h_ => h_.1)))); (case side2 => exact (S_reads' HO793.out).2.1); rintro e w58 ⟨v796, rfl, ho0, hb⟩; refine ⟨_, rfl, ?_⟩; replace HO_11 := Zh (R_below (ZR (R_mono (R_far (p := ⟨gb794, 0, none⟩) (R_types HO_11.out BK794.out (by decide)) (fun _ hk => hk.2) (.slice Ao55 t791.length co55)) (fun _ h_ => h_.1))) hb); replace HO_770000 := Zh (S_below (ZS (S_mono (S_far (p := ⟨gb794, 0, none⟩) (S_types HO_770000.out BK794.out (by decide)) (fun _ hk => hk.2) (.slice Ao55 t791.length co55)) (fun _ h_ => h_.1))) hb); replace HO793 := Zh (S_below (ZS (S_mono (S_far (p := ⟨gb794, 0, none⟩) (S_types HO793.out BK794.out (by decide)) (fun _ hk => hk.2) (.slice Ao55 t791.length co55)) (fun _ h_ => h_.1))) hb); have HO797 := Zh (S_lower (S_new' ho0 (S_lt (ZS (S_mono (S_far (p := ⟨gb794, 0, none⟩) (S_types HO_9.out BK794.out (by decide)) (fun _ hk => hk.2) (.slice Ao55 t791.length co55)) (fun _ h_ => h_.1))))) (below_size Zs)); replace HO_9 := Zh (S_elder' (ZS (S_mono (S_far (p := ⟨gb794, 0, none⟩) (S_types HO_9.out BK794.out (by decide)) (fun _ hk => hk.2) (.slice Ao55 t791.length co55)) (fun _ h_ => h_.1))) (S_base ho0) hb); replace BK769 := Zh (Zm (g := gb769) (o := .cells #[.slice Ao28 x770000_1.length co28] 28 (0, 0)) (by (with_reducible repeat (first | refine Za ?_ _ | refine Zb ?_ | refine blk_alloc ?_ _)); refine blk_far ?_ NB769_794.out _; (with_reducible repeat (first | refine Za ?_ _ | refine Zb ?_ | refine blk_alloc ?_ _)); exact BK769.out) hb); replace BK794 := Zh (Zm (g := gb794) (o := .cells #[.slice Ao55 t791.length co55] 28 (0, 0)) (by (with_reducible repeat (first | refine Za ?_ _ | refine Zb ?_ | refine blk_alloc ?_ _)); refine blk_put (cs := #[.slice none 0 0]) ?_ 0 _ rfl; (with_reducible repeat (first | refine Za ?_ _ | refine Zb ?_ | refine blk_alloc ?_ _)); exact BK794.out) hb); replace HB := Zh (Zl Zs hb); (try clear hb); (try clear hb2); (try clear hk); (try clear hi); (try clear ho0); obtain ⟨Ao59, co59, eo59⟩ := S_slice HO_9.out; subst eo59; obtain ⟨Ao60, co60, eo60⟩ := S_slice HO797.out; subst eo60) | ((with_reducible refine gate_callee (f := 38) rfl ?_); refine ZG (some 102) Tryd.func38 #[.slice Ao59 t776.length co59, .slice Ao60 t795.length co60] rfl ?_; (with_reducible refine (laws_starts.calls k3 _ _ t776 _ _ t795 true _ ?side1 ?side2 ?side3 ?side4 A47.out).mono ?_); (case side1 => repeat (first | exact (S_reads' HO_9.out).2.2 | (with_reducible refine C_alloc ?_ _) | (with_reducible refine C_drewN ?_ _) | (with_reducible refine C_drew ?_))); (case side2 => exact (S_reads' HO_9.out).2.1); (case side3 => repeat (first | exact (S_reads' HO797.out).2.2 | (with_reducible refine C_alloc ?_ _) | (with_reducible refine C_drewN ?_ _) | (with_reducible refine C_drew ?_))); (case side4 => exact (S_reads' HO797.out).2.1); rintro e w' ⟨rfl, ⟨nd, rfl⟩⟩; refine ⟨_, rfl, ?_⟩; (try (rw [drewN_self w58]; generalize hq_ : World.drewN w58 _ = w58; have n0_ : Aside0 (Kd.S k55 55 w58 w.heap.size (fun k_ => some k_ ≠ (.slice Ao28 x770000_1.length co28 : Value).ownBlock) (.slice Ao55 t791.length co55) t791) := ⟨by rw [← hq_]; exact (ZS (S_mono HO793.out (fun _ hk => hk.2)))⟩; have n1_ : Aside0 (Kd.S (Kd.slice 5 (Kd.int .u8)) 41 w58 w.heap.size (fun k_ => some k_ ≠ (.slice Ao59 t776.length co59 : Value).ownBlock) (.slice Ao60 t795.length co60) t795) := ⟨by rw [← hq_]; exact (ZS (S_mono HO797.out (fun _ hk => hk.2)))⟩; have n2_ : Aside0 (Kd.R (Kd.int .i64) 3 w58 w.heap.size (fun _ => True) (.slice Ao52 x11_3.length co52) x11_3) := ⟨by rw [← hq_]; exact (ZR HO_11.out)⟩; have n3_ : Aside0 (Kd.S k55 55 w58 w.heap.size (fun k_ => some k_ ≠ (.slice Ao55 t791.length co55 : Value).ownBlock) (.slice Ao28 x770000_1.length co28) x770000_1) := ⟨by rw [← hq_]; exact (ZS (S_mono HO_770000.out (fun _ hk => hk.2)))⟩; have n4_ : Aside0 (Kd.S (Kd.slice 5 (Kd.int .u8)) 41 w58 w.heap.size (fun k_ => some k_ ≠ (.slice Ao60 t795.length co60 : Value).ownBlock) (.slice Ao59 t776.length co59) t776) := ⟨by rw [← hq_]; exact (ZS (S_mono HO_9.out (fun _ hk => hk.2)))⟩; have n5_ : Aside0 (w58.heap[gb769]? = some (.cells #[.slice Ao28 x770000_1.length co28] 28 (0, 0))) := ⟨by rw [← hq_]; exact Zk⟩; have n6_ : Aside0 (w58.heap[gb794]? = some (.cells #[.slice Ao55 t791.length co55] 28 (0, 0))) := ⟨by rw [← hq_]; exact Zk⟩; have n7_ : Aside0 (Below w.heap.size w w58) := ⟨by rw [← hq_]; exact Zs⟩; clear HO793 HO797 HO_11 HO_770000 HO_9 BK769 BK794 HB hq_; have HO793 := n0_; have HO797 := n1_; have HO_11 := n2_; have HO_770000 := n3_; have HO_9 := n4_; have BK769 := n5_; have BK794 := n6_; have HB := n7_; clear n0_ n1_ n2_ n3_ n4_ n5_ n6_ n7_)); have hcz61_0 : w58.cell? ⟨gb769, 0, none⟩ = some (.slice Ao28 x770000_1.length co28) := (blk_cell BK769.out 0).trans rfl; have hfz61_0 := Zn BK769.out 0) | ((with_reducible refine gate_callee (f := 14) rfl ?_); refine ZG (some 106) Tryd.func14 #[.agg #[.slice Ao28 x770000_1.length co28]] rfl ?_; (with_reducible refine (impl_WalSync.calls k3 _ _ x770000_1 t800 t803 _ ?side1 ?side2 A49.out).mono ?_); (case side1 => repeat (first | exact (S_reads' HO_770000.out).2.2 | (with_reducible refine C_alloc ?_ _) | (with_reducible refine C_drewN ?_ _) | (with_reducible refine C_drew ?_))); (case side2 => exact (S_reads' HO_770000.out).2.1); rintro e w62 ⟨v801, rfl, ho0, hb⟩; refine ⟨_, rfl, ?_⟩; replace HO_9 := Zh (S_below (ZS HO_9.out) hb); replace HO_11 := Zh (R_below (ZR HO_11.out) hb); replace HO797 := Zh (S_below (ZS HO797.out) hb); have HO802 := Zh (S_lower (S_new' (S_new' ho0 (S_lt (ZS HO_770000.out))) (S_lt (ZS HO793.out))) (below_size Zs)); replace HO_770000 := Zh (S_elder' (ZS HO_770000.out) (S_base ho0) hb); replace HO793 := Zh (S_elder' (ZS HO793.out) (S_base ho0) hb); replace BK769 := Zh (Zm (g := gb769) (o := .cells #[.slice Ao28 x770000_1.length co28] 28 (0, 0)) Zk hb); replace BK794 := Zh (Zm (g := gb794) (o := .cells #[.slice Ao55 t791.length co55] 28 (0, 0)) Zk hb); replace HB := Zh (Zl Zs hb); (try clear hb); (try clear hb2); (try clear hk); (try clear hi); (try clear ho0)) | ((with_reducible refine gate_dst (N := 16) rfl ?_); (try (refine gate_guard (by rfl) ?_; dsimp only)); refine box_event ?hg (N := 16) ?hd (cs := #[.slice none 0 0]) (t := 28) ?hr ?_; (case hd => rfl); (case hg => rfl); (case hr => first | (go_simp; done) | (go_simp; rfl)); intro gb804 hg w63 hbox hb; replace HO_9 := Zh (S_below (ZS HO_9.out) hb); replace HO_11 := Zh (R_below (ZR HO_11.out) hb); replace HO_770000 := Zh (S_below (ZS HO_770000.out) hb); replace HO793 := Zh (S_below (ZS HO793.out) hb); replace HO797 := Zh (S_below (ZS HO797.out) hb); replace HO802 := Zh (S_below (ZS HO802.out) hb); have BK804 := Zh (hbox); have GW804 := Zh ((by rw [hg]; exact (below_size Zs) : w.heap.size ≤ gb804)); have GE804 := Zh ((by rw [hg]; exact (below_size Zs) : w.heap.size ≤ gb804)); replace HB := Zh (Zl Zs hb); have NB769_804 := Zh ((by rw [hg]; exact Nat.ne_of_lt (blk_lt (g := gb769) (o := .cells #[.slice Ao28 x770000_1.length co28] 28 (0, 0)) Zk) : gb769 ≠ gb804)); have NB804_769 := Zh ((by rw [hg]; exact Nat.ne_of_gt (blk_lt (g := gb769) (o := .cells #[.slice Ao28 x770000_1.length co28] 28 (0, 0)) Zk) : gb804 ≠ gb769)); replace BK769 := Zh (Zm (g := gb769) (o := .cells #[.slice Ao28 x770000_1.length co28] 28 (0, 0)) Zk hb); have NB794_804 := Zh ((by rw [hg]; exact Nat.ne_of_lt (blk_lt (g := gb794) (o := .cells #[.slice Ao55 t791.length co55] 28 (0, 0)) Zk) : gb794 ≠ gb804)); have NB804_794 := Zh ((by rw [hg]; exact Nat.ne_of_gt (blk_lt (g := gb794) (o := .cells #[.slice Ao55 t791.length co55] 28 (0, 0)) Zk) : gb804 ≠ gb794)); replace BK794 := Zh (Zm (g := gb794) (o := .cells #[.slice Ao55 t791.length co55] 28 (0, 0)) Zk hb); clear hb hbox hg; obtain ⟨Ao64, co64, eo64⟩ := S_slice HO802.out; subst eo64; have hnb65 := NB804_769.out; have hnc65 := NB769_804.out; have hnb66 := NB804_794.out; have hnc66 := NB794_804.out; have hcz67_0 : w63.cell? ⟨gb804, 0, none⟩ = some (.slice none 0 0) := (blk_cell BK804.out 0).trans rfl; have hfz67_0 := Zn BK804.out 0))
        (try simp only [Act.put, List.setIfInBounds_toArray, List.set_cons_zero, List.set_cons_succ])
        go_cut [] (fun wc => ∃ (kq : Nat), Aside0 (laws_FnWal.j3 kq t795 t798 t791 = some r) ∧ Aside0 (kq ≤ k3) ∧ Aside0 (Kd.S (Kd.slice 5 (Kd.int .u8)) 41 wc w.heap.size (fun _ => True) (.slice Ao60 t795.length co60) t795) ∧ Aside0 (Kd.S k55 55 wc w.heap.size (fun k_ => some k_ ≠ ((.slice Ao55 t791.length co55) : Value).ownBlock ∧ some k_ ≠ ((.slice Ao64 t800.length co64) : Value).ownBlock) (.slice Ao28 x770000_1.length co28) x770000_1) ∧ Aside0 (Kd.S k55 55 wc w.heap.size (fun k_ => some k_ ≠ ((.slice Ao28 x770000_1.length co28) : Value).ownBlock ∧ some k_ ≠ ((.slice Ao64 t800.length co64) : Value).ownBlock) (.slice Ao55 t791.length co55) t791) ∧ Aside0 (Kd.S k55 55 wc w.heap.size (fun k_ => some k_ ≠ ((.slice Ao28 x770000_1.length co28) : Value).ownBlock ∧ some k_ ≠ ((.slice Ao55 t791.length co55) : Value).ownBlock) (.slice Ao64 t800.length co64) t800) ∧ Aside0 (wc.heap[gb769]? = some (.cells #[(.slice Ao28 x770000_1.length co28)] 28 (0, 0))) ∧ Aside0 (wc.heap[gb794]? = some (.cells #[(.slice Ao55 t791.length co55)] 28 (0, 0))) ∧ Aside0 (wc.heap[gb804]? = some (.cells #[(.slice Ao64 t800.length co64)] 28 (0, 0))) ∧ Aside0 (Below w.heap.size w wc))
        case first =>
         have H := HC50.out
         clear HC50
         by_cases c68 : t803 = true
         ·
          subst c68
          have H1 : ((impl_Crash.f k3 t800 ([] : List Int) ([] : List Int)).bind fun t805 => ((impl_WalRead.f k3 t805).bind fun bt808 => (if bt808.2 = 0 then ((laws_samePayloads.f k3 bt808.1 t776).bind fun t812 => (if t812 = true then (laws_FnWal.j3 k3 t795 t798 t791) else (none))) else (none)))) = some r := by rw [if_pos rfl] at H; exact H
          clear H
          have H := H1
          clear H1
          replace H := Option.bind_eq_some_iff.mp H
          obtain ⟨t805, A690, H⟩ := H
          replace H : ((impl_WalRead.f k3 t805).bind fun bt808 => (if bt808.2 = 0 then ((laws_samePayloads.f k3 bt808.1 t776).bind fun t812 => (if t812 = true then (laws_FnWal.j3 k3 t795 t798 t791) else (none))) else (none))) = some r := H
          have A69 := Zh A690
          clear A690
          replace H := Option.bind_eq_some_iff.mp H
          obtain ⟨⟨t808, t811⟩, A700, H⟩ := H
          replace H : (if t811 = 0 then ((laws_samePayloads.f k3 t808 t776).bind fun t812 => (if t812 = true then (laws_FnWal.j3 k3 t795 t798 t791) else (none))) else (none)) = some r := H
          have A70 := Zh A700
          clear A700
          by_cases c71 : t811 = 0
          ·
           rw [if_pos c71] at H
           have c71b0 : (t811 == 0) = true := beq_iff_eq.mpr c71
           have c71b1 : (t811 != 0) = false := bne_eq_false_iff_eq.mpr c71
           clear c71
           (first | rw [c71b0] | (simp only [i64_w, i32_w]; rw [c71b0]) | skip)
           replace H := Option.bind_eq_some_iff.mp H
           obtain ⟨t812, A720, H⟩ := H
           replace H : (if t812 = true then (laws_FnWal.j3 k3 t795 t798 t791) else (none)) = some r := H
           have A72 := Zh A720
           clear A720
           by_cases c73 : t812 = true
           ·
            subst c73
            have H1 : (laws_FnWal.j3 k3 t795 t798 t791) = some r := by rw [if_pos rfl] at H; exact H
            clear H
            have H := H1
            clear H1
            have H' := Zh H
            clear H
            have hnb74 := NB804_769.out
            have hnc74 := NB769_804.out
            have hnb75 := NB804_794.out
            have hnc75 := NB794_804.out
            have hcz76_0 : w63.cell? ⟨gb804, 0, none⟩ = some (.slice none 0 0) := (blk_cell BK804.out 0).trans rfl
            have hfz76_0 := Zn BK804.out 0
            go_wp2_with (first | ((with_reducible refine gate_callee (f := 37) rfl ?_); refine ZG (some 112) Tryd.func37 #[.agg #[.slice Ao64 t800.length co64], .slice none 0 0, .slice none 0 0] rfl ?_; (refine (impl_Crash.calls k3 _ _ t800 _ _ ([] : List Int) _ _ ([] : List Int) t805 _ ?side1 ?side2 ?side3 ?side4 ?side5 ?side6 A69.out).mono ?_); (case side1 => refine (S_reads' (e := 55) (base := w.heap.size) (ok := fun k_ => ((True ∧ some k_ ≠ (.slice Ao28 x770000_1.length co28 : Value).ownBlock) ∧ some k_ ≠ (.slice Ao55 t791.length co55 : Value).ownBlock)) (n := t800.length) (c := co64) ?_).2.2; exact (ZS (S_mono (S_far (p := ⟨gb804, 0, none⟩) (S_types HO802.out BK804.out (by decide)) (fun _ hk => hk.2) (.slice Ao64 t800.length co64)) (fun _ h_ => h_.1)))); (case side2 => exact (S_reads' HO802.out).2.1); (case side3 => exact C_nil _ _); (case side4 => exact Nat.le_refl _); (case side5 => exact C_nil _ _); (case side6 => exact Nat.le_refl _); rintro e w77 ⟨v806, rfl, ho0, hb⟩; refine ⟨_, rfl, ?_⟩; replace HO_9 := Zh (S_below (ZS (S_mono (S_far (p := ⟨gb804, 0, none⟩) (S_types HO_9.out BK804.out (by decide)) (fun _ hk => hk.2) (.slice Ao64 t800.length co64)) (fun _ h_ => h_.1))) hb); replace HO_11 := Zh (R_below (ZR (R_mono (R_far (p := ⟨gb804, 0, none⟩) (R_types HO_11.out BK804.out (by decide)) (fun _ hk => hk.2) (.slice Ao64 t800.length co64)) (fun _ h_ => h_.1))) hb); replace HO797 := Zh (S_below (ZS (S_mono (S_far (p := ⟨gb804, 0, none⟩) (S_types HO797.out BK804.out (by decide)) (fun _ hk => hk.2) (.slice Ao64 t800.length co64)) (fun _ h_ => h_.1))) hb); have HO807 := Zh (S_lower (S_new' (S_new' (S_new' ho0 (S_lt (ZS (S_mono (S_far (p := ⟨gb804, 0, none⟩) (S_types HO_770000.out BK804.out (by decide)) (fun _ hk => hk.2) (.slice Ao64 t800.length co64)) (fun _ h_ => h_.1))))) (S_lt (ZS (S_mono (S_far (p := ⟨gb804, 0, none⟩) (S_types HO793.out BK804.out (by decide)) (fun _ hk => hk.2) (.slice Ao64 t800.length co64)) (fun _ h_ => h_.1))))) (S_lt (ZS (S_mono (S_far (p := ⟨gb804, 0, none⟩) (S_types HO802.out BK804.out (by decide)) (fun _ hk => hk.2) (.slice Ao64 t800.length co64)) (fun _ h_ => h_.1))))) (below_size Zs)); replace HO_770000 := Zh (S_elder' (ZS (S_mono (S_far (p := ⟨gb804, 0, none⟩) (S_types HO_770000.out BK804.out (by decide)) (fun _ hk => hk.2) (.slice Ao64 t800.length co64)) (fun _ h_ => h_.1))) (S_base ho0) hb); replace HO793 := Zh (S_elder' (ZS (S_mono (S_far (p := ⟨gb804, 0, none⟩) (S_types HO793.out BK804.out (by decide)) (fun _ hk => hk.2) (.slice Ao64 t800.length co64)) (fun _ h_ => h_.1))) (S_base ho0) hb); replace HO802 := Zh (S_elder' (ZS (S_mono (S_far (p := ⟨gb804, 0, none⟩) (S_types HO802.out BK804.out (by decide)) (fun _ hk => hk.2) (.slice Ao64 t800.length co64)) (fun _ h_ => h_.1))) (S_base ho0) hb); replace BK769 := Zh (Zm (g := gb769) (o := .cells #[.slice Ao28 x770000_1.length co28] 28 (0, 0)) (by (with_reducible repeat (first | refine Za ?_ _ | refine Zb ?_ | refine blk_alloc ?_ _)); refine blk_far ?_ NB769_804.out _; (with_reducible repeat (first | refine Za ?_ _ | refine Zb ?_ | refine blk_alloc ?_ _)); exact BK769.out) hb); replace BK794 := Zh (Zm (g := gb794) (o := .cells #[.slice Ao55 t791.length co55] 28 (0, 0)) (by (with_reducible repeat (first | refine Za ?_ _ | refine Zb ?_ | refine blk_alloc ?_ _)); refine blk_far ?_ NB794_804.out _; (with_reducible repeat (first | refine Za ?_ _ | refine Zb ?_ | refine blk_alloc ?_ _)); exact BK794.out) hb); replace BK804 := Zh (Zm (g := gb804) (o := .cells #[.slice Ao64 t800.length co64] 28 (0, 0)) (by (with_reducible repeat (first | refine Za ?_ _ | refine Zb ?_ | refine blk_alloc ?_ _)); refine blk_put (cs := #[.slice none 0 0]) ?_ 0 _ rfl; (with_reducible repeat (first | refine Za ?_ _ | refine Zb ?_ | refine blk_alloc ?_ _)); exact BK804.out) hb); replace HB := Zh (Zl Zs hb); (try clear hb); (try clear hb2); (try clear hk); (try clear hi); (try clear ho0); obtain ⟨Ao78, co78, eo78⟩ := S_slice HO807.out; subst eo78) | ((with_reducible refine gate_callee (f := 21) rfl ?_); refine ZG (some 113) Tryd.func21 #[.agg #[.slice Ao78 t805.length co78]] rfl ?_; (with_reducible refine (impl_WalRead.calls k3 _ _ t805 t808 t811 _ ?side1 ?side2 A70.out).mono ?_); (case side1 => repeat (first | exact (S_reads' HO807.out).2.2 | (with_reducible refine C_alloc ?_ _) | (with_reducible refine C_drewN ?_ _) | (with_reducible refine C_drew ?_))); (case side2 => exact (S_reads' HO807.out).2.1); rintro e w79 ⟨v809, rfl, ho0, hb⟩; refine ⟨_, rfl, ?_⟩; replace HO_11 := Zh (R_below (ZR HO_11.out) hb); replace HO_770000 := Zh (S_below (ZS HO_770000.out) hb); replace HO793 := Zh (S_below (ZS HO793.out) hb); replace HO802 := Zh (S_below (ZS HO802.out) hb); replace HO807 := Zh (S_below (ZS HO807.out) hb); have HO810 := Zh (S_lower (S_new' (S_new' ho0 (S_lt (ZS HO_9.out))) (S_lt (ZS HO797.out))) (below_size Zs)); replace HO_9 := Zh (S_elder' (ZS HO_9.out) (S_base ho0) hb); replace HO797 := Zh (S_elder' (ZS HO797.out) (S_base ho0) hb); replace BK769 := Zh (Zm (g := gb769) (o := .cells #[.slice Ao28 x770000_1.length co28] 28 (0, 0)) Zk hb); replace BK794 := Zh (Zm (g := gb794) (o := .cells #[.slice Ao55 t791.length co55] 28 (0, 0)) Zk hb); replace BK804 := Zh (Zm (g := gb804) (o := .cells #[.slice Ao64 t800.length co64] 28 (0, 0)) Zk hb); replace HB := Zh (Zl Zs hb); (try clear hb); (try clear hb2); (try clear hk); (try clear hi); (try clear ho0); obtain ⟨Ao80, co80, eo80⟩ := S_slice HO810.out; subst eo80) | (go_at_call 36; (with_reducible refine (laws_samePayloads.calls k3 _ _ t808 _ _ t776 true _ ?side1 ?side2 ?side3 ?side4 A72.out).mono ?_); (case side1 => repeat (first | exact (S_reads' HO810.out).2.2 | (with_reducible refine C_alloc ?_ _) | (with_reducible refine C_drewN ?_ _) | (with_reducible refine C_drew ?_))); (case side2 => exact (S_reads' HO810.out).2.1); (case side3 => repeat (first | exact (S_reads' HO_9.out).2.2 | (with_reducible refine C_alloc ?_ _) | (with_reducible refine C_drewN ?_ _) | (with_reducible refine C_drew ?_))); (case side4 => exact (S_reads' HO_9.out).2.1); rintro e w' ⟨rfl, ⟨nd, rfl⟩⟩))
            go_meet
            case rel => exact ⟨_, H', ⟨by have := HK1.out; have := HJ24.out; have := HK3.out; first | omega | exact Nat.le_refl _⟩, ⟨ZS (S_mono HO797.out (fun _ hk => trivial))⟩, ⟨ZS (S_mono HO_770000.out (fun _ hk => by first | exact ⟨hk.1.1.2, hk.1.2⟩ | exact ⟨hk.1.1, hk.1.2⟩ | exact ⟨hk.1, hk.2⟩ | (refine ⟨?_, ?_⟩ <;> first | exact hk.1 | exact hk.2 | exact hk.1.1 | exact hk.1.2 | exact hk.2.1 | exact hk.2.2)))⟩, ⟨ZS (S_mono HO793.out (fun _ hk => by first | exact ⟨hk.1.1.2, hk.1.2⟩ | exact ⟨hk.1.1, hk.1.2⟩ | exact ⟨hk.1, hk.2⟩ | (refine ⟨?_, ?_⟩ <;> first | exact hk.1 | exact hk.2 | exact hk.1.1 | exact hk.1.2 | exact hk.2.1 | exact hk.2.2)))⟩, ⟨ZS (S_mono HO802.out (fun _ hk => by first | exact ⟨hk.1.1.2, hk.1.2⟩ | exact ⟨hk.1.1, hk.1.2⟩ | exact ⟨hk.1, hk.2⟩ | (refine ⟨?_, ?_⟩ <;> first | exact hk.1 | exact hk.2 | exact hk.1.1 | exact hk.1.2 | exact hk.2.1 | exact hk.2.2)))⟩, ⟨Zk⟩, ⟨Zk⟩, ⟨Zk⟩, ⟨Zs⟩⟩
           replace c73 := Bool.eq_false_iff.mpr c73
           subst c73
           have H1 : (none) = some r := by rw [if_neg (show ¬ (false = true) by decide)] at H; exact H
           clear H
           have H := H1
           clear H1
           exact absurd H (by simp)
          rw [if_neg c71] at H
          exact absurd H (by simp)
         replace c68 := Bool.eq_false_iff.mpr c68
         subst c68
         have H1 : (laws_FnWal.j3 k3 t795 t798 t791) = some r := by rw [if_neg (show ¬ (false = true) by decide)] at H; exact H
         clear H
         have H := H1
         clear H1
         have H' := Zh H
         clear H
         go_wp2
         go_meet
         case rel => exact ⟨_, H', ⟨by have := HK1.out; have := HJ24.out; have := HK3.out; first | omega | exact Nat.le_refl _⟩, ⟨ZS (S_mono (S_far (p := ⟨gb804, 0, none⟩) (S_types HO797.out BK804.out (by decide)) (fun _ hk => hk.2) (.slice Ao64 t800.length co64)) (fun _ hk => trivial))⟩, ⟨ZS (S_mono (S_far (p := ⟨gb804, 0, none⟩) (S_types HO_770000.out BK804.out (by decide)) (fun _ hk => hk.2) (.slice Ao64 t800.length co64)) (fun _ hk => by first | exact ⟨hk.1.1.2, hk.1.2⟩ | exact ⟨hk.1.1, hk.1.2⟩ | exact ⟨hk.1, hk.2⟩ | (refine ⟨?_, ?_⟩ <;> first | exact hk.1 | exact hk.2 | exact hk.1.1 | exact hk.1.2 | exact hk.2.1 | exact hk.2.2)))⟩, ⟨ZS (S_mono (S_far (p := ⟨gb804, 0, none⟩) (S_types HO793.out BK804.out (by decide)) (fun _ hk => hk.2) (.slice Ao64 t800.length co64)) (fun _ hk => by first | exact ⟨hk.1.1.2, hk.1.2⟩ | exact ⟨hk.1.1, hk.1.2⟩ | exact ⟨hk.1, hk.2⟩ | (refine ⟨?_, ?_⟩ <;> first | exact hk.1 | exact hk.2 | exact hk.1.1 | exact hk.1.2 | exact hk.2.1 | exact hk.2.2)))⟩, ⟨ZS (S_mono (S_far (p := ⟨gb804, 0, none⟩) (S_types HO802.out BK804.out (by decide)) (fun _ hk => hk.2) (.slice Ao64 t800.length co64)) (fun _ hk => by first | exact ⟨hk.1.1.2, hk.1.2⟩ | exact ⟨hk.1.1, hk.1.2⟩ | exact ⟨hk.1, hk.2⟩ | (refine ⟨?_, ?_⟩ <;> first | exact hk.1 | exact hk.2 | exact hk.1.1 | exact hk.1.2 | exact hk.2.1 | exact hk.2.2)))⟩, ⟨by (with_reducible repeat (first | refine Za ?_ _ | refine Zb ?_ | refine blk_alloc ?_ _)); refine blk_far ?_ NB769_804.out _; (with_reducible repeat (first | refine Za ?_ _ | refine Zb ?_ | refine blk_alloc ?_ _)); exact BK769.out⟩, ⟨by (with_reducible repeat (first | refine Za ?_ _ | refine Zb ?_ | refine blk_alloc ?_ _)); refine blk_far ?_ NB794_804.out _; (with_reducible repeat (first | refine Za ?_ _ | refine Zb ?_ | refine blk_alloc ?_ _)); exact BK794.out⟩, ⟨by (with_reducible repeat (first | refine Za ?_ _ | refine Zb ?_ | refine blk_alloc ?_ _)); refine blk_put (cs := #[.slice none 0 0]) ?_ 0 _ rfl; (with_reducible repeat (first | refine Za ?_ _ | refine Zb ?_ | refine blk_alloc ?_ _)); exact BK804.out⟩, ⟨Zs⟩⟩
        case rest =>
         clear HC50
         try clear c1
         try clear c2
         try clear p2
         try clear c3
         try clear q3
         try clear c4
         try clear c5
         try clear c6
         try clear p6
         try clear c7
         try clear p7
         try clear q7
         try clear hx7
         try clear c9
         try clear c9b0
         try clear c10
         try clear c10b0
         try clear c12
         try clear c14
         try clear c21
         try clear c29
         try clear c30
         try clear c30b0
         try clear c30b1
         try clear c31
         try clear c31b0
         try clear c31b1
         try clear c32
         try clear c32b0
         try clear c32b1
         try clear c34
         try clear c34b0
         try clear c34b1
         try clear c35
         try clear c35b0
         try clear c35b1
         try clear c37
         try clear c38
         try clear q38
         try clear c39
         try clear c42
         try clear c42b0
         try clear c43
         try clear c48
         try clear c56
         try clear p64
         try clear c65
         try clear c66
         try clear c68
         try clear c71
         try clear c71b0
         try clear c71b1
         try clear c73
         try clear c74
         try clear c75
         try clear c77
         try clear p77
         try clear q77
         try clear hx77
         try clear hcz22_0
         try clear hcz23_0
         try clear hcz27_0
         try clear hcz51_0
         try clear hcz57_0
         try clear hcz61_0
         try clear hcz67_0
         try clear hcz76_0
         try clear hcz8_0
         try clear hfz22_0
         try clear hfz23_0
         try clear hfz27_0
         try clear hfz51_0
         try clear hfz57_0
         try clear hfz61_0
         try clear hfz67_0
         try clear hfz76_0
         try clear hfz8_0
         try clear hx770_0
         try clear p2
         try clear p6
         try clear p7
         try clear p770
         try clear q038
         try clear q3
         try clear q38
         try clear q7
         try clear q770
         obtain ⟨kq, HA, HJ49, HO_14, HO_770000, HO_795000, HO_805000, BK769, BK794, BK804, HB⟩ := hcut
         cases kq with
         | zero => exact absurd HA.out (by simp [laws_FnWal.j3])
         | succ kj49 =>
          have H := HA.out
          clear HA
          simp only [laws_FnWal.j3] at H
          replace H := Option.bind_eq_some_iff.mp H
          obtain ⟨⟨t813, t816⟩, A810, H⟩ := H
          replace H : (if t798 = t816 then (if t816 = 2 then (laws_FnWal.j4 kj49 t795 t798 t816 true t791) else (laws_FnWal.j4 kj49 t795 t798 t816 (t816 == 3) t791)) else (laws_FnWal.j4 kj49 t795 t798 t816 true t791)) = some r := H
          have A81 := Zh A810
          clear A810
          have HC82 := Zh H
          clear H
          have hnb83 := NB794_769.out
          have hnc83 := NB769_794.out
          have hnb84 := NB794_804.out
          have hnc84 := NB804_794.out
          have hcz85_0 : wc.cell? ⟨gb794, 0, none⟩ = some (.slice Ao55 t791.length co55) := (blk_cell BK794.out 0).trans rfl
          have hfz85_0 := Zn BK794.out 0
          go_upto_region 29 with (first | ((with_reducible refine gate_callee (f := 20) rfl ?_); refine ZG (some 126) Tryd.func20 #[.agg #[.slice Ao55 t791.length co55]] rfl ?_; (with_reducible refine (spec_WalRead.calls kj49 _ _ t791 t813 t816 _ ?side1 ?side2 A81.out).mono ?_); (case side1 => repeat (first | exact (S_reads' HO_795000.out).2.2 | (with_reducible refine C_alloc ?_ _) | (with_reducible refine C_drewN ?_ _) | (with_reducible refine C_drew ?_))); (case side2 => exact (S_reads' HO_795000.out).2.1); rintro e w86 ⟨v814, rfl, ho0, hb⟩; refine ⟨_, rfl, ?_⟩; replace HO_770000 := Zh (S_below (ZS HO_770000.out) hb); replace HO_795000 := Zh (S_below (ZS HO_795000.out) hb); replace HO_805000 := Zh (S_below (ZS HO_805000.out) hb); have HO815 := Zh (S_lower (S_new' ho0 (S_lt (ZS HO_14.out))) (below_size Zs)); replace HO_14 := Zh (S_elder' (ZS HO_14.out) (S_base ho0) hb); replace BK769 := Zh (Zm (g := gb769) (o := .cells #[.slice Ao28 x770000_1.length co28] 28 (0, 0)) Zk hb); replace BK794 := Zh (Zm (g := gb794) (o := .cells #[.slice Ao55 t791.length co55] 28 (0, 0)) Zk hb); replace BK804 := Zh (Zm (g := gb804) (o := .cells #[.slice Ao64 t800.length co64] 28 (0, 0)) Zk hb); replace HB := Zh (Zl Zs hb); (try clear hb); (try clear hb2); (try clear hk); (try clear hi); (try clear ho0)))
          (try simp only [Act.put, List.setIfInBounds_toArray, List.set_cons_zero, List.set_cons_succ])
          go_cut [139] (fun v139 wc => ∃ (kq : Nat) (x139_81 : Bool), v139 = .bool x139_81 ∧ Aside0 (laws_FnWal.j4 kq t795 t798 t816 x139_81 t791 = some r) ∧ Aside0 (kq ≤ kj49) ∧ Aside0 (Kd.S (Kd.slice 5 (Kd.int .u8)) 41 wc w.heap.size (fun _ => True) (.slice Ao60 t795.length co60) t795) ∧ Aside0 (Kd.S k55 55 wc w.heap.size (fun k_ => some k_ ≠ ((.slice Ao55 t791.length co55) : Value).ownBlock ∧ some k_ ≠ ((.slice Ao64 t800.length co64) : Value).ownBlock) (.slice Ao28 x770000_1.length co28) x770000_1) ∧ Aside0 (Kd.S k55 55 wc w.heap.size (fun k_ => some k_ ≠ ((.slice Ao28 x770000_1.length co28) : Value).ownBlock ∧ some k_ ≠ ((.slice Ao64 t800.length co64) : Value).ownBlock) (.slice Ao55 t791.length co55) t791) ∧ Aside0 (Kd.S k55 55 wc w.heap.size (fun k_ => some k_ ≠ ((.slice Ao28 x770000_1.length co28) : Value).ownBlock ∧ some k_ ≠ ((.slice Ao55 t791.length co55) : Value).ownBlock) (.slice Ao64 t800.length co64) t800) ∧ Aside0 (wc.heap[gb769]? = some (.cells #[(.slice Ao28 x770000_1.length co28)] 28 (0, 0))) ∧ Aside0 (wc.heap[gb794]? = some (.cells #[(.slice Ao55 t791.length co55)] 28 (0, 0))) ∧ Aside0 (wc.heap[gb804]? = some (.cells #[(.slice Ao64 t800.length co64)] 28 (0, 0))) ∧ Aside0 (Below w.heap.size w wc))
          case first =>
           have H := HC82.out
           clear HC82
           by_cases c87 : t798 = t816
           ·
            rw [if_pos c87] at H
            have c87b0 : (t798 == t816) = true := beq_iff_eq.mpr c87
            have c87b1 : (t798 != t816) = false := bne_eq_false_iff_eq.mpr c87
            clear c87
            (first | rw [c87b0] | (simp only [i64_w, i32_w]; rw [c87b0]) | skip)
            by_cases c88 : t816 = 2
            ·
             rw [if_pos c88] at H
             have c88b0 : (t816 == 2) = true := beq_iff_eq.mpr c88
             have c88b1 : (t816 != 2) = false := bne_eq_false_iff_eq.mpr c88
             clear c88
             have H' := Zh H
             clear H
             go_wp2
             go_meet
             case rel => exact ⟨_, (true), (by first | rfl | (simp; done) | (simp [*]; done)), H', ⟨by have := HK1.out; have := HJ24.out; have := HK3.out; have := HJ49.out; first | omega | exact Nat.le_refl _⟩, ⟨ZS (S_mono HO_14.out (fun _ hk => trivial))⟩, ⟨ZS HO_770000.out⟩, ⟨ZS HO_795000.out⟩, ⟨ZS HO_805000.out⟩, ⟨Zk⟩, ⟨Zk⟩, ⟨Zk⟩, ⟨Zs⟩⟩
            rw [if_neg c88] at H
            have c88b0 : (t816 == 2) = false := beq_eq_false_iff_ne.mpr c88
            have c88b1 : (t816 != 2) = true := bne_iff_ne.mpr c88
            have H' := Zh H
            clear H
            go_wp2
            go_meet
            case rel => exact ⟨_, ((t816 == 3)), (by first | rfl | (simp; done) | (simp [*]; done)), H', ⟨by have := HK1.out; have := HJ24.out; have := HK3.out; have := HJ49.out; first | omega | exact Nat.le_refl _⟩, ⟨ZS (S_mono HO_14.out (fun _ hk => trivial))⟩, ⟨ZS HO_770000.out⟩, ⟨ZS HO_795000.out⟩, ⟨ZS HO_805000.out⟩, ⟨Zk⟩, ⟨Zk⟩, ⟨Zk⟩, ⟨Zs⟩⟩
           rw [if_neg c87] at H
           have c87b0 : (t798 == t816) = false := beq_eq_false_iff_ne.mpr c87
           have c87b1 : (t798 != t816) = true := bne_iff_ne.mpr c87
           (first | rw [c87b0] | (simp only [i64_w, i32_w]; rw [c87b0]) | skip)
           have H' := Zh H
           clear H
           go_wp2
           go_meet
           case rel => exact ⟨_, (true), (by first | rfl | (simp; done) | (simp [*]; done)), H', ⟨by have := HK1.out; have := HJ24.out; have := HK3.out; have := HJ49.out; first | omega | exact Nat.le_refl _⟩, ⟨ZS (S_mono HO_14.out (fun _ hk => trivial))⟩, ⟨ZS HO_770000.out⟩, ⟨ZS HO_795000.out⟩, ⟨ZS HO_805000.out⟩, ⟨Zk⟩, ⟨Zk⟩, ⟨Zk⟩, ⟨Zs⟩⟩
          case rest =>
           clear HC82
           try clear c1
           try clear c2
           try clear p2
           try clear c3
           try clear q3
           try clear c4
           try clear c5
           try clear c6
           try clear p6
           try clear c7
           try clear p7
           try clear q7
           try clear hx7
           try clear c8
           try clear c9
           try clear c9b0
           try clear c10
           try clear c10b0
           try clear c12
           try clear c14
           try clear c20
           try clear c21
           try clear c29
           try clear c30
           try clear c30b0
           try clear c30b1
           try clear c31
           try clear c31b0
           try clear c31b1
           try clear c32
           try clear c32b0
           try clear c32b1
           try clear c34
           try clear c34b0
           try clear c34b1
           try clear c35
           try clear c35b0
           try clear c35b1
           try clear c37
           try clear c38
           try clear q38
           try clear c39
           try clear c42
           try clear c42b0
           try clear c43
           try clear c48
           try clear c56
           try clear p64
           try clear c65
           try clear c66
           try clear c68
           try clear c71
           try clear c71b0
           try clear c71b1
           try clear c73
           try clear c74
           try clear c75
           try clear c77
           try clear p77
           try clear q77
           try clear hx77
           try clear c83
           try clear c84
           try clear c87
           try clear c87b0
           try clear c87b1
           try clear c88
           try clear c88b0
           try clear c88b1
           try clear hcz22_0
           try clear hcz23_0
           try clear hcz27_0
           try clear hcz51_0
           try clear hcz57_0
           try clear hcz61_0
           try clear hcz67_0
           try clear hcz76_0
           try clear hcz85_0
           try clear hcz8_0
           try clear hfz22_0
           try clear hfz23_0
           try clear hfz27_0
           try clear hfz51_0
           try clear hfz57_0
           try clear hfz61_0
           try clear hfz67_0
           try clear hfz76_0
           try clear hfz85_0
           try clear hfz8_0
           try clear hx770_0
           try clear p2
           try clear p6
           try clear p64
           try clear p7
           try clear p77
           try clear p770
           try clear q038
           try clear q3
           try clear q38
           try clear q7
           try clear q77
           try clear q770
           obtain ⟨kq, x139_81, rfl, HA, HJ81, HO_14, HO_770000, HO_795000, HO_805000, BK769, BK794, BK804, HB⟩ := hcut
           cases kq with
           | zero => exact absurd HA.out (by simp [laws_FnWal.j4])
           | succ kj81 =>
            have H := HA.out
            clear HA
            simp only [laws_FnWal.j4] at H
            by_cases c89 : x139_81 = true
            ·
             subst c89
             have H1 : (some (t798 == t816)) = some r := by rw [if_pos rfl] at H; exact H
             clear H
             have H := H1
             clear H1
             obtain rfl := Option.some.inj H
             go_wp2
             go_ret
             exact ⟨ZE, Zs⟩
            replace c89 := Bool.eq_false_iff.mpr c89
            subst c89
            have H1 : ((impl_WalRepair.f kj81 t791).bind fun bt817 => ((impl_WalRead.f kj81 bt817.1).bind fun bt822 => (if bt817.2 = true then (if bt822.2 = 0 then ((laws_samePayloads.f kj81 bt822.1 t795).bind fun t826 => (if t826 = true then ((impl_WalCount.f kj81 bt817.1).bind fun t827 => (some (t827 == (t795.length : Int)))) else (none))) else (none)) else (none)))) = some r := by rw [if_neg (show ¬ (false = true) by decide)] at H; exact H
            clear H
            have H := H1
            clear H1
            replace H := Option.bind_eq_some_iff.mp H
            obtain ⟨⟨t817, t820⟩, A900, H⟩ := H
            replace H : ((impl_WalRead.f kj81 t817).bind fun bt822 => (if t820 = true then (if bt822.2 = 0 then ((laws_samePayloads.f kj81 bt822.1 t795).bind fun t826 => (if t826 = true then ((impl_WalCount.f kj81 t817).bind fun t827 => (some (t827 == (t795.length : Int)))) else (none))) else (none)) else (none))) = some r := H
            have A90 := Zh A900
            clear A900
            replace H := Option.bind_eq_some_iff.mp H
            obtain ⟨⟨t822, t825⟩, A910, H⟩ := H
            replace H : (if t820 = true then (if t825 = 0 then ((laws_samePayloads.f kj81 t822 t795).bind fun t826 => (if t826 = true then ((impl_WalCount.f kj81 t817).bind fun t827 => (some (t827 == (t795.length : Int)))) else (none))) else (none)) else (none)) = some r := H
            have A91 := Zh A910
            clear A910
            by_cases c92 : t820 = true
            ·
             subst c92
             have H1 : (if t825 = 0 then ((laws_samePayloads.f kj81 t822 t795).bind fun t826 => (if t826 = true then ((impl_WalCount.f kj81 t817).bind fun t827 => (some (t827 == (t795.length : Int)))) else (none))) else (none)) = some r := by rw [if_pos rfl] at H; exact H
             clear H
             have H := H1
             clear H1
             by_cases c93 : t825 = 0
             ·
              rw [if_pos c93] at H
              have c93b0 : (t825 == 0) = true := beq_iff_eq.mpr c93
              have c93b1 : (t825 != 0) = false := bne_eq_false_iff_eq.mpr c93
              clear c93
              replace H := Option.bind_eq_some_iff.mp H
              obtain ⟨t826, A940, H⟩ := H
              replace H : (if t826 = true then ((impl_WalCount.f kj81 t817).bind fun t827 => (some (t827 == (t795.length : Int)))) else (none)) = some r := H
              have A94 := Zh A940
              clear A940
              by_cases c95 : t826 = true
              ·
               subst c95
               have H1 : ((impl_WalCount.f kj81 t817).bind fun t827 => (some (t827 == (t795.length : Int)))) = some r := by rw [if_pos rfl] at H; exact H
               clear H
               have H := H1
               clear H1
               replace H := Option.bind_eq_some_iff.mp H
               obtain ⟨t827, A960, H⟩ := H
               replace H : (some (t827 == (t795.length : Int))) = some r := H
               have A96 := Zh A960
               clear A960
               obtain rfl := Option.some.inj H
               have hnb97 := NB794_769.out
               have hnc97 := NB769_794.out
               have hnb98 := NB794_804.out
               have hnc98 := NB804_794.out
               have hcz99_0 : wc.cell? ⟨gb794, 0, none⟩ = some (.slice Ao55 t791.length co55) := (blk_cell BK794.out 0).trans rfl
               have hfz99_0 := Zn BK794.out 0
               go_wp2_with (first | ((with_reducible refine gate_callee (f := 26) rfl ?_); refine ZG (some 145) Tryd.func26 #[.agg #[.slice Ao55 t791.length co55]] rfl ?_; (with_reducible refine (impl_WalRepair.calls kj81 _ _ t791 t817 true _ ?side1 ?side2 A90.out).mono ?_); (case side1 => repeat (first | exact (S_reads' HO_795000.out).2.2 | (with_reducible refine C_alloc ?_ _) | (with_reducible refine C_drewN ?_ _) | (with_reducible refine C_drew ?_))); (case side2 => exact (S_reads' HO_795000.out).2.1); rintro e w100 ⟨v818, rfl, ho0, hb⟩; refine ⟨_, rfl, ?_⟩; replace HO_14 := Zh (S_below (ZS HO_14.out) hb); have HO819 := Zh (S_lower (S_new' (S_new' (S_new' ho0 (S_lt (ZS HO_770000.out))) (S_lt (ZS HO_795000.out))) (S_lt (ZS HO_805000.out))) (below_size Zs)); replace HO_770000 := Zh (S_elder' (ZS HO_770000.out) (S_base ho0) hb); replace HO_795000 := Zh (S_elder' (ZS HO_795000.out) (S_base ho0) hb); replace HO_805000 := Zh (S_elder' (ZS HO_805000.out) (S_base ho0) hb); replace BK769 := Zh (Zm (g := gb769) (o := .cells #[.slice Ao28 x770000_1.length co28] 28 (0, 0)) Zk hb); replace BK794 := Zh (Zm (g := gb794) (o := .cells #[.slice Ao55 t791.length co55] 28 (0, 0)) Zk hb); replace BK804 := Zh (Zm (g := gb804) (o := .cells #[.slice Ao64 t800.length co64] 28 (0, 0)) Zk hb); replace HB := Zh (Zl Zs hb); (try clear hb); (try clear hb2); (try clear hk); (try clear hi); (try clear ho0)) | ((with_reducible refine gate_dst (N := 22) rfl ?_); (try (refine gate_guard (by rfl) ?_; dsimp only)); refine box_event ?hg (N := 22) ?hd (cs := #[.slice none 0 0]) (t := 28) ?hr ?_; (case hd => rfl); (case hg => rfl); (case hr => first | (go_simp; done) | (go_simp; rfl)); intro gb821 hg w101 hbox hb; replace HO_14 := Zh (S_below (ZS HO_14.out) hb); replace HO_770000 := Zh (S_below (ZS HO_770000.out) hb); replace HO_795000 := Zh (S_below (ZS HO_795000.out) hb); replace HO_805000 := Zh (S_below (ZS HO_805000.out) hb); replace HO819 := Zh (S_below (ZS HO819.out) hb); have BK821 := Zh (hbox); have GW821 := Zh ((by rw [hg]; exact (below_size Zs) : w.heap.size ≤ gb821)); have GE821 := Zh ((by rw [hg]; exact (below_size Zs) : w.heap.size ≤ gb821)); replace HB := Zh (Zl Zs hb); have NB769_821 := Zh ((by rw [hg]; exact Nat.ne_of_lt (blk_lt (g := gb769) (o := .cells #[.slice Ao28 x770000_1.length co28] 28 (0, 0)) Zk) : gb769 ≠ gb821)); have NB821_769 := Zh ((by rw [hg]; exact Nat.ne_of_gt (blk_lt (g := gb769) (o := .cells #[.slice Ao28 x770000_1.length co28] 28 (0, 0)) Zk) : gb821 ≠ gb769)); replace BK769 := Zh (Zm (g := gb769) (o := .cells #[.slice Ao28 x770000_1.length co28] 28 (0, 0)) Zk hb); have NB794_821 := Zh ((by rw [hg]; exact Nat.ne_of_lt (blk_lt (g := gb794) (o := .cells #[.slice Ao55 t791.length co55] 28 (0, 0)) Zk) : gb794 ≠ gb821)); have NB821_794 := Zh ((by rw [hg]; exact Nat.ne_of_gt (blk_lt (g := gb794) (o := .cells #[.slice Ao55 t791.length co55] 28 (0, 0)) Zk) : gb821 ≠ gb794)); replace BK794 := Zh (Zm (g := gb794) (o := .cells #[.slice Ao55 t791.length co55] 28 (0, 0)) Zk hb); have NB804_821 := Zh ((by rw [hg]; exact Nat.ne_of_lt (blk_lt (g := gb804) (o := .cells #[.slice Ao64 t800.length co64] 28 (0, 0)) Zk) : gb804 ≠ gb821)); have NB821_804 := Zh ((by rw [hg]; exact Nat.ne_of_gt (blk_lt (g := gb804) (o := .cells #[.slice Ao64 t800.length co64] 28 (0, 0)) Zk) : gb821 ≠ gb804)); replace BK804 := Zh (Zm (g := gb804) (o := .cells #[.slice Ao64 t800.length co64] 28 (0, 0)) Zk hb); clear hb hbox hg; obtain ⟨Ao102, co102, eo102⟩ := S_slice HO819.out; subst eo102; have hnb103 := NB821_769.out; have hnc103 := NB769_821.out; have hnb104 := NB821_794.out; have hnc104 := NB794_821.out; have hnb105 := NB821_804.out; have hnc105 := NB804_821.out; have hcz106_0 : w101.cell? ⟨gb821, 0, none⟩ = some (.slice none 0 0) := (blk_cell BK821.out 0).trans rfl; have hfz106_0 := Zn BK821.out 0) | ((with_reducible refine gate_callee (f := 21) rfl ?_); refine ZG (some 150) Tryd.func21 #[.agg #[.slice Ao102 t817.length co102]] rfl ?_; (with_reducible refine (impl_WalRead.calls kj81 _ _ t817 t822 t825 _ ?side1 ?side2 A91.out).mono ?_); (case side1 => refine k55c_C (S_reads' (d := k55c) (e := 55) (base := w.heap.size) (ok := fun k_ => (((True ∧ some k_ ≠ (.slice Ao28 x770000_1.length co28 : Value).ownBlock) ∧ some k_ ≠ (.slice Ao55 t791.length co55 : Value).ownBlock) ∧ some k_ ≠ (.slice Ao64 t800.length co64 : Value).ownBlock)) (n := t817.length) (c := co102) ?_).2.2; exact (ZS (S_mono (S_far (p := ⟨gb821, 0, none⟩) (S_types HO819.out BK821.out (by decide)) (fun _ hk => hk.2) (.slice Ao102 t817.length co102)) (fun _ h_ => h_.1)))); (case side2 => exact (S_reads' HO819.out).2.1); rintro e w107 ⟨v823, rfl, ho0, hb⟩; refine ⟨_, rfl, ?_⟩; replace HO_770000 := Zh (S_below (ZS (S_mono (S_far (p := ⟨gb821, 0, none⟩) (S_types HO_770000.out BK821.out (by decide)) (fun _ hk => hk.2) (.slice Ao102 t817.length co102)) (fun _ h_ => h_.1))) hb); replace HO_795000 := Zh (S_below (ZS (S_mono (S_far (p := ⟨gb821, 0, none⟩) (S_types HO_795000.out BK821.out (by decide)) (fun _ hk => hk.2) (.slice Ao102 t817.length co102)) (fun _ h_ => h_.1))) hb); replace HO_805000 := Zh (S_below (ZS (S_mono (S_far (p := ⟨gb821, 0, none⟩) (S_types HO_805000.out BK821.out (by decide)) (fun _ hk => hk.2) (.slice Ao102 t817.length co102)) (fun _ h_ => h_.1))) hb); replace HO819 := Zh (S_below (ZS (S_mono (S_far (p := ⟨gb821, 0, none⟩) (S_types HO819.out BK821.out (by decide)) (fun _ hk => hk.2) (.slice Ao102 t817.length co102)) (fun _ h_ => h_.1))) hb); have HO824 := Zh (S_lower (S_new' ho0 (S_lt (ZS (S_mono (S_far (p := ⟨gb821, 0, none⟩) (S_types HO_14.out BK821.out (by decide)) (fun _ hk => hk.2) (.slice Ao102 t817.length co102)) (fun _ h_ => h_.1))))) (below_size Zs)); replace HO_14 := Zh (S_elder' (ZS (S_mono (S_far (p := ⟨gb821, 0, none⟩) (S_types HO_14.out BK821.out (by decide)) (fun _ hk => hk.2) (.slice Ao102 t817.length co102)) (fun _ h_ => h_.1))) (S_base ho0) hb); replace BK769 := Zh (Zm (g := gb769) (o := .cells #[.slice Ao28 x770000_1.length co28] 28 (0, 0)) (by (with_reducible repeat (first | refine Za ?_ _ | refine Zb ?_ | refine blk_alloc ?_ _)); refine blk_far ?_ NB769_821.out _; (with_reducible repeat (first | refine Za ?_ _ | refine Zb ?_ | refine blk_alloc ?_ _)); exact BK769.out) hb); replace BK794 := Zh (Zm (g := gb794) (o := .cells #[.slice Ao55 t791.length co55] 28 (0, 0)) (by (with_reducible repeat (first | refine Za ?_ _ | refine Zb ?_ | refine blk_alloc ?_ _)); refine blk_far ?_ NB794_821.out _; (with_reducible repeat (first | refine Za ?_ _ | refine Zb ?_ | refine blk_alloc ?_ _)); exact BK794.out) hb); replace BK804 := Zh (Zm (g := gb804) (o := .cells #[.slice Ao64 t800.length co64] 28 (0, 0)) (by (with_reducible repeat (first | refine Za ?_ _ | refine Zb ?_ | refine blk_alloc ?_ _)); refine blk_far ?_ NB804_821.out _; (with_reducible repeat (first | refine Za ?_ _ | refine Zb ?_ | refine blk_alloc ?_ _)); exact BK804.out) hb); replace BK821 := Zh (Zm (g := gb821) (o := .cells #[.slice Ao102 t817.length co102] 28 (0, 0)) (by (with_reducible repeat (first | refine Za ?_ _ | refine Zb ?_ | refine blk_alloc ?_ _)); refine blk_put (cs := #[.slice none 0 0]) ?_ 0 _ rfl; (with_reducible repeat (first | refine Za ?_ _ | refine Zb ?_ | refine blk_alloc ?_ _)); exact BK821.out) hb); replace HB := Zh (Zl Zs hb); (try clear hb); (try clear hb2); (try clear hk); (try clear hi); (try clear ho0); obtain ⟨Ao108, co108, eo108⟩ := S_slice HO824.out; subst eo108) | (go_at_call 36; (with_reducible refine (laws_samePayloads.calls kj81 _ _ t822 _ _ t795 true _ ?side1 ?side2 ?side3 ?side4 A94.out).mono ?_); (case side1 => repeat (first | exact (S_reads' HO824.out).2.2 | (with_reducible refine C_alloc ?_ _) | (with_reducible refine C_drewN ?_ _) | (with_reducible refine C_drew ?_))); (case side2 => exact (S_reads' HO824.out).2.1); (case side3 => repeat (first | exact (S_reads' HO_14.out).2.2 | (with_reducible refine C_alloc ?_ _) | (with_reducible refine C_drewN ?_ _) | (with_reducible refine C_drew ?_))); (case side4 => exact (S_reads' HO_14.out).2.1); rintro e w' ⟨rfl, ⟨nd, rfl⟩⟩; have hcz109_0 : w107.cell? ⟨gb821, 0, none⟩ = some (.slice Ao102 t817.length co102) := (blk_cell BK821.out 0).trans rfl; have hfz109_0 := Zn BK821.out 0) | (go_at_call 19; (with_reducible refine (impl_WalCount.calls kj81 _ _ t817 t827 _ ?side1 ?side2 A96.out).mono ?_); (case side1 => repeat (first | exact k55c_C (S_reads' HO819.out).2.2 | (with_reducible refine C_alloc ?_ _) | (with_reducible refine C_drewN ?_ _) | (with_reducible refine C_drew ?_))); (case side2 => exact (S_reads' HO819.out).2.1); rintro e w110 ⟨rfl, hb⟩; replace HO_14 := Zh (S_below (ZS HO_14.out) hb); replace HO_770000 := Zh (S_below (ZS HO_770000.out) hb); replace HO_795000 := Zh (S_below (ZS HO_795000.out) hb); replace HO_805000 := Zh (S_below (ZS HO_805000.out) hb); replace HO819 := Zh (S_below (ZS HO819.out) hb); replace HO824 := Zh (S_below (ZS HO824.out) hb); replace BK769 := Zh (Zm (g := gb769) (o := .cells #[.slice Ao28 x770000_1.length co28] 28 (0, 0)) Zk hb); replace BK794 := Zh (Zm (g := gb794) (o := .cells #[.slice Ao55 t791.length co55] 28 (0, 0)) Zk hb); replace BK804 := Zh (Zm (g := gb804) (o := .cells #[.slice Ao64 t800.length co64] 28 (0, 0)) Zk hb); replace BK821 := Zh (Zm (g := gb821) (o := .cells #[.slice Ao102 t817.length co102] 28 (0, 0)) Zk hb); replace HB := Zh (Zl Zs hb); (try clear hb); (try clear hb2); (try clear hk); (try clear hi)))
               go_ret
               exact ⟨ZE, Zs⟩
              replace c95 := Bool.eq_false_iff.mpr c95
              subst c95
              have H1 : (none) = some r := by rw [if_neg (show ¬ (false = true) by decide)] at H; exact H
              clear H
              have H := H1
              clear H1
              exact absurd H (by simp)
             rw [if_neg c93] at H
             exact absurd H (by simp)
            replace c92 := Bool.eq_false_iff.mpr c92
            subst c92
            have H1 : (none) = some r := by rw [if_neg (show ¬ (false = true) by decide)] at H; exact H
            clear H
            have H := H1
            clear H1
            exact absurd H (by simp)
       replace c48 := Bool.eq_false_iff.mpr c48
       subst c48
       have H1 : (none) = some r := by rw [if_neg (show ¬ (false = true) by decide)] at H; exact H
       clear H
       have H := H1
       clear H1
       exact absurd H (by simp)
def laws_FnWal.Pure : Prop := ∀ (l0 : List Int), l0.length ≤ maxLen → l0.length * 1 ≤ 140737488351232 → (∀ x ∈ l0, (Lit.int .u8 x).wf = true) → ∃ k, laws_FnWal.f k l0 = some true
theorem laws_FnWal.walk (P : laws_FnWal.Pure) (a0 : Option Addr) (len0 cap0 : Nat) (z0 : List Int) (w : World) (w0 : (a0 = none ∧ len0 = 0 ∧ cap0 = 0 ∧ z0 = []) ∨ ∃ x, a0 = some x ∧ len0 ≤ cap0 ∧ cap0 ≤ maxLen ∧ z0.length = cap0 ∧ (∀ i, i < z0.length → w.cell? (x.add i) = some (.int .u8 (z0.getD i 0))) ∧ ∀ n ∈ z0, (Lit.int .u8 n).wf = true) (y0 : len0 * 1 ≤ 140737488351232) :
  Calls Tryd.prog 9 #[.slice a0 len0 cap0] w fun e w' => e = .returned (.bool true) ∧ Below w.heap.size w w' := by
 obtain ⟨l0, rfl, hr0, hm0, hw0, hc0⟩ := ReadsInt.ofRowC w0
 obtain ⟨k, h⟩ := P l0 hm0 y0 hw0
 refine (laws_FnWal.calls k _ _ l0 true w (C_of_reads (d := (0 : Int)) (h1 := fun _ => rfl) hr0) hc0 h).mono ?_
 rintro e w' ⟨rfl, hd⟩
 exact ⟨rfl, hd⟩
end Go.Proofs.YtcgojdhbphocgaaDoor.F

namespace Go.Proofs.YtcgojdhbphocgaaDoor.PK
set_option linter.unusedVariables false
set_option linter.unusedSimpArgs false
open Go.RowKit Go.Proofs.YtcgojdhbphocgaaDoorW.PrintWords
theorem EvS {α : Type} {g : Nat → Option α} {r : α} (h : Ev (fun k => g (k + 1)) r) : Ev g r := by
  obtain ⟨K, h⟩ := h
  refine ⟨K + 1, fun k hk => ?_⟩
  obtain ⟨m, rfl⟩ : ∃ m, k = m + 1 := ⟨k - 1, by omega⟩
  exact h m (by omega)
theorem EvB {α β : Type} {g : Nat → Option α} {f : Nat → α → Option β} {a : α} {r : β} (h : Ev g a) : Ev (fun k => (g k).bind (f k)) r ↔ Ev (fun k => f k a) r := by
  obtain ⟨K, h⟩ := h
  constructor
  · rintro ⟨K', h'⟩
    refine ⟨max K K', fun k hk => ?_⟩
    have h2 : (g k).bind (f k) = some r := h' k (by omega)
    rw [h k (by omega)] at h2
    exact h2
  rintro ⟨K', h'⟩
  refine ⟨max K K', fun k hk => ?_⟩
  show (g k).bind (f k) = some r
  rw [h k (by omega)]
  exact h' k (by omega)
theorem EvN {α : Type} {r : α} : Ev (fun _ => some r) r := ⟨0, fun _ _ => rfl⟩
theorem EvE {α : Type} {g : Nat → Option α} {r : α} (h : Ev g r) : ∃ k, g k = some r := h.rounds
theorem w64 {x : Int} (h : -9223372036854775808 ≤ x) (h' : x ≤ 9223372036854775807) : wrap64 x = x := by
  unfold wrap64
  omega
theorem up {P : Int → Prop} (n : Nat) (base : P n) (step : ∀ i : Nat, i < n → P ((i + 1 : Nat) : Int) → P (i : Int)) : ∀ i : Nat, i ≤ n → P (i : Int) := by
  intro i hi
  obtain ⟨d, hd⟩ : ∃ d, d + i = n := ⟨n - i, by omega⟩
  induction d generalizing i with
  | zero => have : i = n := by omega
            subst this
            exact base
  | succ d ih => exact step i (by omega) (ih (i + 1) (by omega) (by omega))
theorem up0 {P : Int → Prop} (n : Nat) (base : P n) (step : ∀ i : Nat, i < n → P ((i + 1 : Nat) : Int) → P (i : Int)) : P 0 := up n base step 0 (Nat.zero_le _)
theorem getD_nat {α : Type} (l : List α) (z : α) (i : Nat) (h : i < l.length) : l.getD ((i : Int).toNat) z = l[i] := by
  simp [List.getD_eq_getElem?_getD, List.getElem?_eq_getElem h]
theorem drop_at {α : Type} (l : List α) (i : Nat) (h : i < l.length) : l.drop i = l[i] :: l.drop (i + 1) := List.drop_eq_getElem_cons h
end Go.Proofs.YtcgojdhbphocgaaDoor.PK

namespace Go.Proofs.YtcgojdhbphocgaaDoor.DK
set_option linter.unusedVariables false
set_option linter.unusedSimpArgs false
open Go.RowKit Go.Proofs.YtcgojdhbphocgaaDoor.F Go.Proofs.YtcgojdhbphocgaaDoor.PK Go.Proofs.YtcgojdhbphocgaaDoorW.PrintWords Go.Proofs.YtcgojdhbphocgaaDoorW.PrintLast Go.Proofs.YtcgojdhbphocgaaDoorW.PrintMore
theorem nxt (i n : Nat) (h : i < n) (hn : n ≤ 9223372036854775807) : wrap64 ((i : Int) + 1) = ((i + 1 : Nat) : Int) := by rw [w64 (by omega) (by omega)]; omega
def inB (b : UInt8) : Bool := decide ((97 ≤ b.toNat ∧ b.toNat ≤ 122) ∨ (48 ≤ b.toNat ∧ b.toNat ≤ 57))
def nameM (s : ByteArray) : Bool := s.data.toList.all inB && decide (1 ≤ s.size ∧ s.size ≤ 12)
theorem bt_get (s : ByteArray) (i : Nat) (h : i < s.data.toList.length) : bt s (i : Int) = (s.data.toList[i].toNat : Int) := by
  have hs : i < s.size := by rw [← data_length]; exact h
  unfold bt
  rw [dif_pos (show (i : Int).toNat < s.size by rw [Int.toNat_natCast]; exact hs)]
  simp
  rfl
theorem spec_name (s : ByteArray) (hs : s.size ≤ 9223372036854775807) : Ev (fun k => spec_l01Name.f k s) (nameM s) := by
  have hl := data_length s
  have key := up0 (P := fun i => Ev (fun k => spec_l01Name.l0 k s i) ((s.data.toList.drop i.toNat).all inB && decide (1 ≤ s.size ∧ s.size ≤ 12))) s.size
    (EvS (by
      simp only [spec_l01Name.l0, Int.lt_irrefl, if_false, Int.toNat_natCast, spec_l01In.f]
      rw [List.drop_eq_nil_of_le (by omega), List.all_nil, Bool.true_and]
      by_cases h1 : 1 ≤ (s.size : Int)
      · simp only [if_pos h1, Option.bind_some]
        rw [show decide ((s.size : Int) ≤ 12) = decide (1 ≤ s.size ∧ s.size ≤ 12) from decide_eq_decide.2 (by omega)]
        exact EvN
      simp only [if_neg h1, Option.bind_some]
      rw [decide_eq_false (show ¬ (1 ≤ s.size ∧ s.size ≤ 12) by omega)]
      exact EvN))
    (fun i hi ih => EvS (by
      have hil : i < s.data.toList.length := by omega
      rw [Int.toNat_natCast] at *
      rw [drop_at _ i hil, List.all_cons]
      simp only [spec_l01Name.l0, if_pos (show (i : Int) < (s.size : Int) by omega), if_pos (show 0 ≤ (i : Int) by omega), nxt i _ hi hs]
      have hb := bt_get s i hil
      generalize bt s (i : Int) = x at hb ⊢
      generalize s.data.toList[i] = b at hb ⊢
      by_cases c1 : x ≥ 97
      · by_cases c2 : x ≤ 122
        · simp only [if_pos c1, if_pos c2, show inB b = true from decide_eq_true (by omega), Bool.true_and]; exact ih
        by_cases c3 : x ≥ 48
        · simp only [if_pos c1, if_neg c2, if_pos c3, if_neg (show ¬ x ≤ 57 by omega), show inB b = false from decide_eq_false (by omega), Bool.false_and]; exact EvN
        omega
      by_cases c3 : x ≥ 48
      · by_cases c4 : x ≤ 57
        · simp only [if_neg c1, if_pos c3, if_pos c4, show inB b = true from decide_eq_true (by omega), Bool.true_and]; exact ih
        simp only [if_neg c1, if_pos c3, if_neg c4, show inB b = false from decide_eq_false (by omega), Bool.false_and]; exact EvN
      simp only [if_neg c1, if_neg c3, show inB b = false from decide_eq_false (by omega), Bool.false_and]; exact EvN))
  unfold spec_l01Name.f nameM
  exact key
def cutB : List UInt8 := [97, 98, 99, 100, 101, 102, 103, 104, 105, 106, 107, 108, 109, 110, 111, 112, 113, 114, 115, 116, 117, 118, 119, 120, 121, 122, 48, 49, 50, 51, 52, 53, 54, 55, 56, 57]
theorem cut_in (b : UInt8) : cutB.contains b = inB b := by
  have h : ∀ n : Fin 256, cutB.contains (UInt8.ofNat n.val) = inB (UInt8.ofNat n.val) := by decide +kernel
  have := h ⟨b.toNat, b.toNat_lt⟩
  simpa using this
theorem dw_nil {α : Type} (p : α → Bool) : ∀ l : List α, l.dropWhile p = [] ↔ ∀ x ∈ l, p x = true
  | [] => by simp
  | a :: l => by
    rw [List.dropWhile_cons]
    by_cases h : p a = true
    · rw [if_pos h, dw_nil p l]
      simp [h]
    rw [if_neg h]
    simp [h]
theorem dw_head {α : Type} (p : α → Bool) : ∀ (l : List α) (x : α) (r : List α), l.dropWhile p = x :: r → p x = false
  | [], x, r, h => by simp at h
  | a :: l, x, r, h => by
    rw [List.dropWhile_cons] at h
    by_cases hp : p a = true
    · rw [if_pos hp] at h
      exact dw_head p l x r h
    rw [if_neg hp] at h
    injection h with h1 _
    rw [← h1]
    exact Bool.eq_false_iff.2 hp
theorem dw_mem {α : Type} (p : α → Bool) : ∀ (l : List α) (x : α), x ∈ l.dropWhile p → x ∈ l
  | [], x, h => by simp at h
  | a :: l, x, h => by
    rw [List.dropWhile_cons] at h
    by_cases hp : p a = true
    · rw [if_pos hp] at h
      exact List.mem_cons_of_mem _ (dw_mem p l x h)
    rw [if_neg hp] at h
    exact h
theorem trim_nil (l : List UInt8) : (Go.Lib.trimS l cutB == []) = l.all inB := by
  unfold Go.Lib.trimS Go.Lib.trimLeftS Go.Lib.trimRightS
  rw [Bool.eq_iff_iff, beq_iff_eq, dw_nil, List.all_eq_true]
  constructor
  · intro h
    have hd : l.reverse.dropWhile (cutB.contains ·) = [] := by
      cases hq : l.reverse.dropWhile (cutB.contains ·) with
      | nil => rfl
      | cons x r =>
        have h1 := h x (by rw [hq]; simp)
        have h2 := dw_head (cutB.contains ·) _ _ _ hq
        rw [h1] at h2
        cases h2
    rw [dw_nil] at hd
    intro x hx
    rw [← cut_in]
    exact hd x (List.mem_reverse.2 hx)
  intro h x hx
  rw [cut_in]
  exact h x (List.mem_reverse.1 (dw_mem _ _ _ (List.mem_reverse.1 hx)))
theorem impl_name (s : ByteArray) (hs : s.size ≤ 9223372036854775807) : impl_isFileName.f s = some (nameM s) := by
  unfold impl_isFileName.f nameM
  by_cases h1 : (s.size : Int) ≥ 1
  · by_cases h2 : (s.size : Int) ≤ 12
    · have ht : trimF.f s (⟨#[97, 98, 99, 100, 101, 102, 103, 104, 105, 106, 107, 108, 109, 110, 111, 112, 113, 114, 115, 116, 117, 118, 119, 120, 121, 122, 48, 49, 50, 51, 52, 53, 54, 55, 56, 57]⟩ : ByteArray) = some ⟨(Go.Lib.trimS s.data.toList cutB).toArray⟩ := by
        unfold trimF.f
        rw [if_pos ⟨hs, by decide, by decide⟩]
        rfl
      simp only [if_pos h1, if_pos h2, ht, Option.bind_some]
      rw [Go.Lib.toList_data, trim_nil, decide_eq_true (show 1 ≤ s.size ∧ s.size ≤ 12 by omega), Bool.and_true]
    simp only [if_pos h1, if_neg h2]
    rw [decide_eq_false (show ¬ (1 ≤ s.size ∧ s.size ≤ 12) by omega), Bool.and_false]
  simp only [if_neg h1]
  rw [decide_eq_false (show ¬ (1 ≤ s.size ∧ s.size ≤ 12) by omega), Bool.and_false]
end Go.Proofs.YtcgojdhbphocgaaDoor.DK

namespace Go.Proofs.YtcgojdhbphocgaaDoor.F
open Go.RowKit Go.Proofs.YtcgojdhbphocgaaDoorW.PrintWords Go.Proofs.YtcgojdhbphocgaaDoorW.PrintWords.Kd Go.Proofs.YtcgojdhbphocgaaDoorW.PrintMore.Kd Go.Proofs.YtcgojdhbphocgaaDoorW.PrintLast Go.Proofs.YtcgojdhbphocgaaDoorW.PrintMore
attribute [local go_sem] max2_int min2_int max_two min_two max_three min_three max_four min_four   -- for this text's walks alone
set_option linter.unusedVariables false
set_option linter.unusedSimpArgs false
end Go.Proofs.YtcgojdhbphocgaaDoor.F

namespace Go.Proofs.YtcgojdhbphocgaaDoor.BY
set_option linter.unusedVariables false
set_option linter.unusedSimpArgs false
open Go.RowKit Go.Proofs.YtcgojdhbphocgaaDoor.F Go.Proofs.YtcgojdhbphocgaaDoor.PK Go.Proofs.YtcgojdhbphocgaaDoorW.PrintWords Go.Proofs.YtcgojdhbphocgaaDoorW.PrintLast
theorem rd_at (l : List Int) (i : Nat) (h : i < l.length) : rd l (i : Int) = l[i] := getD_nat l _ i h
theorem nxt (i n : Nat) (h : i < n) (hn : n ≤ 9223372036854775807) : wrap64 ((i : Int) + 1) = ((i + 1 : Nat) : Int) := by rw [w64 (by omega) (by omega)]; omega
end Go.Proofs.YtcgojdhbphocgaaDoor.BY

namespace Go.Proofs.YtcgojdhbphocgaaDoor.F
open Go.RowKit Go.Proofs.YtcgojdhbphocgaaDoorW.PrintWords Go.Proofs.YtcgojdhbphocgaaDoorW.PrintWords.Kd Go.Proofs.YtcgojdhbphocgaaDoorW.PrintMore.Kd Go.Proofs.YtcgojdhbphocgaaDoorW.PrintLast Go.Proofs.YtcgojdhbphocgaaDoorW.PrintMore
attribute [local go_sem] max2_int min2_int max_two min_two max_three min_three max_four min_four   -- for this text's walks alone
set_option linter.unusedVariables false
set_option linter.unusedSimpArgs false
end Go.Proofs.YtcgojdhbphocgaaDoor.F

namespace Go.Proofs.YtcgojdhbphocgaaDoor.F
open Go.Proofs.YtcgojdhbphocgaaDoor
open Go.RowKit Go.Proofs.YtcgojdhbphocgaaDoorW.PrintWords Go.Proofs.YtcgojdhbphocgaaDoorW.PrintWords.Kd Go.Proofs.YtcgojdhbphocgaaDoorW.PrintMore.Kd Go.Proofs.YtcgojdhbphocgaaDoorW.PrintLast Go.Proofs.YtcgojdhbphocgaaDoorW.PrintMore
attribute [local go_sem] max2_int min2_int max_two min_two max_three min_three max_four min_four   -- for this text's walks alone
set_option linter.unusedVariables false
set_option linter.unusedSimpArgs false
end Go.Proofs.YtcgojdhbphocgaaDoor.F

namespace Go.Proofs.YtcgojdhbphocgaaDoor.F
open Go.RowKit Go.Proofs.YtcgojdhbphocgaaDoorW.PrintWords Go.Proofs.YtcgojdhbphocgaaDoorW.PrintWords.Kd Go.Proofs.YtcgojdhbphocgaaDoorW.PrintMore.Kd Go.Proofs.YtcgojdhbphocgaaDoorW.PrintLast Go.Proofs.YtcgojdhbphocgaaDoorW.PrintMore
attribute [local go_sem] max2_int min2_int max_two min_two max_three min_three max_four min_four   -- for this text's walks alone
set_option linter.unusedVariables false
set_option linter.unusedSimpArgs false
end Go.Proofs.YtcgojdhbphocgaaDoor.F

namespace Go.Proofs.YtcgojdhbphocgaaDoor.DK
set_option linter.unusedVariables false
set_option linter.unusedSimpArgs false
open Go.RowKit Go.Proofs.YtcgojdhbphocgaaDoor.F Go.Proofs.YtcgojdhbphocgaaDoor.PK Go.Proofs.YtcgojdhbphocgaaDoorW.PrintWords Go.Proofs.YtcgojdhbphocgaaDoorW.PrintLast Go.Proofs.YtcgojdhbphocgaaDoorW.PrintMore

theorem rd55 (l : List S55) (i : Nat) (h : i < l.length) : rd_T55 l (i : Int) = l[i] := getD_nat l _ i h
def okAt (l : List S55) (i : Nat) : Bool := nameM (rd_T55 l i).f0 && (decide ((rd_T55 l i).f1.length + (rd_T55 l i).f2.length ≤ 20000) && (decide (i = 0) || Op.bytesLess (rd_T55 l ((i - 1 : Nat) : Int)).f0.toList (rd_T55 l i).f0.toList))
def goD (l : List S55) : Nat → Nat → Bool
  | 0, _ => true
  | d + 1, i => okAt l i && goD l d (i + 1)
def diskM (l : List S55) : Bool := decide (l.length ≤ 8) && goD l l.length 0
def wfD (l : List S55) : Prop := ∀ y ∈ l, y.f0.size ≤ 9223372036854775807 ∧ y.f1.length ≤ 1048576 ∧ y.f2.length ≤ 1048576
theorem specGo (l : List S55) (hl : l.length ≤ 1048576) (hw : wfD l) : ∀ d i : Nat, d + i = l.length → Ev (fun k => spec_DiskOk.l0 k i l) (goD l d i) := by
  intro d
  induction d with
  | zero =>
    intro i hi
    refine EvS ?_
    simp only [spec_DiskOk.l0, if_neg (show ¬ (i : Int) < (l.length : Int) by omega)]
    exact EvN
  | succ d ih =>
    intro i hi
    have hil : i < l.length := by omega
    have hy := hw _ (List.getElem_mem hil)
    refine EvS ?_
    have hn := spec_name l[i].f0 hy.1
    have h := ih (i + 1) (by omega)
    rw [← rd55 l i hil] at hn hy
    unfold goD okAt
    simp only [spec_DiskOk.l0, if_pos (show (i : Int) < (l.length : Int) by omega), if_pos (show 0 ≤ (i : Int) by omega), EvB hn, nxt i _ hil (by omega)]
    generalize rd_T55 l (i : Int) = y at hy hn ⊢
    by_cases c1 : nameM y.f0 = true
    · by_cases c2 : (y.f1.length : Int) > 20000
      · simp only [if_pos c1, if_pos c2, decide_eq_false (show ¬ y.f1.length + y.f2.length ≤ 20000 by omega), Bool.false_and, Bool.and_false]; exact EvN
      have hw1 : wrap64 (20000 - (y.f1.length : Int)) = 20000 - (y.f1.length : Int) := w64 (by omega) (by omega)
      by_cases c3 : (y.f2.length : Int) > 20000 - (y.f1.length : Int)
      · simp only [if_pos c1, if_neg c2, hw1, if_pos c3, decide_eq_false (show ¬ y.f1.length + y.f2.length ≤ 20000 by omega), Bool.false_and, Bool.and_false]; exact EvN
      simp only [if_pos c1, if_neg c2, hw1, if_neg c3, c1, decide_eq_true (show y.f1.length + y.f2.length ≤ 20000 by omega), Bool.true_and]
      by_cases c4 : i = 0
      · simp only [if_neg (show ¬ (i : Int) > 0 by omega), decide_eq_true c4, Bool.true_or, Bool.true_and]; exact h
      have hw2 : wrap64 ((i : Int) - 1) = ((i - 1 : Nat) : Int) := by rw [w64 (by omega) (by omega)]; omega
      simp only [if_pos (show (i : Int) > 0 by omega), hw2, if_pos (show 0 ≤ ((i - 1 : Nat) : Int) by omega), if_pos (show ((i - 1 : Nat) : Int) < (l.length : Int) by omega), decide_eq_false c4, Bool.false_or]
      by_cases c5 : Op.bytesLess (rd_T55 l ((i - 1 : Nat) : Int)).f0.toList y.f0.toList = true
      · simp only [if_pos c5, c5, Bool.true_and]; exact h
      simp only [if_neg c5, Bool.eq_false_iff.2 c5, Bool.false_and]; exact EvN
    simp only [if_neg c1, Bool.eq_false_iff.2 c1, Bool.false_and]; exact EvN
theorem implGo (l : List S55) (hl : l.length ≤ 1048576) (hw : wfD l) : ∀ d i : Nat, d + i = l.length → Ev (fun k => impl_isDisk.l0 k l (l.length : Int) i l) (goD l d i && decide (l.length ≤ 8)) := by
  intro d
  induction d with
  | zero =>
    intro i hi
    refine EvS ?_
    simp only [impl_isDisk.l0, if_neg (show ¬ (i : Int) < (l.length : Int) by omega), goD, Bool.true_and]
    rw [show decide ((l.length : Int) ≤ 8) = decide (l.length ≤ 8) from decide_eq_decide.2 (by omega)]
    exact EvN
  | succ d ih =>
    intro i hi
    have hil : i < l.length := by omega
    have hy := hw _ (List.getElem_mem hil)
    refine EvS ?_
    have hn := impl_name l[i].f0 hy.1
    have h := ih (i + 1) (by omega)
    rw [← rd55 l i hil] at hn hy
    unfold goD okAt
    simp only [impl_isDisk.l0, if_pos (show (i : Int) < (l.length : Int) by omega), if_pos (show 0 ≤ (i : Int) by omega), hn, Option.bind_some, nxt i _ hil (by omega)]
    generalize rd_T55 l (i : Int) = y at hy hn ⊢
    by_cases c1 : nameM y.f0 = true
    · have hw1 : wrap64 ((y.f1.length : Int) + (y.f2.length : Int)) = (y.f1.length : Int) + (y.f2.length : Int) := w64 (by omega) (by omega)
      by_cases c3 : (y.f1.length : Int) + (y.f2.length : Int) > 20000
      · simp only [if_pos c1, hw1, if_pos c3, decide_eq_false (show ¬ y.f1.length + y.f2.length ≤ 20000 by omega), Bool.false_and, Bool.and_false]; exact EvN
      simp only [if_pos c1, hw1, if_neg c3, c1, decide_eq_true (show y.f1.length + y.f2.length ≤ 20000 by omega), Bool.true_and]
      by_cases c4 : i = 0
      · simp only [if_neg (show ¬ (i : Int) > 0 by omega), decide_eq_true c4, Bool.true_or, Bool.true_and]; exact h
      have hw2 : wrap64 ((i : Int) - 1) = ((i - 1 : Nat) : Int) := by rw [w64 (by omega) (by omega)]; omega
      simp only [if_pos (show (i : Int) > 0 by omega), hw2, if_pos (show 0 ≤ ((i - 1 : Nat) : Int) by omega), if_pos (show ((i - 1 : Nat) : Int) < (l.length : Int) by omega), decide_eq_false c4, Bool.false_or]
      by_cases c5 : Op.bytesLess (rd_T55 l ((i - 1 : Nat) : Int)).f0.toList y.f0.toList = true
      · simp only [if_pos c5, c5, Bool.true_and]; exact h
      simp only [if_neg c5, Bool.eq_false_iff.2 c5, Bool.false_and]; exact EvN
    simp only [if_neg c1, Bool.eq_false_iff.2 c1, Bool.false_and]; exact EvN
theorem spec_disk (l : List S55) (hl : l.length ≤ 1048576) (hw : wfD l) : Ev (fun k => spec_DiskOk.f k l) (diskM l) := by
  unfold spec_DiskOk.f diskM
  by_cases h : l.length ≤ 8
  · simp only [if_neg (show ¬ (l.length : Int) > 8 by omega), decide_eq_true h, Bool.true_and]
    exact specGo l hl hw l.length 0 rfl
  simp only [if_pos (show (l.length : Int) > 8 by omega), decide_eq_false h, Bool.false_and]
  exact EvN
theorem impl_disk (l : List S55) (hl : l.length ≤ 1048576) (hw : wfD l) : Ev (fun k => impl_isDisk.f k l) (diskM l) := by
  unfold impl_isDisk.f diskM
  rw [Bool.and_comm]
  exact implGo l hl hw l.length 0 rfl
end Go.Proofs.YtcgojdhbphocgaaDoor.DK

namespace Go.Proofs.YtcgojdhbphocgaaDoor.F
open Go.RowKit Go.Proofs.YtcgojdhbphocgaaDoorW.PrintWords Go.Proofs.YtcgojdhbphocgaaDoorW.PrintWords.Kd Go.Proofs.YtcgojdhbphocgaaDoorW.PrintMore.Kd Go.Proofs.YtcgojdhbphocgaaDoorW.PrintLast Go.Proofs.YtcgojdhbphocgaaDoorW.PrintMore
attribute [local go_sem] max2_int min2_int max_two min_two max_three min_three max_four min_four   -- for this text's walks alone
set_option linter.unusedVariables false
set_option linter.unusedSimpArgs false
end Go.Proofs.YtcgojdhbphocgaaDoor.F

namespace Go.Proofs.YtcgojdhbphocgaaDoor.DK
set_option linter.unusedVariables false
set_option linter.unusedSimpArgs false
open Go.RowKit Go.Proofs.YtcgojdhbphocgaaDoor.F Go.Proofs.YtcgojdhbphocgaaDoor.PK Go.Proofs.YtcgojdhbphocgaaDoorW.PrintWords Go.Proofs.YtcgojdhbphocgaaDoorW.PrintLast Go.Proofs.YtcgojdhbphocgaaDoorW.PrintMore
theorem rdI (l : List Int) (i : Nat) (h : i < l.length) : rd l (i : Int) = l[i] := getD_nat l _ i h
theorem bytesS (l : List Int) (hl : l.length ≤ 1000000000) : Ev (fun k => spec_l01Bytes.f k l) l := by
  have key := up0 (P := fun i => Ev (fun k => spec_l01Bytes.l0 k l (l.take i.toNat) i) l) l.length
    (EvS (by simp only [spec_l01Bytes.l0, Int.lt_irrefl, if_false, Int.toNat_natCast, List.take_length]; exact EvN))
    (fun i hi ih => EvS (by
      simp only [spec_l01Bytes.l0, if_pos (show (i : Int) < (l.length : Int) by omega), if_pos (show 0 ≤ (i : Int) by omega), Int.toNat_natCast, rdI l i hi, nxt i _ hi (by omega), if_pos (show (l.take i).length < 140737488355328 by rw [List.length_take]; omega)]
      rw [Int.toNat_natCast, List.take_add_one, List.getElem?_eq_getElem hi] at ih
      exact ih))
  unfold spec_l01Bytes.f
  exact key
theorem joinS (l m : List Int) (hl : l.length ≤ 1000000000) (hm : m.length ≤ 1000000000) : Ev (fun k => spec_l01Join.f k l m) (l ++ m) := by
  have key := up0 (P := fun i => Ev (fun k => spec_l01Join.l0 k m (l ++ m.take i.toNat) i) (l ++ m)) m.length
    (EvS (by simp only [spec_l01Join.l0, Int.lt_irrefl, if_false, Int.toNat_natCast, List.take_length]; exact EvN))
    (fun i hi ih => EvS (by
      simp only [spec_l01Join.l0, if_pos (show (i : Int) < (m.length : Int) by omega), if_pos (show 0 ≤ (i : Int) by omega), Int.toNat_natCast, rdI m i hi, nxt i _ hi (by omega), if_pos (show (l ++ m.take i).length < 140737488355328 by rw [List.length_append, List.length_take]; omega)]
      rw [Int.toNat_natCast, List.take_add_one, List.getElem?_eq_getElem hi, ← List.append_assoc] at ih
      exact ih))
  unfold spec_l01Join.f
  simp only [EvB (bytesS l hl)]
  have e : l ++ m.take (0 : Int).toNat = l := by simp
  rw [e] at key
  exact key
def isN (a : ByteArray) : ByteArray → Bool := fun s => s.toList == a.toList
theorem find_ev (l : List S55) (a : ByteArray) (hl : l.length ≤ 1048576) : Ev (fun k => spec_l03Find.f k l a) (idxF (isN a) l 0) := by
  have key := up0 (P := fun i => Ev (fun k => spec_l03Find.l0 k a i l) (idxF (isN a) (l.drop i.toNat) i)) l.length
    (EvS (by
      simp only [spec_l03Find.l0, Int.lt_irrefl, if_false, Int.toNat_natCast, List.drop_length, idxF]
      exact EvN))
    (fun i hi ih => EvS (by
      rw [Int.toNat_natCast] at *
      rw [drop_at l i hi]
      simp only [spec_l03Find.l0, if_pos (show (i : Int) < (l.length : Int) by omega), if_pos (show 0 ≤ (i : Int) by omega), rd55 l i hi, nxt i _ hi (by omega), idxF]
      by_cases h : l[i].f0.toList = a.toList
      · simp only [if_pos h, isN, beq_iff_eq.2 h, if_true]; exact EvN
      simp only [if_neg h, isN, beq_eq_false_iff_ne.2 h, Bool.false_eq_true, if_false]
      exact ih))
  unfold spec_l03Find.f
  exact key
theorem idxF_bd (p : ByteArray → Bool) : ∀ (l : List S55) (i : Int), 0 ≤ i → idxF p l i = -1 ∨ (i ≤ idxF p l i ∧ idxF p l i < i + l.length) := by
  intro l
  induction l with
  | nil => intro i _; exact .inl rfl
  | cons x t ih =>
    intro i hi
    unfold idxF
    by_cases h : p x.f0 = true
    · rw [if_pos h]; right; simp only [List.length_cons]; omega
    rw [if_neg h]
    rcases ih (i + 1) (by omega) with h1 | h1
    · exact .inl h1
    right; simp only [List.length_cons]; omega
def contentM (l : List S55) (a : ByteArray) : List Int × Bool := if diskM l = true then (if idxF (isN a) l 0 < 0 then ([], false) else ((rd_T55 l (idxF (isN a) l 0)).f1 ++ (rd_T55 l (idxF (isN a) l 0)).f2, true)) else ([], false)
theorem at_bd (l : List S55) (hw : wfD l) (i : Int) (h0 : 0 ≤ i) (h1 : i < l.length) : (rd_T55 l i).f1.length ≤ 1048576 ∧ (rd_T55 l i).f2.length ≤ 1048576 := by
  obtain ⟨n, rfl⟩ := Int.eq_ofNat_of_zero_le h0
  have hn : n < l.length := by omega
  rw [rd55 l n hn]
  exact (hw _ (List.getElem_mem hn)).2
theorem content_le (l : List S55) (a : ByteArray) (hw : wfD l) : (contentM l a).1.length ≤ 2097152 := by
  unfold contentM
  by_cases h : diskM l = true
  · rw [if_pos h]
    by_cases h2 : idxF (isN a) l 0 < 0
    · rw [if_pos h2]; simp
    rw [if_neg h2]
    have := idxF_bd (isN a) l 0 (by omega)
    have := at_bd l hw (idxF (isN a) l 0) (by omega) (by omega)
    rw [List.length_append]
    omega
  rw [if_neg h]; simp
theorem spec_content (l : List S55) (a : ByteArray) (hl : l.length ≤ 1048576) (hw : wfD l) : Ev (fun k => spec_Content.f k l a) (contentM l a) := by
  unfold spec_Content.f contentM
  simp only [EvB (find_ev l a hl), EvB (spec_disk l hl hw)]
  have hb := idxF_bd (isN a) l 0 (by omega)
  generalize idxF (isN a) l 0 = i at hb ⊢
  by_cases h : diskM l = true
  · by_cases h2 : i < 0
    · simp only [if_pos h, if_pos h2]; exact EvN
    have hr := at_bd l hw i (by omega) (by omega)
    simp only [if_pos h, if_neg h2, if_pos (show 0 ≤ i by omega), if_pos (show i < (l.length : Int) by omega), EvB (joinS (rd_T55 l i).f1 (rd_T55 l i).f2 (by omega) (by omega))]
    exact EvN
  simp only [if_neg h]; exact EvN
theorem lt47 (n m : Nat) (h : n ≤ 1000000000) (h' : m ≤ 1000000000) : n + m < 140737488355328 := by omega
end Go.Proofs.YtcgojdhbphocgaaDoor.DK
