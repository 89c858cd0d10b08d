/- Merged texts below the law FnCompact: Go functions as Lean functions, their contracts, and plain lemmas. -/
import Derived.Test.YtcgojdhbphocgaaDoorQFnCompact14
import Derived.Test.YtcgojdhbphocgaaDoorQFnCompact23
import Derived.Test.YtcgojdhbphocgaaDoorQFnCompact24
import Derived.Test.YtcgojdhbphocgaaDoorQFnCompact25
import Derived.Test.YtcgojdhbphocgaaDoorVFnCompactA
import Derived.Test.YtcgojdhbphocgaaDoorVFnCompactCI
import Derived.Test.YtcgojdhbphocgaaDoorVFnCompactMore
namespace Go.Proofs.YtcgojdhbphocgaaDoor.F
open Go.Proofs.YtcgojdhbphocgaaDoor
open Go.RowKit Go.Proofs.YtcgojdhbphocgaaDoorW.PrintWords Go.Proofs.YtcgojdhbphocgaaDoorW.PrintWords.Kd Go.Proofs.YtcgojdhbphocgaaDoorW.PrintMore.Kd Go.Proofs.YtcgojdhbphocgaaDoorW.PrintLast Go.Proofs.YtcgojdhbphocgaaDoorW.PrintMore
attribute [local go_sem] max2_int min2_int max_two min_two max_three min_three max_four min_four   -- for this text's walks alone
set_option linter.unusedVariables false
set_option linter.unusedSimpArgs false
mutual
def laws_FnCompact.l0 : Nat → List Int → List (List Int) → Int → List (S55) → Option (Bool)
 | 0, _, _, _, _ => none
 | k + 1, x0, x4, x6, x851000 => if x6 < (x4.length : Int) then (if 0 ≤ x6 then ((impl_WalAppend.f k x851000 (rd_L2 x4 x6)).bind fun bt852 => (if bt852.2 = true then (laws_FnCompact.l0 k x0 x4 (wrap64 (x6 + 1)) bt852.1) else (none))) else (none)) else ((impl_WalCount.f k x851000).bind fun t857 => (if t857 < 0 then ((impl_WalCompact.f k x851000 0).bind fun bt858 => (if bt858.2 = true then (none) else ((laws_sameDisk.f k bt858.1 x851000).bind fun t863 => (if t863 = true then (some ((x4.length : Int) == 0)) else (none))))) else ((impl_WalRead.f k x851000).bind fun bt864 => ((laws_at.f x0 4).bind fun t868 => (if (wrap64 (t857 + 1)) = 0 then (none) else ((impl_WalCompact.f k x851000 (Int.tmod t868 (wrap64 (t857 + 1)))).bind fun bt869 => (if bt869.2 = true then (laws_FnCompact.j1 k bt864.1 (Int.tmod t868 (wrap64 (t857 + 1))) ((bt864.1.length : Int) != t857) x851000 bt869.1) else (none))))))))
def laws_FnCompact.j1 : Nat → List (List Int) → Int → Bool → List (S55) → List (S55) → Option (Bool)
 | 0, _, _, _, _, _ => none
 | k + 1, x12, x14, x95, x851000, x874000 => if x95 = true then (none) else ((impl_Crash.f k x874000 ([] : List Int) ([] : List Int)).bind fun t874 => ((impl_WalRead.f k t874).bind fun bt877 => (if bt877.2 = 0 then (if 0 ≤ x14 then (if x14 ≤ (x12.length : Int) then ((laws_samePayloads.f k bt877.1 (x12.drop (x14 : Int).toNat)).bind fun t885 => (laws_FnCompact.j2 k (!t885) x851000 x874000)) else (none)) else (none)) else (none))))
def laws_FnCompact.j2 : Nat → Bool → List (S55) → List (S55) → Option (Bool)
 | 0, _, _, _ => none
 | k + 1, x111, x851000, x874000 => if x111 = true then (none) else (laws_FnCompact.l1 k 0 x851000 x874000)
def laws_FnCompact.l1 : Nat → Int → List (S55) → List (S55) → Option (Bool)
 | 0, _, _, _ => none
 | k + 1, x19, x851000, x874000 => if x19 < (x851000.length : Int) then (if 0 ≤ x19 then (if ((rd_T55 x851000 x19).f0).toList = ([108, 111, 103] : List UInt8) then (laws_FnCompact.j4 k x19 ((rd_T55 x851000 x19).f0) true x851000 x874000) else (laws_FnCompact.j4 k x19 ((rd_T55 x851000 x19).f0) (((rd_T55 x851000 x19).f0).toList == ([110, 101, 119] : List UInt8)) x851000 x874000)) else (none)) else (some true)
def laws_FnCompact.j4 : Nat → Int → ByteArray → Bool → List (S55) → List (S55) → Option (Bool)
 | 0, _, _, _, _, _ => none
 | k + 1, x19, x20, x130, x851000, x874000 => if x130 = true then (laws_FnCompact.l1 k (wrap64 (x19 + 1)) x851000 x874000) else ((impl_Content.f k x851000 x20).bind fun bt887 => ((impl_Content.f k x874000 x20).bind fun bt891 => (if bt891.2 = true then (if (strOfNums bt887.1).toList = (strOfNums bt891.1).toList then (laws_FnCompact.l1 k (wrap64 (x19 + 1)) x851000 x874000) else (none)) else (none))))
end
def laws_FnCompact.f (k : Nat) (l0 : List Int) : Option (Bool) := (laws_big.f l0).bind fun t842 => (if t842 = true then (some true) else ((spec_DrawRightWal.f k l0).bind fun bt843 => (laws_FnCompact.l0 k l0 bt843.2.1 0 bt843.1)))
def laws_FnCompact.T7 : Bool × List (List Nat × List Nat) := (true, [([], []), ([], []), ([], []), ([1, 2], [1, 2]), ([3], [3]), ([0, 4], [0, 4]), ([5], [5]), ([6], [6]), ([6], [6]), ([], []), ([9, 7, 5, 0, 1, 2, 3, 4, 5, 6, 7, 9], [7, 9]), ([8, 10, 0, 1, 2, 3, 4, 5, 6, 7, 8, 9, 10], [8])])
def laws_FnCompact.B7 : List Nat := [0, 0, 0, 6, 14, 31, 63, 127, 127, 0, 767, 2047]
theorem laws_FnCompact.tab7 : rtab .any (opsOf Tryd.f10 7) = laws_FnCompact.T7 := by kernel_rfl
theorem laws_FnCompact.bits7 : waitsOk laws_FnCompact.T7.2 laws_FnCompact.B7 = true := by kernel_rfl
set_option maxHeartbeats 8000000 in
set_option maxRecDepth 100000 in
theorem laws_FnCompact.calls (k : Nat) (A0 : Option Addr) (c0 : Nat) (l0 : List Int) (r : Bool) (w : World) (hr0 : Kd.C (Kd.int .u8) w A0 l0.length l0) (hc0 : l0.length ≤ c0) (h : laws_FnCompact.f k l0 = some r) :
  Calls Tryd.prog 10 #[.slice A0 l0.length c0] w fun e w' => e = .returned (.bool r) ∧ Below w.heap.size w w' := by
 have hu28 := Tryd.underlying28
 have HR0 := Zh hr0
 have HC0 := Zh hc0
 clear hr0 hc0
 have HB := Zh (Below.refl w.heap.size w)
 have H : ((laws_big.f l0).bind fun t842 => (if t842 = true then (some true) else ((spec_DrawRightWal.f k l0).bind fun bt843 => (laws_FnCompact.l0 k l0 bt843.2.1 0 bt843.1)))) = some r := h
 clear h
 replace H := Option.bind_eq_some_iff.mp H
 obtain ⟨t842, A20, H⟩ := H
 replace H : (if t842 = true then (some true) else ((spec_DrawRightWal.f k l0).bind fun bt843 => (laws_FnCompact.l0 k l0 bt843.2.1 0 bt843.1))) = some r := H
 have A2 := Zh A20
 clear A20
 by_cases c3 : t842 = true
 ·
  subst c3
  have H1 : (some true) = some r := by rw [if_pos rfl] at H; exact H
  clear H
  have H := H1
  clear H1
  obtain rfl := Option.some.inj H
  go_enter Tryd.func10, Tryd.ntmps10
  go_wp2_with (first | ((with_reducible refine gate_callee (f := 34) rfl ?_); refine ZG (some 26) Tryd.func34 #[.slice A0 l0.length c0] rfl ?_; (with_reducible refine (laws_big.calls _ _ l0 true _ ?side1 ?side2 A2.out).mono ?_); (case side1 => repeat (first | exact HR0.out | (with_reducible refine C_alloc ?_ _) | (with_reducible refine C_drewN ?_ _) | (with_reducible refine C_drew ?_))); (case side2 => exact HC0.out); rintro e w' ⟨rfl, ⟨nd, rfl⟩⟩; refine ⟨_, rfl, ?_⟩))
  go_ret
  exact ⟨ZE, Zs⟩
 replace c3 := Bool.eq_false_iff.mpr c3
 subst c3
 have H1 : ((spec_DrawRightWal.f k l0).bind fun bt843 => (laws_FnCompact.l0 k l0 bt843.2.1 0 bt843.1)) = some r := by rw [if_neg (show ¬ (false = true) by decide)] at H; exact H
 clear H
 have H := H1
 clear H1
 replace H := Option.bind_eq_some_iff.mp H
 obtain ⟨⟨t843, t846, t849⟩, A40, H⟩ := H
 replace H : (laws_FnCompact.l0 k l0 t846 0 t843) = some r := H
 have A4 := Zh A40
 clear A40
 have H' := Zh H
 clear H
 go_enter Tryd.func10, Tryd.ntmps10
 go_wp2_with (first | ((with_reducible refine gate_callee (f := 34) rfl ?_); refine ZG (some 26) Tryd.func34 #[.slice A0 l0.length c0] rfl ?_; (with_reducible refine (laws_big.calls _ _ l0 false _ ?side1 ?side2 A2.out).mono ?_); (case side1 => repeat (first | exact HR0.out | (with_reducible refine C_alloc ?_ _) | (with_reducible refine C_drewN ?_ _) | (with_reducible refine C_drew ?_))); (case side2 => exact HC0.out); rintro e w' ⟨rfl, ⟨nd, rfl⟩⟩; refine ⟨_, rfl, ?_⟩) | ((with_reducible refine gate_callee (f := 35) rfl ?_); refine ZG (some 29) Tryd.func35 #[.slice A0 l0.length c0] rfl ?_; (with_reducible refine (spec_DrawRightWal.calls k _ _ l0 t843 t846 t849 _ ?side1 ?side2 A4.out).mono ?_); (case side1 => repeat (first | exact HR0.out | (with_reducible refine C_alloc ?_ _) | (with_reducible refine C_drewN ?_ _) | (with_reducible refine C_drew ?_))); (case side2 => exact HC0.out); rintro e w5 ⟨v844, v847, rfl, ho0, ho1, hb⟩; refine ⟨_, rfl, ?_⟩; have HO845 := Zh (S_lower ho0 (below_size Zs)); have HO848 := Zh (S_lower ho1 (below_size Zs)); replace HB := Zh (Zl Zs hb); (try clear hb); (try clear hb2); (try clear hk); (try clear hi); (try clear ho0); (try clear ho1)) | ((with_reducible refine gate_dst (N := 3) rfl ?_); (try (refine gate_guard (by rfl) ?_; dsimp only)); refine box_event ?hg (N := 3) ?hd (cs := #[.slice none 0 0]) (t := 28) ?hr ?_; (case hd => rfl); (case hg => rfl); (case hr => first | (go_simp; done) | (go_simp; rfl)); intro gb850 hg w6 hbox hb; replace HO845 := Zh (S_below (ZS HO845.out) hb); replace HO848 := Zh (S_below (ZS HO848.out) hb); have BK850 := Zh (hbox); have GW850 := Zh ((by rw [hg]; exact (below_size Zs) : w.heap.size ≤ gb850)); have GE850 := Zh ((by rw [hg]; exact (below_size Zs) : w.heap.size ≤ gb850)); replace HB := Zh (Zl Zs hb); clear hb hbox hg; obtain ⟨Ao7, co7, eo7⟩ := S_slice HO845.out; subst eo7; have hcz8_0 : w6.cell? ⟨gb850, 0, none⟩ = some (.slice none 0 0) := (blk_cell BK850.out 0).trans rfl; have hfz8_0 := Zn BK850.out 0))
 go_loopg [6] k (fun kq v6 w' => ∃ (x6_1 : Int) (x851000_1 : List (S55)) (u851000 : Value), v6 = .int .i64 x6_1 ∧ Aside0 (laws_FnCompact.l0 kq l0 t846 x6_1 x851000_1 = some r) ∧ Aside0 (kq ≤ k) ∧ Aside0 (Kd.S (Kd.slice 5 (Kd.int .u8)) 41 w' w.heap.size (fun _ => True) v847 t846) ∧ Aside0 (Kd.S k55 55 w' w.heap.size (fun _ => True) u851000 x851000_1) ∧ Aside0 (w'.heap[gb850]? = some (.cells #[u851000] 28 (0, 0))) ∧ Aside0 (Below w.heap.size w w'))
 case atStart => exact ⟨(0), (t843), (.slice Ao7 t843.length co7), (by first | rfl | (simp; done) | (simp [*]; done)), H', ⟨Nat.le_refl _⟩, ⟨ZS (S_mono (S_far (p := ⟨gb850, 0, none⟩) (S_types HO848.out BK850.out (by decide)) (fun _ hk => hk.2) (.slice Ao7 t843.length co7)) (fun _ hk => trivial))⟩, ⟨ZS (S_mono (S_far (p := ⟨gb850, 0, none⟩) (S_types HO845.out BK850.out (by decide)) (fun _ hk => hk.2) (.slice Ao7 t843.length co7)) (fun _ hk => trivial))⟩, ⟨by (with_reducible repeat (first | refine Za ?_ _ | refine Zb ?_ | refine blk_alloc ?_ _)); refine blk_put (cs := #[.slice none 0 0]) ?_ 0 _ rfl; (with_reducible repeat (first | refine Za ?_ _ | refine Zb ?_ | refine blk_alloc ?_ _)); exact BK850.out⟩, ⟨Zs⟩⟩
 case round =>
  clear H'
  try clear c1
  try clear p2
  try clear c3
  try clear hcz8_0
  try clear hfz8_0
  obtain ⟨x6_1, x851000_1, u851000, rfl, HA, HK1, HO_4, HO_851000, BK850, HB⟩ := hrel
  cases gk with
  | zero => exact absurd HA.out (by simp [laws_FnCompact.l0])
  | succ k1 =>
   have H := HA.out
   clear HA
   simp only [laws_FnCompact.l0] at H
   by_cases c9 : x6_1 < (t846.length : Int)
   ·
    rw [if_pos c9] at H
    have c9b0 : decide (x6_1 < (t846.length : Int)) = true := decide_eq_true c9
    clear c9
    by_cases c10 : 0 ≤ x6_1
    ·
     rw [if_pos c10] at H
     have c10b0 : decide (0 ≤ x6_1) = true := decide_eq_true c10
     clear c10
     replace H := Option.bind_eq_some_iff.mp H
     obtain ⟨⟨t852, t855⟩, A110, H⟩ := H
     replace H : (if t855 = true then (laws_FnCompact.l0 k1 l0 t846 (wrap64 (x6_1 + 1)) t852) else (none)) = some r := H
     have A11 := Zh A110
     clear A110
     by_cases c12 : t855 = true
     ·
      subst c12
      have H1 : (laws_FnCompact.l0 k1 l0 t846 (wrap64 (x6_1 + 1)) t852) = some r := by rw [if_pos rfl] at H; exact H
      clear H
      have H := H1
      clear H1
      have H' := Zh H
      clear H
      obtain ⟨Ao13, co13, eo13⟩ := S_slice HO_4.out
      subst eo13
      obtain ⟨Ao14, co14, eo14⟩ := S_slice HO_851000.out
      subst eo14
      try go_wp2
      replace HO_4 := Zh (S_drew HO_4.out)
      replace HO_851000 := Zh (S_drew HO_851000.out)
      replace BK850 := Zh (Zb BK850.out)
      replace HB := Zh (Ze HB.out)
      have p851 : 0 ≤ (x6_1 : Int) := Zo
      have q851 : x6_1 < (t846.length : Int) := Zo
      obtain ⟨ad851, A851_0, c851_0, e851, hx851_0, hl851_0, hi851_0⟩ := at_L2 (S_reads' HO_4.out).2.2 x6_1 p851 q851
      cases e851
      obtain ⟨ce851, hce851, hMe851, hcc851⟩ := S_get HO_4.out [] x6_1 p851 (by first | exact q851 | exact Zo | (have e_ := (S_reads' HO_4.out).1; omega))
      obtain ⟨ve851_0, rfl, ge851_0⟩ := hMe851
      have hv851_0 := hcc851 0 _ rfl
      rw [Nat.add_zero, show ((Kd.slice 5 (Kd.int .u8))).sz = 1 from rfl, Nat.mul_one] at hv851_0
      replace hv851_0 := Option.some.inj (hv851_0.symm.trans hx851_0)
      rw [hv851_0] at ge851_0
      have HL851_0 := Zh (show Kd.R (Kd.int .u8) 5 _ _ _ _ (rd_L2 t846 x6_1) from ge851_0)
      clear hv851_0 ge851_0
      clear hcc851 hce851
      have HR851_0 := Zh hi851_0
      have HC851_0 := Zh hl851_0
      clear hi851_0 hl851_0
      replace p851 := eq_true p851
      replace q851 := eq_true q851
      refine start_ (n := 12) (S := fun w' => w'.cell? ⟨gb850, 0, none⟩ = some (.slice Ao14 x851000_1.length co14) ∧ w'.cell? (ad851.add (x6_1).toNat) = some (.slice A851_0 (rd_L2 t846 x6_1).length c851_0)) (ds := []) #[false, false, false, false, false, false, false, false, false, false, false, false] (by kernel_rfl) rfl rfl ⟨(blk_cell BK850.out 0).trans rfl, hx851_0⟩ (fun hHeld => ?_); refine with_tabW laws_FnCompact.tab7 laws_FnCompact.bits7 (fun HT_ HW_ => ?_)
      generalize wr.drew = w15 at HO_4 HO_851000 BK850 HB HL851_0 HR851_0 hx851_0 hHeld ⊢
      refine SQ.pu 1 41 HT_ ?_
      refine SQ.pu 2 42 HT_ ?_
      refine SQ.pu 3 43 HT_ ?_
      refine SQ.tk 0 40 HT_ HW_ hHeld ?_
      refine SQ.tk 4 44 HT_ HW_ hHeld ?_
      refine join_ (σ := Value × Nat) 2 #[true, true, true, true, true, true, true, true, true, true, false, false] (fun s_ => [(45, .tuple #[.agg #[s_.1], .bool true]), (7, .pointer (some ⟨s_.2, 0, none⟩)), (39, .tuple #[.agg #[s_.1], .bool true]), (46, .agg #[s_.1]), (47, .bool true)]) (fun s_ w' => (w'.cell? ⟨gb850, 0, none⟩ = some (.slice Ao14 x851000_1.length co14) ∧ w'.cell? (ad851.add (x6_1).toNat) = some (.slice A851_0 (rd_L2 t846 x6_1).length c851_0)) ∧ (Kd.R (Kd.int .u8) 5 w' w.heap.size (fun k_ => some k_ ≠ (.slice (some ad851) t846.length co13 : Value).ownBlock) (.slice A851_0 (rd_L2 t846 x6_1).length c851_0) (rd_L2 t846 x6_1)) ∧ (Kd.S k55 55 w' w.heap.size (fun k_ => some k_ ≠ (.slice A851_0 (rd_L2 t846 x6_1).length c851_0 : Value).ownBlock ∧ some k_ ≠ (.slice Ao14 x851000_1.length co14 : Value).ownBlock) s_.1 t852) ∧ (Kd.S (Kd.slice 5 (Kd.int .u8)) 41 w' w.heap.size (fun _ => True) (.slice (some ad851) t846.length co13) t846) ∧ (Kd.S k55 55 w' w.heap.size (fun k_ => some k_ ≠ (s_.1 : Value).ownBlock) (.slice Ao14 x851000_1.length co14) x851000_1) ∧ (w'.heap[gb850]? = some (.cells #[.slice Ao14 x851000_1.length co14] 28 (0, 0))) ∧ (w'.heap[s_.2]? = some (.cells #[.slice none 0 0] 28 (0, 0))) ∧ (w.heap.size ≤ s_.2) ∧ (w.heap.size ≤ s_.2) ∧ (gb850 ≠ s_.2) ∧ (s_.2 ≠ gb850) ∧ (Below w.heap.size w w')) ?_ ?_
      rotate_left
      ·
       intro hCont
       refine two_ (i := 5) (j := 9) (Ni := some 45) (Nj := some 7) #[true, true, true, true, true, true, false, false, false, false, false, false] #[true, true, true, true, true, false, false, false, false, true, false, false] rfl rfl rfl rfl (two_of HT_.out (by kernel_rfl)) (by decide) (by decide) (fun K hK => ?_) (fun K hK => ?_)
       ·
        skip
        refine goes_ Tryd.func29 (by kernel_rfl) rfl #[.agg #[.slice Ao14 x851000_1.length co14], .slice A851_0 (rd_L2 t846 x6_1).length c851_0] (by rfl) rfl rfl (by (try simp only [List.map_toArray, List.map_cons, List.map_nil]); first | done | rfl | (simp only [List.length_drop, List.length_take]; rfl)) ?_
        with_reducible refine (impl_WalAppend.calls k1 _ _ x851000_1 _ _ (rd_L2 t846 x6_1) t852 true _ ?side1 ?side2 ?side3 ?side4 A11.out).mono ?_
        (case side1 => repeat (first | exact (S_reads' HO_851000.out).2.2 | (with_reducible refine C_alloc ?_ _) | (with_reducible refine C_drewN ?_ _) | (with_reducible refine C_drew ?_)))
        (case side2 => exact (S_reads' HO_851000.out).2.1)
        (case side3 => repeat (first | exact (by repeat (first | (with_reducible exact HR851_0.out) | (with_reducible refine C_alloc ?_ _) | (with_reducible refine C_drewN ?_ _) | (with_reducible refine C_drew ?_) | exact HR851_0.out)) | (with_reducible refine C_alloc ?_ _) | (with_reducible refine C_drewN ?_ _) | (with_reducible refine C_drew ?_)))
        (case side4 => exact HC851_0.out)
        rintro e w16 ⟨v853, rfl, ho0, hb⟩
        have HS1_ := (hb.cell (Zi _ _ (hHeld.2))).trans (hHeld.2)
        refine ⟨_, rfl, ?_⟩
        replace HO_4 := Zh (S_below (ZS HO_4.out) hb)
        have HO854 := Zh (S_lower (S_new' (S_new' ho0 (S_lt (ZS HO_851000.out))) (R_lt (ZR HL851_0.out))) (below_size Zs))
        replace HO_851000 := Zh (S_elder' (ZS HO_851000.out) (S_base ho0) hb)
        replace HL851_0 := Zh (R_below (ZR HL851_0.out) hb)
        replace BK850 := Zh (Zm (g := gb850) (o := .cells #[.slice Ao14 x851000_1.length co14] 28 (0, 0)) Zk hb)
        replace HR851_0 := Zh (C_below (by repeat (first | (with_reducible exact HR851_0.out) | (with_reducible refine C_alloc ?_ _) | (with_reducible refine C_drewN ?_ _) | (with_reducible refine C_drew ?_) | exact HR851_0.out)) hb)
        replace HB := Zh (Zl Zs hb)
        (try clear hb)
        (try clear hb2)
        (try clear hk)
        (try clear hi)
        (try clear ho0)
        refine hK.out _ _ ⟨(blk_cell BK850.out 0).trans rfl, HS1_⟩ (fun hHeld => ?_)
        clear hK K
        refine norm_ (a' := ?_) ?_ ?_
        rotate_left
        ·
         show Act.put _ (some 45) _ = _
         simp only [Act.put, List.setIfInBounds_toArray, List.set_cons_zero, List.set_cons_succ, i64_w, i32_w]
         rfl
        refine SQ.pu 6 39 HT_ ?_
        refine SQ.pu 7 46 HT_ ?_
        refine SQ.pu 8 47 HT_ ?_
        refine one_ (i := 9) (N := some 7) #[true, true, true, true, true, true, true, true, true, true, false, false] rfl rfl (one_of HT_.out (by kernel_rfl)) (by decide) (fun K hK => ?_)
        refine box_step ?hg (N := 7) ?hd (cs := #[.slice none 0 0]) (t := 28) ?hr ?_; (case hd => rfl); (case hg => rfl); (case hr => first | (go_simp; done) | (go_simp; rfl))
        intro gb856 hg w17 hbox hb
        have HS1_ := (hb.cell (Zi _ _ (hHeld.2))).trans (hHeld.2)
        replace HO_4 := Zh (S_below (ZS HO_4.out) hb)
        replace HO_851000 := Zh (S_below (ZS HO_851000.out) hb)
        replace HL851_0 := Zh (R_below (ZR HL851_0.out) hb)
        replace HO854 := Zh (S_below (ZS HO854.out) hb)
        replace HR851_0 := Zh (C_below (by repeat (first | (with_reducible exact HR851_0.out) | (with_reducible refine C_alloc ?_ _) | (with_reducible refine C_drewN ?_ _) | (with_reducible refine C_drew ?_) | exact HR851_0.out)) hb)
        have BK856 := Zh (hbox)
        have GW856 := Zh ((by rw [hg]; exact (below_size Zs) : w.heap.size ≤ gb856))
        have GE856 := Zh ((by rw [hg]; exact (below_size Zs) : w.heap.size ≤ gb856))
        replace HB := Zh (Zl Zs hb)
        have NB850_856 := Zh ((by rw [hg]; exact Nat.ne_of_lt (blk_lt (g := gb850) (o := .cells #[.slice Ao14 x851000_1.length co14] 28 (0, 0)) Zk) : gb850 ≠ gb856))
        have NB856_850 := Zh ((by rw [hg]; exact Nat.ne_of_gt (blk_lt (g := gb850) (o := .cells #[.slice Ao14 x851000_1.length co14] 28 (0, 0)) Zk) : gb856 ≠ gb850))
        replace BK850 := Zh (Zm (g := gb850) (o := .cells #[.slice Ao14 x851000_1.length co14] 28 (0, 0)) Zk hb)
        clear hb hbox hg
        refine hK.out _ _ ⟨(blk_cell BK850.out 0).trans rfl, HS1_⟩ (fun hHeld => ?_)
        clear hK K
        refine norm_ (a' := ?_) ?_ ?_
        rotate_left
        ·
         show Act.put _ (some 7) _ = _
         simp only [Act.put, List.setIfInBounds_toArray, List.set_cons_zero, List.set_cons_succ, i64_w, i32_w]
         rfl
        exact norm_ (by simp only [putAll, Act.put, List.setIfInBounds_toArray, List.set_cons_zero, List.set_cons_succ]) (hCont (v853, gb856) _ ⟨hHeld, (ZR (R_mono HL851_0.out (fun _ hk => hk.2))), (ZS (S_mono HO854.out (fun _ hk => ⟨hk.2, hk.1.2⟩))), (ZS HO_4.out), (ZS (S_mono HO_851000.out (fun _ hk => hk.2))), Zk, Zk, GW856.out, GE856.out, NB850_856.out, NB856_850.out, Zs⟩)
       skip
       refine box_step ?hg (N := 7) ?hd (cs := #[.slice none 0 0]) (t := 28) ?hr ?_; (case hd => rfl); (case hg => rfl); (case hr => first | (go_simp; done) | (go_simp; rfl))
       intro gb856 hg w16 hbox hb
       have HS1_ := (hb.cell (Zi _ _ (hHeld.2))).trans (hHeld.2)
       replace HO_4 := Zh (S_below (ZS HO_4.out) hb)
       replace HO_851000 := Zh (S_below (ZS HO_851000.out) hb)
       replace HL851_0 := Zh (R_below (ZR HL851_0.out) hb)
       replace HR851_0 := Zh (C_below (by repeat (first | (with_reducible exact HR851_0.out) | (with_reducible refine C_alloc ?_ _) | (with_reducible refine C_drewN ?_ _) | (with_reducible refine C_drew ?_) | exact HR851_0.out)) hb)
       have BK856 := Zh (hbox)
       have GW856 := Zh ((by rw [hg]; exact (below_size Zs) : w.heap.size ≤ gb856))
       have GE856 := Zh ((by rw [hg]; exact (below_size Zs) : w.heap.size ≤ gb856))
       replace HB := Zh (Zl Zs hb)
       have NB850_856 := Zh ((by rw [hg]; exact Nat.ne_of_lt (blk_lt (g := gb850) (o := .cells #[.slice Ao14 x851000_1.length co14] 28 (0, 0)) Zk) : gb850 ≠ gb856))
       have NB856_850 := Zh ((by rw [hg]; exact Nat.ne_of_gt (blk_lt (g := gb850) (o := .cells #[.slice Ao14 x851000_1.length co14] 28 (0, 0)) Zk) : gb856 ≠ gb850))
       replace BK850 := Zh (Zm (g := gb850) (o := .cells #[.slice Ao14 x851000_1.length co14] 28 (0, 0)) Zk hb)
       clear hb hbox hg
       refine hK.out _ _ ⟨(blk_cell BK850.out 0).trans rfl, HS1_⟩ (fun hHeld => ?_)
       clear hK K
       refine norm_ (a' := ?_) ?_ ?_
       rotate_left
       ·
        show Act.put _ (some 7) _ = _
        simp only [Act.put, List.setIfInBounds_toArray, List.set_cons_zero, List.set_cons_succ, i64_w, i32_w]
        rfl
       refine one_ (i := 5) (N := some 45) #[true, true, true, true, true, true, false, false, false, true, false, false] rfl rfl (one_of HT_.out (by kernel_rfl)) (by decide) (fun K hK => ?_)
       refine goes_ Tryd.func29 (by kernel_rfl) rfl #[.agg #[.slice Ao14 x851000_1.length co14], .slice A851_0 (rd_L2 t846 x6_1).length c851_0] (by rfl) rfl rfl (by (try simp only [List.map_toArray, List.map_cons, List.map_nil]); first | done | rfl | (simp only [List.length_drop, List.length_take]; rfl)) ?_
       with_reducible refine (impl_WalAppend.calls k1 _ _ x851000_1 _ _ (rd_L2 t846 x6_1) t852 true _ ?side1 ?side2 ?side3 ?side4 A11.out).mono ?_
       (case side1 => repeat (first | exact (S_reads' HO_851000.out).2.2 | (with_reducible refine C_alloc ?_ _) | (with_reducible refine C_drewN ?_ _) | (with_reducible refine C_drew ?_)))
       (case side2 => exact (S_reads' HO_851000.out).2.1)
       (case side3 => repeat (first | exact (by repeat (first | (with_reducible exact HR851_0.out) | (with_reducible refine C_alloc ?_ _) | (with_reducible refine C_drewN ?_ _) | (with_reducible refine C_drew ?_) | exact HR851_0.out)) | (with_reducible refine C_alloc ?_ _) | (with_reducible refine C_drewN ?_ _) | (with_reducible refine C_drew ?_)))
       (case side4 => exact HC851_0.out)
       rintro e w17 ⟨v853, rfl, ho0, hb⟩
       have HS1_ := (hb.cell (Zi _ _ (hHeld.2))).trans (hHeld.2)
       refine ⟨_, rfl, ?_⟩
       replace HO_4 := Zh (S_below (ZS HO_4.out) hb)
       have HO854 := Zh (S_lower (S_new' (S_new' ho0 (S_lt (ZS HO_851000.out))) (R_lt (ZR HL851_0.out))) (below_size Zs))
       replace HO_851000 := Zh (S_elder' (ZS HO_851000.out) (S_base ho0) hb)
       replace HL851_0 := Zh (R_below (ZR HL851_0.out) hb)
       replace BK850 := Zh (Zm (g := gb850) (o := .cells #[.slice Ao14 x851000_1.length co14] 28 (0, 0)) Zk hb)
       replace HR851_0 := Zh (C_below (by repeat (first | (with_reducible exact HR851_0.out) | (with_reducible refine C_alloc ?_ _) | (with_reducible refine C_drewN ?_ _) | (with_reducible refine C_drew ?_) | exact HR851_0.out)) hb)
       replace BK856 := Zh (Zm (g := gb856) (o := .cells #[.slice none 0 0] 28 (0, 0)) Zk hb)
       replace HB := Zh (Zl Zs hb)
       (try clear hb)
       (try clear hb2)
       (try clear hk)
       (try clear hi)
       (try clear ho0)
       refine hK.out _ _ ⟨(blk_cell BK850.out 0).trans rfl, HS1_⟩ (fun hHeld => ?_)
       clear hK K
       refine norm_ (a' := ?_) ?_ ?_
       rotate_left
       ·
        show Act.put _ (some 45) _ = _
        simp only [Act.put, List.setIfInBounds_toArray, List.set_cons_zero, List.set_cons_succ, i64_w, i32_w]
        rfl
       refine SQ.pu 6 39 HT_ ?_
       refine SQ.pu 7 46 HT_ ?_
       refine SQ.pu 8 47 HT_ ?_
       exact norm_ (by simp only [putAll, Act.put, List.setIfInBounds_toArray, List.set_cons_zero, List.set_cons_succ]) (hCont (v853, gb856) _ ⟨hHeld, (ZR (R_mono HL851_0.out (fun _ hk => hk.2))), (ZS (S_mono HO854.out (fun _ hk => ⟨hk.2, hk.1.2⟩))), (ZS HO_4.out), (ZS (S_mono HO_851000.out (fun _ hk => hk.2))), Zk, Zk, GW856.out, GE856.out, NB850_856.out, NB856_850.out, Zs⟩)
      rintro ⟨v853, gb856⟩ w18 ⟨hS_, h0_, h1_, h2_, h3_, h4_, h5_, h6_, h7_, h8_, h9_, h10_⟩
      have n0_ : Aside0 (Kd.R (Kd.int .u8) 5 w18 w.heap.size (fun k_ => some k_ ≠ (.slice (some ad851) t846.length co13 : Value).ownBlock) (.slice A851_0 (rd_L2 t846 x6_1).length c851_0) (rd_L2 t846 x6_1)) := ⟨h0_⟩
      have n1_ : Aside0 (Kd.S k55 55 w18 w.heap.size (fun k_ => some k_ ≠ (.slice A851_0 (rd_L2 t846 x6_1).length c851_0 : Value).ownBlock ∧ some k_ ≠ (.slice Ao14 x851000_1.length co14 : Value).ownBlock) v853 t852) := ⟨h1_⟩
      have n2_ : Aside0 (Kd.S (Kd.slice 5 (Kd.int .u8)) 41 w18 w.heap.size (fun _ => True) (.slice (some ad851) t846.length co13) t846) := ⟨h2_⟩
      have n3_ : Aside0 (Kd.S k55 55 w18 w.heap.size (fun k_ => some k_ ≠ (v853 : Value).ownBlock) (.slice Ao14 x851000_1.length co14) x851000_1) := ⟨h3_⟩
      have n4_ : Aside0 (w18.heap[gb850]? = some (.cells #[.slice Ao14 x851000_1.length co14] 28 (0, 0))) := ⟨h4_⟩
      have n5_ : Aside0 (w18.heap[gb856]? = some (.cells #[.slice none 0 0] 28 (0, 0))) := ⟨h5_⟩
      have n6_ : Aside0 (w.heap.size ≤ gb856) := ⟨h6_⟩
      have n7_ : Aside0 (w.heap.size ≤ gb856) := ⟨h7_⟩
      have n8_ : Aside0 (gb850 ≠ gb856) := ⟨h8_⟩
      have n9_ : Aside0 (gb856 ≠ gb850) := ⟨h9_⟩
      have n10_ : Aside0 (Below w.heap.size w w18) := ⟨h10_⟩
      clear HO_4
      clear HO_851000
      clear BK850
      clear HB
      clear h0_ h1_ h2_ h3_ h4_ h5_ h6_ h7_ h8_ h9_ h10_
      have HL851_0 := n0_
      have HO854 := n1_
      have HO_4 := n2_
      have HO_851000 := n3_
      have BK850 := n4_
      have BK856 := n5_
      have GW856 := n6_
      have GE856 := n7_
      have NB850_856 := n8_
      have NB856_850 := n9_
      have HB := n10_
      clear n0_ n1_ n2_ n3_ n4_ n5_ n6_ n7_ n8_ n9_ n10_
      have hHeld : w18.cell? ⟨gb850, 0, none⟩ = some (.slice Ao14 x851000_1.length co14) ∧ w18.cell? (ad851.add (x6_1).toNat) = some (.slice A851_0 (rd_L2 t846 x6_1).length c851_0) := hS_
      obtain ⟨Ao19, co19, eo19⟩ := S_slice HO854.out
      (first | subst eo19 | (injection eo19 with f1_ f2_ f3_; have f4_ := f1_.symm; have f5_ := f3_.symm; clear f1_ f2_ f3_; subst f4_; subst f5_))
      refine norm_ (a' := ?_) ?_ ?_
      rotate_left
      ·
       simp only [putAll, Act.put, List.setIfInBounds_toArray, List.set_cons_zero, List.set_cons_succ]
       rfl
      refine one_ (i := 10) (N := none) #[true, true, true, true, true, true, true, true, true, true, true, false] rfl rfl (one_of HT_.out (by kernel_rfl)) (by decide) (fun K hK => ?_)
      have hs20 : w18.cell? ⟨gb856, 0, none⟩ = some (.slice none 0 0) := (blk_cell BK856.out 0).trans rfl
      have hfs20 := Zn BK856.out 0
      have hns20_0 := NB850_856.out
      have hms20_0 := NB856_850.out
      refine skip_ (w1 := ?_) (by rfl) rfl ?_ ?_
      rotate_left
      ·
       go_simp
       rfl
      refine hK.out _ _ ⟨((cell_far (p := ⟨gb856, _, none⟩) NB850_856.out _).trans (hHeld.1)), ((cell_far (p := ⟨gb856, _, none⟩) (by first | exact Kd.own_blk (S_ne HO_4.out BK856.out (by decide)) | (rw [add_block]; exact Kd.own_blk (S_ne HO_4.out BK856.out (by decide))) | (show (Addr.add _ _).block ≠ _; rw [add_block]; exact Kd.own_blk (S_ne HO_4.out BK856.out (by decide))) | (dsimp only; exact Kd.own_blk (S_ne HO_4.out BK856.out (by decide)))) _).trans (hHeld.2))⟩ (fun hHeld => ?_)
      clear hK K
      refine SQ.pu 11 8 HT_ ?_
      refine done_ (done_of HT_.out (by kernel_rfl)) ?_
      have hnb21 := NB856_850.out
      have hnc21 := NB850_856.out
      have hcz22_0 : w18.cell? ⟨gb856, 0, none⟩ = some (.slice none 0 0) := (blk_cell BK856.out 0).trans rfl
      have hfz22_0 := Zn BK856.out 0
      have hcz23_0 : w18.cell? ⟨gb850, 0, none⟩ = some (.slice Ao14 x851000_1.length co14) := (blk_cell BK850.out 0).trans rfl
      have hfz23_0 := Zn BK850.out 0
      try go_wp2
      go_roundg k1
      case measure => have := HK1.out; omega
      case rel => exact ⟨(wrap64 (x6_1 + 1)), (t852), (.slice Ao19 t852.length co19), (by first | rfl | (simp; done) | (simp [*]; done)), H', ⟨by have := HK1.out; omega⟩, ⟨ZS (S_mono (S_far (p := ⟨gb850, 0, none⟩) (S_far (p := ⟨gb856, 0, none⟩) (S_types (S_types HO_4.out BK856.out (by decide)) BK850.out (by decide)) (fun _ hk => hk.1.2) (.slice Ao19 t852.length co19)) (fun _ hk => hk.2) (.slice Ao19 t852.length co19)) (fun _ hk => trivial))⟩, ⟨ZS (S_mono (S_far (p := ⟨gb850, 0, none⟩) (S_far (p := ⟨gb856, 0, none⟩) (S_types (S_types HO854.out BK856.out (by decide)) BK850.out (by decide)) (fun _ hk => hk.1.2) (.slice Ao19 t852.length co19)) (fun _ hk => hk.2) (.slice Ao19 t852.length co19)) (fun _ hk => trivial))⟩, ⟨by (with_reducible repeat (first | refine Za ?_ _ | refine Zb ?_ | refine blk_alloc ?_ _)); refine blk_put (cs := #[.slice Ao14 x851000_1.length co14]) ?_ 0 _ rfl; (with_reducible repeat (first | refine Za ?_ _ | refine Zb ?_ | refine blk_alloc ?_ _)); refine blk_far ?_ NB850_856.out _; (with_reducible repeat (first | refine Za ?_ _ | refine Zb ?_ | refine blk_alloc ?_ _)); exact BK850.out⟩, ⟨Zs⟩⟩
     replace c12 := Bool.eq_false_iff.mpr c12
     subst c12
     have H1 : (none) = some r := by rw [if_neg (show ¬ (false = true) by decide)] at H; exact H
     clear H
     have H := H1
     clear H1
     exact absurd H (by simp)
    rw [if_neg c10] at H
    exact absurd H (by simp)
   rw [if_neg c9] at H
   have c9b0 : decide (x6_1 < (t846.length : Int)) = false := decide_eq_false c9
   clear c9
   replace H := Option.bind_eq_some_iff.mp H
   obtain ⟨t857, A240, H⟩ := H
   replace H : (if t857 < 0 then ((impl_WalCompact.f k1 x851000_1 0).bind fun bt858 => (if bt858.2 = true then (none) else ((laws_sameDisk.f k1 bt858.1 x851000_1).bind fun t863 => (if t863 = true then (some ((t846.length : Int) == 0)) else (none))))) else ((impl_WalRead.f k1 x851000_1).bind fun bt864 => ((laws_at.f l0 4).bind fun t868 => (if (wrap64 (t857 + 1)) = 0 then (none) else ((impl_WalCompact.f k1 x851000_1 (Int.tmod t868 (wrap64 (t857 + 1)))).bind fun bt869 => (if bt869.2 = true then (laws_FnCompact.j1 k1 bt864.1 (Int.tmod t868 (wrap64 (t857 + 1))) ((bt864.1.length : Int) != t857) x851000_1 bt869.1) else (none))))))) = some r := H
   have A24 := Zh A240
   clear A240
   by_cases c25 : t857 < 0
   ·
    rw [if_pos c25] at H
    have c25b0 : decide (t857 < 0) = true := decide_eq_true c25
    clear c25
    replace H := Option.bind_eq_some_iff.mp H
    obtain ⟨⟨t858, t861⟩, A260, H⟩ := H
    replace H : (if t861 = true then (none) else ((laws_sameDisk.f k1 t858 x851000_1).bind fun t863 => (if t863 = true then (some ((t846.length : Int) == 0)) else (none)))) = some r := H
    have A26 := Zh A260
    clear A260
    by_cases c27 : t861 = true
    ·
     subst c27
     have H1 : (none) = some r := by rw [if_pos rfl] at H; exact H
     clear H
     have H := H1
     clear H1
     exact absurd H (by simp)
    replace c27 := Bool.eq_false_iff.mpr c27
    subst c27
    have H1 : ((laws_sameDisk.f k1 t858 x851000_1).bind fun t863 => (if t863 = true then (some ((t846.length : Int) == 0)) else (none))) = some r := by rw [if_neg (show ¬ (false = true) by decide)] at H; exact H
    clear H
    have H := H1
    clear H1
    replace H := Option.bind_eq_some_iff.mp H
    obtain ⟨t863, A280, H⟩ := H
    replace H : (if t863 = true then (some ((t846.length : Int) == 0)) else (none)) = some r := H
    have A28 := Zh A280
    clear A280
    by_cases c29 : t863 = true
    ·
     subst c29
     have H1 : (some ((t846.length : Int) == 0)) = some r := by rw [if_pos rfl] at H; exact H
     clear H
     have H := H1
     clear H1
     obtain rfl := Option.some.inj H
     obtain ⟨Ao30, co30, eo30⟩ := S_slice HO_4.out
     subst eo30
     have hcz31_0 : wr.cell? ⟨gb850, 0, none⟩ = some (u851000) := (blk_cell BK850.out 0).trans rfl
     have hfz31_0 := Zn BK850.out 0
     obtain ⟨Ao32, co32, eo32⟩ := S_slice HO_851000.out
     subst eo32
     go_wp2_with (first | ((with_reducible refine gate_callee (f := 19) rfl ?_); refine ZG (some 52) Tryd.func19 #[.agg #[.slice Ao32 x851000_1.length co32]] rfl ?_; (with_reducible refine (impl_WalCount.calls k1 _ _ x851000_1 t857 _ ?side1 ?side2 A24.out).mono ?_); (case side1 => repeat (first | exact (S_reads' HO_851000.out).2.2 | (with_reducible refine C_alloc ?_ _) | (with_reducible refine C_drewN ?_ _) | (with_reducible refine C_drew ?_))); (case side2 => exact (S_reads' HO_851000.out).2.1); rintro e w33 ⟨rfl, hb⟩; refine ⟨_, rfl, ?_⟩; replace HO_4 := Zh (S_below (ZS HO_4.out) hb); replace HO_851000 := Zh (S_below (ZS HO_851000.out) hb); replace BK850 := Zh (Zm (g := gb850) (o := .cells #[.slice Ao32 x851000_1.length co32] 28 (0, 0)) Zk hb); replace HB := Zh (Zl Zs hb); (try clear hb); (try clear hb2); (try clear hk); (try clear hi); have hcz34_0 : w33.cell? ⟨gb850, 0, none⟩ = some (.slice Ao32 x851000_1.length co32) := (blk_cell BK850.out 0).trans rfl; have hfz34_0 := Zn BK850.out 0) | ((with_reducible refine gate_callee (f := 33) rfl ?_); refine ZG (some 57) Tryd.func33 #[.agg #[.slice Ao32 x851000_1.length co32], .int .i64 0] rfl ?_; (with_reducible refine (impl_WalCompact.calls k1 _ _ x851000_1 0 t858 false _ ?side1 ?side2 A26.out).mono ?_); (case side1 => repeat (first | exact (S_reads' HO_851000.out).2.2 | (with_reducible refine C_alloc ?_ _) | (with_reducible refine C_drewN ?_ _) | (with_reducible refine C_drew ?_))); (case side2 => exact (S_reads' HO_851000.out).2.1); rintro e w35 ⟨v859, rfl, ho0, hb⟩; refine ⟨_, rfl, ?_⟩; replace HO_4 := Zh (S_below (ZS HO_4.out) hb); have HO860 := Zh (S_lower (S_new' ho0 (S_lt (ZS HO_851000.out))) (below_size Zs)); replace HO_851000 := Zh (S_elder' (ZS HO_851000.out) (S_base ho0) hb); replace BK850 := Zh (Zm (g := gb850) (o := .cells #[.slice Ao32 x851000_1.length co32] 28 (0, 0)) Zk hb); replace HB := Zh (Zl Zs hb); (try clear hb); (try clear hb2); (try clear hk); (try clear hi); (try clear ho0)) | ((with_reducible refine gate_dst (N := 10) rfl ?_); (try (refine gate_guard (by rfl) ?_; dsimp only)); refine box_event ?hg (N := 10) ?hd (cs := #[.slice none 0 0]) (t := 28) ?hr ?_; (case hd => rfl); (case hg => rfl); (case hr => first | (go_simp; done) | (go_simp; rfl)); intro gb862 hg w36 hbox hb; replace HO_4 := Zh (S_below (ZS HO_4.out) hb); replace HO_851000 := Zh (S_below (ZS HO_851000.out) hb); replace HO860 := Zh (S_below (ZS HO860.out) hb); have BK862 := Zh (hbox); have GW862 := Zh ((by rw [hg]; exact (below_size Zs) : w.heap.size ≤ gb862)); have GE862 := Zh ((by rw [hg]; exact (below_size Zs) : w.heap.size ≤ gb862)); replace HB := Zh (Zl Zs hb); have NB850_862 := Zh ((by rw [hg]; exact Nat.ne_of_lt (blk_lt (g := gb850) (o := .cells #[.slice Ao32 x851000_1.length co32] 28 (0, 0)) Zk) : gb850 ≠ gb862)); have NB862_850 := Zh ((by rw [hg]; exact Nat.ne_of_gt (blk_lt (g := gb850) (o := .cells #[.slice Ao32 x851000_1.length co32] 28 (0, 0)) Zk) : gb862 ≠ gb850)); replace BK850 := Zh (Zm (g := gb850) (o := .cells #[.slice Ao32 x851000_1.length co32] 28 (0, 0)) Zk hb); clear hb hbox hg; obtain ⟨Ao37, co37, eo37⟩ := S_slice HO860.out; subst eo37; have hnb38 := NB862_850.out; have hnc38 := NB850_862.out; have hcz39_0 : w36.cell? ⟨gb862, 0, none⟩ = some (.slice none 0 0) := (blk_cell BK862.out 0).trans rfl; have hfz39_0 := Zn BK862.out 0; have hcz40_0 : w36.cell? ⟨gb850, 0, none⟩ = some (.slice Ao32 x851000_1.length co32) := (blk_cell BK850.out 0).trans rfl; have hfz40_0 := Zn BK850.out 0) | (go_at_call 39; (with_reducible refine (laws_sameDisk.calls k1 _ _ t858 _ _ x851000_1 true _ ?side1 ?side2 ?side3 ?side4 A28.out).mono ?_); (case side1 => refine (S_reads' (e := 55) (base := w.heap.size) (ok := fun k_ => (True ∧ some k_ ≠ (.slice Ao32 x851000_1.length co32 : Value).ownBlock)) (n := t858.length) (c := co37) ?_).2.2; exact (ZS (S_mono (S_far (p := ⟨gb862, 0, none⟩) (S_types HO860.out BK862.out (by decide)) (fun _ hk => hk.2) (.slice Ao37 t858.length co37)) (fun _ h_ => h_.1)))); (case side2 => exact (S_reads' HO860.out).2.1); (case side3 => refine (S_reads' (e := 55) (base := w.heap.size) (ok := fun k_ => (True ∧ some k_ ≠ (.slice Ao37 t858.length co37 : Value).ownBlock)) (n := x851000_1.length) (c := co32) ?_).2.2; exact (ZS (S_mono (S_far (p := ⟨gb862, 0, none⟩) (S_types HO_851000.out BK862.out (by decide)) (fun _ hk => hk.2) (.slice Ao37 t858.length co37)) (fun _ h_ => h_.1)))); (case side4 => exact (S_reads' HO_851000.out).2.1); rintro e w41 ⟨rfl, hb⟩; replace HO_4 := Zh (S_below (ZS (S_mono (S_far (p := ⟨gb862, 0, none⟩) (S_types HO_4.out BK862.out (by decide)) (fun _ hk => hk.2) (.slice Ao37 t858.length co37)) (fun _ h_ => h_.1))) hb); replace HO_851000 := Zh (S_below (ZS (S_mono (S_far (p := ⟨gb862, 0, none⟩) (S_types HO_851000.out BK862.out (by decide)) (fun _ hk => hk.2) (.slice Ao37 t858.length co37)) (fun _ h_ => h_.1))) hb); replace HO860 := Zh (S_below (ZS (S_mono (S_far (p := ⟨gb862, 0, none⟩) (S_types HO860.out BK862.out (by decide)) (fun _ hk => hk.2) (.slice Ao37 t858.length co37)) (fun _ h_ => h_.1))) hb); replace BK850 := Zh (Zm (g := gb850) (o := .cells #[.slice Ao32 x851000_1.length co32] 28 (0, 0)) (by (with_reducible repeat (first | refine Za ?_ _ | refine Zb ?_ | refine blk_alloc ?_ _)); refine blk_far ?_ NB850_862.out _; (with_reducible repeat (first | refine Za ?_ _ | refine Zb ?_ | refine blk_alloc ?_ _)); exact BK850.out) hb); replace BK862 := Zh (Zm (g := gb862) (o := .cells #[.slice Ao37 t858.length co37] 28 (0, 0)) (by (with_reducible repeat (first | refine Za ?_ _ | refine Zb ?_ | refine blk_alloc ?_ _)); refine blk_put (cs := #[.slice none 0 0]) ?_ 0 _ rfl; (with_reducible repeat (first | refine Za ?_ _ | refine Zb ?_ | refine blk_alloc ?_ _)); exact BK862.out) hb); replace HB := Zh (Zl Zs hb); (try clear hb); (try clear hb2); (try clear hk); (try clear hi)))
     go_ret
     exact ⟨ZE, Zs⟩
    replace c29 := Bool.eq_false_iff.mpr c29
    subst c29
    have H1 : (none) = some r := by rw [if_neg (show ¬ (false = true) by decide)] at H; exact H
    clear H
    have H := H1
    clear H1
    exact absurd H (by simp)
   rw [if_neg c25] at H
   have c25b0 : decide (t857 < 0) = false := decide_eq_false c25
   clear c25
   replace H := Option.bind_eq_some_iff.mp H
   obtain ⟨⟨t864, t867⟩, A420, H⟩ := H
   replace H : ((laws_at.f l0 4).bind fun t868 => (if (wrap64 (t857 + 1)) = 0 then (none) else ((impl_WalCompact.f k1 x851000_1 (Int.tmod t868 (wrap64 (t857 + 1)))).bind fun bt869 => (if bt869.2 = true then (laws_FnCompact.j1 k1 t864 (Int.tmod t868 (wrap64 (t857 + 1))) ((t864.length : Int) != t857) x851000_1 bt869.1) else (none))))) = some r := H
   have A42 := Zh A420
   clear A420
   replace H := Option.bind_eq_some_iff.mp H
   obtain ⟨t868, A430, H⟩ := H
   replace H : (if (wrap64 (t857 + 1)) = 0 then (none) else ((impl_WalCompact.f k1 x851000_1 (Int.tmod t868 (wrap64 (t857 + 1)))).bind fun bt869 => (if bt869.2 = true then (laws_FnCompact.j1 k1 t864 (Int.tmod t868 (wrap64 (t857 + 1))) ((t864.length : Int) != t857) x851000_1 bt869.1) else (none)))) = some r := H
   have A43 := Zh A430
   clear A430
   by_cases c44 : (wrap64 (t857 + 1)) = 0
   ·
    rw [if_pos c44] at H
    exact absurd H (by simp)
   rw [if_neg c44] at H
   have c44b0 : ((wrap64 (t857 + 1)) == 0) = false := beq_eq_false_iff_ne.mpr c44
   have c44b1 : ((wrap64 (t857 + 1)) != 0) = true := bne_iff_ne.mpr c44
   replace H := Option.bind_eq_some_iff.mp H
   obtain ⟨⟨t869, t872⟩, A450, H⟩ := H
   replace H : (if t872 = true then (laws_FnCompact.j1 k1 t864 (Int.tmod t868 (wrap64 (t857 + 1))) ((t864.length : Int) != t857) x851000_1 t869) else (none)) = some r := H
   have A45 := Zh A450
   clear A450
   have HC46 := Zh H
   clear H
   obtain ⟨Ao47, co47, eo47⟩ := S_slice HO_4.out
   subst eo47
   have hcz48_0 : wr.cell? ⟨gb850, 0, none⟩ = some (u851000) := (blk_cell BK850.out 0).trans rfl
   have hfz48_0 := Zn BK850.out 0
   obtain ⟨Ao49, co49, eo49⟩ := S_slice HO_851000.out
   subst eo49
   go_upto_region 18 with (first | ((with_reducible refine gate_callee (f := 19) rfl ?_); refine ZG (some 52) Tryd.func19 #[.agg #[.slice Ao49 x851000_1.length co49]] rfl ?_; (with_reducible refine (impl_WalCount.calls k1 _ _ x851000_1 t857 _ ?side1 ?side2 A24.out).mono ?_); (case side1 => repeat (first | exact (S_reads' HO_851000.out).2.2 | (with_reducible refine C_alloc ?_ _) | (with_reducible refine C_drewN ?_ _) | (with_reducible refine C_drew ?_))); (case side2 => exact (S_reads' HO_851000.out).2.1); rintro e w50 ⟨rfl, hb⟩; refine ⟨_, rfl, ?_⟩; replace HO_4 := Zh (S_below (ZS HO_4.out) hb); replace HO_851000 := Zh (S_below (ZS HO_851000.out) hb); replace BK850 := Zh (Zm (g := gb850) (o := .cells #[.slice Ao49 x851000_1.length co49] 28 (0, 0)) Zk hb); replace HB := Zh (Zl Zs hb); (try clear hb); (try clear hb2); (try clear hk); (try clear hi); have hcz51_0 : w50.cell? ⟨gb850, 0, none⟩ = some (.slice Ao49 x851000_1.length co49) := (blk_cell BK850.out 0).trans rfl; have hfz51_0 := Zn BK850.out 0) | ((with_reducible refine gate_callee (f := 21) rfl ?_); refine ZG (some 74) Tryd.func21 #[.agg #[.slice Ao49 x851000_1.length co49]] rfl ?_; (with_reducible refine (impl_WalRead.calls k1 _ _ x851000_1 t864 t867 _ ?side1 ?side2 A42.out).mono ?_); (case side1 => repeat (first | exact (S_reads' HO_851000.out).2.2 | (with_reducible refine C_alloc ?_ _) | (with_reducible refine C_drewN ?_ _) | (with_reducible refine C_drew ?_))); (case side2 => exact (S_reads' HO_851000.out).2.1); rintro e w52 ⟨v865, rfl, ho0, hb⟩; refine ⟨_, rfl, ?_⟩; replace HO_851000 := Zh (S_below (ZS HO_851000.out) hb); have HO866 := Zh (S_lower (S_new' ho0 (S_lt (ZS HO_4.out))) (below_size Zs)); replace HO_4 := Zh (S_elder' (ZS HO_4.out) (S_base ho0) hb); replace BK850 := Zh (Zm (g := gb850) (o := .cells #[.slice Ao49 x851000_1.length co49] 28 (0, 0)) Zk hb); replace HB := Zh (Zl Zs hb); (try clear hb); (try clear hb2); (try clear hk); (try clear hi); (try clear ho0)) | ((with_reducible refine gate_callee (f := 40) rfl ?_); refine ZG (some 78) Tryd.func40 #[.slice A0 l0.length c0, .int .i64 4] rfl ?_; (with_reducible refine (laws_at.calls _ _ l0 4 t868 _ ?side1 ?side2 A43.out).mono ?_); (case side1 => repeat (first | exact (C_below HR0.out HB.out) | (with_reducible refine C_alloc ?_ _) | (with_reducible refine C_drewN ?_ _) | (with_reducible refine C_drew ?_))); (case side2 => exact HC0.out); rintro e w' ⟨rfl, ⟨nd, rfl⟩⟩; refine ⟨_, rfl, ?_⟩; (try (rw [drewN_self w52]; generalize hq_ : World.drewN w52 _ = w52; have n0_ : Aside0 (Kd.S (Kd.slice 5 (Kd.int .u8)) 41 w52 w.heap.size (fun k_ => some k_ ≠ (.slice Ao47 t846.length co47 : Value).ownBlock) v865 t864) := ⟨by rw [← hq_]; exact (ZS (S_mono HO866.out (fun _ hk => hk.2)))⟩; have n1_ : Aside0 (Kd.S (Kd.slice 5 (Kd.int .u8)) 41 w52 w.heap.size (fun k_ => some k_ ≠ (v865 : Value).ownBlock) (.slice Ao47 t846.length co47) t846) := ⟨by rw [← hq_]; exact (ZS (S_mono HO_4.out (fun _ hk => hk.2)))⟩; have n2_ : Aside0 (Kd.S k55 55 w52 w.heap.size (fun _ => True) (.slice Ao49 x851000_1.length co49) x851000_1) := ⟨by rw [← hq_]; exact (ZS HO_851000.out)⟩; have n3_ : Aside0 (w52.heap[gb850]? = some (.cells #[.slice Ao49 x851000_1.length co49] 28 (0, 0))) := ⟨by rw [← hq_]; exact Zk⟩; have n4_ : Aside0 (Below w.heap.size w w52) := ⟨by rw [← hq_]; exact Zs⟩; clear HO866 HO_4 HO_851000 BK850 HB hq_; have HO866 := n0_; have HO_4 := n1_; have HO_851000 := n2_; have BK850 := n3_; have HB := n4_; clear n0_ n1_ n2_ n3_ n4_)); have hcz53_0 : w52.cell? ⟨gb850, 0, none⟩ = some (.slice Ao49 x851000_1.length co49) := (blk_cell BK850.out 0).trans rfl; have hfz53_0 := Zn BK850.out 0) | ((with_reducible refine gate_callee (f := 33) rfl ?_); refine ZG (some 85) Tryd.func33 #[.agg #[.slice Ao49 x851000_1.length co49], .int .i64 (Int.tmod t868 (wrap64 (t857 + 1)))] rfl ?_; (with_reducible refine (impl_WalCompact.calls k1 _ _ x851000_1 (Int.tmod t868 (wrap64 (t857 + 1))) t869 t872 _ ?side1 ?side2 A45.out).mono ?_); (case side1 => repeat (first | exact (S_reads' HO_851000.out).2.2 | (with_reducible refine C_alloc ?_ _) | (with_reducible refine C_drewN ?_ _) | (with_reducible refine C_drew ?_))); (case side2 => exact (S_reads' HO_851000.out).2.1); rintro e w54 ⟨v870, rfl, ho0, hb⟩; refine ⟨_, rfl, ?_⟩; replace HO_4 := Zh (S_below (ZS HO_4.out) hb); replace HO866 := Zh (S_below (ZS HO866.out) hb); have HO871 := Zh (S_lower (S_new' ho0 (S_lt (ZS HO_851000.out))) (below_size Zs)); replace HO_851000 := Zh (S_elder' (ZS HO_851000.out) (S_base ho0) hb); replace BK850 := Zh (Zm (g := gb850) (o := .cells #[.slice Ao49 x851000_1.length co49] 28 (0, 0)) Zk hb); replace HB := Zh (Zl Zs hb); (try clear hb); (try clear hb2); (try clear hk); (try clear hi); (try clear ho0)) | ((with_reducible refine gate_dst (N := 15) rfl ?_); (try (refine gate_guard (by rfl) ?_; dsimp only)); refine box_event ?hg (N := 15) ?hd (cs := #[.slice none 0 0]) (t := 28) ?hr ?_; (case hd => rfl); (case hg => rfl); (case hr => first | (go_simp; done) | (go_simp; rfl)); intro gb873 hg w55 hbox hb; replace HO_4 := Zh (S_below (ZS HO_4.out) hb); replace HO_851000 := Zh (S_below (ZS HO_851000.out) hb); replace HO866 := Zh (S_below (ZS HO866.out) hb); replace HO871 := Zh (S_below (ZS HO871.out) hb); have BK873 := Zh (hbox); have GW873 := Zh ((by rw [hg]; exact (below_size Zs) : w.heap.size ≤ gb873)); have GE873 := Zh ((by rw [hg]; exact (below_size Zs) : w.heap.size ≤ gb873)); replace HB := Zh (Zl Zs hb); have NB850_873 := Zh ((by rw [hg]; exact Nat.ne_of_lt (blk_lt (g := gb850) (o := .cells #[.slice Ao49 x851000_1.length co49] 28 (0, 0)) Zk) : gb850 ≠ gb873)); have NB873_850 := Zh ((by rw [hg]; exact Nat.ne_of_gt (blk_lt (g := gb850) (o := .cells #[.slice Ao49 x851000_1.length co49] 28 (0, 0)) Zk) : gb873 ≠ gb850)); replace BK850 := Zh (Zm (g := gb850) (o := .cells #[.slice Ao49 x851000_1.length co49] 28 (0, 0)) Zk hb); clear hb hbox hg; obtain ⟨Ao56, co56, eo56⟩ := S_slice HO871.out; subst eo56; have hnb57 := NB873_850.out; have hnc57 := NB850_873.out; have hcz58_0 : w55.cell? ⟨gb873, 0, none⟩ = some (.slice none 0 0) := (blk_cell BK873.out 0).trans rfl; have hfz58_0 := Zn BK873.out 0))
   (try simp only [Act.put, List.setIfInBounds_toArray, List.set_cons_zero, List.set_cons_succ])
   go_cut [95] (fun v95 wc => ∃ (kq : Nat) (x95_45 : Bool), v95 = .bool x95_45 ∧ Aside0 (laws_FnCompact.j1 kq t864 (Int.tmod t868 (wrap64 (t857 + 1))) x95_45 x851000_1 t869 = some r) ∧ Aside0 (kq ≤ k1) ∧ Aside0 (Kd.S (Kd.slice 5 (Kd.int .u8)) 41 wc w.heap.size (fun _ => True) v865 t864) ∧ Aside0 (Kd.S k55 55 wc w.heap.size (fun k_ => some k_ ≠ ((.slice Ao56 t869.length co56) : Value).ownBlock) (.slice Ao49 x851000_1.length co49) x851000_1) ∧ Aside0 (Kd.S k55 55 wc w.heap.size (fun k_ => some k_ ≠ ((.slice Ao49 x851000_1.length co49) : Value).ownBlock) (.slice Ao56 t869.length co56) t869) ∧ Aside0 (wc.heap[gb850]? = some (.cells #[(.slice Ao49 x851000_1.length co49)] 28 (0, 0))) ∧ Aside0 (wc.heap[gb873]? = some (.cells #[(.slice Ao56 t869.length co56)] 28 (0, 0))) ∧ Aside0 (Below w.heap.size w wc))
   case first =>
    have H := HC46.out
    clear HC46
    by_cases c59 : t872 = true
    ·
     subst c59
     have H1 : (laws_FnCompact.j1 k1 t864 (Int.tmod t868 (wrap64 (t857 + 1))) ((t864.length : Int) != t857) x851000_1 t869) = some r := by rw [if_pos rfl] at H; exact H
     clear H
     have H := H1
     clear H1
     have H' := Zh H
     clear H
     obtain ⟨Ao60, co60, eo60⟩ := S_slice HO866.out
     subst eo60
     go_wp2
     go_meet
     case rel => exact ⟨_, (((t864.length : Int) != t857)), (by first | rfl | (simp; done) | (simp [*]; done)), H', ⟨by have := HK1.out; first | omega | exact Nat.le_refl _⟩, ⟨ZS (S_mono (S_far (p := ⟨gb873, 0, none⟩) (S_types HO866.out BK873.out (by decide)) (fun _ hk => hk.2) (.slice Ao56 t869.length co56)) (fun _ hk => trivial))⟩, ⟨ZS (S_mono (S_far (p := ⟨gb873, 0, none⟩) (S_types HO_851000.out BK873.out (by decide)) (fun _ hk => hk.2) (.slice Ao56 t869.length co56)) (fun _ hk => hk.1.2))⟩, ⟨ZS (S_mono (S_far (p := ⟨gb873, 0, none⟩) (S_types HO871.out BK873.out (by decide)) (fun _ hk => hk.2) (.slice Ao56 t869.length co56)) (fun _ hk => hk.1.2))⟩, ⟨by (with_reducible repeat (first | refine Za ?_ _ | refine Zb ?_ | refine blk_alloc ?_ _)); refine blk_far ?_ NB850_873.out _; (with_reducible repeat (first | refine Za ?_ _ | refine Zb ?_ | refine blk_alloc ?_ _)); exact BK850.out⟩, ⟨by (with_reducible repeat (first | refine Za ?_ _ | refine Zb ?_ | refine blk_alloc ?_ _)); refine blk_put (cs := #[.slice none 0 0]) ?_ 0 _ rfl; (with_reducible repeat (first | refine Za ?_ _ | refine Zb ?_ | refine blk_alloc ?_ _)); exact BK873.out⟩, ⟨Zs⟩⟩
    replace c59 := Bool.eq_false_iff.mpr c59
    subst c59
    have H1 : (none) = some r := by rw [if_neg (show ¬ (false = true) by decide)] at H; exact H
    clear H
    have H := H1
    clear H1
    exact absurd H (by simp)
   case rest =>
    clear HC46
    try clear c1
    try clear c2
    try clear p2
    try clear c3
    try clear c4
    try clear c5
    try clear p6
    try clear c8
    try clear p8
    try clear q8
    try clear hx8
    try clear c9
    try clear c9b0
    try clear c10
    try clear c10b0
    try clear c12
    try clear c19
    try clear c21
    try clear c25
    try clear c25b0
    try clear c27
    try clear c29
    try clear c33
    try clear c34
    try clear c35
    try clear c38
    try clear c40
    try clear c44
    try clear c44b0
    try clear c44b1
    try clear c57
    try clear c59
    try clear hcz22_0
    try clear hcz23_0
    try clear hcz31_0
    try clear hcz34_0
    try clear hcz39_0
    try clear hcz40_0
    try clear hcz48_0
    try clear hcz51_0
    try clear hcz53_0
    try clear hcz58_0
    try clear hcz8_0
    try clear hfz22_0
    try clear hfz23_0
    try clear hfz31_0
    try clear hfz34_0
    try clear hfz39_0
    try clear hfz40_0
    try clear hfz48_0
    try clear hfz51_0
    try clear hfz53_0
    try clear hfz58_0
    try clear hfz8_0
    try clear hx851_0
    try clear p2
    try clear p851
    try clear q851
    obtain ⟨kq, x95_45, rfl, HA, HJ45, HO_12, HO_851000, HO_874000, BK850, BK873, HB⟩ := hcut
    cases kq with
    | zero => exact absurd HA.out (by simp [laws_FnCompact.j1])
    | succ kj45 =>
     have H := HA.out
     clear HA
     simp only [laws_FnCompact.j1] at H
     by_cases c61 : x95_45 = true
     ·
      subst c61
      have H1 : (none) = some r := by rw [if_pos rfl] at H; exact H
      clear H
      have H := H1
      clear H1
      exact absurd H (by simp)
     replace c61 := Bool.eq_false_iff.mpr c61
     subst c61
     have H1 : ((impl_Crash.f kj45 t869 ([] : List Int) ([] : List Int)).bind fun t874 => ((impl_WalRead.f kj45 t874).bind fun bt877 => (if bt877.2 = 0 then (if 0 ≤ (Int.tmod t868 (wrap64 (t857 + 1))) then (if (Int.tmod t868 (wrap64 (t857 + 1))) ≤ (t864.length : Int) then ((laws_samePayloads.f kj45 bt877.1 (t864.drop ((Int.tmod t868 (wrap64 (t857 + 1))) : Int).toNat)).bind fun t885 => (laws_FnCompact.j2 kj45 (!t885) x851000_1 t869)) else (none)) else (none)) else (none)))) = some r := by rw [if_neg (show ¬ (false = true) by decide)] at H; exact H
     clear H
     have H := H1
     clear H1
     replace H := Option.bind_eq_some_iff.mp H
     obtain ⟨t874, A620, H⟩ := H
     replace H : ((impl_WalRead.f kj45 t874).bind fun bt877 => (if bt877.2 = 0 then (if 0 ≤ (Int.tmod t868 (wrap64 (t857 + 1))) then (if (Int.tmod t868 (wrap64 (t857 + 1))) ≤ (t864.length : Int) then ((laws_samePayloads.f kj45 bt877.1 (t864.drop ((Int.tmod t868 (wrap64 (t857 + 1))) : Int).toNat)).bind fun t885 => (laws_FnCompact.j2 kj45 (!t885) x851000_1 t869)) else (none)) else (none)) else (none))) = some r := H
     have A62 := Zh A620
     clear A620
     replace H := Option.bind_eq_some_iff.mp H
     obtain ⟨⟨t877, t880⟩, A630, H⟩ := H
     replace H : (if t880 = 0 then (if 0 ≤ (Int.tmod t868 (wrap64 (t857 + 1))) then (if (Int.tmod t868 (wrap64 (t857 + 1))) ≤ (t864.length : Int) then ((laws_samePayloads.f kj45 t877 (t864.drop ((Int.tmod t868 (wrap64 (t857 + 1))) : Int).toNat)).bind fun t885 => (laws_FnCompact.j2 kj45 (!t885) x851000_1 t869)) else (none)) else (none)) else (none)) = some r := H
     have A63 := Zh A630
     clear A630
     have HC64 := Zh H
     clear H
     have hnb65 := NB873_850.out
     have hnc65 := NB850_873.out
     have hcz66_0 : wc.cell? ⟨gb873, 0, none⟩ = some (.slice Ao56 t869.length co56) := (blk_cell BK873.out 0).trans rfl
     have hfz66_0 := Zn BK873.out 0
     go_upto_region 21 with (first | ((with_reducible refine gate_callee (f := 37) rfl ?_); refine ZG (some 98) Tryd.func37 #[.agg #[.slice Ao56 t869.length co56], .slice none 0 0, .slice none 0 0] rfl ?_; (refine (impl_Crash.calls kj45 _ _ t869 _ _ ([] : List Int) _ _ ([] : List Int) t874 _ ?side1 ?side2 ?side3 ?side4 ?side5 ?side6 A62.out).mono ?_); (case side1 => repeat (first | exact (S_reads' HO_874000.out).2.2 | (with_reducible refine C_alloc ?_ _) | (with_reducible refine C_drewN ?_ _) | (with_reducible refine C_drew ?_))); (case side2 => exact (S_reads' HO_874000.out).2.1); (case side3 => exact C_nil _ _); (case side4 => exact Nat.le_refl _); (case side5 => exact C_nil _ _); (case side6 => exact Nat.le_refl _); rintro e w67 ⟨v875, rfl, ho0, hb⟩; refine ⟨_, rfl, ?_⟩; replace HO_12 := Zh (S_below (ZS HO_12.out) hb); have HO876 := Zh (S_lower (S_new' (S_new' ho0 (S_lt (ZS HO_851000.out))) (S_lt (ZS HO_874000.out))) (below_size Zs)); replace HO_851000 := Zh (S_elder' (ZS HO_851000.out) (S_base ho0) hb); replace HO_874000 := Zh (S_elder' (ZS HO_874000.out) (S_base ho0) hb); replace BK850 := Zh (Zm (g := gb850) (o := .cells #[.slice Ao49 x851000_1.length co49] 28 (0, 0)) Zk hb); replace BK873 := Zh (Zm (g := gb873) (o := .cells #[.slice Ao56 t869.length co56] 28 (0, 0)) Zk hb); replace HB := Zh (Zl Zs hb); (try clear hb); (try clear hb2); (try clear hk); (try clear hi); (try clear ho0); obtain ⟨Ao68, co68, eo68⟩ := S_slice HO876.out; subst eo68) | ((with_reducible refine gate_callee (f := 21) rfl ?_); refine ZG (some 99) Tryd.func21 #[.agg #[.slice Ao68 t874.length co68]] rfl ?_; (with_reducible refine (impl_WalRead.calls kj45 _ _ t874 t877 t880 _ ?side1 ?side2 A63.out).mono ?_); (case side1 => repeat (first | exact (S_reads' HO876.out).2.2 | (with_reducible refine C_alloc ?_ _) | (with_reducible refine C_drewN ?_ _) | (with_reducible refine C_drew ?_))); (case side2 => exact (S_reads' HO876.out).2.1); rintro e w69 ⟨v878, rfl, ho0, hb⟩; refine ⟨_, rfl, ?_⟩; replace HO_851000 := Zh (S_below (ZS HO_851000.out) hb); replace HO_874000 := Zh (S_below (ZS HO_874000.out) hb); replace HO876 := Zh (S_below (ZS HO876.out) hb); have HO879 := Zh (S_lower (S_new' ho0 (S_lt (ZS HO_12.out))) (below_size Zs)); replace HO_12 := Zh (S_elder' (ZS HO_12.out) (S_base ho0) hb); replace BK850 := Zh (Zm (g := gb850) (o := .cells #[.slice Ao49 x851000_1.length co49] 28 (0, 0)) Zk hb); replace BK873 := Zh (Zm (g := gb873) (o := .cells #[.slice Ao56 t869.length co56] 28 (0, 0)) Zk hb); replace HB := Zh (Zl Zs hb); (try clear hb); (try clear hb2); (try clear hk); (try clear hi); (try clear ho0)))
     (try simp only [Act.put, List.setIfInBounds_toArray, List.set_cons_zero, List.set_cons_succ])
     go_cut [111] (fun v111 wc => ∃ (kq : Nat) (x111_63 : Bool), v111 = .bool x111_63 ∧ Aside0 (laws_FnCompact.j2 kq x111_63 x851000_1 t869 = some r) ∧ Aside0 (kq ≤ kj45) ∧ Aside0 (Kd.S k55 55 wc w.heap.size (fun k_ => some k_ ≠ ((.slice Ao56 t869.length co56) : Value).ownBlock) (.slice Ao49 x851000_1.length co49) x851000_1) ∧ Aside0 (Kd.S k55 55 wc w.heap.size (fun k_ => some k_ ≠ ((.slice Ao49 x851000_1.length co49) : Value).ownBlock) (.slice Ao56 t869.length co56) t869) ∧ Aside0 (wc.heap[gb850]? = some (.cells #[(.slice Ao49 x851000_1.length co49)] 28 (0, 0))) ∧ Aside0 (wc.heap[gb873]? = some (.cells #[(.slice Ao56 t869.length co56)] 28 (0, 0))) ∧ Aside0 (Below w.heap.size w wc))
     case first =>
      have H := HC64.out
      clear HC64
      by_cases c70 : t880 = 0
      ·
       rw [if_pos c70] at H
       have c70b0 : (t880 == 0) = true := beq_iff_eq.mpr c70
       have c70b1 : (t880 != 0) = false := bne_eq_false_iff_eq.mpr c70
       clear c70
       (first | rw [c70b0] | (simp only [i64_w, i32_w]; rw [c70b0]) | skip)
       obtain ⟨ji71, hji71⟩ : ∃ j_ : Int, (Int.tmod t868 (wrap64 (t857 + 1))) = j_ := ⟨_, rfl⟩
       replace H : (if 0 ≤ (ji71) then (if (ji71) ≤ (t864.length : Int) then ((laws_samePayloads.f kj45 t877 (t864.drop ((ji71) : Int).toNat)).bind fun t885 => (laws_FnCompact.j2 kj45 (!t885) x851000_1 t869)) else (none)) else (none)) = some r := by first | (rw [hji71] at H; exact H) | (simp only [hji71] at H ⊢; exact H)
       by_cases c72 : 0 ≤ (ji71)
       ·
        rw [if_pos c72] at H
        have c72b0 := eq_true c72
        have c72b1 : decide (0 ≤ (ji71)) = true := decide_eq_true c72
        clear c72
        by_cases c73 : (ji71) ≤ (t864.length : Int)
        ·
         rw [if_pos c73] at H
         have c73b0 := eq_true c73
         have c73b1 : decide ((ji71) ≤ (t864.length : Int)) = true := decide_eq_true c73
         clear c73
         obtain ⟨y881, hy881⟩ : ∃ y_ : List (List Int), y_ = (t864.drop ((ji71) : Int).toNat) := ⟨_, rfl⟩
         replace H : ((laws_samePayloads.f kj45 t877 y881).bind fun t885 => (laws_FnCompact.j2 kj45 (!t885) x851000_1 t869)) = some r := by first | (rw [hy881]; with_reducible exact H) | (have H2_ := (Option.bind_some _ _).symm.trans H; rw [hy881]; with_reducible exact H2_) | (have H2_ := (Option.bind_some _ _).symm.trans H; with_reducible exact H2_) | with_reducible exact H | (rw [hy881]; exact H) | exact H
         have Ny881 := Zh hy881
         clear hy881
         replace H := Option.bind_eq_some_iff.mp H
         obtain ⟨t885, A740, H⟩ := H
         replace H : (laws_FnCompact.j2 kj45 (!t885) x851000_1 t869) = some r := H
         have A74 := Zh A740
         clear A740
         have H' := Zh H
         clear H
         obtain ⟨Ao76, co76, eo76⟩ := S_slice HO_12.out
         subst eo76
         have q75 : ((ji71) : Int) ≤ ((t864.length : Int) : Int) := Zo
         obtain ⟨i075, hi075, _, hsz75, _⟩ := info_parts info41
         have hroom75 : t864.length ≤ co76 := (S_reads' HO_12.out).2.1
         have hC75 : Kd.C (Kd.slice 5 (Kd.int .u8)) _ Ao76 t864.length t864 := (S_reads' HO_12.out).2.2
         have q075 : (0 : Int) ≤ ((ji71) : Int) := Zo
         have hcut75 := cut_from (P := Tryd.prog) 36 41 .i64 Tryd.underlying36 hi075 1 hsz75 Ao76 t864.length co76 (ji71) q075 q75
         have hr75 := C_drop (m := ((ji71) : Int).toNat) (c := co76) hC75 (by omega) hroom75
         obtain ⟨A75, hA75⟩ : ∃ A1, A1 = (if co76 = ((ji71) : Int).toNat then Ao76 else (Ao76 : Option Addr).map (·.add (((ji71) : Int).toNat * 1))) := ⟨_, rfl⟩
         obtain ⟨c75, hc75⟩ : ∃ c1, c1 = co76 - ((ji71) : Int).toNat := ⟨_, rfl⟩
         have hy75 : y881.length = t864.length - ((ji71) : Int).toNat := (by rw [Ny881.out, List.length_drop] <;> omega)
         rw [show (t864).drop ((ji71) : Int).toNat = y881 from Ny881.out.symm] at hr75
         replace hr75 : Kd.C (Kd.slice 5 (Kd.int .u8)) _ A75 y881.length y881 := (by rw [hA75]; exact hr75)
         rw [← hy75, ← hA75, ← hc75] at hcut75
         have HR884 := Zh hr75
         have HC884 := Zh (show y881.length ≤ c75 from by rw [hy75, hc75]; exact Nat.sub_le_sub_right hroom75 _)
         clear hr75 hC75 hroom75 hi075 hsz75 hc75
         have KY75 := Zh hy75
         have KA75 := Zh hA75
         clear hy75 hA75
         have KL75 := Zh (show ((ji71) : Int).toNat ≤ t864.length from by omega)
         replace q75 := eq_true q75
         obtain ⟨Ao77, co77, eo77⟩ := S_slice HO879.out
         subst eo77
         go_wp2_with (first | (go_at_call 36; (with_reducible refine (laws_samePayloads.calls kj45 _ _ t877 _ _ y881 t885 _ ?side1 ?side2 ?side3 ?side4 A74.out).mono ?_); (case side1 => repeat (first | exact (S_reads' HO879.out).2.2 | (with_reducible refine C_alloc ?_ _) | (with_reducible refine C_drewN ?_ _) | (with_reducible refine C_drew ?_))); (case side2 => exact (S_reads' HO879.out).2.1); (case side3 => repeat (first | exact (by repeat (first | (with_reducible exact HR884.out) | (with_reducible refine C_alloc ?_ _) | (with_reducible refine C_drewN ?_ _) | (with_reducible refine C_drew ?_) | exact HR884.out)) | (with_reducible refine C_alloc ?_ _) | (with_reducible refine C_drewN ?_ _) | (with_reducible refine C_drew ?_))); (case side4 => exact HC884.out); rintro e w' ⟨rfl, ⟨nd, rfl⟩⟩))
         subst hji71
         go_meet
         case rel => exact ⟨_, (!t885), (by first | rfl | (simp; done) | (simp [*]; done)), H', ⟨by have := HK1.out; have := HJ45.out; first | omega | exact Nat.le_refl _⟩, ⟨ZS (S_mono HO_851000.out (fun _ hk => hk.1))⟩, ⟨ZS (S_mono HO_874000.out (fun _ hk => hk.1))⟩, ⟨Zk⟩, ⟨Zk⟩, ⟨Zs⟩⟩
        rw [if_neg c73] at H
        exact absurd H (by simp)
       rw [if_neg c72] at H
       exact absurd H (by simp)
      rw [if_neg c70] at H
      exact absurd H (by simp)
     case rest =>
      clear HC64
      try clear c1
      try clear c2
      try clear p2
      try clear c3
      try clear c4
      try clear c5
      try clear c6
      try clear p6
      try clear c7
      try clear q7
      try clear c8
      try clear p8
      try clear q8
      try clear hx8
      try clear c9
      try clear c9b0
      try clear c10
      try clear c10b0
      try clear c12
      try clear c19
      try clear c21
      try clear c25
      try clear c25b0
      try clear c27
      try clear c29
      try clear c33
      try clear c34
      try clear c35
      try clear c37
      try clear c38
      try clear c40
      try clear c44
      try clear c44b0
      try clear c44b1
      try clear c57
      try clear c59
      try clear c61
      try clear p64
      try clear c65
      try clear c70
      try clear c70b0
      try clear c70b1
      try clear c72
      try clear c72b0
      try clear c72b1
      try clear c73
      try clear c73b0
      try clear c73b1
      try clear c75
      try clear q75
      try clear hcz22_0
      try clear hcz23_0
      try clear hcz31_0
      try clear hcz34_0
      try clear hcz39_0
      try clear hcz40_0
      try clear hcz48_0
      try clear hcz51_0
      try clear hcz53_0
      try clear hcz58_0
      try clear hcz66_0
      try clear hcz8_0
      try clear hfz22_0
      try clear hfz23_0
      try clear hfz31_0
      try clear hfz34_0
      try clear hfz39_0
      try clear hfz40_0
      try clear hfz48_0
      try clear hfz51_0
      try clear hfz53_0
      try clear hfz58_0
      try clear hfz66_0
      try clear hfz8_0
      try clear hx851_0
      try clear p2
      try clear p6
      try clear p8
      try clear p851
      try clear q075
      try clear q75
      try clear q8
      try clear q851
      obtain ⟨kq, x111_63, rfl, HA, HJ63, HO_851000, HO_874000, BK850, BK873, HB⟩ := hcut
      cases kq with
      | zero => exact absurd HA.out (by simp [laws_FnCompact.j2])
      | succ kj63 =>
       have H := HA.out
       clear HA
       simp only [laws_FnCompact.j2] at H
       by_cases c78 : x111_63 = true
       ·
        subst c78
        have H1 : (none) = some r := by rw [if_pos rfl] at H; exact H
        clear H
        have H := H1
        clear H1
        exact absurd H (by simp)
       replace c78 := Bool.eq_false_iff.mpr c78
       subst c78
       have H1 : (laws_FnCompact.l1 kj63 0 x851000_1 t869) = some r := by rw [if_neg (show ¬ (false = true) by decide)] at H; exact H
       clear H
       have H := H1
       clear H1
       have H' := Zh H
       clear H
       go_wp2
       go_loopg [19] kj63 (fun kq v19 w' => ∃ (x19_4 : Int), v19 = .int .i64 x19_4 ∧ Aside0 (laws_FnCompact.l1 kq x19_4 x851000_1 t869 = some r) ∧ Aside0 (kq ≤ kj63) ∧ Aside0 (Kd.S k55 55 w' w.heap.size (fun k_ => some k_ ≠ ((.slice Ao56 t869.length co56) : Value).ownBlock) (.slice Ao49 x851000_1.length co49) x851000_1) ∧ Aside0 (Kd.S k55 55 w' w.heap.size (fun k_ => some k_ ≠ ((.slice Ao49 x851000_1.length co49) : Value).ownBlock) (.slice Ao56 t869.length co56) t869) ∧ Aside0 (w'.heap[gb850]? = some (.cells #[(.slice Ao49 x851000_1.length co49)] 28 (0, 0))) ∧ Aside0 (w'.heap[gb873]? = some (.cells #[(.slice Ao56 t869.length co56)] 28 (0, 0))) ∧ Aside0 (Below w.heap.size w w'))
       case atStart => exact ⟨(0), (by first | rfl | (simp; done) | (simp [*]; done)), H', ⟨Nat.le_refl _⟩, ⟨ZS HO_851000.out⟩, ⟨ZS HO_874000.out⟩, ⟨Zk⟩, ⟨Zk⟩, ⟨Zs⟩⟩
       case round =>
        clear H'
        try clear c1
        try clear c2
        try clear p2
        try clear c3
        try clear c4
        try clear c5
        try clear c6
        try clear p6
        try clear c7
        try clear q7
        try clear c8
        try clear p8
        try clear q8
        try clear hx8
        try clear c9
        try clear c9b0
        try clear c10
        try clear c10b0
        try clear c12
        try clear c19
        try clear c21
        try clear c25
        try clear c25b0
        try clear c27
        try clear c29
        try clear c33
        try clear c34
        try clear c35
        try clear c37
        try clear c38
        try clear c40
        try clear c44
        try clear c44b0
        try clear c44b1
        try clear c57
        try clear c59
        try clear c61
        try clear p64
        try clear c65
        try clear c70
        try clear c70b0
        try clear c70b1
        try clear c72
        try clear c72b0
        try clear c72b1
        try clear c73
        try clear c73b0
        try clear c73b1
        try clear c75
        try clear q75
        try clear c78
        try clear hcz22_0
        try clear hcz23_0
        try clear hcz31_0
        try clear hcz34_0
        try clear hcz39_0
        try clear hcz40_0
        try clear hcz48_0
        try clear hcz51_0
        try clear hcz53_0
        try clear hcz58_0
        try clear hcz66_0
        try clear hcz8_0
        try clear hfz22_0
        try clear hfz23_0
        try clear hfz31_0
        try clear hfz34_0
        try clear hfz39_0
        try clear hfz40_0
        try clear hfz48_0
        try clear hfz51_0
        try clear hfz53_0
        try clear hfz58_0
        try clear hfz66_0
        try clear hfz8_0
        try clear hx851_0
        try clear p2
        try clear p6
        try clear p64
        try clear p8
        try clear p851
        try clear q075
        try clear q7
        try clear q75
        try clear q8
        try clear q851
        obtain ⟨x19_4, rfl, HA, HK4, HO_851000, HO_874000, BK850, BK873, HB⟩ := hrel
        cases gk with
        | zero => exact absurd HA.out (by simp [laws_FnCompact.l1])
        | succ k4 =>
         have H := HA.out
         clear HA
         simp only [laws_FnCompact.l1] at H
         by_cases c79 : x19_4 < (x851000_1.length : Int)
         ·
          rw [if_pos c79] at H
          have c79b0 : decide (x19_4 < (x851000_1.length : Int)) = true := decide_eq_true c79
          clear c79
          by_cases c80 : 0 ≤ x19_4
          ·
           rw [if_pos c80] at H
           have c80b0 : decide (0 ≤ x19_4) = true := decide_eq_true c80
           clear c80
           have HC81 := Zh H
           clear H
           have hnb82 := NB850_873.out
           have hnc82 := NB873_850.out
           have hcz83_0 : wr.cell? ⟨gb850, 0, none⟩ = some (.slice Ao49 x851000_1.length co49) := (blk_cell BK850.out 0).trans rfl
           have hfz83_0 := Zn BK850.out 0
           have p886 : 0 ≤ (x19_4 : Int) := Zo
           have q886 : x19_4 < (x851000_1.length : Int) := Zo
           obtain ⟨ad886, A886_1, c886_1, A886_2, c886_2, e886, hx886_0, hx886_1, hx886_2, hl886_1, hi886_1, hl886_2, hi886_2⟩ := at_T55 (S_reads' HO_851000.out).2.2 x19_4 p886 q886
           cases e886
           obtain ⟨ce886, hce886, hMe886, hcc886⟩ := S_get HO_851000.out z55 x19_4 p886 (by first | exact q886 | exact Zo | (have e_ := (S_reads' HO_851000.out).1; omega))
           obtain ⟨ve886_1, ve886_2, rfl, ge886_1, ge886_2⟩ := k55_openM hMe886
           have hv886_1 := hcc886 1 _ rfl
           rw [add_field _ _ 1 (by omega)] at hv886_1
           replace hv886_1 := Option.some.inj (hv886_1.symm.trans hx886_1)
           rw [hv886_1] at ge886_1
           have HL886_1 := Zh (show Kd.R (Kd.int .u8) 5 _ _ _ _ ((rd_T55 x851000_1 x19_4).f1) from ge886_1)
           clear hv886_1 ge886_1
           have hv886_2 := hcc886 2 _ rfl
           rw [add_field _ _ 2 (by omega)] at hv886_2
           replace hv886_2 := Option.some.inj (hv886_2.symm.trans hx886_2)
           rw [hv886_2] at ge886_2
           have HL886_2 := Zh (show Kd.R (Kd.int .u8) 5 _ _ _ _ ((rd_T55 x851000_1 x19_4).f2) from ge886_2)
           clear hv886_2 ge886_2
           clear hcc886 hce886
           have HR886_1 := Zh hi886_1
           have HC886_1 := Zh hl886_1
           clear hi886_1 hl886_1
           have HR886_2 := Zh hi886_2
           have HC886_2 := Zh hl886_2
           clear hi886_2 hl886_2
           replace p886 := eq_true p886
           replace q886 := eq_true q886
           go_upto_region 27 with (fail)
           go_cut [130] (fun v130 wc => ∃ (kq : Nat) (x130_80 : Bool), v130 = .bool x130_80 ∧ Aside0 (laws_FnCompact.j4 kq x19_4 ((rd_T55 x851000_1 x19_4).f0) x130_80 x851000_1 t869 = some r) ∧ Aside0 (kq ≤ k4) ∧ Aside0 (Kd.S k55 55 wc w.heap.size (fun k_ => some k_ ≠ ((.slice Ao56 t869.length co56) : Value).ownBlock) (.slice (some ad886) x851000_1.length co49) x851000_1) ∧ Aside0 (Kd.S k55 55 wc w.heap.size (fun k_ => some k_ ≠ ((.slice (some ad886) x851000_1.length co49) : Value).ownBlock) (.slice Ao56 t869.length co56) t869) ∧ Aside0 (wc.heap[gb850]? = some (.cells #[(.slice (some ad886) x851000_1.length co49)] 28 (0, 0))) ∧ Aside0 (wc.heap[gb873]? = some (.cells #[(.slice Ao56 t869.length co56)] 28 (0, 0))) ∧ Aside0 (Kd.C (Kd.int .u8) wc A886_1 ((rd_T55 x851000_1 x19_4).f1).length ((rd_T55 x851000_1 x19_4).f1)) ∧ Aside0 (Kd.C (Kd.int .u8) wc A886_2 ((rd_T55 x851000_1 x19_4).f2).length ((rd_T55 x851000_1 x19_4).f2)) ∧ Aside0 (Below w.heap.size w wc))
           case first =>
            have H := HC81.out
            clear HC81
            by_cases c84 : ((rd_T55 x851000_1 x19_4).f0).toList = ([108, 111, 103] : List UInt8)
            ·
             rw [if_pos c84] at H
             have c84b0 : (((rd_T55 x851000_1 x19_4).f0).toList == ([108, 111, 103] : List UInt8)) = true := beq_iff_eq.mpr c84
             have c84b1 : (((rd_T55 x851000_1 x19_4).f0).toList != ([108, 111, 103] : List UInt8)) = false := bne_eq_false_iff_eq.mpr c84
             clear c84
             (first | rw [c84b0] | (simp only [i64_w, i32_w]; rw [c84b0]) | skip)
             have H' := Zh H
             clear H
             go_wp2
             go_meet
             case rel => exact ⟨_, (true), (by first | rfl | (simp; done) | (simp [*]; done)), H', ⟨by have := HK1.out; have := HJ45.out; have := HJ63.out; have := HK4.out; first | omega | exact Nat.le_refl _⟩, ⟨ZS HO_851000.out⟩, ⟨ZS HO_874000.out⟩, ⟨Zk⟩, ⟨Zk⟩, ⟨by repeat (first | (with_reducible exact HR886_1.out) | (with_reducible refine C_alloc ?_ _) | (with_reducible refine C_drewN ?_ _) | (with_reducible refine C_drew ?_) | exact HR886_1.out)⟩, ⟨by repeat (first | (with_reducible exact HR886_2.out) | (with_reducible refine C_alloc ?_ _) | (with_reducible refine C_drewN ?_ _) | (with_reducible refine C_drew ?_) | exact HR886_2.out)⟩, ⟨Zs⟩⟩
            rw [if_neg c84] at H
            have c84b0 : (((rd_T55 x851000_1 x19_4).f0).toList == ([108, 111, 103] : List UInt8)) = false := beq_eq_false_iff_ne.mpr c84
            have c84b1 : (((rd_T55 x851000_1 x19_4).f0).toList != ([108, 111, 103] : List UInt8)) = true := bne_iff_ne.mpr c84
            (first | rw [c84b0] | (simp only [i64_w, i32_w]; rw [c84b0]) | skip)
            have H' := Zh H
            clear H
            go_wp2
            go_meet
            case rel => exact ⟨_, ((((rd_T55 x851000_1 x19_4).f0).toList == ([110, 101, 119] : List UInt8))), (by first | rfl | (simp; done) | (simp [*]; done)), H', ⟨by have := HK1.out; have := HJ45.out; have := HJ63.out; have := HK4.out; first | omega | exact Nat.le_refl _⟩, ⟨ZS HO_851000.out⟩, ⟨ZS HO_874000.out⟩, ⟨Zk⟩, ⟨Zk⟩, ⟨by repeat (first | (with_reducible exact HR886_1.out) | (with_reducible refine C_alloc ?_ _) | (with_reducible refine C_drewN ?_ _) | (with_reducible refine C_drew ?_) | exact HR886_1.out)⟩, ⟨by repeat (first | (with_reducible exact HR886_2.out) | (with_reducible refine C_alloc ?_ _) | (with_reducible refine C_drewN ?_ _) | (with_reducible refine C_drew ?_) | exact HR886_2.out)⟩, ⟨Zs⟩⟩
           case rest =>
            clear HC81
            try clear c1
            try clear c2
            try clear p2
            try clear c3
            try clear c4
            try clear c5
            try clear c6
            try clear p6
            try clear c7
            try clear q7
            try clear c8
            try clear p8
            try clear q8
            try clear hx8
            try clear c9
            try clear c9b0
            try clear c10
            try clear c10b0
            try clear c12
            try clear c19
            try clear c21
            try clear c25
            try clear c25b0
            try clear c27
            try clear c29
            try clear c33
            try clear c34
            try clear c35
            try clear c37
            try clear c38
            try clear c40
            try clear c44
            try clear c44b0
            try clear c44b1
            try clear c57
            try clear c59
            try clear c61
            try clear p64
            try clear c65
            try clear c70
            try clear c70b0
            try clear c70b1
            try clear c72
            try clear c72b0
            try clear c72b1
            try clear c73
            try clear c73b0
            try clear c73b1
            try clear c75
            try clear q75
            try clear c78
            try clear c79
            try clear c79b0
            try clear c80
            try clear c80b0
            try clear c82
            try clear c84
            try clear c84b0
            try clear c84b1
            try clear hcz22_0
            try clear hcz23_0
            try clear hcz31_0
            try clear hcz34_0
            try clear hcz39_0
            try clear hcz40_0
            try clear hcz48_0
            try clear hcz51_0
            try clear hcz53_0
            try clear hcz58_0
            try clear hcz66_0
            try clear hcz83_0
            try clear hcz8_0
            try clear hfz22_0
            try clear hfz23_0
            try clear hfz31_0
            try clear hfz34_0
            try clear hfz39_0
            try clear hfz40_0
            try clear hfz48_0
            try clear hfz51_0
            try clear hfz53_0
            try clear hfz58_0
            try clear hfz66_0
            try clear hfz83_0
            try clear hfz8_0
            try clear hx851_0
            try clear hx886_0
            try clear hx886_1
            try clear hx886_2
            try clear p2
            try clear p6
            try clear p64
            try clear p8
            try clear p851
            try clear p886
            try clear q075
            try clear q7
            try clear q75
            try clear q8
            try clear q851
            try clear q886
            obtain ⟨kq, x130_80, rfl, HA, HJ80, HO_851000, HO_874000, BK850, BK873, HR886_1, HR886_2, HB⟩ := hcut
            cases kq with
            | zero => exact absurd HA.out (by simp [laws_FnCompact.j4])
            | succ kj80 =>
             have H := HA.out
             clear HA
             simp only [laws_FnCompact.j4] at H
             by_cases c85 : x130_80 = true
             ·
              subst c85
              have H1 : (laws_FnCompact.l1 kj80 (wrap64 (x19_4 + 1)) x851000_1 t869) = some r := by rw [if_pos rfl] at H; exact H
              clear H
              have H := H1
              clear H1
              have H' := Zh H
              clear H
              go_wp2
              go_roundg kj80
              case measure => have := HK1.out; have := HJ45.out; have := HJ63.out; have := HK4.out; have := HJ80.out; omega
              case rel => exact ⟨(wrap64 (x19_4 + 1)), (by first | rfl | (simp; done) | (simp [*]; done)), H', ⟨by have := HK1.out; have := HJ45.out; have := HJ63.out; have := HK4.out; have := HJ80.out; omega⟩, ⟨ZS HO_851000.out⟩, ⟨ZS HO_874000.out⟩, ⟨Zk⟩, ⟨Zk⟩, ⟨Zs⟩⟩
             replace c85 := Bool.eq_false_iff.mpr c85
             subst c85
             have H1 : ((impl_Content.f kj80 x851000_1 ((rd_T55 x851000_1 x19_4).f0)).bind fun bt887 => ((impl_Content.f kj80 t869 ((rd_T55 x851000_1 x19_4).f0)).bind fun bt891 => (if bt891.2 = true then (if (strOfNums bt887.1).toList = (strOfNums bt891.1).toList then (laws_FnCompact.l1 kj80 (wrap64 (x19_4 + 1)) x851000_1 t869) else (none)) else (none)))) = some r := by rw [if_neg (show ¬ (false = true) by decide)] at H; exact H
             clear H
             have H := H1
             clear H1
             replace H := Option.bind_eq_some_iff.mp H
             obtain ⟨⟨t887, t890⟩, A860, H⟩ := H
             replace H : ((impl_Content.f kj80 t869 ((rd_T55 x851000_1 x19_4).f0)).bind fun bt891 => (if bt891.2 = true then (if (strOfNums t887).toList = (strOfNums bt891.1).toList then (laws_FnCompact.l1 kj80 (wrap64 (x19_4 + 1)) x851000_1 t869) else (none)) else (none))) = some r := H
             have A86 := Zh A860
             clear A860
             replace H := Option.bind_eq_some_iff.mp H
             obtain ⟨⟨t891, t894⟩, A870, H⟩ := H
             replace H : (if t894 = true then (if (strOfNums t887).toList = (strOfNums t891).toList then (laws_FnCompact.l1 kj80 (wrap64 (x19_4 + 1)) x851000_1 t869) else (none)) else (none)) = some r := H
             have A87 := Zh A870
             clear A870
             by_cases c88 : t894 = true
             ·
              subst c88
              have H1 : (if (strOfNums t887).toList = (strOfNums t891).toList then (laws_FnCompact.l1 kj80 (wrap64 (x19_4 + 1)) x851000_1 t869) else (none)) = some r := by rw [if_pos rfl] at H; exact H
              clear H
              have H := H1
              clear H1
              by_cases c89 : (strOfNums t887).toList = (strOfNums t891).toList
              ·
               rw [if_pos c89] at H
               have c89b0 : ((strOfNums t887).toList == (strOfNums t891).toList) = true := beq_iff_eq.mpr c89
               have c89b1 : ((strOfNums t887).toList != (strOfNums t891).toList) = false := bne_eq_false_iff_eq.mpr c89
               clear c89
               have H' := Zh H
               clear H
               have hnb90 := NB850_873.out
               have hnc90 := NB873_850.out
               have hcz91_0 : wc.cell? ⟨gb850, 0, none⟩ = some (.slice (some ad886) x851000_1.length co49) := (blk_cell BK850.out 0).trans rfl
               have hfz91_0 := Zn BK850.out 0
               go_wp2_with (first | ((with_reducible refine gate_callee (f := 41) rfl ?_); refine ZG (some 134) Tryd.func41 #[.agg #[.slice (some ad886) x851000_1.length co49], .string ((rd_T55 x851000_1 x19_4).f0)] rfl ?_; (with_reducible refine (impl_Content.calls kj80 _ _ x851000_1 ((rd_T55 x851000_1 x19_4).f0) t887 t890 _ ?side1 ?side2 A86.out).mono ?_); (case side1 => repeat (first | exact (S_reads' HO_851000.out).2.2 | (with_reducible refine C_alloc ?_ _) | (with_reducible refine C_drewN ?_ _) | (with_reducible refine C_drew ?_))); (case side2 => exact (S_reads' HO_851000.out).2.1); rintro e w92 ⟨v888, rfl, ho0, hb⟩; refine ⟨_, rfl, ?_⟩; replace HO_851000 := Zh (S_elder' (ZS HO_851000.out) (R_base ho0) hb); replace HO_874000 := Zh (S_elder' (ZS HO_874000.out) (R_base ho0) hb); have HO889 := Zh (R_lower ho0 (below_size Zs)); replace BK850 := Zh (Zm (g := gb850) (o := .cells #[.slice (some ad886) x851000_1.length co49] 28 (0, 0)) Zk hb); replace BK873 := Zh (Zm (g := gb873) (o := .cells #[.slice Ao56 t869.length co56] 28 (0, 0)) Zk hb); replace HR886_1 := Zh (C_below (by repeat (first | (with_reducible exact HR886_1.out) | (with_reducible refine C_alloc ?_ _) | (with_reducible refine C_drewN ?_ _) | (with_reducible refine C_drew ?_) | exact HR886_1.out)) hb); replace HR886_2 := Zh (C_below (by repeat (first | (with_reducible exact HR886_2.out) | (with_reducible refine C_alloc ?_ _) | (with_reducible refine C_drewN ?_ _) | (with_reducible refine C_drew ?_) | exact HR886_2.out)) hb); replace HB := Zh (Zl Zs hb); (try clear hb); (try clear hb2); (try clear hk); (try clear hi); (try clear ho0); have hcz93_0 : w92.cell? ⟨gb873, 0, none⟩ = some (.slice Ao56 t869.length co56) := (blk_cell BK873.out 0).trans rfl; have hfz93_0 := Zn BK873.out 0) | ((with_reducible refine gate_callee (f := 41) rfl ?_); refine ZG (some 140) Tryd.func41 #[.agg #[.slice Ao56 t869.length co56], .string ((rd_T55 x851000_1 x19_4).f0)] rfl ?_; (with_reducible refine (impl_Content.calls kj80 _ _ t869 ((rd_T55 x851000_1 x19_4).f0) t891 true _ ?side1 ?side2 A87.out).mono ?_); (case side1 => repeat (first | exact (S_reads' HO_874000.out).2.2 | (with_reducible refine C_alloc ?_ _) | (with_reducible refine C_drewN ?_ _) | (with_reducible refine C_drew ?_))); (case side2 => exact (S_reads' HO_874000.out).2.1); rintro e w94 ⟨v892, rfl, ho0, hb⟩; refine ⟨_, rfl, ?_⟩; replace HO_851000 := Zh (S_elder' (ZS HO_851000.out) (R_base ho0) hb); replace HO_874000 := Zh (S_elder' (ZS HO_874000.out) (R_base ho0) hb); have HO893 := Zh (R_lower (R_new' ho0 (R_lt (ZR HO889.out))) (below_size Zs)); replace HO889 := Zh (R_elder' (ZR HO889.out) (R_base ho0) hb); replace BK850 := Zh (Zm (g := gb850) (o := .cells #[.slice (some ad886) x851000_1.length co49] 28 (0, 0)) Zk hb); replace BK873 := Zh (Zm (g := gb873) (o := .cells #[.slice Ao56 t869.length co56] 28 (0, 0)) Zk hb); replace HR886_1 := Zh (C_below (by repeat (first | (with_reducible exact HR886_1.out) | (with_reducible refine C_alloc ?_ _) | (with_reducible refine C_drewN ?_ _) | (with_reducible refine C_drew ?_) | exact HR886_1.out)) hb); replace HR886_2 := Zh (C_below (by repeat (first | (with_reducible exact HR886_2.out) | (with_reducible refine C_alloc ?_ _) | (with_reducible refine C_drewN ?_ _) | (with_reducible refine C_drew ?_) | exact HR886_2.out)) hb); replace HB := Zh (Zl Zs hb); (try clear hb); (try clear hb2); (try clear hk); (try clear hi); (try clear ho0); have hcv95 := own_string (P := Tryd.prog) Tryd.underlying41 Tryd.underlying5 Tryd.underlying9 (Kd.own_of_R HO889.out); have hcv96 := fun (nq_ : Nat) => own_string (P := Tryd.prog) Tryd.underlying41 Tryd.underlying5 Tryd.underlying9 (Kd.own_of_R (R_drewN HO889.out nq_)); have hcv97 := own_string (P := Tryd.prog) Tryd.underlying41 Tryd.underlying5 Tryd.underlying9 (Kd.own_of_R HO893.out); have hcv98 := fun (nq_ : Nat) => own_string (P := Tryd.prog) Tryd.underlying41 Tryd.underlying5 Tryd.underlying9 (Kd.own_of_R (R_drewN HO893.out nq_))))
               go_roundg kj80
               case measure => have := HK1.out; have := HJ45.out; have := HJ63.out; have := HK4.out; have := HJ80.out; omega
               case rel => exact ⟨(wrap64 (x19_4 + 1)), (by first | rfl | (simp; done) | (simp [*]; done)), H', ⟨by have := HK1.out; have := HJ45.out; have := HJ63.out; have := HK4.out; have := HJ80.out; omega⟩, ⟨ZS (S_mono HO_851000.out (fun _ hk => hk.1.1))⟩, ⟨ZS (S_mono HO_874000.out (fun _ hk => hk.1.1))⟩, ⟨Zk⟩, ⟨Zk⟩, ⟨Zs⟩⟩
              rw [if_neg c89] at H
              exact absurd H (by simp)
             replace c88 := Bool.eq_false_iff.mpr c88
             subst c88
             have H1 : (none) = some r := by rw [if_neg (show ¬ (false = true) by decide)] at H; exact H
             clear H
             have H := H1
             clear H1
             exact absurd H (by simp)
          rw [if_neg c80] at H
          exact absurd H (by simp)
         rw [if_neg c79] at H
         have c79b0 : decide (x19_4 < (x851000_1.length : Int)) = false := decide_eq_false c79
         clear c79
         obtain rfl := Option.some.inj H
         have hnb99 := NB850_873.out
         have hnc99 := NB873_850.out
         have hcz100_0 : wr.cell? ⟨gb850, 0, none⟩ = some (.slice Ao49 x851000_1.length co49) := (blk_cell BK850.out 0).trans rfl
         have hfz100_0 := Zn BK850.out 0
         go_wp2
         go_ret
         exact ⟨ZE, Zs⟩
def laws_FnCompact.Pure : Prop := ∀ (l0 : List Int), l0.length ≤ maxLen → l0.length * 1 ≤ 140737488351232 → (∀ x ∈ l0, (Lit.int .u8 x).wf = true) → ∃ k, laws_FnCompact.f k l0 = some true
theorem laws_FnCompact.walk (P : laws_FnCompact.Pure) (a0 : Option Addr) (len0 cap0 : Nat) (z0 : List Int) (w : World) (w0 : (a0 = none ∧ len0 = 0 ∧ cap0 = 0 ∧ z0 = []) ∨ ∃ x, a0 = some x ∧ len0 ≤ cap0 ∧ cap0 ≤ maxLen ∧ z0.length = cap0 ∧ (∀ i, i < z0.length → w.cell? (x.add i) = some (.int .u8 (z0.getD i 0))) ∧ ∀ n ∈ z0, (Lit.int .u8 n).wf = true) (y0 : len0 * 1 ≤ 140737488351232) :
  Calls Tryd.prog 10 #[.slice a0 len0 cap0] w fun e w' => e = .returned (.bool true) ∧ Below w.heap.size w w' := by
 obtain ⟨l0, rfl, hr0, hm0, hw0, hc0⟩ := ReadsInt.ofRowC w0
 obtain ⟨k, h⟩ := P l0 hm0 y0 hw0
 refine (laws_FnCompact.calls k _ _ l0 true w (C_of_reads (d := (0 : Int)) (h1 := fun _ => rfl) hr0) hc0 h).mono ?_
 rintro e w' ⟨rfl, hd⟩
 exact ⟨rfl, hd⟩
end Go.Proofs.YtcgojdhbphocgaaDoor.F

namespace Go.Proofs.YtcgojdhbphocgaaDoor.PK
set_option linter.unusedVariables false
set_option linter.unusedSimpArgs false
open Go.RowKit Go.Proofs.YtcgojdhbphocgaaDoorW.PrintWords
theorem EvS {α : Type} {g : Nat → Option α} {r : α} (h : Ev (fun k => g (k + 1)) r) : Ev g r := by
  obtain ⟨K, h⟩ := h
  refine ⟨K + 1, fun k hk => ?_⟩
  obtain ⟨m, rfl⟩ : ∃ m, k = m + 1 := ⟨k - 1, by omega⟩
  exact h m (by omega)
theorem EvB {α β : Type} {g : Nat → Option α} {f : Nat → α → Option β} {a : α} {r : β} (h : Ev g a) : Ev (fun k => (g k).bind (f k)) r ↔ Ev (fun k => f k a) r := by
  obtain ⟨K, h⟩ := h
  constructor
  · rintro ⟨K', h'⟩
    refine ⟨max K K', fun k hk => ?_⟩
    have h2 : (g k).bind (f k) = some r := h' k (by omega)
    rw [h k (by omega)] at h2
    exact h2
  rintro ⟨K', h'⟩
  refine ⟨max K K', fun k hk => ?_⟩
  show (g k).bind (f k) = some r
  rw [h k (by omega)]
  exact h' k (by omega)
theorem EvN {α : Type} {r : α} : Ev (fun _ => some r) r := ⟨0, fun _ _ => rfl⟩
theorem EvE {α : Type} {g : Nat → Option α} {r : α} (h : Ev g r) : ∃ k, g k = some r := h.rounds
theorem w64 {x : Int} (h : -9223372036854775808 ≤ x) (h' : x ≤ 9223372036854775807) : wrap64 x = x := by
  unfold wrap64
  omega
theorem up {P : Int → Prop} (n : Nat) (base : P n) (step : ∀ i : Nat, i < n → P ((i + 1 : Nat) : Int) → P (i : Int)) : ∀ i : Nat, i ≤ n → P (i : Int) := by
  intro i hi
  obtain ⟨d, hd⟩ : ∃ d, d + i = n := ⟨n - i, by omega⟩
  induction d generalizing i with
  | zero => have : i = n := by omega
            subst this
            exact base
  | succ d ih => exact step i (by omega) (ih (i + 1) (by omega) (by omega))
theorem up0 {P : Int → Prop} (n : Nat) (base : P n) (step : ∀ i : Nat, i < n → P ((i + 1 : Nat) : Int) → P (i : Int)) : P 0 := up n base step 0 (Nat.zero_le _)
theorem getD_nat {α : Type} (l : List α) (z : α) (i : Nat) (h : i < l.length) : l.getD ((i : Int).toNat) z = l[i] := by
  simp [List.getD_eq_getElem?_getD, List.getElem?_eq_getElem h]
theorem drop_at {α : Type} (l : List α) (i : Nat) (h : i < l.length) : l.drop i = l[i] :: l.drop (i + 1) := List.drop_eq_getElem_cons h
end Go.Proofs.YtcgojdhbphocgaaDoor.PK

namespace Go.Proofs.YtcgojdhbphocgaaDoor.DK
set_option linter.unusedVariables false
set_option linter.unusedSimpArgs false
open Go.RowKit Go.Proofs.YtcgojdhbphocgaaDoor.F Go.Proofs.YtcgojdhbphocgaaDoor.PK Go.Proofs.YtcgojdhbphocgaaDoorW.PrintWords Go.Proofs.YtcgojdhbphocgaaDoorW.PrintLast Go.Proofs.YtcgojdhbphocgaaDoorW.PrintMore
theorem nxt (i n : Nat) (h : i < n) (hn : n ≤ 9223372036854775807) : wrap64 ((i : Int) + 1) = ((i + 1 : Nat) : Int) := by rw [w64 (by omega) (by omega)]; omega
def inB (b : UInt8) : Bool := decide ((97 ≤ b.toNat ∧ b.toNat ≤ 122) ∨ (48 ≤ b.toNat ∧ b.toNat ≤ 57))
def nameM (s : ByteArray) : Bool := s.data.toList.all inB && decide (1 ≤ s.size ∧ s.size ≤ 12)
theorem bt_get (s : ByteArray) (i : Nat) (h : i < s.data.toList.length) : bt s (i : Int) = (s.data.toList[i].toNat : Int) := by
  have hs : i < s.size := by rw [← data_length]; exact h
  unfold bt
  rw [dif_pos (show (i : Int).toNat < s.size by rw [Int.toNat_natCast]; exact hs)]
  simp
  rfl
theorem spec_name (s : ByteArray) (hs : s.size ≤ 9223372036854775807) : Ev (fun k => spec_l01Name.f k s) (nameM s) := by
  have hl := data_length s
  have key := up0 (P := fun i => Ev (fun k => spec_l01Name.l0 k s i) ((s.data.toList.drop i.toNat).all inB && decide (1 ≤ s.size ∧ s.size ≤ 12))) s.size
    (EvS (by
      simp only [spec_l01Name.l0, Int.lt_irrefl, if_false, Int.toNat_natCast, spec_l01In.f]
      rw [List.drop_eq_nil_of_le (by omega), List.all_nil, Bool.true_and]
      by_cases h1 : 1 ≤ (s.size : Int)
      · simp only [if_pos h1, Option.bind_some]
        rw [show decide ((s.size : Int) ≤ 12) = decide (1 ≤ s.size ∧ s.size ≤ 12) from decide_eq_decide.2 (by omega)]
        exact EvN
      simp only [if_neg h1, Option.bind_some]
      rw [decide_eq_false (show ¬ (1 ≤ s.size ∧ s.size ≤ 12) by omega)]
      exact EvN))
    (fun i hi ih => EvS (by
      have hil : i < s.data.toList.length := by omega
      rw [Int.toNat_natCast] at *
      rw [drop_at _ i hil, List.all_cons]
      simp only [spec_l01Name.l0, if_pos (show (i : Int) < (s.size : Int) by omega), if_pos (show 0 ≤ (i : Int) by omega), nxt i _ hi hs]
      have hb := bt_get s i hil
      generalize bt s (i : Int) = x at hb ⊢
      generalize s.data.toList[i] = b at hb ⊢
      by_cases c1 : x ≥ 97
      · by_cases c2 : x ≤ 122
        · simp only [if_pos c1, if_pos c2, show inB b = true from decide_eq_true (by omega), Bool.true_and]; exact ih
        by_cases c3 : x ≥ 48
        · simp only [if_pos c1, if_neg c2, if_pos c3, if_neg (show ¬ x ≤ 57 by omega), show inB b = false from decide_eq_false (by omega), Bool.false_and]; exact EvN
        omega
      by_cases c3 : x ≥ 48
      · by_cases c4 : x ≤ 57
        · simp only [if_neg c1, if_pos c3, if_pos c4, show inB b = true from decide_eq_true (by omega), Bool.true_and]; exact ih
        simp only [if_neg c1, if_pos c3, if_neg c4, show inB b = false from decide_eq_false (by omega), Bool.false_and]; exact EvN
      simp only [if_neg c1, if_neg c3, show inB b = false from decide_eq_false (by omega), Bool.false_and]; exact EvN))
  unfold spec_l01Name.f nameM
  exact key
def cutB : List UInt8 := [97, 98, 99, 100, 101, 102, 103, 104, 105, 106, 107, 108, 109, 110, 111, 112, 113, 114, 115, 116, 117, 118, 119, 120, 121, 122, 48, 49, 50, 51, 52, 53, 54, 55, 56, 57]
theorem cut_in (b : UInt8) : cutB.contains b = inB b := by
  have h : ∀ n : Fin 256, cutB.contains (UInt8.ofNat n.val) = inB (UInt8.ofNat n.val) := by decide +kernel
  have := h ⟨b.toNat, b.toNat_lt⟩
  simpa using this
theorem dw_nil {α : Type} (p : α → Bool) : ∀ l : List α, l.dropWhile p = [] ↔ ∀ x ∈ l, p x = true
  | [] => by simp
  | a :: l => by
    rw [List.dropWhile_cons]
    by_cases h : p a = true
    · rw [if_pos h, dw_nil p l]
      simp [h]
    rw [if_neg h]
    simp [h]
theorem dw_head {α : Type} (p : α → Bool) : ∀ (l : List α) (x : α) (r : List α), l.dropWhile p = x :: r → p x = false
  | [], x, r, h => by simp at h
  | a :: l, x, r, h => by
    rw [List.dropWhile_cons] at h
    by_cases hp : p a = true
    · rw [if_pos hp] at h
      exact dw_head p l x r h
    rw [if_neg hp] at h
    injection h with h1 _
    rw [← h1]
    exact Bool.eq_false_iff.2 hp
theorem dw_mem {α : Type} (p : α → Bool) : ∀ (l : List α) (x : α), x ∈ l.dropWhile p → x ∈ l
  | [], x, h => by simp at h
  | a :: l, x, h => by
    rw [List.dropWhile_cons] at h
    by_cases hp : p a = true
    · rw [if_pos hp] at h
      exact List.mem_cons_of_mem _ (dw_mem p l x h)
    rw [if_neg hp] at h
    exact h
theorem trim_nil (l : List UInt8) : (Go.Lib.trimS l cutB == []) = l.all inB := by
  unfold Go.Lib.trimS Go.Lib.trimLeftS Go.Lib.trimRightS
  rw [Bool.eq_iff_iff, beq_iff_eq, dw_nil, List.all_eq_true]
  constructor
  · intro h
    have hd : l.reverse.dropWhile (cutB.contains ·) = [] := by
      cases hq : l.reverse.dropWhile (cutB.contains ·) with
      | nil => rfl
      | cons x r =>
        have h1 := h x (by rw [hq]; simp)
        have h2 := dw_head (cutB.contains ·) _ _ _ hq
        rw [h1] at h2
        cases h2
    rw [dw_nil] at hd
    intro x hx
    rw [← cut_in]
    exact hd x (List.mem_reverse.2 hx)
  intro h x hx
  rw [cut_in]
  exact h x (List.mem_reverse.1 (dw_mem _ _ _ (List.mem_reverse.1 hx)))
theorem impl_name (s : ByteArray) (hs : s.size ≤ 9223372036854775807) : impl_isFileName.f s = some (nameM s) := by
  unfold impl_isFileName.f nameM
  by_cases h1 : (s.size : Int) ≥ 1
  · by_cases h2 : (s.size : Int) ≤ 12
    · have ht : trimF.f s (⟨#[97, 98, 99, 100, 101, 102, 103, 104, 105, 106, 107, 108, 109, 110, 111, 112, 113, 114, 115, 116, 117, 118, 119, 120, 121, 122, 48, 49, 50, 51, 52, 53, 54, 55, 56, 57]⟩ : ByteArray) = some ⟨(Go.Lib.trimS s.data.toList cutB).toArray⟩ := by
        unfold trimF.f
        rw [if_pos ⟨hs, by decide, by decide⟩]
        rfl
      simp only [if_pos h1, if_pos h2, ht, Option.bind_some]
      rw [Go.Lib.toList_data, trim_nil, decide_eq_true (show 1 ≤ s.size ∧ s.size ≤ 12 by omega), Bool.and_true]
    simp only [if_pos h1, if_neg h2]
    rw [decide_eq_false (show ¬ (1 ≤ s.size ∧ s.size ≤ 12) by omega), Bool.and_false]
  simp only [if_neg h1]
  rw [decide_eq_false (show ¬ (1 ≤ s.size ∧ s.size ≤ 12) by omega), Bool.and_false]
end Go.Proofs.YtcgojdhbphocgaaDoor.DK

namespace Go.Proofs.YtcgojdhbphocgaaDoor.F
open Go.RowKit Go.Proofs.YtcgojdhbphocgaaDoorW.PrintWords Go.Proofs.YtcgojdhbphocgaaDoorW.PrintWords.Kd Go.Proofs.YtcgojdhbphocgaaDoorW.PrintMore.Kd Go.Proofs.YtcgojdhbphocgaaDoorW.PrintLast Go.Proofs.YtcgojdhbphocgaaDoorW.PrintMore
attribute [local go_sem] max2_int min2_int max_two min_two max_three min_three max_four min_four   -- for this text's walks alone
set_option linter.unusedVariables false
set_option linter.unusedSimpArgs false
end Go.Proofs.YtcgojdhbphocgaaDoor.F

namespace Go.Proofs.YtcgojdhbphocgaaDoor.BY
set_option linter.unusedVariables false
set_option linter.unusedSimpArgs false
open Go.RowKit Go.Proofs.YtcgojdhbphocgaaDoor.F Go.Proofs.YtcgojdhbphocgaaDoor.PK Go.Proofs.YtcgojdhbphocgaaDoorW.PrintWords Go.Proofs.YtcgojdhbphocgaaDoorW.PrintLast
theorem rd_at (l : List Int) (i : Nat) (h : i < l.length) : rd l (i : Int) = l[i] := getD_nat l _ i h
theorem nxt (i n : Nat) (h : i < n) (hn : n ≤ 9223372036854775807) : wrap64 ((i : Int) + 1) = ((i + 1 : Nat) : Int) := by rw [w64 (by omega) (by omega)]; omega
end Go.Proofs.YtcgojdhbphocgaaDoor.BY

namespace Go.Proofs.YtcgojdhbphocgaaDoor.F
open Go.RowKit Go.Proofs.YtcgojdhbphocgaaDoorW.PrintWords Go.Proofs.YtcgojdhbphocgaaDoorW.PrintWords.Kd Go.Proofs.YtcgojdhbphocgaaDoorW.PrintMore.Kd Go.Proofs.YtcgojdhbphocgaaDoorW.PrintLast Go.Proofs.YtcgojdhbphocgaaDoorW.PrintMore
attribute [local go_sem] max2_int min2_int max_two min_two max_three min_three max_four min_four   -- for this text's walks alone
set_option linter.unusedVariables false
set_option linter.unusedSimpArgs false
end Go.Proofs.YtcgojdhbphocgaaDoor.F

namespace Go.Proofs.YtcgojdhbphocgaaDoor.F
open Go.Proofs.YtcgojdhbphocgaaDoor
open Go.RowKit Go.Proofs.YtcgojdhbphocgaaDoorW.PrintWords Go.Proofs.YtcgojdhbphocgaaDoorW.PrintWords.Kd Go.Proofs.YtcgojdhbphocgaaDoorW.PrintMore.Kd Go.Proofs.YtcgojdhbphocgaaDoorW.PrintLast Go.Proofs.YtcgojdhbphocgaaDoorW.PrintMore
attribute [local go_sem] max2_int min2_int max_two min_two max_three min_three max_four min_four   -- for this text's walks alone
set_option linter.unusedVariables false
set_option linter.unusedSimpArgs false
end Go.Proofs.YtcgojdhbphocgaaDoor.F

namespace Go.Proofs.YtcgojdhbphocgaaDoor.F
open Go.RowKit Go.Proofs.YtcgojdhbphocgaaDoorW.PrintWords Go.Proofs.YtcgojdhbphocgaaDoorW.PrintWords.Kd Go.Proofs.YtcgojdhbphocgaaDoorW.PrintMore.Kd Go.Proofs.YtcgojdhbphocgaaDoorW.PrintLast Go.Proofs.YtcgojdhbphocgaaDoorW.PrintMore
attribute [local go_sem] max2_int min2_int max_two min_two max_three min_three max_four min_four   -- for this text's walks alone
set_option linter.unusedVariables false
set_option linter.unusedSimpArgs false
end Go.Proofs.YtcgojdhbphocgaaDoor.F

namespace Go.Proofs.YtcgojdhbphocgaaDoor.DK
set_option linter.unusedVariables false
set_option linter.unusedSimpArgs false
open Go.RowKit Go.Proofs.YtcgojdhbphocgaaDoor.F Go.Proofs.YtcgojdhbphocgaaDoor.PK Go.Proofs.YtcgojdhbphocgaaDoorW.PrintWords Go.Proofs.YtcgojdhbphocgaaDoorW.PrintLast Go.Proofs.YtcgojdhbphocgaaDoorW.PrintMore

theorem rd55 (l : List S55) (i : Nat) (h : i < l.length) : rd_T55 l (i : Int) = l[i] := getD_nat l _ i h
def okAt (l : List S55) (i : Nat) : Bool := nameM (rd_T55 l i).f0 && (decide ((rd_T55 l i).f1.length + (rd_T55 l i).f2.length ≤ 20000) && (decide (i = 0) || Op.bytesLess (rd_T55 l ((i - 1 : Nat) : Int)).f0.toList (rd_T55 l i).f0.toList))
def goD (l : List S55) : Nat → Nat → Bool
  | 0, _ => true
  | d + 1, i => okAt l i && goD l d (i + 1)
def diskM (l : List S55) : Bool := decide (l.length ≤ 8) && goD l l.length 0
def wfD (l : List S55) : Prop := ∀ y ∈ l, y.f0.size ≤ 9223372036854775807 ∧ y.f1.length ≤ 1048576 ∧ y.f2.length ≤ 1048576
theorem specGo (l : List S55) (hl : l.length ≤ 1048576) (hw : wfD l) : ∀ d i : Nat, d + i = l.length → Ev (fun k => spec_DiskOk.l0 k i l) (goD l d i) := by
  intro d
  induction d with
  | zero =>
    intro i hi
    refine EvS ?_
    simp only [spec_DiskOk.l0, if_neg (show ¬ (i : Int) < (l.length : Int) by omega)]
    exact EvN
  | succ d ih =>
    intro i hi
    have hil : i < l.length := by omega
    have hy := hw _ (List.getElem_mem hil)
    refine EvS ?_
    have hn := spec_name l[i].f0 hy.1
    have h := ih (i + 1) (by omega)
    rw [← rd55 l i hil] at hn hy
    unfold goD okAt
    simp only [spec_DiskOk.l0, if_pos (show (i : Int) < (l.length : Int) by omega), if_pos (show 0 ≤ (i : Int) by omega), EvB hn, nxt i _ hil (by omega)]
    generalize rd_T55 l (i : Int) = y at hy hn ⊢
    by_cases c1 : nameM y.f0 = true
    · by_cases c2 : (y.f1.length : Int) > 20000
      · simp only [if_pos c1, if_pos c2, decide_eq_false (show ¬ y.f1.length + y.f2.length ≤ 20000 by omega), Bool.false_and, Bool.and_false]; exact EvN
      have hw1 : wrap64 (20000 - (y.f1.length : Int)) = 20000 - (y.f1.length : Int) := w64 (by omega) (by omega)
      by_cases c3 : (y.f2.length : Int) > 20000 - (y.f1.length : Int)
      · simp only [if_pos c1, if_neg c2, hw1, if_pos c3, decide_eq_false (show ¬ y.f1.length + y.f2.length ≤ 20000 by omega), Bool.false_and, Bool.and_false]; exact EvN
      simp only [if_pos c1, if_neg c2, hw1, if_neg c3, c1, decide_eq_true (show y.f1.length + y.f2.length ≤ 20000 by omega), Bool.true_and]
      by_cases c4 : i = 0
      · simp only [if_neg (show ¬ (i : Int) > 0 by omega), decide_eq_true c4, Bool.true_or, Bool.true_and]; exact h
      have hw2 : wrap64 ((i : Int) - 1) = ((i - 1 : Nat) : Int) := by rw [w64 (by omega) (by omega)]; omega
      simp only [if_pos (show (i : Int) > 0 by omega), hw2, if_pos (show 0 ≤ ((i - 1 : Nat) : Int) by omega), if_pos (show ((i - 1 : Nat) : Int) < (l.length : Int) by omega), decide_eq_false c4, Bool.false_or]
      by_cases c5 : Op.bytesLess (rd_T55 l ((i - 1 : Nat) : Int)).f0.toList y.f0.toList = true
      · simp only [if_pos c5, c5, Bool.true_and]; exact h
      simp only [if_neg c5, Bool.eq_false_iff.2 c5, Bool.false_and]; exact EvN
    simp only [if_neg c1, Bool.eq_false_iff.2 c1, Bool.false_and]; exact EvN
theorem implGo (l : List S55) (hl : l.length ≤ 1048576) (hw : wfD l) : ∀ d i : Nat, d + i = l.length → Ev (fun k => impl_isDisk.l0 k l (l.length : Int) i l) (goD l d i && decide (l.length ≤ 8)) := by
  intro d
  induction d with
  | zero =>
    intro i hi
    refine EvS ?_
    simp only [impl_isDisk.l0, if_neg (show ¬ (i : Int) < (l.length : Int) by omega), goD, Bool.true_and]
    rw [show decide ((l.length : Int) ≤ 8) = decide (l.length ≤ 8) from decide_eq_decide.2 (by omega)]
    exact EvN
  | succ d ih =>
    intro i hi
    have hil : i < l.length := by omega
    have hy := hw _ (List.getElem_mem hil)
    refine EvS ?_
    have hn := impl_name l[i].f0 hy.1
    have h := ih (i + 1) (by omega)
    rw [← rd55 l i hil] at hn hy
    unfold goD okAt
    simp only [impl_isDisk.l0, if_pos (show (i : Int) < (l.length : Int) by omega), if_pos (show 0 ≤ (i : Int) by omega), hn, Option.bind_some, nxt i _ hil (by omega)]
    generalize rd_T55 l (i : Int) = y at hy hn ⊢
    by_cases c1 : nameM y.f0 = true
    · have hw1 : wrap64 ((y.f1.length : Int) + (y.f2.length : Int)) = (y.f1.length : Int) + (y.f2.length : Int) := w64 (by omega) (by omega)
      by_cases c3 : (y.f1.length : Int) + (y.f2.length : Int) > 20000
      · simp only [if_pos c1, hw1, if_pos c3, decide_eq_false (show ¬ y.f1.length + y.f2.length ≤ 20000 by omega), Bool.false_and, Bool.and_false]; exact EvN
      simp only [if_pos c1, hw1, if_neg c3, c1, decide_eq_true (show y.f1.length + y.f2.length ≤ 20000 by omega), Bool.true_and]
      by_cases c4 : i = 0
      · simp only [if_neg (show ¬ (i : Int) > 0 by omega), decide_eq_true c4, Bool.true_or, Bool.true_and]; exact h
      have hw2 : wrap64 ((i : Int) - 1) = ((i - 1 : Nat) : Int) := by rw [w64 (by omega) (by omega)]; omega
      simp only [if_pos (show (i : Int) > 0 by omega), hw2, if_pos (show 0 ≤ ((i - 1 : Nat) : Int) by omega), if_pos (show ((i - 1 : Nat) : Int) < (l.length : Int) by omega), decide_eq_false c4, Bool.false_or]
      by_cases c5 : Op.bytesLess (rd_T55 l ((i - 1 : Nat) : Int)).f0.toList y.f0.toList = true
      · simp only [if_pos c5, c5, Bool.true_and]; exact h
      simp only [if_neg c5, Bool.eq_false_iff.2 c5, Bool.false_and]; exact EvN
    simp only [if_neg c1, Bool.eq_false_iff.2 c1, Bool.false_and]; exact EvN
theorem spec_disk (l : List S55) (hl : l.length ≤ 1048576) (hw : wfD l) : Ev (fun k => spec_DiskOk.f k l) (diskM l) := by
  unfold spec_DiskOk.f diskM
  by_cases h : l.length ≤ 8
  · simp only [if_neg (show ¬ (l.length : Int) > 8 by omega), decide_eq_true h, Bool.true_and]
    exact specGo l hl hw l.length 0 rfl
  simp only [if_pos (show (l.length : Int) > 8 by omega), decide_eq_false h, Bool.false_and]
  exact EvN
theorem impl_disk (l : List S55) (hl : l.length ≤ 1048576) (hw : wfD l) : Ev (fun k => impl_isDisk.f k l) (diskM l) := by
  unfold impl_isDisk.f diskM
  rw [Bool.and_comm]
  exact implGo l hl hw l.length 0 rfl
theorem rdI (l : List Int) (i : Nat) (h : i < l.length) : rd l (i : Int) = l[i] := getD_nat l _ i h
theorem bytesS (l : List Int) (hl : l.length ≤ 1000000000) : Ev (fun k => spec_l01Bytes.f k l) l := by
  have key := up0 (P := fun i => Ev (fun k => spec_l01Bytes.l0 k l (l.take i.toNat) i) l) l.length
    (EvS (by simp only [spec_l01Bytes.l0, Int.lt_irrefl, if_false, Int.toNat_natCast, List.take_length]; exact EvN))
    (fun i hi ih => EvS (by
      simp only [spec_l01Bytes.l0, if_pos (show (i : Int) < (l.length : Int) by omega), if_pos (show 0 ≤ (i : Int) by omega), Int.toNat_natCast, rdI l i hi, nxt i _ hi (by omega), if_pos (show (l.take i).length < 140737488355328 by rw [List.length_take]; omega)]
      rw [Int.toNat_natCast, List.take_add_one, List.getElem?_eq_getElem hi] at ih
      exact ih))
  unfold spec_l01Bytes.f
  exact key
theorem joinS (l m : List Int) (hl : l.length ≤ 1000000000) (hm : m.length ≤ 1000000000) : Ev (fun k => spec_l01Join.f k l m) (l ++ m) := by
  have key := up0 (P := fun i => Ev (fun k => spec_l01Join.l0 k m (l ++ m.take i.toNat) i) (l ++ m)) m.length
    (EvS (by simp only [spec_l01Join.l0, Int.lt_irrefl, if_false, Int.toNat_natCast, List.take_length]; exact EvN))
    (fun i hi ih => EvS (by
      simp only [spec_l01Join.l0, if_pos (show (i : Int) < (m.length : Int) by omega), if_pos (show 0 ≤ (i : Int) by omega), Int.toNat_natCast, rdI m i hi, nxt i _ hi (by omega), if_pos (show (l ++ m.take i).length < 140737488355328 by rw [List.length_append, List.length_take]; omega)]
      rw [Int.toNat_natCast, List.take_add_one, List.getElem?_eq_getElem hi, ← List.append_assoc] at ih
      exact ih))
  unfold spec_l01Join.f
  simp only [EvB (bytesS l hl)]
  have e : l ++ m.take (0 : Int).toNat = l := by simp
  rw [e] at key
  exact key
def isN (a : ByteArray) : ByteArray → Bool := fun s => s.toList == a.toList
theorem find_ev (l : List S55) (a : ByteArray) (hl : l.length ≤ 1048576) : Ev (fun k => spec_l03Find.f k l a) (idxF (isN a) l 0) := by
  have key := up0 (P := fun i => Ev (fun k => spec_l03Find.l0 k a i l) (idxF (isN a) (l.drop i.toNat) i)) l.length
    (EvS (by
      simp only [spec_l03Find.l0, Int.lt_irrefl, if_false, Int.toNat_natCast, List.drop_length, idxF]
      exact EvN))
    (fun i hi ih => EvS (by
      rw [Int.toNat_natCast] at *
      rw [drop_at l i hi]
      simp only [spec_l03Find.l0, if_pos (show (i : Int) < (l.length : Int) by omega), if_pos (show 0 ≤ (i : Int) by omega), rd55 l i hi, nxt i _ hi (by omega), idxF]
      by_cases h : l[i].f0.toList = a.toList
      · simp only [if_pos h, isN, beq_iff_eq.2 h, if_true]; exact EvN
      simp only [if_neg h, isN, beq_eq_false_iff_ne.2 h, Bool.false_eq_true, if_false]
      exact ih))
  unfold spec_l03Find.f
  exact key
theorem idxF_bd (p : ByteArray → Bool) : ∀ (l : List S55) (i : Int), 0 ≤ i → idxF p l i = -1 ∨ (i ≤ idxF p l i ∧ idxF p l i < i + l.length) := by
  intro l
  induction l with
  | nil => intro i _; exact .inl rfl
  | cons x t ih =>
    intro i hi
    unfold idxF
    by_cases h : p x.f0 = true
    · rw [if_pos h]; right; simp only [List.length_cons]; omega
    rw [if_neg h]
    rcases ih (i + 1) (by omega) with h1 | h1
    · exact .inl h1
    right; simp only [List.length_cons]; omega
def contentM (l : List S55) (a : ByteArray) : List Int × Bool := if diskM l = true then (if idxF (isN a) l 0 < 0 then ([], false) else ((rd_T55 l (idxF (isN a) l 0)).f1 ++ (rd_T55 l (idxF (isN a) l 0)).f2, true)) else ([], false)
theorem at_bd (l : List S55) (hw : wfD l) (i : Int) (h0 : 0 ≤ i) (h1 : i < l.length) : (rd_T55 l i).f1.length ≤ 1048576 ∧ (rd_T55 l i).f2.length ≤ 1048576 := by
  obtain ⟨n, rfl⟩ := Int.eq_ofNat_of_zero_le h0
  have hn : n < l.length := by omega
  rw [rd55 l n hn]
  exact (hw _ (List.getElem_mem hn)).2
theorem content_le (l : List S55) (a : ByteArray) (hw : wfD l) : (contentM l a).1.length ≤ 2097152 := by
  unfold contentM
  by_cases h : diskM l = true
  · rw [if_pos h]
    by_cases h2 : idxF (isN a) l 0 < 0
    · rw [if_pos h2]; simp
    rw [if_neg h2]
    have := idxF_bd (isN a) l 0 (by omega)
    have := at_bd l hw (idxF (isN a) l 0) (by omega) (by omega)
    rw [List.length_append]
    omega
  rw [if_neg h]; simp
theorem spec_content (l : List S55) (a : ByteArray) (hl : l.length ≤ 1048576) (hw : wfD l) : Ev (fun k => spec_Content.f k l a) (contentM l a) := by
  unfold spec_Content.f contentM
  simp only [EvB (find_ev l a hl), EvB (spec_disk l hl hw)]
  have hb := idxF_bd (isN a) l 0 (by omega)
  generalize idxF (isN a) l 0 = i at hb ⊢
  by_cases h : diskM l = true
  · by_cases h2 : i < 0
    · simp only [if_pos h, if_pos h2]; exact EvN
    have hr := at_bd l hw i (by omega) (by omega)
    simp only [if_pos h, if_neg h2, if_pos (show 0 ≤ i by omega), if_pos (show i < (l.length : Int) by omega), EvB (joinS (rd_T55 l i).f1 (rd_T55 l i).f2 (by omega) (by omega))]
    exact EvN
  simp only [if_neg h]; exact EvN
theorem lt47 (n m : Nat) (h : n ≤ 1000000000) (h' : m ≤ 1000000000) : n + m < 140737488355328 := by omega
theorem impl_content (l : List S55) (a : ByteArray) (hl : l.length ≤ 1048576) (hw : wfD l) : Ev (fun k => impl_Content.f k l a) (contentM l a) := by
  unfold impl_Content.f contentM
  have hf : impl_fileOf.f l a = some (idxF (isN a) l 0) := by unfold impl_fileOf.f; rw [if_pos (by omega)]; rfl
  simp only [hf, Option.bind_some, EvB (impl_disk l hl hw)]
  have hb := idxF_bd (isN a) l 0 (by omega)
  generalize idxF (isN a) l 0 = i at hb ⊢
  by_cases h : diskM l = true
  · by_cases h2 : i < 0
    · simp only [if_pos h, if_pos h2]; exact EvN
    have hr := at_bd l hw i (by omega) (by omega)
    have hc : impl_File_content.f (rd_T55 l i).f0 (rd_T55 l i).f1 (rd_T55 l i).f2 = some ((rd_T55 l i).f1 ++ (rd_T55 l i).f2) := by
      unfold impl_File_content.f
      rw [Option.bind_some, if_pos (lt47 _ _ (by simp) (by omega)), Option.bind_some, if_pos (lt47 _ _ (by simp; omega) (by omega)), List.nil_append]
    simp only [if_pos h, if_neg h2, if_pos (show 0 ≤ i by omega), if_pos (show i < (l.length : Int) by omega), hc, Option.bind_some]
    exact EvN
  simp only [if_neg h]; exact EvN
end Go.Proofs.YtcgojdhbphocgaaDoor.DK
