/- Merged texts below the law FnExactWalAppend: Go functions as Lean functions, their contracts, and plain lemmas. -/
import Derived.Test.YtcgojdhbphocgaaDoorQFnExactWalAppend23
import Derived.Test.YtcgojdhbphocgaaDoorQFnExactWalAppend25
import Derived.Test.YtcgojdhbphocgaaDoorVFnExactWalAppendA
import Derived.Test.YtcgojdhbphocgaaDoorQFnExactWalAppend24
import Derived.Test.YtcgojdhbphocgaaDoorVFnExactWalAppendMore
import Derived.Test.YtcgojdhbphocgaaDoorQFnExactWalAppend27
import Derived.Test.YtcgojdhbphocgaaDoorVFnExactWalAppendF
import Derived.Laws.BitsAllLaws
import Derived.Deep.Slices
import Derived.ChangeSame
import Derived.WideShapes
namespace Go.Proofs.YtcgojdhbphocgaaDoor.F
open Go.RowKit Go.Proofs.YtcgojdhbphocgaaDoorW.PrintWords Go.Proofs.YtcgojdhbphocgaaDoorW.PrintLast Go.Proofs.YtcgojdhbphocgaaDoorW.PrintMore
open Go.Proofs.YtcgojdhbphocgaaDoor
set_option linter.unusedVariables false
set_option linter.unusedSimpArgs false
def laws_FnExactWalAppend.f (k : Nat) (l0_0 : List (S83)) (l1 : List Int) : Option Bool := (if (l1.length : Int) > 1048576 then some true else ((laws_szDisk.f k l0_0 1048576).bind fun p3 => (if p3 < 0 then some true else ((laws_toDisk.f k l0_0).bind fun p9 => ((laws_toByteS.f k l1).bind fun p16 => ((spec_WalAppend.f k p9 p16).bind fun p24 => ((laws_toDisk.f k l0_0).bind fun p33 => ((laws_toByteS.f k l1).bind fun p40 => ((impl_WalAppend.f k p33 p40).bind fun p50 => ((laws_eqDisk.f k p50.1 p24.1).bind fun p59 => (if p59 = true then (if p50.2 = p24.2 then ((laws_toDisk.f k l0_0).bind fun p65 => ((laws_eqDisk.f k p33 p65).bind fun p72 => (if p72 = true then ((laws_toByteS.f k l1).bind fun p75 => ((laws_eqByteS.f k p40 p75).bind fun p82 => (if p82 = true then ((laws_markDisk.f k p33 1).bind fun p88 => ((laws_markByteS.f k p40 p88.1).bind fun p94 => (if p94.1 < 0 then none else ((laws_eqDisk.f k p50.1 p24.1).bind fun p104 => (if p104 = true then (if p24.2 = p24.2 then ((laws_markDisk.f k p50.1 1).bind fun p110 => ((laws_heldDisk.f k p110.2 1).bind fun p117 => (if p117 < 0 then none else (if p117 = p110.1 then ((laws_toDisk.f k l0_0).bind fun p125 => ((laws_toByteS.f k l1).bind fun p132 => ((impl_WalAppend.f k p125 p132).bind fun p140 => ((laws_eqDisk.f k p140.1 p24.1).bind fun p149 => (if p149 = true then (if p140.2 = p24.2 then ((laws_heldDisk.f k p110.2 1).bind fun p156 => (if p156 < 0 then none else (if p156 = p110.1 then (some true) else none))) else none) else none))))) else none)))) else none) else none))))) else none))) else none))) else none) else none)))))))))))
set_option maxHeartbeats 16000000 in
set_option maxRecDepth 100000 in
theorem laws_FnExactWalAppend.calls (k : Nat) (A0_0 : Option Addr) (c0_0 : Nat) (l0_0 : List (S83)) (A1 : Option Addr) (c1 : Nat) (l1 : List Int) (r : Bool) (w : World) (hr0_0 : Kd.C k83 w A0_0 l0_0.length l0_0) (hc0_0 : l0_0.length ≤ c0_0) (hr1 : Kd.C (Kd.int .u8) w A1 l1.length l1) (hc1 : l1.length ≤ c1) (h : laws_FnExactWalAppend.f k l0_0 l1 = some r) :
    Calls Tryd.prog 7 #[.agg #[.slice A0_0 l0_0.length c0_0], .slice A1 l1.length c1] w fun e w' => e = .returned (.bool r) ∧ Below w.heap.size w w' := by
  have HR0_0 := Zh hr0_0
  have HC0_0 := Zh hc0_0
  clear hr0_0 hc0_0
  have HR1 := Zh hr1
  have HC1 := Zh hc1
  clear hr1 hc1
  have ST := Zh (LW.St.start w)
  unfold laws_FnExactWalAppend.f at h
  by_cases c1 : (l1.length : Int) > 1048576
  · rw [if_pos c1] at h
    obtain rfl := Option.some.inj h
    have c1b : decide ((l1.length : Int) > 1048576) = true := decide_eq_true c1
    clear c1
    go_enter Tryd.func7, Tryd.ntmps7
    go_wp2
    go_ret
    exact ⟨rfl, by repeat (first | exact Below.refl _ _ | apply Zf)⟩
  rw [if_neg c1] at h
  have c1b : decide ((l1.length : Int) > 1048576) = false := decide_eq_false c1
  clear c1
  go_enter Tryd.func7, Tryd.ntmps7
  go_wp2_with fail
  replace ST := Zh (ST.out.alloc #[.slice A0_0 l0_0.length c0_0] 24 (g := w.heap.size) rfl)
  replace h := Option.bind_eq_some_iff.mp h
  obtain ⟨t2, HA_, h⟩ := h
  try dsimp only at h
  replace HA_ := Zh HA_
  with_reducible refine (laws_szDisk.calls k _ _ l0_0 1048576 t2 _ (Kd.C_below HR0_0.out ST.out.b) HC0_0.out HA_.out).mono ?_
  rintro e w4 ⟨rfl, hb⟩
  clear HA_
  replace ST := Zh (ST.out.step hb)
  clear hb
  have hc5 := ST.out.cell 0 rfl 0 (u := .slice A0_0 l0_0.length c0_0) rfl
  have hl6 := ST.out.lt 0 rfl
  by_cases c7 : t2 < 0
  · rw [if_pos c7] at h
    obtain rfl := Option.some.inj h
    have c7b : decide (t2 < 0) = true := decide_eq_true c7
    clear c7
    go_wp2
    go_ret
    exact ⟨rfl, ST.out.b⟩
  rw [if_neg c7] at h
  have c7b : decide (t2 < 0) = false := decide_eq_false c7
  clear c7
  go_wp2_with fail
  replace h := Option.bind_eq_some_iff.mp h
  obtain ⟨t8, HA_, h⟩ := h
  try dsimp only at h
  replace HA_ := Zh HA_
  with_reducible refine (laws_toDisk.calls k _ _ l0_0 t8 _ (Kd.C_below HR0_0.out ST.out.b) HC0_0.out HA_.out).mono ?_
  rintro e w10 ⟨v11, rfl, ho12, hb⟩
  clear HA_
  obtain ⟨A13, c14, rfl⟩ := Kd.S_slice ho12
  replace ST := Zh (ST.out.row hb ho12)
  clear hb ho12
  clear hc5 hl6
  go_wp2_with fail
  replace h := Option.bind_eq_some_iff.mp h
  obtain ⟨t15, HA_, h⟩ := h
  try dsimp only at h
  replace HA_ := Zh HA_
  with_reducible refine (laws_toByteS.calls k _ _ l1 t15 _ (Kd.C_below HR1.out ST.out.b) HC1.out HA_.out).mono ?_
  rintro e w17 ⟨v18, rfl, ho19, hb⟩
  clear HA_
  obtain ⟨A20, c21, rfl⟩ := Kd.R_slice ho19
  replace ST := Zh (ST.out.rowR rfl hb ho19)
  clear hb ho19
  go_wp2_with fail
  replace h := Option.bind_eq_some_iff.mp h
  obtain ⟨⟨t22, t23⟩, HA_, h⟩ := h
  try dsimp only at h
  replace HA_ := Zh HA_
  with_reducible refine (spec_WalAppend.calls k _ _ _ t8 _ _ t15 t22 t23 _ (Kd.S_V (ST.out.own 1 rfl)) (ST.out.reads 0 rfl).2.2 (ST.out.reads 0 rfl).2.1 HA_.out).mono ?_
  rintro e w25 ⟨v26, rfl, ho27, hb⟩
  clear HA_
  obtain ⟨A28, c29, rfl⟩ := Kd.N_slice ho27
  replace ST := Zh (ST.out.seen 1 rfl hb ho27 (fun k_ hk_ => hk_))
  clear hb ho27
  have hc30 := ST.out.cell 3 rfl 0 (u := .slice A0_0 l0_0.length c0_0) rfl
  have hl31 := ST.out.lt 3 rfl
  go_wp2_with fail
  replace ST := Zh (ST.out.alloc #[.slice A28 t22.length c29] 28 (g := w25.heap.size) rfl)
  replace h := Option.bind_eq_some_iff.mp h
  obtain ⟨t32, HA_, h⟩ := h
  try dsimp only at h
  replace HA_ := Zh HA_
  with_reducible refine (laws_toDisk.calls k _ _ l0_0 t32 _ (Kd.C_below HR0_0.out ST.out.b) HC0_0.out HA_.out).mono ?_
  rintro e w34 ⟨v35, rfl, ho36, hb⟩
  clear HA_
  obtain ⟨A37, c38, rfl⟩ := Kd.S_slice ho36
  replace ST := Zh (ST.out.row hb ho36)
  clear hb ho36
  clear hc30 hl31
  go_wp2_with fail
  replace ST := Zh (ST.out.alloc #[.slice A37 t32.length c38] 28 (g := w34.heap.size) rfl)
  replace h := Option.bind_eq_some_iff.mp h
  obtain ⟨t39, HA_, h⟩ := h
  try dsimp only at h
  replace HA_ := Zh HA_
  with_reducible refine (laws_toByteS.calls k _ _ l1 t39 _ (Kd.C_below HR1.out ST.out.b) HC1.out HA_.out).mono ?_
  rintro e w41 ⟨v42, rfl, ho43, hb⟩
  clear HA_
  obtain ⟨A44, c45, rfl⟩ := Kd.R_slice ho43
  replace ST := Zh (ST.out.rowR rfl hb ho43)
  clear hb ho43
  have hc46 := ST.out.cell 1 rfl 0 (u := .slice A37 t32.length c38) rfl
  have hl47 := ST.out.lt 1 rfl
  go_wp2_with fail
  replace h := Option.bind_eq_some_iff.mp h
  obtain ⟨⟨t48, t49⟩, HA_, h⟩ := h
  try dsimp only at h
  replace HA_ := Zh HA_
  with_reducible refine (impl_WalAppend.calls k _ _ t32 _ _ t39 t48 t49 _ (ST.out.reads 2 rfl).2.2 (ST.out.reads 2 rfl).2.1 (ST.out.reads 0 rfl).2.2 (ST.out.reads 0 rfl).2.1 HA_.out).mono ?_
  rintro e w51 ⟨v52, rfl, ho53, hb⟩
  clear HA_
  obtain ⟨A54, c55, rfl⟩ := Kd.S_slice ho53
  replace ST := Zh (ST.out.row hb ho53)
  clear hb ho53
  clear hc46 hl47
  have hc56 := ST.out.cell 4 rfl 0 (u := .slice A28 t22.length c29) rfl
  have hl57 := ST.out.lt 4 rfl
  go_wp2_with fail
  replace ST := Zh (ST.out.alloc #[.slice A54 t48.length c55] 28 (g := w51.heap.size) rfl)
  replace h := Option.bind_eq_some_iff.mp h
  obtain ⟨t58, HA_, h⟩ := h
  try dsimp only at h
  replace HA_ := Zh HA_
  with_reducible refine (laws_eqDisk.calls k _ _ t48 _ _ t22 t58 _ (ST.out.reads 1 rfl).2.2 (ST.out.reads 1 rfl).2.1 (ST.out.views 6 rfl).2.2 (ST.out.views 6 rfl).2.1 HA_.out).mono ?_
  rintro e w60 ⟨rfl, hb⟩
  clear HA_
  replace ST := Zh (ST.out.step hb)
  clear hb
  obtain rfl : t58 = true := by
    cases t58 with
    | true => rfl
    | false => exact absurd h (by simp)
  first | rw [if_pos rfl] at h | rw [if_pos trivial] at h
  clear hc56 hl57
  have e61 : t49 = t23 := by
    refine Decidable.byContradiction fun e_ => ?_
    rw [if_neg e_] at h
    exact absurd h (by simp)
  rw [if_pos e61] at h
  obtain rfl : t23 = t49 := by first | exact e61 | exact e61.symm
  clear e61
  have hq62 : (t23 != t23) = false := bne_self_eq_false _
  go_wp2_with fail
  replace ST := Zh ST.out.drew
  refine start_ (n := 5) (S := fun w' => w'.cell? ⟨w34.heap.size, 0, none⟩ = some (.slice A37 t32.length c38) ∧ w'.cell? ⟨w.heap.size, 0, none⟩ = some (.slice A0_0 l0_0.length c0_0)) (ds := []) #[false, false, false, false, false] (by kernel_rfl) rfl rfl ⟨ST.out.cell 3 rfl 0 rfl, ST.out.cell 9 rfl 0 rfl⟩ (fun hHeld => ?_)
  generalize w60.drew = w63 at ST hHeld ⊢
  refine take_ (i := 0) (N := some 52) (v := ?_) (a' := ?_) #[true, false, false, false, false] rfl rfl (by kernel_rfl) (fun _ _ _ h => h) (Or.inl ⟨by rfl, ?_⟩) hHeld ?_ ?_
  rotate_left
  · rintro w' ⟨s0, s1⟩
    go_simp
    with_reducible rfl
  rotate_left
  · simp only [Act.put, List.setIfInBounds_toArray, List.set_cons_zero, List.set_cons_succ, i64_w, i32_w]
    rfl
  refine take_ (i := 1) (N := some 53) (v := ?_) (a' := ?_) #[true, true, false, false, false] rfl rfl (by kernel_rfl) (fun _ _ _ h => h) (Or.inl ⟨by rfl, ?_⟩) hHeld ?_ ?_
  rotate_left
  · rintro w' ⟨s0, s1⟩
    go_simp
    with_reducible rfl
  rotate_left
  · simp only [Act.put, List.setIfInBounds_toArray, List.set_cons_zero, List.set_cons_succ, i64_w, i32_w]
    rfl
  refine one_ (i := 2) (N := some 54) #[true, true, true, false, false] rfl rfl (by kernel_rfl) (by decide) (fun K hK => ?_)
  replace h := Option.bind_eq_some_iff.mp h
  obtain ⟨t64, HA_, h⟩ := h
  try dsimp only at h
  replace HA_ := Zh HA_
  refine goes_ Tryd.func13 (by kernel_rfl) rfl #[.agg #[.slice A0_0 l0_0.length c0_0]] (by rfl) rfl rfl (by (try simp only [List.map_toArray, List.map_cons, List.map_nil]); first | done | rfl) ?_
  with_reducible refine (laws_toDisk.calls k _ _ l0_0 t64 _ (Kd.C_below HR0_0.out ST.out.b) HC0_0.out HA_.out).mono ?_
  rintro e w66 ⟨v67, rfl, ho68, hb⟩
  clear HA_
  refine ⟨_, rfl, ?_⟩
  obtain ⟨A69, c70, rfl⟩ := Kd.S_slice ho68
  replace ST := Zh (ST.out.row hb ho68)
  clear hb ho68
  refine hK.out _ _ ⟨ST.out.cell 4 rfl 0 rfl, ST.out.cell 10 rfl 0 rfl⟩ (fun hHeld => ?_)
  clear hK K
  refine norm_ (a' := ?_) ?_ ?_
  rotate_left
  · show Act.put _ (some 54) _ = _
    simp only [Act.put, List.setIfInBounds_toArray, List.set_cons_zero, List.set_cons_succ, i64_w, i32_w]
    rfl
  refine one_ (i := 3) (N := some 55) #[true, true, true, true, false] rfl rfl (by kernel_rfl) (by decide) (fun K hK => ?_)
  replace h := Option.bind_eq_some_iff.mp h
  obtain ⟨t71, HA_, h⟩ := h
  try dsimp only at h
  replace HA_ := Zh HA_
  refine goes_ Tryd.func15 (by kernel_rfl) rfl #[.agg #[.slice A37 t32.length c38], .agg #[.slice A69 t64.length c70]] (by rfl) rfl rfl (by (try simp only [List.map_toArray, List.map_cons, List.map_nil]); first | done | rfl) ?_
  with_reducible refine (laws_eqDisk.calls k _ _ t32 _ _ t64 t71 _ (ST.out.reads 5 rfl).2.2 (ST.out.reads 5 rfl).2.1 (ST.out.reads 0 rfl).2.2 (ST.out.reads 0 rfl).2.1 HA_.out).mono ?_
  rintro e w73 ⟨rfl, hb⟩
  clear HA_
  refine ⟨_, rfl, ?_⟩
  replace ST := Zh (ST.out.step hb)
  clear hb
  obtain rfl : t71 = true := by
    cases t71 with
    | true => rfl
    | false => exact absurd h (by simp)
  first | rw [if_pos rfl] at h | rw [if_pos trivial] at h
  refine hK.out _ _ ⟨ST.out.cell 4 rfl 0 rfl, ST.out.cell 10 rfl 0 rfl⟩ (fun hHeld => ?_)
  clear hK K
  refine norm_ (a' := ?_) ?_ ?_
  rotate_left
  · show Act.put _ (some 55) _ = _
    simp only [Act.put, List.setIfInBounds_toArray, List.set_cons_zero, List.set_cons_succ, i64_w, i32_w]
    rfl
  refine pure_ (i := 4) (N := some 56) (v := ?_) (a' := ?_) #[true, true, true, true, true] rfl rfl (by kernel_rfl) (fun _ _ _ h => h) (Or.inl ⟨by rfl, ?_⟩) ?_ ?_
  rotate_left
  · intro w'
    go_simp
    with_reducible rfl
  rotate_left
  · simp only [Act.put, List.setIfInBounds_toArray, List.set_cons_zero, List.set_cons_succ, i64_w, i32_w]
    rfl
  refine done_ (by kernel_rfl) ?_
  go_wp2_with fail
  replace h := Option.bind_eq_some_iff.mp h
  obtain ⟨t74, HA_, h⟩ := h
  try dsimp only at h
  replace HA_ := Zh HA_
  with_reducible refine (laws_toByteS.calls k _ _ l1 t74 _ (Kd.C_below HR1.out ST.out.b) HC1.out HA_.out).mono ?_
  rintro e w76 ⟨v77, rfl, ho78, hb⟩
  clear HA_
  obtain ⟨A79, c80, rfl⟩ := Kd.R_slice ho78
  replace ST := Zh (ST.out.rowR rfl hb ho78)
  clear hb ho78
  go_wp2_with fail
  replace h := Option.bind_eq_some_iff.mp h
  obtain ⟨t81, HA_, h⟩ := h
  try dsimp only at h
  replace HA_ := Zh HA_
  with_reducible refine (laws_eqByteS.calls k _ _ t39 _ _ t74 t81 _ (ST.out.reads 4 rfl).2.2 (ST.out.reads 4 rfl).2.1 (ST.out.reads 0 rfl).2.2 (ST.out.reads 0 rfl).2.1 HA_.out).mono ?_
  rintro e w83 ⟨rfl, hb⟩
  clear HA_
  replace hb := Drawn0.below hb
  replace ST := Zh (ST.out.step hb)
  clear hb
  obtain rfl : t81 = true := by
    cases t81 with
    | true => rfl
    | false => exact absurd h (by simp)
  first | rw [if_pos rfl] at h | rw [if_pos trivial] at h
  have hc84 := ST.out.cell 5 rfl 0 (u := .slice A37 t32.length c38) rfl
  have hl85 := ST.out.lt 5 rfl
  go_wp2_with fail
  replace h := Option.bind_eq_some_iff.mp h
  obtain ⟨⟨t86, t87⟩, HA_, h⟩ := h
  try dsimp only at h
  replace HA_ := Zh HA_
  with_reducible refine (laws_markDisk.calls k _ _ t32 1 t86 t87 w _ ST.out.b (ST.out.own 6 rfl) HA_.out).mono ?_
  rintro e w89 ⟨rfl, ho90, hb, hk⟩
  clear HA_
  replace ST := Zh (ST.out.write 6 rfl ho90 hb hk)
  clear hb hk ho90
  have el91 := (ST.out.reads 6 rfl).1
  simp only [el91] at ST ⊢
  clear el91
  clear hc84 hl85
  go_wp2_with fail
  replace h := Option.bind_eq_some_iff.mp h
  obtain ⟨⟨t92, t93⟩, HA_, h⟩ := h
  try dsimp only at h
  replace HA_ := Zh HA_
  with_reducible refine (laws_markByteS.calls k _ _ t39 t86 t92 t93 w _ ST.out.b (Kd.S_R (ST.out.own 4 rfl)) HA_.out).mono ?_
  rintro e w95 ⟨rfl, ho96, hb, hk⟩
  clear HA_
  replace ST := Zh (ST.out.writeR rfl 4 rfl ho96 hb hk)
  clear hb hk ho96
  have el97 := (ST.out.reads 4 rfl).1
  simp only [el97] at ST ⊢
  clear el97
  have hc98 := ST.out.cell 2 rfl 0 (u := .slice A54 t48.length c55) rfl
  have hl99 := ST.out.lt 2 rfl
  have hc100 := ST.out.cell 7 rfl 0 (u := .slice A28 t22.length c29) rfl
  have hl101 := ST.out.lt 7 rfl
  by_cases c102 : t92 < 0
  · rw [if_pos c102] at h
    exact absurd h (by simp)
  rw [if_neg c102] at h
  have c102b : decide (t92 < 0) = false := decide_eq_false c102
  clear c102
  go_wp2_with fail
  replace h := Option.bind_eq_some_iff.mp h
  obtain ⟨t103, HA_, h⟩ := h
  try dsimp only at h
  replace HA_ := Zh HA_
  with_reducible refine (laws_eqDisk.calls k _ _ t48 _ _ t22 t103 _ (ST.out.reads 3 rfl).2.2 (ST.out.reads 3 rfl).2.1 (ST.out.views 8 rfl).2.2 (ST.out.views 8 rfl).2.1 HA_.out).mono ?_
  rintro e w105 ⟨rfl, hb⟩
  clear HA_
  replace ST := Zh (ST.out.step hb)
  clear hb
  obtain rfl : t103 = true := by
    cases t103 with
    | true => rfl
    | false => exact absurd h (by simp)
  first | rw [if_pos rfl] at h | rw [if_pos trivial] at h
  clear hc98 hl99 hc100 hl101
  have hc106 := ST.out.cell 2 rfl 0 (u := .slice A54 t48.length c55) rfl
  have hl107 := ST.out.lt 2 rfl
  first | rw [if_pos rfl] at h | rw [if_pos trivial] at h
  go_wp2_with fail
  replace h := Option.bind_eq_some_iff.mp h
  obtain ⟨⟨t108, t109⟩, HA_, h⟩ := h
  try dsimp only at h
  replace HA_ := Zh HA_
  with_reducible refine (laws_markDisk.calls k _ _ t48 1 t108 t109 w _ ST.out.b (ST.out.own 3 rfl) HA_.out).mono ?_
  rintro e w111 ⟨rfl, ho112, hb, hk⟩
  clear HA_
  replace ST := Zh (ST.out.write 3 rfl ho112 hb hk)
  clear hb hk ho112
  have el113 := (ST.out.reads 3 rfl).1
  simp only [el113] at ST ⊢
  clear el113
  clear hc106 hl107
  have hc114 := ST.out.cell 2 rfl 0 (u := .slice A54 t109.length c55) rfl
  have hl115 := ST.out.lt 2 rfl
  go_wp2_with fail
  replace h := Option.bind_eq_some_iff.mp h
  obtain ⟨t116, HA_, h⟩ := h
  try dsimp only at h
  replace HA_ := Zh HA_
  with_reducible refine (laws_heldDisk.calls k _ _ t109 1 t116 _ (ST.out.reads 3 rfl).2.2 (ST.out.reads 3 rfl).2.1 HA_.out).mono ?_
  rintro e w118 ⟨rfl, hb⟩
  clear HA_
  replace ST := Zh (ST.out.step hb)
  clear hb
  clear hc114 hl115
  have hc119 := ST.out.cell 11 rfl 0 (u := .slice A0_0 l0_0.length c0_0) rfl
  have hl120 := ST.out.lt 11 rfl
  by_cases c121 : t116 < 0
  · rw [if_pos c121] at h
    exact absurd h (by simp)
  rw [if_neg c121] at h
  have c121b : decide (t116 < 0) = false := decide_eq_false c121
  clear c121
  have e122 : t116 = t108 := by
    refine Decidable.byContradiction fun e_ => ?_
    rw [if_neg e_] at h
    exact absurd h (by simp)
  rw [if_pos e122] at h
  obtain rfl : t108 = t116 := by first | exact e122 | exact e122.symm
  clear e122
  have hq123 : (t108 != t108) = false := bne_self_eq_false _
  go_wp2_with fail
  replace h := Option.bind_eq_some_iff.mp h
  obtain ⟨t124, HA_, h⟩ := h
  try dsimp only at h
  replace HA_ := Zh HA_
  with_reducible refine (laws_toDisk.calls k _ _ l0_0 t124 _ (Kd.C_below HR0_0.out ST.out.b) HC0_0.out HA_.out).mono ?_
  rintro e w126 ⟨v127, rfl, ho128, hb⟩
  clear HA_
  obtain ⟨A129, c130, rfl⟩ := Kd.S_slice ho128
  replace ST := Zh (ST.out.row hb ho128)
  clear hb ho128
  clear hc119 hl120
  go_wp2_with fail
  replace h := Option.bind_eq_some_iff.mp h
  obtain ⟨t131, HA_, h⟩ := h
  try dsimp only at h
  replace HA_ := Zh HA_
  with_reducible refine (laws_toByteS.calls k _ _ l1 t131 _ (Kd.C_below HR1.out ST.out.b) HC1.out HA_.out).mono ?_
  rintro e w133 ⟨v134, rfl, ho135, hb⟩
  clear HA_
  obtain ⟨A136, c137, rfl⟩ := Kd.R_slice ho135
  replace ST := Zh (ST.out.rowR rfl hb ho135)
  clear hb ho135
  go_wp2_with fail
  replace h := Option.bind_eq_some_iff.mp h
  obtain ⟨⟨t138, t139⟩, HA_, h⟩ := h
  try dsimp only at h
  replace HA_ := Zh HA_
  with_reducible refine (impl_WalAppend.calls k _ _ t124 _ _ t131 t138 t139 _ (ST.out.reads 1 rfl).2.2 (ST.out.reads 1 rfl).2.1 (ST.out.reads 0 rfl).2.2 (ST.out.reads 0 rfl).2.1 HA_.out).mono ?_
  rintro e w141 ⟨v142, rfl, ho143, hb⟩
  clear HA_
  obtain ⟨A144, c145, rfl⟩ := Kd.S_slice ho143
  replace ST := Zh (ST.out.row hb ho143)
  clear hb ho143
  have hc146 := ST.out.cell 10 rfl 0 (u := .slice A28 t22.length c29) rfl
  have hl147 := ST.out.lt 10 rfl
  go_wp2_with fail
  replace ST := Zh (ST.out.alloc #[.slice A144 t138.length c145] 28 (g := w141.heap.size) rfl)
  replace h := Option.bind_eq_some_iff.mp h
  obtain ⟨t148, HA_, h⟩ := h
  try dsimp only at h
  replace HA_ := Zh HA_
  with_reducible refine (laws_eqDisk.calls k _ _ t138 _ _ t22 t148 _ (ST.out.reads 1 rfl).2.2 (ST.out.reads 1 rfl).2.1 (ST.out.views 12 rfl).2.2 (ST.out.views 12 rfl).2.1 HA_.out).mono ?_
  rintro e w150 ⟨rfl, hb⟩
  clear HA_
  replace ST := Zh (ST.out.step hb)
  clear hb
  obtain rfl : t148 = true := by
    cases t148 with
    | true => rfl
    | false => exact absurd h (by simp)
  first | rw [if_pos rfl] at h | rw [if_pos trivial] at h
  clear hc146 hl147
  have hc151 := ST.out.cell 6 rfl 0 (u := .slice A54 t109.length c55) rfl
  have hl152 := ST.out.lt 6 rfl
  have e153 : t139 = t23 := by
    refine Decidable.byContradiction fun e_ => ?_
    rw [if_neg e_] at h
    exact absurd h (by simp)
  rw [if_pos e153] at h
  obtain rfl : t23 = t139 := by first | exact e153 | exact e153.symm
  clear e153
  have hq154 : (t23 != t23) = false := bne_self_eq_false _
  go_wp2_with fail
  replace h := Option.bind_eq_some_iff.mp h
  obtain ⟨t155, HA_, h⟩ := h
  try dsimp only at h
  replace HA_ := Zh HA_
  with_reducible refine (laws_heldDisk.calls k _ _ t109 1 t155 _ (ST.out.reads 7 rfl).2.2 (ST.out.reads 7 rfl).2.1 HA_.out).mono ?_
  rintro e w157 ⟨rfl, hb⟩
  clear HA_
  replace ST := Zh (ST.out.step hb)
  clear hb
  clear hc151 hl152
  by_cases c158 : t155 < 0
  · rw [if_pos c158] at h
    exact absurd h (by simp)
  rw [if_neg c158] at h
  have c158b : decide (t155 < 0) = false := decide_eq_false c158
  clear c158
  have e159 : t155 = t108 := by
    refine Decidable.byContradiction fun e_ => ?_
    rw [if_neg e_] at h
    exact absurd h (by simp)
  rw [if_pos e159] at h
  obtain rfl : t108 = t155 := by first | exact e159 | exact e159.symm
  clear e159
  have hq160 : (t108 != t108) = false := bne_self_eq_false _
  obtain rfl := Option.some.inj h
  go_wp2
  go_ret
  exact ⟨rfl, ST.out.b⟩
end Go.Proofs.YtcgojdhbphocgaaDoor.F

namespace Go.Proofs.YtcgojdhbphocgaaDoor.PK
set_option linter.unusedVariables false
set_option linter.unusedSimpArgs false
open Go.RowKit Go.Proofs.YtcgojdhbphocgaaDoorW.PrintWords
theorem EvS {α : Type} {g : Nat → Option α} {r : α} (h : Ev (fun k => g (k + 1)) r) : Ev g r := by
  obtain ⟨K, h⟩ := h
  refine ⟨K + 1, fun k hk => ?_⟩
  obtain ⟨m, rfl⟩ : ∃ m, k = m + 1 := ⟨k - 1, by omega⟩
  exact h m (by omega)
theorem EvB {α β : Type} {g : Nat → Option α} {f : Nat → α → Option β} {a : α} {r : β} (h : Ev g a) : Ev (fun k => (g k).bind (f k)) r ↔ Ev (fun k => f k a) r := by
  obtain ⟨K, h⟩ := h
  constructor
  · rintro ⟨K', h'⟩
    refine ⟨max K K', fun k hk => ?_⟩
    have h2 : (g k).bind (f k) = some r := h' k (by omega)
    rw [h k (by omega)] at h2
    exact h2
  rintro ⟨K', h'⟩
  refine ⟨max K K', fun k hk => ?_⟩
  show (g k).bind (f k) = some r
  rw [h k (by omega)]
  exact h' k (by omega)
theorem EvN {α : Type} {r : α} : Ev (fun _ => some r) r := ⟨0, fun _ _ => rfl⟩
theorem EvE {α : Type} {g : Nat → Option α} {r : α} (h : Ev g r) : ∃ k, g k = some r := h.rounds
theorem w64 {x : Int} (h : -9223372036854775808 ≤ x) (h' : x ≤ 9223372036854775807) : wrap64 x = x := by
  unfold wrap64
  omega
theorem up {P : Int → Prop} (n : Nat) (base : P n) (step : ∀ i : Nat, i < n → P ((i + 1 : Nat) : Int) → P (i : Int)) : ∀ i : Nat, i ≤ n → P (i : Int) := by
  intro i hi
  obtain ⟨d, hd⟩ : ∃ d, d + i = n := ⟨n - i, by omega⟩
  induction d generalizing i with
  | zero => have : i = n := by omega
            subst this
            exact base
  | succ d ih => exact step i (by omega) (ih (i + 1) (by omega) (by omega))
theorem up0 {P : Int → Prop} (n : Nat) (base : P n) (step : ∀ i : Nat, i < n → P ((i + 1 : Nat) : Int) → P (i : Int)) : P 0 := up n base step 0 (Nat.zero_le _)
theorem getD_nat {α : Type} (l : List α) (z : α) (i : Nat) (h : i < l.length) : l.getD ((i : Int).toNat) z = l[i] := by
  simp [List.getD_eq_getElem?_getD, List.getElem?_eq_getElem h]
theorem drop_at {α : Type} (l : List α) (i : Nat) (h : i < l.length) : l.drop i = l[i] :: l.drop (i + 1) := List.drop_eq_getElem_cons h
end Go.Proofs.YtcgojdhbphocgaaDoor.PK

namespace Go.Proofs.YtcgojdhbphocgaaDoor.DK
set_option linter.unusedVariables false
set_option linter.unusedSimpArgs false
open Go.RowKit Go.Proofs.YtcgojdhbphocgaaDoor.F Go.Proofs.YtcgojdhbphocgaaDoor.PK Go.Proofs.YtcgojdhbphocgaaDoorW.PrintWords Go.Proofs.YtcgojdhbphocgaaDoorW.PrintLast Go.Proofs.YtcgojdhbphocgaaDoorW.PrintMore
theorem nxt (i n : Nat) (h : i < n) (hn : n ≤ 9223372036854775807) : wrap64 ((i : Int) + 1) = ((i + 1 : Nat) : Int) := by rw [w64 (by omega) (by omega)]; omega
def inB (b : UInt8) : Bool := decide ((97 ≤ b.toNat ∧ b.toNat ≤ 122) ∨ (48 ≤ b.toNat ∧ b.toNat ≤ 57))
def nameM (s : ByteArray) : Bool := s.data.toList.all inB && decide (1 ≤ s.size ∧ s.size ≤ 12)
theorem bt_get (s : ByteArray) (i : Nat) (h : i < s.data.toList.length) : bt s (i : Int) = (s.data.toList[i].toNat : Int) := by
  have hs : i < s.size := by rw [← data_length]; exact h
  unfold bt
  rw [dif_pos (show (i : Int).toNat < s.size by rw [Int.toNat_natCast]; exact hs)]
  simp
  rfl
theorem spec_name (s : ByteArray) (hs : s.size ≤ 9223372036854775807) : Ev (fun k => spec_l01Name.f k s) (nameM s) := by
  have hl := data_length s
  have key := up0 (P := fun i => Ev (fun k => spec_l01Name.l0 k s i) ((s.data.toList.drop i.toNat).all inB && decide (1 ≤ s.size ∧ s.size ≤ 12))) s.size
    (EvS (by
      simp only [spec_l01Name.l0, Int.lt_irrefl, if_false, Int.toNat_natCast, spec_l01In.f]
      rw [List.drop_eq_nil_of_le (by omega), List.all_nil, Bool.true_and]
      by_cases h1 : 1 ≤ (s.size : Int)
      · simp only [if_pos h1, Option.bind_some]
        rw [show decide ((s.size : Int) ≤ 12) = decide (1 ≤ s.size ∧ s.size ≤ 12) from decide_eq_decide.2 (by omega)]
        exact EvN
      simp only [if_neg h1, Option.bind_some]
      rw [decide_eq_false (show ¬ (1 ≤ s.size ∧ s.size ≤ 12) by omega)]
      exact EvN))
    (fun i hi ih => EvS (by
      have hil : i < s.data.toList.length := by omega
      rw [Int.toNat_natCast] at *
      rw [drop_at _ i hil, List.all_cons]
      simp only [spec_l01Name.l0, if_pos (show (i : Int) < (s.size : Int) by omega), if_pos (show 0 ≤ (i : Int) by omega), nxt i _ hi hs]
      have hb := bt_get s i hil
      generalize bt s (i : Int) = x at hb ⊢
      generalize s.data.toList[i] = b at hb ⊢
      by_cases c1 : x ≥ 97
      · by_cases c2 : x ≤ 122
        · simp only [if_pos c1, if_pos c2, show inB b = true from decide_eq_true (by omega), Bool.true_and]; exact ih
        by_cases c3 : x ≥ 48
        · simp only [if_pos c1, if_neg c2, if_pos c3, if_neg (show ¬ x ≤ 57 by omega), show inB b = false from decide_eq_false (by omega), Bool.false_and]; exact EvN
        omega
      by_cases c3 : x ≥ 48
      · by_cases c4 : x ≤ 57
        · simp only [if_neg c1, if_pos c3, if_pos c4, show inB b = true from decide_eq_true (by omega), Bool.true_and]; exact ih
        simp only [if_neg c1, if_pos c3, if_neg c4, show inB b = false from decide_eq_false (by omega), Bool.false_and]; exact EvN
      simp only [if_neg c1, if_neg c3, show inB b = false from decide_eq_false (by omega), Bool.false_and]; exact EvN))
  unfold spec_l01Name.f nameM
  exact key
def cutB : List UInt8 := [97, 98, 99, 100, 101, 102, 103, 104, 105, 106, 107, 108, 109, 110, 111, 112, 113, 114, 115, 116, 117, 118, 119, 120, 121, 122, 48, 49, 50, 51, 52, 53, 54, 55, 56, 57]
theorem cut_in (b : UInt8) : cutB.contains b = inB b := by
  have h : ∀ n : Fin 256, cutB.contains (UInt8.ofNat n.val) = inB (UInt8.ofNat n.val) := by decide +kernel
  have := h ⟨b.toNat, b.toNat_lt⟩
  simpa using this
theorem dw_nil {α : Type} (p : α → Bool) : ∀ l : List α, l.dropWhile p = [] ↔ ∀ x ∈ l, p x = true
  | [] => by simp
  | a :: l => by
    rw [List.dropWhile_cons]
    by_cases h : p a = true
    · rw [if_pos h, dw_nil p l]
      simp [h]
    rw [if_neg h]
    simp [h]
theorem dw_head {α : Type} (p : α → Bool) : ∀ (l : List α) (x : α) (r : List α), l.dropWhile p = x :: r → p x = false
  | [], x, r, h => by simp at h
  | a :: l, x, r, h => by
    rw [List.dropWhile_cons] at h
    by_cases hp : p a = true
    · rw [if_pos hp] at h
      exact dw_head p l x r h
    rw [if_neg hp] at h
    injection h with h1 _
    rw [← h1]
    exact Bool.eq_false_iff.2 hp
theorem dw_mem {α : Type} (p : α → Bool) : ∀ (l : List α) (x : α), x ∈ l.dropWhile p → x ∈ l
  | [], x, h => by simp at h
  | a :: l, x, h => by
    rw [List.dropWhile_cons] at h
    by_cases hp : p a = true
    · rw [if_pos hp] at h
      exact List.mem_cons_of_mem _ (dw_mem p l x h)
    rw [if_neg hp] at h
    exact h
theorem trim_nil (l : List UInt8) : (Go.Lib.trimS l cutB == []) = l.all inB := by
  unfold Go.Lib.trimS Go.Lib.trimLeftS Go.Lib.trimRightS
  rw [Bool.eq_iff_iff, beq_iff_eq, dw_nil, List.all_eq_true]
  constructor
  · intro h
    have hd : l.reverse.dropWhile (cutB.contains ·) = [] := by
      cases hq : l.reverse.dropWhile (cutB.contains ·) with
      | nil => rfl
      | cons x r =>
        have h1 := h x (by rw [hq]; simp)
        have h2 := dw_head (cutB.contains ·) _ _ _ hq
        rw [h1] at h2
        cases h2
    rw [dw_nil] at hd
    intro x hx
    rw [← cut_in]
    exact hd x (List.mem_reverse.2 hx)
  intro h x hx
  rw [cut_in]
  exact h x (List.mem_reverse.1 (dw_mem _ _ _ (List.mem_reverse.1 hx)))
theorem impl_name (s : ByteArray) (hs : s.size ≤ 9223372036854775807) : impl_isFileName.f s = some (nameM s) := by
  unfold impl_isFileName.f nameM
  by_cases h1 : (s.size : Int) ≥ 1
  · by_cases h2 : (s.size : Int) ≤ 12
    · have ht : trimF.f s (⟨#[97, 98, 99, 100, 101, 102, 103, 104, 105, 106, 107, 108, 109, 110, 111, 112, 113, 114, 115, 116, 117, 118, 119, 120, 121, 122, 48, 49, 50, 51, 52, 53, 54, 55, 56, 57]⟩ : ByteArray) = some ⟨(Go.Lib.trimS s.data.toList cutB).toArray⟩ := by
        unfold trimF.f
        rw [if_pos ⟨hs, by decide, by decide⟩]
        rfl
      simp only [if_pos h1, if_pos h2, ht, Option.bind_some]
      rw [Go.Lib.toList_data, trim_nil, decide_eq_true (show 1 ≤ s.size ∧ s.size ≤ 12 by omega), Bool.and_true]
    simp only [if_pos h1, if_neg h2]
    rw [decide_eq_false (show ¬ (1 ≤ s.size ∧ s.size ≤ 12) by omega), Bool.and_false]
  simp only [if_neg h1]
  rw [decide_eq_false (show ¬ (1 ≤ s.size ∧ s.size ≤ 12) by omega), Bool.and_false]
end Go.Proofs.YtcgojdhbphocgaaDoor.DK

namespace Go.Proofs.YtcgojdhbphocgaaDoor.BY
set_option linter.unusedVariables false
set_option linter.unusedSimpArgs false
open Go.RowKit Go.Proofs.YtcgojdhbphocgaaDoor.F Go.Proofs.YtcgojdhbphocgaaDoor.PK Go.Proofs.YtcgojdhbphocgaaDoorW.PrintWords Go.Proofs.YtcgojdhbphocgaaDoorW.PrintLast
theorem rd_at (l : List Int) (i : Nat) (h : i < l.length) : rd l (i : Int) = l[i] := getD_nat l _ i h
theorem nxt (i n : Nat) (h : i < n) (hn : n ≤ 9223372036854775807) : wrap64 ((i : Int) + 1) = ((i + 1 : Nat) : Int) := by rw [w64 (by omega) (by omega)]; omega
theorem toByteS (l : List Int) (hl : l.length ≤ 1048576) : Ev (fun k => laws_toByteS.f k l) l := by
  have key := up (P := fun i => ∀ x : List Int, x.length = l.length → (∀ j : Nat, (j : Int) < i → x[j]? = l[j]?) → Ev (fun k => laws_toByteS.l0 k l x i) l) l.length
      (fun x h0 h1 => by
        have : x = l := List.ext_getElem? fun j => by
          by_cases hj : j < l.length
          · exact h1 j (by omega)
          rw [List.getElem?_eq_none (by omega), List.getElem?_eq_none (by omega)]
        subst this
        exact EvS (by simp only [laws_toByteS.l0, Int.lt_irrefl, if_false]; exact EvN))
      (fun i hi ih x h0 h1 => by
        refine EvS ?_
        simp only [laws_toByteS.l0, rd_at l i hi, Option.bind_some, h0, Int.toNat_natCast, if_pos (show (i : Int) < (l.length : Int) by omega), if_pos (show 0 ≤ (i : Int) by omega), nxt i _ hi (by omega)]
        refine ih _ (by simpa using h0) fun j hj => ?_
        by_cases hji : j = i
        · subst hji
          rw [List.getElem?_set_self (by omega)]
          simp [List.getElem?_eq_getElem hi]
        rw [List.getElem?_set_ne (by omega)]
        exact h1 j (by omega))
  have := key 0 (Nat.zero_le _) (List.replicate l.length 0) (by simp) (fun j hj => absurd hj (by omega))
  unfold laws_toByteS.f
  simp only [Int.toNat_natCast, if_pos (show 0 ≤ (l.length : Int) by omega), if_pos (show l.length ≤ 281474976710656 by omega)]
  exact this
theorem eqByteS (x : List Int) (hx : x.length ≤ 9223372036854775807) : Ev (fun k => laws_eqByteS.f k x x) true := by
  have key := up (P := fun i => Ev (fun k => laws_eqByteS.l0 k x x i) true) x.length
    (EvS (by simp only [laws_eqByteS.l0, Int.lt_irrefl, if_false]; exact EvN))
    (fun i hi ih => EvS (by simp only [laws_eqByteS.l0, if_true, Option.bind_some, if_pos (show (i : Int) < (x.length : Int) by omega), if_pos (show 0 ≤ (i : Int) by omega), nxt i _ hi hx]; exact ih))
  have := key 0 (Nat.zero_le _)
  unfold laws_eqByteS.f
  simp only [if_true]
  exact this
end Go.Proofs.YtcgojdhbphocgaaDoor.BY

namespace Go.Proofs.YtcgojdhbphocgaaDoor.DK
set_option linter.unusedVariables false
set_option linter.unusedSimpArgs false
open Go.RowKit Go.Proofs.YtcgojdhbphocgaaDoor.F Go.Proofs.YtcgojdhbphocgaaDoor.PK Go.Proofs.YtcgojdhbphocgaaDoorW.PrintWords Go.Proofs.YtcgojdhbphocgaaDoorW.PrintLast Go.Proofs.YtcgojdhbphocgaaDoorW.PrintMore
open Go.Proofs.YtcgojdhbphocgaaDoor.BY (toByteS eqByteS)
theorem rd55 (l : List S55) (i : Nat) (h : i < l.length) : rd_T55 l (i : Int) = l[i] := getD_nat l _ i h
theorem rd83 (l : List S83) (i : Nat) (h : i < l.length) : rd_T83 l (i : Int) = l[i] := getD_nat l _ i h
def conv83 (x : S83) : S55 := ⟨x.f0, x.f1, x.f2⟩
theorem toFile (a : ByteArray) (b c : List Int) (hb : b.length ≤ 1048576) (hc : c.length ≤ 1048576) : Ev (fun k => laws_toFile.f k a b c) (a, b, c) := by
  unfold laws_toFile.f
  simp only [EvB (toByteS b hb), EvB (toByteS c hc)]
  exact EvN
theorem toFileS (l : List S83) (hl : l.length ≤ 1048576) (hs : ∀ y ∈ l, y.f1.length ≤ 1048576 ∧ y.f2.length ≤ 1048576) : Ev (fun k => laws_toFileS.f k l) (l.map conv83) := by
  have key := up (P := fun i => ∀ x : List S55, x.length = l.length → (∀ j : Nat, (j : Int) < i → x[j]? = (l.map conv83)[j]?) → Ev (fun k => laws_toFileS.l0 k l x i) (l.map conv83)) l.length
      (fun x h0 h1 => by
        have : x = l.map conv83 := List.ext_getElem? fun j => by
          by_cases hj : j < l.length
          · exact h1 j (by omega)
          rw [List.getElem?_eq_none (by omega), List.getElem?_eq_none (by rw [List.length_map]; omega)]
        subst this
        exact EvS (by simp only [laws_toFileS.l0, Int.lt_irrefl, if_false]; exact EvN))
      (fun i hi ih x h0 h1 => by
        have hy := hs _ (List.getElem_mem hi)
        refine EvS ?_
        simp only [laws_toFileS.l0, rd83 l i hi, EvB (toFile l[i].f0 l[i].f1 l[i].f2 hy.1 hy.2), h0, Int.toNat_natCast, if_pos (show (i : Int) < (l.length : Int) by omega), if_pos (show 0 ≤ (i : Int) by omega), nxt i _ hi (by omega)]
        refine ih _ (by simpa using h0) fun j hj => ?_
        by_cases hji : j = i
        · subst hji
          rw [List.getElem?_set_self (by omega)]
          simp [List.getElem?_eq_getElem hi, conv83]
        rw [List.getElem?_set_ne (by omega)]
        exact h1 j (by omega))
  have := key 0 (Nat.zero_le _) (List.replicate l.length z55) (by simp) (fun j hj => absurd hj (by omega))
  unfold laws_toFileS.f
  have hS : (l.length ≤ 4398046511104) = True := eq_true (by omega)
  simp only [Int.toNat_natCast, if_pos (show 0 ≤ (l.length : Int) by omega), hS, if_true]
  exact this
theorem toDisk (l : List S83) (hl : l.length ≤ 1048576) (hs : ∀ y ∈ l, y.f1.length ≤ 1048576 ∧ y.f2.length ≤ 1048576) : Ev (fun k => laws_toDisk.f k l) (l.map conv83) := by
  unfold laws_toDisk.f
  simp only [EvB (toFileS l hl hs)]
  exact EvN
theorem szByteS (l : List Int) (c : Int) (h0 : 0 ≤ c) (h1 : c ≤ 1048576) (hl : l.length ≤ 9223372036854775807) : ∃ t, laws_szByteS.f l c = some t ∧ t ≤ c ∧ (0 ≤ t → (l.length : Int) ≤ c) := by
  unfold laws_szByteS.f
  rw [w64 (by omega) (by omega)]
  split
  · exact ⟨_, rfl, by omega, by omega⟩
  exact ⟨_, rfl, by omega, by omega⟩
theorem szFile (a : ByteArray) (b d : List Int) (c : Int) (h0 : 0 ≤ c) (h1 : c ≤ 1048576) (ha : a.size ≤ 9223372036854775807) (hb : b.length ≤ 9223372036854775807) (hd : d.length ≤ 9223372036854775807) : ∃ t, laws_szFile.f a b d c = some t ∧ t ≤ c ∧ (0 ≤ t → b.length ≤ 1048576 ∧ d.length ≤ 1048576) := by
  unfold laws_szFile.f
  rw [w64 (by omega) (by omega)]
  by_cases g : c - (a.size : Int) < 0
  · exact ⟨-1, by rw [if_pos g], by omega, by omega⟩
  obtain ⟨t, e, a1, a2⟩ := szByteS b (c - (a.size : Int)) (by omega) (by omega) hb
  by_cases g1 : t < 0
  · exact ⟨-1, by simp only [if_neg g, e, Option.bind_some, if_pos g1], by omega, by omega⟩
  obtain ⟨u, e2, b1, b2⟩ := szByteS d t (by omega) (by omega) hd
  by_cases g2 : u < 0
  · exact ⟨-1, by simp only [if_neg g, e, Option.bind_some, if_neg g1, e2, if_pos g2], by omega, by omega⟩
  exact ⟨u, by simp only [if_neg g, e, Option.bind_some, if_neg g1, e2, if_neg g2], by omega, by omega⟩
def wfF (l : List S83) : Prop := ∀ y ∈ l, y.f0.size ≤ 9223372036854775807 ∧ y.f1.length ≤ 9223372036854775807 ∧ y.f2.length ≤ 9223372036854775807
theorem szFileS (l : List S83) (hl : l.length ≤ 9223372036854775807) (hs : wfF l) : ∃ t, Ev (fun k => laws_szFileS.f k l 1048576) t ∧ (0 ≤ t → l.length ≤ 1048576 ∧ ∀ y ∈ l, y.f1.length ≤ 1048576 ∧ y.f2.length ≤ 1048576) := by
  by_cases h : (1048576 - (l.length : Int)) < 0
  · refine ⟨-1, ?_, by omega⟩
    unfold laws_szFileS.f
    rw [w64 (by omega) (by omega)]
    simp only [if_pos h]
    exact EvN
  have key := up (P := fun i => ∀ x, 0 ≤ x → x ≤ 1048576 → ∃ t, Ev (fun k => laws_szFileS.l0 k l x i) t ∧ (0 ≤ t → ∀ y ∈ l.drop i.toNat, y.f1.length ≤ 1048576 ∧ y.f2.length ≤ 1048576)) l.length
    (fun x g0 g1 => ⟨x, EvS (by simp only [laws_szFileS.l0, Int.lt_irrefl, if_false]; exact EvN), fun _ y hy => by rw [Int.toNat_natCast, List.drop_length] at hy; cases hy⟩)
    (fun i hi ih x g0 g1 => by
      have hz := hs _ (List.getElem_mem hi)
      obtain ⟨t, e1, e2, e3⟩ := szFile l[i].f0 l[i].f1 l[i].f2 x g0 g1 hz.1 hz.2.1 hz.2.2
      by_cases h2 : t < 0
      · refine ⟨-1, EvS ?_, by omega⟩
        simp only [laws_szFileS.l0, rd83 l i hi, e1, Option.bind_some, if_pos h2, if_pos (show (i : Int) < (l.length : Int) by omega), if_pos (show 0 ≤ (i : Int) by omega)]
        exact EvN
      obtain ⟨t', h3, h4⟩ := ih t (by omega) (by omega)
      refine ⟨t', EvS ?_, fun ht y hy => ?_⟩
      · simp only [laws_szFileS.l0, rd83 l i hi, e1, Option.bind_some, if_neg h2, if_pos (show (i : Int) < (l.length : Int) by omega), if_pos (show 0 ≤ (i : Int) by omega), nxt i _ hi hl]
        exact h3
      rw [Int.toNat_natCast, drop_at l i hi] at hy
      rcases List.mem_cons.1 hy with rfl | hy
      · exact e3 (by omega)
      exact h4 ht y (by rw [Int.toNat_natCast]; exact hy))
  obtain ⟨t, h2, h3⟩ := key 0 (Nat.zero_le _) (1048576 - (l.length : Int)) (by omega) (by omega)
  refine ⟨t, ?_, fun ht => ⟨by omega, fun y hy => h3 ht y (by simpa using hy)⟩⟩
  unfold laws_szFileS.f
  rw [w64 (by omega) (by omega)]
  simp only [if_neg h]
  exact h2
theorem szDisk (l : List S83) (hl : l.length ≤ 9223372036854775807) (hs : wfF l) : ∃ t, Ev (fun k => laws_szDisk.f k l 1048576) t ∧ (0 ≤ t → l.length ≤ 1048576 ∧ ∀ y ∈ l, y.f1.length ≤ 1048576 ∧ y.f2.length ≤ 1048576) := by
  obtain ⟨t, h1, h2⟩ := szFileS l hl hs
  unfold laws_szDisk.f
  by_cases h : t < 0
  · exact ⟨-1, by simp only [EvB h1, if_pos h]; exact EvN, by omega⟩
  exact ⟨t, by simp only [EvB h1, if_neg h]; exact EvN, h2⟩
theorem eqFile (a : ByteArray) (b c : List Int) (hb : b.length ≤ 9223372036854775807) (hc : c.length ≤ 9223372036854775807) : Ev (fun k => laws_eqFile.f k a b c a b c) true := by
  unfold laws_eqFile.f
  simp only [if_true, EvB (eqByteS b hb), EvB (eqByteS c hc)]
  exact EvN
theorem eqFileS (x : List S55) (hx : x.length ≤ 9223372036854775807) (hy : ∀ y ∈ x, y.f1.length ≤ 9223372036854775807 ∧ y.f2.length ≤ 9223372036854775807) : Ev (fun k => laws_eqFileS.f k x x) true := by
  have key := up (P := fun i => Ev (fun k => laws_eqFileS.l0 k x x i) true) x.length
    (EvS (by simp only [laws_eqFileS.l0, Int.lt_irrefl, if_false]; exact EvN))
    (fun i hi ih => EvS (by
      have e := eqFile x[i].f0 x[i].f1 x[i].f2 (hy _ (List.getElem_mem hi)).1 (hy _ (List.getElem_mem hi)).2
      simp only [laws_eqFileS.l0, rd55 x i hi, if_pos (show (i : Int) < (x.length : Int) by omega), if_pos (show 0 ≤ (i : Int) by omega), EvB e, if_true, nxt i _ hi hx]; exact ih))
  have := key 0 (Nat.zero_le _)
  unfold laws_eqFileS.f
  simp only [if_true]
  exact this
theorem eqDisk (x : List S55) (hx : x.length ≤ 9223372036854775807) (hy : ∀ y ∈ x, y.f1.length ≤ 9223372036854775807 ∧ y.f2.length ≤ 9223372036854775807) : Ev (fun k => laws_eqDisk.f k x x) true := by
  unfold laws_eqDisk.f
  simp only [EvB (eqFileS x hx hy), if_true]
  exact EvN
def okAt (l : List S55) (i : Nat) : Bool := nameM (rd_T55 l i).f0 && (decide ((rd_T55 l i).f1.length + (rd_T55 l i).f2.length ≤ 20000) && (decide (i = 0) || Op.bytesLess (rd_T55 l ((i - 1 : Nat) : Int)).f0.toList (rd_T55 l i).f0.toList))
def goD (l : List S55) : Nat → Nat → Bool
  | 0, _ => true
  | d + 1, i => okAt l i && goD l d (i + 1)
def diskM (l : List S55) : Bool := decide (l.length ≤ 8) && goD l l.length 0
def wfD (l : List S55) : Prop := ∀ y ∈ l, y.f0.size ≤ 9223372036854775807 ∧ y.f1.length ≤ 1048576 ∧ y.f2.length ≤ 1048576
theorem specGo (l : List S55) (hl : l.length ≤ 1048576) (hw : wfD l) : ∀ d i : Nat, d + i = l.length → Ev (fun k => spec_DiskOk.l0 k i l) (goD l d i) := by
  intro d
  induction d with
  | zero =>
    intro i hi
    refine EvS ?_
    simp only [spec_DiskOk.l0, if_neg (show ¬ (i : Int) < (l.length : Int) by omega)]
    exact EvN
  | succ d ih =>
    intro i hi
    have hil : i < l.length := by omega
    have hy := hw _ (List.getElem_mem hil)
    refine EvS ?_
    have hn := spec_name l[i].f0 hy.1
    have h := ih (i + 1) (by omega)
    rw [← rd55 l i hil] at hn hy
    unfold goD okAt
    simp only [spec_DiskOk.l0, if_pos (show (i : Int) < (l.length : Int) by omega), if_pos (show 0 ≤ (i : Int) by omega), EvB hn, nxt i _ hil (by omega)]
    generalize rd_T55 l (i : Int) = y at hy hn ⊢
    by_cases c1 : nameM y.f0 = true
    · by_cases c2 : (y.f1.length : Int) > 20000
      · simp only [if_pos c1, if_pos c2, decide_eq_false (show ¬ y.f1.length + y.f2.length ≤ 20000 by omega), Bool.false_and, Bool.and_false]; exact EvN
      have hw1 : wrap64 (20000 - (y.f1.length : Int)) = 20000 - (y.f1.length : Int) := w64 (by omega) (by omega)
      by_cases c3 : (y.f2.length : Int) > 20000 - (y.f1.length : Int)
      · simp only [if_pos c1, if_neg c2, hw1, if_pos c3, decide_eq_false (show ¬ y.f1.length + y.f2.length ≤ 20000 by omega), Bool.false_and, Bool.and_false]; exact EvN
      simp only [if_pos c1, if_neg c2, hw1, if_neg c3, c1, decide_eq_true (show y.f1.length + y.f2.length ≤ 20000 by omega), Bool.true_and]
      by_cases c4 : i = 0
      · simp only [if_neg (show ¬ (i : Int) > 0 by omega), decide_eq_true c4, Bool.true_or, Bool.true_and]; exact h
      have hw2 : wrap64 ((i : Int) - 1) = ((i - 1 : Nat) : Int) := by rw [w64 (by omega) (by omega)]; omega
      simp only [if_pos (show (i : Int) > 0 by omega), hw2, if_pos (show 0 ≤ ((i - 1 : Nat) : Int) by omega), if_pos (show ((i - 1 : Nat) : Int) < (l.length : Int) by omega), decide_eq_false c4, Bool.false_or]
      by_cases c5 : Op.bytesLess (rd_T55 l ((i - 1 : Nat) : Int)).f0.toList y.f0.toList = true
      · simp only [if_pos c5, c5, Bool.true_and]; exact h
      simp only [if_neg c5, Bool.eq_false_iff.2 c5, Bool.false_and]; exact EvN
    simp only [if_neg c1, Bool.eq_false_iff.2 c1, Bool.false_and]; exact EvN
theorem implGo (l : List S55) (hl : l.length ≤ 1048576) (hw : wfD l) : ∀ d i : Nat, d + i = l.length → Ev (fun k => impl_isDisk.l0 k l (l.length : Int) i l) (goD l d i && decide (l.length ≤ 8)) := by
  intro d
  induction d with
  | zero =>
    intro i hi
    refine EvS ?_
    simp only [impl_isDisk.l0, if_neg (show ¬ (i : Int) < (l.length : Int) by omega), goD, Bool.true_and]
    rw [show decide ((l.length : Int) ≤ 8) = decide (l.length ≤ 8) from decide_eq_decide.2 (by omega)]
    exact EvN
  | succ d ih =>
    intro i hi
    have hil : i < l.length := by omega
    have hy := hw _ (List.getElem_mem hil)
    refine EvS ?_
    have hn := impl_name l[i].f0 hy.1
    have h := ih (i + 1) (by omega)
    rw [← rd55 l i hil] at hn hy
    unfold goD okAt
    simp only [impl_isDisk.l0, if_pos (show (i : Int) < (l.length : Int) by omega), if_pos (show 0 ≤ (i : Int) by omega), hn, Option.bind_some, nxt i _ hil (by omega)]
    generalize rd_T55 l (i : Int) = y at hy hn ⊢
    by_cases c1 : nameM y.f0 = true
    · have hw1 : wrap64 ((y.f1.length : Int) + (y.f2.length : Int)) = (y.f1.length : Int) + (y.f2.length : Int) := w64 (by omega) (by omega)
      by_cases c3 : (y.f1.length : Int) + (y.f2.length : Int) > 20000
      · simp only [if_pos c1, hw1, if_pos c3, decide_eq_false (show ¬ y.f1.length + y.f2.length ≤ 20000 by omega), Bool.false_and, Bool.and_false]; exact EvN
      simp only [if_pos c1, hw1, if_neg c3, c1, decide_eq_true (show y.f1.length + y.f2.length ≤ 20000 by omega), Bool.true_and]
      by_cases c4 : i = 0
      · simp only [if_neg (show ¬ (i : Int) > 0 by omega), decide_eq_true c4, Bool.true_or, Bool.true_and]; exact h
      have hw2 : wrap64 ((i : Int) - 1) = ((i - 1 : Nat) : Int) := by rw [w64 (by omega) (by omega)]; omega
      simp only [if_pos (show (i : Int) > 0 by omega), hw2, if_pos (show 0 ≤ ((i - 1 : Nat) : Int) by omega), if_pos (show ((i - 1 : Nat) : Int) < (l.length : Int) by omega), decide_eq_false c4, Bool.false_or]
      by_cases c5 : Op.bytesLess (rd_T55 l ((i - 1 : Nat) : Int)).f0.toList y.f0.toList = true
      · simp only [if_pos c5, c5, Bool.true_and]; exact h
      simp only [if_neg c5, Bool.eq_false_iff.2 c5, Bool.false_and]; exact EvN
    simp only [if_neg c1, Bool.eq_false_iff.2 c1, Bool.false_and]; exact EvN
theorem spec_disk (l : List S55) (hl : l.length ≤ 1048576) (hw : wfD l) : Ev (fun k => spec_DiskOk.f k l) (diskM l) := by
  unfold spec_DiskOk.f diskM
  by_cases h : l.length ≤ 8
  · simp only [if_neg (show ¬ (l.length : Int) > 8 by omega), decide_eq_true h, Bool.true_and]
    exact specGo l hl hw l.length 0 rfl
  simp only [if_pos (show (l.length : Int) > 8 by omega), decide_eq_false h, Bool.false_and]
  exact EvN
theorem impl_disk (l : List S55) (hl : l.length ≤ 1048576) (hw : wfD l) : Ev (fun k => impl_isDisk.f k l) (diskM l) := by
  unfold impl_isDisk.f diskM
  rw [Bool.and_comm]
  exact implGo l hl hw l.length 0 rfl
end Go.Proofs.YtcgojdhbphocgaaDoor.DK

namespace Go.Proofs.YtcgojdhbphocgaaDoor.F
open Go.Proofs.YtcgojdhbphocgaaDoor
open Go.RowKit Go.Proofs.YtcgojdhbphocgaaDoorW.PrintWords Go.Proofs.YtcgojdhbphocgaaDoorW.PrintWords.Kd Go.Proofs.YtcgojdhbphocgaaDoorW.PrintMore.Kd Go.Proofs.YtcgojdhbphocgaaDoorW.PrintLast Go.Proofs.YtcgojdhbphocgaaDoorW.PrintMore
attribute [local go_sem] max2_int min2_int max_two min_two max_three min_three max_four min_four   -- for this text's walks alone
set_option linter.unusedVariables false
set_option linter.unusedSimpArgs false
end Go.Proofs.YtcgojdhbphocgaaDoor.F

namespace Go.Proofs.YtcgojdhbphocgaaDoor.F
open Go.RowKit Go.Proofs.YtcgojdhbphocgaaDoorW.PrintWords Go.Proofs.YtcgojdhbphocgaaDoorW.PrintWords.Kd Go.Proofs.YtcgojdhbphocgaaDoorW.PrintMore.Kd Go.Proofs.YtcgojdhbphocgaaDoorW.PrintLast Go.Proofs.YtcgojdhbphocgaaDoorW.PrintMore
attribute [local go_sem] max2_int min2_int max_two min_two max_three min_three max_four min_four   -- for this text's walks alone
set_option linter.unusedVariables false
set_option linter.unusedSimpArgs false
end Go.Proofs.YtcgojdhbphocgaaDoor.F

namespace Go.Proofs.YtcgojdhbphocgaaDoor.DK
set_option linter.unusedVariables false
set_option linter.unusedSimpArgs false
open Go.RowKit Go.Proofs.YtcgojdhbphocgaaDoor.F Go.Proofs.YtcgojdhbphocgaaDoor.PK Go.Proofs.YtcgojdhbphocgaaDoorW.PrintWords Go.Proofs.YtcgojdhbphocgaaDoorW.PrintLast Go.Proofs.YtcgojdhbphocgaaDoorW.PrintMore
theorem rdI (l : List Int) (i : Nat) (h : i < l.length) : rd l (i : Int) = l[i] := getD_nat l _ i h
theorem bytesS (l : List Int) (hl : l.length ≤ 1000000000) : Ev (fun k => spec_l01Bytes.f k l) l := by
  have key := up0 (P := fun i => Ev (fun k => spec_l01Bytes.l0 k l (l.take i.toNat) i) l) l.length
    (EvS (by simp only [spec_l01Bytes.l0, Int.lt_irrefl, if_false, Int.toNat_natCast, List.take_length]; exact EvN))
    (fun i hi ih => EvS (by
      simp only [spec_l01Bytes.l0, if_pos (show (i : Int) < (l.length : Int) by omega), if_pos (show 0 ≤ (i : Int) by omega), Int.toNat_natCast, rdI l i hi, nxt i _ hi (by omega), if_pos (show (l.take i).length < 140737488355328 by rw [List.length_take]; omega)]
      rw [Int.toNat_natCast, List.take_add_one, List.getElem?_eq_getElem hi] at ih
      exact ih))
  unfold spec_l01Bytes.f
  exact key
theorem joinS (l m : List Int) (hl : l.length ≤ 1000000000) (hm : m.length ≤ 1000000000) : Ev (fun k => spec_l01Join.f k l m) (l ++ m) := by
  have key := up0 (P := fun i => Ev (fun k => spec_l01Join.l0 k m (l ++ m.take i.toNat) i) (l ++ m)) m.length
    (EvS (by simp only [spec_l01Join.l0, Int.lt_irrefl, if_false, Int.toNat_natCast, List.take_length]; exact EvN))
    (fun i hi ih => EvS (by
      simp only [spec_l01Join.l0, if_pos (show (i : Int) < (m.length : Int) by omega), if_pos (show 0 ≤ (i : Int) by omega), Int.toNat_natCast, rdI m i hi, nxt i _ hi (by omega), if_pos (show (l ++ m.take i).length < 140737488355328 by rw [List.length_append, List.length_take]; omega)]
      rw [Int.toNat_natCast, List.take_add_one, List.getElem?_eq_getElem hi, ← List.append_assoc] at ih
      exact ih))
  unfold spec_l01Join.f
  simp only [EvB (bytesS l hl)]
  have e : l ++ m.take (0 : Int).toNat = l := by simp
  rw [e] at key
  exact key
def isN (a : ByteArray) : ByteArray → Bool := fun s => s.toList == a.toList
theorem find_ev (l : List S55) (a : ByteArray) (hl : l.length ≤ 1048576) : Ev (fun k => spec_l03Find.f k l a) (idxF (isN a) l 0) := by
  have key := up0 (P := fun i => Ev (fun k => spec_l03Find.l0 k a i l) (idxF (isN a) (l.drop i.toNat) i)) l.length
    (EvS (by
      simp only [spec_l03Find.l0, Int.lt_irrefl, if_false, Int.toNat_natCast, List.drop_length, idxF]
      exact EvN))
    (fun i hi ih => EvS (by
      rw [Int.toNat_natCast] at *
      rw [drop_at l i hi]
      simp only [spec_l03Find.l0, if_pos (show (i : Int) < (l.length : Int) by omega), if_pos (show 0 ≤ (i : Int) by omega), rd55 l i hi, nxt i _ hi (by omega), idxF]
      by_cases h : l[i].f0.toList = a.toList
      · simp only [if_pos h, isN, beq_iff_eq.2 h, if_true]; exact EvN
      simp only [if_neg h, isN, beq_eq_false_iff_ne.2 h, Bool.false_eq_true, if_false]
      exact ih))
  unfold spec_l03Find.f
  exact key
end Go.Proofs.YtcgojdhbphocgaaDoor.DK

namespace Go.Proofs.YtcgojdhbphocgaaDoor.F
open Go.Proofs.YtcgojdhbphocgaaDoor
open Go.RowKit Go.Proofs.YtcgojdhbphocgaaDoorW.PrintWords Go.Proofs.YtcgojdhbphocgaaDoorW.PrintWords.Kd Go.Proofs.YtcgojdhbphocgaaDoorW.PrintMore.Kd Go.Proofs.YtcgojdhbphocgaaDoorW.PrintLast Go.Proofs.YtcgojdhbphocgaaDoorW.PrintMore
attribute [local go_sem] max2_int min2_int max_two min_two max_three min_three max_four min_four   -- for this text's walks alone
set_option linter.unusedVariables false
set_option linter.unusedSimpArgs false
end Go.Proofs.YtcgojdhbphocgaaDoor.F

namespace Go.Proofs.YtcgojdhbphocgaaDoor.DK
set_option linter.unusedVariables false
set_option linter.unusedSimpArgs false
open Go.RowKit Go.Proofs.YtcgojdhbphocgaaDoor.F Go.Proofs.YtcgojdhbphocgaaDoor.PK Go.Proofs.YtcgojdhbphocgaaDoorW.PrintWords Go.Proofs.YtcgojdhbphocgaaDoorW.PrintLast Go.Proofs.YtcgojdhbphocgaaDoorW.PrintMore
theorem lt_irr : ∀ a : List UInt8, Op.bytesLess a a = false
  | [] => rfl
  | x :: r => by simp [Op.bytesLess, lt_irr r]
theorem lt_trans : ∀ a b c : List UInt8, Op.bytesLess a b = true → Op.bytesLess b c = true → Op.bytesLess a c = true
  | a, b, [], _, h => by cases b <;> simp [Op.bytesLess] at h
  | [], b, z :: c, _, _ => rfl
  | x :: a, [], z :: c, h, _ => by simp [Op.bytesLess] at h
  | x :: a, y :: b, z :: c, h, h' => by
    simp only [Op.bytesLess, Bool.or_eq_true, decide_eq_true_eq, Bool.and_eq_true, beq_iff_eq, UInt8.lt_iff_toNat_lt] at h h' ⊢
    rcases h with h | ⟨rfl, h⟩
    · rcases h' with h' | ⟨rfl, h'⟩
      · exact .inl (by omega)
      exact .inl h
    rcases h' with h' | ⟨rfl, h'⟩
    · exact .inl h'
    exact .inr ⟨rfl, lt_trans a b c h h'⟩
theorem lt_ne {a b : List UInt8} (h : Op.bytesLess a b = true) : a ≠ b := by
  rintro rfl
  rw [lt_irr] at h
  cases h
theorem lt_total : ∀ a b : List UInt8, Op.bytesLess a b = false → Op.bytesLess b a = false → a = b
  | [], [], _, _ => rfl
  | [], y :: b, h, _ => by simp [Op.bytesLess] at h
  | x :: a, [], _, h => by simp [Op.bytesLess] at h
  | x :: a, y :: b, h, h' => by
    simp only [Op.bytesLess, Bool.or_eq_false_iff, decide_eq_false_iff_not, Bool.and_eq_false_iff, beq_eq_false_iff_ne, UInt8.lt_iff_toNat_lt] at h h'
    have e : x = y := UInt8.toNat_inj.1 (by omega)
    subst e
    rw [lt_total a b (h.2.resolve_left (fun h => h rfl)) (h'.2.resolve_left (fun h => h rfl))]
def nm (x : S55) : List UInt8 := x.f0.toList
def srt (l : List S55) : Prop := ∀ i j : Nat, i < j → ∀ x y, l[i]? = some x → l[j]? = some y → Op.bytesLess (nm x) (nm y) = true
theorem goD_at (l : List S55) : ∀ d i : Nat, goD l d i = true → ∀ j, i ≤ j → j < i + d → okAt l j = true := by
  intro d
  induction d with
  | zero => intro i _ j _ _; omega
  | succ d ih =>
    intro i h j h1 h2
    unfold goD at h
    rw [Bool.and_eq_true] at h
    by_cases e : j = i
    · subst e; exact h.1
    exact ih (i + 1) h.2 j (by omega) (by omega)
theorem goD_of (l : List S55) : ∀ d i : Nat, (∀ j, i ≤ j → j < i + d → okAt l j = true) → goD l d i = true := by
  intro d
  induction d with
  | zero => intro i _; rfl
  | succ d ih =>
    intro i h
    unfold goD
    rw [Bool.and_eq_true]
    exact ⟨h i (by omega) (by omega), ih (i + 1) (fun j h1 h2 => h j (by omega) (by omega))⟩
theorem disk_srt {l : List S55} (h : diskM l = true) : srt l := by
  unfold diskM at h
  rw [Bool.and_eq_true] at h
  have hk := goD_at l _ _ h.2
  have step : ∀ j, j + 1 < l.length → Op.bytesLess (nm (l.getD j z55)) (nm (l.getD (j + 1) z55)) = true := by
    intro j hj
    have := hk (j + 1) (by omega) (by omega)
    unfold okAt at this
    rw [Bool.and_eq_true, Bool.and_eq_true, Bool.or_eq_true] at this
    have h3 := this.2.2.resolve_left (by simp)
    simpa [rd_T55, nm] using h3
  have key : ∀ j i : Nat, i < j → j < l.length → Op.bytesLess (nm (l.getD i z55)) (nm (l.getD j z55)) = true := by
    intro j
    induction j with
    | zero => intro i h1; omega
    | succ j ih =>
      intro i h1 h2
      by_cases e : i = j
      · subst e; exact step i h2
      exact lt_trans _ _ _ (ih i (by omega) (by omega)) (step j h2)
  intro i j hij x y hx hy
  have h1 := (List.getElem?_eq_some_iff.1 hy).1
  have := key j i hij h1
  rw [List.getD_eq_getElem?_getD, List.getD_eq_getElem?_getD, hx, hy] at this
  exact this
theorem idxF_at (p : ByteArray → Bool) : ∀ (l : List S55) (s : Int), (idxF p l s = -1 ∧ ∀ x ∈ l, p x.f0 = false) ∨ (∃ m : Nat, ∃ x, idxF p l s = s + m ∧ l[m]? = some x ∧ p x.f0 = true ∧ ∀ (j : Nat) (y : S55), j < m → l[j]? = some y → p y.f0 = false) := by
  intro l
  induction l with
  | nil => intro s; exact .inl ⟨rfl, fun x hx => by cases hx⟩
  | cons x t ih =>
    intro s
    unfold idxF
    by_cases h : p x.f0 = true
    · rw [if_pos h]
      exact .inr ⟨0, x, by simp, rfl, h, fun j y hj => by omega⟩
    rw [if_neg h]
    rcases ih (s + 1) with ⟨h1, h2⟩ | ⟨m, y, h1, h2, h3, h4⟩
    · refine .inl ⟨h1, fun y hy => ?_⟩
      rcases List.mem_cons.1 hy with rfl | hy
      · exact Bool.eq_false_iff.2 h
      exact h2 y hy
    refine .inr ⟨m + 1, y, by rw [h1]; omega, by rw [List.getElem?_cons_succ]; exact h2, h3, fun j z hj hz => ?_⟩
    cases j with
    | zero => simp only [List.getElem?_cons_zero, Option.some.injEq] at hz; subst hz; exact Bool.eq_false_iff.2 h
    | succ j => rw [List.getElem?_cons_succ] at hz; exact h4 j z (by omega) hz
def notN (a : ByteArray) : S55 → Bool := fun x => !isN a x.f0
theorem filter_all {α : Type} {p : α → Bool} {l : List α} (h : ∀ x ∈ l, p x = true) : l.filter p = l := List.filter_eq_self.2 h
theorem split_at {α : Type} (l : List α) (m : Nat) (x : α) (h : l[m]? = some x) : l = l.take m ++ x :: l.drop (m + 1) := by
  obtain ⟨h1, h2⟩ := List.getElem?_eq_some_iff.1 h
  conv => lhs; rw [← List.take_append_drop m l, List.drop_eq_getElem_cons h1, h2]
theorem copyS (l : List S55) (hl : l.length ≤ 100000000) (hw : ∀ y ∈ l, y.f1.length ≤ 100000000 ∧ y.f2.length ≤ 100000000) : Ev (fun k => spec_l03Copy.f k l) l := by
  have key := up0 (P := fun i => Ev (fun k => spec_l03Copy.l0 k i l (l.take i.toNat)) l) l.length
    (EvS (by simp only [spec_l03Copy.l0, Int.lt_irrefl, if_false, Int.toNat_natCast, List.take_length]; exact EvN))
    (fun i hi ih => EvS (by
      have hy := hw _ (List.getElem_mem hi)
      simp only [spec_l03Copy.l0, if_pos (show (i : Int) < (l.length : Int) by omega), if_pos (show 0 ≤ (i : Int) by omega), Int.toNat_natCast, rd55 l i hi, EvB (bytesS _ (show l[i].f1.length ≤ 1000000000 by omega)), EvB (bytesS _ (show l[i].f2.length ≤ 1000000000 by omega)), nxt i _ hi (by omega), if_pos (show (l.take i).length < 2199023255552 by rw [List.length_take]; omega)]
      rw [Int.toNat_natCast, List.take_add_one, List.getElem?_eq_getElem hi] at ih
      exact ih))
  unfold spec_l03Copy.f
  exact key
theorem copyI (l : List S55) (hl : l.length ≤ 100000000) (hw : ∀ y ∈ l, y.f1.length ≤ 100000000 ∧ y.f2.length ≤ 100000000) : Ev (fun k => impl_copyDisk.f k l) l := by
  have key := up0 (P := fun i => Ev (fun k => impl_copyDisk.l0 k l (l.length : Int) i (l.take i.toNat)) l) l.length
    (EvS (by simp only [impl_copyDisk.l0, Int.lt_irrefl, if_false, Int.toNat_natCast, List.take_length]; exact EvN))
    (fun i hi ih => EvS (by
      have hy := hw _ (List.getElem_mem hi)
      simp only [impl_copyDisk.l0, if_pos (show (i : Int) < (l.length : Int) by omega), if_pos (show 0 ≤ (i : Int) by omega), Int.toNat_natCast, rd55 l i hi, Option.bind_some, if_pos (show ([] : List Int).length + l[i].f1.length < 140737488355328 by rw [List.length_nil]; omega), if_pos (show ([] : List Int).length + l[i].f2.length < 140737488355328 by rw [List.length_nil]; omega), List.nil_append, nxt i _ hi (by omega), if_pos (show (l.take i).length < 2199023255552 by rw [List.length_take]; omega)]
      rw [Int.toNat_natCast, List.take_add_one, List.getElem?_eq_getElem hi] at ih
      exact ih))
  unfold impl_copyDisk.f
  exact key
def lessN (a : ByteArray) : S55 → Bool := fun x => Op.bytesLess (nm x) a.toList
def putGo (f : S55) : Bool → List S55 → List S55 → List S55
  | b, [], out => if b = true then out else out ++ [f]
  | true, x :: r, out => if nm x = nm f then putGo f true r out else putGo f true r (out ++ [x])
  | false, x :: r, out => if lessN f.f0 x = true then (if nm x = nm f then putGo f false r out else putGo f false r (out ++ [x])) else (if nm x = nm f then putGo f true r (out ++ [f]) else putGo f true r (out ++ [f] ++ [x]))
theorem putGo_true (f : S55) : ∀ (l out : List S55), putGo f true l out = out ++ l.filter (notN f.f0)
  | [], out => by simp [putGo]
  | x :: r, out => by
    unfold putGo
    by_cases c : nm x = nm f
    · rw [if_pos c, putGo_true f r out, List.filter_cons, if_neg (by simp [notN, isN]; exact c)]
    rw [if_neg c, putGo_true f r _, List.filter_cons, if_pos (by simp [notN, isN]; exact c), List.append_assoc]; rfl
theorem putGo_false (f : S55) : ∀ (l out : List S55), putGo f false l out = out ++ l.takeWhile (lessN f.f0) ++ f :: (l.dropWhile (lessN f.f0)).filter (notN f.f0)
  | [], out => by simp [putGo]
  | x :: r, out => by
    unfold putGo
    by_cases h : lessN f.f0 x = true
    · have c : ¬ nm x = nm f := lt_ne h
      rw [if_pos h, if_neg c, putGo_false f r _, List.takeWhile_cons_of_pos h, List.dropWhile_cons_of_pos h]
      simp
    rw [if_neg h, List.takeWhile_cons_of_neg h, List.dropWhile_cons_of_neg h]
    by_cases c : nm x = nm f
    · rw [if_pos c, putGo_true, List.filter_cons, if_neg (by simp [notN, isN]; exact c)]
      simp
    rw [if_neg c, putGo_true, List.filter_cons, if_pos (by simp [notN, isN]; exact c)]
    simp
def putM (l : List S55) (f : S55) : List S55 := l.takeWhile (lessN f.f0) ++ f :: (l.dropWhile (lessN f.f0)).filter (notN f.f0)
theorem put_len (f : S55) : ∀ (b : Bool) (l out : List S55), (putGo f b l out).length ≤ out.length + l.length + 1 := by
  intro b l out
  cases b with
  | true => rw [putGo_true, List.length_append]; have := List.length_filter_le (notN f.f0) l; omega
  | false =>
    rw [putGo_false]
    have h1 := List.length_filter_le (notN f.f0) (l.dropWhile (lessN f.f0))
    have h2 : (l.takeWhile (lessN f.f0)).length + (l.dropWhile (lessN f.f0)).length = l.length := by rw [← List.length_append, List.takeWhile_append_dropWhile]
    simp only [List.length_append, List.length_cons]
    omega
theorem put_mem (f : S55) (l : List S55) : ∀ y ∈ putM l f, y = f ∨ y ∈ l := by
  intro y hy
  rcases List.mem_append.1 hy with h | h
  · exact .inr ((List.takeWhile_sublist _).subset h)
  rcases List.mem_cons.1 h with h | h
  · exact .inl h
  exact .inr ((List.dropWhile_sublist _).subset (List.mem_filter.1 h).1)
end Go.Proofs.YtcgojdhbphocgaaDoor.DK

namespace Go.Proofs.YtcgojdhbphocgaaDoor.F
open Go.RowKit Go.Proofs.YtcgojdhbphocgaaDoorW.PrintWords Go.Proofs.YtcgojdhbphocgaaDoorW.PrintWords.Kd Go.Proofs.YtcgojdhbphocgaaDoorW.PrintMore.Kd Go.Proofs.YtcgojdhbphocgaaDoorW.PrintLast Go.Proofs.YtcgojdhbphocgaaDoorW.PrintMore
attribute [local go_sem] max2_int min2_int max_two min_two max_three min_three max_four min_four   -- for this text's walks alone
set_option linter.unusedVariables false
set_option linter.unusedSimpArgs false
end Go.Proofs.YtcgojdhbphocgaaDoor.F

namespace Go.Proofs.YtcgojdhbphocgaaDoor.F
open Go.RowKit Go.Proofs.YtcgojdhbphocgaaDoorW.PrintWords Go.Proofs.YtcgojdhbphocgaaDoorW.PrintLast Go.Proofs.YtcgojdhbphocgaaDoorW.PrintMore
open Go.Proofs.YtcgojdhbphocgaaDoor
set_option linter.unusedVariables false
set_option linter.unusedSimpArgs false
end Go.Proofs.YtcgojdhbphocgaaDoor.F

namespace Go.Proofs.YtcgojdhbphocgaaDoor.DK
set_option linter.unusedVariables false
set_option linter.unusedSimpArgs false
open Go.RowKit Go.Proofs.YtcgojdhbphocgaaDoor.F Go.Proofs.YtcgojdhbphocgaaDoor.PK Go.Proofs.YtcgojdhbphocgaaDoorW.PrintWords Go.Proofs.YtcgojdhbphocgaaDoorW.PrintLast Go.Proofs.YtcgojdhbphocgaaDoorW.PrintMore
theorem wfD_le {l : List S55} (hw : wfD l) : ∀ y ∈ l, y.f1.length ≤ 100000000 ∧ y.f2.length ≤ 100000000 := fun y hy => by have := hw y hy; omega
theorem putS (l : List S55) (f : S55) (hl : l.length ≤ 10000000) (hw : ∀ y ∈ l, y.f1.length ≤ 100000000 ∧ y.f2.length ≤ 100000000) (hf : f.f1.length ≤ 100000000 ∧ f.f2.length ≤ 100000000) : Ev (fun k => spec_l03Put.f k l f.f0 f.f1 f.f2) (putM l f) := by
  have hsz : (putM l f).length ≤ 100000000 := by
    have := put_len f false l []
    rw [putGo_false, List.length_nil] at this
    simp only [List.nil_append] at this
    show (l.takeWhile (lessN f.f0) ++ f :: (l.dropWhile (lessN f.f0)).filter (notN f.f0)).length ≤ _
    omega
  have fin : Ev (fun k => spec_l03Copy.f k (putM l f)) (putM l f) := copyS _ hsz (fun y hy => by
    rcases put_mem f l y hy with rfl | h
    · exact hf
    exact hw y h)
  have key : ∀ d i : Nat, d + i = l.length → ∀ (b : Bool) (out : List S55), out.length ≤ 2 * i → putGo f b (l.drop i) out = putM l f → Ev (fun k => spec_l03Put.l0 k b i l f.f0 f.f1 f.f2 out) (putM l f) := by
    intro d
    induction d with
    | zero =>
      intro i hi b out h1 h3
      have hi : i = l.length := by omega
      subst hi
      rw [List.drop_length] at h3
      refine EvS ?_
      simp only [spec_l03Put.l0, Int.lt_irrefl, if_false]
      cases b with
      | true =>
        simp only [putGo, if_true] at h3
        subst h3
        simp only [if_true]
        exact (EvB fin).2 EvN
      | false =>
        simp only [putGo, Bool.false_eq_true, if_false] at h3
        simp only [Bool.false_eq_true, if_false, if_pos (show out.length < 2199023255552 by omega)]
        rw [h3]
        exact (EvB fin).2 EvN
    | succ d ih =>
      intro i hi b out h1 h3
      have hil : i < l.length := by omega
      rw [drop_at l i hil] at h3
      have ih' := fun b out h1 h3 => ih (i + 1) (by omega) b out h1 h3
      refine EvS ?_
      have hi1 : (i : Int) < (l.length : Int) := by omega
      have hi0 : 0 ≤ (i : Int) := by omega
      have hnx := nxt i _ hil (by omega)
      simp only [spec_l03Put.l0, if_pos hi1, if_pos hi0, rd55 l i hil]
      cases b with
      | true =>
        simp only [if_true]
        refine EvS ?_
        simp only [spec_l03Put.j1, Bool.false_eq_true, if_false, if_pos hi1, if_pos hi0, rd55 l i hil, hnx]
        simp only [putGo] at h3
        by_cases c : l[i].f0.toList = f.f0.toList
        · rw [if_pos (show nm l[i] = nm f from c)] at h3
          simp only [if_pos c]
          exact ih' _ _ (by omega) h3
        rw [if_neg (show ¬ nm l[i] = nm f from c)] at h3
        simp only [if_neg c, if_pos (show out.length < 2199023255552 by omega)]
        exact ih' _ _ (by simp; omega) h3
      | false =>
        simp only [Bool.false_eq_true, if_false]
        refine EvS ?_
        simp only [putGo] at h3
        by_cases g : lessN f.f0 l[i] = true
        · have g' : Op.bytesLess l[i].f0.toList f.f0.toList = true := g
          rw [if_pos g] at h3
          simp only [g', Bool.not_true, spec_l03Put.j1, Bool.false_eq_true, if_false, if_pos hi1, if_pos hi0, rd55 l i hil, hnx]
          by_cases c : l[i].f0.toList = f.f0.toList
          · rw [if_pos (show nm l[i] = nm f from c)] at h3
            simp only [if_pos c]
            exact ih' _ _ (by omega) h3
          rw [if_neg (show ¬ nm l[i] = nm f from c)] at h3
          simp only [if_neg c, if_pos (show out.length < 2199023255552 by omega)]
          exact ih' _ _ (by simp; omega) h3
        have g' : Op.bytesLess l[i].f0.toList f.f0.toList = false := Bool.eq_false_iff.2 g
        rw [if_neg g] at h3
        simp only [g', Bool.not_false, spec_l03Put.j1, if_true, if_pos hi1, if_pos hi0, rd55 l i hil, hnx, if_pos (show out.length < 2199023255552 by omega), Option.bind_some]
        by_cases c : l[i].f0.toList = f.f0.toList
        · rw [if_pos (show nm l[i] = nm f from c)] at h3
          simp only [if_pos c]
          exact ih' _ _ (by simp; omega) h3
        rw [if_neg (show ¬ nm l[i] = nm f from c)] at h3
        have hlen : (out ++ [(⟨f.f0, f.f1, f.f2⟩ : S55)]).length < 2199023255552 := by simp; omega
        simp only [if_neg c, if_pos hlen]
        exact ih' _ _ (by simp; omega) h3
  have := key l.length 0 rfl false [] (by simp) (by rw [List.drop_zero, putGo_false]; rfl)
  unfold spec_l03Put.f
  exact this
theorem wfD_le' {l : List S55} (hw : wfD l) : ∀ y ∈ l, y.f1.length ≤ 100000000 ∧ y.f2.length ≤ 100000000 := fun y hy => by have := hw y hy; omega
theorem idx_at (l : List S55) (a : ByteArray) (h : ¬ idxF (isN a) l 0 < 0) : ∃ (m : Nat) (x : S55), idxF (isN a) l 0 = m ∧ l[m]? = some x ∧ nm x = a.toList ∧ m < l.length := by
  rcases idxF_at (isN a) l 0 with ⟨h1, _⟩ | ⟨m, x, h1, h2, h3, _⟩
  · omega
  exact ⟨m, x, by omega, h2, by simpa [isN, nm] using h3, (List.getElem?_eq_some_iff.1 h2).1⟩
theorem put_at {l : List S55} (hs : srt l) (f : S55) (m : Nat) (x : S55) (hx : l[m]? = some x) (hn : nm x = f.f0.toList) : putM l f = l.set m f := by
  have hb : ∀ y ∈ l.take m, lessN f.f0 y = true := by
    intro y hy
    obtain ⟨j, hj⟩ := List.mem_iff_getElem?.1 hy
    rw [List.getElem?_take] at hj
    split at hj
    · have := hs j m (by omega) y x hj hx
      rw [hn] at this
      exact this
    cases hj
  have ha : ∀ y ∈ l.drop (m + 1), notN f.f0 y = true := by
    intro y hy
    obtain ⟨j, hj⟩ := List.mem_iff_getElem?.1 hy
    rw [List.getElem?_drop] at hj
    have := lt_ne (hs m (m + 1 + j) (by omega) x y hx hj)
    simp only [notN, isN, Bool.not_eq_true', beq_eq_false_iff_ne]
    rw [← hn]; exact fun e => this e.symm
  have hx0 : lessN f.f0 x = false := by unfold lessN; rw [hn, lt_irr]
  have hx1 : notN f.f0 x = false := by unfold notN isN; rw [Bool.not_eq_false', beq_iff_eq]; exact hn
  have hm := (List.getElem?_eq_some_iff.1 hx).1
  unfold putM
  have e1 : l.takeWhile (lessN f.f0) = l.take m := by
    conv => lhs; rw [split_at l m x hx]
    rw [List.takeWhile_append_of_pos hb, List.takeWhile_cons_of_neg (by rw [hx0]; decide), List.append_nil]
  have e2 : l.dropWhile (lessN f.f0) = x :: l.drop (m + 1) := by
    conv => lhs; rw [split_at l m x hx]
    rw [List.dropWhile_append_of_pos hb, List.dropWhile_cons_of_neg (by rw [hx0]; decide)]
  rw [e1, e2, List.filter_cons, if_neg (by rw [hx1]; decide), filter_all ha, List.set_eq_take_append_cons_drop, if_pos hm]
theorem mem_set {l : List S55} {m : Nat} {f y : S55} (h : y ∈ l.set m f) : y = f ∨ y ∈ l := (List.mem_or_eq_of_mem_set h).symm
end Go.Proofs.YtcgojdhbphocgaaDoor.DK

namespace Go.Proofs.YtcgojdhbphocgaaDoor.F
open Go.RowKit Go.Proofs.YtcgojdhbphocgaaDoorW.PrintWords Go.Proofs.YtcgojdhbphocgaaDoorW.PrintWords.Kd Go.Proofs.YtcgojdhbphocgaaDoorW.PrintMore.Kd Go.Proofs.YtcgojdhbphocgaaDoorW.PrintLast Go.Proofs.YtcgojdhbphocgaaDoorW.PrintMore
attribute [local go_sem] max2_int min2_int max_two min_two max_three min_three max_four min_four   -- for this text's walks alone
set_option linter.unusedVariables false
set_option linter.unusedSimpArgs false
end Go.Proofs.YtcgojdhbphocgaaDoor.F

namespace Go.Proofs.YtcgojdhbphocgaaDoor.F
open Go.RowKit Go.Proofs.YtcgojdhbphocgaaDoorW.PrintWords Go.Proofs.YtcgojdhbphocgaaDoorW.PrintLast Go.Proofs.YtcgojdhbphocgaaDoorW.PrintMore
open Go.Proofs.YtcgojdhbphocgaaDoor
set_option linter.unusedVariables false
set_option linter.unusedSimpArgs false
theorem run_field28 (v : Value) (w : World) : (Instr.field 28 (.agg #[v]) 0).run Tryd.prog w = .ok v w := by
  simp [Instr.field, go_sem, asAgg, Tryd.underlying28, Tryd.underlying26]
attribute [local go_sem] run_field28
end Go.Proofs.YtcgojdhbphocgaaDoor.F

namespace Go.Proofs.YtcgojdhbphocgaaDoor.DK
set_option linter.unusedVariables false
set_option linter.unusedSimpArgs false
open Go.RowKit Go.Proofs.YtcgojdhbphocgaaDoor.F Go.Proofs.YtcgojdhbphocgaaDoor.PK Go.Proofs.YtcgojdhbphocgaaDoorW.PrintWords Go.Proofs.YtcgojdhbphocgaaDoorW.PrintLast Go.Proofs.YtcgojdhbphocgaaDoorW.PrintMore
abbrev ltF (x y : S55) : Prop := Op.bytesLess (nm x) (nm y) = true
theorem srt_pw {l : List S55} : srt l ↔ l.Pairwise ltF := by
  rw [List.pairwise_iff_getElem]
  constructor
  · intro h i j hi hj hij
    exact h i j hij _ _ (List.getElem?_eq_getElem hi) (List.getElem?_eq_getElem hj)
  intro h i j hij x y hx hy
  obtain ⟨hi, rfl⟩ := List.getElem?_eq_some_iff.1 hx
  obtain ⟨hj, rfl⟩ := List.getElem?_eq_some_iff.1 hy
  exact h i j hi hj hij
theorem ins_take (x : S55) : ∀ l : List S55, l.take (wIdx x.f0 l) = l.takeWhile (lessN x.f0) ∧ l.drop (wIdx x.f0 l) = l.dropWhile (lessN x.f0)
  | [] => ⟨rfl, rfl⟩
  | y :: r => by
    obtain ⟨h1, h2⟩ := ins_take x r
    unfold wIdx
    cases h : Op.bytesLess y.f0.toList x.f0.toList with
    | true =>
      have hl : lessN x.f0 y = true := h
      simp only [if_true, List.take_succ_cons, List.drop_succ_cons, List.takeWhile_cons, List.dropWhile_cons, hl, h1, h2, and_self]
    | false =>
      have hl : lessN x.f0 y = false := h
      simp only [Bool.false_eq_true, if_false, List.take_zero, List.drop_zero, List.takeWhile_cons, List.dropWhile_cons, hl, and_self]
theorem ins_eq (l : List S55) (x : S55) : insM l x = l.takeWhile (lessN x.f0) ++ x :: l.dropWhile (lessN x.f0) := by
  unfold insM
  rw [(ins_take x l).1, (ins_take x l).2]
theorem dw_less {a : ByteArray} : ∀ {l : List S55}, l.Pairwise ltF → ∀ y ∈ l.dropWhile (lessN a), lessN a y = false
  | [], _, y, hy => by simp at hy
  | x :: r, h, y, hy => by
    rw [List.dropWhile_cons] at hy
    cases hx : lessN a x with
    | true => rw [hx, if_pos rfl] at hy; exact dw_less (List.pairwise_cons.1 h).2 y hy
    | false =>
      rw [hx, if_neg (by decide)] at hy
      rcases List.mem_cons.1 hy with rfl | hy
      · exact hx
      cases hq : lessN a y with
      | false => rfl
      | true =>
        have h1 : lessN a x = true := lt_trans _ _ _ ((List.pairwise_cons.1 h).1 y hy) hq
        rw [hx] at h1
        cases h1
theorem tw_all {p : S55 → Bool} : ∀ (l : List S55), ∀ y ∈ l.takeWhile p, p y = true
  | [], y, hy => by simp at hy
  | x :: r, y, hy => by
    rw [List.takeWhile_cons] at hy
    cases hx : p x with
    | true =>
      rw [hx, if_pos rfl] at hy
      rcases List.mem_cons.1 hy with rfl | hy
      · exact hx
      exact tw_all r y hy
    | false => rw [hx, if_neg (by decide)] at hy; simp at hy
theorem disk_each {l : List S55} (h : diskM l = true) : l.length ≤ 8 ∧ ∀ y ∈ l, nameM y.f0 = true ∧ y.f1.length + y.f2.length ≤ 20000 := by
  unfold diskM at h
  rw [Bool.and_eq_true, decide_eq_true_iff] at h
  refine ⟨h.1, fun y hy => ?_⟩
  obtain ⟨j, hj, rfl⟩ := List.mem_iff_getElem.1 hy
  have hk := goD_at l _ _ h.2 j (by omega) (by omega)
  unfold okAt at hk
  rw [Bool.and_eq_true, Bool.and_eq_true, decide_eq_true_iff, rd55 l j hj] at hk
  exact ⟨hk.1, hk.2.1⟩
theorem disk_of {l : List S55} (h1 : l.length ≤ 8) (h2 : ∀ y ∈ l, nameM y.f0 = true ∧ y.f1.length + y.f2.length ≤ 20000) (h3 : l.Pairwise ltF) : diskM l = true := by
  unfold diskM
  rw [Bool.and_eq_true, decide_eq_true_iff]
  refine ⟨h1, goD_of l _ _ fun j _ hj => ?_⟩
  have hj : j < l.length := by omega
  have hy := h2 _ (List.getElem_mem hj)
  unfold okAt
  rw [Bool.and_eq_true, Bool.and_eq_true, decide_eq_true_iff, rd55 l j hj]
  refine ⟨hy.1, hy.2, ?_⟩
  by_cases h0 : j = 0
  · simp [h0]
  rw [rd55 l (j - 1) (by omega), Bool.or_eq_true]
  exact .inr (List.pairwise_iff_getElem.1 h3 (j - 1) j (by omega) hj (by omega))
theorem ba_ext {a b : ByteArray} (h : a.toList = b.toList) : a = b := by
  rw [ByteArray.toList_eq, ByteArray.toList_eq] at h
  cases a with
  | mk x => cases b with
    | mk y => simpa using h
def appF (l : List S55) (a : ByteArray) (d f1 f2 : List Int) : List S55 × Bool := if d.length + f1.length + f2.length ≤ 20000 then (putM l ⟨a, f1, f2 ++ d⟩, true) else (l, false)
def appM (l : List S55) (a : ByteArray) (d : List Int) : List S55 × Bool :=
  if diskM l = true ∧ nameM a = true then (if idxF (isN a) l 0 < 0 then (if l.length = 8 then (l, false) else appF l a d [] []) else appF l a d (rd_T55 l (idxF (isN a) l 0)).f1 (rd_T55 l (idxF (isN a) l 0)).f2) else (l, false)
theorem spec_fin (l : List S55) (a : ByteArray) (d f1 f2 : List Int) (hl : l.length ≤ 1048576) (hw : wfD l) (hd : d.length ≤ 1048576) (h1 : f1.length ≤ 1048576) (h2 : f2.length ≤ 1048576) : Ev (fun k => spec_AppendFile.fin k l a d f1 f2) (appF l a d f1 f2) := by
  have hc := copyS l (by omega) (wfD_le hw)
  have e : wrap64 (wrap64 (20000 - (f1.length : Int)) - (f2.length : Int)) = 20000 - (f1.length : Int) - (f2.length : Int) := by
    rw [w64 (x := 20000 - (f1.length : Int)) (by omega) (by omega), w64 (by omega) (by omega)]
  unfold spec_AppendFile.fin appF
  rw [e]
  by_cases h : d.length + f1.length + f2.length ≤ 20000
  · have hP := putS l (⟨a, f1, f2 ++ d⟩ : S55) (by omega) (wfD_le hw) ⟨by show f1.length ≤ _; omega, by show (f2 ++ d).length ≤ _; rw [List.length_append]; omega⟩
    simp only [if_pos h, if_neg (show ¬ (d.length : Int) > 20000 - (f1.length : Int) - (f2.length : Int) by omega)]
    refine (EvB (joinS f2 d (by omega) (by omega))).2 ?_
    exact (EvB hP).2 EvN
  simp only [if_neg h, if_pos (show (d.length : Int) > 20000 - (f1.length : Int) - (f2.length : Int) by omega)]
  exact (EvB hc).2 EvN
theorem spec_app (l : List S55) (a : ByteArray) (d : List Int) (hl : l.length ≤ 1048576) (hw : wfD l) (ha : a.size ≤ 9223372036854775807) (hd : d.length ≤ 1048576) : Ev (fun k => spec_AppendFile.f k l a d) (appM l a d) := by
  have hc := copyS l (by omega) (wfD_le hw)
  unfold spec_AppendFile.f appM
  refine (EvB (find_ev l a hl)).2 ?_
  refine (EvB (spec_disk l hl hw)).2 ?_
  by_cases h : diskM l = true
  · simp only [if_pos h]
    refine (EvB (spec_name a ha)).2 ?_
    by_cases h3 : nameM a = true
    · simp only [if_pos h3, if_pos (show diskM l = true ∧ nameM a = true from ⟨h, h3⟩)]
      by_cases h2 : idxF (isN a) l 0 < 0
      · simp only [if_neg (show ¬ 0 ≤ idxF (isN a) l 0 by omega), if_pos h2]
        by_cases h8 : l.length = 8
        · simp only [if_pos h8, if_pos (show (l.length : Int) = 8 by omega)]
          exact (EvB hc).2 EvN
        simp only [if_neg h8, if_neg (show ¬ (l.length : Int) = 8 by omega)]
        exact spec_fin l a d [] [] hl hw hd (by simp) (by simp)
      obtain ⟨m, x, e, hx, hn, hm⟩ := idx_at l a h2
      have hr := hw _ (List.getElem_mem hm)
      have hxm : l[m] = x := by rw [List.getElem?_eq_getElem hm] at hx; exact Option.some.inj hx
      have hna : (rd_T55 l (idxF (isN a) l 0)).f0 = a := by rw [e, rd55 l m hm, hxm]; exact ba_ext hn
      simp only [if_pos (show 0 ≤ idxF (isN a) l 0 by omega), if_pos (show idxF (isN a) l 0 < (l.length : Int) by omega), if_neg h2]
      rw [hna]
      exact spec_fin l a d _ _ hl hw hd (by rw [e, rd55 l m hm]; exact hr.2.1) (by rw [e, rd55 l m hm]; exact hr.2.2)
    simp only [if_neg h3, if_neg (show ¬ (diskM l = true ∧ nameM a = true) from fun q => h3 q.2)]
    exact (EvB hc).2 EvN
  simp only [if_neg h, if_neg (show ¬ (diskM l = true ∧ nameM a = true) from fun q => h q.1)]
  exact (EvB hc).2 EvN
end Go.Proofs.YtcgojdhbphocgaaDoor.DK

namespace Go.Proofs.YtcgojdhbphocgaaDoor.DK
set_option linter.unusedVariables false
set_option linter.unusedSimpArgs false
open Go.RowKit Go.Proofs.YtcgojdhbphocgaaDoor.F Go.Proofs.YtcgojdhbphocgaaDoor.PK Go.Proofs.YtcgojdhbphocgaaDoorW.PrintWords Go.Proofs.YtcgojdhbphocgaaDoorW.PrintLast Go.Proofs.YtcgojdhbphocgaaDoorW.PrintMore
open Go.Proofs.YtcgojdhbphocgaaDoor.BY (toByteS eqByteS)
def wfW (l : List S55) : Prop := ∀ y ∈ l, y.f0.size ≤ 9223372036854775807 ∧ y.f1.length ≤ 4194304 ∧ y.f2.length ≤ 4194304
theorem implGoW (l : List S55) (hl : l.length ≤ 1048576) (hw : wfW l) : ∀ d i : Nat, d + i = l.length → Ev (fun k => impl_isDisk.l0 k l (l.length : Int) i l) (goD l d i && decide (l.length ≤ 8)) := by
  intro d
  induction d with
  | zero =>
    intro i hi
    refine EvS ?_
    simp only [impl_isDisk.l0, if_neg (show ¬ (i : Int) < (l.length : Int) by omega), goD, Bool.true_and]
    rw [show decide ((l.length : Int) ≤ 8) = decide (l.length ≤ 8) from decide_eq_decide.2 (by omega)]
    exact EvN
  | succ d ih =>
    intro i hi
    have hil : i < l.length := by omega
    have hy := hw _ (List.getElem_mem hil)
    refine EvS ?_
    have hn := impl_name l[i].f0 hy.1
    have h := ih (i + 1) (by omega)
    rw [← rd55 l i hil] at hn hy
    unfold goD okAt
    simp only [impl_isDisk.l0, if_pos (show (i : Int) < (l.length : Int) by omega), if_pos (show 0 ≤ (i : Int) by omega), hn, Option.bind_some, nxt i _ hil (by omega)]
    generalize rd_T55 l (i : Int) = y at hy hn ⊢
    by_cases c1 : nameM y.f0 = true
    · have hw1 : wrap64 ((y.f1.length : Int) + (y.f2.length : Int)) = (y.f1.length : Int) + (y.f2.length : Int) := w64 (by omega) (by omega)
      by_cases c3 : (y.f1.length : Int) + (y.f2.length : Int) > 20000
      · simp only [if_pos c1, hw1, if_pos c3, decide_eq_false (show ¬ y.f1.length + y.f2.length ≤ 20000 by omega), Bool.false_and, Bool.and_false]; exact EvN
      simp only [if_pos c1, hw1, if_neg c3, c1, decide_eq_true (show y.f1.length + y.f2.length ≤ 20000 by omega), Bool.true_and]
      by_cases c4 : i = 0
      · simp only [if_neg (show ¬ (i : Int) > 0 by omega), decide_eq_true c4, Bool.true_or, Bool.true_and]; exact h
      have hw2 : wrap64 ((i : Int) - 1) = ((i - 1 : Nat) : Int) := by rw [w64 (by omega) (by omega)]; omega
      simp only [if_pos (show (i : Int) > 0 by omega), hw2, if_pos (show 0 ≤ ((i - 1 : Nat) : Int) by omega), if_pos (show ((i - 1 : Nat) : Int) < (l.length : Int) by omega), decide_eq_false c4, Bool.false_or]
      by_cases c5 : Op.bytesLess (rd_T55 l ((i - 1 : Nat) : Int)).f0.toList y.f0.toList = true
      · simp only [if_pos c5, c5, Bool.true_and]; exact h
      simp only [if_neg c5, Bool.eq_false_iff.2 c5, Bool.false_and]; exact EvN
    simp only [if_neg c1, Bool.eq_false_iff.2 c1, Bool.false_and]; exact EvN
theorem impl_diskW (l : List S55) (hl : l.length ≤ 1048576) (hw : wfW l) : Ev (fun k => impl_isDisk.f k l) (diskM l) := by
  unfold impl_isDisk.f diskM
  rw [Bool.and_comm]
  exact implGoW l hl hw l.length 0 rfl
end Go.Proofs.YtcgojdhbphocgaaDoor.DK

namespace Go.Proofs.YtcgojdhbphocgaaDoor.DK
set_option linter.unusedVariables false
set_option linter.unusedSimpArgs false
open Go.RowKit Go.Proofs.YtcgojdhbphocgaaDoor.F Go.Proofs.YtcgojdhbphocgaaDoor.PK Go.Proofs.YtcgojdhbphocgaaDoorW.PrintWords Go.Proofs.YtcgojdhbphocgaaDoorW.PrintLast Go.Proofs.YtcgojdhbphocgaaDoorW.PrintMore
theorem impl_fin (l p : List S55) (a : ByteArray) (d : List Int) (m : Nat) (hm : m < p.length) (hn : p[m].f0 = a) (hi : idxF (isN a) p 0 = (m : Int)) (hl : l.length ≤ 1048576) (hw : wfD l) (hpl : p.length ≤ 1048576) (hp : wfD p) (hd : d.length ≤ 1048576) :
    Ev (fun k => impl_appendFile.fin k l p a d) (if diskM (p.set m ⟨a, p[m].f1, p[m].f2 ++ d⟩) = true then (p.set m ⟨a, p[m].f1, p[m].f2 ++ d⟩, true) else (l, false)) := by
  have hc := copyI l (by omega) (wfD_le hw)
  have hf : impl_fileOf.f p a = some (idxF (isN a) p 0) := by unfold impl_fileOf.f; rw [if_pos (by omega)]; rfl
  have hr := hp _ (List.getElem_mem hm)
  have hD := impl_diskW (p.set m ⟨a, p[m].f1, p[m].f2 ++ d⟩) (by rw [List.length_set]; exact hpl) (fun y hy => by
    rcases mem_set hy with rfl | hy
    · refine ⟨by rw [← hn]; exact hr.1, ?_, ?_⟩
      · show p[m].f1.length ≤ _; omega
      show (p[m].f2 ++ d).length ≤ _; rw [List.length_append]; omega
    have := hp y hy
    exact ⟨this.1, by omega, by omega⟩)
  unfold impl_appendFile.fin
  simp only [hf, Option.bind_some, hi, rd55 p m hm, hn, Int.toNat_natCast, if_pos (show 0 ≤ (m : Int) by omega), if_pos (show (m : Int) < (p.length : Int) by omega), if_pos (show p[m].f2.length + d.length ≤ 140737488355328 by omega)]
  refine (EvB hD).2 ?_
  by_cases h : diskM (p.set m ⟨a, p[m].f1, p[m].f2 ++ d⟩) = true
  · simp only [if_pos h]; exact EvN
  simp only [if_neg h]; exact (EvB hc).2 EvN
theorem disk_set (l : List S55) (m : Nat) (hm : m < l.length) (h : diskM l = true) (f : S55) (hn : f.f0 = l[m].f0) : diskM (l.set m f) = decide (f.f1.length + f.f2.length ≤ 20000) := by
  obtain ⟨h1, h2⟩ := disk_each h
  by_cases hb : f.f1.length + f.f2.length ≤ 20000
  · rw [decide_eq_true hb]
    refine disk_of (by rw [List.length_set]; exact h1) (fun y hy => ?_) (List.pairwise_iff_getElem.2 fun i j hi hj hij => ?_)
    · rcases mem_set hy with rfl | hy
      · exact ⟨by rw [hn]; exact (h2 _ (List.getElem_mem hm)).1, hb⟩
      exact h2 y hy
    rw [List.length_set] at hi hj
    have hs := List.pairwise_iff_getElem.1 (srt_pw.1 (disk_srt h)) i j hi hj hij
    have e : ∀ q (hq : q < l.length), nm ((l.set m f)[q]'(by rw [List.length_set]; exact hq)) = nm l[q] := fun q hq => by
      rw [List.getElem_set]
      split
      · rename_i e; subst e; unfold nm; rw [hn]
      rfl
    show Op.bytesLess (nm _) (nm _) = true
    rw [e i hi, e j hj]
    exact hs
  rw [decide_eq_false hb]
  cases hd : diskM (l.set m f) with
  | false => rfl
  | true => exact absurd ((disk_each hd).2 f (List.mem_set hm f)).2 hb
theorem fin_there (l : List S55) (a : ByteArray) (d : List Int) (m : Nat) (hm : m < l.length) (hn : l[m].f0 = a) (hi : idxF (isN a) l 0 = (m : Int)) (h : diskM l = true) (hl : l.length ≤ 1048576) (hw : wfD l) (hd : d.length ≤ 1048576) :
    Ev (fun k => impl_appendFile.fin k l l a d) (appF l a d l[m].f1 l[m].f2) := by
  have hF := impl_fin l l a d m hm hn hi hl hw hl hw hd
  have hs := disk_set l m hm h (⟨a, l[m].f1, l[m].f2 ++ d⟩ : S55) hn.symm
  have hp := put_at (disk_srt h) (⟨a, l[m].f1, l[m].f2 ++ d⟩ : S55) m l[m] (List.getElem?_eq_getElem hm) (by unfold nm; rw [hn])
  rw [hs] at hF
  unfold appF
  rw [hp]
  by_cases hb : d.length + l[m].f1.length + l[m].f2.length ≤ 20000
  · rw [if_pos hb]
    rwa [if_pos (decide_eq_true (show l[m].f1.length + (l[m].f2 ++ d).length ≤ 20000 by rw [List.length_append]; omega))] at hF
  rw [if_neg hb]
  rwa [if_neg (by rw [decide_eq_true_iff]; show ¬ l[m].f1.length + (l[m].f2 ++ d).length ≤ 20000; rw [List.length_append]; omega)] at hF
theorem put_new {l : List S55} (f : S55) (h : ∀ x ∈ l, isN f.f0 x.f0 = false) : putM l f = l.takeWhile (lessN f.f0) ++ f :: l.dropWhile (lessN f.f0) := by
  unfold putM
  rw [filter_all (fun y hy => by unfold notN; rw [h y (dw_mem _ _ _ hy)]; rfl)]
theorem disk_new {l : List S55} (f : S55) (h : diskM l = true) (hn : nameM f.f0 = true) (hno : ∀ x ∈ l, isN f.f0 x.f0 = false) : diskM (l.takeWhile (lessN f.f0) ++ f :: l.dropWhile (lessN f.f0)) = decide (l.length < 8 ∧ f.f1.length + f.f2.length ≤ 20000) := by
  obtain ⟨h1, h2⟩ := disk_each h
  have hpw := srt_pw.1 (disk_srt h)
  have hlen : (l.takeWhile (lessN f.f0) ++ f :: l.dropWhile (lessN f.f0)).length = l.length + 1 := by
    have := congrArg List.length (List.takeWhile_append_dropWhile (p := lessN f.f0) (l := l))
    simp only [List.length_append, List.length_cons] at this ⊢
    omega
  by_cases hb : l.length < 8 ∧ f.f1.length + f.f2.length ≤ 20000
  · rw [decide_eq_true hb]
    refine disk_of (by omega) (fun y hy => ?_) ?_
    · rcases List.mem_append.1 hy with hy | hy
      · exact h2 y ((List.takeWhile_sublist _).subset hy)
      rcases List.mem_cons.1 hy with rfl | hy
      · exact ⟨hn, hb.2⟩
      exact h2 y (dw_mem _ _ _ hy)
    have hs := hpw
    rw [← List.takeWhile_append_dropWhile (p := lessN f.f0) (l := l), List.pairwise_append] at hs
    refine List.pairwise_append.2 ⟨hs.1, List.pairwise_cons.2 ⟨fun y hy => ?_, hs.2.1⟩, fun x hx y hy => ?_⟩
    · have a1 := dw_less hpw y hy
      cases hq : Op.bytesLess (nm f) (nm y) with
      | true => exact hq
      | false =>
        have := lt_total _ _ a1 hq
        have h3 := hno y (dw_mem _ _ _ hy)
        unfold isN at h3
        rw [beq_eq_false_iff_ne] at h3
        exact absurd this h3
    rcases List.mem_cons.1 hy with rfl | hy
    · exact tw_all l x hx
    exact hs.2.2 x hx y hy
  rw [decide_eq_false hb]
  cases hd : diskM (l.takeWhile (lessN f.f0) ++ f :: l.dropWhile (lessN f.f0)) with
  | false => rfl
  | true =>
    have := disk_each hd
    exact absurd ⟨by omega, (this.2 f (by simp)).2⟩ hb
theorem fin_new (l : List S55) (a : ByteArray) (d : List Int) (h : diskM l = true) (hn : nameM a = true) (hno : ∀ x ∈ l, isN a x.f0 = false) (hl : l.length ≤ 1048576) (hw : wfD l) (ha : a.size ≤ 9223372036854775807) (hd : d.length ≤ 1048576) :
    Ev (fun k => impl_appendFile.fin k l (insM l ⟨a, [], []⟩) a d) (if l.length = 8 then (l, false) else appF l a d [] []) := by
  have h8 := (disk_each h).1
  obtain ⟨T, hT⟩ : ∃ T, T = l.takeWhile (lessN a) := ⟨_, rfl⟩
  obtain ⟨D, hD⟩ : ∃ D, D = l.dropWhile (lessN a) := ⟨_, rfl⟩
  have hTD : T ++ D = l := by rw [hT, hD]; exact List.takeWhile_append_dropWhile
  have hlen : T.length + D.length = l.length := by rw [← hTD, List.length_append]
  have hins : insM l ⟨a, [], []⟩ = T ++ (⟨a, [], []⟩ : S55) :: D := by rw [ins_eq, hT, hD]
  have hdk := disk_new (⟨a, [], d⟩ : S55) h hn hno
  have hput := put_new (l := l) (⟨a, [], d⟩ : S55) hno
  simp only [← hT, ← hD] at hdk hput
  have hpl : (T ++ (⟨a, [], []⟩ : S55) :: D).length = l.length + 1 := by simp only [List.length_append, List.length_cons]; omega
  have hm : T.length < (T ++ (⟨a, [], []⟩ : S55) :: D).length := by omega
  have hget : (T ++ (⟨a, [], []⟩ : S55) :: D)[T.length] = ⟨a, [], []⟩ := by simp
  have hidx : idxF (isN a) (T ++ (⟨a, [], []⟩ : S55) :: D) 0 = (T.length : Int) := by
    rcases idxF_at (isN a) (T ++ (⟨a, [], []⟩ : S55) :: D) 0 with ⟨_, q⟩ | ⟨m, x, e, hx, hp, q⟩
    · have := q ⟨a, [], []⟩ (by simp)
      simp [isN] at this
    have hle : ¬ m < T.length := fun hlt => by
      rw [List.getElem?_append_left hlt] at hx
      have := hno x (by rw [← hTD]; exact List.mem_append_left _ (List.mem_of_getElem? hx))
      rw [this] at hp
      cases hp
    have hge : ¬ T.length < m := fun hlt => by
      have := q T.length ⟨a, [], []⟩ hlt (by rw [List.getElem?_eq_getElem hm, hget])
      simp [isN] at this
    omega
  have hF := impl_fin l (T ++ (⟨a, [], []⟩ : S55) :: D) a d T.length hm (by rw [hget]) hidx hl hw (by omega) (fun y hy => by
    rcases List.mem_append.1 hy with hy | hy
    · exact hw y (by rw [← hTD]; exact List.mem_append_left _ hy)
    rcases List.mem_cons.1 hy with rfl | hy
    · exact ⟨ha, by simp, by simp⟩
    exact hw y (by rw [← hTD]; exact List.mem_append_right _ hy)) hd
  rw [hget] at hF
  simp only [List.nil_append] at hF
  rw [show (T ++ (⟨a, [], []⟩ : S55) :: D).set T.length ⟨a, [], d⟩ = T ++ (⟨a, [], d⟩ : S55) :: D by simp, hdk] at hF
  rw [hins]
  unfold appF
  simp only [List.length_nil, List.nil_append, hput]
  by_cases e8 : l.length = 8
  · rw [if_pos e8]
    rwa [if_neg (by rw [decide_eq_true_iff]; omega)] at hF
  rw [if_neg e8]
  by_cases hb : d.length ≤ 20000
  · rw [if_pos (by omega)]
    rwa [if_pos (by rw [decide_eq_true_iff]; exact ⟨by omega, by simpa using hb⟩)] at hF
  rw [if_neg (by omega)]
  rwa [if_neg (by rw [decide_eq_true_iff]; intro q; exact hb (by simpa using q.2))] at hF
theorem impl_app (l : List S55) (a : ByteArray) (d : List Int) (hl : l.length ≤ 1048576) (hw : wfD l) (ha : a.size ≤ 9223372036854775807) (hd : d.length ≤ 1048576) : Ev (fun k => impl_appendFile.f k l a d) (appM l a d) := by
  have hc := copyI l (by omega) (wfD_le hw)
  have hf : impl_fileOf.f l a = some (idxF (isN a) l 0) := by unfold impl_fileOf.f; rw [if_pos (by omega)]; rfl
  unfold impl_appendFile.f appM
  refine (EvB hc).2 ?_
  refine (EvB (impl_disk l hl hw)).2 ?_
  by_cases h : diskM l = true
  · simp only [if_pos h, impl_name a ha, Option.bind_some]
    by_cases h3 : nameM a = true
    · simp only [if_pos h3, if_pos (show diskM l = true ∧ nameM a = true from ⟨h, h3⟩), hf, Option.bind_some]
      by_cases h2 : idxF (isN a) l 0 < 0
      · simp only [if_pos h2, if_pos (show (l.length + 1) * 64 ≤ 140737488355328 by omega)]
        refine fin_new l a d h h3 ?_ hl hw ha hd
        rcases idxF_at (isN a) l 0 with ⟨_, q⟩ | ⟨m, x, e, _, _, _⟩
        · exact q
        omega
      obtain ⟨m, x, e, hx, hn, hm⟩ := idx_at l a h2
      have hxm : l[m] = x := by rw [List.getElem?_eq_getElem hm] at hx; exact Option.some.inj hx
      simp only [if_neg h2]
      rw [e, rd55 l m hm]
      exact fin_there l a d m hm (by rw [hxm]; exact ba_ext hn) e h hl hw hd
    simp only [if_neg h3, if_neg (show ¬ (diskM l = true ∧ nameM a = true) from fun q => h3 q.2)]
    exact EvN
  simp only [if_neg h, if_neg (show ¬ (diskM l = true ∧ nameM a = true) from fun q => h q.1)]
  exact EvN
theorem app_le (l : List S55) (a : ByteArray) (d : List Int) (hw : wfD l) (hd : d.length ≤ 1048576) : (appM l a d).1.length ≤ l.length + 1 ∧ ∀ y ∈ (appM l a d).1, y.f1.length + y.f2.length ≤ 2097152 := by
  have hl : ∀ y ∈ l, y.f1.length + y.f2.length ≤ 2097152 := fun y hy => by have := hw y hy; omega
  have F : ∀ f1 f2 : List Int, (appF l a d f1 f2).1.length ≤ l.length + 1 ∧ ∀ y ∈ (appF l a d f1 f2).1, y.f1.length + y.f2.length ≤ 2097152 := fun f1 f2 => by
    unfold appF
    split
    · refine ⟨?_, fun y hy => ?_⟩
      · have h2 := List.length_filter_le (notN a) (l.dropWhile (lessN a))
        have h3 := congrArg List.length (List.takeWhile_append_dropWhile (p := lessN a) (l := l))
        simp only [putM, List.length_append, List.length_cons] at h3 ⊢
        omega
      rcases put_mem _ _ y hy with rfl | hy
      · show f1.length + (f2 ++ d).length ≤ 2097152
        rw [List.length_append]
        omega
      exact hl y hy
    exact ⟨Nat.le_succ _, hl⟩
  unfold appM
  split
  · split
    · split
      · exact ⟨Nat.le_succ _, hl⟩
      exact F _ _
    exact F _ _
  exact ⟨Nat.le_succ _, hl⟩
end Go.Proofs.YtcgojdhbphocgaaDoor.DK

namespace Go.Proofs.YtcgojdhbphocgaaDoor.CR
set_option linter.unusedVariables false
set_option linter.unusedSimpArgs false
open Go.RowKit Go.Proofs.YtcgojdhbphocgaaDoor.F Go.Proofs.YtcgojdhbphocgaaDoor.PK Go.Proofs.YtcgojdhbphocgaaDoorW.PrintWords Go.Proofs.YtcgojdhbphocgaaDoorW.PrintLast
open Go.Proofs.YtcgojdhbphocgaaDoor.BY
def U32 (x : Int) : Prop := 0 ≤ x ∧ x < 4294967296
theorem xor_nat (a b : Int) (ha : U32 a) (hb : U32 b) : Go.bits .xor .u32 a b = ((a.toNat ^^^ b.toNat : Nat) : Int) := u32_xor a b ha.1 ha.2 hb.1 hb.2
theorem xor_u32 (a b : Int) (ha : U32 a) (hb : U32 b) : U32 (Go.bits .xor .u32 a b) := by
  rw [xor_nat a b ha hb]
  have h1 : a.toNat < 2 ^ 32 := by have := ha.2; have := ha.1; omega
  have h2 : b.toNat < 2 ^ 32 := by have := hb.2; have := hb.1; omega
  have := Nat.xor_lt_two_pow h1 h2
  exact ⟨by omega, by omega⟩
theorem xor_comm32 (a b : Int) (ha : U32 a) (hb : U32 b) : Go.bits .xor .u32 a b = Go.bits .xor .u32 b a := by rw [xor_nat a b ha hb, xor_nat b a hb ha, Nat.xor_comm]
theorem and1 (a : Int) (ha : U32 a) : Go.bits .and .u32 a 1 = a % 2 := by
  rw [u32_and a 1 ha.1 ha.2 (by omega) (by omega)]
  rw [show (1 : Int).toNat = 1 from rfl, Nat.and_one_is_mod]
  have := ha.1
  omega
def step (x : Int) : Int := if x % 2 = 1 then Go.bits .xor .u32 (x / 2) 3988292384 else x / 2
theorem step_u32 (x : Int) (h : U32 x) : U32 (step x) := by
  have hh : U32 (x / 2) := ⟨by have := h.1; omega, by have := h.1; have := h.2; omega⟩
  unfold step
  split
  · exact xor_u32 _ _ hh ⟨by omega, by omega⟩
  exact hh
def steps : Nat → Int → Int
  | 0, x => x
  | n + 1, x => steps n (step x)
theorem steps_u32 (n : Nat) (x : Int) (h : U32 x) : U32 (steps n x) := by
  induction n generalizing x with
  | zero => exact h
  | succ n ih => exact ih _ (step_u32 x h)
def byteStep (x b : Int) : Int := steps 8 (Go.bits .xor .u32 x (b % 4294967296))
theorem byteStep_def (x b : Int) : byteStep x b = steps 8 (Go.bits .xor .u32 x (b % 4294967296)) := rfl
def crcL (x : Int) (l : List Int) : Int := l.foldl byteStep x
theorem crcL_cons (x b : Int) (r : List Int) : crcL x (b :: r) = crcL (byteStep x b) r := List.foldl_cons ..
theorem crcL_nil (x : Int) : crcL x [] = x := List.foldl_nil ..
theorem byte_u32 (b : Int) : U32 (b % 4294967296) := ⟨Int.emod_nonneg _ (by omega), Int.emod_lt_of_pos _ (by omega)⟩
theorem byteStep_u32 (x b : Int) (h : U32 x) : U32 (byteStep x b) := by rw [byteStep_def]; exact steps_u32 _ _ (xor_u32 _ _ h (byte_u32 b))
attribute [irreducible] byteStep
theorem crcL_u32 (l : List Int) (x : Int) (h : U32 x) : U32 (crcL x l) := by
  induction l generalizing x with
  | nil => rw [crcL_nil]; exact h
  | cons b r ih => rw [crcL_cons]; exact ih _ (byteStep_u32 x b h)
def crcM (l : List Int) : Int := Go.bits .xor .u32 (crcL 4294967295 l) 4294967295
theorem impl_in (l : List Int) (n i : Int) (r : Int) : ∀ (d j : Nat), d + j = 8 → ∀ x, U32 x → Ev (fun k => impl_crc32.l0 k (steps d x) l n (wrap64 (i + 1))) r → Ev (fun k => impl_crc32.l1 k x l n i j) r := by
  intro d
  induction d with
  | zero =>
    intro j hj x hx h
    refine EvS ?_
    simp only [impl_crc32.l1, if_neg (show ¬ (j : Int) < 8 by omega)]
    exact h
  | succ d ih =>
    intro j hj x hx h
    refine EvS ?_
    simp only [impl_crc32.l1, if_pos (show (j : Int) < 8 by omega), and1 x hx, w64 (x := (j : Int) + 1) (by omega) (by omega)]
    have h2 := ih (j + 1) (by omega) (step x) (step_u32 x hx) h
    by_cases h3 : x % 2 = 1
    · simp only [if_pos h3]
      simp only [step, if_pos h3] at h2
      exact h2
    simp only [if_neg h3]
    simp only [step, if_neg h3] at h2
    exact h2
theorem impl_in0 (l : List Int) (n i : Int) (r x : Int) (hx : U32 x) (h : Ev (fun k => impl_crc32.l0 k (steps 8 x) l n (wrap64 (i + 1))) r) : Ev (fun k => impl_crc32.l1 k x l n i 0) r := impl_in l n i r 8 0 rfl x hx h
theorem spec_in (l : List Int) (i : Int) (r : Int) : ∀ (d j : Nat), d + j = 8 → ∀ x, U32 x → Ev (fun k => spec_Crc32.l0 k l (steps d x) (wrap64 (i + 1))) r → Ev (fun k => spec_Crc32.l1 k l x i j) r := by
  intro d
  induction d with
  | zero =>
    intro j hj x hx h
    refine EvS ?_
    simp only [spec_Crc32.l1, if_neg (show ¬ (j : Int) < 8 by omega)]
    exact h
  | succ d ih =>
    intro j hj x hx h
    have e1 : Int.tmod x 2 = x % 2 := Int.tmod_eq_emod_of_nonneg hx.1
    have e2 : Int.tdiv x 2 % 4294967296 = x / 2 := by rw [Int.tdiv_eq_ediv_of_nonneg hx.1]; have := hx.1; have := hx.2; omega
    refine EvS ?_
    simp only [spec_Crc32.l1, if_pos (show (j : Int) < 8 by omega), e1, e2, w64 (x := (j : Int) + 1) (by omega) (by omega)]
    have h2 := ih (j + 1) (by omega) (step x) (step_u32 x hx) h
    by_cases h3 : x % 2 = 1
    · simp only [if_pos h3]
      simp only [step, if_pos h3] at h2
      exact h2
    simp only [if_neg h3]
    simp only [step, if_neg h3] at h2
    exact h2
theorem spec_in0 (l : List Int) (i : Int) (r x : Int) (hx : U32 x) (h : Ev (fun k => spec_Crc32.l0 k l (steps 8 x) (wrap64 (i + 1))) r) : Ev (fun k => spec_Crc32.l1 k l x i 0) r := spec_in l i r 8 0 rfl x hx h
theorem impl_crc (l : List Int) (hl : l.length ≤ 9000000000000000000) : Ev (fun k => impl_crc32.f k l) (crcM l) := by
  have key := up0 (P := fun i => ∀ x, U32 x → Ev (fun k => impl_crc32.l0 k x l (l.length : Int) i) (Go.bits .xor .u32 (crcL x (l.drop i.toNat)) 4294967295)) l.length
    (fun x hx => EvS (by
      simp only [impl_crc32.l0, Int.lt_irrefl, if_false, Int.toNat_natCast, List.drop_length, crcL_nil, xor_comm32 4294967295 x ⟨by omega, by omega⟩ hx]
      exact EvN))
    (fun i hi ih x hx => EvS (by
      simp only [impl_crc32.l0, if_pos (show (i : Int) < (l.length : Int) by omega), if_pos (show 0 ≤ (i : Int) by omega), rd_at l i hi, Int.toNat_natCast, drop_at l i hi, crcL_cons]
      have hx2 := xor_u32 x _ hx (byte_u32 l[i])
      refine impl_in0 l _ i _ _ hx2 ?_
      rw [nxt i _ hi (by omega), ← byteStep_def]
      have h := ih _ (byteStep_u32 x l[i] hx)
      rw [Int.toNat_natCast] at h
      exact h))
  have h := key 4294967295 ⟨by omega, by omega⟩
  unfold impl_crc32.f crcM
  exact h
theorem spec_crc (l : List Int) (hl : l.length ≤ 9000000000000000000) : Ev (fun k => spec_Crc32.f k l) (if (l.length : Int) > 20000 then 0 else crcM l) := by
  have key := up0 (P := fun i => ∀ x, U32 x → Ev (fun k => spec_Crc32.l0 k l x i) (Go.bits .xor .u32 (crcL x (l.drop i.toNat)) 4294967295)) l.length
    (fun x hx => EvS (by
      simp only [spec_Crc32.l0, Int.lt_irrefl, if_false, Int.toNat_natCast, List.drop_length, crcL_nil]
      exact EvN))
    (fun i hi ih x hx => EvS (by
      simp only [spec_Crc32.l0, if_pos (show (i : Int) < (l.length : Int) by omega), if_pos (show 0 ≤ (i : Int) by omega), rd_at l i hi, Int.toNat_natCast, drop_at l i hi, crcL_cons]
      have hx2 := xor_u32 x _ hx (byte_u32 l[i])
      refine spec_in0 l i _ _ hx2 ?_
      rw [nxt i _ hi (by omega), ← byteStep_def]
      have h := ih _ (byteStep_u32 x l[i] hx)
      rw [Int.toNat_natCast] at h
      exact h))
  unfold spec_Crc32.f
  by_cases h : (l.length : Int) > 20000
  · simp only [if_pos h]; exact EvN
  simp only [if_neg h]
  have h := key 4294967295 ⟨by omega, by omega⟩
  unfold crcM
  exact h
end Go.Proofs.YtcgojdhbphocgaaDoor.CR

namespace Go.Proofs.YtcgojdhbphocgaaDoor.BY
set_option linter.unusedVariables false
set_option linter.unusedSimpArgs false
open Go.RowKit Go.Proofs.YtcgojdhbphocgaaDoor.F Go.Proofs.YtcgojdhbphocgaaDoor.PK Go.Proofs.YtcgojdhbphocgaaDoorW.PrintWords Go.Proofs.YtcgojdhbphocgaaDoorW.PrintLast Go.Proofs.YtcgojdhbphocgaaDoorW.PrintMore
theorem sBytes (l : List Int) (hl : l.length ≤ 1000000000) : Ev (fun k => spec_l01Bytes.f k l) l := by
  have key := up0 (P := fun i => Ev (fun k => spec_l01Bytes.l0 k l (l.take i.toNat) i) l) l.length
    (EvS (by simp only [spec_l01Bytes.l0, Int.lt_irrefl, if_false, Int.toNat_natCast, List.take_length]; exact EvN))
    (fun i hi ih => EvS (by
      simp only [spec_l01Bytes.l0, if_pos (show (i : Int) < (l.length : Int) by omega), if_pos (show 0 ≤ (i : Int) by omega), Int.toNat_natCast, rd_at l i hi, nxt i _ hi (by omega), if_pos (show (l.take i).length < 140737488355328 by rw [List.length_take]; omega)]
      rw [Int.toNat_natCast, List.take_add_one, List.getElem?_eq_getElem hi] at ih
      exact ih))
  unfold spec_l01Bytes.f
  exact key
theorem sJoin (l m : List Int) (hl : l.length ≤ 1000000000) (hm : m.length ≤ 1000000000) : Ev (fun k => spec_l01Join.f k l m) (l ++ m) := by
  have key := up0 (P := fun i => Ev (fun k => spec_l01Join.l0 k m (l ++ m.take i.toNat) i) (l ++ m)) m.length
    (EvS (by simp only [spec_l01Join.l0, Int.lt_irrefl, if_false, Int.toNat_natCast, List.take_length]; exact EvN))
    (fun i hi ih => EvS (by
      simp only [spec_l01Join.l0, if_pos (show (i : Int) < (m.length : Int) by omega), if_pos (show 0 ≤ (i : Int) by omega), Int.toNat_natCast, rd_at m i hi, nxt i _ hi (by omega), if_pos (show (l ++ m.take i).length < 140737488355328 by rw [List.length_append, List.length_take]; omega)]
      rw [Int.toNat_natCast, List.take_add_one, List.getElem?_eq_getElem hi, ← List.append_assoc] at ih
      exact ih))
  unfold spec_l01Join.f
  simp only [EvB (sBytes l hl)]
  have e : l ++ m.take (0 : Int).toNat = l := by simp
  rw [e] at key
  exact key
end Go.Proofs.YtcgojdhbphocgaaDoor.BY

namespace Go.Proofs.YtcgojdhbphocgaaDoor.FR
set_option linter.unusedVariables false
set_option linter.unusedSimpArgs false
open Go.RowKit Go.Proofs.YtcgojdhbphocgaaDoor.F Go.Proofs.YtcgojdhbphocgaaDoor.PK Go.Proofs.YtcgojdhbphocgaaDoorW.PrintWords Go.Proofs.YtcgojdhbphocgaaDoorW.PrintLast Go.Proofs.YtcgojdhbphocgaaDoorW.PrintMore
open Go.Proofs.YtcgojdhbphocgaaDoor.BY Go.Proofs.YtcgojdhbphocgaaDoor.CR
def four (x : Int) : List Int := [x % 256, x / 256 % 256, x / 65536 % 256, x / 16777216 % 256]
def okP (p : List Int) : Prop := 1 ≤ p.length ∧ p.length ≤ 600
instance (p : List Int) : Decidable (okP p) := by unfold okP; infer_instance
def frameM (p : List Int) : List Int := if okP p then four p.length ++ four (crcM p) ++ p else []
theorem four_length (x : Int) : (four x).length = 4 := rfl
theorem frameM_length (p : List Int) (h : okP p) : (frameM p).length = 8 + p.length := by
  unfold frameM
  rw [if_pos h, List.length_append, List.length_append, four_length, four_length]
theorem frameM_le (p : List Int) : (frameM p).length ≤ 608 := by
  by_cases h : okP p
  · rw [frameM_length p h]; have := h.2; omega
  unfold frameM; rw [if_neg h]; simp
theorem crcM_u32 (p : List Int) : U32 (crcM p) := by
  unfold crcM
  exact xor_u32 _ _ (crcL_u32 p _ ⟨by omega, by omega⟩) ⟨by omega, by omega⟩
theorem implFour (l : List Int) (x : Int) (hl : l.length ≤ 1000000000) : binary_littleEndian_AppendUint32.f l x = some (l ++ four x) := by
  unfold binary_littleEndian_AppendUint32.f four
  simp only [Option.bind_some, List.length_cons, List.length_nil]
  rw [if_pos (by omega)]
theorem specFour (x : Int) (h : U32 x) : spec_l02Four.f x = some (four x) := by
  unfold spec_l02Four.f four
  have h0 := h.1
  have h1 := h.2
  rw [Int.tmod_eq_emod_of_nonneg h0, Int.tdiv_eq_ediv_of_nonneg h0, Int.tdiv_eq_ediv_of_nonneg h0, Int.tdiv_eq_ediv_of_nonneg h0]
  rw [show x % 256 % 256 = x % 256 by omega, show x / 256 % 4294967296 % 256 = x / 256 % 256 by omega, show x / 65536 % 4294967296 % 256 = x / 65536 % 256 by omega, show x / 16777216 % 4294967296 % 256 = x / 16777216 % 256 by omega]
theorem impl_frame (p : List Int) (hl : p.length ≤ 1048576) : Ev (fun k => impl_frame.f k p) (frameM p) := by
  have J : ∀ q : Bool, q = decide (¬ okP p) → Ev (fun k => impl_frame.j0 k p q) (frameM p) := by
    intro q hq
    subst hq
    refine EvS ?_
    unfold frameM
    by_cases h : okP p
    · have hp := h.2
      simp only [impl_frame.j0, h, not_true_eq_false, decide_false, Bool.false_eq_true, if_false, if_true, implFour [] _ (by simp), Option.bind_some, List.nil_append, EvB (impl_crc p (by omega)), implFour (four p.length) _ (by rw [four_length]; omega), show (p.length : Int) % 4294967296 = p.length by omega]
      rw [List.length_append, four_length, four_length]
      simp only [if_pos (show 4 + 4 + p.length < 140737488355328 by omega)]
      exact EvN
    simp only [impl_frame.j0, h, not_false_eq_true, decide_true, if_true, if_false]
    exact EvN
  unfold impl_frame.f
  by_cases h1 : (p.length : Int) < 1
  · simp only [if_pos h1]
    exact J _ (by rw [decide_eq_true (show ¬ okP p by unfold okP; omega)])
  simp only [if_neg h1]
  refine J _ ?_
  by_cases h2 : (p.length : Int) > 600
  · rw [decide_eq_true h2, decide_eq_true (show ¬ okP p by unfold okP; omega)]
  rw [decide_eq_false h2, decide_eq_false (show ¬ ¬ okP p by unfold okP; omega)]
theorem sIn (x lo hi : Int) : spec_l01In.f x lo hi = some (decide (lo ≤ x ∧ x ≤ hi)) := by
  unfold spec_l01In.f
  by_cases h : lo ≤ x <;> simp [h]
theorem spec_frame (p : List Int) (hl : p.length ≤ 1048576) : Ev (fun k => spec_Frame.f k p) (frameM p) := by
  unfold spec_Frame.f frameM
  simp only [sIn, Option.bind_some, decide_eq_true_eq]
  by_cases h : okP p
  · have h1 := h.1
    have h2 := h.2
    have hcr := spec_crc p (by omega)
    rw [if_neg (show ¬ (p.length : Int) > 20000 by omega)] at hcr
    simp only [if_pos (show (1 : Int) ≤ p.length ∧ (p.length : Int) ≤ 600 by omega), show (p.length : Int) % 4294967296 = p.length by omega, specFour _ (show U32 (p.length : Int) from ⟨by omega, by omega⟩), Option.bind_some, EvB hcr, specFour _ (crcM_u32 p), EvB (sJoin (four p.length) (four (crcM p)) (by rw [four_length]; omega) (by rw [four_length]; omega)), EvB (sJoin (four p.length ++ four (crcM p)) p (by rw [List.length_append, four_length, four_length]; omega) (by omega)), if_pos h]
    exact EvN
  simp only [if_neg (show ¬ ((1 : Int) ≤ p.length ∧ (p.length : Int) ≤ 600) by unfold okP at h; omega), if_neg h]
  exact EvN
end Go.Proofs.YtcgojdhbphocgaaDoor.FR

namespace Go.Proofs.YtcgojdhbphocgaaDoor.BY
set_option linter.unusedVariables false
set_option linter.unusedSimpArgs false
open Go.RowKit Go.Proofs.YtcgojdhbphocgaaDoor.F Go.Proofs.YtcgojdhbphocgaaDoor.PK Go.Proofs.YtcgojdhbphocgaaDoorW.PrintWords Go.Proofs.YtcgojdhbphocgaaDoorW.PrintLast
theorem markByteS (l : List Int) (hl : l.length ≤ 9000000000000000000) (a : Int) (ha : 0 ≤ a) (hla : a + l.length ≤ 9223372036854775807) : ∃ (m : Int) (l' : List Int), Ev (fun k => laws_markByteS.f k l a) (m, l') ∧ m = a + l.length ∧ l'.length = l.length ∧ Ev (fun k => laws_heldByteS.f k l' a) m := by
  have key : ∀ (d i : Nat), d + i = l.length → ∀ (x : List Int) (b : Int), x.length = l.length → b = a + i → ∃ l', Ev (fun k => laws_markByteS.l0 k x b i) (a + l.length, l') ∧ l'.length = l.length ∧ (∀ j, j < i → l'[j]? = x[j]?) ∧ Ev (fun k => laws_heldByteS.l0 k l' b i) (a + l.length) := by
    intro d
    induction d with
    | zero =>
      intro i hi x b hx hb
      have hi : i = l.length := by omega
      subst hi
      subst hb
      exact ⟨x, EvS (by simp only [laws_markByteS.l0, hx, Int.lt_irrefl, if_false]; exact EvN), hx, fun _ _ => rfl, EvS (by simp only [laws_heldByteS.l0, hx, Int.lt_irrefl, if_false]; exact EvN)⟩
    | succ d ih =>
      intro i hi x b hx hb
      have hw : wrap64 (b + 1) = b + 1 := w64 (by omega) (by omega)
      obtain ⟨l', h1, h2, h3, h4⟩ := ih (i + 1) (by omega) (x.set i (b % 256)) (b + 1) (by simpa using hx) (by omega)
      have hli : i < l'.length := by omega
      have he : l'[i] = b % 256 := by
        have := h3 i (by omega)
        rw [List.getElem?_set_self (by omega), List.getElem?_eq_getElem hli] at this
        exact Option.some.inj this
      refine ⟨l', EvS ?_, h2, fun j hj => ?_, EvS ?_⟩
      · simp only [laws_markByteS.l0, if_pos (show (i : Int) < (x.length : Int) by omega), if_pos (show 0 ≤ (i : Int) by omega), hw, Int.toNat_natCast, nxt i l.length (by omega) (by omega)]
        exact h1
      · rw [h3 j (by omega), List.getElem?_set_ne (by omega)]
      simp only [laws_heldByteS.l0, if_pos (show (i : Int) < (l'.length : Int) by omega), if_pos (show 0 ≤ (i : Int) by omega), hw, rd_at l' i hli, he, if_true, nxt i l.length (by omega) (by omega)]
      exact h4
  obtain ⟨l', h1, h2, _, h4⟩ := key l.length 0 (by omega) l a rfl (by omega)
  exact ⟨_, l', h1, rfl, h2, h4⟩
end Go.Proofs.YtcgojdhbphocgaaDoor.BY

namespace Go.Proofs.YtcgojdhbphocgaaDoor.MT
set_option linter.unusedVariables false
set_option linter.unusedSimpArgs false
open Go.RowKit Go.Proofs.YtcgojdhbphocgaaDoor.F Go.Proofs.YtcgojdhbphocgaaDoor.PK Go.Proofs.YtcgojdhbphocgaaDoorW.PrintWords Go.Proofs.YtcgojdhbphocgaaDoorW.PrintLast
theorem strOf1 (x : Int) : (strOfNums [x]).size = 1 := rfl
theorem markText (x : Int) (h : x ≤ 9223372036854775807) : ∃ s, Ev (fun k => laws_markText.f k x) s := by
  have key : ∀ (d : Nat) (x : Int) (s : ByteArray), x < 10 ^ d → s.size + d ≤ 30 → ∃ r, Ev (fun k => laws_markText.l0 k x s) r := by
    intro d
    induction d with
    | zero =>
      intro x s hx hs
      have hS : (1 + s.size ≤ 9223372036854775807) = True := eq_true (by omega)
      refine ⟨(⟨#[109]⟩ : ByteArray) ++ s, EvS ?_⟩
      simp only [laws_markText.l0, if_neg (show ¬ x > 0 by simp at hx; omega), hS, if_true]
      exact EvN
    | succ d ih =>
      intro x s hx hs
      have hS : (1 + s.size ≤ 9223372036854775807) = True := eq_true (by omega)
      by_cases h0 : x > 0
      · have h10 : (10 : Int) ^ (d + 1) = 10 * 10 ^ d := by rw [Int.pow_succ, Int.mul_comm]
        have hq : Int.tdiv x 10 = x / 10 := Int.tdiv_eq_ediv_of_nonneg (by omega)
        obtain ⟨r, hr⟩ := ih (wrap64 (x / 10)) (strOfNums [(wrap64 (48 + (Int.tmod x 10))) % 256] ++ s) (by unfold wrap64; omega) (by rw [ByteArray.size_append, strOf1]; omega)
        refine ⟨r, EvS ?_⟩
        simp only [laws_markText.l0, if_pos h0, Option.bind_some, strOf1, hS, if_true, hq]
        exact hr
      refine ⟨(⟨#[109]⟩ : ByteArray) ++ s, EvS ?_⟩
      simp only [laws_markText.l0, if_neg h0, hS, if_true]
      exact EvN
  by_cases h0 : x ≤ 0
  · exact ⟨⟨#[109, 48]⟩, by unfold laws_markText.f; simp only [if_pos h0]; exact EvN⟩
  have h19 : (10 : Int) ^ 19 = 10000000000000000000 := by decide
  obtain ⟨r, hr⟩ := key 19 x ⟨#[]⟩ (by omega) (show 0 + 19 ≤ 30 by omega)
  exact ⟨r, by unfold laws_markText.f; simp only [if_neg h0]; exact hr⟩
end Go.Proofs.YtcgojdhbphocgaaDoor.MT

namespace Go.Proofs.YtcgojdhbphocgaaDoor.DK
set_option linter.unusedVariables false
set_option linter.unusedSimpArgs false
open Go.RowKit Go.Proofs.YtcgojdhbphocgaaDoor.F Go.Proofs.YtcgojdhbphocgaaDoor.PK Go.Proofs.YtcgojdhbphocgaaDoorW.PrintWords Go.Proofs.YtcgojdhbphocgaaDoorW.PrintLast Go.Proofs.YtcgojdhbphocgaaDoorW.PrintMore
open Go.Proofs.YtcgojdhbphocgaaDoor.BY (markByteS)
open Go.Proofs.YtcgojdhbphocgaaDoor.MT (markText)
theorem markFS (B : Nat) (hB : B ≤ 3000000) : ∀ (d i : Nat) (x : List S55) (a : Int), d + i = x.length → x.length ≤ 3000000 → (∀ y ∈ x, 1 + y.f1.length + y.f2.length ≤ B) → 0 ≤ a → a + d * B ≤ 3900000000000000 →
    ∃ (m : Int) (x' : List S55), Ev (fun k => laws_markFileS.l0 k x a i) (m, x') ∧ a ≤ m ∧ m ≤ a + d * B ∧ x'.length = x.length ∧ (∀ j, j < i → x'[j]? = x[j]?) ∧ Ev (fun k => laws_heldFileS.l0 k x' a i) m := by
  intro d
  induction d with
  | zero =>
    intro i x a hi hx hy h0 h1
    have hi : i = x.length := by omega
    subst hi
    exact ⟨a, x, EvS (by simp only [laws_markFileS.l0, Int.lt_irrefl, if_false]; exact EvN), Int.le_refl _, by omega, rfl, fun _ _ => rfl, EvS (by simp only [laws_heldFileS.l0, Int.lt_irrefl, if_false]; exact EvN)⟩
  | succ d ih =>
    intro i x a hi hx hy h0 h1
    have hix : i < x.length := by omega
    have hyi := hy _ (List.getElem_mem hix)
    have hq : ((d + 1 : Nat) : Int) * (B : Int) = (d : Int) * (B : Int) + (B : Int) := by rw [Int.natCast_succ, Int.add_mul, Int.one_mul]
    have hdn : (0 : Int) ≤ (d : Int) * (B : Int) := Int.mul_nonneg (by omega) (by omega)
    rw [hq] at h1
    have hw : wrap64 (a + 1) = a + 1 := w64 (by omega) (by omega)
    obtain ⟨s, hs⟩ := markText a (by omega)
    obtain ⟨b, n', a1, a2, a3, a4⟩ := markByteS x[i].f1 (by omega) (a + 1) (by omega) (by omega)
    obtain ⟨c, w', b1, b2, b3, b4⟩ := markByteS x[i].f2 (by omega) b (by omega) (by omega)
    obtain ⟨m, x', f1, f2, f3, f4, f5, f6⟩ := ih (i + 1) (x.set i ⟨s, n', w'⟩) c (by simp; omega) (by simpa using hx) (fun y hmem => by
      rcases List.mem_or_eq_of_mem_set hmem with h | rfl
      · exact hy y h
      simp only [a3, b3]; exact hyi) (by omega) (by omega)
    have hli : i < x'.length := by rw [f4]; simpa using hix
    have he : x'[i] = ⟨s, n', w'⟩ := by
      have := f5 i (by omega)
      rw [List.getElem?_set_self hix, List.getElem?_eq_getElem hli] at this
      exact Option.some.inj this
    refine ⟨m, x', EvS ?_, by omega, by rw [hq]; omega, by simpa using f4, fun j hj => ?_, EvS ?_⟩
    · simp only [laws_markFileS.l0, if_pos (show (i : Int) < (x.length : Int) by omega), if_pos (show 0 ≤ (i : Int) by omega), EvB hs, rd55 x i hix, hw, EvB a1, EvB b1, Int.toNat_natCast, nxt i x.length hix (by omega)]
      exact f1
    · rw [f5 j (by omega), List.getElem?_set_ne (by omega)]
    simp only [laws_heldFileS.l0, if_pos (show (i : Int) < (x'.length : Int) by omega), if_pos (show 0 ≤ (i : Int) by omega), EvB hs, rd55 x' i hli, he, if_true, hw, EvB a4, EvB b4, if_neg (show ¬ b < 0 by omega), if_neg (show ¬ c < 0 by omega), nxt i x'.length hli (by rw [f4]; simp; omega)]
    exact f6
theorem markDisk (B : Nat) (x : List S55) (hB : B ≤ 3000000) (hx : x.length ≤ 3000000) (hs : 1 + (x.length : Int) * B ≤ 3900000000000000) (hy : ∀ y ∈ x, 1 + y.f1.length + y.f2.length ≤ B) : ∃ (m : Int) (x' : List S55), Ev (fun k => laws_markDisk.f k x 1) (m, x') ∧ 1 ≤ m ∧ Ev (fun k => laws_heldDisk.f k x' 1) m := by
  obtain ⟨m, x', h1, h2, _, _, _, h3⟩ := markFS B hB x.length 0 x 1 rfl hx hy (by omega) hs
  refine ⟨m, x', h1, h2, ?_⟩
  have h3 : Ev (fun k => laws_heldFileS.f k x' 1) m := h3
  unfold laws_heldDisk.f
  simp only [EvB h3, if_neg (show ¬ m < 0 by omega)]
  exact EvN
end Go.Proofs.YtcgojdhbphocgaaDoor.DK

namespace Go.Proofs.YtcgojdhbphocgaaDoor.Pure
set_option linter.unusedVariables false
set_option linter.unusedSimpArgs false
open Go.RowKit Go.Proofs.YtcgojdhbphocgaaDoor.F Go.Proofs.YtcgojdhbphocgaaDoor.PK Go.Proofs.YtcgojdhbphocgaaDoorW.PrintWords Go.Proofs.YtcgojdhbphocgaaDoorW.PrintLast
open Go.Proofs.YtcgojdhbphocgaaDoor.DK Go.Proofs.YtcgojdhbphocgaaDoor.BY Go.Proofs.YtcgojdhbphocgaaDoor.FR
def wapM (l : List S55) (p : List Int) : List S55 × Bool := if (frameM p).length = 0 then (l, false) else appM l (⟨#[108, 111, 103]⟩ : ByteArray) (frameM p)
theorem log_size : (⟨#[108, 111, 103]⟩ : ByteArray).size ≤ 9223372036854775807 := by decide
theorem wap_le (l : List S55) (p : List Int) (hw : wfD l) : (wapM l p).1.length ≤ l.length + 1 ∧ ∀ y ∈ (wapM l p).1, y.f1.length + y.f2.length ≤ 2097152 := by
  have hf := frameM_le p
  unfold wapM
  split
  · exact ⟨Nat.le_succ _, fun y hy => by have := hw y hy; omega⟩
  exact app_le l _ _ hw (by omega)
theorem spec_wap (l : List S55) (p : List Int) (hl : l.length ≤ 1048576) (hw : wfD l) (hp : p.length ≤ 1048576) : Ev (fun k => spec_WalAppend.f k l p) (wapM l p) := by
  have hf := frameM_le p
  unfold spec_WalAppend.f
  refine (EvB (spec_frame p hp)).2 ?_
  unfold wapM
  by_cases h : (frameM p).length = 0
  · simp only [if_pos h, if_pos (show ((frameM p).length : Int) = 0 by omega)]
    exact (EvB (copyS l (by omega) (wfD_le' hw))).2 EvN
  simp only [if_neg h, if_neg (show ¬ ((frameM p).length : Int) = 0 by omega)]
  exact spec_app l _ _ hl hw log_size (by omega)
theorem impl_wap (l : List S55) (p : List Int) (hl : l.length ≤ 1048576) (hw : wfD l) (hp : p.length ≤ 1048576) : Ev (fun k => impl_WalAppend.f k l p) (wapM l p) := by
  have hf := frameM_le p
  unfold impl_WalAppend.f
  refine (EvB (impl_frame p hp)).2 ?_
  unfold wapM
  by_cases h : (frameM p).length = 0
  · simp only [if_pos h, if_pos (show ((frameM p).length : Int) = 0 by omega)]
    exact (EvB (copyI l (by omega) (wfD_le hw))).2 EvN
  simp only [if_neg h, if_neg (show ¬ ((frameM p).length : Int) = 0 by omega)]
  exact impl_app l _ _ hl hw log_size (by omega)
theorem FnExactWalAppend (l0_0 : List (S83)) (l1 : List Int) (hw0 : l0_0.length ≤ 9223372036854775807 ∧ ∀ y_ ∈ l0_0, ((y_.f0.size ≤ 9223372036854775807) ∧ (y_.f1.length ≤ 9223372036854775807 ∧ ∀ z_ ∈ y_.f1, ((Lit.int .u8 z_).wf = true)) ∧ (y_.f2.length ≤ 9223372036854775807 ∧ ∀ z_ ∈ y_.f2, ((Lit.int .u8 z_).wf = true)))) (hw1 : l1.length ≤ 9223372036854775807 ∧ ∀ y_ ∈ l1, ((Lit.int .u8 y_).wf = true)) : ∃ k, laws_FnExactWalAppend.f k l0_0 l1 = some true := by
  refine EvE ?_
  unfold laws_FnExactWalAppend.f
  by_cases h02 : (l1.length : Int) > 1048576
  · simp only [if_pos h02]; exact EvN
  obtain ⟨t, h1, h3⟩ := szDisk l0_0 hw0.1 (fun y hy => ⟨(hw0.2 y hy).1, (hw0.2 y hy).2.1.1, (hw0.2 y hy).2.2.1⟩)
  simp only [if_neg h02, EvB h1]
  by_cases h : t < 0
  · simp only [if_pos h]; exact EvN
  have h3 := h3 (by omega)
  have hT := toDisk l0_0 h3.1 h3.2
  have hw : wfD (l0_0.map conv83) := fun r hr => by
    obtain ⟨y, hy, rfl⟩ := List.mem_map.1 hr
    exact ⟨(hw0.2 y hy).1, h3.2 y hy⟩
  have hl : (l0_0.map conv83).length ≤ 1048576 := by rw [List.length_map]; exact h3.1
  generalize l0_0.map conv83 = l at hT hw hl
  have hS := spec_wap l l1 hl hw (by omega)
  have hI := impl_wap l l1 hl hw (by omega)
  have hc := wap_le l l1 hw
  generalize wapM l l1 = r at hS hI hc
  obtain ⟨b, q⟩ := r
  simp only at hc
  have hwb : ∀ y ∈ b, y.f1.length + y.f2.length ≤ 2097152 := hc.2
  have hE := eqDisk l (by omega) (fun y hy => by have := hw y hy; omega)
  have hQ := eqDisk b (by omega) (fun y hy => by have := hwb y hy; omega)
  have hm : (l.length : Int) * ((2097153 : Nat) : Int) ≤ 1048576 * 2097153 := Int.mul_le_mul (by omega) (by omega) (by omega) (by omega)
  have hm2 : (b.length : Int) * ((2097153 : Nat) : Int) ≤ 1048577 * 2097153 := Int.mul_le_mul (by omega) (by omega) (by omega) (by omega)
  obtain ⟨m, l', m1, m2, mB, _⟩ := markFS 2097153 (by omega) l.length 0 l 1 rfl (by omega) (fun y hy => by have := hw y hy; omega) (by omega) (by omega)
  replace m1 : Ev (fun k => laws_markDisk.f k l 1) (m, l') := m1
  obtain ⟨n, b', q1, q2, q3⟩ := markDisk 2097153 b (by omega) (by omega) (by omega) (fun y hy => by have := hwb y hy; omega)
  obtain ⟨m2, l2', b1, b2, b3, b4⟩ := markByteS l1 (by omega) m (by omega) (by omega)
  simp only [if_neg h, EvB hT, EvB (toByteS l1 (by omega)), EvB (eqByteS l1 (by omega)), EvB b1, if_neg (show ¬ m2 < 0 by omega), EvB hS, EvB hI, EvB hQ, if_true, EvB hE, EvB m1, if_neg (show ¬ m < 0 by omega), EvB q1, EvB q3, if_neg (show ¬ n < 0 by omega)]
  exact EvN
end Go.Proofs.YtcgojdhbphocgaaDoor.Pure

namespace Go.Proofs.YtcgojdhbphocgaaDoor.Opens
set_option linter.unusedVariables false
set_option linter.unusedSimpArgs false
open Go.RowKit Go.Proofs.YtcgojdhbphocgaaDoorW.PrintWords
def Opens (P : Program) (t : TypeId) {α : Type} (d : Kd α) (ok : α → Prop) : Prop :=
  P.cellsOf t = d.sz ∧ ∀ (H : Type) (enc : TypeId × Value → H) (w : World) (spare : Nat → Bool) (fuel : Nat) (cs : List Value) (x : DataW H × List MemPlace), DataW.trod enc P w 0 spare true fuel t cs = some x → ∃ a : α, d.K w a cs ∧ ok a
variable {P : Program}
theorem opens_int {t : TypeId} {k : IntKind} (ht : P.underlying t = some (.int k)) (hc : P.cellsOf t = 1) : Opens P t (Kd.int k) (fun a => (Lit.int k a).wf = true) :=
  ⟨hc, fun _ _ _ _ _ _ _ h => by
    obtain ⟨n, rfl, _, hw⟩ := DataW.trod_int ht h
    exact ⟨n, rfl, hw⟩⟩
theorem opens_string {t : TypeId} (ht : P.underlying t = some .string) (hc : P.cellsOf t = 1) : Opens P t Kd.string (fun a => a.size ≤ 9223372036854775807) :=
  ⟨hc, fun _ _ _ _ _ _ _ h => by
    obtain ⟨n, rfl, _, hw⟩ := DataW.trod_string ht h
    exact ⟨n, rfl, hw⟩⟩
theorem add_add (a : Addr) (i j : Nat) : (a.add i).add j = a.add (i + j) := by
  unfold Addr.add
  by_cases hi : i = 0 <;> by_cases hj : j = 0 <;> simp [hi, hj, Nat.add_assoc]
theorem opens_slice {t e : TypeId} {α : Type} {d : Kd α} {ok : α → Prop} (ht : P.underlying t = some (.slice e)) (hc : P.cellsOf t = 1) (hd : Opens P e d ok) :
    Opens P t (Kd.slice e d) (fun l => l.length ≤ 9223372036854775807 ∧ ∀ a ∈ l, ok a) :=
  ⟨hc, fun H enc w spare fuel cs x h => by
    rcases Deep.open_slice ht h with ⟨rfl, _⟩ | ⟨a, len, cap, m, n, D, Pl, rfl, _, hl, hm, hmm, hxx, hx⟩
    · exact ⟨[], ⟨none, 0, rfl, Nat.le_refl _, rfl, Nat.zero_le _, fun h => absurd h (Nat.lt_irrefl _)⟩, Nat.zero_le _, fun _ h => nomatch h⟩
    have hlm : len ≤ m := by rw [hmm]; split <;> omega
    have hex : ∀ i, i < len → ∃ b : α, ∃ cs', w.cells? 0 (a.add (i * P.cellsOf e)) (P.cellsOf e) = some cs' ∧ d.K w b cs' ∧ ok b := fun i hi => by
      obtain ⟨cs', h1, h2⟩ := hx i (Nat.lt_of_lt_of_le hi hlm)
      obtain ⟨b, hb⟩ := hd.2 H enc w spare n cs' _ h2
      exact ⟨b, cs', h1, hb.1, hb.2⟩
    have hml : len ≤ 9223372036854775807 := by unfold maxLen at hm; omega
    obtain ⟨l, hll, hat⟩ : ∃ l : List α, l.length = len ∧ ∀ i p, l[i]? = some p → ∃ cs', w.cells? 0 (a.add (i * P.cellsOf e)) (P.cellsOf e) = some cs' ∧ d.K w p cs' ∧ ok p := by
      clear hx hlm hmm hl hm hml hxx h
      induction len with
      | zero => exact ⟨[], rfl, fun i p h => by simp at h⟩
      | succ len ih =>
        obtain ⟨l, hll, hat⟩ := ih (fun i hi => hex i (Nat.lt_succ_of_lt hi))
        obtain ⟨b, hb⟩ := hex len (Nat.lt_succ_self _)
        refine ⟨l ++ [b], by simp [hll], fun i p h => ?_⟩
        rcases Nat.lt_or_ge i l.length with hi | hi
        · rw [List.getElem?_append_left hi] at h
          exact hat i p h
        rw [List.getElem?_append_right hi] at h
        have hi0 : i - l.length = 0 := by
          rcases Nat.eq_zero_or_pos (i - l.length) with h0 | h0
          · exact h0
          rw [List.getElem?_eq_none (by simp; omega)] at h
          cases h
        rw [hi0] at h
        have : b = p := by simpa using h
        subst this
        have : i = len := by omega
        subst this
        exact hb
    subst hll
    refine ⟨l, ⟨some a, cap, rfl, hl, rfl, hml, fun _ => ⟨a, rfl, fun j p hj => ?_⟩⟩, hml, fun b hb => ?_⟩
    · obtain ⟨cs', h1, hk, _⟩ := hat j p hj
      obtain ⟨_, hlen, hcell⟩ := World.cells?_some h1
      refine ⟨cs', hlen.trans hd.1, hk, fun i u hu => ?_⟩
      have hi : i < P.cellsOf e := by
        have := (List.getElem?_eq_some_iff.1 hu).1
        omega
      have := hcell i hi
      rw [hu, add_add, hd.1] at this
      exact this
    obtain ⟨i, hi⟩ := List.getElem?_of_mem hb
    obtain ⟨_, _, _, hok⟩ := hat i b hi
    exact hok⟩
def OpensF (P : Program) (fs : List Field) (off : Nat) {α : Type} (d : Kd α) (ok : α → Prop) : Prop :=
  ∀ (H : Type) (enc : TypeId × Value → H) (w : World) (spare : Nat → Bool) (n : Nat) (cs : List Value), (∀ f, f ∈ fs → ∃ y, DataW.trod enc P w 0 spare true n f.type ((cs.drop f.offset).take (P.cellsOf f.type)) = some y) → cs.length = off + d.sz → ∃ a : α, d.K w a (cs.drop off) ∧ ok a
theorem opens_last {f : Field} {off : Nat} {α : Type} {d : Kd α} {ok : α → Prop} (ho : f.offset = off) (hd : Opens P f.type d ok) : OpensF P [f] off d ok := fun H enc w spare n cs hf hl => by
  obtain ⟨y, hy⟩ := hf f (List.mem_singleton.2 rfl)
  rw [ho, List.take_of_length_le (by rw [List.length_drop, hl, hd.1]; omega)] at hy
  exact hd.2 H enc w spare n _ y hy
theorem opens_field {f : Field} {fs : List Field} {off : Nat} {α β : Type} {d : Kd α} {d' : Kd β} {ok : α → Prop} {ok' : β → Prop} (ho : f.offset = off) (hd : Opens P f.type d ok) (hr : OpensF P fs (off + d.sz) d' ok') :
    OpensF P (f :: fs) off (Kd.pair d d') (fun p => ok p.1 ∧ ok' p.2) := fun H enc w spare n cs hf hl => by
  obtain ⟨y, hy⟩ := hf f (List.mem_cons_self ..)
  have hz : (Kd.pair d d').sz = d.sz + d'.sz := rfl
  rw [ho, hd.1] at hy
  obtain ⟨a, ha, hoa⟩ := hd.2 H enc w spare n _ y hy
  obtain ⟨b, hb, hob⟩ := hr H enc w spare n cs (fun g hg => hf g (List.mem_cons_of_mem _ hg)) (by omega)
  refine ⟨(a, b), ⟨(cs.drop off).take d.sz, cs.drop (off + d.sz), ?_, ha, hb⟩, hoa, hob⟩
  rw [← List.drop_drop, List.take_append_drop]
theorem opens_struct {t : TypeId} {fs : Array Field} {α : Type} {d : Kd α} {ok : α → Prop} (ht : P.underlying t = some (.struct fs)) (hc : P.cellsOf t = d.sz) (hf : OpensF P fs.toList 0 d ok) : Opens P t d ok :=
  ⟨hc, fun H enc w spare fuel cs x h => by
    obtain ⟨xs, n, _, _, hlen, hxs, hi⟩ := DataW.trod_struct ht h
    have := hf H enc w spare n cs (fun f hm => by
      obtain ⟨i, hi'⟩ := List.getElem?_of_mem hm
      have hq := hi i f (by simpa using hi')
      have hlt : i < xs.length := by
        have := (List.getElem?_eq_some_iff.1 hi').1
        rw [hxs]
        simpa using this
      rw [List.getElem?_eq_getElem hlt] at hq
      exact ⟨_, hq⟩) (by omega)
    simpa using this⟩
theorem opens_iso {t : TypeId} {α β : Type} {d : Kd α} {ok : α → Prop} (f : β → α) (g : α → β) (hfg : ∀ a, f (g a) = a) (h : Opens P t d ok) : Opens P t (Kd.iso d f) (fun b => ok (f b)) :=
  ⟨h.1, fun H enc w spare fuel cs x hx => by
    obtain ⟨a, ha, hok⟩ := h.2 H enc w spare fuel cs x hx
    exact ⟨g a, by show d.K w (f (g a)) cs; rw [hfg]; exact ha, by show ok (f (g a)); rw [hfg]; exact hok⟩⟩
end Go.Proofs.YtcgojdhbphocgaaDoor.Opens
