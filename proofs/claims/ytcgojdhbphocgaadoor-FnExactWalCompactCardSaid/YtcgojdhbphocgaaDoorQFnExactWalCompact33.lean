/- Merged texts below the law FnExactWalCompact: Go functions as Lean functions, their contracts, and plain lemmas. -/
import Derived.Test.YtcgojdhbphocgaaDoorQFnExactWalCompact23
import Derived.Test.YtcgojdhbphocgaaDoorVFnExactWalCompactCI
import Derived.Test.YtcgojdhbphocgaaDoorVFnExactWalCompactCS
import Derived.Test.YtcgojdhbphocgaaDoorVFnExactWalCompactMore
import Derived.Test.YtcgojdhbphocgaaDoorQFnExactWalCompact29
import Derived.Laws.BitsAllLaws
import Derived.Test.YtcgojdhbphocgaaDoorQFnExactWalCompact26
import Derived.Test.YtcgojdhbphocgaaDoorVFnExactWalCompactOT
namespace Go.Proofs.YtcgojdhbphocgaaDoor.F
open Go.RowKit Go.Proofs.YtcgojdhbphocgaaDoorW.PrintWords Go.Proofs.YtcgojdhbphocgaaDoorW.PrintLast Go.Proofs.YtcgojdhbphocgaaDoorW.PrintMore
open Go.Proofs.YtcgojdhbphocgaaDoor
set_option linter.unusedVariables false
set_option linter.unusedSimpArgs false
def laws_FnExactWalCompact.f (k : Nat) (l0_0 : List (S83)) (a1 : Int) : Option Bool := ((laws_szDisk.f k l0_0 1048576).bind fun p2 => (if p2 < 0 then some true else ((laws_toDisk.f k l0_0).bind fun p8 => ((spec_WalCompact.f k p8 a1).bind fun p16 => ((laws_toDisk.f k l0_0).bind fun p25 => ((impl_WalCompact.f k p25 a1).bind fun p33 => ((laws_eqDisk.f k p33.1 p16.1).bind fun p42 => (if p42 = true then (if p33.2 = p16.2 then ((laws_toDisk.f k l0_0).bind fun p48 => ((laws_eqDisk.f k p25 p48).bind fun p55 => (if p55 = true then ((laws_markDisk.f k p25 1).bind fun p61 => (if p61.1 < 0 then none else ((laws_eqDisk.f k p33.1 p16.1).bind fun p71 => (if p71 = true then (if p16.2 = p16.2 then ((laws_markDisk.f k p33.1 1).bind fun p77 => ((laws_heldDisk.f k p77.2 1).bind fun p84 => (if p84 < 0 then none else (if p84 = p77.1 then ((laws_toDisk.f k l0_0).bind fun p92 => ((impl_WalCompact.f k p92 a1).bind fun p100 => ((laws_eqDisk.f k p100.1 p16.1).bind fun p109 => (if p109 = true then (if p100.2 = p16.2 then ((laws_heldDisk.f k p77.2 1).bind fun p116 => (if p116 < 0 then none else (if p116 = p77.1 then (some true) else none))) else none) else none)))) else none)))) else none) else none)))) else none))) else none) else none))))))))
set_option maxHeartbeats 16000000 in
set_option maxRecDepth 100000 in
theorem laws_FnExactWalCompact.calls (k : Nat) (A0_0 : Option Addr) (c0_0 : Nat) (l0_0 : List (S83)) (a1 : Int) (r : Bool) (w : World) (hr0_0 : Kd.C k83 w A0_0 l0_0.length l0_0) (hc0_0 : l0_0.length ≤ c0_0) (h : laws_FnExactWalCompact.f k l0_0 a1 = some r) :
    Calls Tryd.prog 8 #[.agg #[.slice A0_0 l0_0.length c0_0], .int .i64 a1] w fun e w' => e = .returned (.bool r) ∧ Below w.heap.size w w' := by
  have HR0_0 := Zh hr0_0
  have HC0_0 := Zh hc0_0
  clear hr0_0 hc0_0
  have ST := Zh (LW.St.start w)
  unfold laws_FnExactWalCompact.f at h
  go_enter Tryd.func8, Tryd.ntmps8
  go_wp2_with fail
  replace ST := Zh (ST.out.alloc #[.slice A0_0 l0_0.length c0_0] 24 (g := w.heap.size) rfl)
  replace h := Option.bind_eq_some_iff.mp h
  obtain ⟨t1, HA_, h⟩ := h
  try dsimp only at h
  replace HA_ := Zh HA_
  with_reducible refine (laws_szDisk.calls k _ _ l0_0 1048576 t1 _ (Kd.C_below HR0_0.out ST.out.b) HC0_0.out HA_.out).mono ?_
  rintro e w3 ⟨rfl, hb⟩
  clear HA_
  replace ST := Zh (ST.out.step hb)
  clear hb
  have hc4 := ST.out.cell 0 rfl 0 (u := .slice A0_0 l0_0.length c0_0) rfl
  have hl5 := ST.out.lt 0 rfl
  by_cases c6 : t1 < 0
  · rw [if_pos c6] at h
    obtain rfl := Option.some.inj h
    have c6b : decide (t1 < 0) = true := decide_eq_true c6
    clear c6
    go_wp2
    go_ret
    exact ⟨rfl, ST.out.b⟩
  rw [if_neg c6] at h
  have c6b : decide (t1 < 0) = false := decide_eq_false c6
  clear c6
  go_wp2_with fail
  replace h := Option.bind_eq_some_iff.mp h
  obtain ⟨t7, HA_, h⟩ := h
  try dsimp only at h
  replace HA_ := Zh HA_
  with_reducible refine (laws_toDisk.calls k _ _ l0_0 t7 _ (Kd.C_below HR0_0.out ST.out.b) HC0_0.out HA_.out).mono ?_
  rintro e w9 ⟨v10, rfl, ho11, hb⟩
  clear HA_
  obtain ⟨A12, c13, rfl⟩ := Kd.S_slice ho11
  replace ST := Zh (ST.out.row hb ho11)
  clear hb ho11
  clear hc4 hl5
  go_wp2_with fail
  replace h := Option.bind_eq_some_iff.mp h
  obtain ⟨⟨t14, t15⟩, HA_, h⟩ := h
  try dsimp only at h
  replace HA_ := Zh HA_
  with_reducible refine (spec_WalCompact.calls k _ _ t7 a1 t14 t15 _ (ST.out.reads 0 rfl).2.2 (ST.out.reads 0 rfl).2.1 HA_.out).mono ?_
  rintro e w17 ⟨v18, rfl, ho19, hb⟩
  clear HA_
  obtain ⟨A20, c21, rfl⟩ := Kd.S_slice ho19
  replace ST := Zh (ST.out.row hb ho19)
  clear hb ho19
  have hc22 := ST.out.cell 2 rfl 0 (u := .slice A0_0 l0_0.length c0_0) rfl
  have hl23 := ST.out.lt 2 rfl
  go_wp2_with fail
  replace ST := Zh (ST.out.alloc #[.slice A20 t14.length c21] 28 (g := w17.heap.size) rfl)
  replace h := Option.bind_eq_some_iff.mp h
  obtain ⟨t24, HA_, h⟩ := h
  try dsimp only at h
  replace HA_ := Zh HA_
  with_reducible refine (laws_toDisk.calls k _ _ l0_0 t24 _ (Kd.C_below HR0_0.out ST.out.b) HC0_0.out HA_.out).mono ?_
  rintro e w26 ⟨v27, rfl, ho28, hb⟩
  clear HA_
  obtain ⟨A29, c30, rfl⟩ := Kd.S_slice ho28
  replace ST := Zh (ST.out.row hb ho28)
  clear hb ho28
  clear hc22 hl23
  go_wp2_with fail
  replace ST := Zh (ST.out.alloc #[.slice A29 t24.length c30] 28 (g := w26.heap.size) rfl)
  replace h := Option.bind_eq_some_iff.mp h
  obtain ⟨⟨t31, t32⟩, HA_, h⟩ := h
  try dsimp only at h
  replace HA_ := Zh HA_
  with_reducible refine (impl_WalCompact.calls k _ _ t24 a1 t31 t32 _ (ST.out.reads 1 rfl).2.2 (ST.out.reads 1 rfl).2.1 HA_.out).mono ?_
  rintro e w34 ⟨v35, rfl, ho36, hb⟩
  clear HA_
  obtain ⟨A37, c38, rfl⟩ := Kd.S_slice ho36
  replace ST := Zh (ST.out.row hb ho36)
  clear hb ho36
  have hc39 := ST.out.cell 3 rfl 0 (u := .slice A20 t14.length c21) rfl
  have hl40 := ST.out.lt 3 rfl
  go_wp2_with fail
  replace ST := Zh (ST.out.alloc #[.slice A37 t31.length c38] 28 (g := w34.heap.size) rfl)
  replace h := Option.bind_eq_some_iff.mp h
  obtain ⟨t41, HA_, h⟩ := h
  try dsimp only at h
  replace HA_ := Zh HA_
  with_reducible refine (laws_eqDisk.calls k _ _ t31 _ _ t14 t41 _ (ST.out.reads 1 rfl).2.2 (ST.out.reads 1 rfl).2.1 (ST.out.reads 5 rfl).2.2 (ST.out.reads 5 rfl).2.1 HA_.out).mono ?_
  rintro e w43 ⟨rfl, hb⟩
  clear HA_
  replace ST := Zh (ST.out.step hb)
  clear hb
  obtain rfl : t41 = true := by
    cases t41 with
    | true => rfl
    | false => exact absurd h (by simp)
  first | rw [if_pos rfl] at h | rw [if_pos trivial] at h
  clear hc39 hl40
  have e44 : t32 = t15 := by
    refine Decidable.byContradiction fun e_ => ?_
    rw [if_neg e_] at h
    exact absurd h (by simp)
  rw [if_pos e44] at h
  obtain rfl : t15 = t32 := by first | exact e44 | exact e44.symm
  clear e44
  have hq45 : (t15 != t15) = false := bne_self_eq_false _
  go_wp2_with fail
  replace ST := Zh ST.out.drew
  refine start_ (n := 5) (S := fun w' => w'.cell? ⟨w26.heap.size, 0, none⟩ = some (.slice A29 t24.length c30) ∧ w'.cell? ⟨w.heap.size, 0, none⟩ = some (.slice A0_0 l0_0.length c0_0)) (ds := []) #[false, false, false, false, false] (by kernel_rfl) rfl rfl ⟨ST.out.cell 2 rfl 0 rfl, ST.out.cell 7 rfl 0 rfl⟩ (fun hHeld => ?_)
  generalize w43.drew = w46 at ST hHeld ⊢
  refine take_ (i := 0) (N := some 45) (v := ?_) (a' := ?_) #[true, false, false, false, false] rfl rfl (by kernel_rfl) (fun _ _ _ h => h) (Or.inl ⟨by rfl, ?_⟩) hHeld ?_ ?_
  rotate_left
  · rintro w' ⟨s0, s1⟩
    go_simp
    with_reducible rfl
  rotate_left
  · simp only [Act.put, List.setIfInBounds_toArray, List.set_cons_zero, List.set_cons_succ, i64_w, i32_w]
    rfl
  refine take_ (i := 1) (N := some 46) (v := ?_) (a' := ?_) #[true, true, false, false, false] rfl rfl (by kernel_rfl) (fun _ _ _ h => h) (Or.inl ⟨by rfl, ?_⟩) hHeld ?_ ?_
  rotate_left
  · rintro w' ⟨s0, s1⟩
    go_simp
    with_reducible rfl
  rotate_left
  · simp only [Act.put, List.setIfInBounds_toArray, List.set_cons_zero, List.set_cons_succ, i64_w, i32_w]
    rfl
  refine one_ (i := 2) (N := some 47) #[true, true, true, false, false] rfl rfl (by kernel_rfl) (by decide) (fun K hK => ?_)
  replace h := Option.bind_eq_some_iff.mp h
  obtain ⟨t47, HA_, h⟩ := h
  try dsimp only at h
  replace HA_ := Zh HA_
  refine goes_ Tryd.func13 (by kernel_rfl) rfl #[.agg #[.slice A0_0 l0_0.length c0_0]] (by rfl) rfl rfl (by (try simp only [List.map_toArray, List.map_cons, List.map_nil]); first | done | rfl) ?_
  with_reducible refine (laws_toDisk.calls k _ _ l0_0 t47 _ (Kd.C_below HR0_0.out ST.out.b) HC0_0.out HA_.out).mono ?_
  rintro e w49 ⟨v50, rfl, ho51, hb⟩
  clear HA_
  refine ⟨_, rfl, ?_⟩
  obtain ⟨A52, c53, rfl⟩ := Kd.S_slice ho51
  replace ST := Zh (ST.out.row hb ho51)
  clear hb ho51
  refine hK.out _ _ ⟨ST.out.cell 3 rfl 0 rfl, ST.out.cell 8 rfl 0 rfl⟩ (fun hHeld => ?_)
  clear hK K
  refine norm_ (a' := ?_) ?_ ?_
  rotate_left
  · show Act.put _ (some 47) _ = _
    simp only [Act.put, List.setIfInBounds_toArray, List.set_cons_zero, List.set_cons_succ, i64_w, i32_w]
    rfl
  refine one_ (i := 3) (N := some 48) #[true, true, true, true, false] rfl rfl (by kernel_rfl) (by decide) (fun K hK => ?_)
  replace h := Option.bind_eq_some_iff.mp h
  obtain ⟨t54, HA_, h⟩ := h
  try dsimp only at h
  replace HA_ := Zh HA_
  refine goes_ Tryd.func15 (by kernel_rfl) rfl #[.agg #[.slice A29 t24.length c30], .agg #[.slice A52 t47.length c53]] (by rfl) rfl rfl (by (try simp only [List.map_toArray, List.map_cons, List.map_nil]); first | done | rfl) ?_
  with_reducible refine (laws_eqDisk.calls k _ _ t24 _ _ t47 t54 _ (ST.out.reads 4 rfl).2.2 (ST.out.reads 4 rfl).2.1 (ST.out.reads 0 rfl).2.2 (ST.out.reads 0 rfl).2.1 HA_.out).mono ?_
  rintro e w56 ⟨rfl, hb⟩
  clear HA_
  refine ⟨_, rfl, ?_⟩
  replace ST := Zh (ST.out.step hb)
  clear hb
  obtain rfl : t54 = true := by
    cases t54 with
    | true => rfl
    | false => exact absurd h (by simp)
  first | rw [if_pos rfl] at h | rw [if_pos trivial] at h
  refine hK.out _ _ ⟨ST.out.cell 3 rfl 0 rfl, ST.out.cell 8 rfl 0 rfl⟩ (fun hHeld => ?_)
  clear hK K
  refine norm_ (a' := ?_) ?_ ?_
  rotate_left
  · show Act.put _ (some 48) _ = _
    simp only [Act.put, List.setIfInBounds_toArray, List.set_cons_zero, List.set_cons_succ, i64_w, i32_w]
    rfl
  refine pure_ (i := 4) (N := some 49) (v := ?_) (a' := ?_) #[true, true, true, true, true] rfl rfl (by kernel_rfl) (fun _ _ _ h => h) (Or.inl ⟨by rfl, ?_⟩) ?_ ?_
  rotate_left
  · intro w'
    go_simp
    with_reducible rfl
  rotate_left
  · simp only [Act.put, List.setIfInBounds_toArray, List.set_cons_zero, List.set_cons_succ, i64_w, i32_w]
    rfl
  refine done_ (by kernel_rfl) ?_
  have hc57 := ST.out.cell 3 rfl 0 (u := .slice A29 t24.length c30) rfl
  have hl58 := ST.out.lt 3 rfl
  go_wp2_with fail
  replace h := Option.bind_eq_some_iff.mp h
  obtain ⟨⟨t59, t60⟩, HA_, h⟩ := h
  try dsimp only at h
  replace HA_ := Zh HA_
  with_reducible refine (laws_markDisk.calls k _ _ t24 1 t59 t60 w _ ST.out.b (ST.out.own 4 rfl) HA_.out).mono ?_
  rintro e w62 ⟨rfl, ho63, hb, hk⟩
  clear HA_
  replace ST := Zh (ST.out.write 4 rfl ho63 hb hk)
  clear hb hk ho63
  have el64 := (ST.out.reads 4 rfl).1
  simp only [el64] at ST ⊢
  clear el64
  clear hc57 hl58
  have hc65 := ST.out.cell 1 rfl 0 (u := .slice A37 t31.length c38) rfl
  have hl66 := ST.out.lt 1 rfl
  have hc67 := ST.out.cell 5 rfl 0 (u := .slice A20 t14.length c21) rfl
  have hl68 := ST.out.lt 5 rfl
  by_cases c69 : t59 < 0
  · rw [if_pos c69] at h
    exact absurd h (by simp)
  rw [if_neg c69] at h
  have c69b : decide (t59 < 0) = false := decide_eq_false c69
  clear c69
  go_wp2_with fail
  replace h := Option.bind_eq_some_iff.mp h
  obtain ⟨t70, HA_, h⟩ := h
  try dsimp only at h
  replace HA_ := Zh HA_
  with_reducible refine (laws_eqDisk.calls k _ _ t31 _ _ t14 t70 _ (ST.out.reads 2 rfl).2.2 (ST.out.reads 2 rfl).2.1 (ST.out.reads 6 rfl).2.2 (ST.out.reads 6 rfl).2.1 HA_.out).mono ?_
  rintro e w72 ⟨rfl, hb⟩
  clear HA_
  replace ST := Zh (ST.out.step hb)
  clear hb
  obtain rfl : t70 = true := by
    cases t70 with
    | true => rfl
    | false => exact absurd h (by simp)
  first | rw [if_pos rfl] at h | rw [if_pos trivial] at h
  clear hc65 hl66 hc67 hl68
  have hc73 := ST.out.cell 1 rfl 0 (u := .slice A37 t31.length c38) rfl
  have hl74 := ST.out.lt 1 rfl
  first | rw [if_pos rfl] at h | rw [if_pos trivial] at h
  go_wp2_with fail
  replace h := Option.bind_eq_some_iff.mp h
  obtain ⟨⟨t75, t76⟩, HA_, h⟩ := h
  try dsimp only at h
  replace HA_ := Zh HA_
  with_reducible refine (laws_markDisk.calls k _ _ t31 1 t75 t76 w _ ST.out.b (ST.out.own 2 rfl) HA_.out).mono ?_
  rintro e w78 ⟨rfl, ho79, hb, hk⟩
  clear HA_
  replace ST := Zh (ST.out.write 2 rfl ho79 hb hk)
  clear hb hk ho79
  have el80 := (ST.out.reads 2 rfl).1
  simp only [el80] at ST ⊢
  clear el80
  clear hc73 hl74
  have hc81 := ST.out.cell 1 rfl 0 (u := .slice A37 t76.length c38) rfl
  have hl82 := ST.out.lt 1 rfl
  go_wp2_with fail
  replace h := Option.bind_eq_some_iff.mp h
  obtain ⟨t83, HA_, h⟩ := h
  try dsimp only at h
  replace HA_ := Zh HA_
  with_reducible refine (laws_heldDisk.calls k _ _ t76 1 t83 _ (ST.out.reads 2 rfl).2.2 (ST.out.reads 2 rfl).2.1 HA_.out).mono ?_
  rintro e w85 ⟨rfl, hb⟩
  clear HA_
  replace ST := Zh (ST.out.step hb)
  clear hb
  clear hc81 hl82
  have hc86 := ST.out.cell 8 rfl 0 (u := .slice A0_0 l0_0.length c0_0) rfl
  have hl87 := ST.out.lt 8 rfl
  by_cases c88 : t83 < 0
  · rw [if_pos c88] at h
    exact absurd h (by simp)
  rw [if_neg c88] at h
  have c88b : decide (t83 < 0) = false := decide_eq_false c88
  clear c88
  have e89 : t83 = t75 := by
    refine Decidable.byContradiction fun e_ => ?_
    rw [if_neg e_] at h
    exact absurd h (by simp)
  rw [if_pos e89] at h
  obtain rfl : t75 = t83 := by first | exact e89 | exact e89.symm
  clear e89
  have hq90 : (t75 != t75) = false := bne_self_eq_false _
  go_wp2_with fail
  replace h := Option.bind_eq_some_iff.mp h
  obtain ⟨t91, HA_, h⟩ := h
  try dsimp only at h
  replace HA_ := Zh HA_
  with_reducible refine (laws_toDisk.calls k _ _ l0_0 t91 _ (Kd.C_below HR0_0.out ST.out.b) HC0_0.out HA_.out).mono ?_
  rintro e w93 ⟨v94, rfl, ho95, hb⟩
  clear HA_
  obtain ⟨A96, c97, rfl⟩ := Kd.S_slice ho95
  replace ST := Zh (ST.out.row hb ho95)
  clear hb ho95
  clear hc86 hl87
  go_wp2_with fail
  replace h := Option.bind_eq_some_iff.mp h
  obtain ⟨⟨t98, t99⟩, HA_, h⟩ := h
  try dsimp only at h
  replace HA_ := Zh HA_
  with_reducible refine (impl_WalCompact.calls k _ _ t91 a1 t98 t99 _ (ST.out.reads 0 rfl).2.2 (ST.out.reads 0 rfl).2.1 HA_.out).mono ?_
  rintro e w101 ⟨v102, rfl, ho103, hb⟩
  clear HA_
  obtain ⟨A104, c105, rfl⟩ := Kd.S_slice ho103
  replace ST := Zh (ST.out.row hb ho103)
  clear hb ho103
  have hc106 := ST.out.cell 7 rfl 0 (u := .slice A20 t14.length c21) rfl
  have hl107 := ST.out.lt 7 rfl
  go_wp2_with fail
  replace ST := Zh (ST.out.alloc #[.slice A104 t98.length c105] 28 (g := w101.heap.size) rfl)
  replace h := Option.bind_eq_some_iff.mp h
  obtain ⟨t108, HA_, h⟩ := h
  try dsimp only at h
  replace HA_ := Zh HA_
  with_reducible refine (laws_eqDisk.calls k _ _ t98 _ _ t14 t108 _ (ST.out.reads 1 rfl).2.2 (ST.out.reads 1 rfl).2.1 (ST.out.reads 9 rfl).2.2 (ST.out.reads 9 rfl).2.1 HA_.out).mono ?_
  rintro e w110 ⟨rfl, hb⟩
  clear HA_
  replace ST := Zh (ST.out.step hb)
  clear hb
  obtain rfl : t108 = true := by
    cases t108 with
    | true => rfl
    | false => exact absurd h (by simp)
  first | rw [if_pos rfl] at h | rw [if_pos trivial] at h
  clear hc106 hl107
  have hc111 := ST.out.cell 4 rfl 0 (u := .slice A37 t76.length c38) rfl
  have hl112 := ST.out.lt 4 rfl
  have e113 : t99 = t15 := by
    refine Decidable.byContradiction fun e_ => ?_
    rw [if_neg e_] at h
    exact absurd h (by simp)
  rw [if_pos e113] at h
  obtain rfl : t15 = t99 := by first | exact e113 | exact e113.symm
  clear e113
  have hq114 : (t15 != t15) = false := bne_self_eq_false _
  go_wp2_with fail
  replace h := Option.bind_eq_some_iff.mp h
  obtain ⟨t115, HA_, h⟩ := h
  try dsimp only at h
  replace HA_ := Zh HA_
  with_reducible refine (laws_heldDisk.calls k _ _ t76 1 t115 _ (ST.out.reads 5 rfl).2.2 (ST.out.reads 5 rfl).2.1 HA_.out).mono ?_
  rintro e w117 ⟨rfl, hb⟩
  clear HA_
  replace ST := Zh (ST.out.step hb)
  clear hb
  clear hc111 hl112
  by_cases c118 : t115 < 0
  · rw [if_pos c118] at h
    exact absurd h (by simp)
  rw [if_neg c118] at h
  have c118b : decide (t115 < 0) = false := decide_eq_false c118
  clear c118
  have e119 : t115 = t75 := by
    refine Decidable.byContradiction fun e_ => ?_
    rw [if_neg e_] at h
    exact absurd h (by simp)
  rw [if_pos e119] at h
  obtain rfl : t75 = t115 := by first | exact e119 | exact e119.symm
  clear e119
  have hq120 : (t75 != t75) = false := bne_self_eq_false _
  obtain rfl := Option.some.inj h
  go_wp2
  go_ret
  exact ⟨rfl, ST.out.b⟩
end Go.Proofs.YtcgojdhbphocgaaDoor.F

namespace Go.Proofs.YtcgojdhbphocgaaDoor.PK
set_option linter.unusedVariables false
set_option linter.unusedSimpArgs false
open Go.RowKit Go.Proofs.YtcgojdhbphocgaaDoorW.PrintWords
theorem EvS {α : Type} {g : Nat → Option α} {r : α} (h : Ev (fun k => g (k + 1)) r) : Ev g r := by
  obtain ⟨K, h⟩ := h
  refine ⟨K + 1, fun k hk => ?_⟩
  obtain ⟨m, rfl⟩ : ∃ m, k = m + 1 := ⟨k - 1, by omega⟩
  exact h m (by omega)
theorem EvP {α : Type} {g : Nat → Option α} {r : α} (h : Ev g r) : Ev (fun k => g (k + 1)) r := by
  obtain ⟨K, h⟩ := h
  exact ⟨K, fun k hk => h (k + 1) (by omega)⟩
theorem EvB {α β : Type} {g : Nat → Option α} {f : Nat → α → Option β} {a : α} {r : β} (h : Ev g a) : Ev (fun k => (g k).bind (f k)) r ↔ Ev (fun k => f k a) r := by
  obtain ⟨K, h⟩ := h
  constructor
  · rintro ⟨K', h'⟩
    refine ⟨max K K', fun k hk => ?_⟩
    have h2 : (g k).bind (f k) = some r := h' k (by omega)
    rw [h k (by omega)] at h2
    exact h2
  rintro ⟨K', h'⟩
  refine ⟨max K K', fun k hk => ?_⟩
  show (g k).bind (f k) = some r
  rw [h k (by omega)]
  exact h' k (by omega)
theorem EvN {α : Type} {r : α} : Ev (fun _ => some r) r := ⟨0, fun _ _ => rfl⟩
theorem EvE {α : Type} {g : Nat → Option α} {r : α} (h : Ev g r) : ∃ k, g k = some r := h.rounds
theorem w64 {x : Int} (h : -9223372036854775808 ≤ x) (h' : x ≤ 9223372036854775807) : wrap64 x = x := by
  unfold wrap64
  omega
theorem up {P : Int → Prop} (n : Nat) (base : P n) (step : ∀ i : Nat, i < n → P ((i + 1 : Nat) : Int) → P (i : Int)) : ∀ i : Nat, i ≤ n → P (i : Int) := by
  intro i hi
  obtain ⟨d, hd⟩ : ∃ d, d + i = n := ⟨n - i, by omega⟩
  induction d generalizing i with
  | zero => have : i = n := by omega
            subst this
            exact base
  | succ d ih => exact step i (by omega) (ih (i + 1) (by omega) (by omega))
theorem up0 {P : Int → Prop} (n : Nat) (base : P n) (step : ∀ i : Nat, i < n → P ((i + 1 : Nat) : Int) → P (i : Int)) : P 0 := up n base step 0 (Nat.zero_le _)
theorem getD_nat {α : Type} (l : List α) (z : α) (i : Nat) (h : i < l.length) : l.getD ((i : Int).toNat) z = l[i] := by
  simp [List.getD_eq_getElem?_getD, List.getElem?_eq_getElem h]
theorem drop_at {α : Type} (l : List α) (i : Nat) (h : i < l.length) : l.drop i = l[i] :: l.drop (i + 1) := List.drop_eq_getElem_cons h
end Go.Proofs.YtcgojdhbphocgaaDoor.PK

namespace Go.Proofs.YtcgojdhbphocgaaDoor.BY
set_option linter.unusedVariables false
set_option linter.unusedSimpArgs false
open Go.RowKit Go.Proofs.YtcgojdhbphocgaaDoor.F Go.Proofs.YtcgojdhbphocgaaDoor.PK Go.Proofs.YtcgojdhbphocgaaDoorW.PrintWords Go.Proofs.YtcgojdhbphocgaaDoorW.PrintLast
theorem rd_at (l : List Int) (i : Nat) (h : i < l.length) : rd l (i : Int) = l[i] := getD_nat l _ i h
theorem nxt (i n : Nat) (h : i < n) (hn : n ≤ 9223372036854775807) : wrap64 ((i : Int) + 1) = ((i + 1 : Nat) : Int) := by rw [w64 (by omega) (by omega)]; omega
theorem toByteS (l : List Int) (hl : l.length ≤ 1048576) : Ev (fun k => laws_toByteS.f k l) l := by
  have key := up (P := fun i => ∀ x : List Int, x.length = l.length → (∀ j : Nat, (j : Int) < i → x[j]? = l[j]?) → Ev (fun k => laws_toByteS.l0 k l x i) l) l.length
      (fun x h0 h1 => by
        have : x = l := List.ext_getElem? fun j => by
          by_cases hj : j < l.length
          · exact h1 j (by omega)
          rw [List.getElem?_eq_none (by omega), List.getElem?_eq_none (by omega)]
        subst this
        exact EvS (by simp only [laws_toByteS.l0, Int.lt_irrefl, if_false]; exact EvN))
      (fun i hi ih x h0 h1 => by
        refine EvS ?_
        simp only [laws_toByteS.l0, rd_at l i hi, Option.bind_some, h0, Int.toNat_natCast, if_pos (show (i : Int) < (l.length : Int) by omega), if_pos (show 0 ≤ (i : Int) by omega), nxt i _ hi (by omega)]
        refine ih _ (by simpa using h0) fun j hj => ?_
        by_cases hji : j = i
        · subst hji
          rw [List.getElem?_set_self (by omega)]
          simp [List.getElem?_eq_getElem hi]
        rw [List.getElem?_set_ne (by omega)]
        exact h1 j (by omega))
  have := key 0 (Nat.zero_le _) (List.replicate l.length 0) (by simp) (fun j hj => absurd hj (by omega))
  unfold laws_toByteS.f
  simp only [Int.toNat_natCast, if_pos (show 0 ≤ (l.length : Int) by omega), if_pos (show l.length ≤ 281474976710656 by omega)]
  exact this
theorem eqByteS (x : List Int) (hx : x.length ≤ 9223372036854775807) : Ev (fun k => laws_eqByteS.f k x x) true := by
  have key := up (P := fun i => Ev (fun k => laws_eqByteS.l0 k x x i) true) x.length
    (EvS (by simp only [laws_eqByteS.l0, Int.lt_irrefl, if_false]; exact EvN))
    (fun i hi ih => EvS (by simp only [laws_eqByteS.l0, if_true, Option.bind_some, if_pos (show (i : Int) < (x.length : Int) by omega), if_pos (show 0 ≤ (i : Int) by omega), nxt i _ hi hx]; exact ih))
  have := key 0 (Nat.zero_le _)
  unfold laws_eqByteS.f
  simp only [if_true]
  exact this
end Go.Proofs.YtcgojdhbphocgaaDoor.BY

namespace Go.Proofs.YtcgojdhbphocgaaDoor.CR
set_option linter.unusedVariables false
set_option linter.unusedSimpArgs false
open Go.RowKit Go.Proofs.YtcgojdhbphocgaaDoor.F Go.Proofs.YtcgojdhbphocgaaDoor.PK Go.Proofs.YtcgojdhbphocgaaDoorW.PrintWords Go.Proofs.YtcgojdhbphocgaaDoorW.PrintLast
open Go.Proofs.YtcgojdhbphocgaaDoor.BY
def U32 (x : Int) : Prop := 0 ≤ x ∧ x < 4294967296
theorem xor_nat (a b : Int) (ha : U32 a) (hb : U32 b) : Go.bits .xor .u32 a b = ((a.toNat ^^^ b.toNat : Nat) : Int) := u32_xor a b ha.1 ha.2 hb.1 hb.2
theorem xor_u32 (a b : Int) (ha : U32 a) (hb : U32 b) : U32 (Go.bits .xor .u32 a b) := by
  rw [xor_nat a b ha hb]
  have h1 : a.toNat < 2 ^ 32 := by have := ha.2; have := ha.1; omega
  have h2 : b.toNat < 2 ^ 32 := by have := hb.2; have := hb.1; omega
  have := Nat.xor_lt_two_pow h1 h2
  exact ⟨by omega, by omega⟩
theorem xor_comm32 (a b : Int) (ha : U32 a) (hb : U32 b) : Go.bits .xor .u32 a b = Go.bits .xor .u32 b a := by rw [xor_nat a b ha hb, xor_nat b a hb ha, Nat.xor_comm]
theorem and1 (a : Int) (ha : U32 a) : Go.bits .and .u32 a 1 = a % 2 := by
  rw [u32_and a 1 ha.1 ha.2 (by omega) (by omega)]
  rw [show (1 : Int).toNat = 1 from rfl, Nat.and_one_is_mod]
  have := ha.1
  omega
def step (x : Int) : Int := if x % 2 = 1 then Go.bits .xor .u32 (x / 2) 3988292384 else x / 2
theorem step_u32 (x : Int) (h : U32 x) : U32 (step x) := by
  have hh : U32 (x / 2) := ⟨by have := h.1; omega, by have := h.1; have := h.2; omega⟩
  unfold step
  split
  · exact xor_u32 _ _ hh ⟨by omega, by omega⟩
  exact hh
def steps : Nat → Int → Int
  | 0, x => x
  | n + 1, x => steps n (step x)
theorem steps_u32 (n : Nat) (x : Int) (h : U32 x) : U32 (steps n x) := by
  induction n generalizing x with
  | zero => exact h
  | succ n ih => exact ih _ (step_u32 x h)
def byteStep (x b : Int) : Int := steps 8 (Go.bits .xor .u32 x (b % 4294967296))
theorem byteStep_def (x b : Int) : byteStep x b = steps 8 (Go.bits .xor .u32 x (b % 4294967296)) := rfl
def crcL (x : Int) (l : List Int) : Int := l.foldl byteStep x
theorem crcL_cons (x b : Int) (r : List Int) : crcL x (b :: r) = crcL (byteStep x b) r := List.foldl_cons ..
theorem crcL_nil (x : Int) : crcL x [] = x := List.foldl_nil ..
theorem byte_u32 (b : Int) : U32 (b % 4294967296) := ⟨Int.emod_nonneg _ (by omega), Int.emod_lt_of_pos _ (by omega)⟩
theorem byteStep_u32 (x b : Int) (h : U32 x) : U32 (byteStep x b) := by rw [byteStep_def]; exact steps_u32 _ _ (xor_u32 _ _ h (byte_u32 b))
attribute [irreducible] byteStep
theorem crcL_u32 (l : List Int) (x : Int) (h : U32 x) : U32 (crcL x l) := by
  induction l generalizing x with
  | nil => rw [crcL_nil]; exact h
  | cons b r ih => rw [crcL_cons]; exact ih _ (byteStep_u32 x b h)
def crcM (l : List Int) : Int := Go.bits .xor .u32 (crcL 4294967295 l) 4294967295
theorem impl_in (l : List Int) (n i : Int) (r : Int) : ∀ (d j : Nat), d + j = 8 → ∀ x, U32 x → Ev (fun k => impl_crc32.l0 k (steps d x) l n (wrap64 (i + 1))) r → Ev (fun k => impl_crc32.l1 k x l n i j) r := by
  intro d
  induction d with
  | zero =>
    intro j hj x hx h
    refine EvS ?_
    simp only [impl_crc32.l1, if_neg (show ¬ (j : Int) < 8 by omega)]
    exact h
  | succ d ih =>
    intro j hj x hx h
    refine EvS ?_
    simp only [impl_crc32.l1, if_pos (show (j : Int) < 8 by omega), and1 x hx, w64 (x := (j : Int) + 1) (by omega) (by omega)]
    have h2 := ih (j + 1) (by omega) (step x) (step_u32 x hx) h
    by_cases h3 : x % 2 = 1
    · simp only [if_pos h3]
      simp only [step, if_pos h3] at h2
      exact h2
    simp only [if_neg h3]
    simp only [step, if_neg h3] at h2
    exact h2
theorem impl_in0 (l : List Int) (n i : Int) (r x : Int) (hx : U32 x) (h : Ev (fun k => impl_crc32.l0 k (steps 8 x) l n (wrap64 (i + 1))) r) : Ev (fun k => impl_crc32.l1 k x l n i 0) r := impl_in l n i r 8 0 rfl x hx h
theorem spec_in (l : List Int) (i : Int) (r : Int) : ∀ (d j : Nat), d + j = 8 → ∀ x, U32 x → Ev (fun k => spec_Crc32.l0 k l (steps d x) (wrap64 (i + 1))) r → Ev (fun k => spec_Crc32.l1 k l x i j) r := by
  intro d
  induction d with
  | zero =>
    intro j hj x hx h
    refine EvS ?_
    simp only [spec_Crc32.l1, if_neg (show ¬ (j : Int) < 8 by omega)]
    exact h
  | succ d ih =>
    intro j hj x hx h
    have e1 : Int.tmod x 2 = x % 2 := Int.tmod_eq_emod_of_nonneg hx.1
    have e2 : Int.tdiv x 2 % 4294967296 = x / 2 := by rw [Int.tdiv_eq_ediv_of_nonneg hx.1]; have := hx.1; have := hx.2; omega
    refine EvS ?_
    simp only [spec_Crc32.l1, if_pos (show (j : Int) < 8 by omega), e1, e2, w64 (x := (j : Int) + 1) (by omega) (by omega)]
    have h2 := ih (j + 1) (by omega) (step x) (step_u32 x hx) h
    by_cases h3 : x % 2 = 1
    · simp only [if_pos h3]
      simp only [step, if_pos h3] at h2
      exact h2
    simp only [if_neg h3]
    simp only [step, if_neg h3] at h2
    exact h2
theorem spec_in0 (l : List Int) (i : Int) (r x : Int) (hx : U32 x) (h : Ev (fun k => spec_Crc32.l0 k l (steps 8 x) (wrap64 (i + 1))) r) : Ev (fun k => spec_Crc32.l1 k l x i 0) r := spec_in l i r 8 0 rfl x hx h
theorem impl_crc (l : List Int) (hl : l.length ≤ 9000000000000000000) : Ev (fun k => impl_crc32.f k l) (crcM l) := by
  have key := up0 (P := fun i => ∀ x, U32 x → Ev (fun k => impl_crc32.l0 k x l (l.length : Int) i) (Go.bits .xor .u32 (crcL x (l.drop i.toNat)) 4294967295)) l.length
    (fun x hx => EvS (by
      simp only [impl_crc32.l0, Int.lt_irrefl, if_false, Int.toNat_natCast, List.drop_length, crcL_nil, xor_comm32 4294967295 x ⟨by omega, by omega⟩ hx]
      exact EvN))
    (fun i hi ih x hx => EvS (by
      simp only [impl_crc32.l0, if_pos (show (i : Int) < (l.length : Int) by omega), if_pos (show 0 ≤ (i : Int) by omega), rd_at l i hi, Int.toNat_natCast, drop_at l i hi, crcL_cons]
      have hx2 := xor_u32 x _ hx (byte_u32 l[i])
      refine impl_in0 l _ i _ _ hx2 ?_
      rw [nxt i _ hi (by omega), ← byteStep_def]
      have h := ih _ (byteStep_u32 x l[i] hx)
      rw [Int.toNat_natCast] at h
      exact h))
  have h := key 4294967295 ⟨by omega, by omega⟩
  unfold impl_crc32.f crcM
  exact h
theorem spec_crc (l : List Int) (hl : l.length ≤ 9000000000000000000) : Ev (fun k => spec_Crc32.f k l) (if (l.length : Int) > 20000 then 0 else crcM l) := by
  have key := up0 (P := fun i => ∀ x, U32 x → Ev (fun k => spec_Crc32.l0 k l x i) (Go.bits .xor .u32 (crcL x (l.drop i.toNat)) 4294967295)) l.length
    (fun x hx => EvS (by
      simp only [spec_Crc32.l0, Int.lt_irrefl, if_false, Int.toNat_natCast, List.drop_length, crcL_nil]
      exact EvN))
    (fun i hi ih x hx => EvS (by
      simp only [spec_Crc32.l0, if_pos (show (i : Int) < (l.length : Int) by omega), if_pos (show 0 ≤ (i : Int) by omega), rd_at l i hi, Int.toNat_natCast, drop_at l i hi, crcL_cons]
      have hx2 := xor_u32 x _ hx (byte_u32 l[i])
      refine spec_in0 l i _ _ hx2 ?_
      rw [nxt i _ hi (by omega), ← byteStep_def]
      have h := ih _ (byteStep_u32 x l[i] hx)
      rw [Int.toNat_natCast] at h
      exact h))
  unfold spec_Crc32.f
  by_cases h : (l.length : Int) > 20000
  · simp only [if_pos h]; exact EvN
  simp only [if_neg h]
  have h := key 4294967295 ⟨by omega, by omega⟩
  unfold crcM
  exact h
end Go.Proofs.YtcgojdhbphocgaaDoor.CR

namespace Go.Proofs.YtcgojdhbphocgaaDoor.BY
set_option linter.unusedVariables false
set_option linter.unusedSimpArgs false
open Go.RowKit Go.Proofs.YtcgojdhbphocgaaDoor.F Go.Proofs.YtcgojdhbphocgaaDoor.PK Go.Proofs.YtcgojdhbphocgaaDoorW.PrintWords Go.Proofs.YtcgojdhbphocgaaDoorW.PrintLast Go.Proofs.YtcgojdhbphocgaaDoorW.PrintMore
theorem sBytes (l : List Int) (hl : l.length ≤ 1000000000) : Ev (fun k => spec_l01Bytes.f k l) l := by
  have key := up0 (P := fun i => Ev (fun k => spec_l01Bytes.l0 k l (l.take i.toNat) i) l) l.length
    (EvS (by simp only [spec_l01Bytes.l0, Int.lt_irrefl, if_false, Int.toNat_natCast, List.take_length]; exact EvN))
    (fun i hi ih => EvS (by
      simp only [spec_l01Bytes.l0, if_pos (show (i : Int) < (l.length : Int) by omega), if_pos (show 0 ≤ (i : Int) by omega), Int.toNat_natCast, rd_at l i hi, nxt i _ hi (by omega), if_pos (show (l.take i).length < 140737488355328 by rw [List.length_take]; omega)]
      rw [Int.toNat_natCast, List.take_add_one, List.getElem?_eq_getElem hi] at ih
      exact ih))
  unfold spec_l01Bytes.f
  exact key
theorem sJoin (l m : List Int) (hl : l.length ≤ 1000000000) (hm : m.length ≤ 1000000000) : Ev (fun k => spec_l01Join.f k l m) (l ++ m) := by
  have key := up0 (P := fun i => Ev (fun k => spec_l01Join.l0 k m (l ++ m.take i.toNat) i) (l ++ m)) m.length
    (EvS (by simp only [spec_l01Join.l0, Int.lt_irrefl, if_false, Int.toNat_natCast, List.take_length]; exact EvN))
    (fun i hi ih => EvS (by
      simp only [spec_l01Join.l0, if_pos (show (i : Int) < (m.length : Int) by omega), if_pos (show 0 ≤ (i : Int) by omega), Int.toNat_natCast, rd_at m i hi, nxt i _ hi (by omega), if_pos (show (l ++ m.take i).length < 140737488355328 by rw [List.length_append, List.length_take]; omega)]
      rw [Int.toNat_natCast, List.take_add_one, List.getElem?_eq_getElem hi, ← List.append_assoc] at ih
      exact ih))
  unfold spec_l01Join.f
  simp only [EvB (sBytes l hl)]
  have e : l ++ m.take (0 : Int).toNat = l := by simp
  rw [e] at key
  exact key
end Go.Proofs.YtcgojdhbphocgaaDoor.BY

namespace Go.Proofs.YtcgojdhbphocgaaDoor.FR
set_option linter.unusedVariables false
set_option linter.unusedSimpArgs false
open Go.RowKit Go.Proofs.YtcgojdhbphocgaaDoor.F Go.Proofs.YtcgojdhbphocgaaDoor.PK Go.Proofs.YtcgojdhbphocgaaDoorW.PrintWords Go.Proofs.YtcgojdhbphocgaaDoorW.PrintLast Go.Proofs.YtcgojdhbphocgaaDoorW.PrintMore
open Go.Proofs.YtcgojdhbphocgaaDoor.BY Go.Proofs.YtcgojdhbphocgaaDoor.CR
def four (x : Int) : List Int := [x % 256, x / 256 % 256, x / 65536 % 256, x / 16777216 % 256]
def okP (p : List Int) : Prop := 1 ≤ p.length ∧ p.length ≤ 600
instance (p : List Int) : Decidable (okP p) := by unfold okP; infer_instance
def frameM (p : List Int) : List Int := if okP p then four p.length ++ four (crcM p) ++ p else []
theorem four_length (x : Int) : (four x).length = 4 := rfl
theorem frameM_length (p : List Int) (h : okP p) : (frameM p).length = 8 + p.length := by
  unfold frameM
  rw [if_pos h, List.length_append, List.length_append, four_length, four_length]
theorem frameM_le (p : List Int) : (frameM p).length ≤ 608 := by
  by_cases h : okP p
  · rw [frameM_length p h]; have := h.2; omega
  unfold frameM; rw [if_neg h]; simp
theorem crcM_u32 (p : List Int) : U32 (crcM p) := by
  unfold crcM
  exact xor_u32 _ _ (crcL_u32 p _ ⟨by omega, by omega⟩) ⟨by omega, by omega⟩
theorem implFour (l : List Int) (x : Int) (hl : l.length ≤ 1000000000) : binary_littleEndian_AppendUint32.f l x = some (l ++ four x) := by
  unfold binary_littleEndian_AppendUint32.f four
  simp only [Option.bind_some, List.length_cons, List.length_nil]
  rw [if_pos (by omega)]
theorem specFour (x : Int) (h : U32 x) : spec_l02Four.f x = some (four x) := by
  unfold spec_l02Four.f four
  have h0 := h.1
  have h1 := h.2
  rw [Int.tmod_eq_emod_of_nonneg h0, Int.tdiv_eq_ediv_of_nonneg h0, Int.tdiv_eq_ediv_of_nonneg h0, Int.tdiv_eq_ediv_of_nonneg h0]
  rw [show x % 256 % 256 = x % 256 by omega, show x / 256 % 4294967296 % 256 = x / 256 % 256 by omega, show x / 65536 % 4294967296 % 256 = x / 65536 % 256 by omega, show x / 16777216 % 4294967296 % 256 = x / 16777216 % 256 by omega]
theorem impl_frame (p : List Int) (hl : p.length ≤ 1048576) : Ev (fun k => impl_frame.f k p) (frameM p) := by
  have J : ∀ q : Bool, q = decide (¬ okP p) → Ev (fun k => impl_frame.j0 k p q) (frameM p) := by
    intro q hq
    subst hq
    refine EvS ?_
    unfold frameM
    by_cases h : okP p
    · have hp := h.2
      simp only [impl_frame.j0, h, not_true_eq_false, decide_false, Bool.false_eq_true, if_false, if_true, implFour [] _ (by simp), Option.bind_some, List.nil_append, EvB (impl_crc p (by omega)), implFour (four p.length) _ (by rw [four_length]; omega), show (p.length : Int) % 4294967296 = p.length by omega]
      rw [List.length_append, four_length, four_length]
      simp only [if_pos (show 4 + 4 + p.length < 140737488355328 by omega)]
      exact EvN
    simp only [impl_frame.j0, h, not_false_eq_true, decide_true, if_true, if_false]
    exact EvN
  unfold impl_frame.f
  by_cases h1 : (p.length : Int) < 1
  · simp only [if_pos h1]
    exact J _ (by rw [decide_eq_true (show ¬ okP p by unfold okP; omega)])
  simp only [if_neg h1]
  refine J _ ?_
  by_cases h2 : (p.length : Int) > 600
  · rw [decide_eq_true h2, decide_eq_true (show ¬ okP p by unfold okP; omega)]
  rw [decide_eq_false h2, decide_eq_false (show ¬ ¬ okP p by unfold okP; omega)]
theorem sIn (x lo hi : Int) : spec_l01In.f x lo hi = some (decide (lo ≤ x ∧ x ≤ hi)) := by
  unfold spec_l01In.f
  by_cases h : lo ≤ x <;> simp [h]
theorem spec_frame (p : List Int) (hl : p.length ≤ 1048576) : Ev (fun k => spec_Frame.f k p) (frameM p) := by
  unfold spec_Frame.f frameM
  simp only [sIn, Option.bind_some, decide_eq_true_eq]
  by_cases h : okP p
  · have h1 := h.1
    have h2 := h.2
    have hcr := spec_crc p (by omega)
    rw [if_neg (show ¬ (p.length : Int) > 20000 by omega)] at hcr
    simp only [if_pos (show (1 : Int) ≤ p.length ∧ (p.length : Int) ≤ 600 by omega), show (p.length : Int) % 4294967296 = p.length by omega, specFour _ (show U32 (p.length : Int) from ⟨by omega, by omega⟩), Option.bind_some, EvB hcr, specFour _ (crcM_u32 p), EvB (sJoin (four p.length) (four (crcM p)) (by rw [four_length]; omega) (by rw [four_length]; omega)), EvB (sJoin (four p.length ++ four (crcM p)) p (by rw [List.length_append, four_length, four_length]; omega) (by omega)), if_pos h]
    exact EvN
  simp only [if_neg (show ¬ ((1 : Int) ≤ p.length ∧ (p.length : Int) ≤ 600) by unfold okP at h; omega), if_neg h]
  exact EvN
end Go.Proofs.YtcgojdhbphocgaaDoor.FR

namespace Go.Proofs.YtcgojdhbphocgaaDoor.BY
set_option linter.unusedVariables false
set_option linter.unusedSimpArgs false
open Go.RowKit Go.Proofs.YtcgojdhbphocgaaDoor.F Go.Proofs.YtcgojdhbphocgaaDoor.PK Go.Proofs.YtcgojdhbphocgaaDoorW.PrintWords Go.Proofs.YtcgojdhbphocgaaDoorW.PrintLast Go.Proofs.YtcgojdhbphocgaaDoorW.PrintMore
theorem l01Same (x y : List Int) (hx : x.length ≤ 9223372036854775807) : Ev (fun k => spec_l01Same.f k x y) (decide (x = y)) := by
  unfold spec_l01Same.f
  by_cases hl : x.length = y.length
  · simp only [if_pos (show (x.length : Int) = (y.length : Int) by omega)]
    have key := up0 (P := fun i => Ev (fun k => spec_l01Same.l0 k x y i) (decide (x.drop i.toNat = y.drop i.toNat))) x.length
      (EvS (by
        simp only [spec_l01Same.l0, Int.lt_irrefl, if_false, Int.toNat_natCast, List.drop_length]
        rw [hl, List.drop_length]
        simp only [decide_true]
        exact EvN))
      (fun i hi ih => EvS (by
        have hiy : i < y.length := by omega
        simp only [spec_l01Same.l0, if_pos (show (i : Int) < (x.length : Int) by omega), if_pos (show 0 ≤ (i : Int) by omega), if_pos (show (i : Int) < (y.length : Int) by omega), nxt i _ hi hx, Int.toNat_natCast, rd_at x i hi, rd_at y i hiy, drop_at x i hi, drop_at y i hiy]
        by_cases he : x[i] = y[i]
        · simp only [he, if_true, List.cons.injEq, true_and]
          rw [Int.toNat_natCast] at ih
          exact ih
        simp only [if_neg he, List.cons.injEq, he, false_and, decide_false]
        exact EvN))
    exact key
  simp only [if_neg (show ¬ (x.length : Int) = (y.length : Int) by omega)]
  rw [decide_eq_false (fun h => hl (by rw [h]))]
  exact EvN
end Go.Proofs.YtcgojdhbphocgaaDoor.BY

namespace Go.Proofs.YtcgojdhbphocgaaDoor.SC
set_option linter.unusedVariables false
set_option linter.unusedSimpArgs false
open Go.RowKit Go.Proofs.YtcgojdhbphocgaaDoor.F Go.Proofs.YtcgojdhbphocgaaDoor.PK Go.Proofs.YtcgojdhbphocgaaDoorW.PrintWords Go.Proofs.YtcgojdhbphocgaaDoorW.PrintLast Go.Proofs.YtcgojdhbphocgaaDoorW.PrintMore
open Go.Proofs.YtcgojdhbphocgaaDoor.BY Go.Proofs.YtcgojdhbphocgaaDoor.CR Go.Proofs.YtcgojdhbphocgaaDoor.FR
def Byt (l : List Int) : Prop := ∀ x ∈ l, 0 ≤ x ∧ x < 256
theorem byt_of {l : List Int} (h : ∀ x ∈ l, (Lit.int .u8 x).wf = true) : Byt l := by
  intro x hx
  have := h x hx
  simp only [Lit.wf, Bool.and_eq_true, decide_eq_true_eq] at this
  have h1 : IntKind.u8.min = 0 := by decide
  have h2 : IntKind.u8.max = 255 := by decide
  omega
theorem Byt.drop {l : List Int} (h : Byt l) (n : Nat) : Byt (l.drop n) := fun x hx => h x (List.mem_of_mem_drop hx)
theorem Byt.take {l : List Int} (h : Byt l) (n : Nat) : Byt (l.take n) := fun x hx => h x (List.mem_of_mem_take hx)
theorem Byt.rd {l : List Int} (h : Byt l) (i : Nat) (hi : i < l.length) : 0 ≤ rd l (i : Int) ∧ rd l (i : Int) < 256 := by
  rw [rd_at l i hi]
  exact h _ (List.getElem_mem hi)
def le32 (d : List Int) : Int := rd d 0 + 256 * rd d 1 + 65536 * rd d 2 + 16777216 * rd d 3
theorem or_add (a b : Int) (i : Nat) (ha0 : 0 ≤ a) (ha : a < 2 ^ i) (hb0 : 0 ≤ b) (hs : a + b * 2 ^ i < 4294967296) (hi : (1 : Int) ≤ 2 ^ i) : Go.bits .or .u32 a (b * 2 ^ i) = a + b * 2 ^ i := by
  have hm : 0 ≤ b * 2 ^ i := Int.mul_nonneg hb0 (by omega)
  rw [u32_or a (b * 2 ^ i) ha0 (by omega) hm (by omega)]
  obtain ⟨A, rfl⟩ := Int.eq_ofNat_of_zero_le ha0
  obtain ⟨B, rfl⟩ := Int.eq_ofNat_of_zero_le hb0
  have hA : A < 2 ^ i := by exact_mod_cast ha
  have e : ((B : Int) * 2 ^ i) = ((2 ^ i * B : Nat) : Int) := by rw [Nat.mul_comm]; push_cast; rfl
  rw [e, Int.toNat_natCast, Int.toNat_natCast, Nat.or_comm, ← Nat.two_pow_add_eq_or_of_lt hA B]
  push_cast
  omega
theorem uint32 (d : List Int) (h : Byt d) (hl : 4 ≤ d.length) : binary_littleEndian_Uint32.f d = some (le32 d) := by
  have h0 := h.rd 0 (by omega)
  have h1 := h.rd 1 (by omega)
  have h2 := h.rd 2 (by omega)
  have h3 := h.rd 3 (by omega)
  simp only [Int.cast_ofNat_Int] at h0 h1 h2 h3
  unfold binary_littleEndian_Uint32.f le32
  rw [if_pos (show (3 : Int) < (d.length : Int) by omega), if_pos (show (0 : Int) < (d.length : Int) by omega), if_pos (show (1 : Int) < (d.length : Int) by omega), if_pos (show (2 : Int) < (d.length : Int) by omega)]
  generalize rd d 0 = a at *
  generalize rd d 1 = b at *
  generalize rd d 2 = c at *
  generalize rd d 3 = e at *
  rw [show a % 4294967296 = a by omega, show b % 4294967296 * 256 % 4294967296 = b * 2 ^ 8 by omega, show c % 4294967296 * 65536 % 4294967296 = c * 2 ^ 16 by omega, show e % 4294967296 * 16777216 % 4294967296 = e * 2 ^ 24 by omega]
  rw [or_add a b 8 (by omega) (by omega) (by omega) (by omega) (by omega), or_add _ c 16 (by omega) (by omega) (by omega) (by omega) (by omega), or_add _ e 24 (by omega) (by omega) (by omega) (by omega) (by omega)]
  congr 1
  omega
theorem four_le32 (d : List Int) (h : Byt d) (hl : 4 ≤ d.length) : d.take 4 = four (le32 d) := by
  have h0 := h.rd 0 (by omega)
  have h1 := h.rd 1 (by omega)
  have h2 := h.rd 2 (by omega)
  have h3 := h.rd 3 (by omega)
  match d, hl with
  | a :: b :: c :: e :: r, _ =>
    have e0 : rd (a :: b :: c :: e :: r) ((0 : Nat) : Int) = a := rfl
    have e1 : rd (a :: b :: c :: e :: r) ((1 : Nat) : Int) = b := rfl
    have e2 : rd (a :: b :: c :: e :: r) ((2 : Nat) : Int) = c := rfl
    have e3 : rd (a :: b :: c :: e :: r) ((3 : Nat) : Int) = e := rfl
    rw [e0] at h0
    rw [e1] at h1
    rw [e2] at h2
    rw [e3] at h3
    have hle : le32 (a :: b :: c :: e :: r) = a + 256 * b + 65536 * c + 16777216 * e := rfl
    rw [hle]
    unfold four
    simp only [List.take_succ_cons, List.take_zero, List.cons.injEq, and_true]
    omega
theorem le32_four (x : Int) (h : U32 x) : le32 (four x) = x := by
  have hle : le32 (four x) = x % 256 + 256 * (x / 256 % 256) + 65536 * (x / 65536 % 256) + 16777216 * (x / 16777216 % 256) := rfl
  rw [hle]
  have h0 := h.1
  have h1 := h.2
  omega
theorem le32_u32 (d : List Int) (h : Byt d) (hl : 4 ≤ d.length) : U32 (le32 d) := by
  have h0 := h.rd 0 (by omega)
  have h1 := h.rd 1 (by omega)
  have h2 := h.rd 2 (by omega)
  have h3 := h.rd 3 (by omega)
  simp only [Int.cast_ofNat_Int] at h0 h1 h2 h3
  unfold le32 U32
  omega
def payM (d : List Int) : List Int := (d.take (8 + (le32 d).toNat)).drop 8
def goodM (d : List Int) : Prop := 8 ≤ d.length ∧ 1 ≤ le32 d ∧ le32 d ≤ 600 ∧ 8 + le32 d ≤ (d.length : Int) ∧ le32 (d.drop 4) = crcM (payM d)
instance (d : List Int) : Decidable (goodM d) := by unfold goodM; infer_instance
def oneM (d : List Int) : List Int := if goodM d then payM d else []
theorem pay_length (d : List Int) (h : 0 ≤ le32 d) (h2 : 8 + le32 d ≤ (d.length : Int)) : (payM d).length = (le32 d).toNat := by
  unfold payM
  rw [List.length_drop, List.length_take]
  omega
theorem spec_one (d : List Int) (h : Byt d) (hl : d.length ≤ 1048576) : Ev (fun k => spec_l02One.f k d) (oneM d) := by
  have bad : ¬ goodM d → Ev (fun k => spec_l02One.j0 k d true) (oneM d) := fun hg => EvS (by
    unfold oneM
    simp only [spec_l02One.j0, if_true, if_neg hg]
    exact EvN)
  unfold spec_l02One.f
  by_cases h9 : (d.length : Int) < 9
  · simp only [if_pos h9]
    exact bad fun hg => by unfold goodM at hg; omega
  have h0 := h.rd 0 (by omega)
  have h1 := h.rd 1 (by omega)
  have h2 := h.rd 2 (by omega)
  have h3 := h.rd 3 (by omega)
  simp only [Int.cast_ofNat_Int] at h0 h1 h2 h3
  have hle : le32 d = rd d 0 + 256 * rd d 1 + 65536 * rd d 2 + 16777216 * rd d 3 := rfl
  simp only [if_neg h9, if_pos (show (2 : Int) < (d.length : Int) by omega), if_pos (show (3 : Int) < (d.length : Int) by omega)]
  by_cases g2 : rd d 2 = 0
  · simp only [if_pos g2]
    by_cases g3 : rd d 3 = 0
    · simp only [g3, bne_self_eq_false]
      have hn : wrap64 (wrap64 (rd d 0) + wrap64 (256 * wrap64 (rd d 1))) = le32 d := by
        rw [w64 (x := rd d 0) (by omega) (by omega), w64 (x := rd d 1) (by omega) (by omega), w64 (x := 256 * rd d 1) (by omega) (by omega), w64 (by omega) (by omega)]
        omega
      refine EvS ?_
      simp only [spec_l02One.j0, Bool.false_eq_true, if_false, if_pos (show (0 : Int) < (d.length : Int) by omega), if_pos (show (1 : Int) < (d.length : Int) by omega), hn, sIn, Option.bind_some, decide_eq_true_eq, w64 (x := (d.length : Int) - 8) (by omega) (by omega)]
      by_cases g4 : 1 ≤ le32 d ∧ le32 d ≤ 600
      · simp only [if_pos g4]
        by_cases g5 : le32 d > (d.length : Int) - 8
        · simp only [if_pos g5, oneM, if_neg (show ¬ goodM d from fun hg => by unfold goodM at hg; omega)]
          exact EvN
        have e8 : (8 + le32 d).toNat = 8 + (le32 d).toNat := by omega
        have hpl := pay_length d (by omega) (by omega)
        have hpay : (d.take (8 + (le32 d).toNat)).drop 8 = payM d := rfl
        simp only [if_neg g5, w64 (x := 8 + le32 d) (by omega) (by omega), if_pos (show 8 ≤ 8 + le32 d by omega), if_pos (show 0 ≤ 8 + le32 d by omega), if_pos (show 8 + le32 d ≤ (d.length : Int) by omega), e8, hpay, EvB (spec_frame (payM d) (by omega))]
        have hfl := frameM_le (payM d)
        simp only [EvB (l01Same (frameM (payM d)) (d.take (8 + (le32 d).toNat)) (by omega)), decide_eq_true_eq]
        have hok : okP (payM d) := by unfold okP; omega
        have hiff : frameM (payM d) = d.take (8 + (le32 d).toNat) ↔ le32 (d.drop 4) = crcM (payM d) := by
          have hs : d.take (8 + (le32 d).toNat) = four (payM d).length ++ four (le32 (d.drop 4)) ++ payM d := by
            have s1 : d.take (8 + (le32 d).toNat) = (d.take 4 ++ (d.drop 4).take 4) ++ payM d := by
              rw [← List.take_add, ← hpay]
              have s2 := (List.take_append_drop 8 (d.take (8 + (le32 d).toNat))).symm
              rw [List.take_take, show min 8 (8 + (le32 d).toNat) = 8 by omega] at s2
              exact s2
            rw [s1, four_le32 d h (by omega), four_le32 (d.drop 4) (h.drop 4) (by rw [List.length_drop]; omega), hpl, Int.toNat_of_nonneg (by omega)]
          rw [hs]
          unfold frameM
          rw [if_pos hok]
          constructor
          · intro e
            have e := List.append_cancel_right e
            have e := List.append_cancel_left e
            have e := congrArg le32 e
            rw [le32_four _ (crcM_u32 _), le32_four _ (le32_u32 _ (h.drop 4) (by rw [List.length_drop]; omega))] at e
            exact e.symm
          intro e
          rw [e]
        by_cases g6 : le32 (d.drop 4) = crcM (payM d)
        · have hg : goodM d := by unfold goodM; exact ⟨by omega, g4.1, g4.2, by omega, g6⟩
          simp only [if_pos (hiff.2 g6), EvB (sBytes (payM d) (by omega)), oneM, if_pos hg]
          exact EvN
        simp only [if_neg (fun e => g6 (hiff.1 e)), oneM, if_neg (show ¬ goodM d from fun hg => g6 hg.2.2.2.2)]
        exact EvN
      simp only [if_neg g4, oneM, if_neg (show ¬ goodM d from fun hg => g4 ⟨hg.2.1, hg.2.2.1⟩)]
      exact EvN
    have : (rd d 3 != 0) = true := bne_iff_ne.2 g3
    simp only [this]
    exact bad fun hg => by unfold goodM at hg; omega
  simp only [if_neg g2]
  exact bad fun hg => by unfold goodM at hg; omega
def scanL : Nat → List Int → List (List Int)
  | 0, _ => []
  | n + 1, d => if (oneM d).length = 0 then [] else oneM d :: scanL n (d.drop (8 + (oneM d).length))
def usedL : List (List Int) → Int
  | [] => 0
  | p :: r => 8 + (p.length : Int) + usedL r
theorem one_le (d : List Int) : (oneM d).length = 0 ∨ (8 + (oneM d).length ≤ d.length ∧ goodM d ∧ oneM d = payM d ∧ ((oneM d).length : Int) = le32 d) := by
  unfold oneM
  by_cases h : goodM d
  · rw [if_pos h]
    have := pay_length d (by have := h.2.1; omega) h.2.2.2.1
    have h1 := h.2.1
    have h2 := h.2.2.2.1
    exact .inr ⟨by omega, h, rfl, by omega⟩
  rw [if_neg h]; exact .inl rfl
theorem spec_scan (d : List Int) (h : Byt d) (hl : d.length ≤ 1048576) : ∀ (n pos : Nat) (acc : List (List Int)), pos ≤ d.length → d.length < pos + n → acc.length ≤ pos → Ev (fun k => spec_ScanFrames.l0 k d acc pos) (acc ++ scanL n (d.drop pos), (pos : Int) + usedL (scanL n (d.drop pos))) := by
  intro n
  induction n with
  | zero => intro pos acc h1 h2; omega
  | succ n ih =>
    intro pos acc h1 h2 h3
    refine EvS ?_
    have hd : (d.drop pos).length = d.length - pos := List.length_drop
    simp only [spec_ScanFrames.l0, if_pos (show 0 ≤ (pos : Int) by omega), if_pos (show (pos : Int) ≤ (d.length : Int) by omega), Int.toNat_natCast, EvB (spec_one (d.drop pos) (h.drop pos) (by omega)), scanL]
    rcases one_le (d.drop pos) with hz | ⟨hz, hg, hp, hp2⟩
    · simp only [hz, if_true, Int.cast_ofNat_Int, List.append_nil, usedL, Int.add_zero]
      exact EvN
    have hne : ¬ (oneM (d.drop pos)).length = 0 := by have := hg.2.1; omega
    have hS : (acc.length < 5864062014805) = True := eq_true (by omega)
    have ew : wrap64 (wrap64 ((pos : Int) + 8) + ((oneM (d.drop pos)).length : Int)) = ((pos + (8 + (oneM (d.drop pos)).length) : Nat) : Int) := by
      rw [w64 (x := (pos : Int) + 8) (by omega) (by omega), w64 (by omega) (by omega)]
      omega
    simp only [if_neg (show ¬ ((oneM (d.drop pos)).length : Int) = 0 by omega), if_neg hne, hS, if_true, ew]
    have := ih (pos + (8 + (oneM (d.drop pos)).length)) (acc ++ [oneM (d.drop pos)]) (by omega) (by omega) (by simp; omega)
    rw [List.drop_drop, List.append_assoc] at *
    simp only [usedL]
    have eu : (pos : Int) + (8 + ((oneM (d.drop pos)).length : Int) + usedL (scanL n (d.drop (pos + (8 + (oneM (d.drop pos)).length))))) = ((pos + (8 + (oneM (d.drop pos)).length) : Nat) : Int) + usedL (scanL n (d.drop (pos + (8 + (oneM (d.drop pos)).length)))) := by omega
    rw [eu]
    exact this
theorem impl_scan (d : List Int) (h : Byt d) (hl : d.length ≤ 1048576) : ∀ (n pos : Nat) (acc : List (List Int)), pos ≤ d.length → d.length < pos + n → acc.length ≤ pos → Ev (fun k => impl_scanFrames.l0 k d acc pos) (acc ++ scanL n (d.drop pos), (pos : Int) + usedL (scanL n (d.drop pos))) := by
  intro n
  induction n with
  | zero => intro pos acc h1 h2; omega
  | succ n ih =>
    intro pos acc h1 h2 h3
    refine EvS ?_
    have hd : (d.drop pos).length = d.length - pos := List.length_drop
    have hb := h.drop pos
    have stop : ¬ goodM (d.drop pos) → (acc ++ scanL (n + 1) (d.drop pos), (pos : Int) + usedL (scanL (n + 1) (d.drop pos))) = (acc, (pos : Int)) := fun hg => by
      have hz : (oneM (d.drop pos)).length = 0 := by unfold oneM; rw [if_neg hg]; rfl
      simp only [scanL, hz, if_true, List.append_nil, usedL, Int.add_zero]
    simp only [impl_scanFrames.l0, if_pos (show 0 ≤ (pos : Int) by omega), if_pos (show (pos : Int) ≤ (d.length : Int) by omega), Int.toNat_natCast]
    by_cases h8 : ((d.drop pos).length : Int) < 8
    · simp only [if_pos h8]
      rw [stop fun hg => by have := hg.1; omega]
      exact EvN
    have hu := le32_u32 (d.drop pos) hb (by omega)
    have hu0 := hu.1
    have hu1 := hu.2
    simp only [if_neg h8, uint32 (d.drop pos) hb (by omega), Option.bind_some]
    have J : ∀ q : Bool, q = decide (¬ (1 ≤ le32 (d.drop pos) ∧ le32 (d.drop pos) ≤ 600 ∧ 8 + le32 (d.drop pos) ≤ ((d.drop pos).length : Int))) → Ev (fun k => impl_scanFrames.j1 k d acc pos (d.drop pos) (le32 (d.drop pos)) q) (acc ++ scanL (n + 1) (d.drop pos), (pos : Int) + usedL (scanL (n + 1) (d.drop pos))) := by
      intro q hq
      subst hq
      refine EvS ?_
      by_cases hc : 1 ≤ le32 (d.drop pos) ∧ le32 (d.drop pos) ≤ 600 ∧ 8 + le32 (d.drop pos) ≤ ((d.drop pos).length : Int)
      · have e8 : (8 + le32 (d.drop pos)).toNat = 8 + (le32 (d.drop pos)).toNat := by omega
        have em : (8 + le32 (d.drop pos)) % 4294967296 = 8 + le32 (d.drop pos) := by omega
        have hpay : ((d.drop pos).take (8 + (le32 (d.drop pos)).toNat)).drop 8 = payM (d.drop pos) := rfl
        have hpl := pay_length (d.drop pos) hu0 hc.2.2
        have hS : (acc.length < 5864062014805) = True := eq_true (by omega)
        have hS2 : (([] : List Int).length + (payM (d.drop pos)).length < 140737488355328) = True := eq_true (by simp only [List.length_nil]; omega)
        simp only [impl_scanFrames.j1, hc, not_true_eq_false, and_self, decide_false, Bool.false_eq_true, if_false, em, if_pos (show 8 ≤ 8 + le32 (d.drop pos) by omega), if_pos hc.2.2, if_pos (show (4 : Int) ≤ ((d.drop pos).length : Int) by omega), e8, hpay, uint32 ((d.drop pos).drop 4) (hb.drop 4) (by rw [List.length_drop]; omega), Option.bind_some, EvB (impl_crc (payM (d.drop pos)) (by omega)), hS, hS2, if_true, List.nil_append]
        by_cases hq : le32 ((d.drop pos).drop 4) = crcM (payM (d.drop pos))
        · have hg : goodM (d.drop pos) := ⟨by omega, hc.1, hc.2.1, hc.2.2, hq⟩
          have ho : oneM (d.drop pos) = payM (d.drop pos) := by unfold oneM; rw [if_pos hg]
          have ew : wrap64 ((pos : Int) + wrap64 (8 + wrap64 (le32 (d.drop pos)))) = ((pos + (8 + (payM (d.drop pos)).length) : Nat) : Int) := by
            rw [w64 (x := le32 (d.drop pos)) (by omega) (by omega), w64 (x := 8 + le32 (d.drop pos)) (by omega) (by omega), w64 (by omega) (by omega)]
            omega
          simp only [if_pos hq, ew]
          have := ih (pos + (8 + (payM (d.drop pos)).length)) (acc ++ [payM (d.drop pos)]) (by omega) (by omega) (by simp; omega)
          simp only [scanL, ho, if_neg (show ¬ (payM (d.drop pos)).length = 0 by omega)]
          rw [List.drop_drop, List.append_assoc] at *
          simp only [usedL]
          have eu : (pos : Int) + (8 + ((payM (d.drop pos)).length : Int) + usedL (scanL n (d.drop (pos + (8 + (payM (d.drop pos)).length))))) = ((pos + (8 + (payM (d.drop pos)).length) : Nat) : Int) + usedL (scanL n (d.drop (pos + (8 + (payM (d.drop pos)).length)))) := by omega
          rw [eu]
          exact this
        rw [stop fun hg => hq hg.2.2.2.2]
        simp only [if_neg hq]
        exact EvN
      rw [stop fun hg => hc ⟨hg.2.1, hg.2.2.1, hg.2.2.2.1⟩]
      simp only [impl_scanFrames.j1, hc, not_false_eq_true, decide_true, if_true]
      exact EvN
    by_cases g1 : le32 (d.drop pos) < 1
    · simp only [if_pos g1]
      exact J _ (by rw [decide_eq_true]; omega)
    by_cases g2 : le32 (d.drop pos) > 600
    · simp only [if_neg g1, if_pos g2]
      exact J _ (by rw [decide_eq_true]; omega)
    simp only [if_neg g1, if_neg g2]
    refine J _ ?_
    rw [w64 (x := le32 (d.drop pos)) (by omega) (by omega), w64 (x := 8 + le32 (d.drop pos)) (by omega) (by omega)]
    by_cases g3 : ((d.drop pos).length : Int) < 8 + le32 (d.drop pos)
    · rw [decide_eq_true g3, decide_eq_true (by omega)]
    rw [decide_eq_false g3, decide_eq_false (by omega)]
def scanM (d : List Int) : List (List Int) := scanL (d.length + 1) d
theorem implScan (d : List Int) (h : Byt d) (hl : d.length ≤ 1048576) : Ev (fun k => impl_scanFrames.f k d) (scanM d, usedL (scanM d)) := by
  have := impl_scan d h hl (d.length + 1) 0 [] (by omega) (by omega) (by simp)
  rw [show (((0 : Nat) : Int) + usedL (scanL (d.length + 1) (d.drop 0))) = usedL (scanL (d.length + 1) (d.drop 0)) by omega] at this
  exact this
theorem specScan (d : List Int) (h : Byt d) (hl : d.length ≤ 1048576) : Ev (fun k => spec_ScanFrames.f k d) (if (d.length : Int) > 20000 then ([], 0) else (scanM d, usedL (scanM d))) := by
  unfold spec_ScanFrames.f
  by_cases h2 : (d.length : Int) > 20000
  · simp only [if_pos h2]; exact EvN
  simp only [if_neg h2]
  have := spec_scan d h hl (d.length + 1) 0 [] (by omega) (by omega) (by simp)
  rw [show (((0 : Nat) : Int) + usedL (scanL (d.length + 1) (d.drop 0))) = usedL (scanL (d.length + 1) (d.drop 0)) by omega] at this
  exact this
end Go.Proofs.YtcgojdhbphocgaaDoor.SC

namespace Go.Proofs.YtcgojdhbphocgaaDoor.DK
set_option linter.unusedVariables false
set_option linter.unusedSimpArgs false
open Go.RowKit Go.Proofs.YtcgojdhbphocgaaDoor.F Go.Proofs.YtcgojdhbphocgaaDoor.PK Go.Proofs.YtcgojdhbphocgaaDoorW.PrintWords Go.Proofs.YtcgojdhbphocgaaDoorW.PrintLast Go.Proofs.YtcgojdhbphocgaaDoorW.PrintMore
theorem nxt (i n : Nat) (h : i < n) (hn : n ≤ 9223372036854775807) : wrap64 ((i : Int) + 1) = ((i + 1 : Nat) : Int) := by rw [w64 (by omega) (by omega)]; omega
def inB (b : UInt8) : Bool := decide ((97 ≤ b.toNat ∧ b.toNat ≤ 122) ∨ (48 ≤ b.toNat ∧ b.toNat ≤ 57))
def nameM (s : ByteArray) : Bool := s.data.toList.all inB && decide (1 ≤ s.size ∧ s.size ≤ 12)
theorem bt_get (s : ByteArray) (i : Nat) (h : i < s.data.toList.length) : bt s (i : Int) = (s.data.toList[i].toNat : Int) := by
  have hs : i < s.size := by rw [← data_length]; exact h
  unfold bt
  rw [dif_pos (show (i : Int).toNat < s.size by rw [Int.toNat_natCast]; exact hs)]
  simp
  rfl
theorem spec_name (s : ByteArray) (hs : s.size ≤ 9223372036854775807) : Ev (fun k => spec_l01Name.f k s) (nameM s) := by
  have hl := data_length s
  have key := up0 (P := fun i => Ev (fun k => spec_l01Name.l0 k s i) ((s.data.toList.drop i.toNat).all inB && decide (1 ≤ s.size ∧ s.size ≤ 12))) s.size
    (EvS (by
      simp only [spec_l01Name.l0, Int.lt_irrefl, if_false, Int.toNat_natCast, spec_l01In.f]
      rw [List.drop_eq_nil_of_le (by omega), List.all_nil, Bool.true_and]
      by_cases h1 : 1 ≤ (s.size : Int)
      · simp only [if_pos h1, Option.bind_some]
        rw [show decide ((s.size : Int) ≤ 12) = decide (1 ≤ s.size ∧ s.size ≤ 12) from decide_eq_decide.2 (by omega)]
        exact EvN
      simp only [if_neg h1, Option.bind_some]
      rw [decide_eq_false (show ¬ (1 ≤ s.size ∧ s.size ≤ 12) by omega)]
      exact EvN))
    (fun i hi ih => EvS (by
      have hil : i < s.data.toList.length := by omega
      rw [Int.toNat_natCast] at *
      rw [drop_at _ i hil, List.all_cons]
      simp only [spec_l01Name.l0, if_pos (show (i : Int) < (s.size : Int) by omega), if_pos (show 0 ≤ (i : Int) by omega), nxt i _ hi hs]
      have hb := bt_get s i hil
      generalize bt s (i : Int) = x at hb ⊢
      generalize s.data.toList[i] = b at hb ⊢
      by_cases c1 : x ≥ 97
      · by_cases c2 : x ≤ 122
        · simp only [if_pos c1, if_pos c2, show inB b = true from decide_eq_true (by omega), Bool.true_and]; exact ih
        by_cases c3 : x ≥ 48
        · simp only [if_pos c1, if_neg c2, if_pos c3, if_neg (show ¬ x ≤ 57 by omega), show inB b = false from decide_eq_false (by omega), Bool.false_and]; exact EvN
        omega
      by_cases c3 : x ≥ 48
      · by_cases c4 : x ≤ 57
        · simp only [if_neg c1, if_pos c3, if_pos c4, show inB b = true from decide_eq_true (by omega), Bool.true_and]; exact ih
        simp only [if_neg c1, if_pos c3, if_neg c4, show inB b = false from decide_eq_false (by omega), Bool.false_and]; exact EvN
      simp only [if_neg c1, if_neg c3, show inB b = false from decide_eq_false (by omega), Bool.false_and]; exact EvN))
  unfold spec_l01Name.f nameM
  exact key
def cutB : List UInt8 := [97, 98, 99, 100, 101, 102, 103, 104, 105, 106, 107, 108, 109, 110, 111, 112, 113, 114, 115, 116, 117, 118, 119, 120, 121, 122, 48, 49, 50, 51, 52, 53, 54, 55, 56, 57]
theorem cut_in (b : UInt8) : cutB.contains b = inB b := by
  have h : ∀ n : Fin 256, cutB.contains (UInt8.ofNat n.val) = inB (UInt8.ofNat n.val) := by decide +kernel
  have := h ⟨b.toNat, b.toNat_lt⟩
  simpa using this
theorem dw_nil {α : Type} (p : α → Bool) : ∀ l : List α, l.dropWhile p = [] ↔ ∀ x ∈ l, p x = true
  | [] => by simp
  | a :: l => by
    rw [List.dropWhile_cons]
    by_cases h : p a = true
    · rw [if_pos h, dw_nil p l]
      simp [h]
    rw [if_neg h]
    simp [h]
theorem dw_head {α : Type} (p : α → Bool) : ∀ (l : List α) (x : α) (r : List α), l.dropWhile p = x :: r → p x = false
  | [], x, r, h => by simp at h
  | a :: l, x, r, h => by
    rw [List.dropWhile_cons] at h
    by_cases hp : p a = true
    · rw [if_pos hp] at h
      exact dw_head p l x r h
    rw [if_neg hp] at h
    injection h with h1 _
    rw [← h1]
    exact Bool.eq_false_iff.2 hp
theorem dw_mem {α : Type} (p : α → Bool) : ∀ (l : List α) (x : α), x ∈ l.dropWhile p → x ∈ l
  | [], x, h => by simp at h
  | a :: l, x, h => by
    rw [List.dropWhile_cons] at h
    by_cases hp : p a = true
    · rw [if_pos hp] at h
      exact List.mem_cons_of_mem _ (dw_mem p l x h)
    rw [if_neg hp] at h
    exact h
theorem trim_nil (l : List UInt8) : (Go.Lib.trimS l cutB == []) = l.all inB := by
  unfold Go.Lib.trimS Go.Lib.trimLeftS Go.Lib.trimRightS
  rw [Bool.eq_iff_iff, beq_iff_eq, dw_nil, List.all_eq_true]
  constructor
  · intro h
    have hd : l.reverse.dropWhile (cutB.contains ·) = [] := by
      cases hq : l.reverse.dropWhile (cutB.contains ·) with
      | nil => rfl
      | cons x r =>
        have h1 := h x (by rw [hq]; simp)
        have h2 := dw_head (cutB.contains ·) _ _ _ hq
        rw [h1] at h2
        cases h2
    rw [dw_nil] at hd
    intro x hx
    rw [← cut_in]
    exact hd x (List.mem_reverse.2 hx)
  intro h x hx
  rw [cut_in]
  exact h x (List.mem_reverse.1 (dw_mem _ _ _ (List.mem_reverse.1 hx)))
theorem impl_name (s : ByteArray) (hs : s.size ≤ 9223372036854775807) : impl_isFileName.f s = some (nameM s) := by
  unfold impl_isFileName.f nameM
  by_cases h1 : (s.size : Int) ≥ 1
  · by_cases h2 : (s.size : Int) ≤ 12
    · have ht : trimF.f s (⟨#[97, 98, 99, 100, 101, 102, 103, 104, 105, 106, 107, 108, 109, 110, 111, 112, 113, 114, 115, 116, 117, 118, 119, 120, 121, 122, 48, 49, 50, 51, 52, 53, 54, 55, 56, 57]⟩ : ByteArray) = some ⟨(Go.Lib.trimS s.data.toList cutB).toArray⟩ := by
        unfold trimF.f
        rw [if_pos ⟨hs, by decide, by decide⟩]
        rfl
      simp only [if_pos h1, if_pos h2, ht, Option.bind_some]
      rw [Go.Lib.toList_data, trim_nil, decide_eq_true (show 1 ≤ s.size ∧ s.size ≤ 12 by omega), Bool.and_true]
    simp only [if_pos h1, if_neg h2]
    rw [decide_eq_false (show ¬ (1 ≤ s.size ∧ s.size ≤ 12) by omega), Bool.and_false]
  simp only [if_neg h1]
  rw [decide_eq_false (show ¬ (1 ≤ s.size ∧ s.size ≤ 12) by omega), Bool.and_false]
end Go.Proofs.YtcgojdhbphocgaaDoor.DK

namespace Go.Proofs.YtcgojdhbphocgaaDoor.DK
set_option linter.unusedVariables false
set_option linter.unusedSimpArgs false
open Go.RowKit Go.Proofs.YtcgojdhbphocgaaDoor.F Go.Proofs.YtcgojdhbphocgaaDoor.PK Go.Proofs.YtcgojdhbphocgaaDoorW.PrintWords Go.Proofs.YtcgojdhbphocgaaDoorW.PrintLast Go.Proofs.YtcgojdhbphocgaaDoorW.PrintMore
open Go.Proofs.YtcgojdhbphocgaaDoor.BY (toByteS eqByteS)
theorem rd55 (l : List S55) (i : Nat) (h : i < l.length) : rd_T55 l (i : Int) = l[i] := getD_nat l _ i h
theorem rd83 (l : List S83) (i : Nat) (h : i < l.length) : rd_T83 l (i : Int) = l[i] := getD_nat l _ i h
def conv83 (x : S83) : S55 := ⟨x.f0, x.f1, x.f2⟩
theorem toFile (a : ByteArray) (b c : List Int) (hb : b.length ≤ 1048576) (hc : c.length ≤ 1048576) : Ev (fun k => laws_toFile.f k a b c) (a, b, c) := by
  unfold laws_toFile.f
  simp only [EvB (toByteS b hb), EvB (toByteS c hc)]
  exact EvN
theorem toFileS (l : List S83) (hl : l.length ≤ 1048576) (hs : ∀ y ∈ l, y.f1.length ≤ 1048576 ∧ y.f2.length ≤ 1048576) : Ev (fun k => laws_toFileS.f k l) (l.map conv83) := by
  have key := up (P := fun i => ∀ x : List S55, x.length = l.length → (∀ j : Nat, (j : Int) < i → x[j]? = (l.map conv83)[j]?) → Ev (fun k => laws_toFileS.l0 k l x i) (l.map conv83)) l.length
      (fun x h0 h1 => by
        have : x = l.map conv83 := List.ext_getElem? fun j => by
          by_cases hj : j < l.length
          · exact h1 j (by omega)
          rw [List.getElem?_eq_none (by omega), List.getElem?_eq_none (by rw [List.length_map]; omega)]
        subst this
        exact EvS (by simp only [laws_toFileS.l0, Int.lt_irrefl, if_false]; exact EvN))
      (fun i hi ih x h0 h1 => by
        have hy := hs _ (List.getElem_mem hi)
        refine EvS ?_
        simp only [laws_toFileS.l0, rd83 l i hi, EvB (toFile l[i].f0 l[i].f1 l[i].f2 hy.1 hy.2), h0, Int.toNat_natCast, if_pos (show (i : Int) < (l.length : Int) by omega), if_pos (show 0 ≤ (i : Int) by omega), nxt i _ hi (by omega)]
        refine ih _ (by simpa using h0) fun j hj => ?_
        by_cases hji : j = i
        · subst hji
          rw [List.getElem?_set_self (by omega)]
          simp [List.getElem?_eq_getElem hi, conv83]
        rw [List.getElem?_set_ne (by omega)]
        exact h1 j (by omega))
  have := key 0 (Nat.zero_le _) (List.replicate l.length z55) (by simp) (fun j hj => absurd hj (by omega))
  unfold laws_toFileS.f
  have hS : (l.length ≤ 4398046511104) = True := eq_true (by omega)
  simp only [Int.toNat_natCast, if_pos (show 0 ≤ (l.length : Int) by omega), hS, if_true]
  exact this
theorem toDisk (l : List S83) (hl : l.length ≤ 1048576) (hs : ∀ y ∈ l, y.f1.length ≤ 1048576 ∧ y.f2.length ≤ 1048576) : Ev (fun k => laws_toDisk.f k l) (l.map conv83) := by
  unfold laws_toDisk.f
  simp only [EvB (toFileS l hl hs)]
  exact EvN
theorem szByteS (l : List Int) (c : Int) (h0 : 0 ≤ c) (h1 : c ≤ 1048576) (hl : l.length ≤ 9223372036854775807) : ∃ t, laws_szByteS.f l c = some t ∧ t ≤ c ∧ (0 ≤ t → (l.length : Int) ≤ c) := by
  unfold laws_szByteS.f
  rw [w64 (by omega) (by omega)]
  split
  · exact ⟨_, rfl, by omega, by omega⟩
  exact ⟨_, rfl, by omega, by omega⟩
theorem szFile (a : ByteArray) (b d : List Int) (c : Int) (h0 : 0 ≤ c) (h1 : c ≤ 1048576) (ha : a.size ≤ 9223372036854775807) (hb : b.length ≤ 9223372036854775807) (hd : d.length ≤ 9223372036854775807) : ∃ t, laws_szFile.f a b d c = some t ∧ t ≤ c ∧ (0 ≤ t → b.length ≤ 1048576 ∧ d.length ≤ 1048576) := by
  unfold laws_szFile.f
  rw [w64 (by omega) (by omega)]
  by_cases g : c - (a.size : Int) < 0
  · exact ⟨-1, by rw [if_pos g], by omega, by omega⟩
  obtain ⟨t, e, a1, a2⟩ := szByteS b (c - (a.size : Int)) (by omega) (by omega) hb
  by_cases g1 : t < 0
  · exact ⟨-1, by simp only [if_neg g, e, Option.bind_some, if_pos g1], by omega, by omega⟩
  obtain ⟨u, e2, b1, b2⟩ := szByteS d t (by omega) (by omega) hd
  by_cases g2 : u < 0
  · exact ⟨-1, by simp only [if_neg g, e, Option.bind_some, if_neg g1, e2, if_pos g2], by omega, by omega⟩
  exact ⟨u, by simp only [if_neg g, e, Option.bind_some, if_neg g1, e2, if_neg g2], by omega, by omega⟩
def wfF (l : List S83) : Prop := ∀ y ∈ l, y.f0.size ≤ 9223372036854775807 ∧ y.f1.length ≤ 9223372036854775807 ∧ y.f2.length ≤ 9223372036854775807
theorem szFileS (l : List S83) (hl : l.length ≤ 9223372036854775807) (hs : wfF l) : ∃ t, Ev (fun k => laws_szFileS.f k l 1048576) t ∧ (0 ≤ t → l.length ≤ 1048576 ∧ ∀ y ∈ l, y.f1.length ≤ 1048576 ∧ y.f2.length ≤ 1048576) := by
  by_cases h : (1048576 - (l.length : Int)) < 0
  · refine ⟨-1, ?_, by omega⟩
    unfold laws_szFileS.f
    rw [w64 (by omega) (by omega)]
    simp only [if_pos h]
    exact EvN
  have key := up (P := fun i => ∀ x, 0 ≤ x → x ≤ 1048576 → ∃ t, Ev (fun k => laws_szFileS.l0 k l x i) t ∧ (0 ≤ t → ∀ y ∈ l.drop i.toNat, y.f1.length ≤ 1048576 ∧ y.f2.length ≤ 1048576)) l.length
    (fun x g0 g1 => ⟨x, EvS (by simp only [laws_szFileS.l0, Int.lt_irrefl, if_false]; exact EvN), fun _ y hy => by rw [Int.toNat_natCast, List.drop_length] at hy; cases hy⟩)
    (fun i hi ih x g0 g1 => by
      have hz := hs _ (List.getElem_mem hi)
      obtain ⟨t, e1, e2, e3⟩ := szFile l[i].f0 l[i].f1 l[i].f2 x g0 g1 hz.1 hz.2.1 hz.2.2
      by_cases h2 : t < 0
      · refine ⟨-1, EvS ?_, by omega⟩
        simp only [laws_szFileS.l0, rd83 l i hi, e1, Option.bind_some, if_pos h2, if_pos (show (i : Int) < (l.length : Int) by omega), if_pos (show 0 ≤ (i : Int) by omega)]
        exact EvN
      obtain ⟨t', h3, h4⟩ := ih t (by omega) (by omega)
      refine ⟨t', EvS ?_, fun ht y hy => ?_⟩
      · simp only [laws_szFileS.l0, rd83 l i hi, e1, Option.bind_some, if_neg h2, if_pos (show (i : Int) < (l.length : Int) by omega), if_pos (show 0 ≤ (i : Int) by omega), nxt i _ hi hl]
        exact h3
      rw [Int.toNat_natCast, drop_at l i hi] at hy
      rcases List.mem_cons.1 hy with rfl | hy
      · exact e3 (by omega)
      exact h4 ht y (by rw [Int.toNat_natCast]; exact hy))
  obtain ⟨t, h2, h3⟩ := key 0 (Nat.zero_le _) (1048576 - (l.length : Int)) (by omega) (by omega)
  refine ⟨t, ?_, fun ht => ⟨by omega, fun y hy => h3 ht y (by simpa using hy)⟩⟩
  unfold laws_szFileS.f
  rw [w64 (by omega) (by omega)]
  simp only [if_neg h]
  exact h2
theorem szDisk (l : List S83) (hl : l.length ≤ 9223372036854775807) (hs : wfF l) : ∃ t, Ev (fun k => laws_szDisk.f k l 1048576) t ∧ (0 ≤ t → l.length ≤ 1048576 ∧ ∀ y ∈ l, y.f1.length ≤ 1048576 ∧ y.f2.length ≤ 1048576) := by
  obtain ⟨t, h1, h2⟩ := szFileS l hl hs
  unfold laws_szDisk.f
  by_cases h : t < 0
  · exact ⟨-1, by simp only [EvB h1, if_pos h]; exact EvN, by omega⟩
  exact ⟨t, by simp only [EvB h1, if_neg h]; exact EvN, h2⟩
theorem eqFile (a : ByteArray) (b c : List Int) (hb : b.length ≤ 9223372036854775807) (hc : c.length ≤ 9223372036854775807) : Ev (fun k => laws_eqFile.f k a b c a b c) true := by
  unfold laws_eqFile.f
  simp only [if_true, EvB (eqByteS b hb), EvB (eqByteS c hc)]
  exact EvN
theorem eqFileS (x : List S55) (hx : x.length ≤ 9223372036854775807) (hy : ∀ y ∈ x, y.f1.length ≤ 9223372036854775807 ∧ y.f2.length ≤ 9223372036854775807) : Ev (fun k => laws_eqFileS.f k x x) true := by
  have key := up (P := fun i => Ev (fun k => laws_eqFileS.l0 k x x i) true) x.length
    (EvS (by simp only [laws_eqFileS.l0, Int.lt_irrefl, if_false]; exact EvN))
    (fun i hi ih => EvS (by
      have e := eqFile x[i].f0 x[i].f1 x[i].f2 (hy _ (List.getElem_mem hi)).1 (hy _ (List.getElem_mem hi)).2
      simp only [laws_eqFileS.l0, rd55 x i hi, if_pos (show (i : Int) < (x.length : Int) by omega), if_pos (show 0 ≤ (i : Int) by omega), EvB e, if_true, nxt i _ hi hx]; exact ih))
  have := key 0 (Nat.zero_le _)
  unfold laws_eqFileS.f
  simp only [if_true]
  exact this
theorem eqDisk (x : List S55) (hx : x.length ≤ 9223372036854775807) (hy : ∀ y ∈ x, y.f1.length ≤ 9223372036854775807 ∧ y.f2.length ≤ 9223372036854775807) : Ev (fun k => laws_eqDisk.f k x x) true := by
  unfold laws_eqDisk.f
  simp only [EvB (eqFileS x hx hy), if_true]
  exact EvN
def okAt (l : List S55) (i : Nat) : Bool := nameM (rd_T55 l i).f0 && (decide ((rd_T55 l i).f1.length + (rd_T55 l i).f2.length ≤ 20000) && (decide (i = 0) || Op.bytesLess (rd_T55 l ((i - 1 : Nat) : Int)).f0.toList (rd_T55 l i).f0.toList))
def goD (l : List S55) : Nat → Nat → Bool
  | 0, _ => true
  | d + 1, i => okAt l i && goD l d (i + 1)
def diskM (l : List S55) : Bool := decide (l.length ≤ 8) && goD l l.length 0
def wfD (l : List S55) : Prop := ∀ y ∈ l, y.f0.size ≤ 9223372036854775807 ∧ y.f1.length ≤ 1048576 ∧ y.f2.length ≤ 1048576
theorem specGo (l : List S55) (hl : l.length ≤ 1048576) (hw : wfD l) : ∀ d i : Nat, d + i = l.length → Ev (fun k => spec_DiskOk.l0 k i l) (goD l d i) := by
  intro d
  induction d with
  | zero =>
    intro i hi
    refine EvS ?_
    simp only [spec_DiskOk.l0, if_neg (show ¬ (i : Int) < (l.length : Int) by omega)]
    exact EvN
  | succ d ih =>
    intro i hi
    have hil : i < l.length := by omega
    have hy := hw _ (List.getElem_mem hil)
    refine EvS ?_
    have hn := spec_name l[i].f0 hy.1
    have h := ih (i + 1) (by omega)
    rw [← rd55 l i hil] at hn hy
    unfold goD okAt
    simp only [spec_DiskOk.l0, if_pos (show (i : Int) < (l.length : Int) by omega), if_pos (show 0 ≤ (i : Int) by omega), EvB hn, nxt i _ hil (by omega)]
    generalize rd_T55 l (i : Int) = y at hy hn ⊢
    by_cases c1 : nameM y.f0 = true
    · by_cases c2 : (y.f1.length : Int) > 20000
      · simp only [if_pos c1, if_pos c2, decide_eq_false (show ¬ y.f1.length + y.f2.length ≤ 20000 by omega), Bool.false_and, Bool.and_false]; exact EvN
      have hw1 : wrap64 (20000 - (y.f1.length : Int)) = 20000 - (y.f1.length : Int) := w64 (by omega) (by omega)
      by_cases c3 : (y.f2.length : Int) > 20000 - (y.f1.length : Int)
      · simp only [if_pos c1, if_neg c2, hw1, if_pos c3, decide_eq_false (show ¬ y.f1.length + y.f2.length ≤ 20000 by omega), Bool.false_and, Bool.and_false]; exact EvN
      simp only [if_pos c1, if_neg c2, hw1, if_neg c3, c1, decide_eq_true (show y.f1.length + y.f2.length ≤ 20000 by omega), Bool.true_and]
      by_cases c4 : i = 0
      · simp only [if_neg (show ¬ (i : Int) > 0 by omega), decide_eq_true c4, Bool.true_or, Bool.true_and]; exact h
      have hw2 : wrap64 ((i : Int) - 1) = ((i - 1 : Nat) : Int) := by rw [w64 (by omega) (by omega)]; omega
      simp only [if_pos (show (i : Int) > 0 by omega), hw2, if_pos (show 0 ≤ ((i - 1 : Nat) : Int) by omega), if_pos (show ((i - 1 : Nat) : Int) < (l.length : Int) by omega), decide_eq_false c4, Bool.false_or]
      by_cases c5 : Op.bytesLess (rd_T55 l ((i - 1 : Nat) : Int)).f0.toList y.f0.toList = true
      · simp only [if_pos c5, c5, Bool.true_and]; exact h
      simp only [if_neg c5, Bool.eq_false_iff.2 c5, Bool.false_and]; exact EvN
    simp only [if_neg c1, Bool.eq_false_iff.2 c1, Bool.false_and]; exact EvN
theorem implGo (l : List S55) (hl : l.length ≤ 1048576) (hw : wfD l) : ∀ d i : Nat, d + i = l.length → Ev (fun k => impl_isDisk.l0 k l (l.length : Int) i l) (goD l d i && decide (l.length ≤ 8)) := by
  intro d
  induction d with
  | zero =>
    intro i hi
    refine EvS ?_
    simp only [impl_isDisk.l0, if_neg (show ¬ (i : Int) < (l.length : Int) by omega), goD, Bool.true_and]
    rw [show decide ((l.length : Int) ≤ 8) = decide (l.length ≤ 8) from decide_eq_decide.2 (by omega)]
    exact EvN
  | succ d ih =>
    intro i hi
    have hil : i < l.length := by omega
    have hy := hw _ (List.getElem_mem hil)
    refine EvS ?_
    have hn := impl_name l[i].f0 hy.1
    have h := ih (i + 1) (by omega)
    rw [← rd55 l i hil] at hn hy
    unfold goD okAt
    simp only [impl_isDisk.l0, if_pos (show (i : Int) < (l.length : Int) by omega), if_pos (show 0 ≤ (i : Int) by omega), hn, Option.bind_some, nxt i _ hil (by omega)]
    generalize rd_T55 l (i : Int) = y at hy hn ⊢
    by_cases c1 : nameM y.f0 = true
    · have hw1 : wrap64 ((y.f1.length : Int) + (y.f2.length : Int)) = (y.f1.length : Int) + (y.f2.length : Int) := w64 (by omega) (by omega)
      by_cases c3 : (y.f1.length : Int) + (y.f2.length : Int) > 20000
      · simp only [if_pos c1, hw1, if_pos c3, decide_eq_false (show ¬ y.f1.length + y.f2.length ≤ 20000 by omega), Bool.false_and, Bool.and_false]; exact EvN
      simp only [if_pos c1, hw1, if_neg c3, c1, decide_eq_true (show y.f1.length + y.f2.length ≤ 20000 by omega), Bool.true_and]
      by_cases c4 : i = 0
      · simp only [if_neg (show ¬ (i : Int) > 0 by omega), decide_eq_true c4, Bool.true_or, Bool.true_and]; exact h
      have hw2 : wrap64 ((i : Int) - 1) = ((i - 1 : Nat) : Int) := by rw [w64 (by omega) (by omega)]; omega
      simp only [if_pos (show (i : Int) > 0 by omega), hw2, if_pos (show 0 ≤ ((i - 1 : Nat) : Int) by omega), if_pos (show ((i - 1 : Nat) : Int) < (l.length : Int) by omega), decide_eq_false c4, Bool.false_or]
      by_cases c5 : Op.bytesLess (rd_T55 l ((i - 1 : Nat) : Int)).f0.toList y.f0.toList = true
      · simp only [if_pos c5, c5, Bool.true_and]; exact h
      simp only [if_neg c5, Bool.eq_false_iff.2 c5, Bool.false_and]; exact EvN
    simp only [if_neg c1, Bool.eq_false_iff.2 c1, Bool.false_and]; exact EvN
theorem spec_disk (l : List S55) (hl : l.length ≤ 1048576) (hw : wfD l) : Ev (fun k => spec_DiskOk.f k l) (diskM l) := by
  unfold spec_DiskOk.f diskM
  by_cases h : l.length ≤ 8
  · simp only [if_neg (show ¬ (l.length : Int) > 8 by omega), decide_eq_true h, Bool.true_and]
    exact specGo l hl hw l.length 0 rfl
  simp only [if_pos (show (l.length : Int) > 8 by omega), decide_eq_false h, Bool.false_and]
  exact EvN
theorem impl_disk (l : List S55) (hl : l.length ≤ 1048576) (hw : wfD l) : Ev (fun k => impl_isDisk.f k l) (diskM l) := by
  unfold impl_isDisk.f diskM
  rw [Bool.and_comm]
  exact implGo l hl hw l.length 0 rfl
end Go.Proofs.YtcgojdhbphocgaaDoor.DK

namespace Go.Proofs.YtcgojdhbphocgaaDoor.F
open Go.RowKit Go.Proofs.YtcgojdhbphocgaaDoorW.PrintWords Go.Proofs.YtcgojdhbphocgaaDoorW.PrintWords.Kd Go.Proofs.YtcgojdhbphocgaaDoorW.PrintMore.Kd Go.Proofs.YtcgojdhbphocgaaDoorW.PrintLast Go.Proofs.YtcgojdhbphocgaaDoorW.PrintMore
attribute [local go_sem] max2_int min2_int max_two min_two max_three min_three max_four min_four   -- for this text's walks alone
set_option linter.unusedVariables false
set_option linter.unusedSimpArgs false
end Go.Proofs.YtcgojdhbphocgaaDoor.F

namespace Go.Proofs.YtcgojdhbphocgaaDoor.DK
set_option linter.unusedVariables false
set_option linter.unusedSimpArgs false
open Go.RowKit Go.Proofs.YtcgojdhbphocgaaDoor.F Go.Proofs.YtcgojdhbphocgaaDoor.PK Go.Proofs.YtcgojdhbphocgaaDoorW.PrintWords Go.Proofs.YtcgojdhbphocgaaDoorW.PrintLast Go.Proofs.YtcgojdhbphocgaaDoorW.PrintMore
theorem rdI (l : List Int) (i : Nat) (h : i < l.length) : rd l (i : Int) = l[i] := getD_nat l _ i h
theorem bytesS (l : List Int) (hl : l.length ≤ 1000000000) : Ev (fun k => spec_l01Bytes.f k l) l := by
  have key := up0 (P := fun i => Ev (fun k => spec_l01Bytes.l0 k l (l.take i.toNat) i) l) l.length
    (EvS (by simp only [spec_l01Bytes.l0, Int.lt_irrefl, if_false, Int.toNat_natCast, List.take_length]; exact EvN))
    (fun i hi ih => EvS (by
      simp only [spec_l01Bytes.l0, if_pos (show (i : Int) < (l.length : Int) by omega), if_pos (show 0 ≤ (i : Int) by omega), Int.toNat_natCast, rdI l i hi, nxt i _ hi (by omega), if_pos (show (l.take i).length < 140737488355328 by rw [List.length_take]; omega)]
      rw [Int.toNat_natCast, List.take_add_one, List.getElem?_eq_getElem hi] at ih
      exact ih))
  unfold spec_l01Bytes.f
  exact key
theorem joinS (l m : List Int) (hl : l.length ≤ 1000000000) (hm : m.length ≤ 1000000000) : Ev (fun k => spec_l01Join.f k l m) (l ++ m) := by
  have key := up0 (P := fun i => Ev (fun k => spec_l01Join.l0 k m (l ++ m.take i.toNat) i) (l ++ m)) m.length
    (EvS (by simp only [spec_l01Join.l0, Int.lt_irrefl, if_false, Int.toNat_natCast, List.take_length]; exact EvN))
    (fun i hi ih => EvS (by
      simp only [spec_l01Join.l0, if_pos (show (i : Int) < (m.length : Int) by omega), if_pos (show 0 ≤ (i : Int) by omega), Int.toNat_natCast, rdI m i hi, nxt i _ hi (by omega), if_pos (show (l ++ m.take i).length < 140737488355328 by rw [List.length_append, List.length_take]; omega)]
      rw [Int.toNat_natCast, List.take_add_one, List.getElem?_eq_getElem hi, ← List.append_assoc] at ih
      exact ih))
  unfold spec_l01Join.f
  simp only [EvB (bytesS l hl)]
  have e : l ++ m.take (0 : Int).toNat = l := by simp
  rw [e] at key
  exact key
def isN (a : ByteArray) : ByteArray → Bool := fun s => s.toList == a.toList
theorem find_ev (l : List S55) (a : ByteArray) (hl : l.length ≤ 1048576) : Ev (fun k => spec_l03Find.f k l a) (idxF (isN a) l 0) := by
  have key := up0 (P := fun i => Ev (fun k => spec_l03Find.l0 k a i l) (idxF (isN a) (l.drop i.toNat) i)) l.length
    (EvS (by
      simp only [spec_l03Find.l0, Int.lt_irrefl, if_false, Int.toNat_natCast, List.drop_length, idxF]
      exact EvN))
    (fun i hi ih => EvS (by
      rw [Int.toNat_natCast] at *
      rw [drop_at l i hi]
      simp only [spec_l03Find.l0, if_pos (show (i : Int) < (l.length : Int) by omega), if_pos (show 0 ≤ (i : Int) by omega), rd55 l i hi, nxt i _ hi (by omega), idxF]
      by_cases h : l[i].f0.toList = a.toList
      · simp only [if_pos h, isN, beq_iff_eq.2 h, if_true]; exact EvN
      simp only [if_neg h, isN, beq_eq_false_iff_ne.2 h, Bool.false_eq_true, if_false]
      exact ih))
  unfold spec_l03Find.f
  exact key
theorem idxF_bd (p : ByteArray → Bool) : ∀ (l : List S55) (i : Int), 0 ≤ i → idxF p l i = -1 ∨ (i ≤ idxF p l i ∧ idxF p l i < i + l.length) := by
  intro l
  induction l with
  | nil => intro i _; exact .inl rfl
  | cons x t ih =>
    intro i hi
    unfold idxF
    by_cases h : p x.f0 = true
    · rw [if_pos h]; right; simp only [List.length_cons]; omega
    rw [if_neg h]
    rcases ih (i + 1) (by omega) with h1 | h1
    · exact .inl h1
    right; simp only [List.length_cons]; omega
def contentM (l : List S55) (a : ByteArray) : List Int × Bool := if diskM l = true then (if idxF (isN a) l 0 < 0 then ([], false) else ((rd_T55 l (idxF (isN a) l 0)).f1 ++ (rd_T55 l (idxF (isN a) l 0)).f2, true)) else ([], false)
theorem at_bd (l : List S55) (hw : wfD l) (i : Int) (h0 : 0 ≤ i) (h1 : i < l.length) : (rd_T55 l i).f1.length ≤ 1048576 ∧ (rd_T55 l i).f2.length ≤ 1048576 := by
  obtain ⟨n, rfl⟩ := Int.eq_ofNat_of_zero_le h0
  have hn : n < l.length := by omega
  rw [rd55 l n hn]
  exact (hw _ (List.getElem_mem hn)).2
theorem content_le (l : List S55) (a : ByteArray) (hw : wfD l) : (contentM l a).1.length ≤ 2097152 := by
  unfold contentM
  by_cases h : diskM l = true
  · rw [if_pos h]
    by_cases h2 : idxF (isN a) l 0 < 0
    · rw [if_pos h2]; simp
    rw [if_neg h2]
    have := idxF_bd (isN a) l 0 (by omega)
    have := at_bd l hw (idxF (isN a) l 0) (by omega) (by omega)
    rw [List.length_append]
    omega
  rw [if_neg h]; simp
theorem spec_content (l : List S55) (a : ByteArray) (hl : l.length ≤ 1048576) (hw : wfD l) : Ev (fun k => spec_Content.f k l a) (contentM l a) := by
  unfold spec_Content.f contentM
  simp only [EvB (find_ev l a hl), EvB (spec_disk l hl hw)]
  have hb := idxF_bd (isN a) l 0 (by omega)
  generalize idxF (isN a) l 0 = i at hb ⊢
  by_cases h : diskM l = true
  · by_cases h2 : i < 0
    · simp only [if_pos h, if_pos h2]; exact EvN
    have hr := at_bd l hw i (by omega) (by omega)
    simp only [if_pos h, if_neg h2, if_pos (show 0 ≤ i by omega), if_pos (show i < (l.length : Int) by omega), EvB (joinS (rd_T55 l i).f1 (rd_T55 l i).f2 (by omega) (by omega))]
    exact EvN
  simp only [if_neg h]; exact EvN
theorem lt47 (n m : Nat) (h : n ≤ 1000000000) (h' : m ≤ 1000000000) : n + m < 140737488355328 := by omega
theorem lt_irr : ∀ a : List UInt8, Op.bytesLess a a = false
  | [] => rfl
  | x :: r => by simp [Op.bytesLess, lt_irr r]
theorem lt_trans : ∀ a b c : List UInt8, Op.bytesLess a b = true → Op.bytesLess b c = true → Op.bytesLess a c = true
  | a, b, [], _, h => by cases b <;> simp [Op.bytesLess] at h
  | [], b, z :: c, _, _ => rfl
  | x :: a, [], z :: c, h, _ => by simp [Op.bytesLess] at h
  | x :: a, y :: b, z :: c, h, h' => by
    simp only [Op.bytesLess, Bool.or_eq_true, decide_eq_true_eq, Bool.and_eq_true, beq_iff_eq, UInt8.lt_iff_toNat_lt] at h h' ⊢
    rcases h with h | ⟨rfl, h⟩
    · rcases h' with h' | ⟨rfl, h'⟩
      · exact .inl (by omega)
      exact .inl h
    rcases h' with h' | ⟨rfl, h'⟩
    · exact .inl h'
    exact .inr ⟨rfl, lt_trans a b c h h'⟩
theorem lt_ne {a b : List UInt8} (h : Op.bytesLess a b = true) : a ≠ b := by
  rintro rfl
  rw [lt_irr] at h
  cases h
theorem lt_total : ∀ a b : List UInt8, Op.bytesLess a b = false → Op.bytesLess b a = false → a = b
  | [], [], _, _ => rfl
  | [], y :: b, h, _ => by simp [Op.bytesLess] at h
  | x :: a, [], _, h => by simp [Op.bytesLess] at h
  | x :: a, y :: b, h, h' => by
    simp only [Op.bytesLess, Bool.or_eq_false_iff, decide_eq_false_iff_not, Bool.and_eq_false_iff, beq_eq_false_iff_ne, UInt8.lt_iff_toNat_lt] at h h'
    have e : x = y := UInt8.toNat_inj.1 (by omega)
    subst e
    rw [lt_total a b (h.2.resolve_left (fun h => h rfl)) (h'.2.resolve_left (fun h => h rfl))]
def nm (x : S55) : List UInt8 := x.f0.toList
def srt (l : List S55) : Prop := ∀ i j : Nat, i < j → ∀ x y, l[i]? = some x → l[j]? = some y → Op.bytesLess (nm x) (nm y) = true
theorem goD_at (l : List S55) : ∀ d i : Nat, goD l d i = true → ∀ j, i ≤ j → j < i + d → okAt l j = true := by
  intro d
  induction d with
  | zero => intro i _ j _ _; omega
  | succ d ih =>
    intro i h j h1 h2
    unfold goD at h
    rw [Bool.and_eq_true] at h
    by_cases e : j = i
    · subst e; exact h.1
    exact ih (i + 1) h.2 j (by omega) (by omega)
theorem goD_of (l : List S55) : ∀ d i : Nat, (∀ j, i ≤ j → j < i + d → okAt l j = true) → goD l d i = true := by
  intro d
  induction d with
  | zero => intro i _; rfl
  | succ d ih =>
    intro i h
    unfold goD
    rw [Bool.and_eq_true]
    exact ⟨h i (by omega) (by omega), ih (i + 1) (fun j h1 h2 => h j (by omega) (by omega))⟩
theorem disk_srt {l : List S55} (h : diskM l = true) : srt l := by
  unfold diskM at h
  rw [Bool.and_eq_true] at h
  have hk := goD_at l _ _ h.2
  have step : ∀ j, j + 1 < l.length → Op.bytesLess (nm (l.getD j z55)) (nm (l.getD (j + 1) z55)) = true := by
    intro j hj
    have := hk (j + 1) (by omega) (by omega)
    unfold okAt at this
    rw [Bool.and_eq_true, Bool.and_eq_true, Bool.or_eq_true] at this
    have h3 := this.2.2.resolve_left (by simp)
    simpa [rd_T55, nm] using h3
  have key : ∀ j i : Nat, i < j → j < l.length → Op.bytesLess (nm (l.getD i z55)) (nm (l.getD j z55)) = true := by
    intro j
    induction j with
    | zero => intro i h1; omega
    | succ j ih =>
      intro i h1 h2
      by_cases e : i = j
      · subst e; exact step i h2
      exact lt_trans _ _ _ (ih i (by omega) (by omega)) (step j h2)
  intro i j hij x y hx hy
  have h1 := (List.getElem?_eq_some_iff.1 hy).1
  have := key j i hij h1
  rw [List.getD_eq_getElem?_getD, List.getD_eq_getElem?_getD, hx, hy] at this
  exact this
theorem idxF_at (p : ByteArray → Bool) : ∀ (l : List S55) (s : Int), (idxF p l s = -1 ∧ ∀ x ∈ l, p x.f0 = false) ∨ (∃ m : Nat, ∃ x, idxF p l s = s + m ∧ l[m]? = some x ∧ p x.f0 = true ∧ ∀ (j : Nat) (y : S55), j < m → l[j]? = some y → p y.f0 = false) := by
  intro l
  induction l with
  | nil => intro s; exact .inl ⟨rfl, fun x hx => by cases hx⟩
  | cons x t ih =>
    intro s
    unfold idxF
    by_cases h : p x.f0 = true
    · rw [if_pos h]
      exact .inr ⟨0, x, by simp, rfl, h, fun j y hj => by omega⟩
    rw [if_neg h]
    rcases ih (s + 1) with ⟨h1, h2⟩ | ⟨m, y, h1, h2, h3, h4⟩
    · refine .inl ⟨h1, fun y hy => ?_⟩
      rcases List.mem_cons.1 hy with rfl | hy
      · exact Bool.eq_false_iff.2 h
      exact h2 y hy
    refine .inr ⟨m + 1, y, by rw [h1]; omega, by rw [List.getElem?_cons_succ]; exact h2, h3, fun j z hj hz => ?_⟩
    cases j with
    | zero => simp only [List.getElem?_cons_zero, Option.some.injEq] at hz; subst hz; exact Bool.eq_false_iff.2 h
    | succ j => rw [List.getElem?_cons_succ] at hz; exact h4 j z (by omega) hz
def notN (a : ByteArray) : S55 → Bool := fun x => !isN a x.f0
theorem filter_all {α : Type} {p : α → Bool} {l : List α} (h : ∀ x ∈ l, p x = true) : l.filter p = l := List.filter_eq_self.2 h
theorem split_at {α : Type} (l : List α) (m : Nat) (x : α) (h : l[m]? = some x) : l = l.take m ++ x :: l.drop (m + 1) := by
  obtain ⟨h1, h2⟩ := List.getElem?_eq_some_iff.1 h
  conv => lhs; rw [← List.take_append_drop m l, List.drop_eq_getElem_cons h1, h2]
theorem without_at {l : List S55} (hs : srt l) (a : ByteArray) (m : Nat) (x : S55) (hx : l[m]? = some x) (hp : isN a x.f0 = true) : l.filter (notN a) = l.eraseIdx m := by
  have hn : nm x = a.toList := by simpa [isN, nm] using hp
  have hb : ∀ y ∈ l.take m, notN a y = true := by
    intro y hy
    obtain ⟨j, hj⟩ := List.mem_iff_getElem?.1 hy
    rw [List.getElem?_take] at hj
    split at hj
    · have := lt_ne (hs j m (by omega) y x hj hx)
      simp only [notN, isN, Bool.not_eq_true', beq_eq_false_iff_ne]
      rw [← hn]; exact this
    cases hj
  have ha : ∀ y ∈ l.drop (m + 1), notN a y = true := by
    intro y hy
    obtain ⟨j, hj⟩ := List.mem_iff_getElem?.1 hy
    rw [List.getElem?_drop] at hj
    have := lt_ne (hs m (m + 1 + j) (by omega) x y hx hj)
    simp only [notN, isN, Bool.not_eq_true', beq_eq_false_iff_ne]
    rw [← hn]; exact fun e => this e.symm
  conv => lhs; rw [split_at l m x hx]
  rw [List.filter_append, filter_all hb, List.filter_cons, if_neg (by simp [notN, hp]), filter_all ha, List.eraseIdx_eq_take_drop_succ]
theorem copyS (l : List S55) (hl : l.length ≤ 100000000) (hw : ∀ y ∈ l, y.f1.length ≤ 100000000 ∧ y.f2.length ≤ 100000000) : Ev (fun k => spec_l03Copy.f k l) l := by
  have key := up0 (P := fun i => Ev (fun k => spec_l03Copy.l0 k i l (l.take i.toNat)) l) l.length
    (EvS (by simp only [spec_l03Copy.l0, Int.lt_irrefl, if_false, Int.toNat_natCast, List.take_length]; exact EvN))
    (fun i hi ih => EvS (by
      have hy := hw _ (List.getElem_mem hi)
      simp only [spec_l03Copy.l0, if_pos (show (i : Int) < (l.length : Int) by omega), if_pos (show 0 ≤ (i : Int) by omega), Int.toNat_natCast, rd55 l i hi, EvB (bytesS _ (show l[i].f1.length ≤ 1000000000 by omega)), EvB (bytesS _ (show l[i].f2.length ≤ 1000000000 by omega)), nxt i _ hi (by omega), if_pos (show (l.take i).length < 2199023255552 by rw [List.length_take]; omega)]
      rw [Int.toNat_natCast, List.take_add_one, List.getElem?_eq_getElem hi] at ih
      exact ih))
  unfold spec_l03Copy.f
  exact key
theorem copyI (l : List S55) (hl : l.length ≤ 100000000) (hw : ∀ y ∈ l, y.f1.length ≤ 100000000 ∧ y.f2.length ≤ 100000000) : Ev (fun k => impl_copyDisk.f k l) l := by
  have key := up0 (P := fun i => Ev (fun k => impl_copyDisk.l0 k l (l.length : Int) i (l.take i.toNat)) l) l.length
    (EvS (by simp only [impl_copyDisk.l0, Int.lt_irrefl, if_false, Int.toNat_natCast, List.take_length]; exact EvN))
    (fun i hi ih => EvS (by
      have hy := hw _ (List.getElem_mem hi)
      simp only [impl_copyDisk.l0, if_pos (show (i : Int) < (l.length : Int) by omega), if_pos (show 0 ≤ (i : Int) by omega), Int.toNat_natCast, rd55 l i hi, Option.bind_some, if_pos (show ([] : List Int).length + l[i].f1.length < 140737488355328 by rw [List.length_nil]; omega), if_pos (show ([] : List Int).length + l[i].f2.length < 140737488355328 by rw [List.length_nil]; omega), List.nil_append, nxt i _ hi (by omega), if_pos (show (l.take i).length < 2199023255552 by rw [List.length_take]; omega)]
      rw [Int.toNat_natCast, List.take_add_one, List.getElem?_eq_getElem hi] at ih
      exact ih))
  unfold impl_copyDisk.f
  exact key
theorem withoutS (l : List S55) (a : ByteArray) (hl : l.length ≤ 100000000) (hw : ∀ y ∈ l, y.f1.length ≤ 100000000 ∧ y.f2.length ≤ 100000000) : Ev (fun k => spec_l03Without.f k l a) (l.filter (notN a)) := by
  have key := up0 (P := fun i => Ev (fun k => spec_l03Without.l0 k a i l ((l.take i.toNat).filter (notN a))) (l.filter (notN a))) l.length
    (EvS (by
      have hlf : (l.filter (notN a)).length ≤ 100000000 := Nat.le_trans (List.length_filter_le _ _) hl
      simp only [spec_l03Without.l0, Int.lt_irrefl, if_false, Int.toNat_natCast, List.take_length, EvB (copyS _ hlf (fun y hy => hw y (List.mem_filter.1 hy).1))]
      exact EvN))
    (fun i hi ih => EvS (by
      have hlf : ((l.take i).filter (notN a)).length ≤ i := Nat.le_trans (List.length_filter_le _ _) (by rw [List.length_take]; omega)
      rw [Int.toNat_natCast, List.take_add_one, List.getElem?_eq_getElem hi, Option.toList_some, List.filter_append, List.filter_cons, List.filter_nil] at ih
      simp only [spec_l03Without.l0, if_pos (show (i : Int) < (l.length : Int) by omega), if_pos (show 0 ≤ (i : Int) by omega), Int.toNat_natCast, rd55 l i hi, nxt i _ hi (by omega)]
      by_cases c : l[i].f0.toList = a.toList
      · rw [if_neg (by simp [notN, isN, c]), List.append_nil] at ih
        simp only [if_pos c]
        exact ih
      rw [if_pos (by simp [notN, isN, c])] at ih
      simp only [if_neg c, if_pos (show ((l.take i).filter (notN a)).length < 2199023255552 by omega)]
      exact ih))
  unfold spec_l03Without.f
  exact key
def lessN (a : ByteArray) : S55 → Bool := fun x => Op.bytesLess (nm x) a.toList
def putGo (f : S55) : Bool → List S55 → List S55 → List S55
  | b, [], out => if b = true then out else out ++ [f]
  | true, x :: r, out => if nm x = nm f then putGo f true r out else putGo f true r (out ++ [x])
  | false, x :: r, out => if lessN f.f0 x = true then (if nm x = nm f then putGo f false r out else putGo f false r (out ++ [x])) else (if nm x = nm f then putGo f true r (out ++ [f]) else putGo f true r (out ++ [f] ++ [x]))
theorem putGo_true (f : S55) : ∀ (l out : List S55), putGo f true l out = out ++ l.filter (notN f.f0)
  | [], out => by simp [putGo]
  | x :: r, out => by
    unfold putGo
    by_cases c : nm x = nm f
    · rw [if_pos c, putGo_true f r out, List.filter_cons, if_neg (by simp [notN, isN]; exact c)]
    rw [if_neg c, putGo_true f r _, List.filter_cons, if_pos (by simp [notN, isN]; exact c), List.append_assoc]; rfl
theorem putGo_false (f : S55) : ∀ (l out : List S55), putGo f false l out = out ++ l.takeWhile (lessN f.f0) ++ f :: (l.dropWhile (lessN f.f0)).filter (notN f.f0)
  | [], out => by simp [putGo]
  | x :: r, out => by
    unfold putGo
    by_cases h : lessN f.f0 x = true
    · have c : ¬ nm x = nm f := lt_ne h
      rw [if_pos h, if_neg c, putGo_false f r _, List.takeWhile_cons_of_pos h, List.dropWhile_cons_of_pos h]
      simp
    rw [if_neg h, List.takeWhile_cons_of_neg h, List.dropWhile_cons_of_neg h]
    by_cases c : nm x = nm f
    · rw [if_pos c, putGo_true, List.filter_cons, if_neg (by simp [notN, isN]; exact c)]
      simp
    rw [if_neg c, putGo_true, List.filter_cons, if_pos (by simp [notN, isN]; exact c)]
    simp
def putM (l : List S55) (f : S55) : List S55 := l.takeWhile (lessN f.f0) ++ f :: (l.dropWhile (lessN f.f0)).filter (notN f.f0)
theorem put_len (f : S55) : ∀ (b : Bool) (l out : List S55), (putGo f b l out).length ≤ out.length + l.length + 1 := by
  intro b l out
  cases b with
  | true => rw [putGo_true, List.length_append]; have := List.length_filter_le (notN f.f0) l; omega
  | false =>
    rw [putGo_false]
    have h1 := List.length_filter_le (notN f.f0) (l.dropWhile (lessN f.f0))
    have h2 : (l.takeWhile (lessN f.f0)).length + (l.dropWhile (lessN f.f0)).length = l.length := by rw [← List.length_append, List.takeWhile_append_dropWhile]
    simp only [List.length_append, List.length_cons]
    omega
theorem put_mem (f : S55) (l : List S55) : ∀ y ∈ putM l f, y = f ∨ y ∈ l := by
  intro y hy
  rcases List.mem_append.1 hy with h | h
  · exact .inr ((List.takeWhile_sublist _).subset h)
  rcases List.mem_cons.1 h with h | h
  · exact .inl h
  exact .inr ((List.dropWhile_sublist _).subset (List.mem_filter.1 h).1)
theorem putS (l : List S55) (f : S55) (hl : l.length ≤ 10000000) (hw : ∀ y ∈ l, y.f1.length ≤ 100000000 ∧ y.f2.length ≤ 100000000) (hf : f.f1.length ≤ 100000000 ∧ f.f2.length ≤ 100000000) : Ev (fun k => spec_l03Put.f k l f.f0 f.f1 f.f2) (putM l f) := by
  have hsz : (putM l f).length ≤ 100000000 := by
    have := put_len f false l []
    rw [putGo_false, List.length_nil] at this
    simp only [List.nil_append] at this
    show (l.takeWhile (lessN f.f0) ++ f :: (l.dropWhile (lessN f.f0)).filter (notN f.f0)).length ≤ _
    omega
  have fin : Ev (fun k => spec_l03Copy.f k (putM l f)) (putM l f) := copyS _ hsz (fun y hy => by
    rcases put_mem f l y hy with rfl | h
    · exact hf
    exact hw y h)
  have key : ∀ d i : Nat, d + i = l.length → ∀ (b : Bool) (out : List S55), out.length ≤ 2 * i → putGo f b (l.drop i) out = putM l f → Ev (fun k => spec_l03Put.l0 k b i l f.f0 f.f1 f.f2 out) (putM l f) := by
    intro d
    induction d with
    | zero =>
      intro i hi b out h1 h3
      have hi : i = l.length := by omega
      subst hi
      rw [List.drop_length] at h3
      refine EvS ?_
      simp only [spec_l03Put.l0, Int.lt_irrefl, if_false]
      cases b with
      | true =>
        simp only [putGo, if_true] at h3
        subst h3
        simp only [if_true]
        exact (EvB fin).2 EvN
      | false =>
        simp only [putGo, Bool.false_eq_true, if_false] at h3
        simp only [Bool.false_eq_true, if_false, if_pos (show out.length < 2199023255552 by omega)]
        rw [h3]
        exact (EvB fin).2 EvN
    | succ d ih =>
      intro i hi b out h1 h3
      have hil : i < l.length := by omega
      rw [drop_at l i hil] at h3
      have ih' := fun b out h1 h3 => ih (i + 1) (by omega) b out h1 h3
      refine EvS ?_
      have hi1 : (i : Int) < (l.length : Int) := by omega
      have hi0 : 0 ≤ (i : Int) := by omega
      have hnx := nxt i _ hil (by omega)
      simp only [spec_l03Put.l0, if_pos hi1, if_pos hi0, rd55 l i hil]
      cases b with
      | true =>
        simp only [if_true]
        refine EvS ?_
        simp only [spec_l03Put.j1, Bool.false_eq_true, if_false, if_pos hi1, if_pos hi0, rd55 l i hil, hnx]
        simp only [putGo] at h3
        by_cases c : l[i].f0.toList = f.f0.toList
        · rw [if_pos (show nm l[i] = nm f from c)] at h3
          simp only [if_pos c]
          exact ih' _ _ (by omega) h3
        rw [if_neg (show ¬ nm l[i] = nm f from c)] at h3
        simp only [if_neg c, if_pos (show out.length < 2199023255552 by omega)]
        exact ih' _ _ (by simp; omega) h3
      | false =>
        simp only [Bool.false_eq_true, if_false]
        refine EvS ?_
        simp only [putGo] at h3
        by_cases g : lessN f.f0 l[i] = true
        · have g' : Op.bytesLess l[i].f0.toList f.f0.toList = true := g
          rw [if_pos g] at h3
          simp only [g', Bool.not_true, spec_l03Put.j1, Bool.false_eq_true, if_false, if_pos hi1, if_pos hi0, rd55 l i hil, hnx]
          by_cases c : l[i].f0.toList = f.f0.toList
          · rw [if_pos (show nm l[i] = nm f from c)] at h3
            simp only [if_pos c]
            exact ih' _ _ (by omega) h3
          rw [if_neg (show ¬ nm l[i] = nm f from c)] at h3
          simp only [if_neg c, if_pos (show out.length < 2199023255552 by omega)]
          exact ih' _ _ (by simp; omega) h3
        have g' : Op.bytesLess l[i].f0.toList f.f0.toList = false := Bool.eq_false_iff.2 g
        rw [if_neg g] at h3
        simp only [g', Bool.not_false, spec_l03Put.j1, if_true, if_pos hi1, if_pos hi0, rd55 l i hil, hnx, if_pos (show out.length < 2199023255552 by omega), Option.bind_some]
        by_cases c : l[i].f0.toList = f.f0.toList
        · rw [if_pos (show nm l[i] = nm f from c)] at h3
          simp only [if_pos c]
          exact ih' _ _ (by simp; omega) h3
        rw [if_neg (show ¬ nm l[i] = nm f from c)] at h3
        have hlen : (out ++ [(⟨f.f0, f.f1, f.f2⟩ : S55)]).length < 2199023255552 := by simp; omega
        simp only [if_neg c, if_pos hlen]
        exact ih' _ _ (by simp; omega) h3
  have := key l.length 0 rfl false [] (by simp) (by rw [List.drop_zero, putGo_false]; rfl)
  unfold spec_l03Put.f
  exact this
theorem wfD_le' {l : List S55} (hw : wfD l) : ∀ y ∈ l, y.f1.length ≤ 100000000 ∧ y.f2.length ≤ 100000000 := fun y hy => by have := hw y hy; omega
theorem content_ok {l : List S55} {a : ByteArray} (h : (contentM l a).2 = true) : diskM l = true ∧ ¬ idxF (isN a) l 0 < 0 ∧ (contentM l a).1 = (rd_T55 l (idxF (isN a) l 0)).f1 ++ (rd_T55 l (idxF (isN a) l 0)).f2 := by
  unfold contentM at h ⊢
  by_cases h1 : diskM l = true
  · rw [if_pos h1] at h ⊢
    by_cases h2 : idxF (isN a) l 0 < 0
    · rw [if_pos h2] at h; cases h
    rw [if_neg h2]; exact ⟨h1, h2, rfl⟩
  rw [if_neg h1] at h; cases h
theorem content_no {l : List S55} {a : ByteArray} (h : ¬ (contentM l a).2 = true) : diskM l = true → idxF (isN a) l 0 < 0 := by
  intro h1
  refine Decidable.byContradiction fun h2 => h ?_
  unfold contentM
  rw [if_pos h1, if_neg h2]
theorem idx_at (l : List S55) (a : ByteArray) (h : ¬ idxF (isN a) l 0 < 0) : ∃ (m : Nat) (x : S55), idxF (isN a) l 0 = m ∧ l[m]? = some x ∧ nm x = a.toList ∧ m < l.length := by
  rcases idxF_at (isN a) l 0 with ⟨h1, _⟩ | ⟨m, x, h1, h2, h3, _⟩
  · omega
  exact ⟨m, x, by omega, h2, by simpa [isN, nm] using h3, (List.getElem?_eq_some_iff.1 h2).1⟩
theorem put_at {l : List S55} (hs : srt l) (f : S55) (m : Nat) (x : S55) (hx : l[m]? = some x) (hn : nm x = f.f0.toList) : putM l f = l.set m f := by
  have hb : ∀ y ∈ l.take m, lessN f.f0 y = true := by
    intro y hy
    obtain ⟨j, hj⟩ := List.mem_iff_getElem?.1 hy
    rw [List.getElem?_take] at hj
    split at hj
    · have := hs j m (by omega) y x hj hx
      rw [hn] at this
      exact this
    cases hj
  have ha : ∀ y ∈ l.drop (m + 1), notN f.f0 y = true := by
    intro y hy
    obtain ⟨j, hj⟩ := List.mem_iff_getElem?.1 hy
    rw [List.getElem?_drop] at hj
    have := lt_ne (hs m (m + 1 + j) (by omega) x y hx hj)
    simp only [notN, isN, Bool.not_eq_true', beq_eq_false_iff_ne]
    rw [← hn]; exact fun e => this e.symm
  have hx0 : lessN f.f0 x = false := by unfold lessN; rw [hn, lt_irr]
  have hx1 : notN f.f0 x = false := by unfold notN isN; rw [Bool.not_eq_false', beq_iff_eq]; exact hn
  have hm := (List.getElem?_eq_some_iff.1 hx).1
  unfold putM
  have e1 : l.takeWhile (lessN f.f0) = l.take m := by
    conv => lhs; rw [split_at l m x hx]
    rw [List.takeWhile_append_of_pos hb, List.takeWhile_cons_of_neg (by rw [hx0]; decide), List.append_nil]
  have e2 : l.dropWhile (lessN f.f0) = x :: l.drop (m + 1) := by
    conv => lhs; rw [split_at l m x hx]
    rw [List.dropWhile_append_of_pos hb, List.dropWhile_cons_of_neg (by rw [hx0]; decide)]
  rw [e1, e2, List.filter_cons, if_neg (by rw [hx1]; decide), filter_all ha, List.set_eq_take_append_cons_drop, if_pos hm]
theorem mem_set {l : List S55} {m : Nat} {f y : S55} (h : y ∈ l.set m f) : y = f ∨ y ∈ l := (List.mem_or_eq_of_mem_set h).symm
theorem content_at (l : List S55) (hw : wfD l) (i : Int) (h0 : 0 ≤ i) (h1 : i < l.length) : impl_File_content.f (rd_T55 l i).f0 (rd_T55 l i).f1 (rd_T55 l i).f2 = some ((rd_T55 l i).f1 ++ (rd_T55 l i).f2) := by
  have hr := at_bd l hw i h0 h1
  unfold impl_File_content.f
  rw [Option.bind_some, if_pos (lt47 _ _ (by simp) (by omega)), Option.bind_some, if_pos (lt47 _ _ (by simp; omega) (by omega)), List.nil_append]
end Go.Proofs.YtcgojdhbphocgaaDoor.DK
