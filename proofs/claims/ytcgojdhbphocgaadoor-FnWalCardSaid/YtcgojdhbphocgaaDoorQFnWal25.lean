/- Merged texts below the law FnWal: Go functions as Lean functions, their contracts, and plain lemmas. -/
import Derived.Test.YtcgojdhbphocgaaDoorQFnWal23
import Derived.Test.YtcgojdhbphocgaaDoorQFnWal24
import Derived.BigQuiet
import Derived.Deep.DeepCutAuto
import Derived.Test.YtcgojdhbphocgaaDoorQFnWal14
import Derived.Lib.SliceRun
import Derived.Deep.RegionLaw
import Derived.Lib.Overlaps
import Derived.Laws.Externs
import Derived.Laws.IdiomCopy
namespace Go.Proofs.YtcgojdhbphocgaaDoor.F
open Go.RowKit Go.Proofs.YtcgojdhbphocgaaDoorW.PrintWords Go.Proofs.YtcgojdhbphocgaaDoorW.PrintLast Go.Proofs.YtcgojdhbphocgaaDoorW.PrintMore
open Go.Proofs.YtcgojdhbphocgaaDoor
set_option linter.unusedVariables false
set_option linter.unusedSimpArgs false
def spec_l03Copy.l0 : Nat → Int → List (S55) → List (S55) → Option ((List (S55)))
  | 0, _, _, _ => none
  | k + 1, x4, x, y => if x4 < (x.length : Int) then (if 0 ≤ x4 then ((spec_l01Bytes.f k ((rd_T55 x x4).f1)).bind fun t270 => ((spec_l01Bytes.f k ((rd_T55 x x4).f2)).bind fun t273 => (if y.length < 2199023255552 then (spec_l03Copy.l0 k (wrap64 (x4 + 1)) x (y ++ [(⟨(rd_T55 x x4).f0, t270, t273⟩ : S55)])) else (none)))) else (none)) else (some y)
def spec_l03Copy.f (k : Nat) (l0_0 : List (S55)) : Option ((List (S55))) := spec_l03Copy.l0 k 0 l0_0 ([] : List (S55))
set_option maxHeartbeats 8000000 in
set_option maxRecDepth 100000 in
theorem spec_l03Copy.calls (k : Nat) (A0_0 : Option Addr) (c0_0 : Nat) (l0_0 : List (S55)) (r : List (S55)) (w : World) (hr0_0 : Kd.C k55 w A0_0 l0_0.length l0_0) (hc0_0 : l0_0.length ≤ c0_0) (h : spec_l03Copy.f k l0_0 = some r) :
    Calls Tryd.prog 54 #[.agg #[.slice A0_0 l0_0.length c0_0]] w fun e w' => ∃ v0_ : Value, e = .returned (.agg #[v0_]) ∧ Kd.S k55 55 w' w.heap.size (fun _ => True) v0_ r ∧ Below w.heap.size w w' := by
  have HR := Zh hr0_0
  clear hr0_0 hc0_0
  have ST := Zh (LW.St.start w)
  have hu28 := Tryd.underlying28
  have hu55 := Tryd.underlying55
  have H := Zh (show spec_l03Copy.l0 k 0 l0_0 [] = some r from h)
  clear h
  go_enter Tryd.func54, Tryd.ntmps54
  go_wp2_with fail
  replace ST := Zh (ST.out.alloc #[.slice A0_0 l0_0.length c0_0] 28 (g := w.heap.size) rfl)
  replace ST := Zh (ST.out.alloc #[.slice none 0 0] 28 (g := w.heap.size + 1) (by simp))
  replace ST := Zh (ST.out.alloc #[.slice none 0 0] 28 (g := w.heap.size + 2) (by simp))
  replace ST := Zh (ST.out.row (d := k55) (e := 55) (xs := []) (Below.refl _ _) (Kd.S_nil _ _ _ _ (fun _ => True)))
  generalize hW : (((w.alloc (.cells #[.slice A0_0 l0_0.length c0_0] 28)).alloc (.cells #[.slice none 0 0] 28)).alloc (.cells #[.slice none 0 0] 28)) = W at ST ⊢
  clear hW
  go_loopg [4] k (fun kq vv w' => ∃ (x4 : Int) (y : List S55) (F : Nat → Prop) (Ao : Option Addr) (co : Nat), vv = .int .i64 x4 ∧ Aside0 (spec_l03Copy.l0 kq x4 l0_0 y = some r) ∧ Aside0 (LW.St w w' [LW.row k55 55 w.heap.size (.slice Ao y.length co) y F, LW.box (w.heap.size + 2) #[.slice Ao y.length co] 28, LW.box (w.heap.size + 1) #[.slice none 0 0] 28, LW.box w.heap.size #[.slice A0_0 l0_0.length c0_0] 28]))
  case atStart => exact ⟨0, [], _, none, 0, rfl, H, ST⟩
  case round =>
    clear H ST
    obtain ⟨x4, y, F, Ao, co, rfl, HA, ST⟩ := hrel
    cases gk with
    | zero => exact absurd HA.out (by simp [spec_l03Copy.l0])
    | succ k1 =>
      have H := HA.out
      clear HA
      simp only [spec_l03Copy.l0, Option.bind_some] at H
      have hc0 := ST.out.cell 3 rfl 0 (u := .slice A0_0 l0_0.length c0_0) rfl
      have hl0 := ST.out.lt 3 rfl
      by_cases c8 : x4 < (l0_0.length : Int)
      · rw [if_pos c8] at H
        have q8 := decide_eq_true c8
        by_cases p0 : 0 ≤ x4
        · rw [if_pos p0] at H
          obtain ⟨b1, HT1, H⟩ := Option.bind_eq_some_iff.mp H
          obtain ⟨b2, HT2, H⟩ := Option.bind_eq_some_iff.mp H
          replace HT1 := Zh HT1
          replace HT2 := Zh HT2
          by_cases cm : y.length < 2199023255552
          · rw [if_pos cm] at H
            have HLM := Zh cm
            have H' := Zh H
            clear H cm
            obtain ⟨ad, B1, d1, B2, d2, e, E0, E1, E2, g1, g2, g3, g4⟩ := at_T55 HR.out x4 p0 c8
            cases e
            have hx0 := (ST.out.b.cell (Zi w _ E0)).trans E0
            have hx1 := (ST.out.b.cell (Zi w _ E1)).trans E1
            have hx2 := (ST.out.b.cell (Zi w _ E2)).trans E2
            have HR1 := Zh g2
            have HR2 := Zh g4
            have HC1 := Zh g1
            have HC2 := Zh g3
            have p1 := eq_true p0
            have p2 := eq_true c8
            clear E0 E1 E2 p0 c8 g1 g2 g3 g4
            go_wp2_with fail
            replace ST := Zh (ST.out.alloc #[.string (rd_T55 l0_0 x4).f0, .slice B1 (rd_T55 l0_0 x4).f1.length d1, .slice B2 (rd_T55 l0_0 x4).f2.length d2] 55 (g := wr.heap.size) rfl)
            clear hx0 hx1 hx2 hc0 hl0
            replace ST := Zh ST.out.drew
            refine start_ (n := 15) (S := fun w' => w'.cell? ⟨w.heap.size + 2, 0, none⟩ = some (.slice Ao y.length co) ∧ w'.cell? ⟨wr.heap.size, 0, none⟩ = some (.string (rd_T55 l0_0 x4).f0) ∧ w'.cell? ⟨wr.heap.size, 1, none⟩ = some (.slice B1 (rd_T55 l0_0 x4).f1.length d1) ∧ w'.cell? ⟨wr.heap.size, 2, none⟩ = some (.slice B2 (rd_T55 l0_0 x4).f2.length d2)) (ds := [12, 14]) #[false, false, false, false, false, false, false, false, false, false, false, false, false, false, false] (by kernel_rfl) rfl rfl ⟨ST.out.cell 2 rfl 0 rfl, ST.out.cell 0 rfl 0 rfl, ST.out.cell 0 rfl 1 rfl, ST.out.cell 0 rfl 2 rfl⟩ (fun hHeld => ?_)
            generalize (wr.alloc (.cells #[.string (rd_T55 l0_0 x4).f0, .slice B1 (rd_T55 l0_0 x4).f1.length d1, .slice B2 (rd_T55 l0_0 x4).f2.length d2] 55)).drew = w8 at ST hHeld ⊢
            refine SQ.p0 0 19 ?_
            refine SQ.p0 2 21 ?_
            refine SQ.p0 4 23 ?_
            refine SQ.p0 7 26 ?_
            refine SQ.t0 1 20 hHeld ?_
            refine SQ.t0 3 22 hHeld ?_
            refine SQ.t0 5 24 hHeld ?_
            refine SQ.t0 8 27 hHeld ?_
            refine one_ (i := 6) (N := some 25) #[true, true, true, true, true, true, true, true, true, false, false, false, false, false, false] rfl rfl (by kernel_rfl) (by decide) (fun K hK => ?_)
            refine goes_ Tryd.func87 (by kernel_rfl) rfl #[.slice B1 (rd_T55 l0_0 x4).f1.length d1] (by rfl) rfl rfl (by (try simp only [List.map_toArray, List.map_cons, List.map_nil]); first | done | rfl) ?_
            with_reducible refine (spec_l01Bytes.calls k1 _ _ (rd_T55 l0_0 x4).f1 b1 _ (Kd.C_below HR1.out ST.out.b) HC1.out HT1.out).mono ?_
            rintro e w9 ⟨v1, rfl, q1, q2⟩
            refine ⟨_, rfl, ?_⟩
            obtain ⟨A5, c5, rfl⟩ := Kd.R_slice q1
            replace ST := Zh (ST.out.rowR rfl q2 q1)
            clear q1 q2 hHeld
            refine hK.out _ _ ⟨ST.out.cell 3 rfl 0 rfl, ST.out.cell 1 rfl 0 rfl, ST.out.cell 1 rfl 1 rfl, ST.out.cell 1 rfl 2 rfl⟩ (fun hHeld => ?_)
            clear hK K
            refine norm_ (a' := ?_) ?_ ?_
            rotate_left
            · show Act.put _ (some 25) _ = _
              simp only [Act.put, List.setIfInBounds_toArray, List.set_cons_zero, List.set_cons_succ, i64_w, i32_w]
              rfl
            refine one_ (i := 9) (N := some 28) #[true, true, true, true, true, true, true, true, true, true, false, false, false, false, false] rfl rfl (by kernel_rfl) (by decide) (fun K hK => ?_)
            refine goes_ Tryd.func87 (by kernel_rfl) rfl #[.slice B2 (rd_T55 l0_0 x4).f2.length d2] (by rfl) rfl rfl (by (try simp only [List.map_toArray, List.map_cons, List.map_nil]); first | done | rfl) ?_
            with_reducible refine (spec_l01Bytes.calls k1 _ _ (rd_T55 l0_0 x4).f2 b2 _ (Kd.C_below HR2.out ST.out.b) HC2.out HT2.out).mono ?_
            rintro e w10 ⟨v1, rfl, q1, q2⟩
            refine ⟨_, rfl, ?_⟩
            obtain ⟨A6, c6, rfl⟩ := Kd.R_slice q1
            replace ST := Zh (ST.out.rowR rfl q2 q1)
            clear q1 q2 hHeld
            refine hK.out _ _ ⟨ST.out.cell 4 rfl 0 rfl, ST.out.cell 2 rfl 0 rfl, ST.out.cell 2 rfl 1 rfl, ST.out.cell 2 rfl 2 rfl⟩ (fun hHeld => ?_)
            clear hK K
            refine norm_ (a' := ?_) ?_ ?_
            rotate_left
            · show Act.put _ (some 28) _ = _
              simp only [Act.put, List.setIfInBounds_toArray, List.set_cons_zero, List.set_cons_succ, i64_w, i32_w]
              rfl
            refine SQ.p0 10 29 ?_
            refine one_ (i := 11) (N := some 30) #[true, true, true, true, true, true, true, true, true, true, true, true, false, false, false] rfl rfl (by kernel_rfl) (by decide) (fun K hK => ?_)
            refine value_ (w1 := ?_) (v := ?_) (by rfl) rfl ?_ ?_
            rotate_left 2
            · go_simp
              constructor
              · rfl
              rfl
            refine hK.out _ _ ⟨(World.cell?_alloc_lt _ _ _ (Zi _ _ hHeld.1)).trans hHeld.1, (World.cell?_alloc_lt _ _ _ (Zi _ _ hHeld.2.1)).trans hHeld.2.1, (World.cell?_alloc_lt _ _ _ (Zi _ _ hHeld.2.2.1)).trans hHeld.2.2.1, (World.cell?_alloc_lt _ _ _ (Zi _ _ hHeld.2.2.2)).trans hHeld.2.2.2⟩ (fun hHeld => ?_)
            clear hK K
            refine norm_ (a' := ?_) ?_ ?_
            rotate_left
            · show Act.put _ (some 30) _ = _
              simp only [Act.put, List.setIfInBounds_toArray, List.set_cons_zero, List.set_cons_succ, i64_w, i32_w]
              rfl
            obtain ⟨a1, a2, a3, a4⟩ := St_app2 ST.out 3 1 0 (by decide) (by decide) (by decide) rfl rfl rfl (rd_T55 l0_0 x4).f0
            have HB4 := Zh a4
            clear a4
            refine last_ (i := 12) (N := some 31) #[true, true, true, true, true, true, true, true, true, true, true, true, true, false, false] rfl rfl (by kernel_rfl) (by decide) (fun K hK => ?_)
            refine Kd.S_append_step k55 (w0 := w) w.heap.size (by rfl) (.tmp 20) (.tmp 30) 26 55 (.agg #[(.string ⟨#[]⟩), (.slice none 0 0), (.slice none 0 0)]) 64 rfl Tryd.underlying26 info55 rfl (by decide) (by omega) (.slice Ao y.length co) y (⟨(rd_T55 l0_0 x4).f0, b1, b2⟩ : S55) [.string (rd_T55 l0_0 x4).f0, .slice A5 b1.length c5, .slice A6 b2.length c6] _ _ (by rfl) (by rfl) a2 a3 (fun k hk => .inr (.inr (.inr hk))) a1 ST.out.b ST.out.b.size (by have := HLM.out; omega) ?_
            intro v1 w2 q1 q2 q3 _
            obtain ⟨A3, c3, hv⟩ := Kd.S_slice q1
            rw [List.length_append] at hv
            subst hv
            have ST2 := Zh (HB4.out _ w2 q1 q2 q3)
            have hs1 := ST2.out.cell 4 rfl 0 (u := .slice Ao y.length co) rfl
            have hf1 := ST2.out.frozen 4 rfl 0
            have hl1 := ST2.out.lt 4 rfl
            clear q1 q2 q3 hHeld a1 a2 a3
            refine hK.out _ _ ?_
            clear hK K
            refine norm_ (a' := ?_) ?_ ?_
            rotate_left
            · show Act.put _ (some 31) _ = _
              simp only [Act.put, List.setIfInBounds_toArray, List.set_cons_zero, List.set_cons_succ, i64_w, i32_w]
              rfl
            refine SQ.p0 13 32 ?_
            refine last_ (i := 14) (N := none) #[true, true, true, true, true, true, true, true, true, true, true, true, true, true, true] rfl rfl (by kernel_rfl) (by decide) (fun K hK => ?_)
            refine skip_ (w1 := ?_) (by rfl) rfl ?_ ?_
            rotate_left
            · go_simp
              rfl
            refine hK.out _ _ ?_
            clear hK K
            refine done_ (by kernel_rfl) ?_
            go_wp2
            replace ST := Zh (ST2.out.set 4 rfl 0 (.slice A3 (y.length + 1) c3)).tail.tail.tail
            go_roundg k1
            case measure => omega
            case rel => exact ⟨_, _, _, A3, c3, rfl, H', by rw [List.length_append]; exact ST⟩
          rw [if_neg cm] at H; exact absurd H (by simp)
        rw [if_neg p0] at H; exact absurd H (by simp)
      rw [if_neg c8] at H
      have q8 := decide_eq_false c8
      obtain rfl := Option.some.inj H
      clear H c8
      have hc4 := ST.out.cell 1 rfl 0 (u := .slice Ao y.length co) rfl
      have hc6 := ST.out.cell 2 rfl 0 (u := .slice none 0 0) rfl
      have hl6 := ST.out.lt 2 rfl
      have hf6 := ST.out.frozen 2 rfl 0
      go_wp2
      replace ST := Zh (ST.out.set 2 rfl 0 (.slice Ao y.length co))
      refine Zq (results_cell_row rfl _ _ (w.heap.size + 1) 28 #[.slice Ao y.length co] (0, 0) _ rfl (ST.out.blk 2 rfl) Tryd.underlying28 rfl (by kernel_rfl)) rfl ?_
      exact ⟨_, rfl, Kd.S_mono (ST.out.own 0 rfl) (fun _ _ => trivial), ST.out.b⟩
mutual
def spec_l03Put.l0 : Nat → Bool → Int → List (S55) → ByteArray → List Int → List Int → List (S55) → Option ((List (S55)))
  | 0, _, _, _, _, _, _, _ => none
  | k + 1, x6, x7, x, a, u, v, y => if x7 < (x.length : Int) then (if x6 = true then (spec_l03Put.j1 k x6 x7 false x a u v y) else (if 0 ≤ x7 then (spec_l03Put.j1 k x6 x7 (!(Op.bytesLess (((rd_T55 x x7).f0).toList) a.toList)) x a u v y) else (none))) else (if x6 = true then ((spec_l03Copy.f k y).bind fun t301 => (some t301)) else (if y.length < 2199023255552 then ((spec_l03Copy.f k (y ++ [(⟨a, u, v⟩ : S55)])).bind fun t307 => (some t307)) else (none)))
def spec_l03Put.j1 : Nat → Bool → Int → Bool → List (S55) → ByteArray → List Int → List Int → List (S55) → Option ((List (S55)))
  | 0, _, _, _, _, _, _, _, _ => none
  | k + 1, x6, x7, x28, x, a, u, v, y => if x28 = true then (if y.length < 2199023255552 then ((some (y ++ [(⟨a, u, v⟩ : S55)] : List (S55))).bind fun y311 => (if 0 ≤ x7 then (if x7 < (x.length : Int) then (if ((rd_T55 x x7).f0).toList = a.toList then (spec_l03Put.l0 k true (wrap64 (x7 + 1)) x a u v y311) else (if y311.length < 2199023255552 then (spec_l03Put.l0 k true (wrap64 (x7 + 1)) x a u v (y311 ++ [rd_T55 x x7])) else (none))) else (none)) else (none))) else (none)) else (if 0 ≤ x7 then (if x7 < (x.length : Int) then (if ((rd_T55 x x7).f0).toList = a.toList then (spec_l03Put.l0 k x6 (wrap64 (x7 + 1)) x a u v y) else (if y.length < 2199023255552 then (spec_l03Put.l0 k x6 (wrap64 (x7 + 1)) x a u v (y ++ [rd_T55 x x7])) else (none))) else (none)) else (none))
end
def spec_l03Put.f (k : Nat) (l0_0 : List (S55)) (a1_0 : ByteArray) (l1_1 : List Int) (l1_2 : List Int) : Option ((List (S55))) := spec_l03Put.l0 k false 0 l0_0 a1_0 l1_1 l1_2 ([] : List (S55))
set_option maxHeartbeats 8000000 in
set_option maxRecDepth 100000 in
theorem spec_l03Put.calls (k : Nat) (A0_0 : Option Addr) (c0_0 : Nat) (l0_0 : List (S55)) (a1_0 : ByteArray) (A1_1 : Option Addr) (c1_1 : Nat) (l1_1 : List Int) (A1_2 : Option Addr) (c1_2 : Nat) (l1_2 : List Int) (r : List (S55)) (w : World) (hr0_0 : Kd.C k55 w A0_0 l0_0.length l0_0) (hc0_0 : l0_0.length ≤ c0_0) (hr1_1 : Kd.C (Kd.int .u8) w A1_1 l1_1.length l1_1) (hc1_1 : l1_1.length ≤ c1_1) (hr1_2 : Kd.C (Kd.int .u8) w A1_2 l1_2.length l1_2) (hc1_2 : l1_2.length ≤ c1_2) (h : spec_l03Put.f k l0_0 a1_0 l1_1 l1_2 = some r) :
    Calls Tryd.prog 77 #[.agg #[.slice A0_0 l0_0.length c0_0], .agg #[.string a1_0, .slice A1_1 l1_1.length c1_1, .slice A1_2 l1_2.length c1_2]] w fun e w' => ∃ v0_ : Value, e = .returned (.agg #[v0_]) ∧ Kd.S k55 55 w' w.heap.size (fun _ => True) v0_ r ∧ Below w.heap.size w w' := by
  have HR := Zh hr0_0
  have HKf := Zh (k55_mk w (⟨a1_0, l1_1, l1_2⟩ : S55) hc1_1 hr1_1 hc1_2 hr1_2)
  clear hr0_0 hc0_0 hr1_1 hc1_1 hr1_2 hc1_2
  have ST := Zh (LW.St.start w)
  have hu28 := Tryd.underlying28
  have hu55 := Tryd.underlying55
  have H := Zh (show spec_l03Put.l0 k false 0 l0_0 a1_0 l1_1 l1_2 [] = some r from h)
  clear h
  go_enter Tryd.func77, Tryd.ntmps77
  go_wp2_with fail
  replace ST := Zh (ST.out.alloc #[.slice A0_0 l0_0.length c0_0] 28 (g := w.heap.size) rfl)
  replace ST := Zh (ST.out.alloc #[.string a1_0, .slice A1_1 l1_1.length c1_1, .slice A1_2 l1_2.length c1_2] 55 (g := w.heap.size + 1) (by simp))
  replace ST := Zh (ST.out.alloc #[.slice none 0 0] 28 (g := w.heap.size + 2) (by simp))
  replace ST := Zh (ST.out.alloc #[.slice none 0 0] 28 (g := w.heap.size + 3) (by simp))
  replace ST := Zh (LW.St.pick0 (d := k55) (e := 55) (B := w.heap.size) ST.out)
  generalize hW : ((((w.alloc (.cells #[.slice A0_0 l0_0.length c0_0] 28)).alloc (.cells #[.string a1_0, .slice A1_1 l1_1.length c1_1, .slice A1_2 l1_2.length c1_2] 55)).alloc (.cells #[.slice none 0 0] 28)).alloc (.cells #[.slice none 0 0] 28)) = W at ST ⊢
  clear hW
  go_loopg [6, 7] k (fun kq v6 v7 w' => ∃ (x6 : Bool) (x7 : Int) (y : List S55) (Ao : Option Addr) (co : Nat), v6 = .bool x6 ∧ v7 = .int .i64 x7 ∧ Aside0 (spec_l03Put.l0 kq x6 x7 l0_0 a1_0 l1_1 l1_2 y = some r) ∧ Aside0 (LW.St w w' [LW.pick k55 55 w.heap.size w (.slice Ao y.length co) y, LW.box (w.heap.size + 3) #[.slice Ao y.length co] 28, LW.box (w.heap.size + 2) #[.slice none 0 0] 28, LW.box (w.heap.size + 1) #[.string a1_0, .slice A1_1 l1_1.length c1_1, .slice A1_2 l1_2.length c1_2] 55, LW.box w.heap.size #[.slice A0_0 l0_0.length c0_0] 28]))
  case atStart => exact ⟨false, 0, [], none, 0, rfl, rfl, H, ST⟩
  case round =>
    clear H ST
    obtain ⟨x6, x7, y, Ao, co, rfl, rfl, HA, ST⟩ := hrel
    cases gk with
    | zero => exact absurd HA.out (by simp [spec_l03Put.l0])
    | succ k1 =>
      have H := HA.out
      clear HA
      simp only [spec_l03Put.l0] at H
      have hc0 := ST.out.cell 4 rfl 0 (u := .slice A0_0 l0_0.length c0_0) rfl
      have hc1 := ST.out.cell 3 rfl 0 (u := .string a1_0) rfl
      have hc2 := ST.out.cell 3 rfl 1 (u := .slice A1_1 l1_1.length c1_1) rfl
      have hc3 := ST.out.cell 3 rfl 2 (u := .slice A1_2 l1_2.length c1_2) rfl
      have hc4 := ST.out.cell 1 rfl 0 (u := .slice Ao y.length co) rfl
      have hl0 := ST.out.lt 4 rfl
      have hl3 := ST.out.lt 3 rfl
      have hl4 := ST.out.lt 1 rfl
      by_cases c7 : x7 < (l0_0.length : Int)
      · rw [if_pos c7] at H
        have q7 := decide_eq_true c7
        have hb : ∃ b : Bool, spec_l03Put.j1 k1 x6 x7 b l0_0 a1_0 l1_1 l1_2 y = some r ∧ (x6 = true → b = false) ∧ (x6 = false → 0 ≤ x7 ∧ b = !(Op.bytesLess (rd_T55 l0_0 x7).f0.toList a1_0.toList)) := by
          by_cases c : x6 = true
          · rw [if_pos c] at H
            exact ⟨false, H, fun _ => rfl, fun g => by rw [c] at g; cases g⟩
          rw [if_neg c] at H
          by_cases c0 : 0 ≤ x7
          · rw [if_pos c0] at H
            exact ⟨_, H, fun g => absurd g c, fun _ => ⟨c0, rfl⟩⟩
          rw [if_neg c0] at H
          exact absurd H (by simp)
        clear H
        obtain ⟨b, HJ, hbt, hbf⟩ := hb
        replace HJ := Zh HJ
        go_upto_region 6 with fail
        go_cut [28] (fun v28 wc => v28 = .bool b ∧ Aside0 (LW.St w wc [LW.pick k55 55 w.heap.size w (.slice Ao y.length co) y, LW.box (w.heap.size + 3) #[.slice Ao y.length co] 28, LW.box (w.heap.size + 2) #[.slice none 0 0] 28, LW.box (w.heap.size + 1) #[.string a1_0, .slice A1_1 l1_1.length c1_1, .slice A1_2 l1_2.length c1_2] 55, LW.box w.heap.size #[.slice A0_0 l0_0.length c0_0] 28]))
        case first =>
          cases x6 with
          | true =>
            obtain rfl := hbt rfl
            clear hbt hbf
            go_quiet (fail)
            go_wp2
            go_meet
            case rel => exact ⟨rfl, ⟨ST.out.drewN _⟩⟩
          | false =>
            obtain ⟨p0, rfl⟩ := hbf rfl
            clear hbt hbf
            obtain ⟨ad, B1, d1, B2, d2, e, E0, E1, E2, g1, g2, g3, g4⟩ := at_T55 HR.out x7 p0 c7
            have HKd := Zh (k55_mk w (rd_T55 l0_0 x7) g1 g2 g3 g4)
            cases e
            have hx0 := (ST.out.b.cell (Zi w _ E0)).trans E0
            have hx1 := (ST.out.b.cell (Zi w _ E1)).trans E1
            have hx2 := (ST.out.b.cell (Zi w _ E2)).trans E2
            have HE0 := Zh E0
            have HE1 := Zh E1
            have HE2 := Zh E2
            clear E0 E1 E2 g1 g2 g3 g4
            have p1 := eq_true p0
            have p2 := eq_true c7
            clear p0 c7
            go_quiet (fail)
            go_wp2
            go_meet
            case rel => exact ⟨rfl, ⟨ST.out.drewN _⟩⟩
        case rest =>
        obtain ⟨rfl, STc⟩ := hcut
        clear ST hbt hbf
        clear hc0 hc1 hc2 hc3 hc4 hl0 hl3 hl4
        have ST := STc
        clear STc
        have H := HJ.out
        clear HJ
        cases k1 with
        | zero => exact absurd H (by simp [spec_l03Put.j1])
        | succ k2 =>
          simp only [spec_l03Put.j1, Option.bind_some] at H
          have hj : ∃ (z6 : Bool) (z : List S55), (b = true → y.length < 2199023255552 ∧ z6 = true ∧ z = y ++ [(⟨a1_0, l1_1, l1_2⟩ : S55)]) ∧ (b = false → z6 = x6 ∧ z = y) ∧ (if 0 ≤ x7 then (if x7 < (l0_0.length : Int) then (if ((rd_T55 l0_0 x7).f0).toList = a1_0.toList then (spec_l03Put.l0 k2 z6 (wrap64 (x7 + 1)) l0_0 a1_0 l1_1 l1_2 z) else (if z.length < 2199023255552 then (spec_l03Put.l0 k2 z6 (wrap64 (x7 + 1)) l0_0 a1_0 l1_1 l1_2 (z ++ [rd_T55 l0_0 x7])) else (none))) else (none)) else (none)) = some r := by
            cases b with
            | true =>
              rw [if_pos rfl] at H
              by_cases c : y.length < 2199023255552
              · rw [if_pos c] at H
                exact ⟨true, _, fun _ => ⟨c, rfl, rfl⟩, fun g => absurd g (by decide), H⟩
              rw [if_neg c] at H
              exact absurd H (by simp)
            | false =>
              rw [if_neg (by decide)] at H
              exact ⟨x6, y, fun g => absurd g (by decide), fun _ => ⟨rfl, rfl⟩, H⟩
          clear H
          obtain ⟨z6, z, hzt, hzf, H⟩ := hj
          have H' := Zh H
          clear H
          have hc0 := ST.out.cell 4 rfl 0 (u := .slice A0_0 l0_0.length c0_0) rfl
          have hc1 := ST.out.cell 3 rfl 0 (u := .string a1_0) rfl
          have hc2 := ST.out.cell 3 rfl 1 (u := .slice A1_1 l1_1.length c1_1) rfl
          have hc3 := ST.out.cell 3 rfl 2 (u := .slice A1_2 l1_2.length c1_2) rfl
          have hc4 := ST.out.cell 1 rfl 0 (u := .slice Ao y.length co) rfl
          have hl0 := ST.out.lt 4 rfl
          have hl3 := ST.out.lt 3 rfl
          have hl4 := ST.out.lt 1 rfl
          go_upto_if 28 with fail
          go_cut [6] (fun v6 wd => ∃ (Ao : Option Addr) (co : Nat), v6 = .bool z6 ∧ Aside0 (LW.St w wd [LW.pick k55 55 w.heap.size w (.slice Ao z.length co) z, LW.box (w.heap.size + 3) #[.slice Ao z.length co] 28, LW.box (w.heap.size + 2) #[.slice none 0 0] 28, LW.box (w.heap.size + 1) #[.string a1_0, .slice A1_1 l1_1.length c1_1, .slice A1_2 l1_2.length c1_2] 55, LW.box w.heap.size #[.slice A0_0 l0_0.length c0_0] 28]))
          case first =>
            cases b with
            | true =>
              obtain ⟨hlm, rfl, rfl⟩ := hzt rfl
              have HLM := Zh hlm
              clear hzt hzf hlm
              obtain ⟨rows, hrl, hrow, back⟩ := ST.out.picked 0 rfl
              have HRL := Zh hrl
              have HRW := Zh hrow
              have BK := Zh back
              clear hrl hrow back
              go_wp2_with ((with_reducible refine gate_builtin (b := .append) (xs := #[.tmp 30, .tmp 32]) rfl ?_); at_builtin; refine Kd.R_append (Kd.raw 3) (w0 := w) w.heap.size rfl (.tmp 30) (.tmp 32) 26 55 (.agg #[(.string ⟨#[]⟩), (.slice none 0 0), (.slice none 0 0)]) 64 rfl Tryd.underlying26 info55 rfl (by decide) (by omega) (.slice Ao y.length co) rows [.string a1_0, .slice A1_1 l1_1.length c1_1, .slice A1_2 l1_2.length c1_2] [.string a1_0, .slice A1_1 l1_1.length c1_1, .slice A1_2 l1_2.length c1_2] (fun _ => True) (fun _ => False) rfl rfl ⟨rfl, rfl, k55.K_one HKf.out⟩ (fun _ h => h.elim) (fun _ _ => trivial) HRW.out ST.out.b ST.out.b.size (by have := HRL.out; have := HLM.out; omega) ?_; intro v1 w2 q1 q2 q3 q4; obtain ⟨A3, c3, hv⟩ := Kd.R_slice q1; rw [show (rows ++ [([.string a1_0, .slice A1_1 l1_1.length c1_1, .slice A1_2 l1_2.length c1_2] : List Value)]).length = y.length + 1 by simp [HRL.out]] at hv; subst hv; have ST2 := Zh (BK.out (⟨a1_0, l1_1, l1_2⟩ : S55) _ _ _ HKf.out q1 q2 q3 q4); have hs1 := ST2.out.cell 1 rfl 0 (u := .slice Ao y.length co) rfl; have hf1 := ST2.out.frozen 1 rfl 0; have hl1 := ST2.out.lt 1 rfl; clear hc0 hc1 hc2 hc3 hc4 hl0 hl3 hl4; clear q1 q2 q3 q4)
              replace ST := Zh (ST2.out.set 1 rfl 0 (.slice A3 (y.length + 1) c3))
              go_meet
              case rel => exact ⟨A3, c3, rfl, by rw [List.length_append]; exact ST⟩
            | false =>
              obtain ⟨rfl, rfl⟩ := hzf rfl
              clear hzt hzf
              go_wp2
              go_meet
              case rel => exact ⟨Ao, co, rfl, ST⟩
          case rest =>
          clear ST hzt hzf
          clear hc0 hc1 hc2 hc3 hc4 hl0 hl3 hl4
          obtain ⟨Ao, co, rfl, ST⟩ := hcut
          have H := H'.out
          clear H'
          by_cases p0 : 0 ≤ x7
          · rw [if_pos p0, if_pos c7] at H
            have hc0 := ST.out.cell 4 rfl 0 (u := .slice A0_0 l0_0.length c0_0) rfl
            have hc1 := ST.out.cell 3 rfl 0 (u := .string a1_0) rfl
            have hc2 := ST.out.cell 3 rfl 1 (u := .slice A1_1 l1_1.length c1_1) rfl
            have hc3 := ST.out.cell 3 rfl 2 (u := .slice A1_2 l1_2.length c1_2) rfl
            have hc4 := ST.out.cell 1 rfl 0 (u := .slice Ao z.length co) rfl
            have hl0 := ST.out.lt 4 rfl
            have hl3 := ST.out.lt 3 rfl
            have hl4 := ST.out.lt 1 rfl
            obtain ⟨ad, B1, d1, B2, d2, e, E0, E1, E2, g1, g2, g3, g4⟩ := at_T55 HR.out x7 p0 c7
            have HKd := Zh (k55_mk w (rd_T55 l0_0 x7) g1 g2 g3 g4)
            cases e
            have hx0 := (ST.out.b.cell (Zi w _ E0)).trans E0
            have hx1 := (ST.out.b.cell (Zi w _ E1)).trans E1
            have hx2 := (ST.out.b.cell (Zi w _ E2)).trans E2
            have HE0 := Zh E0
            have HE1 := Zh E1
            have HE2 := Zh E2
            clear E0 E1 E2 g1 g2 g3 g4
            have p1 := eq_true p0
            have p2 := eq_true c7
            clear p0 c7
            by_cases ceq : ((rd_T55 l0_0 x7).f0).toList = a1_0.toList
            · rw [if_pos ceq] at H
              have q9 : (((rd_T55 l0_0 x7).f0).toList == a1_0.toList) = true := beq_iff_eq.mpr ceq
              have H' := Zh H
              clear H ceq
              go_wp2_with fail
              go_quiet (fail)
              go_wp2
              go_roundg k2
              case measure => omega
              case rel => exact ⟨_, _, _, _, _, rfl, rfl, H', ⟨ST.out.drewN _⟩⟩
            rw [if_neg ceq] at H
            have q9 : (((rd_T55 l0_0 x7).f0).toList == a1_0.toList) = false := by rw [beq_eq_false_iff_ne]; exact ceq
            by_cases cm : z.length < 2199023255552
            · rw [if_pos cm] at H
              have HLM := Zh cm
              have H' := Zh H
              clear H ceq cm
              go_wp2_with fail
              go_quiet (fail)
              clear hc0 hc1 hc2 hc3 hc4 hl0 hl3 hl4
              replace ST := Zh (ST.out.drewN nq)
              generalize wc.drewN nq = w5 at ST ⊢
              clear hx0 hx1 hx2
              go_wp2_with fail
              replace ST := Zh ST.out.drew
              have hx0 := (ST.out.b.cell (Zi w _ HE0.out)).trans HE0.out
              have hx1 := (ST.out.b.cell (Zi w _ HE1.out)).trans HE1.out
              have hx2 := (ST.out.b.cell (Zi w _ HE2.out)).trans HE2.out
              refine start_ (n := 11) (S := fun w' => w'.cell? ⟨w.heap.size + 3, 0, none⟩ = some (.slice Ao z.length co) ∧ w'.cell? ⟨w.heap.size, 0, none⟩ = some (.slice (some ad) l0_0.length c0_0) ∧ w'.cell? (ad.add (x7.toNat * 3)) = some (.string (rd_T55 l0_0 x7).f0) ∧ w'.cell? ⟨(ad.add (x7.toNat * 3)).block, (ad.add (x7.toNat * 3)).off + 1, none⟩ = some (.slice B1 (rd_T55 l0_0 x7).f1.length d1) ∧ w'.cell? ⟨(ad.add (x7.toNat * 3)).block, (ad.add (x7.toNat * 3)).off + 2, none⟩ = some (.slice B2 (rd_T55 l0_0 x7).f2.length d2)) (ds := [8, 10]) #[false, false, false, false, false, false, false, false, false, false, false] (by kernel_rfl) rfl rfl ⟨ST.out.cell 1 rfl 0 rfl, ST.out.cell 4 rfl 0 rfl, hx0, hx1, hx2⟩ (fun hHeld => ?_)
              generalize w5.drew = w6 at ST hHeld hx0 hx1 hx2 ⊢
              refine SQ.p0 0 44 ?_
              refine SQ.p0 2 46 ?_
              refine SQ.p0 4 48 ?_
              refine SQ.t0 1 45 hHeld ?_
              refine SQ.t0 3 47 hHeld ?_
              refine SQ.p0 5 49 ?_
              refine SQ.t0 6 50 hHeld ?_
              refine one_ (i := 7) (N := some 51) #[true, true, true, true, true, true, true, true, false, false, false] rfl rfl (by kernel_rfl) (by decide) (fun K hK => ?_)
              refine value_ (w1 := ?_) (v := ?_) (by rfl) rfl ?_ ?_
              rotate_left 2
              · go_simp
                constructor
                · rfl
                rfl
              refine hK.out _ _ ⟨(World.cell?_alloc_lt _ _ _ (Zi _ _ hHeld.1)).trans hHeld.1, (World.cell?_alloc_lt _ _ _ (Zi _ _ hHeld.2.1)).trans hHeld.2.1, (World.cell?_alloc_lt _ _ _ (Zi _ _ hHeld.2.2.1)).trans hHeld.2.2.1, (World.cell?_alloc_lt _ _ _ (Zi _ _ hHeld.2.2.2.1)).trans hHeld.2.2.2.1, (World.cell?_alloc_lt _ _ _ (Zi _ _ hHeld.2.2.2.2)).trans hHeld.2.2.2.2⟩ (fun hHeld => ?_)
              clear hK K
              refine norm_ (a' := ?_) ?_ ?_
              rotate_left
              · show Act.put _ (some 51) _ = _
                simp only [Act.put, List.setIfInBounds_toArray, List.set_cons_zero, List.set_cons_succ, i64_w, i32_w]
                rfl
              obtain ⟨rows, hrl, hrow, back⟩ := ST.out.picked 0 rfl
              have HRL := Zh hrl
              have HRW := Zh hrow
              have BK := Zh back
              clear hrl hrow back
              refine last_ (i := 8) (N := some 52) #[true, true, true, true, true, true, true, true, true, false, false] rfl rfl (by kernel_rfl) (by decide) (fun K hK => ?_)
              refine Kd.R_append_step (Kd.raw 3) (w0 := w) w.heap.size (by rfl) (.tmp 45) (.tmp 51) 26 55 (.agg #[(.string ⟨#[]⟩), (.slice none 0 0), (.slice none 0 0)]) 64 rfl Tryd.underlying26 info55 rfl (by decide) (by omega) (.slice Ao z.length co) rows [.string (rd_T55 l0_0 x7).f0, .slice B1 (rd_T55 l0_0 x7).f1.length d1, .slice B2 (rd_T55 l0_0 x7).f2.length d2] [.string (rd_T55 l0_0 x7).f0, .slice B1 (rd_T55 l0_0 x7).f1.length d1, .slice B2 (rd_T55 l0_0 x7).f2.length d2] (fun _ => True) (fun _ => False) (by rfl) (by rfl) ⟨rfl, rfl, k55.K_one HKd.out⟩ (fun _ h => h.elim) (fun _ _ => trivial) HRW.out ST.out.b ST.out.b.size (by have := HRL.out; have := HLM.out; omega) ?_
              intro v1 w2 q1 q2 q3 q4
              obtain ⟨A3, c3, hv⟩ := Kd.R_slice q1
              rw [show (rows ++ [([.string (rd_T55 l0_0 x7).f0, .slice B1 (rd_T55 l0_0 x7).f1.length d1, .slice B2 (rd_T55 l0_0 x7).f2.length d2] : List Value)]).length = z.length + 1 by simp [HRL.out]] at hv
              subst hv
              have ST2 := Zh (BK.out (rd_T55 l0_0 x7) _ _ _ HKd.out q1 q2 q3 q4)
              have hs1 := ST2.out.cell 1 rfl 0 (u := .slice Ao z.length co) rfl
              have hf1 := ST2.out.frozen 1 rfl 0
              have hl1 := ST2.out.lt 1 rfl
              clear q1 q2 q3 q4 hx0 hx1 hx2 hHeld
              refine hK.out _ _ ?_
              clear hK K
              refine norm_ (a' := ?_) ?_ ?_
              rotate_left
              · show Act.put _ (some 52) _ = _
                simp only [Act.put, List.setIfInBounds_toArray, List.set_cons_zero, List.set_cons_succ, i64_w, i32_w]
                rfl
              refine SQ.p0 9 53 ?_
              refine last_ (i := 10) (N := none) #[true, true, true, true, true, true, true, true, true, true, true] rfl rfl (by kernel_rfl) (by decide) (fun K hK => ?_)
              refine skip_ (w1 := ?_) (by rfl) rfl ?_ ?_
              rotate_left
              · go_simp
                rfl
              refine hK.out _ _ ?_
              clear hK K
              refine done_ (by kernel_rfl) ?_
              go_wp2
              replace ST := Zh (ST2.out.set 1 rfl 0 (.slice A3 (z.length + 1) c3))
              go_roundg k2
              case measure => omega
              case rel => exact ⟨_, _, _, A3, c3, rfl, rfl, H', by rw [List.length_append]; exact ST⟩
            rw [if_neg cm] at H; exact absurd H (by simp)
          rw [if_neg p0] at H; exact absurd H (by simp)
      rw [if_neg c7] at H
      have q7 := decide_eq_false c7
      clear c7
      cases x6 with
      | true =>
        rw [if_pos rfl] at H
        obtain ⟨t, HT, H⟩ := Option.bind_eq_some_iff.mp H
        obtain rfl := Option.some.inj H
        replace HT := Zh HT
        clear H
        go_wp2_with fail
        clear hc0 hc1 hc2 hc3 hc4 hl0 hl3 hl4
        with_reducible refine (spec_l03Copy.calls k1 _ _ y t _ (ST.out.picks 0 rfl).2.2 (ST.out.picks 0 rfl).2.1 HT.out).mono ?_
        rintro e w9 ⟨v9, rfl, ho, hb⟩
        obtain ⟨A9, c9, rfl⟩ := Kd.S_slice ho
        replace ST := Zh (ST.out.row hb ho)
        clear hb ho
        have hc6 := ST.out.cell 3 rfl 0 (u := .slice none 0 0) rfl
        have hl6 := ST.out.lt 3 rfl
        have hf6 := ST.out.frozen 3 rfl 0
        go_wp2
        replace ST := Zh (ST.out.set 3 rfl 0 (.slice A9 t.length c9))
        refine Zq (results_cell_row rfl _ _ (w.heap.size + 2) 28 #[.slice A9 t.length c9] (0, 0) _ rfl (ST.out.blk 3 rfl) Tryd.underlying28 rfl (by kernel_rfl)) rfl ?_
        exact ⟨_, rfl, Kd.S_mono (ST.out.own 0 rfl) (fun _ _ => trivial), ST.out.b⟩
      | false =>
        rw [if_neg (by decide)] at H
        by_cases cm : y.length < 2199023255552
        · rw [if_pos cm] at H
          obtain ⟨t, HT, H⟩ := Option.bind_eq_some_iff.mp H
          obtain rfl := Option.some.inj H
          replace HT := Zh HT
          have HLM := Zh cm
          clear H cm
          obtain ⟨rows, hrl, hrow, back⟩ := ST.out.picked 0 rfl
          have HRL := Zh hrl
          have HRW := Zh hrow
          have BK := Zh back
          clear hrl hrow back
          go_wp2_with ((with_reducible refine gate_builtin (b := .append) (xs := #[.tmp 57, .tmp 59]) rfl ?_); at_builtin; refine Kd.R_append (Kd.raw 3) (w0 := w) w.heap.size rfl (.tmp 57) (.tmp 59) 26 55 (.agg #[(.string ⟨#[]⟩), (.slice none 0 0), (.slice none 0 0)]) 64 rfl Tryd.underlying26 info55 rfl (by decide) (by omega) (.slice Ao y.length co) rows [.string a1_0, .slice A1_1 l1_1.length c1_1, .slice A1_2 l1_2.length c1_2] [.string a1_0, .slice A1_1 l1_1.length c1_1, .slice A1_2 l1_2.length c1_2] (fun _ => True) (fun _ => False) rfl rfl ⟨rfl, rfl, k55.K_one HKf.out⟩ (fun _ h => h.elim) (fun _ _ => trivial) HRW.out ST.out.b ST.out.b.size (by have := HRL.out; have := HLM.out; omega) ?_; intro v1 w2 q1 q2 q3 q4; obtain ⟨A3, c3, hv⟩ := Kd.R_slice q1; rw [show (rows ++ [([.string a1_0, .slice A1_1 l1_1.length c1_1, .slice A1_2 l1_2.length c1_2] : List Value)]).length = y.length + 1 by simp [HRL.out]] at hv; subst hv; have ST2 := Zh (BK.out (⟨a1_0, l1_1, l1_2⟩ : S55) _ _ _ HKf.out q1 q2 q3 q4); have hs1 := ST2.out.cell 1 rfl 0 (u := .slice Ao y.length co) rfl; have hf1 := ST2.out.frozen 1 rfl 0; have hl1 := ST2.out.lt 1 rfl; clear hc0 hc1 hc2 hc3 hc4 hl0 hl3 hl4; clear q1 q2 q3 q4)
          replace ST := Zh (ST2.out.set 1 rfl 0 (.slice A3 (y.length + 1) c3))
          have hcall := spec_l03Copy.calls k1 _ c3 (y ++ [(⟨a1_0, l1_1, l1_2⟩ : S55)]) t _ (ST.out.picks 0 rfl).2.2 (by rw [List.length_append]; exact (ST.out.picks 0 rfl).2.1) HT.out
          rw [List.length_append] at hcall
          refine hcall.mono ?_
          clear hcall
          rintro e w9 ⟨v9, rfl, ho, hb⟩
          obtain ⟨A9, c9, rfl⟩ := Kd.S_slice ho
          replace ST := Zh (ST.out.row hb ho)
          clear hb ho
          have hc6 := ST.out.cell 3 rfl 0 (u := .slice none 0 0) rfl
          have hl6 := ST.out.lt 3 rfl
          have hf6 := ST.out.frozen 3 rfl 0
          go_wp2
          replace ST := Zh (ST.out.set 3 rfl 0 (.slice A9 t.length c9))
          refine Zq (results_cell_row rfl _ _ (w.heap.size + 2) 28 #[.slice A9 t.length c9] (0, 0) _ rfl (ST.out.blk 3 rfl) Tryd.underlying28 rfl (by kernel_rfl)) rfl ?_
          exact ⟨_, rfl, Kd.S_mono (ST.out.own 0 rfl) (fun _ _ => trivial), ST.out.b⟩
        rw [if_neg cm] at H; exact absurd H (by simp)
end Go.Proofs.YtcgojdhbphocgaaDoor.F

namespace Go.Proofs.YtcgojdhbphocgaaDoor.F
open Go.RowKit Go.Proofs.YtcgojdhbphocgaaDoorW.PrintWords Go.Proofs.YtcgojdhbphocgaaDoorW.PrintWords.Kd Go.Proofs.YtcgojdhbphocgaaDoorW.PrintMore.Kd Go.Proofs.YtcgojdhbphocgaaDoorW.PrintLast Go.Proofs.YtcgojdhbphocgaaDoorW.PrintMore
attribute [local go_sem] max2_int min2_int max_two min_two max_three min_three max_four min_four   -- for this text's walks alone
set_option linter.unusedVariables false
set_option linter.unusedSimpArgs false
def spec_SyncFile.f (k : Nat) (l0_0 : List (S55)) (a1 : ByteArray) : Option ((List (S55)) × Bool) := (spec_Content.f k l0_0 a1).bind fun bt135 => (if bt135.2 = true then ((spec_l03Put.f k l0_0 a1 bt135.1 ([] : List Int)).bind fun t139 => (some (t139, true))) else ((spec_l03Copy.f k l0_0).bind fun t142 => (some (t142, false))))
set_option maxHeartbeats 8000000 in
set_option maxRecDepth 100000 in
theorem spec_SyncFile.calls (k : Nat) (A0_0 : Option Addr) (c0_0 : Nat) (l0_0 : List (S55)) (a1 : ByteArray) (r1 : List (S55)) (r2 : Bool) (w : World) (hr0_0 : Kd.C k55 w A0_0 l0_0.length l0_0) (hc0_0 : l0_0.length ≤ c0_0) (h : spec_SyncFile.f k l0_0 a1 = some (r1, r2)) :
  Calls Tryd.prog 43 #[.agg #[.slice A0_0 l0_0.length c0_0], .string a1] w fun e w' => ∃ v0_ : Value, e = .returned (.tuple #[.agg #[v0_], .bool r2]) ∧ Kd.S k55 55 w' w.heap.size (fun _ => True) v0_ r1 ∧ Below w.heap.size w w' := by
 have hu28 := Tryd.underlying28
 have hu55 := Tryd.underlying55
 have HR0_0 := Zh hr0_0
 have HC0_0 := Zh hc0_0
 clear hr0_0 hc0_0
 have HB := Zh (Below.refl w.heap.size w)
 have H : ((spec_Content.f k l0_0 a1).bind fun bt135 => (if bt135.2 = true then ((spec_l03Put.f k l0_0 a1 bt135.1 ([] : List Int)).bind fun t139 => (some (t139, true))) else ((spec_l03Copy.f k l0_0).bind fun t142 => (some (t142, false))))) = some (r1, r2) := h
 clear h
 replace H := Option.bind_eq_some_iff.mp H
 obtain ⟨⟨t135, t138⟩, A30, H⟩ := H
 replace H : (if t138 = true then ((spec_l03Put.f k l0_0 a1 t135 ([] : List Int)).bind fun t139 => (some (t139, true))) else ((spec_l03Copy.f k l0_0).bind fun t142 => (some (t142, false)))) = some (r1, r2) := H
 have A3 := Zh A30
 clear A30
 by_cases c4 : t138 = true
 ·
  subst c4
  have H1 : ((spec_l03Put.f k l0_0 a1 t135 ([] : List Int)).bind fun t139 => (some (t139, true))) = some (r1, r2) := by rw [if_pos rfl] at H; exact H
  clear H
  have H := H1
  clear H1
  replace H := Option.bind_eq_some_iff.mp H
  obtain ⟨t139, A50, H⟩ := H
  replace H : (some (t139, true)) = some (r1, r2) := H
  have A5 := Zh A50
  clear A50
  simp only [Option.some.injEq, Prod.mk.injEq] at H
  obtain ⟨rfl, rfl⟩ := H
  go_enter Tryd.func43, Tryd.ntmps43
  go_wp2_with (first | ((with_reducible refine gate_dst (N := 2) rfl ?_); refine box_event ?hg (N := 2) ?hd (cs := #[.slice A0_0 l0_0.length c0_0]) (t := 28) ?hr ?_; (case hd => rfl); (case hg => rfl); (case hr => first | (go_simp; done) | (go_simp; rfl)); intro gb133 hg w6 hbox hb; have BK133 := Zh (hbox); have GW133 := Zh ((by rw [hg]; exact (below_size Zs) : w.heap.size ≤ gb133)); have GE133 := Zh ((by rw [hg]; exact (below_size Zs) : w.heap.size ≤ gb133)); replace HB := Zh (Zl Zs hb); clear hb hbox hg) | ((with_reducible refine gate_dst (N := 4) rfl ?_); refine box_event ?hg (N := 4) ?hd (cs := #[.slice none 0 0]) (t := 28) ?hr ?_; (case hd => rfl); (case hg => rfl); (case hr => first | (go_simp; done) | (go_simp; rfl)); intro gb134 hg w7 hbox hb; have BK134 := Zh (hbox); have GW134 := Zh ((by rw [hg]; exact (below_size Zs) : w.heap.size ≤ gb134)); have GE134 := Zh ((by rw [hg]; exact (below_size Zs) : w.heap.size ≤ gb134)); replace HB := Zh (Zl Zs hb); have NB133_134 := Zh ((by rw [hg]; exact Nat.ne_of_lt (blk_lt (g := gb133) (o := .cells #[.slice A0_0 l0_0.length c0_0] 28 (0, 0)) Zk) : gb133 ≠ gb134)); have NB134_133 := Zh ((by rw [hg]; exact Nat.ne_of_gt (blk_lt (g := gb133) (o := .cells #[.slice A0_0 l0_0.length c0_0] 28 (0, 0)) Zk) : gb134 ≠ gb133)); replace BK133 := Zh (Zm (g := gb133) (o := .cells #[.slice A0_0 l0_0.length c0_0] 28 (0, 0)) Zk hb); clear hb hbox hg; have hnb8 := NB133_134.out; have hnc8 := NB134_133.out; have hcz9_0 : w7.cell? ⟨gb133, 0, none⟩ = some (.slice A0_0 l0_0.length c0_0) := (blk_cell BK133.out 0).trans rfl; have hfz9_0 := Zn BK133.out 0) | ((with_reducible refine gate_callee (f := 50) rfl ?_); refine ZG (some 11) Tryd.func50 #[.agg #[.slice A0_0 l0_0.length c0_0], .string a1] rfl ?_; (with_reducible refine (spec_Content.calls k _ _ l0_0 a1 t135 true _ ?side1 ?side2 A3.out).mono ?_); (case side1 => repeat (first | exact (C_below HR0_0.out HB.out) | (with_reducible refine C_alloc ?_ _) | (with_reducible refine C_drewN ?_ _) | (with_reducible refine C_drew ?_))); (case side2 => exact HC0_0.out); rintro e w10 ⟨v136, rfl, ho0, hb⟩; refine ⟨_, rfl, ?_⟩; have HO137 := Zh (R_lower ho0 (below_size Zs)); replace BK133 := Zh (Zm (g := gb133) (o := .cells #[.slice A0_0 l0_0.length c0_0] 28 (0, 0)) Zk hb); replace BK134 := Zh (Zm (g := gb134) (o := .cells #[.slice none 0 0] 28 (0, 0)) Zk hb); replace HB := Zh (Zl Zs hb); (try clear hb); (try clear hb2); (try clear hk); (try clear hi); (try clear ho0); have hcz11_0 : w10.cell? ⟨gb133, 0, none⟩ = some (.slice A0_0 l0_0.length c0_0) := (blk_cell BK133.out 0).trans rfl; have hfz11_0 := Zn BK133.out 0; obtain ⟨Ao12, co12, eo12⟩ := R_slice HO137.out; subst eo12) | ((with_reducible refine gate_callee (f := 77) rfl ?_); refine ZG (some 22) Tryd.func77 #[.agg #[.slice A0_0 l0_0.length c0_0], .agg #[.string a1, .slice Ao12 t135.length co12, .slice none 0 0]] rfl ?_; (refine (spec_l03Put.calls k _ _ l0_0 a1 _ _ t135 _ _ ([] : List Int) t139 _ ?side1 ?side2 ?side3 ?side4 ?side5 ?side6 A5.out).mono ?_); (case side1 => repeat (first | exact (C_below HR0_0.out HB.out) | (with_reducible refine C_alloc ?_ _) | (with_reducible refine C_drewN ?_ _) | (with_reducible refine C_drew ?_))); (case side2 => exact HC0_0.out); (case side3 => repeat (first | exact (R_reads' HO137.out).2.2 | (with_reducible refine C_alloc ?_ _) | (with_reducible refine C_drewN ?_ _) | (with_reducible refine C_drew ?_))); (case side4 => exact (R_reads' HO137.out).2.1); (case side5 => exact C_nil _ _); (case side6 => exact Nat.le_refl _); rintro e w13 ⟨v140, rfl, ho0, hb⟩; refine ⟨_, rfl, ?_⟩; have HO141 := Zh (S_lower (S_new' ho0 (R_lt (ZR HO137.out))) (below_size Zs)); replace HO137 := Zh (R_below (ZR HO137.out) hb); replace BK133 := Zh (Zm (g := gb133) (o := .cells #[.slice A0_0 l0_0.length c0_0] 28 (0, 0)) Zk hb); replace BK134 := Zh (Zm (g := gb134) (o := .cells #[.slice none 0 0] 28 (0, 0)) Zk hb); replace HB := Zh (Zl Zs hb); (try clear hb); (try clear hb2); (try clear hk); (try clear hi); (try clear ho0); obtain ⟨Ao14, co14, eo14⟩ := S_slice HO141.out; subst eo14; have hcz15_0 : w13.cell? ⟨gb134, 0, none⟩ = some (.slice none 0 0) := (blk_cell BK134.out 0).trans rfl; have hfz15_0 := Zn BK134.out 0))
  refine Zq (results_ct rfl _ _ gb134 28 #[.slice Ao14 t139.length co14] (0, 0) _ rfl (by (with_reducible repeat (first | refine Za ?_ _ | refine Zb ?_ | refine blk_alloc ?_ _)); refine blk_put (cs := #[.slice none 0 0]) ?_ 0 _ rfl; (with_reducible repeat (first | refine Za ?_ _ | refine Zb ?_ | refine blk_alloc ?_ _)); exact BK134.out) Tryd.underlying28 rfl (by kernel_rfl)) rfl ?_
  exact ⟨_, ZE, ZS (S_mono (S_far (p := ⟨gb134, 0, none⟩) (S_types HO141.out BK134.out (by decide)) (fun _ hk => hk.2) (.slice Ao14 t139.length co14)) (fun _ hk => trivial)), Zs⟩
 replace c4 := Bool.eq_false_iff.mpr c4
 subst c4
 have H1 : ((spec_l03Copy.f k l0_0).bind fun t142 => (some (t142, false))) = some (r1, r2) := by rw [if_neg (show ¬ (false = true) by decide)] at H; exact H
 clear H
 have H := H1
 clear H1
 replace H := Option.bind_eq_some_iff.mp H
 obtain ⟨t142, A160, H⟩ := H
 replace H : (some (t142, false)) = some (r1, r2) := H
 have A16 := Zh A160
 clear A160
 simp only [Option.some.injEq, Prod.mk.injEq] at H
 obtain ⟨rfl, rfl⟩ := H
 go_enter Tryd.func43, Tryd.ntmps43
 go_wp2_with (first | ((with_reducible refine gate_dst (N := 2) rfl ?_); refine box_event ?hg (N := 2) ?hd (cs := #[.slice A0_0 l0_0.length c0_0]) (t := 28) ?hr ?_; (case hd => rfl); (case hg => rfl); (case hr => first | (go_simp; done) | (go_simp; rfl)); intro gb133 hg w17 hbox hb; have BK133 := Zh (hbox); have GW133 := Zh ((by rw [hg]; exact (below_size Zs) : w.heap.size ≤ gb133)); have GE133 := Zh ((by rw [hg]; exact (below_size Zs) : w.heap.size ≤ gb133)); replace HB := Zh (Zl Zs hb); clear hb hbox hg) | ((with_reducible refine gate_dst (N := 4) rfl ?_); refine box_event ?hg (N := 4) ?hd (cs := #[.slice none 0 0]) (t := 28) ?hr ?_; (case hd => rfl); (case hg => rfl); (case hr => first | (go_simp; done) | (go_simp; rfl)); intro gb134 hg w18 hbox hb; have BK134 := Zh (hbox); have GW134 := Zh ((by rw [hg]; exact (below_size Zs) : w.heap.size ≤ gb134)); have GE134 := Zh ((by rw [hg]; exact (below_size Zs) : w.heap.size ≤ gb134)); replace HB := Zh (Zl Zs hb); have NB133_134 := Zh ((by rw [hg]; exact Nat.ne_of_lt (blk_lt (g := gb133) (o := .cells #[.slice A0_0 l0_0.length c0_0] 28 (0, 0)) Zk) : gb133 ≠ gb134)); have NB134_133 := Zh ((by rw [hg]; exact Nat.ne_of_gt (blk_lt (g := gb133) (o := .cells #[.slice A0_0 l0_0.length c0_0] 28 (0, 0)) Zk) : gb134 ≠ gb133)); replace BK133 := Zh (Zm (g := gb133) (o := .cells #[.slice A0_0 l0_0.length c0_0] 28 (0, 0)) Zk hb); clear hb hbox hg; have hnb19 := NB133_134.out; have hnc19 := NB134_133.out; have hcz20_0 : w18.cell? ⟨gb133, 0, none⟩ = some (.slice A0_0 l0_0.length c0_0) := (blk_cell BK133.out 0).trans rfl; have hfz20_0 := Zn BK133.out 0) | ((with_reducible refine gate_callee (f := 50) rfl ?_); refine ZG (some 11) Tryd.func50 #[.agg #[.slice A0_0 l0_0.length c0_0], .string a1] rfl ?_; (with_reducible refine (spec_Content.calls k _ _ l0_0 a1 t135 false _ ?side1 ?side2 A3.out).mono ?_); (case side1 => repeat (first | exact (C_below HR0_0.out HB.out) | (with_reducible refine C_alloc ?_ _) | (with_reducible refine C_drewN ?_ _) | (with_reducible refine C_drew ?_))); (case side2 => exact HC0_0.out); rintro e w21 ⟨v136, rfl, ho0, hb⟩; refine ⟨_, rfl, ?_⟩; have HO137 := Zh (R_lower ho0 (below_size Zs)); replace BK133 := Zh (Zm (g := gb133) (o := .cells #[.slice A0_0 l0_0.length c0_0] 28 (0, 0)) Zk hb); replace BK134 := Zh (Zm (g := gb134) (o := .cells #[.slice none 0 0] 28 (0, 0)) Zk hb); replace HB := Zh (Zl Zs hb); (try clear hb); (try clear hb2); (try clear hk); (try clear hi); (try clear ho0); have hcz22_0 : w21.cell? ⟨gb133, 0, none⟩ = some (.slice A0_0 l0_0.length c0_0) := (blk_cell BK133.out 0).trans rfl; have hfz22_0 := Zn BK133.out 0) | ((with_reducible refine gate_callee (f := 54) rfl ?_); refine ZG (some 17) Tryd.func54 #[.agg #[.slice A0_0 l0_0.length c0_0]] rfl ?_; (with_reducible refine (spec_l03Copy.calls k _ _ l0_0 t142 _ ?side1 ?side2 A16.out).mono ?_); (case side1 => repeat (first | exact (C_below HR0_0.out HB.out) | (with_reducible refine C_alloc ?_ _) | (with_reducible refine C_drewN ?_ _) | (with_reducible refine C_drew ?_))); (case side2 => exact HC0_0.out); rintro e w23 ⟨v143, rfl, ho0, hb⟩; refine ⟨_, rfl, ?_⟩; have HO144 := Zh (S_lower (S_new' ho0 (R_lt (ZR HO137.out))) (below_size Zs)); replace HO137 := Zh (R_below (ZR HO137.out) hb); replace BK133 := Zh (Zm (g := gb133) (o := .cells #[.slice A0_0 l0_0.length c0_0] 28 (0, 0)) Zk hb); replace BK134 := Zh (Zm (g := gb134) (o := .cells #[.slice none 0 0] 28 (0, 0)) Zk hb); replace HB := Zh (Zl Zs hb); (try clear hb); (try clear hb2); (try clear hk); (try clear hi); (try clear ho0); obtain ⟨Ao24, co24, eo24⟩ := S_slice HO144.out; subst eo24; have hcz25_0 : w23.cell? ⟨gb134, 0, none⟩ = some (.slice none 0 0) := (blk_cell BK134.out 0).trans rfl; have hfz25_0 := Zn BK134.out 0))
 refine Zq (results_ct rfl _ _ gb134 28 #[.slice Ao24 t142.length co24] (0, 0) _ rfl (by (with_reducible repeat (first | refine Za ?_ _ | refine Zb ?_ | refine blk_alloc ?_ _)); refine blk_put (cs := #[.slice none 0 0]) ?_ 0 _ rfl; (with_reducible repeat (first | refine Za ?_ _ | refine Zb ?_ | refine blk_alloc ?_ _)); exact BK134.out) Tryd.underlying28 rfl (by kernel_rfl)) rfl ?_
 exact ⟨_, ZE, ZS (S_mono (S_far (p := ⟨gb134, 0, none⟩) (S_types HO144.out BK134.out (by decide)) (fun _ hk => hk.2) (.slice Ao24 t142.length co24)) (fun _ hk => trivial)), Zs⟩
def spec_WalSync.f (k : Nat) (l0_0 : List (S55)) : Option ((List (S55)) × Bool) := (spec_SyncFile.f k l0_0 (⟨#[108, 111, 103]⟩ : ByteArray)).bind fun bt147 => (some (bt147.1, bt147.2))
set_option maxHeartbeats 8000000 in
set_option maxRecDepth 100000 in
theorem spec_WalSync.calls (k : Nat) (A0_0 : Option Addr) (c0_0 : Nat) (l0_0 : List (S55)) (r1 : List (S55)) (r2 : Bool) (w : World) (hr0_0 : Kd.C k55 w A0_0 l0_0.length l0_0) (hc0_0 : l0_0.length ≤ c0_0) (h : spec_WalSync.f k l0_0 = some (r1, r2)) :
  Calls Tryd.prog 12 #[.agg #[.slice A0_0 l0_0.length c0_0]] w fun e w' => ∃ v0_ : Value, e = .returned (.tuple #[.agg #[v0_], .bool r2]) ∧ Kd.S k55 55 w' w.heap.size (fun _ => True) v0_ r1 ∧ Below w.heap.size w w' := by
 have hu28 := Tryd.underlying28
 have HR0_0 := Zh hr0_0
 have HC0_0 := Zh hc0_0
 clear hr0_0 hc0_0
 have HB := Zh (Below.refl w.heap.size w)
 have H : ((spec_SyncFile.f k l0_0 (⟨#[108, 111, 103]⟩ : ByteArray)).bind fun bt147 => (some (bt147.1, bt147.2))) = some (r1, r2) := h
 clear h
 replace H := Option.bind_eq_some_iff.mp H
 obtain ⟨⟨t147, t150⟩, A20, H⟩ := H
 replace H : (some (t147, t150)) = some (r1, r2) := H
 have A2 := Zh A20
 clear A20
 simp only [Option.some.injEq, Prod.mk.injEq] at H
 obtain ⟨rfl, rfl⟩ := H
 go_enter Tryd.func12, Tryd.ntmps12
 go_wp2_with (first | ((with_reducible refine gate_dst (N := 1) rfl ?_); refine box_event ?hg (N := 1) ?hd (cs := #[.slice A0_0 l0_0.length c0_0]) (t := 28) ?hr ?_; (case hd => rfl); (case hg => rfl); (case hr => first | (go_simp; done) | (go_simp; rfl)); intro gb145 hg w3 hbox hb; have BK145 := Zh (hbox); have GW145 := Zh ((by rw [hg]; exact (below_size Zs) : w.heap.size ≤ gb145)); have GE145 := Zh ((by rw [hg]; exact (below_size Zs) : w.heap.size ≤ gb145)); replace HB := Zh (Zl Zs hb); clear hb hbox hg) | ((with_reducible refine gate_dst (N := 2) rfl ?_); refine box_event ?hg (N := 2) ?hd (cs := #[.slice none 0 0]) (t := 28) ?hr ?_; (case hd => rfl); (case hg => rfl); (case hr => first | (go_simp; done) | (go_simp; rfl)); intro gb146 hg w4 hbox hb; have BK146 := Zh (hbox); have GW146 := Zh ((by rw [hg]; exact (below_size Zs) : w.heap.size ≤ gb146)); have GE146 := Zh ((by rw [hg]; exact (below_size Zs) : w.heap.size ≤ gb146)); replace HB := Zh (Zl Zs hb); have NB145_146 := Zh ((by rw [hg]; exact Nat.ne_of_lt (blk_lt (g := gb145) (o := .cells #[.slice A0_0 l0_0.length c0_0] 28 (0, 0)) Zk) : gb145 ≠ gb146)); have NB146_145 := Zh ((by rw [hg]; exact Nat.ne_of_gt (blk_lt (g := gb145) (o := .cells #[.slice A0_0 l0_0.length c0_0] 28 (0, 0)) Zk) : gb146 ≠ gb145)); replace BK145 := Zh (Zm (g := gb145) (o := .cells #[.slice A0_0 l0_0.length c0_0] 28 (0, 0)) Zk hb); clear hb hbox hg; have hnb5 := NB145_146.out; have hnc5 := NB146_145.out; have hcz6_0 : w4.cell? ⟨gb145, 0, none⟩ = some (.slice A0_0 l0_0.length c0_0) := (blk_cell BK145.out 0).trans rfl; have hfz6_0 := Zn BK145.out 0) | ((with_reducible refine gate_callee (f := 43) rfl ?_); refine ZG (some 8) Tryd.func43 #[.agg #[.slice A0_0 l0_0.length c0_0], .string (⟨#[108, 111, 103]⟩ : ByteArray)] rfl ?_; (with_reducible refine (spec_SyncFile.calls k _ _ l0_0 (⟨#[108, 111, 103]⟩ : ByteArray) t147 t150 _ ?side1 ?side2 A2.out).mono ?_); (case side1 => repeat (first | exact (C_below HR0_0.out HB.out) | (with_reducible refine C_alloc ?_ _) | (with_reducible refine C_drewN ?_ _) | (with_reducible refine C_drew ?_))); (case side2 => exact HC0_0.out); rintro e w7 ⟨v148, rfl, ho0, hb⟩; refine ⟨_, rfl, ?_⟩; have HO149 := Zh (S_lower ho0 (below_size Zs)); replace BK145 := Zh (Zm (g := gb145) (o := .cells #[.slice A0_0 l0_0.length c0_0] 28 (0, 0)) Zk hb); replace BK146 := Zh (Zm (g := gb146) (o := .cells #[.slice none 0 0] 28 (0, 0)) Zk hb); replace HB := Zh (Zl Zs hb); (try clear hb); (try clear hb2); (try clear hk); (try clear hi); (try clear ho0)) | ((with_reducible refine gate_dst (N := 4) rfl ?_); refine box_event ?hg (N := 4) ?hd (cs := #[.slice none 0 0]) (t := 28) ?hr ?_; (case hd => rfl); (case hg => rfl); (case hr => first | (go_simp; done) | (go_simp; rfl)); intro gb151 hg w8 hbox hb; replace HO149 := Zh (S_below (ZS HO149.out) hb); have BK151 := Zh (hbox); have GW151 := Zh ((by rw [hg]; exact (below_size Zs) : w.heap.size ≤ gb151)); have GE151 := Zh ((by rw [hg]; exact (below_size Zs) : w.heap.size ≤ gb151)); replace HB := Zh (Zl Zs hb); have NB145_151 := Zh ((by rw [hg]; exact Nat.ne_of_lt (blk_lt (g := gb145) (o := .cells #[.slice A0_0 l0_0.length c0_0] 28 (0, 0)) Zk) : gb145 ≠ gb151)); have NB151_145 := Zh ((by rw [hg]; exact Nat.ne_of_gt (blk_lt (g := gb145) (o := .cells #[.slice A0_0 l0_0.length c0_0] 28 (0, 0)) Zk) : gb151 ≠ gb145)); replace BK145 := Zh (Zm (g := gb145) (o := .cells #[.slice A0_0 l0_0.length c0_0] 28 (0, 0)) Zk hb); have NB146_151 := Zh ((by rw [hg]; exact Nat.ne_of_lt (blk_lt (g := gb146) (o := .cells #[.slice none 0 0] 28 (0, 0)) Zk) : gb146 ≠ gb151)); have NB151_146 := Zh ((by rw [hg]; exact Nat.ne_of_gt (blk_lt (g := gb146) (o := .cells #[.slice none 0 0] 28 (0, 0)) Zk) : gb151 ≠ gb146)); replace BK146 := Zh (Zm (g := gb146) (o := .cells #[.slice none 0 0] 28 (0, 0)) Zk hb); clear hb hbox hg; obtain ⟨Ao9, co9, eo9⟩ := S_slice HO149.out; subst eo9; have hnb10 := NB151_145.out; have hnc10 := NB145_151.out; have hnb11 := NB151_146.out; have hnc11 := NB146_151.out; have hcz12_0 : w8.cell? ⟨gb151, 0, none⟩ = some (.slice none 0 0) := (blk_cell BK151.out 0).trans rfl; have hfz12_0 := Zn BK151.out 0; have hcz13_0 : w8.cell? ⟨gb146, 0, none⟩ = some (.slice none 0 0) := (blk_cell BK146.out 0).trans rfl; have hfz13_0 := Zn BK146.out 0))
 refine Zq (results_ct rfl _ _ gb146 28 #[.slice Ao9 t147.length co9] (0, 0) _ rfl (by (with_reducible repeat (first | refine Za ?_ _ | refine Zb ?_ | refine blk_alloc ?_ _)); refine blk_put (cs := #[.slice none 0 0]) ?_ 0 _ rfl; (with_reducible repeat (first | refine Za ?_ _ | refine Zb ?_ | refine blk_alloc ?_ _)); refine blk_far ?_ NB146_151.out _; (with_reducible repeat (first | refine Za ?_ _ | refine Zb ?_ | refine blk_alloc ?_ _)); exact BK146.out) Tryd.underlying28 rfl (by kernel_rfl)) rfl ?_
 exact ⟨_, ZE, ZS (S_mono (S_far (p := ⟨gb146, 0, none⟩) (S_far (p := ⟨gb151, 0, none⟩) (S_types (S_types HO149.out BK151.out (by decide)) BK146.out (by decide)) (fun _ hk => hk.1.2) (.slice Ao9 t147.length co9)) (fun _ hk => hk.2) (.slice Ao9 t147.length co9)) (fun _ hk => trivial)), Zs⟩
def spec_l01Byte.f (s0_0 : List Int) (s0_1 : Int) (s0_2 : Int) : Option (Int × Int × Int) := if s0_1 < (s0_0.length : Int) then (if 0 ≤ s0_1 then (some (Go.bits .and .i64 (wrap64 ((Go.bits .and .i64 (Go.bits .xor .i64 ((wrap64 ((wrap64 (s0_2 * 6364136223846793005)) + 1442695040888963407)) / 8589934592) ((wrap64 ((wrap64 (s0_2 * 6364136223846793005)) + 1442695040888963407)) / 35184372088832)) 255) + (wrap64 (rd s0_0 s0_1)))) 255, wrap64 (s0_1 + 1), wrap64 ((wrap64 (s0_2 * 6364136223846793005)) + 1442695040888963407))) else (none)) else (some (Go.bits .and .i64 (Go.bits .xor .i64 ((wrap64 ((wrap64 (s0_2 * 6364136223846793005)) + 1442695040888963407)) / 8589934592) ((wrap64 ((wrap64 (s0_2 * 6364136223846793005)) + 1442695040888963407)) / 35184372088832)) 255, s0_1, wrap64 ((wrap64 (s0_2 * 6364136223846793005)) + 1442695040888963407)))
set_option maxHeartbeats 8000000 in
set_option maxRecDepth 100000 in
theorem spec_l01Byte.calls (g : Nat) (s0_0 : List Int) (s0_1 : Int) (s0_2 : Int) (r1 : Int) (r2 : Int) (r3 : Int) (w0 w : World) (hI : IsS99 w0 w g s0_0 s0_1 s0_2) (hB : Below w0.heap.size w0 w) (h : spec_l01Byte.f s0_0 s0_1 s0_2 = some (r1, r2, r3)) :
  Calls Tryd.prog 100 #[.pointer (some ⟨g, 0, none⟩)] w fun e w' => e = .returned (.int .i64 r1) ∧ IsS99 w0 w' g s0_0 r2 r3 ∧ Below w0.heap.size w0 w' ∧ KeepBut w w' g none := by
 have HI0 := Zh hI
 have HK := Zh (KeepBut.refl w g none)
 have HL := Zh hB.size
 clear hI
 have HW0 := Zh hB.size
 have HB := Zh hB
 clear hB
 have H : (if s0_1 < (s0_0.length : Int) then (if 0 ≤ s0_1 then (some (Go.bits .and .i64 (wrap64 ((Go.bits .and .i64 (Go.bits .xor .i64 ((wrap64 ((wrap64 (s0_2 * 6364136223846793005)) + 1442695040888963407)) / 8589934592) ((wrap64 ((wrap64 (s0_2 * 6364136223846793005)) + 1442695040888963407)) / 35184372088832)) 255) + (wrap64 (rd s0_0 s0_1)))) 255, wrap64 (s0_1 + 1), wrap64 ((wrap64 (s0_2 * 6364136223846793005)) + 1442695040888963407))) else (none)) else (some (Go.bits .and .i64 (Go.bits .xor .i64 ((wrap64 ((wrap64 (s0_2 * 6364136223846793005)) + 1442695040888963407)) / 8589934592) ((wrap64 ((wrap64 (s0_2 * 6364136223846793005)) + 1442695040888963407)) / 35184372088832)) 255, s0_1, wrap64 ((wrap64 (s0_2 * 6364136223846793005)) + 1442695040888963407)))) = some (r1, r2, r3) := h
 clear h
 by_cases c2 : s0_1 < (s0_0.length : Int)
 ·
  rw [if_pos c2] at H
  have c2b0 : decide (s0_1 < (s0_0.length : Int)) = true := decide_eq_true c2
  clear c2
  by_cases c3 : 0 ≤ s0_1
  ·
   rw [if_pos c3] at H
   have c3b0 : decide (0 ≤ s0_1) = true := decide_eq_true c3
   clear c3
   simp only [Option.some.injEq, Prod.mk.injEq] at H
   obtain ⟨rfl, rfl, rfl⟩ := H
   obtain ⟨ASz4_0, cSz4_0, HGz4, hgz4, HSz4_0⟩ := HI0.out
   have hcz4_0 := cellS99_0 HGz4
   have hcz4_1 := cellS99_1 HGz4
   have hcz4_2 := cellS99_2 HGz4
   have hfz4_1 := Zn HGz4 1
   have hfz4_2 := Zn HGz4 2
   clear HGz4 hgz4
   have p617 : 0 ≤ (s0_1 : Int) := Zo
   have q617 : s0_1 < (s0_0.length : Int) := Zo
   obtain ⟨ad617, e617, hx617_0⟩ := Kd.at_int HSz4_0 s0_1 p617 q617
   cases e617
   have hn617_0 : ad617.block ≠ g := Nat.ne_of_lt (Nat.lt_of_lt_of_le (by have := Zi _ _ hx617_0; first | rwa [add_block] at this | exact this) (IsS99.ge HI0.out))
   replace hx617_0 := pw_cell_below HB.out hx617_0
   replace hx617_0 := (cell_far (p := ⟨g, 2, none⟩) (by first | (rw [add_block]; exact hn617_0) | (show (Addr.add _ _).block ≠ _; rw [add_block]; exact hn617_0) | exact hn617_0) (.int .i64 (wrap64 ((wrap64 (s0_2 * 6364136223846793005)) + 1442695040888963407)))).trans hx617_0
   (try have hy617_0 := fun (n_ : Nat) => (show (((w.drewN n_).setCell ⟨g, 2, none⟩ (.int .i64 (wrap64 ((wrap64 (s0_2 * 6364136223846793005)) + 1442695040888963407))))).cell? _ = some _ from hx617_0))
   clear hn617_0
   replace p617 := eq_true p617
   replace q617 := eq_true q617
   go_enter Tryd.func100, Tryd.ntmps100
   go_wp2
   repeat (go_quiet (fail); try go_wp2)
   go_ret
   exact ⟨ZE, by repeat (first | (with_reducible first | exact HI0.out | apply IsS99.alloc | apply IsS99.drewN | apply IsS99.drew | apply IsS99.set_1 | apply IsS99.set_2) | exact HI0.out), by repeat (first | (with_reducible first | exact HB.out | apply Zf | apply Zd | apply Ze | refine Zg ?_ (IsS99.ge HI0.out)) | exact HB.out), by repeat (first | (with_reducible first | exact HK.out | apply KeepBut.set_ | apply keep_drewN | apply keep_drew | apply keep_alloc) | exact HK.out)⟩
  rw [if_neg c3] at H
  exact absurd H (by simp)
 rw [if_neg c2] at H
 have c2b0 : decide (s0_1 < (s0_0.length : Int)) = false := decide_eq_false c2
 clear c2
 simp only [Option.some.injEq, Prod.mk.injEq] at H
 obtain ⟨rfl, rfl, rfl⟩ := H
 obtain ⟨ASz5_0, cSz5_0, HGz5, hgz5, HSz5_0⟩ := HI0.out
 have hcz5_0 := cellS99_0 HGz5
 have hcz5_1 := cellS99_1 HGz5
 have hcz5_2 := cellS99_2 HGz5
 have hfz5_1 := Zn HGz5 1
 have hfz5_2 := Zn HGz5 2
 clear HGz5 hgz5
 go_enter Tryd.func100, Tryd.ntmps100
 go_wp2
 repeat (go_quiet (fail); try go_wp2)
 go_ret
 exact ⟨ZE, by repeat (first | (with_reducible first | exact HI0.out | apply IsS99.alloc | apply IsS99.drewN | apply IsS99.drew | apply IsS99.set_1 | apply IsS99.set_2) | exact HI0.out), by repeat (first | (with_reducible first | exact HB.out | apply Zf | apply Zd | apply Ze | refine Zg ?_ (IsS99.ge HI0.out)) | exact HB.out), by repeat (first | (with_reducible first | exact HK.out | apply KeepBut.set_ | apply keep_drewN | apply keep_drew | apply keep_alloc) | exact HK.out)⟩
def spec_l01Below.f (s0_0 : List Int) (s0_1 : Int) (s0_2 : Int) (a1 : Int) : Option (Int × Int × Int) := if a1 ≤ 0 then (some (0, s0_1, s0_2)) else (if a1 ≤ 256 then ((spec_l01Byte.f s0_0 s0_1 s0_2).bind fun bt618 => (if a1 = 0 then (none) else (some (Int.tmod bt618.1 a1, bt618.2.1, bt618.2.2)))) else ((spec_l01Byte.f s0_0 s0_1 s0_2).bind fun bt621 => ((spec_l01Byte.f s0_0 bt621.2.1 bt621.2.2).bind fun bt624 => ((spec_l01Byte.f s0_0 bt624.2.1 bt624.2.2).bind fun bt627 => (if a1 = 0 then (none) else (some (Int.tmod (wrap64 ((wrap64 ((wrap64 (bt621.1 * 65536)) + (wrap64 (bt624.1 * 256)))) + bt627.1)) a1, bt627.2.1, bt627.2.2)))))))
set_option maxHeartbeats 8000000 in
set_option maxRecDepth 100000 in
theorem spec_l01Below.calls (g : Nat) (s0_0 : List Int) (s0_1 : Int) (s0_2 : Int) (a1 : Int) (r1 : Int) (r2 : Int) (r3 : Int) (w0 w : World) (hI : IsS99 w0 w g s0_0 s0_1 s0_2) (hB : Below w0.heap.size w0 w) (h : spec_l01Below.f s0_0 s0_1 s0_2 a1 = some (r1, r2, r3)) :
  Calls Tryd.prog 70 #[.pointer (some ⟨g, 0, none⟩), .int .i64 a1] w fun e w' => e = .returned (.int .i64 r1) ∧ IsS99 w0 w' g s0_0 r2 r3 ∧ Below w0.heap.size w0 w' ∧ KeepBut w w' g none := by
 have HI0 := Zh hI
 have HK := Zh (KeepBut.refl w g none)
 have HL := Zh hB.size
 clear hI
 have HW0 := Zh hB.size
 have HB := Zh hB
 clear hB
 have H : (if a1 ≤ 0 then (some (0, s0_1, s0_2)) else (if a1 ≤ 256 then ((spec_l01Byte.f s0_0 s0_1 s0_2).bind fun bt618 => (if a1 = 0 then (none) else (some (Int.tmod bt618.1 a1, bt618.2.1, bt618.2.2)))) else ((spec_l01Byte.f s0_0 s0_1 s0_2).bind fun bt621 => ((spec_l01Byte.f s0_0 bt621.2.1 bt621.2.2).bind fun bt624 => ((spec_l01Byte.f s0_0 bt624.2.1 bt624.2.2).bind fun bt627 => (if a1 = 0 then (none) else (some (Int.tmod (wrap64 ((wrap64 ((wrap64 (bt621.1 * 65536)) + (wrap64 (bt624.1 * 256)))) + bt627.1)) a1, bt627.2.1, bt627.2.2)))))))) = some (r1, r2, r3) := h
 clear h
 by_cases c3 : a1 ≤ 0
 ·
  rw [if_pos c3] at H
  have c3b0 : decide (a1 ≤ 0) = true := decide_eq_true c3
  clear c3
  simp only [Option.some.injEq, Prod.mk.injEq] at H
  obtain ⟨rfl, rfl, rfl⟩ := H
  go_enter Tryd.func70, Tryd.ntmps70
  go_wp2
  go_ret
  exact ⟨ZE, by repeat (first | (with_reducible first | exact HI0.out | apply IsS99.alloc | apply IsS99.drewN | apply IsS99.drew | apply IsS99.set_1 | apply IsS99.set_2) | exact HI0.out), by repeat (first | (with_reducible first | exact HB.out | apply Zf | apply Zd | apply Ze | refine Zg ?_ (IsS99.ge HI0.out)) | exact HB.out), by repeat (first | (with_reducible first | exact HK.out | apply KeepBut.set_ | apply keep_drewN | apply keep_drew | apply keep_alloc) | exact HK.out)⟩
 rw [if_neg c3] at H
 have c3b0 : decide (a1 ≤ 0) = false := decide_eq_false c3
 clear c3
 by_cases c4 : a1 ≤ 256
 ·
  rw [if_pos c4] at H
  have c4b0 : decide (a1 ≤ 256) = true := decide_eq_true c4
  clear c4
  replace H := Option.bind_eq_some_iff.mp H
  obtain ⟨⟨t618, t619, t620⟩, A50, H⟩ := H
  replace H : (if a1 = 0 then (none) else (some (Int.tmod t618 a1, t619, t620))) = some (r1, r2, r3) := H
  have A5 := Zh A50
  clear A50
  by_cases c6 : a1 = 0
  ·
   rw [if_pos c6] at H
   exact absurd H (by simp)
  rw [if_neg c6] at H
  have c6b0 : (a1 == 0) = false := beq_eq_false_iff_ne.mpr c6
  have c6b1 : (a1 != 0) = true := bne_iff_ne.mpr c6
  simp only [Option.some.injEq, Prod.mk.injEq] at H
  obtain ⟨rfl, rfl, rfl⟩ := H
  go_enter Tryd.func70, Tryd.ntmps70
  go_wp2_with (first | ((with_reducible refine gate_callee (f := 100) rfl ?_); refine ZG (some 13) Tryd.func100 #[.pointer (some ⟨g, 0, none⟩)] rfl ?_; (with_reducible refine (spec_l01Byte.calls g s0_0 s0_1 s0_2 t618 t619 t620 w0 _ ?side1 ?side2 A5.out).mono ?_); (case side1 => repeat (first | (with_reducible first | exact HI0.out | apply IsS99.alloc | apply IsS99.drewN | apply IsS99.drew | apply IsS99.set_1 | apply IsS99.set_2) | exact HI0.out)); (case side2 => repeat (first | (with_reducible first | exact HB.out | apply Zf | apply Zd | apply Ze | refine Zg ?_ (IsS99.ge HI0.out)) | exact HB.out)); rintro e w7 ⟨rfl, hi, hb, hk⟩; refine ⟨_, rfl, ?_⟩; replace HK := Zh (KeepBut.trans (by repeat (first | (with_reducible first | exact HK.out | apply KeepBut.set_ | apply keep_drewN | apply keep_drew | apply keep_alloc) | exact HK.out)) hk (.inl rfl)); replace HB := Zh (hb); replace HI0 := Zh (hi); (try clear hb); (try clear hb2); (try clear hk); (try clear hi)))
  go_ret
  exact ⟨ZE, by repeat (first | (with_reducible first | exact HI0.out | apply IsS99.alloc | apply IsS99.drewN | apply IsS99.drew | apply IsS99.set_1 | apply IsS99.set_2) | exact HI0.out), by repeat (first | (with_reducible first | exact HB.out | apply Zf | apply Zd | apply Ze | refine Zg ?_ (IsS99.ge HI0.out)) | exact HB.out), by repeat (first | (with_reducible first | exact HK.out | apply KeepBut.set_ | apply keep_drewN | apply keep_drew | apply keep_alloc) | exact HK.out)⟩
 rw [if_neg c4] at H
 have c4b0 : decide (a1 ≤ 256) = false := decide_eq_false c4
 clear c4
 replace H := Option.bind_eq_some_iff.mp H
 obtain ⟨⟨t621, t622, t623⟩, A80, H⟩ := H
 replace H : ((spec_l01Byte.f s0_0 t622 t623).bind fun bt624 => ((spec_l01Byte.f s0_0 bt624.2.1 bt624.2.2).bind fun bt627 => (if a1 = 0 then (none) else (some (Int.tmod (wrap64 ((wrap64 ((wrap64 (t621 * 65536)) + (wrap64 (bt624.1 * 256)))) + bt627.1)) a1, bt627.2.1, bt627.2.2))))) = some (r1, r2, r3) := H
 have A8 := Zh A80
 clear A80
 replace H := Option.bind_eq_some_iff.mp H
 obtain ⟨⟨t624, t625, t626⟩, A90, H⟩ := H
 replace H : ((spec_l01Byte.f s0_0 t625 t626).bind fun bt627 => (if a1 = 0 then (none) else (some (Int.tmod (wrap64 ((wrap64 ((wrap64 (t621 * 65536)) + (wrap64 (t624 * 256)))) + bt627.1)) a1, bt627.2.1, bt627.2.2)))) = some (r1, r2, r3) := H
 have A9 := Zh A90
 clear A90
 replace H := Option.bind_eq_some_iff.mp H
 obtain ⟨⟨t627, t628, t629⟩, A100, H⟩ := H
 replace H : (if a1 = 0 then (none) else (some (Int.tmod (wrap64 ((wrap64 ((wrap64 (t621 * 65536)) + (wrap64 (t624 * 256)))) + t627)) a1, t628, t629))) = some (r1, r2, r3) := H
 have A10 := Zh A100
 clear A100
 by_cases c11 : a1 = 0
 ·
  rw [if_pos c11] at H
  exact absurd H (by simp)
 rw [if_neg c11] at H
 have c11b0 : (a1 == 0) = false := beq_eq_false_iff_ne.mpr c11
 have c11b1 : (a1 != 0) = true := bne_iff_ne.mpr c11
 simp only [Option.some.injEq, Prod.mk.injEq] at H
 obtain ⟨rfl, rfl, rfl⟩ := H
 go_enter Tryd.func70, Tryd.ntmps70
 go_wp2_with (first | ((with_reducible refine gate_callee (f := 100) rfl ?_); refine ZG (some 17) Tryd.func100 #[.pointer (some ⟨g, 0, none⟩)] rfl ?_; (with_reducible refine (spec_l01Byte.calls g s0_0 s0_1 s0_2 t621 t622 t623 w0 _ ?side1 ?side2 A8.out).mono ?_); (case side1 => repeat (first | (with_reducible first | exact HI0.out | apply IsS99.alloc | apply IsS99.drewN | apply IsS99.drew | apply IsS99.set_1 | apply IsS99.set_2) | exact HI0.out)); (case side2 => repeat (first | (with_reducible first | exact HB.out | apply Zf | apply Zd | apply Ze | refine Zg ?_ (IsS99.ge HI0.out)) | exact HB.out)); rintro e w12 ⟨rfl, hi, hb, hk⟩; refine ⟨_, rfl, ?_⟩; replace HK := Zh (KeepBut.trans (by repeat (first | (with_reducible first | exact HK.out | apply KeepBut.set_ | apply keep_drewN | apply keep_drew | apply keep_alloc) | exact HK.out)) hk (.inl rfl)); replace HB := Zh (hb); replace HI0 := Zh (hi); (try clear hb); (try clear hb2); (try clear hk); (try clear hi)) | ((with_reducible refine gate_callee (f := 100) rfl ?_); refine ZG (some 19) Tryd.func100 #[.pointer (some ⟨g, 0, none⟩)] rfl ?_; (with_reducible refine (spec_l01Byte.calls g s0_0 t622 t623 t624 t625 t626 w0 _ ?side1 ?side2 A9.out).mono ?_); (case side1 => repeat (first | (with_reducible first | exact HI0.out | apply IsS99.alloc | apply IsS99.drewN | apply IsS99.drew | apply IsS99.set_1 | apply IsS99.set_2) | exact HI0.out)); (case side2 => repeat (first | (with_reducible first | exact HB.out | apply Zf | apply Zd | apply Ze | refine Zg ?_ (IsS99.ge HI0.out)) | exact HB.out)); rintro e w13 ⟨rfl, hi, hb, hk⟩; refine ⟨_, rfl, ?_⟩; replace HK := Zh (KeepBut.trans (by repeat (first | (with_reducible first | exact HK.out | apply KeepBut.set_ | apply keep_drewN | apply keep_drew | apply keep_alloc) | exact HK.out)) hk (.inl rfl)); replace HB := Zh (hb); replace HI0 := Zh (hi); (try clear hb); (try clear hb2); (try clear hk); (try clear hi)) | ((with_reducible refine gate_callee (f := 100) rfl ?_); refine ZG (some 21) Tryd.func100 #[.pointer (some ⟨g, 0, none⟩)] rfl ?_; (with_reducible refine (spec_l01Byte.calls g s0_0 t625 t626 t627 t628 t629 w0 _ ?side1 ?side2 A10.out).mono ?_); (case side1 => repeat (first | (with_reducible first | exact HI0.out | apply IsS99.alloc | apply IsS99.drewN | apply IsS99.drew | apply IsS99.set_1 | apply IsS99.set_2) | exact HI0.out)); (case side2 => repeat (first | (with_reducible first | exact HB.out | apply Zf | apply Zd | apply Ze | refine Zg ?_ (IsS99.ge HI0.out)) | exact HB.out)); rintro e w14 ⟨rfl, hi, hb, hk⟩; refine ⟨_, rfl, ?_⟩; replace HK := Zh (KeepBut.trans (by repeat (first | (with_reducible first | exact HK.out | apply KeepBut.set_ | apply keep_drewN | apply keep_drew | apply keep_alloc) | exact HK.out)) hk (.inl rfl)); replace HB := Zh (hb); replace HI0 := Zh (hi); (try clear hb); (try clear hb2); (try clear hk); (try clear hi)))
 go_ret
 exact ⟨ZE, by repeat (first | (with_reducible first | exact HI0.out | apply IsS99.alloc | apply IsS99.drewN | apply IsS99.drew | apply IsS99.set_1 | apply IsS99.set_2) | exact HI0.out), by repeat (first | (with_reducible first | exact HB.out | apply Zf | apply Zd | apply Ze | refine Zg ?_ (IsS99.ge HI0.out)) | exact HB.out), by repeat (first | (with_reducible first | exact HK.out | apply KeepBut.set_ | apply keep_drewN | apply keep_drew | apply keep_alloc) | exact HK.out)⟩
def spec_l01PickInt.f (s0_0 : List Int) (s0_1 : Int) (s0_2 : Int) (l1 : List Int) : Option (Int × Int × Int) := (spec_l01Below.f s0_0 s0_1 s0_2 (l1.length : Int)).bind fun bt630 => (if 0 ≤ bt630.1 then (if bt630.1 < (l1.length : Int) then (some (rd l1 bt630.1, bt630.2.1, bt630.2.2)) else (none)) else (none))
set_option maxHeartbeats 8000000 in
set_option maxRecDepth 100000 in
theorem spec_l01PickInt.calls (g : Nat) (s0_0 : List Int) (s0_1 : Int) (s0_2 : Int) (A1 : Option Addr) (c1 : Nat) (l1 : List Int) (r1 : Int) (r2 : Int) (r3 : Int) (w0 w : World) (hI : IsS99 w0 w g s0_0 s0_1 s0_2) (hB : Below w0.heap.size w0 w) (hr1 : Kd.C (Kd.int .i64) w A1 l1.length l1) (hc1 : l1.length ≤ c1) (hf1 : ∀ ad, A1 = some ad → 0 < l1.length → ad.block ≠ g) (h : spec_l01PickInt.f s0_0 s0_1 s0_2 l1 = some (r1, r2, r3)) :
  Calls Tryd.prog 101 #[.pointer (some ⟨g, 0, none⟩), .slice A1 l1.length c1] w fun e w' => e = .returned (.int .i64 r1) ∧ IsS99 w0 w' g s0_0 r2 r3 ∧ Below w0.heap.size w0 w' ∧ KeepBut w w' g none := by
 have HR1 := Zh hr1
 have HC1 := Zh hc1
 clear hr1 hc1
 have HI0 := Zh hI
 have HK := Zh (KeepBut.refl w g none)
 have HL := Zh hB.size
 clear hI
 have HW0 := Zh hB.size
 have HB := Zh hB
 clear hB
 have H : ((spec_l01Below.f s0_0 s0_1 s0_2 (l1.length : Int)).bind fun bt630 => (if 0 ≤ bt630.1 then (if bt630.1 < (l1.length : Int) then (some (rd l1 bt630.1, bt630.2.1, bt630.2.2)) else (none)) else (none))) = some (r1, r2, r3) := h
 clear h
 replace H := Option.bind_eq_some_iff.mp H
 obtain ⟨⟨t630, t631, t632⟩, A30, H⟩ := H
 replace H : (if 0 ≤ t630 then (if t630 < (l1.length : Int) then (some (rd l1 t630, t631, t632)) else (none)) else (none)) = some (r1, r2, r3) := H
 have A3 := Zh A30
 clear A30
 by_cases c4 : 0 ≤ t630
 ·
  rw [if_pos c4] at H
  have c4b0 : decide (0 ≤ t630) = true := decide_eq_true c4
  clear c4
  by_cases c5 : t630 < (l1.length : Int)
  ·
   rw [if_pos c5] at H
   have c5b0 : decide (t630 < (l1.length : Int)) = true := decide_eq_true c5
   clear c5
   simp only [Option.some.injEq, Prod.mk.injEq] at H
   obtain ⟨rfl, rfl, rfl⟩ := H
   go_enter Tryd.func101, Tryd.ntmps101
   go_wp2_with (first | ((with_reducible refine gate_callee (f := 70) rfl ?_); refine ZG (some 9) Tryd.func70 #[.pointer (some ⟨g, 0, none⟩), .int .i64 (l1.length : Int)] rfl ?_; (with_reducible refine (spec_l01Below.calls g s0_0 s0_1 s0_2 (l1.length : Int) t630 t631 t632 w0 _ ?side1 ?side2 A3.out).mono ?_); (case side1 => repeat (first | (with_reducible first | exact HI0.out | apply IsS99.alloc | apply IsS99.drewN | apply IsS99.drew | apply IsS99.set_1 | apply IsS99.set_2) | exact HI0.out)); (case side2 => repeat (first | (with_reducible first | exact HB.out | apply Zf | apply Zd | apply Ze | refine Zg ?_ (IsS99.ge HI0.out)) | exact HB.out)); rintro e w6 ⟨rfl, hi, hb, hk⟩; refine ⟨_, rfl, ?_⟩; replace HK := Zh (KeepBut.trans (by repeat (first | (with_reducible first | exact HK.out | apply KeepBut.set_ | apply keep_drewN | apply keep_drew | apply keep_alloc) | exact HK.out)) hk (.inl rfl)); replace HB := Zh (hb); replace HI0 := Zh (hi); (try clear hb); (try clear hb2); (try clear hk); (try clear hi); have p633 : 0 ≤ (t630 : Int) := Zo; have q633 : t630 < (l1.length : Int) := Zo; obtain ⟨ad633, e633, hx633_0⟩ := Kd.at_int HR1.out t630 p633 q633; cases e633; replace hx633_0 := keep_cell HK.out hx633_0 (by first | (rw [add_block]; exact hf1 _ rfl (by omega)) | exact hf1 _ rfl (by omega) | exact hf1 ad633 rfl (by omega)); replace p633 := eq_true p633; replace q633 := eq_true q633))
   go_ret
   exact ⟨ZE, by repeat (first | (with_reducible first | exact HI0.out | apply IsS99.alloc | apply IsS99.drewN | apply IsS99.drew | apply IsS99.set_1 | apply IsS99.set_2) | exact HI0.out), by repeat (first | (with_reducible first | exact HB.out | apply Zf | apply Zd | apply Ze | refine Zg ?_ (IsS99.ge HI0.out)) | exact HB.out), by repeat (first | (with_reducible first | exact HK.out | apply KeepBut.set_ | apply keep_drewN | apply keep_drew | apply keep_alloc) | exact HK.out)⟩
  rw [if_neg c5] at H
  exact absurd H (by simp)
 rw [if_neg c4] at H
 exact absurd H (by simp)
def spec_l01DrawBytes.l0 : Nat → Int → List Int → Int → List Int → Int → Int → Option (List Int × Int × Int)
 | 0, _, _, _, _, _, _ => none
 | k + 1, x1, x5, x6, x1000, x1001, x1002 => if x6 < x1 then ((spec_l01Below.f x1000 x1001 x1002 256).bind fun bt637 => ((spec_l01Below.f x1000 bt637.2.1 bt637.2.2 256).bind fun bt640 => ((spec_l01PickInt.f x1000 bt640.2.1 bt640.2.2 (([0, 1, 255, 128, bt637.1, bt640.1] : List Int))).bind fun bt646 => (if x5.length < 140737488355328 then (spec_l01DrawBytes.l0 k x1 (x5 ++ [(bt646.1) % 256]) (wrap64 (x6 + 1)) x1000 bt646.2.1 bt646.2.2) else (none))))) else (some (x5, x1001, x1002))
def spec_l01DrawBytes.f (k : Nat) (s0_0 : List Int) (s0_1 : Int) (s0_2 : Int) (a1 : Int) : Option (List Int × Int × Int) := spec_l01DrawBytes.l0 k a1 (([] : List Int)) 0 s0_0 s0_1 s0_2
set_option maxHeartbeats 8000000 in
set_option maxRecDepth 100000 in
theorem spec_l01DrawBytes.calls (k : Nat) (g : Nat) (s0_0 : List Int) (s0_1 : Int) (s0_2 : Int) (a1 : Int) (r1 : List Int) (r2 : Int) (r3 : Int) (w0 w : World) (hI : IsS99 w0 w g s0_0 s0_1 s0_2) (hB : Below w0.heap.size w0 w) (h : spec_l01DrawBytes.f k s0_0 s0_1 s0_2 a1 = some (r1, r2, r3)) :
  Calls Tryd.prog 71 #[.pointer (some ⟨g, 0, none⟩), .int .i64 a1] w fun e w' => ∃ v0_ : Value, e = .returned (v0_) ∧ Kd.R (Kd.int .u8) 5 w' w.heap.size (fun _ => True) v0_ r1 ∧ IsS99 w0 w' g s0_0 r2 r3 ∧ Below w0.heap.size w0 w' ∧ KeepBut w w' g none := by
 have HI0 := Zh hI
 have HK := Zh (KeepBut.refl w g none)
 have HL := Zh hB.size
 clear hI
 have HW0 := Zh hB.size
 have HB := Zh hB
 clear hB
 have H : (spec_l01DrawBytes.l0 k a1 (([] : List Int)) 0 s0_0 s0_1 s0_2) = some (r1, r2, r3) := h
 clear h
 obtain ⟨y634, hy634⟩ : ∃ y_ : List Int, y_ = (([] : List Int)) := ⟨_, rfl⟩
 replace H : (spec_l01DrawBytes.l0 k a1 y634 0 s0_0 s0_1 s0_2) = some (r1, r2, r3) := by first | (rw [hy634]; with_reducible exact H) | (have H2_ := (Option.bind_some _ _).symm.trans H; rw [hy634]; with_reducible exact H2_) | (have H2_ := (Option.bind_some _ _).symm.trans H; with_reducible exact H2_) | with_reducible exact H | (rw [hy634]; exact H) | exact H
 have Ny634 := Zh hy634
 clear hy634
 have H' := Zh H
 clear H
 go_enter Tryd.func71, Tryd.ntmps71
 go_wp2_with (first | ((with_reducible refine gate_dst (N := 7) rfl ?_); refine R_lit (Kd.int .u8) _ 5 ?hg (N := 7) ?hd (xs := ([] : List Int)) (inner := []) (ok := fun _ => True) (okp := fun _ => True) ?hr ?hp (fun _ hk => hk) trivial (Below.refl _ _) (Nat.le_refl _) (by simp) ?_; (case hd => rfl); (case hg => rfl); (case hr => first | (go_simp; done) | (go_simp; rfl)); (case hp => exact (Reps.none _ _)); intro v635 w3 ho4 hb hg_ hnew_; clear hg_ hnew_; (first | rw [← Ny634.out] at ho4 | (simp only [Int.reduceToNat] at ho4; rw [← Ny634.out] at ho4)); have HO636 := Zh (R_lower ho4 (keep_size (w := w) (g := g) (row := none) (by repeat (first | (with_reducible first | exact HK.out | apply KeepBut.set_ | apply keep_drewN | apply keep_drew | apply keep_alloc) | exact HK.out)))); replace HK := Zh (KeepBut.trans (by repeat (first | (with_reducible first | exact HK.out | apply KeepBut.set_ | apply keep_drewN | apply keep_drew | apply keep_alloc) | exact HK.out)) (KeepBut.of_below hb g none) (.inl rfl)); replace HB := Zh (Zl (by repeat (first | (with_reducible first | exact HB.out | apply Zf | apply Zd | apply Ze | refine Zg ?_ (IsS99.ge HI0.out)) | exact HB.out)) hb); replace HI0 := Zh (IsS99.below (by repeat (first | (with_reducible first | exact HI0.out | apply IsS99.alloc | apply IsS99.drewN | apply IsS99.drew | apply IsS99.set_1 | apply IsS99.set_2) | exact HI0.out)) hb); clear hb ho4))
 go_loopg [5, 6] k (fun kq v5 v6 w' => ∃ (x5_1 : List Int) (x6_1 : Int) (x1001_1 : Int) (x1002_1 : Int), v6 = .int .i64 x6_1 ∧ Aside0 (spec_l01DrawBytes.l0 kq a1 x5_1 x6_1 s0_0 x1001_1 x1002_1 = some (r1, r2, r3)) ∧ Aside0 (kq ≤ k) ∧ Aside0 (Kd.R (Kd.int .u8) 5 w' w.heap.size (fun _ => True) v5 x5_1) ∧ Aside0 (IsS99 w0 w' g s0_0 x1001_1 x1002_1) ∧ Aside0 (KeepBut w w' g none) ∧ Aside0 (Below w0.heap.size w0 w'))
 case atStart => exact ⟨(y634), (0), (s0_1), (s0_2), (by first | rfl | (simp; done) | (simp [*]; done)), H', ⟨Nat.le_refl _⟩, ⟨ZR HO636.out⟩, ⟨by repeat (first | (with_reducible first | exact HI0.out | apply IsS99.alloc | apply IsS99.drewN | apply IsS99.drew | apply IsS99.set_1 | apply IsS99.set_2) | exact HI0.out)⟩, ⟨by repeat (first | (with_reducible first | exact HK.out | apply KeepBut.set_ | apply keep_drewN | apply keep_drew | apply keep_alloc) | exact HK.out)⟩, ⟨by repeat (first | (with_reducible first | exact HB.out | apply Zf | apply Zd | apply Ze | refine Zg ?_ (IsS99.ge HI0.out)) | exact HB.out)⟩⟩
 case round =>
  clear H'
  try clear p2
  obtain ⟨x5_1, x6_1, x1001_1, x1002_1, rfl, HA, HK1, HO_5, HI0, HK, HB⟩ := hrel
  cases gk with
  | zero => exact absurd HA.out (by simp [spec_l01DrawBytes.l0])
  | succ k1 =>
   have H := HA.out
   clear HA
   simp only [spec_l01DrawBytes.l0] at H
   by_cases c5 : x6_1 < a1
   ·
    rw [if_pos c5] at H
    have c5b0 : decide (x6_1 < a1) = true := decide_eq_true c5
    clear c5
    replace H := Option.bind_eq_some_iff.mp H
    obtain ⟨⟨t637, t638, t639⟩, A60, H⟩ := H
    replace H : ((spec_l01Below.f s0_0 t638 t639 256).bind fun bt640 => ((spec_l01PickInt.f s0_0 bt640.2.1 bt640.2.2 (([0, 1, 255, 128, t637, bt640.1] : List Int))).bind fun bt646 => (if x5_1.length < 140737488355328 then (spec_l01DrawBytes.l0 k1 a1 (x5_1 ++ [(bt646.1) % 256]) (wrap64 (x6_1 + 1)) s0_0 bt646.2.1 bt646.2.2) else (none)))) = some (r1, r2, r3) := H
    have A6 := Zh A60
    clear A60
    replace H := Option.bind_eq_some_iff.mp H
    obtain ⟨⟨t640, t641, t642⟩, A70, H⟩ := H
    replace H : ((spec_l01PickInt.f s0_0 t641 t642 (([0, 1, 255, 128, t637, t640] : List Int))).bind fun bt646 => (if x5_1.length < 140737488355328 then (spec_l01DrawBytes.l0 k1 a1 (x5_1 ++ [(bt646.1) % 256]) (wrap64 (x6_1 + 1)) s0_0 bt646.2.1 bt646.2.2) else (none))) = some (r1, r2, r3) := H
    have A7 := Zh A70
    clear A70
    obtain ⟨y643, hy643⟩ : ∃ y_ : List Int, y_ = (([0, 1, 255, 128, t637, t640] : List Int)) := ⟨_, rfl⟩
    replace H : ((spec_l01PickInt.f s0_0 t641 t642 y643).bind fun bt646 => (if x5_1.length < 140737488355328 then (spec_l01DrawBytes.l0 k1 a1 (x5_1 ++ [(bt646.1) % 256]) (wrap64 (x6_1 + 1)) s0_0 bt646.2.1 bt646.2.2) else (none))) = some (r1, r2, r3) := by first | (rw [hy643]; with_reducible exact H) | (have H2_ := (Option.bind_some _ _).symm.trans H; rw [hy643]; with_reducible exact H2_) | (have H2_ := (Option.bind_some _ _).symm.trans H; with_reducible exact H2_) | with_reducible exact H | (rw [hy643]; exact H) | exact H
    have Ny643 := Zh hy643
    clear hy643
    replace H := Option.bind_eq_some_iff.mp H
    obtain ⟨⟨t646, t647, t648⟩, A80, H⟩ := H
    replace H : (if x5_1.length < 140737488355328 then (spec_l01DrawBytes.l0 k1 a1 (x5_1 ++ [(t646) % 256]) (wrap64 (x6_1 + 1)) s0_0 t647 t648) else (none)) = some (r1, r2, r3) := H
    have A8 := Zh A80
    clear A80
    by_cases c9 : x5_1.length < 140737488355328
    ·
     rw [if_pos c9] at H
     have LMc9 := Zh c9
     clear c9
     obtain ⟨y649, hy649⟩ : ∃ y_ : List Int, y_ = (x5_1 ++ [(t646) % 256]) := ⟨_, rfl⟩
     replace H : (spec_l01DrawBytes.l0 k1 a1 y649 (wrap64 (x6_1 + 1)) s0_0 t647 t648) = some (r1, r2, r3) := by first | (rw [hy649]; with_reducible exact H) | (have H2_ := (Option.bind_some _ _).symm.trans H; rw [hy649]; with_reducible exact H2_) | (have H2_ := (Option.bind_some _ _).symm.trans H; with_reducible exact H2_) | with_reducible exact H | (rw [hy649]; exact H) | exact H
     have Ny649 := Zh hy649
     clear hy649
     have H' := Zh H
     clear H
     go_wp2_with (first | ((with_reducible refine gate_callee (f := 70) rfl ?_); refine ZG (some 16) Tryd.func70 #[.pointer (some ⟨g, 0, none⟩), .int .i64 256] rfl ?_; (with_reducible refine (spec_l01Below.calls g s0_0 x1001_1 x1002_1 256 t637 t638 t639 w0 _ ?side1 ?side2 A6.out).mono ?_); (case side1 => repeat (first | (with_reducible first | exact HI0.out | apply IsS99.alloc | apply IsS99.drewN | apply IsS99.drew | apply IsS99.set_1 | apply IsS99.set_2) | exact HI0.out)); (case side2 => repeat (first | (with_reducible first | exact HB.out | apply Zf | apply Zd | apply Ze | refine Zg ?_ (IsS99.ge HI0.out)) | exact HB.out)); rintro e w10 ⟨rfl, hi, hb, hk⟩; refine ⟨_, rfl, ?_⟩; replace HO_5 := Zh (R_mono (R_keep (IsS99.apart (show IsS99 w0 _ g s0_0 x1001_1 x1002_1 from by repeat (first | (with_reducible first | exact HI0.out | apply IsS99.alloc | apply IsS99.drewN | apply IsS99.drew | apply IsS99.set_1 | apply IsS99.set_2) | exact HI0.out)) (ZR HO_5.out) (by decide)) hk (fun _ h => h.2)) (fun _ h => h.1)); replace HK := Zh (KeepBut.trans (by repeat (first | (with_reducible first | exact HK.out | apply KeepBut.set_ | apply keep_drewN | apply keep_drew | apply keep_alloc) | exact HK.out)) hk (.inl rfl)); replace HB := Zh (hb); replace HI0 := Zh (hi); (try clear hb); (try clear hb2); (try clear hk); (try clear hi)) | ((with_reducible refine gate_callee (f := 70) rfl ?_); refine ZG (some 18) Tryd.func70 #[.pointer (some ⟨g, 0, none⟩), .int .i64 256] rfl ?_; (with_reducible refine (spec_l01Below.calls g s0_0 t638 t639 256 t640 t641 t642 w0 _ ?side1 ?side2 A7.out).mono ?_); (case side1 => repeat (first | (with_reducible first | exact HI0.out | apply IsS99.alloc | apply IsS99.drewN | apply IsS99.drew | apply IsS99.set_1 | apply IsS99.set_2) | exact HI0.out)); (case side2 => repeat (first | (with_reducible first | exact HB.out | apply Zf | apply Zd | apply Ze | refine Zg ?_ (IsS99.ge HI0.out)) | exact HB.out)); rintro e w11 ⟨rfl, hi, hb, hk⟩; refine ⟨_, rfl, ?_⟩; replace HO_5 := Zh (R_mono (R_keep (IsS99.apart (show IsS99 w0 _ g s0_0 t638 t639 from by repeat (first | (with_reducible first | exact HI0.out | apply IsS99.alloc | apply IsS99.drewN | apply IsS99.drew | apply IsS99.set_1 | apply IsS99.set_2) | exact HI0.out)) (ZR HO_5.out) (by decide)) hk (fun _ h => h.2)) (fun _ h => h.1)); replace HK := Zh (KeepBut.trans (by repeat (first | (with_reducible first | exact HK.out | apply KeepBut.set_ | apply keep_drewN | apply keep_drew | apply keep_alloc) | exact HK.out)) hk (.inl rfl)); replace HB := Zh (hb); replace HI0 := Zh (hi); (try clear hb); (try clear hb2); (try clear hk); (try clear hi)) | ((with_reducible refine gate_dst (N := 19) rfl ?_); refine R_lit (Kd.int .i64) _ 3 ?hg (N := 19) ?hd (xs := ([0, 1, 255, 128, t637, t640] : List Int)) (inner := [.int .i64 0, .int .i64 1, .int .i64 255, .int .i64 128, .int .i64 t637, .int .i64 t640]) (ok := fun _ => True) (okp := fun _ => True) ?hr ?hp (fun _ hk => hk) trivial (Below.refl _ _) (Nat.le_refl _) (by simp) ?_; (case hd => rfl); (case hg => rfl); (case hr => first | (go_simp; done) | (go_simp; rfl)); (case hp => exact (Reps.one (show Kd.M (Kd.int .i64) _ _ _ 0 [.int .i64 0] from rfl) (Reps.one (show Kd.M (Kd.int .i64) _ _ _ 1 [.int .i64 1] from rfl) (Reps.one (show Kd.M (Kd.int .i64) _ _ _ 255 [.int .i64 255] from rfl) (Reps.one (show Kd.M (Kd.int .i64) _ _ _ 128 [.int .i64 128] from rfl) (Reps.one (show Kd.M (Kd.int .i64) _ _ _ t637 [.int .i64 t637] from rfl) (Reps.one (show Kd.M (Kd.int .i64) _ _ _ t640 [.int .i64 t640] from rfl) (Reps.none _ _)))))))); intro v644 w12 ho13 hb hg_ hnew_; clear hg_ hnew_; (first | rw [← Ny643.out] at ho13 | (simp only [Int.reduceToNat] at ho13; rw [← Ny643.out] at ho13)); replace HO_5 := Zh (R_below (ZR HO_5.out) hb); have HO645 := Zh (R_lower ho13 (keep_size (w := w) (g := g) (row := none) (by repeat (first | (with_reducible first | exact HK.out | apply KeepBut.set_ | apply keep_drewN | apply keep_drew | apply keep_alloc) | exact HK.out)))); replace HK := Zh (KeepBut.trans (by repeat (first | (with_reducible first | exact HK.out | apply KeepBut.set_ | apply keep_drewN | apply keep_drew | apply keep_alloc) | exact HK.out)) (KeepBut.of_below hb g none) (.inl rfl)); replace HB := Zh (Zl (by repeat (first | (with_reducible first | exact HB.out | apply Zf | apply Zd | apply Ze | refine Zg ?_ (IsS99.ge HI0.out)) | exact HB.out)) hb); replace HI0 := Zh (IsS99.below (by repeat (first | (with_reducible first | exact HI0.out | apply IsS99.alloc | apply IsS99.drewN | apply IsS99.drew | apply IsS99.set_1 | apply IsS99.set_2) | exact HI0.out)) hb); clear hb ho13; obtain ⟨Ao14, co14, eo14⟩ := R_slice HO645.out; subst eo14) | ((with_reducible refine gate_callee (f := 101) rfl ?_); refine ZG (some 20) Tryd.func101 #[.pointer (some ⟨g, 0, none⟩), .slice Ao14 y643.length co14] rfl ?_; (with_reducible refine (spec_l01PickInt.calls g s0_0 t641 t642 _ _ y643 t646 t647 t648 w0 _ ?side1 ?side2 ?side3 ?side4 ?side5 A8.out).mono ?_); (case side1 => repeat (first | (with_reducible first | exact HI0.out | apply IsS99.alloc | apply IsS99.drewN | apply IsS99.drew | apply IsS99.set_1 | apply IsS99.set_2) | exact HI0.out)); (case side2 => repeat (first | (with_reducible first | exact HB.out | apply Zf | apply Zd | apply Ze | refine Zg ?_ (IsS99.ge HI0.out)) | exact HB.out)); (case side3 => repeat (first | exact (R_reads' HO645.out).2.2 | (with_reducible refine C_alloc ?_ _) | (with_reducible refine C_drewN ?_ _) | (with_reducible refine C_drew ?_))); (case side4 => exact (R_reads' HO645.out).2.1); (case side5 => exact far_slice (IsS99.own_ne HI0.out HO645.out (by decide))); rintro e w15 ⟨rfl, hi, hb, hk⟩; refine ⟨_, rfl, ?_⟩; replace HO_5 := Zh (R_mono (R_keep (IsS99.apart (show IsS99 w0 _ g s0_0 t641 t642 from by repeat (first | (with_reducible first | exact HI0.out | apply IsS99.alloc | apply IsS99.drewN | apply IsS99.drew | apply IsS99.set_1 | apply IsS99.set_2) | exact HI0.out)) (ZR HO_5.out) (by decide)) hk (fun _ h => h.2)) (fun _ h => h.1)); replace HO645 := Zh (R_mono (R_keep (IsS99.apart (show IsS99 w0 _ g s0_0 t641 t642 from by repeat (first | (with_reducible first | exact HI0.out | apply IsS99.alloc | apply IsS99.drewN | apply IsS99.drew | apply IsS99.set_1 | apply IsS99.set_2) | exact HI0.out)) (ZR HO645.out) (by decide)) hk (fun _ h => h.2)) (fun _ h => h.1)); replace HK := Zh (KeepBut.trans (by repeat (first | (with_reducible first | exact HK.out | apply KeepBut.set_ | apply keep_drewN | apply keep_drew | apply keep_alloc) | exact HK.out)) hk (.inl rfl)); replace HB := Zh (hb); replace HI0 := Zh (hi); (try clear hb); (try clear hb2); (try clear hk); (try clear hi)) | ((with_reducible refine gate_builtin (b := .append) (xs := #[.tmp 13, .tmp 22]) rfl ?_); at_builtin; refine R_append (Kd.int .u8) w.heap.size rfl (.tmp 13) (.tmp 22) 41 5 (.int .u8 0) 1 rfl Tryd.underlying41 info5 rfl (by decide) (by omega) u5 x5_1 ((t646) % 256) [.int .u8 ((t646) % 256)] (fun _ => True) (fun _ => False) rfl rfl ?aP (fun _ hk => hk.elim) ?aF ?aO (Below.refl _ _) ?aS ?aL ?_; (case aP => exact rfl); (case aF => exact (fun _ _ => trivial)); (case aO => exact (ZR HO_5.out)); (case aS => exact (keep_size (w := w) (g := g) (row := none) (by repeat (first | (with_reducible first | exact HK.out | apply KeepBut.set_ | apply keep_drewN | apply keep_drew | apply keep_alloc) | exact HK.out)))); (case aL => have := LMc9.out; omega); intro v650 w16 ho hb hg hat; rw [← Ny649.out] at ho; have n0_ := Zh (IsS99.grown (show IsS99 w0 _ g s0_0 t647 t648 from by repeat (first | (with_reducible first | exact HI0.out | apply IsS99.alloc | apply IsS99.drewN | apply IsS99.drew | apply IsS99.set_1 | apply IsS99.set_2) | exact HI0.out)) hg (IsS99.own_ne HI0.out HO_5.out (by decide))); have n1_ := Zh (R_over' (ZR HO645.out) (R_typed (ZR HO_5.out)) (by decide) hg); have n2_ := Zh (below_weaken (by repeat (first | (with_reducible first | exact HB.out | apply Zf | apply Zd | apply Ze | refine Zg ?_ (IsS99.ge HI0.out)) | exact HB.out)) HL.out hb); have n3_ := Zh (KeepBut.trans (by repeat (first | (with_reducible first | exact HK.out | apply KeepBut.set_ | apply keep_drewN | apply keep_drew | apply keep_alloc) | exact HK.out)) (KeepBut.of_grown hg g) (R_base2 HO_5.out)); have n4_ := Zh (ho); clear HI0; clear HO645; clear HB; clear HK; clear HO_5; have HI0 := n0_; have HO645 := n1_; have HB := n2_; have HK := n3_; have HO651 := n4_; clear n0_ n1_ n2_ n3_ n4_; clear ho hb hg hat))
     go_roundg k1
     case measure => have := HK1.out; omega
     case rel => exact ⟨(y649), (wrap64 (x6_1 + 1)), (t647), (t648), (by first | rfl | (simp; done) | (simp [*]; done)), H', ⟨by have := HK1.out; omega⟩, ⟨ZR HO651.out⟩, ⟨by repeat (first | (with_reducible first | exact HI0.out | apply IsS99.alloc | apply IsS99.drewN | apply IsS99.drew | apply IsS99.set_1 | apply IsS99.set_2) | exact HI0.out)⟩, ⟨by repeat (first | (with_reducible first | exact HK.out | apply KeepBut.set_ | apply keep_drewN | apply keep_drew | apply keep_alloc) | exact HK.out)⟩, ⟨by repeat (first | (with_reducible first | exact HB.out | apply Zf | apply Zd | apply Ze | refine Zg ?_ (IsS99.ge HI0.out)) | exact HB.out)⟩⟩
    rw [if_neg c9] at H
    exact absurd H (by simp)
   rw [if_neg c5] at H
   have c5b0 : decide (x6_1 < a1) = false := decide_eq_false c5
   clear c5
   simp only [Option.some.injEq, Prod.mk.injEq] at H
   obtain ⟨rfl, rfl, rfl⟩ := H
   go_wp2
   go_ret
   exact ⟨_, ZE, ZR HO_5.out, by repeat (first | (with_reducible first | exact HI0.out | apply IsS99.alloc | apply IsS99.drewN | apply IsS99.drew | apply IsS99.set_1 | apply IsS99.set_2) | exact HI0.out), by repeat (first | (with_reducible first | exact HB.out | apply Zf | apply Zd | apply Ze | refine Zg ?_ (IsS99.ge HI0.out)) | exact HB.out), by repeat (first | (with_reducible first | exact HK.out | apply KeepBut.set_ | apply keep_drewN | apply keep_drew | apply keep_alloc) | exact HK.out)⟩
def spec_l01Once.f (s0_0 : List Int) (s0_1 : Int) (s0_2 : Int) (a1 : Int) : Option (Bool × Int × Int) := (spec_l01Below.f s0_0 s0_1 s0_2 a1).bind fun bt652 => (some ((bt652.1 == 0), bt652.2.1, bt652.2.2))
set_option maxHeartbeats 8000000 in
set_option maxRecDepth 100000 in
theorem spec_l01Once.calls (g : Nat) (s0_0 : List Int) (s0_1 : Int) (s0_2 : Int) (a1 : Int) (r1 : Bool) (r2 : Int) (r3 : Int) (w0 w : World) (hI : IsS99 w0 w g s0_0 s0_1 s0_2) (hB : Below w0.heap.size w0 w) (h : spec_l01Once.f s0_0 s0_1 s0_2 a1 = some (r1, r2, r3)) :
  Calls Tryd.prog 97 #[.pointer (some ⟨g, 0, none⟩), .int .i64 a1] w fun e w' => e = .returned (.bool r1) ∧ IsS99 w0 w' g s0_0 r2 r3 ∧ Below w0.heap.size w0 w' ∧ KeepBut w w' g none := by
 have HI0 := Zh hI
 have HK := Zh (KeepBut.refl w g none)
 have HL := Zh hB.size
 clear hI
 have HW0 := Zh hB.size
 have HB := Zh hB
 clear hB
 have H : ((spec_l01Below.f s0_0 s0_1 s0_2 a1).bind fun bt652 => (some ((bt652.1 == 0), bt652.2.1, bt652.2.2))) = some (r1, r2, r3) := h
 clear h
 replace H := Option.bind_eq_some_iff.mp H
 obtain ⟨⟨t652, t653, t654⟩, A30, H⟩ := H
 replace H : (some ((t652 == 0), t653, t654)) = some (r1, r2, r3) := H
 have A3 := Zh A30
 clear A30
 simp only [Option.some.injEq, Prod.mk.injEq] at H
 obtain ⟨rfl, rfl, rfl⟩ := H
 go_enter Tryd.func97, Tryd.ntmps97
 go_wp2_with (first | ((with_reducible refine gate_callee (f := 70) rfl ?_); refine ZG (some 7) Tryd.func70 #[.pointer (some ⟨g, 0, none⟩), .int .i64 a1] rfl ?_; (with_reducible refine (spec_l01Below.calls g s0_0 s0_1 s0_2 a1 t652 t653 t654 w0 _ ?side1 ?side2 A3.out).mono ?_); (case side1 => repeat (first | (with_reducible first | exact HI0.out | apply IsS99.alloc | apply IsS99.drewN | apply IsS99.drew | apply IsS99.set_1 | apply IsS99.set_2) | exact HI0.out)); (case side2 => repeat (first | (with_reducible first | exact HB.out | apply Zf | apply Zd | apply Ze | refine Zg ?_ (IsS99.ge HI0.out)) | exact HB.out)); rintro e w4 ⟨rfl, hi, hb, hk⟩; refine ⟨_, rfl, ?_⟩; replace HK := Zh (KeepBut.trans (by repeat (first | (with_reducible first | exact HK.out | apply KeepBut.set_ | apply keep_drewN | apply keep_drew | apply keep_alloc) | exact HK.out)) hk (.inl rfl)); replace HB := Zh (hb); replace HI0 := Zh (hi); (try clear hb); (try clear hb2); (try clear hk); (try clear hi)))
 go_ret
 exact ⟨ZE, by repeat (first | (with_reducible first | exact HI0.out | apply IsS99.alloc | apply IsS99.drewN | apply IsS99.drew | apply IsS99.set_1 | apply IsS99.set_2) | exact HI0.out), by repeat (first | (with_reducible first | exact HB.out | apply Zf | apply Zd | apply Ze | refine Zg ?_ (IsS99.ge HI0.out)) | exact HB.out), by repeat (first | (with_reducible first | exact HK.out | apply KeepBut.set_ | apply keep_drewN | apply keep_drew | apply keep_alloc) | exact HK.out)⟩
def spec_l01PickText.f (s0_0 : List Int) (s0_1 : Int) (s0_2 : Int) (l1 : List ByteArray) : Option (ByteArray × Int × Int) := (spec_l01Below.f s0_0 s0_1 s0_2 (l1.length : Int)).bind fun bt655 => (if 0 ≤ bt655.1 then (if bt655.1 < (l1.length : Int) then (some (rdOf ByteArray.empty l1 bt655.1, bt655.2.1, bt655.2.2)) else (none)) else (none))
set_option maxHeartbeats 8000000 in
set_option maxRecDepth 100000 in
theorem spec_l01PickText.calls (g : Nat) (s0_0 : List Int) (s0_1 : Int) (s0_2 : Int) (A1 : Option Addr) (c1 : Nat) (l1 : List ByteArray) (r1 : ByteArray) (r2 : Int) (r3 : Int) (w0 w : World) (hI : IsS99 w0 w g s0_0 s0_1 s0_2) (hB : Below w0.heap.size w0 w) (hr1 : Kd.C Kd.string w A1 l1.length l1) (hc1 : l1.length ≤ c1) (hf1 : ∀ ad, A1 = some ad → 0 < l1.length → ad.block ≠ g) (h : spec_l01PickText.f s0_0 s0_1 s0_2 l1 = some (r1, r2, r3)) :
  Calls Tryd.prog 98 #[.pointer (some ⟨g, 0, none⟩), .slice A1 l1.length c1] w fun e w' => e = .returned (.string r1) ∧ IsS99 w0 w' g s0_0 r2 r3 ∧ Below w0.heap.size w0 w' ∧ KeepBut w w' g none := by
 have HR1 := Zh hr1
 have HC1 := Zh hc1
 clear hr1 hc1
 have HI0 := Zh hI
 have HK := Zh (KeepBut.refl w g none)
 have HL := Zh hB.size
 clear hI
 have HW0 := Zh hB.size
 have HB := Zh hB
 clear hB
 have H : ((spec_l01Below.f s0_0 s0_1 s0_2 (l1.length : Int)).bind fun bt655 => (if 0 ≤ bt655.1 then (if bt655.1 < (l1.length : Int) then (some (rdOf ByteArray.empty l1 bt655.1, bt655.2.1, bt655.2.2)) else (none)) else (none))) = some (r1, r2, r3) := h
 clear h
 replace H := Option.bind_eq_some_iff.mp H
 obtain ⟨⟨t655, t656, t657⟩, A30, H⟩ := H
 replace H : (if 0 ≤ t655 then (if t655 < (l1.length : Int) then (some (rdOf ByteArray.empty l1 t655, t656, t657)) else (none)) else (none)) = some (r1, r2, r3) := H
 have A3 := Zh A30
 clear A30
 by_cases c4 : 0 ≤ t655
 ·
  rw [if_pos c4] at H
  have c4b0 : decide (0 ≤ t655) = true := decide_eq_true c4
  clear c4
  by_cases c5 : t655 < (l1.length : Int)
  ·
   rw [if_pos c5] at H
   have c5b0 : decide (t655 < (l1.length : Int)) = true := decide_eq_true c5
   clear c5
   simp only [Option.some.injEq, Prod.mk.injEq] at H
   obtain ⟨rfl, rfl, rfl⟩ := H
   go_enter Tryd.func98, Tryd.ntmps98
   go_wp2_with (first | ((with_reducible refine gate_callee (f := 70) rfl ?_); refine ZG (some 9) Tryd.func70 #[.pointer (some ⟨g, 0, none⟩), .int .i64 (l1.length : Int)] rfl ?_; (with_reducible refine (spec_l01Below.calls g s0_0 s0_1 s0_2 (l1.length : Int) t655 t656 t657 w0 _ ?side1 ?side2 A3.out).mono ?_); (case side1 => repeat (first | (with_reducible first | exact HI0.out | apply IsS99.alloc | apply IsS99.drewN | apply IsS99.drew | apply IsS99.set_1 | apply IsS99.set_2) | exact HI0.out)); (case side2 => repeat (first | (with_reducible first | exact HB.out | apply Zf | apply Zd | apply Ze | refine Zg ?_ (IsS99.ge HI0.out)) | exact HB.out)); rintro e w6 ⟨rfl, hi, hb, hk⟩; refine ⟨_, rfl, ?_⟩; replace HK := Zh (KeepBut.trans (by repeat (first | (with_reducible first | exact HK.out | apply KeepBut.set_ | apply keep_drewN | apply keep_drew | apply keep_alloc) | exact HK.out)) hk (.inl rfl)); replace HB := Zh (hb); replace HI0 := Zh (hi); (try clear hb); (try clear hb2); (try clear hk); (try clear hi); have p658 : 0 ≤ (t655 : Int) := Zo; have q658 : t655 < (l1.length : Int) := Zo; obtain ⟨ad658, e658, hx658_0⟩ := Kd.at_string HR1.out t655 p658 q658; cases e658; replace hx658_0 := keep_cell HK.out hx658_0 (by first | (rw [add_block]; exact hf1 _ rfl (by omega)) | exact hf1 _ rfl (by omega) | exact hf1 ad658 rfl (by omega)); replace p658 := eq_true p658; replace q658 := eq_true q658))
   go_ret
   exact ⟨ZE, by repeat (first | (with_reducible first | exact HI0.out | apply IsS99.alloc | apply IsS99.drewN | apply IsS99.drew | apply IsS99.set_1 | apply IsS99.set_2) | exact HI0.out), by repeat (first | (with_reducible first | exact HB.out | apply Zf | apply Zd | apply Ze | refine Zg ?_ (IsS99.ge HI0.out)) | exact HB.out), by repeat (first | (with_reducible first | exact HK.out | apply KeepBut.set_ | apply keep_drewN | apply keep_drew | apply keep_alloc) | exact HK.out)⟩
  rw [if_neg c5] at H
  exact absurd H (by simp)
 rw [if_neg c4] at H
 exact absurd H (by simp)
def spec_l01Size.f (l0 : List Int) (a1 : Int) : Option (Int) := if (wrap64 (2 + (wrap64 ((l0.length : Int) / 16)))) > a1 then (some a1) else (some (wrap64 (2 + (wrap64 ((l0.length : Int) / 16)))))
set_option maxHeartbeats 8000000 in
set_option maxRecDepth 100000 in
theorem spec_l01Size.calls (A0 : Option Addr) (c0 : Nat) (l0 : List Int) (a1 : Int) (r : Int) (w : World) (hr0 : Kd.C (Kd.int .u8) w A0 l0.length l0) (hc0 : l0.length ≤ c0) (h : spec_l01Size.f l0 a1 = some r) :
  Calls Tryd.prog 99 #[.slice A0 l0.length c0, .int .i64 a1] w fun e w' => e = .returned (.int .i64 r) ∧ Drawn0 w w' := by
 have HR0 := Zh hr0
 have HC0 := Zh hc0
 clear hr0 hc0
 have H : (if (wrap64 (2 + (wrap64 ((l0.length : Int) / 16)))) > a1 then (some a1) else (some (wrap64 (2 + (wrap64 ((l0.length : Int) / 16)))))) = some r := h
 clear h
 by_cases c3 : (wrap64 (2 + (wrap64 ((l0.length : Int) / 16)))) > a1
 ·
  rw [if_pos c3] at H
  have c3b0 : decide (a1 < (wrap64 (2 + (wrap64 ((l0.length : Int) / 16))))) = true := decide_eq_true c3
  clear c3
  obtain rfl := Option.some.inj H
  go_enter Tryd.func99, Tryd.ntmps99
  go_wp2
  go_ret
  exact ⟨by first | rfl | (simp; done) | (simp [*]; done), by repeat (first | exact Drawn0.refl _ | apply Drawn0.step)⟩
 rw [if_neg c3] at H
 have c3b0 : decide (a1 < (wrap64 (2 + (wrap64 ((l0.length : Int) / 16))))) = false := decide_eq_false c3
 clear c3
 obtain rfl := Option.some.inj H
 go_enter Tryd.func99, Tryd.ntmps99
 go_wp2
 go_ret
 exact ⟨by first | rfl | (simp; done) | (simp [*]; done), by repeat (first | exact Drawn0.refl _ | apply Drawn0.step)⟩
end Go.Proofs.YtcgojdhbphocgaaDoor.F

namespace Go.Proofs.YtcgojdhbphocgaaDoor.F
open Go.RowKit Go.Proofs.YtcgojdhbphocgaaDoorW.PrintWords Go.Proofs.YtcgojdhbphocgaaDoorW.PrintLast Go.Proofs.YtcgojdhbphocgaaDoorW.PrintMore
open Go.Proofs.YtcgojdhbphocgaaDoor
set_option linter.unusedVariables false
set_option linter.unusedSimpArgs false
def spec_AppendFile.fin (k : Nat) (l0_0 : List S55) (a1 : ByteArray) (d f1 f2 : List Int) : Option (List S55 × Bool) := if (d.length : Int) > wrap64 (wrap64 (20000 - (f1.length : Int)) - (f2.length : Int)) then (spec_l03Copy.f k l0_0).bind fun o => some (o, false) else (spec_l01Join.f k f2 d).bind fun e => (spec_l03Put.f k l0_0 a1 f1 e).bind fun r => some (r, true)
def spec_AppendFile.f (k : Nat) (l0_0 : List S55) (a1 : ByteArray) (d : List Int) : Option (List S55 × Bool) := (spec_l03Find.f k l0_0 a1).bind fun i => (spec_DiskOk.f k l0_0).bind fun t => if t = true then (spec_l01Name.f k a1).bind fun n => if n = true then (if 0 ≤ i then (if i < (l0_0.length : Int) then spec_AppendFile.fin k l0_0 (rd_T55 l0_0 i).f0 d (rd_T55 l0_0 i).f1 (rd_T55 l0_0 i).f2 else none) else (if (l0_0.length : Int) = 8 then (spec_l03Copy.f k l0_0).bind fun o => some (o, false) else spec_AppendFile.fin k l0_0 a1 d [] [])) else (spec_l03Copy.f k l0_0).bind fun o => some (o, false) else (spec_l03Copy.f k l0_0).bind fun o => some (o, false)
set_option maxHeartbeats 8000000 in
set_option maxRecDepth 100000 in
theorem spec_AppendFile.calls (k : Nat) (A0_0 : Option Addr) (c0_0 : Nat) (l0_0 : List (S55)) (a1 : ByteArray) (A2 : Option Addr) (c2 : Nat) (l2 : List Int) (r1 : List (S55)) (r2 : Bool) (w : World) (hr0_0 : Kd.C k55 w A0_0 l0_0.length l0_0) (hc0_0 : l0_0.length ≤ c0_0) (hr2 : Kd.C (Kd.int .u8) w A2 l2.length l2) (hc2 : l2.length ≤ c2) (h : spec_AppendFile.f k l0_0 a1 l2 = some (r1, r2)) :
    Calls Tryd.prog 59 #[.agg #[.slice A0_0 l0_0.length c0_0], .string a1, .slice A2 l2.length c2] w fun e w' => ∃ v0_ : Value, e = .returned (.tuple #[.agg #[v0_], .bool r2]) ∧ Kd.S k55 55 w' w.heap.size (fun _ => True) v0_ r1 ∧ Below w.heap.size w w' := by
  have HR := Zh hr0_0
  have HC := Zh hc0_0
  have HR2 := Zh hr2
  have HC2 := Zh hc2
  clear hr0_0 hc0_0 hr2 hc2
  have ST := Zh (LW.St.start w)
  have hu55 := Tryd.underlying55
  have hu28 := Tryd.underlying28
  unfold spec_AppendFile.f at h
  replace h := Option.bind_eq_some_iff.mp h
  obtain ⟨i, HA1, h⟩ := h
  replace h := Option.bind_eq_some_iff.mp h
  obtain ⟨t, HA2, h⟩ := h
  replace HA1 := Zh HA1
  replace HA2 := Zh HA2
  have H := Zh h
  clear h
  go_enter Tryd.func59, Tryd.ntmps59
  go_wp2_with fail
  replace ST := Zh (ST.out.alloc #[.slice A0_0 l0_0.length c0_0] 28 (g := w.heap.size) rfl)
  replace ST := Zh (ST.out.alloc #[.slice none 0 0] 28 (g := w.heap.size + 1) (by simp))
  replace ST := Zh (ST.out.alloc #[.string a1, .slice none 0 0, .slice none 0 0] 55 (g := w.heap.size + 2) (by simp))
  with_reducible refine (spec_l03Find.calls k _ _ l0_0 a1 i _ (Kd.C_below HR.out ST.out.b) HC.out HA1.out).mono ?_
  rintro e w2 ⟨rfl, hb⟩
  replace ST := Zh (ST.out.step hb)
  clear hb
  have hc1 := ST.out.cell 2 rfl 0 (u := .slice A0_0 l0_0.length c0_0) rfl
  have hl1 := ST.out.lt 2 rfl
  go_wp2_with fail
  with_reducible refine (spec_DiskOk.calls k _ _ l0_0 t _ (Kd.C_below HR.out ST.out.b) HC.out HA2.out).mono ?_
  rintro e w3 ⟨rfl, hb⟩
  replace ST := Zh (ST.out.step hb)
  clear hb hc1 hl1
  have hc1 := ST.out.cell 2 rfl 0 (u := .slice A0_0 l0_0.length c0_0) rfl
  have hl1 := ST.out.lt 2 rfl
  have h := H.out
  clear H
  by_cases ct : t = true
  · subst ct
    rw [if_pos rfl] at h
    replace h := Option.bind_eq_some_iff.mp h
    obtain ⟨n, HA3, h⟩ := h
    replace HA3 := Zh HA3
    have H := Zh h
    clear h
    go_wp2_with fail
    with_reducible refine (spec_l01Name.calls k a1 n _ HA3.out).mono ?_
    rintro e w4 ⟨rfl, nd, rfl⟩
    replace ST := Zh (ST.out.step (Zd (Below.refl _ _) nd))
    generalize w3.drewN nd = w4 at ST ⊢
    clear hc1 hl1
    have hc1 := ST.out.cell 2 rfl 0 (u := .slice A0_0 l0_0.length c0_0) rfl
    have hl1 := ST.out.lt 2 rfl
    have h := H.out
    clear H
    by_cases cn : n = true
    · subst cn
      rw [if_pos rfl] at h
      by_cases ci : 0 ≤ i
      · rw [if_pos ci] at h
        have cib : decide (0 ≤ i) = true := decide_eq_true ci
        by_cases cl : i < (l0_0.length : Int)
        · rw [if_pos cl] at h
          obtain ⟨ad, B1, d1, B2, d2, e0, hx0, hx1, hx2, hl1', hi1, hl2', hi2⟩ := at_T55 HR.out i ci cl
          cases e0
          have HI1 := Zh hi1
          have HI2 := Zh hi2
          have HL1 := Zh hl1'
          have HL2 := Zh hl2'
          clear hi1 hi2 hl1' hl2'
          replace hx0 := (ST.out.b.cell (Zi w _ hx0)).trans hx0
          replace hx1 := (ST.out.b.cell (Zi w _ hx1)).trans hx1
          replace hx2 := (ST.out.b.cell (Zi w _ hx2)).trans hx2
          have p0 := eq_true ci
          have p1 := eq_true cl
          have hd0 := ST.out.cell 0 rfl 0 (u := .string a1) rfl
          have hd1 := ST.out.cell 0 rfl 1 (u := .slice none 0 0) rfl
          have hd2 := ST.out.cell 0 rfl 2 (u := .slice none 0 0) rfl
          have hdl := ST.out.lt 0 rfl
          have hf0 := ST.out.frozen 0 rfl 0
          have hf1 := ST.out.frozen 0 rfl 1
          have hf2 := ST.out.frozen 0 rfl 2
          have hne := ST.out.ne 0 2 (by decide) rfl rfl
          have hne' := hne.symm
          clear ci cl
          go_upto_region 9 with (fail)
          replace ST := Zh (ST.out.set 0 rfl 0 (.string (rd_T55 l0_0 i).f0))
          replace ST := Zh (ST.out.set 0 rfl 1 (.slice B1 (rd_T55 l0_0 i).f1.length d1))
          replace ST := Zh (ST.out.set 0 rfl 2 (.slice B2 (rd_T55 l0_0 i).f2.length d2))
          clear hx0 hx1 hx2 p0 p1 hd0 hd1 hd2 hdl hf0 hf1 hf2 hne hne' hc1 hl1
          generalize (((w4.setCell ⟨w.heap.size + 2, 0, none⟩ (.string (rd_T55 l0_0 i).f0)).setCell ⟨w.heap.size + 2, 1, none⟩ (.slice B1 (rd_T55 l0_0 i).f1.length d1)).setCell ⟨w.heap.size + 2, 2, none⟩ (.slice B2 (rd_T55 l0_0 i).f2.length d2)) = w5 at ST ⊢
          unfold spec_AppendFile.fin at h
          have hc1 := ST.out.cell 2 rfl 0 (u := .slice (some ad) l0_0.length c0_0) rfl
          have hl1 := ST.out.lt 2 rfl
          have hg1 := ST.out.cell 0 rfl 1 (u := .slice B1 ((rd_T55 l0_0 i).f1).length d1) rfl
          have hg2 := ST.out.cell 0 rfl 2 (u := .slice B2 ((rd_T55 l0_0 i).f2).length d2) rfl
          have hgl := ST.out.lt 0 rfl
          by_cases cg : (l2.length : Int) > wrap64 (wrap64 (20000 - (((rd_T55 l0_0 i).f1).length : Int)) - (((rd_T55 l0_0 i).f2).length : Int))
          · rw [if_pos cg] at h
            have cgb : decide (wrap64 (wrap64 (20000 - (((rd_T55 l0_0 i).f1).length : Int)) - (((rd_T55 l0_0 i).f2).length : Int)) < (l2.length : Int)) = true := decide_eq_true cg
            clear cg
            replace h := Option.bind_eq_some_iff.mp h
            obtain ⟨o, HAo, h⟩ := h
            obtain ⟨rfl, rfl⟩ := Prod.mk.inj (Option.some.inj h)
            clear h
            replace HAo := Zh HAo
            go_wp2_with fail
            with_reducible refine (spec_l03Copy.calls k _ _ l0_0 o _ (Kd.C_below HR.out ST.out.b) HC.out HAo.out).mono ?_
            rintro e w9 ⟨v9, rfl, ho, hb⟩
            obtain ⟨A9, c9, rfl⟩ := Kd.S_slice ho
            replace ST := Zh (ST.out.row hb ho)
            clear hb ho hc1 hl1
            have hc2 := ST.out.cell 2 rfl 0 (u := .slice none 0 0) rfl
            have hl2 := ST.out.lt 2 rfl
            have hf2 := ST.out.frozen 2 rfl 0
            go_wp2
            replace ST := Zh (ST.out.set 2 rfl 0 (.slice A9 o.length c9))
            refine Zq (results_ct rfl _ _ (w.heap.size + 1) 28 #[.slice A9 o.length c9] (0, 0) _ rfl (ST.out.blk 2 rfl) Tryd.underlying28 rfl (by kernel_rfl)) rfl ?_
            exact ⟨_, rfl, Kd.S_mono (ST.out.own 0 rfl) (fun _ _ => trivial), ST.out.b⟩
          rw [if_neg cg] at h
          have cgb : decide (wrap64 (wrap64 (20000 - (((rd_T55 l0_0 i).f1).length : Int)) - (((rd_T55 l0_0 i).f2).length : Int)) < (l2.length : Int)) = false := decide_eq_false cg
          clear cg
          replace h := Option.bind_eq_some_iff.mp h
          obtain ⟨e, HB1, h⟩ := h
          replace h := Option.bind_eq_some_iff.mp h
          obtain ⟨r, HB2, h⟩ := h
          obtain ⟨rfl, rfl⟩ := Prod.mk.inj (Option.some.inj h)
          clear h
          replace HB1 := Zh HB1
          replace HB2 := Zh HB2
          go_wp2_with fail
          refine (spec_l01Join.calls k _ _ ((rd_T55 l0_0 i).f2) _ _ l2 e _ (Kd.C_below HI2.out ST.out.b) HL2.out (Kd.C_below HR2.out ST.out.b) HC2.out HB1.out).mono ?_
          rintro e_ w6 ⟨v6, rfl, ho, hb⟩
          obtain ⟨A6, c6, rfl⟩ := Kd.R_slice ho
          replace ST := Zh (ST.out.rowR rfl hb ho)
          clear hb ho hc1 hl1 hg1 hg2 hgl
          have hc1 := ST.out.cell 3 rfl 0 (u := .slice (some ad) l0_0.length c0_0) rfl
          have hl1 := ST.out.lt 3 rfl
          have hg0 := ST.out.cell 1 rfl 0 (u := .string (rd_T55 l0_0 i).f0) rfl
          have hg1 := ST.out.cell 1 rfl 1 (u := .slice B1 ((rd_T55 l0_0 i).f1).length d1) rfl
          have hg2 := ST.out.cell 1 rfl 2 (u := .slice B2 ((rd_T55 l0_0 i).f2).length d2) rfl
          have hgl := ST.out.lt 1 rfl
          have hgf := ST.out.frozen 1 rfl 2
          have hne := ST.out.ne 1 3 (by decide) rfl rfl
          have hne' := hne.symm
          go_wp2_with fail
          replace ST := Zh (ST.out.set 1 rfl 2 (.slice A6 e.length c6))
          generalize hW : w6.setCell ⟨w.heap.size + 2, 2, none⟩ (.slice A6 e.length c6) = w7 at ST ⊢
          clear hW hc1 hl1 hg0 hg1 hg2 hgl hgf hne hne'
          refine (spec_l03Put.calls k _ _ l0_0 (rd_T55 l0_0 i).f0 _ _ ((rd_T55 l0_0 i).f1) _ _ e r _ (Kd.C_below HR.out ST.out.b) HC.out (Kd.C_below HI1.out ST.out.b) HL1.out (ST.out.reads 0 rfl).2.2 (ST.out.reads 0 rfl).2.1 HB2.out).mono ?_
          rintro e_ w8 ⟨v8, rfl, ho, hb⟩
          obtain ⟨A8, c8, rfl⟩ := Kd.S_slice ho
          replace ST := Zh (ST.out.row hb ho)
          clear hb ho
          have hc2 := ST.out.cell 3 rfl 0 (u := .slice none 0 0) rfl
          have hl2 := ST.out.lt 3 rfl
          have hf2 := ST.out.frozen 3 rfl 0
          go_wp2
          replace ST := Zh (ST.out.set 3 rfl 0 (.slice A8 r.length c8))
          refine Zq (results_ct rfl _ _ (w.heap.size + 1) 28 #[.slice A8 r.length c8] (0, 0) _ rfl (ST.out.blk 3 rfl) Tryd.underlying28 rfl (by kernel_rfl)) rfl ?_
          exact ⟨_, rfl, Kd.S_mono (ST.out.own 0 rfl) (fun _ _ => trivial), ST.out.b⟩
        rw [if_neg cl] at h; exact absurd h (by simp)
      rw [if_neg ci] at h
      have cib : decide (0 ≤ i) = false := decide_eq_false ci
      by_cases c8 : (l0_0.length : Int) = 8
      · rw [if_pos c8] at h
        have c8b : ((l0_0.length : Int) == 8) = true := beq_iff_eq.mpr c8
        clear c8
        replace h := Option.bind_eq_some_iff.mp h
        obtain ⟨o, HAo, h⟩ := h
        obtain ⟨rfl, rfl⟩ := Prod.mk.inj (Option.some.inj h)
        clear h
        replace HAo := Zh HAo
        go_wp2_with fail
        with_reducible refine (spec_l03Copy.calls k _ _ l0_0 o _ (Kd.C_below HR.out ST.out.b) HC.out HAo.out).mono ?_
        rintro e w9 ⟨v9, rfl, ho, hb⟩
        obtain ⟨A9, c9, rfl⟩ := Kd.S_slice ho
        replace ST := Zh (ST.out.row hb ho)
        clear hb ho hc1 hl1
        have hc2 := ST.out.cell 2 rfl 0 (u := .slice none 0 0) rfl
        have hl2 := ST.out.lt 2 rfl
        have hf2 := ST.out.frozen 2 rfl 0
        go_wp2
        replace ST := Zh (ST.out.set 2 rfl 0 (.slice A9 o.length c9))
        refine Zq (results_ct rfl _ _ (w.heap.size + 1) 28 #[.slice A9 o.length c9] (0, 0) _ rfl (ST.out.blk 2 rfl) Tryd.underlying28 rfl (by kernel_rfl)) rfl ?_
        exact ⟨_, rfl, Kd.S_mono (ST.out.own 0 rfl) (fun _ _ => trivial), ST.out.b⟩
      rw [if_neg c8] at h
      have c8b : ((l0_0.length : Int) == 8) = false := beq_eq_false_iff_ne.mpr c8
      clear c8
      have HI1 := Zh (Kd.C_nil (Kd.int .u8) w)
      have HI2 := HI1
      have HL1 := Zh (show ([] : List Int).length ≤ 0 from Nat.le_refl _)
      have HL2 := HL1
      unfold spec_AppendFile.fin at h
      have hc1 := ST.out.cell 2 rfl 0 (u := .slice A0_0 l0_0.length c0_0) rfl
      have hl1 := ST.out.lt 2 rfl
      have hg1 := ST.out.cell 0 rfl 1 (u := .slice none (([] : List Int)).length 0) rfl
      have hg2 := ST.out.cell 0 rfl 2 (u := .slice none (([] : List Int)).length 0) rfl
      have hgl := ST.out.lt 0 rfl
      by_cases cg : (l2.length : Int) > wrap64 (wrap64 (20000 - ((([] : List Int)).length : Int)) - ((([] : List Int)).length : Int))
      · rw [if_pos cg] at h
        have cgb : decide (wrap64 (wrap64 (20000 - ((([] : List Int)).length : Int)) - ((([] : List Int)).length : Int)) < (l2.length : Int)) = true := decide_eq_true cg
        have cgp : (20000 : Int) < (l2.length : Int) := by simpa [wrap64] using cg
        have cgq := eq_true cgp
        clear cg
        replace h := Option.bind_eq_some_iff.mp h
        obtain ⟨o, HAo, h⟩ := h
        obtain ⟨rfl, rfl⟩ := Prod.mk.inj (Option.some.inj h)
        clear h
        replace HAo := Zh HAo
        go_wp2_with fail
        with_reducible refine (spec_l03Copy.calls k _ _ l0_0 o _ (Kd.C_below HR.out ST.out.b) HC.out HAo.out).mono ?_
        rintro e w9 ⟨v9, rfl, ho, hb⟩
        obtain ⟨A9, c9, rfl⟩ := Kd.S_slice ho
        replace ST := Zh (ST.out.row hb ho)
        clear hb ho hc1 hl1
        have hc2 := ST.out.cell 2 rfl 0 (u := .slice none 0 0) rfl
        have hl2 := ST.out.lt 2 rfl
        have hf2 := ST.out.frozen 2 rfl 0
        go_wp2
        replace ST := Zh (ST.out.set 2 rfl 0 (.slice A9 o.length c9))
        refine Zq (results_ct rfl _ _ (w.heap.size + 1) 28 #[.slice A9 o.length c9] (0, 0) _ rfl (ST.out.blk 2 rfl) Tryd.underlying28 rfl (by kernel_rfl)) rfl ?_
        exact ⟨_, rfl, Kd.S_mono (ST.out.own 0 rfl) (fun _ _ => trivial), ST.out.b⟩
      rw [if_neg cg] at h
      have cgb : decide (wrap64 (wrap64 (20000 - ((([] : List Int)).length : Int)) - ((([] : List Int)).length : Int)) < (l2.length : Int)) = false := decide_eq_false cg
      have cgp : ¬ (20000 : Int) < (l2.length : Int) := by simpa [wrap64] using cg
      have cgr : (l2.length : Int) ≤ 20000 := by omega
      clear cg
      replace h := Option.bind_eq_some_iff.mp h
      obtain ⟨e, HB1, h⟩ := h
      replace h := Option.bind_eq_some_iff.mp h
      obtain ⟨r, HB2, h⟩ := h
      obtain ⟨rfl, rfl⟩ := Prod.mk.inj (Option.some.inj h)
      clear h
      replace HB1 := Zh HB1
      replace HB2 := Zh HB2
      go_wp2_with fail
      refine (spec_l01Join.calls k _ _ (([] : List Int)) _ _ l2 e _ (Kd.C_below HI2.out ST.out.b) HL2.out (Kd.C_below HR2.out ST.out.b) HC2.out HB1.out).mono ?_
      rintro e_ w6 ⟨v6, rfl, ho, hb⟩
      obtain ⟨A6, c6, rfl⟩ := Kd.R_slice ho
      replace ST := Zh (ST.out.rowR rfl hb ho)
      clear hb ho hc1 hl1 hg1 hg2 hgl
      have hc1 := ST.out.cell 3 rfl 0 (u := .slice A0_0 l0_0.length c0_0) rfl
      have hl1 := ST.out.lt 3 rfl
      have hg0 := ST.out.cell 1 rfl 0 (u := .string a1) rfl
      have hg1 := ST.out.cell 1 rfl 1 (u := .slice none (([] : List Int)).length 0) rfl
      have hg2 := ST.out.cell 1 rfl 2 (u := .slice none (([] : List Int)).length 0) rfl
      have hgl := ST.out.lt 1 rfl
      have hgf := ST.out.frozen 1 rfl 2
      have hne := ST.out.ne 1 3 (by decide) rfl rfl
      have hne' := hne.symm
      go_wp2_with fail
      replace ST := Zh (ST.out.set 1 rfl 2 (.slice A6 e.length c6))
      generalize hW : w6.setCell ⟨w.heap.size + 2, 2, none⟩ (.slice A6 e.length c6) = w7 at ST ⊢
      clear hW hc1 hl1 hg0 hg1 hg2 hgl hgf hne hne'
      refine (spec_l03Put.calls k _ _ l0_0 a1 _ _ (([] : List Int)) _ _ e r _ (Kd.C_below HR.out ST.out.b) HC.out (Kd.C_below HI1.out ST.out.b) HL1.out (ST.out.reads 0 rfl).2.2 (ST.out.reads 0 rfl).2.1 HB2.out).mono ?_
      rintro e_ w8 ⟨v8, rfl, ho, hb⟩
      obtain ⟨A8, c8, rfl⟩ := Kd.S_slice ho
      replace ST := Zh (ST.out.row hb ho)
      clear hb ho
      have hc2 := ST.out.cell 3 rfl 0 (u := .slice none 0 0) rfl
      have hl2 := ST.out.lt 3 rfl
      have hf2 := ST.out.frozen 3 rfl 0
      go_wp2
      replace ST := Zh (ST.out.set 3 rfl 0 (.slice A8 r.length c8))
      refine Zq (results_ct rfl _ _ (w.heap.size + 1) 28 #[.slice A8 r.length c8] (0, 0) _ rfl (ST.out.blk 3 rfl) Tryd.underlying28 rfl (by kernel_rfl)) rfl ?_
      exact ⟨_, rfl, Kd.S_mono (ST.out.own 0 rfl) (fun _ _ => trivial), ST.out.b⟩
    rw [if_neg cn] at h
    obtain rfl : n = false := by simpa using cn
    clear cn
    replace h := Option.bind_eq_some_iff.mp h
    obtain ⟨o, HAo, h⟩ := h
    obtain ⟨rfl, rfl⟩ := Prod.mk.inj (Option.some.inj h)
    clear h
    replace HAo := Zh HAo
    go_wp2_with fail
    with_reducible refine (spec_l03Copy.calls k _ _ l0_0 o _ (Kd.C_below HR.out ST.out.b) HC.out HAo.out).mono ?_
    rintro e w9 ⟨v9, rfl, ho, hb⟩
    obtain ⟨A9, c9, rfl⟩ := Kd.S_slice ho
    replace ST := Zh (ST.out.row hb ho)
    clear hb ho hc1 hl1
    have hc2 := ST.out.cell 2 rfl 0 (u := .slice none 0 0) rfl
    have hl2 := ST.out.lt 2 rfl
    have hf2 := ST.out.frozen 2 rfl 0
    go_wp2
    replace ST := Zh (ST.out.set 2 rfl 0 (.slice A9 o.length c9))
    refine Zq (results_ct rfl _ _ (w.heap.size + 1) 28 #[.slice A9 o.length c9] (0, 0) _ rfl (ST.out.blk 2 rfl) Tryd.underlying28 rfl (by kernel_rfl)) rfl ?_
    exact ⟨_, rfl, Kd.S_mono (ST.out.own 0 rfl) (fun _ _ => trivial), ST.out.b⟩
  rw [if_neg ct] at h
  obtain rfl : t = false := by simpa using ct
  clear ct
  replace h := Option.bind_eq_some_iff.mp h
  obtain ⟨o, HAo, h⟩ := h
  obtain ⟨rfl, rfl⟩ := Prod.mk.inj (Option.some.inj h)
  clear h
  replace HAo := Zh HAo
  go_wp2_with fail
  with_reducible refine (spec_l03Copy.calls k _ _ l0_0 o _ (Kd.C_below HR.out ST.out.b) HC.out HAo.out).mono ?_
  rintro e w9 ⟨v9, rfl, ho, hb⟩
  obtain ⟨A9, c9, rfl⟩ := Kd.S_slice ho
  replace ST := Zh (ST.out.row hb ho)
  clear hb ho hc1 hl1
  have hc2 := ST.out.cell 2 rfl 0 (u := .slice none 0 0) rfl
  have hl2 := ST.out.lt 2 rfl
  have hf2 := ST.out.frozen 2 rfl 0
  go_wp2
  replace ST := Zh (ST.out.set 2 rfl 0 (.slice A9 o.length c9))
  refine Zq (results_ct rfl _ _ (w.heap.size + 1) 28 #[.slice A9 o.length c9] (0, 0) _ rfl (ST.out.blk 2 rfl) Tryd.underlying28 rfl (by kernel_rfl)) rfl ?_
  exact ⟨_, rfl, Kd.S_mono (ST.out.own 0 rfl) (fun _ _ => trivial), ST.out.b⟩
def spec_WalAppend.f (k : Nat) (l0_0 : List S55) (a1 : List Int) : Option (List S55 × Bool) := (spec_Frame.f k a1).bind fun f => if (f.length : Int) = 0 then (spec_l03Copy.f k l0_0).bind fun o => some (o, false) else spec_AppendFile.f k l0_0 (⟨#[108, 111, 103]⟩ : ByteArray) f
set_option maxHeartbeats 8000000 in
set_option maxRecDepth 100000 in
theorem spec_WalAppend.calls (k : Nat) (A0_0 : Option Addr) (c0_0 : Nat) (l0_0 : List (S55)) (A1 : Option Addr) (c1 : Nat) (l1 : List Int) (r1 : List (S55)) (r2 : Bool) (w : World) (hr0_0 : Kd.C k55 w A0_0 l0_0.length l0_0) (hc0_0 : l0_0.length ≤ c0_0) (hr1 : Kd.C (Kd.int .u8) w A1 l1.length l1) (hc1 : l1.length ≤ c1) (h : spec_WalAppend.f k l0_0 l1 = some (r1, r2)) :
    Calls Tryd.prog 27 #[.agg #[.slice A0_0 l0_0.length c0_0], .slice A1 l1.length c1] w fun e w' => ∃ v0_ : Value, e = .returned (.tuple #[.agg #[v0_], .bool r2]) ∧ Kd.S k55 55 w' w.heap.size (fun _ => True) v0_ r1 ∧ Below w.heap.size w w' := by
  have HR := Zh hr0_0
  have HC := Zh hc0_0
  have HR1 := Zh hr1
  have HC1 := Zh hc1
  clear hr0_0 hc0_0 hr1 hc1
  have ST := Zh (LW.St.start w)
  unfold spec_WalAppend.f at h
  replace h := Option.bind_eq_some_iff.mp h
  obtain ⟨f, HA1, h⟩ := h
  replace HA1 := Zh HA1
  have H := Zh h
  clear h
  go_enter Tryd.func27, Tryd.ntmps27
  go_wp2_with fail
  replace ST := Zh (ST.out.alloc #[.slice A0_0 l0_0.length c0_0] 28 (g := w.heap.size) rfl)
  replace ST := Zh (ST.out.alloc #[.slice none 0 0] 28 (g := w.heap.size + 1) (by simp))
  with_reducible refine (spec_Frame.calls k _ _ l1 f _ (Kd.C_below HR1.out ST.out.b) HC1.out HA1.out).mono ?_
  rintro e w1 ⟨v1, rfl, ho, hb⟩
  obtain ⟨Af, cf, rfl⟩ := Kd.R_slice ho
  replace ST := Zh (ST.out.rowR rfl hb ho)
  clear hb ho
  have hc1 := ST.out.cell 2 rfl 0 (u := .slice A0_0 l0_0.length c0_0) rfl
  have hl1 := ST.out.lt 2 rfl
  have hc2 := ST.out.cell 1 rfl 0 (u := .slice none 0 0) rfl
  have hl2 := ST.out.lt 1 rfl
  have hf2 := ST.out.frozen 1 rfl 0
  have h := H.out
  clear H
  by_cases c : (f.length : Int) = 0
  · rw [if_pos c] at h
    replace h := Option.bind_eq_some_iff.mp h
    obtain ⟨o, HA2, h⟩ := h
    replace HA2 := Zh HA2
    obtain ⟨rfl, rfl⟩ := Prod.mk.inj (Option.some.inj h)
    clear h
    have q5 : ((f.length : Int) == 0) = true := beq_iff_eq.mpr c
    have hn : f.length = 0 := by omega
    go_wp2_with fail
    with_reducible refine (spec_l03Copy.calls k _ _ l0_0 o _ (Kd.C_below HR.out ST.out.b) HC.out HA2.out).mono ?_
    rintro e w2 ⟨v2, rfl, ho, hb⟩
    obtain ⟨A2, c2, rfl⟩ := Kd.S_slice ho
    replace ST := Zh (ST.out.row hb ho)
    clear hb ho hc1 hl1 hc2 hl2 hf2
    have hc2 := ST.out.cell 2 rfl 0 (u := .slice none 0 0) rfl
    have hl2 := ST.out.lt 2 rfl
    have hf2 := ST.out.frozen 2 rfl 0
    go_wp2
    replace ST := Zh (ST.out.set 2 rfl 0 (.slice A2 o.length c2))
    refine Zq (results_ct rfl _ _ (w.heap.size + 1) 28 #[.slice A2 o.length c2] (0, 0) _ rfl (ST.out.blk 2 rfl) Tryd.underlying28 rfl (by kernel_rfl)) rfl ?_
    exact ⟨_, rfl, Kd.S_mono (ST.out.own 0 rfl) (fun _ _ => trivial), ST.out.b⟩
  rw [if_neg c] at h
  have q5 : ((f.length : Int) == 0) = false := by rw [beq_eq_false_iff_ne]; exact c
  have HA4 := Zh h
  clear h c
  go_wp2_with fail
  with_reducible refine (spec_AppendFile.calls k _ _ l0_0 (⟨#[108, 111, 103]⟩ : ByteArray) _ _ f r1 r2 _ (Kd.C_below HR.out ST.out.b) HC.out (ST.out.reads 0 rfl).2.2 (ST.out.reads 0 rfl).2.1 HA4.out).mono ?_
  rintro e w4 ⟨v4, rfl, ho, hb⟩
  obtain ⟨A4, c4, rfl⟩ := Kd.S_slice ho
  replace ST := Zh (ST.out.row hb ho)
  clear hb ho hc1 hl1 hc2 hl2 hf2
  have hc1 := ST.out.cell 2 rfl 0 (u := .slice none 0 0) rfl
  have hl1 := ST.out.lt 2 rfl
  have hf1 := ST.out.frozen 2 rfl 0
  go_wp2
  replace ST := Zh (ST.out.set 2 rfl 0 (.slice A4 r1.length c4))
  replace ST := Zh (ST.out.alloc #[.slice A4 r1.length c4] 28 rfl)
  refine Zq (results_ct rfl _ _ (w.heap.size + 1) 28 #[.slice A4 r1.length c4] (0, 0) _ rfl (ST.out.blk 3 rfl) Tryd.underlying28 rfl (by kernel_rfl)) rfl ?_
  exact ⟨_, rfl, Kd.S_mono (ST.out.own 1 rfl) (fun _ _ => trivial), ST.out.b⟩
end Go.Proofs.YtcgojdhbphocgaaDoor.F

namespace Go.Proofs.YtcgojdhbphocgaaDoor.F
open Go.Proofs.YtcgojdhbphocgaaDoor
open Go.RowKit Go.Proofs.YtcgojdhbphocgaaDoorW.PrintWords Go.Proofs.YtcgojdhbphocgaaDoorW.PrintWords.Kd Go.Proofs.YtcgojdhbphocgaaDoorW.PrintMore.Kd Go.Proofs.YtcgojdhbphocgaaDoorW.PrintLast Go.Proofs.YtcgojdhbphocgaaDoorW.PrintMore
attribute [local go_sem] max2_int min2_int max_two min_two max_three min_three max_four min_four   -- for this text's walks alone
set_option linter.unusedVariables false
set_option linter.unusedSimpArgs false
mutual
def spec_l04DrawWal.j0 : Nat → List Int → List Int → Int → Int → List (S55) → Option ((List (S55)) × Int × Int)
 | 0, _, _, _, _, _ => none
 | k + 1, x1, x1000, x1001, x1002, x661000 => (spec_l01Size.f x1 9).bind fun t679 => ((spec_l01Below.f x1000 x1001 x1002 t679).bind fun bt680 => (spec_l04DrawWal.l0 k bt680.1 x1000 bt680.2.1 bt680.2.2 x661000))
def spec_l04DrawWal.l0 : Nat → Int → List Int → Int → Int → List (S55) → Option ((List (S55)) × Int × Int)
 | 0, _, _, _, _, _ => none
 | k + 1, x6, x1000, x1001, x1002, x661000 => if x6 > 0 then ((spec_l01Once.f x1000 x1001 x1002 4).bind fun bt683 => (if bt683.1 = true then ((spec_WalSync.f k x661000).bind fun bt686 => ((spec_l01Below.f x1000 bt683.2.1 bt683.2.2 5).bind fun bt690 => ((spec_l01DrawBytes.f k x1000 bt690.2.1 bt690.2.2 (wrap64 (1 + bt690.1))).bind fun bt693 => ((spec_WalAppend.f k bt686.1 bt693.1).bind fun bt698 => (spec_l04DrawWal.l0 k (wrap64 (x6 - 1)) x1000 bt693.2.1 bt693.2.2 bt698.1))))) else ((spec_l01Below.f x1000 bt683.2.1 bt683.2.2 5).bind fun bt702 => ((spec_l01DrawBytes.f k x1000 bt702.2.1 bt702.2.2 (wrap64 (1 + bt702.1))).bind fun bt705 => ((spec_WalAppend.f k x661000 bt705.1).bind fun bt710 => (spec_l04DrawWal.l0 k (wrap64 (x6 - 1)) x1000 bt705.2.1 bt705.2.2 bt710.1)))))) else (some (x661000, x1001, x1002))
end
def spec_l04DrawWal.f (k : Nat) (s0_0 : List Int) (s0_1 : Int) (s0_2 : Int) (l1 : List Int) : Option ((List (S55)) × Int × Int) := (spec_l01Once.f s0_0 s0_1 s0_2 3).bind fun bt661 => (if bt661.1 = true then ((spec_l01PickText.f s0_0 bt661.2.1 bt661.2.2 (([(⟨#[109, 97, 110]⟩ : ByteArray), (⟨#[110, 101, 119]⟩ : ByteArray), (⟨#[97]⟩ : ByteArray)] : List ByteArray))).bind fun bt667 => ((spec_l01DrawBytes.f k s0_0 bt667.2.1 bt667.2.2 3).bind fun bt670 => ((spec_AppendFile.f k ([] : List (S55)) bt667.1 bt670.1).bind fun bt675 => (spec_l04DrawWal.j0 k l1 s0_0 bt670.2.1 bt670.2.2 bt675.1)))) else (spec_l04DrawWal.j0 k l1 s0_0 bt661.2.1 bt661.2.2 ([] : List (S55))))
def spec_l04DrawWal.T3 : Bool × List (List Nat × List Nat) := (true, [([], []), ([], []), ([], []), ([1, 2], [1, 2]), ([], []), ([4, 3], [4]), ([0, 3, 5, 5], [0, 3, 5]), ([6], [6]), ([7], [7]), ([7], [7]), ([8, 6, 0, 1, 2, 3, 4, 5, 6, 7, 8], [8])])
def spec_l04DrawWal.B3 : List Nat := [0, 0, 0, 6, 0, 30, 63, 127, 255, 255, 511]
theorem spec_l04DrawWal.tab3 : rtab .any (opsOf Tryd.f69 3) = spec_l04DrawWal.T3 := by kernel_rfl
theorem spec_l04DrawWal.bits3 : waitsOk spec_l04DrawWal.T3.2 spec_l04DrawWal.B3 = true := by kernel_rfl
def spec_l04DrawWal.T9 : Bool × List (List Nat × List Nat) := (true, [([], []), ([], []), ([], []), ([2], [2]), ([3], [3]), ([1, 4, 3], [1, 4]), ([0, 5, 5], [0, 5]), ([6], [6]), ([7], [7]), ([7], [7]), ([8, 6, 0, 1, 2, 3, 4, 5, 6, 7, 8], [8])])
def spec_l04DrawWal.B9 : List Nat := [0, 0, 0, 4, 12, 30, 63, 127, 255, 255, 511]
theorem spec_l04DrawWal.tab9 : rtab .any (opsOf Tryd.f69 9) = spec_l04DrawWal.T9 := by kernel_rfl
theorem spec_l04DrawWal.bits9 : waitsOk spec_l04DrawWal.T9.2 spec_l04DrawWal.B9 = true := by kernel_rfl
set_option maxHeartbeats 8000000 in
set_option maxRecDepth 100000 in
theorem spec_l04DrawWal.calls (k : Nat) (g : Nat) (s0_0 : List Int) (s0_1 : Int) (s0_2 : Int) (A1 : Option Addr) (c1 : Nat) (l1 : List Int) (r1 : List (S55)) (r2 : Int) (r3 : Int) (w0 w : World) (hI : IsS99 w0 w g s0_0 s0_1 s0_2) (hB : Below w0.heap.size w0 w) (hr1 : Kd.C (Kd.int .u8) w A1 l1.length l1) (hc1 : l1.length ≤ c1) (hf1 : ∀ ad, A1 = some ad → 0 < l1.length → ad.block ≠ g) (h : spec_l04DrawWal.f k s0_0 s0_1 s0_2 l1 = some (r1, r2, r3)) :
  Calls Tryd.prog 69 #[.pointer (some ⟨g, 0, none⟩), .slice A1 l1.length c1] w fun e w' => ∃ v0_ : Value, e = .returned (.agg #[v0_]) ∧ Kd.S k55 55 w' w.heap.size (fun _ => True) v0_ r1 ∧ IsS99 w0 w' g s0_0 r2 r3 ∧ Below w0.heap.size w0 w' ∧ KeepBut w w' g none := by
 have hu28 := Tryd.underlying28
 have HR1 := Zh hr1
 have HC1 := Zh hc1
 clear hr1 hc1
 have HI0 := Zh hI
 have HK := Zh (KeepBut.refl w g none)
 have HL := Zh hB.size
 clear hI
 have HW0 := Zh hB.size
 have HB := Zh hB
 clear hB
 have H : ((spec_l01Once.f s0_0 s0_1 s0_2 3).bind fun bt661 => (if bt661.1 = true then ((spec_l01PickText.f s0_0 bt661.2.1 bt661.2.2 (([(⟨#[109, 97, 110]⟩ : ByteArray), (⟨#[110, 101, 119]⟩ : ByteArray), (⟨#[97]⟩ : ByteArray)] : List ByteArray))).bind fun bt667 => ((spec_l01DrawBytes.f k s0_0 bt667.2.1 bt667.2.2 3).bind fun bt670 => ((spec_AppendFile.f k ([] : List (S55)) bt667.1 bt670.1).bind fun bt675 => (spec_l04DrawWal.j0 k l1 s0_0 bt670.2.1 bt670.2.2 bt675.1)))) else (spec_l04DrawWal.j0 k l1 s0_0 bt661.2.1 bt661.2.2 ([] : List (S55))))) = some (r1, r2, r3) := h
 clear h
 replace H := Option.bind_eq_some_iff.mp H
 obtain ⟨⟨t661, t662, t663⟩, A30, H⟩ := H
 replace H : (if t661 = true then ((spec_l01PickText.f s0_0 t662 t663 (([(⟨#[109, 97, 110]⟩ : ByteArray), (⟨#[110, 101, 119]⟩ : ByteArray), (⟨#[97]⟩ : ByteArray)] : List ByteArray))).bind fun bt667 => ((spec_l01DrawBytes.f k s0_0 bt667.2.1 bt667.2.2 3).bind fun bt670 => ((spec_AppendFile.f k ([] : List (S55)) bt667.1 bt670.1).bind fun bt675 => (spec_l04DrawWal.j0 k l1 s0_0 bt670.2.1 bt670.2.2 bt675.1)))) else (spec_l04DrawWal.j0 k l1 s0_0 t662 t663 ([] : List (S55)))) = some (r1, r2, r3) := H
 have A3 := Zh A30
 clear A30
 have HC4 := Zh H
 clear H
 go_enter Tryd.func69, Tryd.ntmps69
 go_upto_if 9 with (first | ((with_reducible refine gate_dst (N := 4) rfl ?_); refine box_event ?hg (N := 4) ?hd (cs := #[.slice none 0 0]) (t := 28) ?hr ?_; (case hd => rfl); (case hg => rfl); (case hr => first | (go_simp; done) | (go_simp; rfl)); intro gb659 hg w5 hbox hb; replace HB := Zh (Zl (by repeat (first | (with_reducible first | exact HB.out | apply Zf | apply Zd | apply Ze | refine Zg ?_ (IsS99.ge HI0.out)) | exact HB.out)) hb); have BK659 := Zh (hbox); have GW659 := Zh ((by rw [hg]; exact (keep_size (w := w) (g := g) (row := none) (by repeat (first | (with_reducible first | exact HK.out | apply KeepBut.set_ | apply keep_drewN | apply keep_drew | apply keep_alloc) | exact HK.out))) : w.heap.size ≤ gb659)); have GE659 := Zh ((Nat.le_trans HW0.out (by rw [hg]; exact (keep_size (w := w) (g := g) (row := none) (by repeat (first | (with_reducible first | exact HK.out | apply KeepBut.set_ | apply keep_drewN | apply keep_drew | apply keep_alloc) | exact HK.out))) : w.heap.size ≤ gb659) : w0.heap.size ≤ gb659)); replace HK := Zh (KeepBut.trans (by repeat (first | (with_reducible first | exact HK.out | apply KeepBut.set_ | apply keep_drewN | apply keep_drew | apply keep_alloc) | exact HK.out)) (KeepBut.of_below hb g none) (.inl rfl)); have NB0_659 := Zh ((by rw [hg]; exact Nat.ne_of_lt (IsS99.lt (show IsS99 w0 _ g s0_0 s0_1 s0_2 from by repeat (first | (with_reducible first | exact HI0.out | apply IsS99.alloc | apply IsS99.drewN | apply IsS99.drew | apply IsS99.set_1 | apply IsS99.set_2) | exact HI0.out))) : g ≠ gb659)); have NB659_0 := Zh ((by rw [hg]; exact Nat.ne_of_gt (IsS99.lt (show IsS99 w0 _ g s0_0 s0_1 s0_2 from by repeat (first | (with_reducible first | exact HI0.out | apply IsS99.alloc | apply IsS99.drewN | apply IsS99.drew | apply IsS99.set_1 | apply IsS99.set_2) | exact HI0.out))) : gb659 ≠ g)); replace HI0 := Zh (IsS99.below (by repeat (first | (with_reducible first | exact HI0.out | apply IsS99.alloc | apply IsS99.drewN | apply IsS99.drew | apply IsS99.set_1 | apply IsS99.set_2) | exact HI0.out)) hb); clear hb hbox hg) | ((with_reducible refine gate_dst (N := 5) rfl ?_); refine box_event ?hg (N := 5) ?hd (cs := #[.slice none 0 0]) (t := 28) ?hr ?_; (case hd => rfl); (case hg => rfl); (case hr => first | (go_simp; done) | (go_simp; rfl)); intro gb660 hg w6 hbox hb; replace HB := Zh (Zl (by repeat (first | (with_reducible first | exact HB.out | apply Zf | apply Zd | apply Ze | refine Zg ?_ (IsS99.ge HI0.out) | refine Zg ?_ GE659.out) | exact HB.out)) hb); have BK660 := Zh (hbox); have GW660 := Zh ((by rw [hg]; exact (keep_size (w := w) (g := g) (row := none) (by repeat (first | (with_reducible first | exact HK.out | apply KeepBut.set_ | apply keep_drewN | apply keep_drew | apply keep_alloc | refine keep_far ?_ GW659.out _) | exact HK.out))) : w.heap.size ≤ gb660)); have GE660 := Zh ((Nat.le_trans HW0.out (by rw [hg]; exact (keep_size (w := w) (g := g) (row := none) (by repeat (first | (with_reducible first | exact HK.out | apply KeepBut.set_ | apply keep_drewN | apply keep_drew | apply keep_alloc | refine keep_far ?_ GW659.out _) | exact HK.out))) : w.heap.size ≤ gb660) : w0.heap.size ≤ gb660)); replace HK := Zh (KeepBut.trans (by repeat (first | (with_reducible first | exact HK.out | apply KeepBut.set_ | apply keep_drewN | apply keep_drew | apply keep_alloc | refine keep_far ?_ GW659.out _) | exact HK.out)) (KeepBut.of_below hb g none) (.inl rfl)); have NB659_660 := Zh ((by rw [hg]; exact Nat.ne_of_lt (blk_lt (g := gb659) (o := .cells #[.slice none 0 0] 28 (0, 0)) Zk) : gb659 ≠ gb660)); have NB660_659 := Zh ((by rw [hg]; exact Nat.ne_of_gt (blk_lt (g := gb659) (o := .cells #[.slice none 0 0] 28 (0, 0)) Zk) : gb660 ≠ gb659)); replace BK659 := Zh (Zm (g := gb659) (o := .cells #[.slice none 0 0] 28 (0, 0)) Zk hb); have NB0_660 := Zh ((by rw [hg]; exact Nat.ne_of_lt (IsS99.lt (show IsS99 w0 _ g s0_0 s0_1 s0_2 from by repeat (first | (with_reducible first | exact HI0.out | apply IsS99.alloc | apply IsS99.drewN | apply IsS99.drew | apply IsS99.set_1 | apply IsS99.set_2 | refine IsS99.far ?_ NB0_659.out _) | exact HI0.out))) : g ≠ gb660)); have NB660_0 := Zh ((by rw [hg]; exact Nat.ne_of_gt (IsS99.lt (show IsS99 w0 _ g s0_0 s0_1 s0_2 from by repeat (first | (with_reducible first | exact HI0.out | apply IsS99.alloc | apply IsS99.drewN | apply IsS99.drew | apply IsS99.set_1 | apply IsS99.set_2 | refine IsS99.far ?_ NB0_659.out _) | exact HI0.out))) : gb660 ≠ g)); replace HI0 := Zh (IsS99.below (by repeat (first | (with_reducible first | exact HI0.out | apply IsS99.alloc | apply IsS99.drewN | apply IsS99.drew | apply IsS99.set_1 | apply IsS99.set_2 | refine IsS99.far ?_ NB0_659.out _) | exact HI0.out)) hb); clear hb hbox hg; have hnb7 := NB660_659.out; have hnc7 := NB659_660.out; have hnb8 := NB660_0.out; have hnc8 := NB0_660.out; have hcz9_0 : w6.cell? ⟨gb660, 0, none⟩ = some (.slice none 0 0) := (blk_cell BK660.out 0).trans rfl; have hfz9_0 := Zn BK660.out 0) | ((with_reducible refine gate_callee (f := 97) rfl ?_); refine ZG (some 9) Tryd.func97 #[.pointer (some ⟨g, 0, none⟩), .int .i64 3] rfl ?_; (with_reducible refine (spec_l01Once.calls g s0_0 s0_1 s0_2 3 t661 t662 t663 w0 _ ?side1 ?side2 A3.out).mono ?_); (case side1 => repeat (first | (with_reducible first | exact HI0.out | apply IsS99.alloc | apply IsS99.drewN | apply IsS99.drew | apply IsS99.set_1 | apply IsS99.set_2 | refine IsS99.far ?_ NB0_659.out _ | refine IsS99.far ?_ NB0_660.out _) | exact HI0.out)); (case side2 => repeat (first | (with_reducible first | exact HB.out | apply Zf | apply Zd | apply Ze | refine Zg ?_ (IsS99.ge HI0.out) | refine Zg ?_ GE659.out | refine Zg ?_ GE660.out) | exact HB.out)); rintro e w10 ⟨rfl, hi, hb, hk⟩; refine ⟨_, rfl, ?_⟩; replace BK659 := Zh (KeepBut.blk hk (g' := gb659) (o := .cells #[.slice none 0 0] 28 (0, 0)) (by (with_reducible repeat (first | refine Za ?_ _ | refine Zb ?_ | refine blk_alloc ?_ _)); refine blk_far ?_ NB659_660.out _; (with_reducible repeat (first | refine Za ?_ _ | refine Zb ?_ | refine blk_alloc ?_ _)); exact BK659.out) NB659_0.out (by simp)); replace BK660 := Zh (KeepBut.blk hk (g' := gb660) (o := .cells #[.slice none 0 0] 28 (0, 0)) (by (with_reducible repeat (first | refine Za ?_ _ | refine Zb ?_ | refine blk_alloc ?_ _)); refine blk_put (cs := #[.slice none 0 0]) ?_ 0 _ rfl; (with_reducible repeat (first | refine Za ?_ _ | refine Zb ?_ | refine blk_alloc ?_ _)); exact BK660.out) NB660_0.out (by simp)); replace HK := Zh (KeepBut.trans (by repeat (first | (with_reducible first | exact HK.out | apply KeepBut.set_ | apply keep_drewN | apply keep_drew | apply keep_alloc | refine keep_far ?_ GW659.out _ | refine keep_far ?_ GW660.out _) | exact HK.out)) hk (.inl rfl)); replace HB := Zh (hb); replace HI0 := Zh (hi); (try clear hb); (try clear hb2); (try clear hk); (try clear hi)))
 (try simp only [Act.put, List.setIfInBounds_toArray, List.set_cons_zero, List.set_cons_succ])
 go_cut [] (fun wc => ∃ (kq : Nat) (x1001_3 : Int) (x1002_3 : Int) (x661000_3 : List (S55)) (u661000 : Value), Aside0 (spec_l04DrawWal.j0 kq l1 s0_0 x1001_3 x1002_3 x661000_3 = some (r1, r2, r3)) ∧ Aside0 (kq ≤ k) ∧ Aside0 (Kd.S k55 55 wc w.heap.size (fun _ => True) u661000 x661000_3) ∧ Aside0 (wc.heap[gb659]? = some (.cells #[(.slice none 0 0)] 28 (0, 0))) ∧ Aside0 (wc.heap[gb660]? = some (.cells #[u661000] 28 (0, 0))) ∧ Aside0 (IsS99 w0 wc g s0_0 x1001_3 x1002_3) ∧ Aside0 (KeepBut w wc g none) ∧ Aside0 (Below w0.heap.size w0 wc))
 case first =>
  have H := HC4.out
  clear HC4
  by_cases c11 : t661 = true
  ·
   subst c11
   have H1 : ((spec_l01PickText.f s0_0 t662 t663 (([(⟨#[109, 97, 110]⟩ : ByteArray), (⟨#[110, 101, 119]⟩ : ByteArray), (⟨#[97]⟩ : ByteArray)] : List ByteArray))).bind fun bt667 => ((spec_l01DrawBytes.f k s0_0 bt667.2.1 bt667.2.2 3).bind fun bt670 => ((spec_AppendFile.f k ([] : List (S55)) bt667.1 bt670.1).bind fun bt675 => (spec_l04DrawWal.j0 k l1 s0_0 bt670.2.1 bt670.2.2 bt675.1)))) = some (r1, r2, r3) := by rw [if_pos rfl] at H; exact H
   clear H
   have H := H1
   clear H1
   obtain ⟨y664, hy664⟩ : ∃ y_ : List ByteArray, y_ = (([(⟨#[109, 97, 110]⟩ : ByteArray), (⟨#[110, 101, 119]⟩ : ByteArray), (⟨#[97]⟩ : ByteArray)] : List ByteArray)) := ⟨_, rfl⟩
   replace H : ((spec_l01PickText.f s0_0 t662 t663 y664).bind fun bt667 => ((spec_l01DrawBytes.f k s0_0 bt667.2.1 bt667.2.2 3).bind fun bt670 => ((spec_AppendFile.f k ([] : List (S55)) bt667.1 bt670.1).bind fun bt675 => (spec_l04DrawWal.j0 k l1 s0_0 bt670.2.1 bt670.2.2 bt675.1)))) = some (r1, r2, r3) := by first | (rw [hy664]; with_reducible exact H) | (have H2_ := (Option.bind_some _ _).symm.trans H; rw [hy664]; with_reducible exact H2_) | (have H2_ := (Option.bind_some _ _).symm.trans H; with_reducible exact H2_) | with_reducible exact H | (rw [hy664]; exact H) | exact H
   have Ny664 := Zh hy664
   clear hy664
   replace H := Option.bind_eq_some_iff.mp H
   obtain ⟨⟨t667, t668, t669⟩, A120, H⟩ := H
   replace H : ((spec_l01DrawBytes.f k s0_0 t668 t669 3).bind fun bt670 => ((spec_AppendFile.f k ([] : List (S55)) t667 bt670.1).bind fun bt675 => (spec_l04DrawWal.j0 k l1 s0_0 bt670.2.1 bt670.2.2 bt675.1))) = some (r1, r2, r3) := H
   have A12 := Zh A120
   clear A120
   replace H := Option.bind_eq_some_iff.mp H
   obtain ⟨⟨t670, t673, t674⟩, A130, H⟩ := H
   replace H : ((spec_AppendFile.f k ([] : List (S55)) t667 t670).bind fun bt675 => (spec_l04DrawWal.j0 k l1 s0_0 t673 t674 bt675.1)) = some (r1, r2, r3) := H
   have A13 := Zh A130
   clear A130
   replace H := Option.bind_eq_some_iff.mp H
   obtain ⟨⟨t675, t678⟩, A140, H⟩ := H
   replace H : (spec_l04DrawWal.j0 k l1 s0_0 t673 t674 t675) = some (r1, r2, r3) := H
   have A14 := Zh A140
   clear A140
   have H' := Zh H
   clear H
   try go_wp2
   replace BK659 := Zh (Zb BK659.out)
   replace BK660 := Zh (Zb BK660.out)
   replace HI0 := Zh (IsS99.drew HI0.out)
   replace HK := Zh (keep_drew HK.out)
   replace HB := Zh (Ze HB.out)
   refine start_ (n := 11) (S := fun w' => w'.cell? ⟨gb660, 0, none⟩ = some (.slice none 0 0)) (ds := [10]) #[false, false, false, false, false, false, false, false, false, false, false] (by kernel_rfl) rfl rfl ((blk_cell BK660.out 0).trans rfl) (fun hHeld => ?_); refine with_tabW spec_l04DrawWal.tab3 spec_l04DrawWal.bits3 (fun HT_ HW_ => ?_)
   generalize w10.drew = w15 at BK659 BK660 HI0 HK HB hHeld ⊢
   refine SQ.pu 1 12 HT_ ?_
   refine SQ.pu 4 15 HT_ ?_
   refine take_ (i := 0) (N := some 11) (v := ?_) (a' := ?_) #[true, true, false, false, true, false, false, false, false, false, false] rfl rfl (take_ofW HT_.out HW_.out (by kernel_rfl)) (fun _ _ _ h => h) (Or.inl ⟨by rfl, ?_⟩) hHeld ?_ ?_
   rotate_left
   ·
    intro w' s0
    go_simp
    with_reducible rfl
   rotate_left
   ·
    simp only [Act.put, List.setIfInBounds_toArray, List.set_cons_zero, List.set_cons_succ, i64_w, i32_w]
    rfl
   refine one_ (i := 2) (N := some 13) #[true, true, true, false, true, false, false, false, false, false, false] rfl rfl (one_of HT_.out (by kernel_rfl)) (by decide) (fun K hK => ?_)
   refine R_lit_step Kd.string _ 9 ?hg (N := 13) ?hd (xs := ([(⟨#[109, 97, 110]⟩ : ByteArray), (⟨#[110, 101, 119]⟩ : ByteArray), (⟨#[97]⟩ : ByteArray)] : List ByteArray)) (inner := [.string (⟨#[109, 97, 110]⟩ : ByteArray), .string (⟨#[110, 101, 119]⟩ : ByteArray), .string (⟨#[97]⟩ : ByteArray)]) (ok := fun _ => True) (okp := fun _ => True) ?hr ?hp (fun _ hk => hk) trivial (Below.refl _ _) (Nat.le_refl _) (by simp) ?_; (case hd => rfl); (case hg => rfl); (case hr => first | (go_simp; done) | (go_simp; rfl)); (case hp => exact (Reps.one (show Kd.M Kd.string _ _ _ (⟨#[109, 97, 110]⟩ : ByteArray) [.string (⟨#[109, 97, 110]⟩ : ByteArray)] from rfl) (Reps.one (show Kd.M Kd.string _ _ _ (⟨#[110, 101, 119]⟩ : ByteArray) [.string (⟨#[110, 101, 119]⟩ : ByteArray)] from rfl) (Reps.one (show Kd.M Kd.string _ _ _ (⟨#[97]⟩ : ByteArray) [.string (⟨#[97]⟩ : ByteArray)] from rfl) (Reps.none _ _)))))
   intro v665 w16 ho17 hb hg_ hnew_
   clear hg_ hnew_
   (first | rw [← Ny664.out] at ho17 | (simp only [Int.reduceToNat] at ho17; rw [← Ny664.out] at ho17))
   have HO666 := Zh (R_lower ho17 (keep_size (w := w) (g := g) (row := none) (by repeat (first | (with_reducible first | exact HK.out | apply KeepBut.set_ | apply keep_drewN | apply keep_drew | apply keep_alloc | refine keep_far ?_ GW659.out _ | refine keep_far ?_ GW660.out _) | exact HK.out))))
   replace BK659 := Zh (Zm (g := gb659) (o := .cells #[.slice none 0 0] 28 (0, 0)) Zk hb)
   replace BK660 := Zh (Zm (g := gb660) (o := .cells #[.slice none 0 0] 28 (0, 0)) Zk hb)
   replace HK := Zh (KeepBut.trans (by repeat (first | (with_reducible first | exact HK.out | apply KeepBut.set_ | apply keep_drewN | apply keep_drew | apply keep_alloc | refine keep_far ?_ GW659.out _ | refine keep_far ?_ GW660.out _) | exact HK.out)) (KeepBut.of_below hb g none) (.inl rfl))
   replace HB := Zh (Zl (by repeat (first | (with_reducible first | exact HB.out | apply Zf | apply Zd | apply Ze | refine Zg ?_ (IsS99.ge HI0.out) | refine Zg ?_ GE659.out | refine Zg ?_ GE660.out) | exact HB.out)) hb)
   replace HI0 := Zh (IsS99.below (by repeat (first | (with_reducible first | exact HI0.out | apply IsS99.alloc | apply IsS99.drewN | apply IsS99.drew | apply IsS99.set_1 | apply IsS99.set_2 | refine IsS99.far ?_ NB0_659.out _ | refine IsS99.far ?_ NB0_660.out _) | exact HI0.out)) hb)
   clear hb ho17
   obtain ⟨Ao18, co18, eo18⟩ := R_slice HO666.out
   (first | subst eo18 | (injection eo18 with f1_ f2_ f3_; have f4_ := f1_.symm; have f5_ := f3_.symm; clear f1_ f2_ f3_; subst f4_; subst f5_))
   refine hK.out _ _ ((blk_cell BK660.out 0).trans rfl) (fun hHeld => ?_)
   clear hK K
   refine norm_ (a' := ?_) ?_ ?_
   rotate_left
   ·
    show Act.put _ (some 13) _ = _
    simp only [Act.put, List.setIfInBounds_toArray, List.set_cons_zero, List.set_cons_succ, i64_w, i32_w]
    rfl
   refine one_ (i := 3) (N := some 14) #[true, true, true, true, true, false, false, false, false, false, false] rfl rfl (one_of HT_.out (by kernel_rfl)) (by decide) (fun K hK => ?_)
   refine goes_ Tryd.func98 (by kernel_rfl) rfl #[.pointer (some ⟨g, 0, none⟩), .slice Ao18 y664.length co18] (by rfl) rfl rfl (by (try simp only [List.map_toArray, List.map_cons, List.map_nil]); first | done | rfl | (simp only [List.length_drop, List.length_take]; rfl)) ?_
   with_reducible refine (spec_l01PickText.calls g s0_0 t662 t663 _ _ y664 t667 t668 t669 w0 _ ?side1 ?side2 ?side3 ?side4 ?side5 A12.out).mono ?_
   (case side1 => repeat (first | (with_reducible first | exact HI0.out | apply IsS99.alloc | apply IsS99.drewN | apply IsS99.drew | apply IsS99.set_1 | apply IsS99.set_2 | refine IsS99.far ?_ NB0_659.out _ | refine IsS99.far ?_ NB0_660.out _) | exact HI0.out))
   (case side2 => repeat (first | (with_reducible first | exact HB.out | apply Zf | apply Zd | apply Ze | refine Zg ?_ (IsS99.ge HI0.out) | refine Zg ?_ GE659.out | refine Zg ?_ GE660.out) | exact HB.out))
   (case side3 => repeat (first | exact (R_reads' HO666.out).2.2 | (with_reducible refine C_alloc ?_ _) | (with_reducible refine C_drewN ?_ _) | (with_reducible refine C_drew ?_)))
   (case side4 => exact (R_reads' HO666.out).2.1)
   (case side5 => exact far_slice (IsS99.own_ne HI0.out HO666.out (by decide)))
   rintro e w19 ⟨rfl, hi, hb, hk⟩
   refine ⟨_, rfl, ?_⟩
   replace BK659 := Zh (KeepBut.blk hk (g' := gb659) (o := .cells #[.slice none 0 0] 28 (0, 0)) Zk NB659_0.out (by simp))
   replace BK660 := Zh (KeepBut.blk hk (g' := gb660) (o := .cells #[.slice none 0 0] 28 (0, 0)) Zk NB660_0.out (by simp))
   replace HO666 := Zh (R_mono (R_keep (IsS99.apart (show IsS99 w0 _ g s0_0 t662 t663 from by repeat (first | (with_reducible first | exact HI0.out | apply IsS99.alloc | apply IsS99.drewN | apply IsS99.drew | apply IsS99.set_1 | apply IsS99.set_2 | refine IsS99.far ?_ NB0_659.out _ | refine IsS99.far ?_ NB0_660.out _) | exact HI0.out)) (ZR HO666.out) (by decide)) hk (fun _ h => h.2)) (fun _ h => h.1))
   replace HK := Zh (KeepBut.trans (by repeat (first | (with_reducible first | exact HK.out | apply KeepBut.set_ | apply keep_drewN | apply keep_drew | apply keep_alloc | refine keep_far ?_ GW659.out _ | refine keep_far ?_ GW660.out _) | exact HK.out)) hk (.inl rfl))
   replace HB := Zh (hb)
   replace HI0 := Zh (hi)
   (try clear hb)
   (try clear hb2)
   (try clear hk)
   (try clear hi)
   refine hK.out _ _ ((blk_cell BK660.out 0).trans rfl) (fun hHeld => ?_)
   clear hK K
   refine norm_ (a' := ?_) ?_ ?_
   rotate_left
   ·
    show Act.put _ (some 14) _ = _
    simp only [Act.put, List.setIfInBounds_toArray, List.set_cons_zero, List.set_cons_succ, i64_w, i32_w]
    rfl
   refine one_ (i := 5) (N := some 16) #[true, true, true, true, true, true, false, false, false, false, false] rfl rfl (one_of HT_.out (by kernel_rfl)) (by decide) (fun K hK => ?_)
   refine goes_ Tryd.func71 (by kernel_rfl) rfl #[.pointer (some ⟨g, 0, none⟩), .int .i64 3] (by rfl) rfl rfl (by (try simp only [List.map_toArray, List.map_cons, List.map_nil]); first | done | rfl | (simp only [List.length_drop, List.length_take]; rfl)) ?_
   with_reducible refine (spec_l01DrawBytes.calls k g s0_0 t668 t669 3 t670 t673 t674 w0 _ ?side1 ?side2 A13.out).mono ?_
   (case side1 => repeat (first | (with_reducible first | exact HI0.out | apply IsS99.alloc | apply IsS99.drewN | apply IsS99.drew | apply IsS99.set_1 | apply IsS99.set_2 | refine IsS99.far ?_ NB0_659.out _ | refine IsS99.far ?_ NB0_660.out _) | exact HI0.out))
   (case side2 => repeat (first | (with_reducible first | exact HB.out | apply Zf | apply Zd | apply Ze | refine Zg ?_ (IsS99.ge HI0.out) | refine Zg ?_ GE659.out | refine Zg ?_ GE660.out) | exact HB.out))
   rintro e w20 ⟨v671, rfl, ho0, hi, hb, hk⟩
   refine ⟨_, rfl, ?_⟩
   replace BK659 := Zh (KeepBut.blk hk (g' := gb659) (o := .cells #[.slice none 0 0] 28 (0, 0)) Zk NB659_0.out (by simp))
   replace BK660 := Zh (KeepBut.blk hk (g' := gb660) (o := .cells #[.slice none 0 0] 28 (0, 0)) Zk NB660_0.out (by simp))
   replace HO666 := Zh (R_mono (R_keep (IsS99.apart (show IsS99 w0 _ g s0_0 t668 t669 from by repeat (first | (with_reducible first | exact HI0.out | apply IsS99.alloc | apply IsS99.drewN | apply IsS99.drew | apply IsS99.set_1 | apply IsS99.set_2 | refine IsS99.far ?_ NB0_659.out _ | refine IsS99.far ?_ NB0_660.out _) | exact HI0.out)) (ZR HO666.out) (by decide)) hk (fun _ h => h.2)) (fun _ h => h.1))
   have HO672 := Zh (R_lower ho0 (keep_size (w := w) (g := g) (row := none) (by repeat (first | (with_reducible first | exact HK.out | apply KeepBut.set_ | apply keep_drewN | apply keep_drew | apply keep_alloc | refine keep_far ?_ GW659.out _ | refine keep_far ?_ GW660.out _) | exact HK.out))))
   replace HK := Zh (KeepBut.trans (by repeat (first | (with_reducible first | exact HK.out | apply KeepBut.set_ | apply keep_drewN | apply keep_drew | apply keep_alloc | refine keep_far ?_ GW659.out _ | refine keep_far ?_ GW660.out _) | exact HK.out)) hk (.inl rfl))
   replace HB := Zh (hb)
   replace HI0 := Zh (hi)
   (try clear hb)
   (try clear hb2)
   (try clear hk)
   (try clear hi)
   (try clear ho0)
   obtain ⟨Ao21, co21, eo21⟩ := R_slice HO672.out
   (first | subst eo21 | (injection eo21 with f1_ f2_ f3_; have f4_ := f1_.symm; have f5_ := f3_.symm; clear f1_ f2_ f3_; subst f4_; subst f5_))
   refine hK.out _ _ ((blk_cell BK660.out 0).trans rfl) (fun hHeld => ?_)
   clear hK K
   refine norm_ (a' := ?_) ?_ ?_
   rotate_left
   ·
    show Act.put _ (some 16) _ = _
    simp only [Act.put, List.setIfInBounds_toArray, List.set_cons_zero, List.set_cons_succ, i64_w, i32_w]
    rfl
   refine one_ (i := 6) (N := some 17) #[true, true, true, true, true, true, true, false, false, false, false] rfl rfl (one_of HT_.out (by kernel_rfl)) (by decide) (fun K hK => ?_)
   refine goes_ Tryd.func59 (by kernel_rfl) rfl #[.agg #[.slice none 0 0], .string t667, .slice Ao21 t670.length co21] (by rfl) rfl rfl (by (try simp only [List.map_toArray, List.map_cons, List.map_nil]); first | done | rfl | (simp only [List.length_drop, List.length_take]; rfl)) ?_
   refine (spec_AppendFile.calls k _ _ ([] : List (S55)) t667 _ _ t670 t675 t678 _ ?side1 ?side2 ?side3 ?side4 A14.out).mono ?_
   (case side1 => exact C_nil _ _)
   (case side2 => exact Nat.le_refl _)
   (case side3 => repeat (first | exact (R_reads' HO672.out).2.2 | (with_reducible refine C_alloc ?_ _) | (with_reducible refine C_drewN ?_ _) | (with_reducible refine C_drew ?_)))
   (case side4 => exact (R_reads' HO672.out).2.1)
   rintro e w22 ⟨v676, rfl, ho0, hb⟩
   refine ⟨_, rfl, ?_⟩
   replace HO666 := Zh (R_below (ZR HO666.out) hb)
   have HO677 := Zh (S_lower (S_new' ho0 (R_lt (ZR HO672.out))) (keep_size (w := w) (g := g) (row := none) (by repeat (first | (with_reducible first | exact HK.out | apply KeepBut.set_ | apply keep_drewN | apply keep_drew | apply keep_alloc | refine keep_far ?_ GW659.out _ | refine keep_far ?_ GW660.out _) | exact HK.out))))
   replace HO672 := Zh (R_below (ZR HO672.out) hb)
   replace BK659 := Zh (Zm (g := gb659) (o := .cells #[.slice none 0 0] 28 (0, 0)) Zk hb)
   replace BK660 := Zh (Zm (g := gb660) (o := .cells #[.slice none 0 0] 28 (0, 0)) Zk hb)
   replace HK := Zh (KeepBut.trans (by repeat (first | (with_reducible first | exact HK.out | apply KeepBut.set_ | apply keep_drewN | apply keep_drew | apply keep_alloc | refine keep_far ?_ GW659.out _ | refine keep_far ?_ GW660.out _) | exact HK.out)) (KeepBut.of_below hb g none) (.inl rfl))
   replace HB := Zh (Zl (by repeat (first | (with_reducible first | exact HB.out | apply Zf | apply Zd | apply Ze | refine Zg ?_ (IsS99.ge HI0.out) | refine Zg ?_ GE659.out | refine Zg ?_ GE660.out) | exact HB.out)) hb)
   replace HI0 := Zh (IsS99.below (by repeat (first | (with_reducible first | exact HI0.out | apply IsS99.alloc | apply IsS99.drewN | apply IsS99.drew | apply IsS99.set_1 | apply IsS99.set_2 | refine IsS99.far ?_ NB0_659.out _ | refine IsS99.far ?_ NB0_660.out _) | exact HI0.out)) hb)
   (try clear hb)
   (try clear hb2)
   (try clear hk)
   (try clear hi)
   (try clear ho0)
   obtain ⟨Ao23, co23, eo23⟩ := S_slice HO677.out
   (first | subst eo23 | (injection eo23 with f1_ f2_ f3_; have f4_ := f1_.symm; have f5_ := f3_.symm; clear f1_ f2_ f3_; subst f4_; subst f5_))
   refine hK.out _ _ ((blk_cell BK660.out 0).trans rfl) (fun hHeld => ?_)
   clear hK K
   refine norm_ (a' := ?_) ?_ ?_
   rotate_left
   ·
    show Act.put _ (some 17) _ = _
    simp only [Act.put, List.setIfInBounds_toArray, List.set_cons_zero, List.set_cons_succ, i64_w, i32_w]
    rfl
   refine SQ.pu 7 10 HT_ ?_
   refine SQ.pu 8 18 HT_ ?_
   refine SQ.pu 9 19 HT_ ?_
   refine last_ (i := 10) (N := none) #[true, true, true, true, true, true, true, true, true, true, true] rfl rfl (one_of HT_.out (by kernel_rfl)) (by decide) (fun K hK => ?_)
   have hs24 : w22.cell? ⟨gb660, 0, none⟩ = some (.slice none 0 0) := (blk_cell BK660.out 0).trans rfl
   have hfs24 := Zn BK660.out 0
   have hns24_0 := NB659_660.out
   have hms24_0 := NB660_659.out
   refine skip_ (w1 := ?_) (by rfl) rfl ?_ ?_
   rotate_left
   ·
    go_simp
    rfl
   refine hK.out _ _ ?_
   clear hK K
   refine done_ (done_of HT_.out (by kernel_rfl)) ?_
   try go_wp2
   go_meet
   case rel => exact ⟨_, (t673), (t674), (t675), (.slice Ao23 t675.length co23), H', ⟨by first | omega | exact Nat.le_refl _⟩, ⟨ZS (S_mono (S_far (p := ⟨gb660, 0, none⟩) (S_types HO677.out BK660.out (by decide)) (fun _ hk => hk.2) (.slice Ao23 t675.length co23)) (fun _ hk => trivial))⟩, ⟨by (with_reducible repeat (first | refine Za ?_ _ | refine Zb ?_ | refine blk_alloc ?_ _)); refine blk_far ?_ NB659_660.out _; (with_reducible repeat (first | refine Za ?_ _ | refine Zb ?_ | refine blk_alloc ?_ _)); exact BK659.out⟩, ⟨by (with_reducible repeat (first | refine Za ?_ _ | refine Zb ?_ | refine blk_alloc ?_ _)); refine blk_put (cs := #[.slice none 0 0]) ?_ 0 _ rfl; (with_reducible repeat (first | refine Za ?_ _ | refine Zb ?_ | refine blk_alloc ?_ _)); exact BK660.out⟩, ⟨by repeat (first | (with_reducible first | exact HI0.out | apply IsS99.alloc | apply IsS99.drewN | apply IsS99.drew | apply IsS99.set_1 | apply IsS99.set_2 | refine IsS99.far ?_ NB0_659.out _ | refine IsS99.far ?_ NB0_660.out _) | exact HI0.out)⟩, ⟨by repeat (first | (with_reducible first | exact HK.out | apply KeepBut.set_ | apply keep_drewN | apply keep_drew | apply keep_alloc | refine keep_far ?_ GW659.out _ | refine keep_far ?_ GW660.out _) | exact HK.out)⟩, ⟨by repeat (first | (with_reducible first | exact HB.out | apply Zf | apply Zd | apply Ze | refine Zg ?_ (IsS99.ge HI0.out) | refine Zg ?_ GE659.out | refine Zg ?_ GE660.out) | exact HB.out)⟩⟩
  replace c11 := Bool.eq_false_iff.mpr c11
  subst c11
  have H1 : (spec_l04DrawWal.j0 k l1 s0_0 t662 t663 ([] : List (S55))) = some (r1, r2, r3) := by rw [if_neg (show ¬ (false = true) by decide)] at H; exact H
  clear H
  have H := H1
  clear H1
  have H' := Zh H
  clear H
  go_wp2
  go_meet
  case rel => exact ⟨_, (t662), (t663), (([] : List (S55))), (.slice none 0 0), H', ⟨by first | omega | exact Nat.le_refl _⟩, ⟨by first | exact S_nil _ _ _ _ _ | exact N_nil _ _ _ _ _ | exact V_nil _ _ _ _ _ | exact Q_nil _ _ _ _ _ | exact R_nil _ _ _ _ _⟩, ⟨Zk⟩, ⟨Zk⟩, ⟨by repeat (first | (with_reducible first | exact HI0.out | apply IsS99.alloc | apply IsS99.drewN | apply IsS99.drew | apply IsS99.set_1 | apply IsS99.set_2 | refine IsS99.far ?_ NB0_659.out _ | refine IsS99.far ?_ NB0_660.out _) | exact HI0.out)⟩, ⟨by repeat (first | (with_reducible first | exact HK.out | apply KeepBut.set_ | apply keep_drewN | apply keep_drew | apply keep_alloc | refine keep_far ?_ GW659.out _ | refine keep_far ?_ GW660.out _) | exact HK.out)⟩, ⟨by repeat (first | (with_reducible first | exact HB.out | apply Zf | apply Zd | apply Ze | refine Zg ?_ (IsS99.ge HI0.out) | refine Zg ?_ GE659.out | refine Zg ?_ GE660.out) | exact HB.out)⟩⟩
 case rest =>
  clear HC4
  try clear c1
  try clear p2
  try clear c5
  try clear c6
  try clear c7
  try clear c8
  try clear c9
  try clear c11
  try clear hcz9_0
  try clear hfz9_0
  obtain ⟨kq, x1001_3, x1002_3, x661000_3, u661000, HA, HJ3, HO_661000, BK659, BK660, HI0, HK, HB⟩ := hcut
  cases kq with
  | zero => exact absurd HA.out (by simp [spec_l04DrawWal.j0])
  | succ kj3 =>
   have H := HA.out
   clear HA
   simp only [spec_l04DrawWal.j0] at H
   replace H := Option.bind_eq_some_iff.mp H
   obtain ⟨t679, A250, H⟩ := H
   replace H : ((spec_l01Below.f s0_0 x1001_3 x1002_3 t679).bind fun bt680 => (spec_l04DrawWal.l0 kj3 bt680.1 s0_0 bt680.2.1 bt680.2.2 x661000_3)) = some (r1, r2, r3) := H
   have A25 := Zh A250
   clear A250
   replace H := Option.bind_eq_some_iff.mp H
   obtain ⟨⟨t680, t681, t682⟩, A260, H⟩ := H
   replace H : (spec_l04DrawWal.l0 kj3 t680 s0_0 t681 t682 x661000_3) = some (r1, r2, r3) := H
   have A26 := Zh A260
   clear A260
   have H' := Zh H
   clear H
   go_wp2_with (first | ((with_reducible refine gate_callee (f := 99) rfl ?_); refine ZG (some 22) Tryd.func99 #[.slice A1 l1.length c1, .int .i64 9] rfl ?_; (with_reducible refine (spec_l01Size.calls _ _ l1 9 t679 _ ?side1 ?side2 A25.out).mono ?_); (case side1 => exact C_keep 0 HR1.out (by repeat (first | (with_reducible first | exact HK.out | apply KeepBut.set_ | apply keep_drewN | apply keep_drew | apply keep_alloc | refine keep_far ?_ GW659.out _ | refine keep_far ?_ GW660.out _) | exact HK.out)) hf1); (case side2 => exact HC1.out); rintro e w' ⟨rfl, ⟨nd, rfl⟩⟩; refine ⟨_, rfl, ?_⟩) | ((with_reducible refine gate_callee (f := 70) rfl ?_); refine ZG (some 23) Tryd.func70 #[.pointer (some ⟨g, 0, none⟩), .int .i64 t679] rfl ?_; (with_reducible refine (spec_l01Below.calls g s0_0 x1001_3 x1002_3 t679 t680 t681 t682 w0 _ ?side1 ?side2 A26.out).mono ?_); (case side1 => repeat (first | (with_reducible first | exact HI0.out | apply IsS99.alloc | apply IsS99.drewN | apply IsS99.drew | apply IsS99.set_1 | apply IsS99.set_2 | refine IsS99.far ?_ NB0_659.out _ | refine IsS99.far ?_ NB0_660.out _) | exact HI0.out)); (case side2 => repeat (first | (with_reducible first | exact HB.out | apply Zf | apply Zd | apply Ze | refine Zg ?_ (IsS99.ge HI0.out) | refine Zg ?_ GE659.out | refine Zg ?_ GE660.out) | exact HB.out)); rintro e w27 ⟨rfl, hi, hb, hk⟩; refine ⟨_, rfl, ?_⟩; replace HO_661000 := Zh (S_mono (S_keep (IsS99.apartS (show IsS99 w0 _ g s0_0 x1001_3 x1002_3 from by repeat (first | (with_reducible first | exact HI0.out | apply IsS99.alloc | apply IsS99.drewN | apply IsS99.drew | apply IsS99.set_1 | apply IsS99.set_2 | refine IsS99.far ?_ NB0_659.out _ | refine IsS99.far ?_ NB0_660.out _) | exact HI0.out)) (ZS HO_661000.out) (by decide)) hk (fun _ h => h.2)) (fun _ h => h.1)); replace BK659 := Zh (KeepBut.blk hk (g' := gb659) (o := .cells #[.slice none 0 0] 28 (0, 0)) Zk NB659_0.out (by simp)); replace BK660 := Zh (KeepBut.blk hk (g' := gb660) (o := .cells #[u661000] 28 (0, 0)) Zk NB660_0.out (by simp)); replace HK := Zh (KeepBut.trans (by repeat (first | (with_reducible first | exact HK.out | apply KeepBut.set_ | apply keep_drewN | apply keep_drew | apply keep_alloc | refine keep_far ?_ GW659.out _ | refine keep_far ?_ GW660.out _) | exact HK.out)) hk (.inl rfl)); replace HB := Zh (hb); replace HI0 := Zh (hi); (try clear hb); (try clear hb2); (try clear hk); (try clear hi)))
   go_loopg [6] kj3 (fun kq v6 w' => ∃ (x6_2 : Int) (x1001_2 : Int) (x1002_2 : Int) (x661000_2 : List (S55)) (u661000 : Value), v6 = .int .i64 x6_2 ∧ Aside0 (spec_l04DrawWal.l0 kq x6_2 s0_0 x1001_2 x1002_2 x661000_2 = some (r1, r2, r3)) ∧ Aside0 (kq ≤ kj3) ∧ Aside0 (Kd.S k55 55 w' w.heap.size (fun _ => True) u661000 x661000_2) ∧ Aside0 (w'.heap[gb659]? = some (.cells #[(.slice none 0 0)] 28 (0, 0))) ∧ Aside0 (w'.heap[gb660]? = some (.cells #[u661000] 28 (0, 0))) ∧ Aside0 (IsS99 w0 w' g s0_0 x1001_2 x1002_2) ∧ Aside0 (KeepBut w w' g none) ∧ Aside0 (Below w0.heap.size w0 w'))
   case atStart => exact ⟨(t680), (t681), (t682), (x661000_3), (u661000), (by first | rfl | (simp; done) | (simp [*]; done)), H', ⟨Nat.le_refl _⟩, ⟨ZS HO_661000.out⟩, ⟨Zk⟩, ⟨Zk⟩, ⟨by repeat (first | (with_reducible first | exact HI0.out | apply IsS99.alloc | apply IsS99.drewN | apply IsS99.drew | apply IsS99.set_1 | apply IsS99.set_2 | refine IsS99.far ?_ NB0_659.out _ | refine IsS99.far ?_ NB0_660.out _) | exact HI0.out)⟩, ⟨by repeat (first | (with_reducible first | exact HK.out | apply KeepBut.set_ | apply keep_drewN | apply keep_drew | apply keep_alloc | refine keep_far ?_ GW659.out _ | refine keep_far ?_ GW660.out _) | exact HK.out)⟩, ⟨by repeat (first | (with_reducible first | exact HB.out | apply Zf | apply Zd | apply Ze | refine Zg ?_ (IsS99.ge HI0.out) | refine Zg ?_ GE659.out | refine Zg ?_ GE660.out) | exact HB.out)⟩⟩
   case round =>
    clear H'
    try clear c1
    try clear p2
    try clear c5
    try clear c6
    try clear c7
    try clear c8
    try clear c9
    try clear c11
    try clear hcz9_0
    try clear hfz9_0
    try clear p2
    obtain ⟨x6_2, x1001_2, x1002_2, x661000_2, u661000, rfl, HA, HK2, HO_661000, BK659, BK660, HI0, HK, HB⟩ := hrel
    cases gk with
    | zero => exact absurd HA.out (by simp [spec_l04DrawWal.l0])
    | succ k2 =>
     have H := HA.out
     clear HA
     simp only [spec_l04DrawWal.l0] at H
     by_cases c28 : x6_2 > 0
     ·
      rw [if_pos c28] at H
      have c28b0 : decide (0 < x6_2) = true := decide_eq_true c28
      clear c28
      replace H := Option.bind_eq_some_iff.mp H
      obtain ⟨⟨t683, t684, t685⟩, A290, H⟩ := H
      replace H : (if t683 = true then ((spec_WalSync.f k2 x661000_2).bind fun bt686 => ((spec_l01Below.f s0_0 t684 t685 5).bind fun bt690 => ((spec_l01DrawBytes.f k2 s0_0 bt690.2.1 bt690.2.2 (wrap64 (1 + bt690.1))).bind fun bt693 => ((spec_WalAppend.f k2 bt686.1 bt693.1).bind fun bt698 => (spec_l04DrawWal.l0 k2 (wrap64 (x6_2 - 1)) s0_0 bt693.2.1 bt693.2.2 bt698.1))))) else ((spec_l01Below.f s0_0 t684 t685 5).bind fun bt702 => ((spec_l01DrawBytes.f k2 s0_0 bt702.2.1 bt702.2.2 (wrap64 (1 + bt702.1))).bind fun bt705 => ((spec_WalAppend.f k2 x661000_2 bt705.1).bind fun bt710 => (spec_l04DrawWal.l0 k2 (wrap64 (x6_2 - 1)) s0_0 bt705.2.1 bt705.2.2 bt710.1))))) = some (r1, r2, r3) := H
      have A29 := Zh A290
      clear A290
      by_cases c30 : t683 = true
      ·
       subst c30
       have H1 : ((spec_WalSync.f k2 x661000_2).bind fun bt686 => ((spec_l01Below.f s0_0 t684 t685 5).bind fun bt690 => ((spec_l01DrawBytes.f k2 s0_0 bt690.2.1 bt690.2.2 (wrap64 (1 + bt690.1))).bind fun bt693 => ((spec_WalAppend.f k2 bt686.1 bt693.1).bind fun bt698 => (spec_l04DrawWal.l0 k2 (wrap64 (x6_2 - 1)) s0_0 bt693.2.1 bt693.2.2 bt698.1))))) = some (r1, r2, r3) := by rw [if_pos rfl] at H; exact H
       clear H
       have H := H1
       clear H1
       replace H := Option.bind_eq_some_iff.mp H
       obtain ⟨⟨t686, t689⟩, A310, H⟩ := H
       replace H : ((spec_l01Below.f s0_0 t684 t685 5).bind fun bt690 => ((spec_l01DrawBytes.f k2 s0_0 bt690.2.1 bt690.2.2 (wrap64 (1 + bt690.1))).bind fun bt693 => ((spec_WalAppend.f k2 t686 bt693.1).bind fun bt698 => (spec_l04DrawWal.l0 k2 (wrap64 (x6_2 - 1)) s0_0 bt693.2.1 bt693.2.2 bt698.1)))) = some (r1, r2, r3) := H
       have A31 := Zh A310
       clear A310
       replace H := Option.bind_eq_some_iff.mp H
       obtain ⟨⟨t690, t691, t692⟩, A320, H⟩ := H
       replace H : ((spec_l01DrawBytes.f k2 s0_0 t691 t692 (wrap64 (1 + t690))).bind fun bt693 => ((spec_WalAppend.f k2 t686 bt693.1).bind fun bt698 => (spec_l04DrawWal.l0 k2 (wrap64 (x6_2 - 1)) s0_0 bt693.2.1 bt693.2.2 bt698.1))) = some (r1, r2, r3) := H
       have A32 := Zh A320
       clear A320
       replace H := Option.bind_eq_some_iff.mp H
       obtain ⟨⟨t693, t696, t697⟩, A330, H⟩ := H
       replace H : ((spec_WalAppend.f k2 t686 t693).bind fun bt698 => (spec_l04DrawWal.l0 k2 (wrap64 (x6_2 - 1)) s0_0 t696 t697 bt698.1)) = some (r1, r2, r3) := H
       have A33 := Zh A330
       clear A330
       replace H := Option.bind_eq_some_iff.mp H
       obtain ⟨⟨t698, t701⟩, A340, H⟩ := H
       replace H : (spec_l04DrawWal.l0 k2 (wrap64 (x6_2 - 1)) s0_0 t696 t697 t698) = some (r1, r2, r3) := H
       have A34 := Zh A340
       clear A340
       have H' := Zh H
       clear H
       try go_wp2_with (first | ((with_reducible refine gate_callee (f := 97) rfl ?_); refine ZG (some 29) Tryd.func97 #[.pointer (some ⟨g, 0, none⟩), .int .i64 4] rfl ?_; (with_reducible refine (spec_l01Once.calls g s0_0 x1001_2 x1002_2 4 true t684 t685 w0 _ ?side1 ?side2 A29.out).mono ?_); (case side1 => repeat (first | (with_reducible first | exact HI0.out | apply IsS99.alloc | apply IsS99.drewN | apply IsS99.drew | apply IsS99.set_1 | apply IsS99.set_2 | refine IsS99.far ?_ NB0_659.out _ | refine IsS99.far ?_ NB0_660.out _) | exact HI0.out)); (case side2 => repeat (first | (with_reducible first | exact HB.out | apply Zf | apply Zd | apply Ze | refine Zg ?_ (IsS99.ge HI0.out) | refine Zg ?_ GE659.out | refine Zg ?_ GE660.out) | exact HB.out)); rintro e w35 ⟨rfl, hi, hb, hk⟩; refine ⟨_, rfl, ?_⟩; replace HO_661000 := Zh (S_mono (S_keep (IsS99.apartS (show IsS99 w0 _ g s0_0 x1001_2 x1002_2 from by repeat (first | (with_reducible first | exact HI0.out | apply IsS99.alloc | apply IsS99.drewN | apply IsS99.drew | apply IsS99.set_1 | apply IsS99.set_2 | refine IsS99.far ?_ NB0_659.out _ | refine IsS99.far ?_ NB0_660.out _) | exact HI0.out)) (ZS HO_661000.out) (by decide)) hk (fun _ h => h.2)) (fun _ h => h.1)); replace BK659 := Zh (KeepBut.blk hk (g' := gb659) (o := .cells #[.slice none 0 0] 28 (0, 0)) Zk NB659_0.out (by simp)); replace BK660 := Zh (KeepBut.blk hk (g' := gb660) (o := .cells #[u661000] 28 (0, 0)) Zk NB660_0.out (by simp)); replace HK := Zh (KeepBut.trans (by repeat (first | (with_reducible first | exact HK.out | apply KeepBut.set_ | apply keep_drewN | apply keep_drew | apply keep_alloc | refine keep_far ?_ GW659.out _ | refine keep_far ?_ GW660.out _) | exact HK.out)) hk (.inl rfl)); replace HB := Zh (hb); replace HI0 := Zh (hi); (try clear hb); (try clear hb2); (try clear hk); (try clear hi); have hnb36 := NB660_659.out; have hnc36 := NB659_660.out; have hnb37 := NB660_0.out; have hnc37 := NB0_660.out; have hcz38_0 : w35.cell? ⟨gb660, 0, none⟩ = some (u661000) := (blk_cell BK660.out 0).trans rfl; have hfz38_0 := Zn BK660.out 0; obtain ⟨Ao39, co39, eo39⟩ := S_slice HO_661000.out; subst eo39) | ((with_reducible refine gate_callee (f := 12) rfl ?_); refine ZG (some 32) Tryd.func12 #[.agg #[.slice Ao39 x661000_2.length co39]] rfl ?_; (with_reducible refine (spec_WalSync.calls k2 _ _ x661000_2 t686 t689 _ ?side1 ?side2 A31.out).mono ?_); (case side1 => repeat (first | exact (S_reads' HO_661000.out).2.2 | (with_reducible refine C_alloc ?_ _) | (with_reducible refine C_drewN ?_ _) | (with_reducible refine C_drew ?_))); (case side2 => exact (S_reads' HO_661000.out).2.1); rintro e w40 ⟨v687, rfl, ho0, hb⟩; refine ⟨_, rfl, ?_⟩; have HO688 := Zh (S_lower (S_new' ho0 (S_lt (ZS HO_661000.out))) (keep_size (w := w) (g := g) (row := none) (by repeat (first | (with_reducible first | exact HK.out | apply KeepBut.set_ | apply keep_drewN | apply keep_drew | apply keep_alloc | refine keep_far ?_ GW659.out _ | refine keep_far ?_ GW660.out _) | exact HK.out)))); replace HO_661000 := Zh (S_elder' (ZS HO_661000.out) (S_base ho0) hb); replace BK659 := Zh (Zm (g := gb659) (o := .cells #[.slice none 0 0] 28 (0, 0)) Zk hb); replace BK660 := Zh (Zm (g := gb660) (o := .cells #[.slice Ao39 x661000_2.length co39] 28 (0, 0)) Zk hb); replace HK := Zh (KeepBut.trans (by repeat (first | (with_reducible first | exact HK.out | apply KeepBut.set_ | apply keep_drewN | apply keep_drew | apply keep_alloc | refine keep_far ?_ GW659.out _ | refine keep_far ?_ GW660.out _) | exact HK.out)) (KeepBut.of_below hb g none) (.inl rfl)); replace HB := Zh (Zl (by repeat (first | (with_reducible first | exact HB.out | apply Zf | apply Zd | apply Ze | refine Zg ?_ (IsS99.ge HI0.out) | refine Zg ?_ GE659.out | refine Zg ?_ GE660.out) | exact HB.out)) hb); replace HI0 := Zh (IsS99.below (by repeat (first | (with_reducible first | exact HI0.out | apply IsS99.alloc | apply IsS99.drewN | apply IsS99.drew | apply IsS99.set_1 | apply IsS99.set_2 | refine IsS99.far ?_ NB0_659.out _ | refine IsS99.far ?_ NB0_660.out _) | exact HI0.out)) hb); (try clear hb); (try clear hb2); (try clear hk); (try clear hi); (try clear ho0); obtain ⟨Ao41, co41, eo41⟩ := S_slice HO688.out; subst eo41; have hcz42_0 : w40.cell? ⟨gb660, 0, none⟩ = some (.slice Ao39 x661000_2.length co39) := (blk_cell BK660.out 0).trans rfl; have hfz42_0 := Zn BK660.out 0))
       have n0_ : Aside0 (Kd.S k55 55 (w40.setCell ⟨gb660, 0, none⟩ (.slice Ao41 t686.length co41)) w.heap.size (fun k_ => some k_ ≠ (.slice Ao41 t686.length co41 : Value).ownBlock) (.slice Ao39 x661000_2.length co39) x661000_2) := ⟨ZS (S_mono (S_far (p := ⟨gb660, 0, none⟩) (S_types HO_661000.out BK660.out (by decide)) (fun _ hk => hk.2) (.slice Ao41 t686.length co41)) (fun _ hk => hk.1.2))⟩
       have n1_ : Aside0 (Kd.S k55 55 (w40.setCell ⟨gb660, 0, none⟩ (.slice Ao41 t686.length co41)) w.heap.size (fun k_ => some k_ ≠ (.slice Ao39 x661000_2.length co39 : Value).ownBlock) (.slice Ao41 t686.length co41) t686) := ⟨ZS (S_mono (S_far (p := ⟨gb660, 0, none⟩) (S_types HO688.out BK660.out (by decide)) (fun _ hk => hk.2) (.slice Ao41 t686.length co41)) (fun _ hk => hk.1.2))⟩
       have n2_ : Aside0 ((w40.setCell ⟨gb660, 0, none⟩ (.slice Ao41 t686.length co41)).heap[gb659]? = some (.cells #[.slice none 0 0] 28 (0, 0))) := ⟨by (with_reducible repeat (first | refine Za ?_ _ | refine Zb ?_ | refine blk_alloc ?_ _)); refine blk_far ?_ NB659_660.out _; (with_reducible repeat (first | refine Za ?_ _ | refine Zb ?_ | refine blk_alloc ?_ _)); exact BK659.out⟩
       have n3_ : Aside0 ((w40.setCell ⟨gb660, 0, none⟩ (.slice Ao41 t686.length co41)).heap[gb660]? = some (.cells #[.slice Ao41 t686.length co41] 28 (0, 0))) := ⟨by (with_reducible repeat (first | refine Za ?_ _ | refine Zb ?_ | refine blk_alloc ?_ _)); refine blk_put (cs := #[.slice Ao39 x661000_2.length co39]) ?_ 0 _ rfl; (with_reducible repeat (first | refine Za ?_ _ | refine Zb ?_ | refine blk_alloc ?_ _)); exact BK660.out⟩
       have n4_ : Aside0 (IsS99 w0 (w40.setCell ⟨gb660, 0, none⟩ (.slice Ao41 t686.length co41)) g s0_0 t684 t685) := ⟨by repeat (first | (with_reducible first | exact HI0.out | apply IsS99.alloc | apply IsS99.drewN | apply IsS99.drew | apply IsS99.set_1 | apply IsS99.set_2 | refine IsS99.far ?_ NB0_659.out _ | refine IsS99.far ?_ NB0_660.out _) | exact HI0.out)⟩
       have n5_ : Aside0 (KeepBut w (w40.setCell ⟨gb660, 0, none⟩ (.slice Ao41 t686.length co41)) g none) := ⟨by repeat (first | (with_reducible first | exact HK.out | apply KeepBut.set_ | apply keep_drewN | apply keep_drew | apply keep_alloc | refine keep_far ?_ GW659.out _ | refine keep_far ?_ GW660.out _) | exact HK.out)⟩
       have n6_ : Aside0 (Below w0.heap.size w0 (w40.setCell ⟨gb660, 0, none⟩ (.slice Ao41 t686.length co41))) := ⟨by repeat (first | (with_reducible first | exact HB.out | apply Zf | apply Zd | apply Ze | refine Zg ?_ (IsS99.ge HI0.out) | refine Zg ?_ GE659.out | refine Zg ?_ GE660.out) | exact HB.out)⟩
       (try clear HO_661000)
       (try clear HO688)
       (try clear BK659)
       (try clear BK660)
       (try clear HI0)
       (try clear HK)
       (try clear HB)
       generalize (w40.setCell ⟨gb660, 0, none⟩ (.slice Ao41 t686.length co41)) = w43 at n0_ n1_ n2_ n3_ n4_ n5_ n6_ ⊢
       have HO_661000 := n0_
       have HO688 := n1_
       have BK659 := n2_
       have BK660 := n3_
       have HI0 := n4_
       have HK := n5_
       have HB := n6_
       clear n0_ n1_ n2_ n3_ n4_ n5_ n6_
       replace HO_661000 := Zh (S_drew HO_661000.out)
       replace HO688 := Zh (S_drew HO688.out)
       replace BK659 := Zh (Zb BK659.out)
       replace BK660 := Zh (Zb BK660.out)
       replace HI0 := Zh (IsS99.drew HI0.out)
       replace HK := Zh (keep_drew HK.out)
       replace HB := Zh (Ze HB.out)
       refine start_ (n := 11) (S := fun w' => w'.cell? ⟨gb660, 0, none⟩ = some (.slice Ao41 t686.length co41)) (ds := [10]) #[false, false, false, false, false, false, false, false, false, false, false] (by kernel_rfl) rfl rfl ((blk_cell BK660.out 0).trans rfl) (fun hHeld => ?_); refine with_tabW spec_l04DrawWal.tab9 spec_l04DrawWal.bits9 (fun HT_ HW_ => ?_)
       generalize w43.drew = w44 at HO_661000 HO688 BK659 BK660 HI0 HK HB hHeld ⊢
       refine SQ.pu 1 37 HT_ ?_
       refine SQ.pu 2 38 HT_ ?_
       refine take_ (i := 0) (N := some 36) (v := ?_) (a' := ?_) #[true, true, true, false, false, false, false, false, false, false, false] rfl rfl (take_ofW HT_.out HW_.out (by kernel_rfl)) (fun _ _ _ h => h) (Or.inl ⟨by rfl, ?_⟩) hHeld ?_ ?_
       rotate_left
       ·
        intro w' s0
        go_simp
        with_reducible rfl
       rotate_left
       ·
        simp only [Act.put, List.setIfInBounds_toArray, List.set_cons_zero, List.set_cons_succ, i64_w, i32_w]
        rfl
       refine one_ (i := 3) (N := some 39) #[true, true, true, true, false, false, false, false, false, false, false] rfl rfl (one_of HT_.out (by kernel_rfl)) (by decide) (fun K hK => ?_)
       refine goes_ Tryd.func70 (by kernel_rfl) rfl #[.pointer (some ⟨g, 0, none⟩), .int .i64 5] (by rfl) rfl rfl (by (try simp only [List.map_toArray, List.map_cons, List.map_nil]); first | done | rfl | (simp only [List.length_drop, List.length_take]; rfl)) ?_
       with_reducible refine (spec_l01Below.calls g s0_0 t684 t685 5 t690 t691 t692 w0 _ ?side1 ?side2 A32.out).mono ?_
       (case side1 => repeat (first | (with_reducible first | exact HI0.out | apply IsS99.alloc | apply IsS99.drewN | apply IsS99.drew | apply IsS99.set_1 | apply IsS99.set_2 | refine IsS99.far ?_ NB0_659.out _ | refine IsS99.far ?_ NB0_660.out _) | exact HI0.out))
       (case side2 => repeat (first | (with_reducible first | exact HB.out | apply Zf | apply Zd | apply Ze | refine Zg ?_ (IsS99.ge HI0.out) | refine Zg ?_ GE659.out | refine Zg ?_ GE660.out) | exact HB.out))
       rintro e w45 ⟨rfl, hi, hb, hk⟩
       refine ⟨_, rfl, ?_⟩
       replace HO_661000 := Zh (S_mono (S_keep (IsS99.apartS (show IsS99 w0 _ g s0_0 t684 t685 from by repeat (first | (with_reducible first | exact HI0.out | apply IsS99.alloc | apply IsS99.drewN | apply IsS99.drew | apply IsS99.set_1 | apply IsS99.set_2 | refine IsS99.far ?_ NB0_659.out _ | refine IsS99.far ?_ NB0_660.out _) | exact HI0.out)) (ZS HO_661000.out) (by decide)) hk (fun _ h => h.2)) (fun _ h => h.1))
       replace BK659 := Zh (KeepBut.blk hk (g' := gb659) (o := .cells #[.slice none 0 0] 28 (0, 0)) Zk NB659_0.out (by simp))
       replace BK660 := Zh (KeepBut.blk hk (g' := gb660) (o := .cells #[.slice Ao41 t686.length co41] 28 (0, 0)) Zk NB660_0.out (by simp))
       replace HO688 := Zh (S_mono (S_keep (IsS99.apartS (show IsS99 w0 _ g s0_0 t684 t685 from by repeat (first | (with_reducible first | exact HI0.out | apply IsS99.alloc | apply IsS99.drewN | apply IsS99.drew | apply IsS99.set_1 | apply IsS99.set_2 | refine IsS99.far ?_ NB0_659.out _ | refine IsS99.far ?_ NB0_660.out _) | exact HI0.out)) (ZS HO688.out) (by decide)) hk (fun _ h => h.2)) (fun _ h => h.1))
       replace HK := Zh (KeepBut.trans (by repeat (first | (with_reducible first | exact HK.out | apply KeepBut.set_ | apply keep_drewN | apply keep_drew | apply keep_alloc | refine keep_far ?_ GW659.out _ | refine keep_far ?_ GW660.out _) | exact HK.out)) hk (.inl rfl))
       replace HB := Zh (hb)
       replace HI0 := Zh (hi)
       (try clear hb)
       (try clear hb2)
       (try clear hk)
       (try clear hi)
       refine hK.out _ _ ((blk_cell BK660.out 0).trans rfl) (fun hHeld => ?_)
       clear hK K
       refine norm_ (a' := ?_) ?_ ?_
       rotate_left
       ·
        show Act.put _ (some 39) _ = _
        simp only [Act.put, List.setIfInBounds_toArray, List.set_cons_zero, List.set_cons_succ, i64_w, i32_w]
        rfl
       refine SQ.pu 4 40 HT_ ?_
       refine one_ (i := 5) (N := some 41) #[true, true, true, true, true, true, false, false, false, false, false] rfl rfl (one_of HT_.out (by kernel_rfl)) (by decide) (fun K hK => ?_)
       refine goes_ Tryd.func71 (by kernel_rfl) rfl #[.pointer (some ⟨g, 0, none⟩), .int .i64 (wrap64 (1 + t690))] (by rfl) rfl rfl (by (try simp only [List.map_toArray, List.map_cons, List.map_nil]); first | done | rfl | (simp only [List.length_drop, List.length_take]; rfl)) ?_
       with_reducible refine (spec_l01DrawBytes.calls k2 g s0_0 t691 t692 (wrap64 (1 + t690)) t693 t696 t697 w0 _ ?side1 ?side2 A33.out).mono ?_
       (case side1 => repeat (first | (with_reducible first | exact HI0.out | apply IsS99.alloc | apply IsS99.drewN | apply IsS99.drew | apply IsS99.set_1 | apply IsS99.set_2 | refine IsS99.far ?_ NB0_659.out _ | refine IsS99.far ?_ NB0_660.out _) | exact HI0.out))
       (case side2 => repeat (first | (with_reducible first | exact HB.out | apply Zf | apply Zd | apply Ze | refine Zg ?_ (IsS99.ge HI0.out) | refine Zg ?_ GE659.out | refine Zg ?_ GE660.out) | exact HB.out))
       rintro e w46 ⟨v694, rfl, ho0, hi, hb, hk⟩
       refine ⟨_, rfl, ?_⟩
       replace HO_661000 := Zh (S_mono (S_told (S_oldK (IsS99.apartS (show IsS99 w0 _ g s0_0 t691 t692 from by repeat (first | (with_reducible first | exact HI0.out | apply IsS99.alloc | apply IsS99.drewN | apply IsS99.drew | apply IsS99.set_1 | apply IsS99.set_2 | refine IsS99.far ?_ NB0_659.out _ | refine IsS99.far ?_ NB0_660.out _) | exact HI0.out)) (ZS HO_661000.out) (by decide)) hk) (R_base ho0)) (fun _ h_ => h_.1))
       replace BK659 := Zh (KeepBut.blk hk (g' := gb659) (o := .cells #[.slice none 0 0] 28 (0, 0)) Zk NB659_0.out (by simp))
       replace BK660 := Zh (KeepBut.blk hk (g' := gb660) (o := .cells #[.slice Ao41 t686.length co41] 28 (0, 0)) Zk NB660_0.out (by simp))
       replace HO688 := Zh (S_mono (S_told (S_oldK (IsS99.apartS (show IsS99 w0 _ g s0_0 t691 t692 from by repeat (first | (with_reducible first | exact HI0.out | apply IsS99.alloc | apply IsS99.drewN | apply IsS99.drew | apply IsS99.set_1 | apply IsS99.set_2 | refine IsS99.far ?_ NB0_659.out _ | refine IsS99.far ?_ NB0_660.out _) | exact HI0.out)) (ZS HO688.out) (by decide)) hk) (R_base ho0)) (fun _ h_ => h_.1))
       have HO695 := Zh (R_lower ho0 (keep_size (w := w) (g := g) (row := none) (by repeat (first | (with_reducible first | exact HK.out | apply KeepBut.set_ | apply keep_drewN | apply keep_drew | apply keep_alloc | refine keep_far ?_ GW659.out _ | refine keep_far ?_ GW660.out _) | exact HK.out))))
       replace HK := Zh (KeepBut.trans (by repeat (first | (with_reducible first | exact HK.out | apply KeepBut.set_ | apply keep_drewN | apply keep_drew | apply keep_alloc | refine keep_far ?_ GW659.out _ | refine keep_far ?_ GW660.out _) | exact HK.out)) hk (.inl rfl))
       replace HB := Zh (hb)
       replace HI0 := Zh (hi)
       (try clear hb)
       (try clear hb2)
       (try clear hk)
       (try clear hi)
       (try clear ho0)
       obtain ⟨Ao47, co47, eo47⟩ := R_slice HO695.out
       (first | subst eo47 | (injection eo47 with f1_ f2_ f3_; have f4_ := f1_.symm; have f5_ := f3_.symm; clear f1_ f2_ f3_; subst f4_; subst f5_))
       refine hK.out _ _ ((blk_cell BK660.out 0).trans rfl) (fun hHeld => ?_)
       clear hK K
       refine norm_ (a' := ?_) ?_ ?_
       rotate_left
       ·
        show Act.put _ (some 41) _ = _
        simp only [Act.put, List.setIfInBounds_toArray, List.set_cons_zero, List.set_cons_succ, i64_w, i32_w]
        rfl
       refine one_ (i := 6) (N := some 42) #[true, true, true, true, true, true, true, false, false, false, false] rfl rfl (one_of HT_.out (by kernel_rfl)) (by decide) (fun K hK => ?_)
       refine goes_ Tryd.func27 (by kernel_rfl) rfl #[.agg #[.slice Ao41 t686.length co41], .slice Ao47 t693.length co47] (by rfl) rfl rfl (by (try simp only [List.map_toArray, List.map_cons, List.map_nil]); first | done | rfl | (simp only [List.length_drop, List.length_take]; rfl)) ?_
       with_reducible refine (spec_WalAppend.calls k2 _ _ t686 _ _ t693 t698 t701 _ ?side1 ?side2 ?side3 ?side4 A34.out).mono ?_
       (case side1 => repeat (first | exact (S_reads' HO688.out).2.2 | (with_reducible refine C_alloc ?_ _) | (with_reducible refine C_drewN ?_ _) | (with_reducible refine C_drew ?_)))
       (case side2 => exact (S_reads' HO688.out).2.1)
       (case side3 => repeat (first | exact (R_reads' HO695.out).2.2 | (with_reducible refine C_alloc ?_ _) | (with_reducible refine C_drewN ?_ _) | (with_reducible refine C_drew ?_)))
       (case side4 => exact (R_reads' HO695.out).2.1)
       rintro e w48 ⟨v699, rfl, ho0, hb⟩
       refine ⟨_, rfl, ?_⟩
       have HO700 := Zh (S_lower (S_new' (S_new' (S_new' ho0 (S_lt (ZS HO_661000.out))) (S_lt (ZS HO688.out))) (R_lt (ZR HO695.out))) (keep_size (w := w) (g := g) (row := none) (by repeat (first | (with_reducible first | exact HK.out | apply KeepBut.set_ | apply keep_drewN | apply keep_drew | apply keep_alloc | refine keep_far ?_ GW659.out _ | refine keep_far ?_ GW660.out _) | exact HK.out))))
       replace HO_661000 := Zh (S_elder' (ZS HO_661000.out) (S_base ho0) hb)
       replace HO688 := Zh (S_elder' (ZS HO688.out) (S_base ho0) hb)
       replace HO695 := Zh (R_below (ZR HO695.out) hb)
       replace BK659 := Zh (Zm (g := gb659) (o := .cells #[.slice none 0 0] 28 (0, 0)) Zk hb)
       replace BK660 := Zh (Zm (g := gb660) (o := .cells #[.slice Ao41 t686.length co41] 28 (0, 0)) Zk hb)
       replace HK := Zh (KeepBut.trans (by repeat (first | (with_reducible first | exact HK.out | apply KeepBut.set_ | apply keep_drewN | apply keep_drew | apply keep_alloc | refine keep_far ?_ GW659.out _ | refine keep_far ?_ GW660.out _) | exact HK.out)) (KeepBut.of_below hb g none) (.inl rfl))
       replace HB := Zh (Zl (by repeat (first | (with_reducible first | exact HB.out | apply Zf | apply Zd | apply Ze | refine Zg ?_ (IsS99.ge HI0.out) | refine Zg ?_ GE659.out | refine Zg ?_ GE660.out) | exact HB.out)) hb)
       replace HI0 := Zh (IsS99.below (by repeat (first | (with_reducible first | exact HI0.out | apply IsS99.alloc | apply IsS99.drewN | apply IsS99.drew | apply IsS99.set_1 | apply IsS99.set_2 | refine IsS99.far ?_ NB0_659.out _ | refine IsS99.far ?_ NB0_660.out _) | exact HI0.out)) hb)
       (try clear hb)
       (try clear hb2)
       (try clear hk)
       (try clear hi)
       (try clear ho0)
       obtain ⟨Ao49, co49, eo49⟩ := S_slice HO700.out
       (first | subst eo49 | (injection eo49 with f1_ f2_ f3_; have f4_ := f1_.symm; have f5_ := f3_.symm; clear f1_ f2_ f3_; subst f4_; subst f5_))
       refine hK.out _ _ ((blk_cell BK660.out 0).trans rfl) (fun hHeld => ?_)
       clear hK K
       refine norm_ (a' := ?_) ?_ ?_
       rotate_left
       ·
        show Act.put _ (some 42) _ = _
        simp only [Act.put, List.setIfInBounds_toArray, List.set_cons_zero, List.set_cons_succ, i64_w, i32_w]
        rfl
       refine SQ.pu 7 35 HT_ ?_
       refine SQ.pu 8 43 HT_ ?_
       refine SQ.pu 9 44 HT_ ?_
       refine last_ (i := 10) (N := none) #[true, true, true, true, true, true, true, true, true, true, true] rfl rfl (one_of HT_.out (by kernel_rfl)) (by decide) (fun K hK => ?_)
       have hs50 : w48.cell? ⟨gb660, 0, none⟩ = some (.slice Ao41 t686.length co41) := (blk_cell BK660.out 0).trans rfl
       have hfs50 := Zn BK660.out 0
       have hns50_0 := NB659_660.out
       have hms50_0 := NB660_659.out
       refine skip_ (w1 := ?_) (by rfl) rfl ?_ ?_
       rotate_left
       ·
        go_simp
        rfl
       refine hK.out _ _ ?_
       clear hK K
       refine done_ (done_of HT_.out (by kernel_rfl)) ?_
       try go_wp2
       go_roundg k2
       case measure => have := HJ3.out; have := HK2.out; omega
       case rel => exact ⟨(wrap64 (x6_2 - 1)), (t696), (t697), (t698), (.slice Ao49 t698.length co49), (by first | rfl | (simp; done) | (simp [*]; done)), H', ⟨by have := HJ3.out; have := HK2.out; omega⟩, ⟨ZS (S_mono (S_far (p := ⟨gb660, 0, none⟩) (S_types HO700.out BK660.out (by decide)) (fun _ hk => hk.2) (.slice Ao49 t698.length co49)) (fun _ hk => trivial))⟩, ⟨by (with_reducible repeat (first | refine Za ?_ _ | refine Zb ?_ | refine blk_alloc ?_ _)); refine blk_far ?_ NB659_660.out _; (with_reducible repeat (first | refine Za ?_ _ | refine Zb ?_ | refine blk_alloc ?_ _)); exact BK659.out⟩, ⟨by (with_reducible repeat (first | refine Za ?_ _ | refine Zb ?_ | refine blk_alloc ?_ _)); refine blk_put (cs := #[.slice Ao41 t686.length co41]) ?_ 0 _ rfl; (with_reducible repeat (first | refine Za ?_ _ | refine Zb ?_ | refine blk_alloc ?_ _)); exact BK660.out⟩, ⟨by repeat (first | (with_reducible first | exact HI0.out | apply IsS99.alloc | apply IsS99.drewN | apply IsS99.drew | apply IsS99.set_1 | apply IsS99.set_2 | refine IsS99.far ?_ NB0_659.out _ | refine IsS99.far ?_ NB0_660.out _) | exact HI0.out)⟩, ⟨by repeat (first | (with_reducible first | exact HK.out | apply KeepBut.set_ | apply keep_drewN | apply keep_drew | apply keep_alloc | refine keep_far ?_ GW659.out _ | refine keep_far ?_ GW660.out _) | exact HK.out)⟩, ⟨by repeat (first | (with_reducible first | exact HB.out | apply Zf | apply Zd | apply Ze | refine Zg ?_ (IsS99.ge HI0.out) | refine Zg ?_ GE659.out | refine Zg ?_ GE660.out) | exact HB.out)⟩⟩
      replace c30 := Bool.eq_false_iff.mpr c30
      subst c30
      have H1 : ((spec_l01Below.f s0_0 t684 t685 5).bind fun bt702 => ((spec_l01DrawBytes.f k2 s0_0 bt702.2.1 bt702.2.2 (wrap64 (1 + bt702.1))).bind fun bt705 => ((spec_WalAppend.f k2 x661000_2 bt705.1).bind fun bt710 => (spec_l04DrawWal.l0 k2 (wrap64 (x6_2 - 1)) s0_0 bt705.2.1 bt705.2.2 bt710.1)))) = some (r1, r2, r3) := by rw [if_neg (show ¬ (false = true) by decide)] at H; exact H
      clear H
      have H := H1
      clear H1
      replace H := Option.bind_eq_some_iff.mp H
      obtain ⟨⟨t702, t703, t704⟩, A510, H⟩ := H
      replace H : ((spec_l01DrawBytes.f k2 s0_0 t703 t704 (wrap64 (1 + t702))).bind fun bt705 => ((spec_WalAppend.f k2 x661000_2 bt705.1).bind fun bt710 => (spec_l04DrawWal.l0 k2 (wrap64 (x6_2 - 1)) s0_0 bt705.2.1 bt705.2.2 bt710.1))) = some (r1, r2, r3) := H
      have A51 := Zh A510
      clear A510
      replace H := Option.bind_eq_some_iff.mp H
      obtain ⟨⟨t705, t708, t709⟩, A520, H⟩ := H
      replace H : ((spec_WalAppend.f k2 x661000_2 t705).bind fun bt710 => (spec_l04DrawWal.l0 k2 (wrap64 (x6_2 - 1)) s0_0 t708 t709 bt710.1)) = some (r1, r2, r3) := H
      have A52 := Zh A520
      clear A520
      replace H := Option.bind_eq_some_iff.mp H
      obtain ⟨⟨t710, t713⟩, A530, H⟩ := H
      replace H : (spec_l04DrawWal.l0 k2 (wrap64 (x6_2 - 1)) s0_0 t708 t709 t710) = some (r1, r2, r3) := H
      have A53 := Zh A530
      clear A530
      have H' := Zh H
      clear H
      try go_wp2_with (first | ((with_reducible refine gate_callee (f := 97) rfl ?_); refine ZG (some 29) Tryd.func97 #[.pointer (some ⟨g, 0, none⟩), .int .i64 4] rfl ?_; (with_reducible refine (spec_l01Once.calls g s0_0 x1001_2 x1002_2 4 false t684 t685 w0 _ ?side1 ?side2 A29.out).mono ?_); (case side1 => repeat (first | (with_reducible first | exact HI0.out | apply IsS99.alloc | apply IsS99.drewN | apply IsS99.drew | apply IsS99.set_1 | apply IsS99.set_2 | refine IsS99.far ?_ NB0_659.out _ | refine IsS99.far ?_ NB0_660.out _) | exact HI0.out)); (case side2 => repeat (first | (with_reducible first | exact HB.out | apply Zf | apply Zd | apply Ze | refine Zg ?_ (IsS99.ge HI0.out) | refine Zg ?_ GE659.out | refine Zg ?_ GE660.out) | exact HB.out)); rintro e w54 ⟨rfl, hi, hb, hk⟩; refine ⟨_, rfl, ?_⟩; replace HO_661000 := Zh (S_mono (S_keep (IsS99.apartS (show IsS99 w0 _ g s0_0 x1001_2 x1002_2 from by repeat (first | (with_reducible first | exact HI0.out | apply IsS99.alloc | apply IsS99.drewN | apply IsS99.drew | apply IsS99.set_1 | apply IsS99.set_2 | refine IsS99.far ?_ NB0_659.out _ | refine IsS99.far ?_ NB0_660.out _) | exact HI0.out)) (ZS HO_661000.out) (by decide)) hk (fun _ h => h.2)) (fun _ h => h.1)); replace BK659 := Zh (KeepBut.blk hk (g' := gb659) (o := .cells #[.slice none 0 0] 28 (0, 0)) Zk NB659_0.out (by simp)); replace BK660 := Zh (KeepBut.blk hk (g' := gb660) (o := .cells #[u661000] 28 (0, 0)) Zk NB660_0.out (by simp)); replace HK := Zh (KeepBut.trans (by repeat (first | (with_reducible first | exact HK.out | apply KeepBut.set_ | apply keep_drewN | apply keep_drew | apply keep_alloc | refine keep_far ?_ GW659.out _ | refine keep_far ?_ GW660.out _) | exact HK.out)) hk (.inl rfl)); replace HB := Zh (hb); replace HI0 := Zh (hi); (try clear hb); (try clear hb2); (try clear hk); (try clear hi)))
      replace HO_661000 := Zh (S_drew HO_661000.out)
      replace BK659 := Zh (Zb BK659.out)
      replace BK660 := Zh (Zb BK660.out)
      replace HI0 := Zh (IsS99.drew HI0.out)
      replace HK := Zh (keep_drew HK.out)
      replace HB := Zh (Ze HB.out)
      refine start_ (n := 11) (S := fun w' => w'.cell? ⟨gb660, 0, none⟩ = some (u661000)) (ds := [10]) #[false, false, false, false, false, false, false, false, false, false, false] (by kernel_rfl) rfl rfl ((blk_cell BK660.out 0).trans rfl) (fun hHeld => ?_); refine with_tabW spec_l04DrawWal.tab9 spec_l04DrawWal.bits9 (fun HT_ HW_ => ?_)
      generalize w54.drew = w55 at HO_661000 BK659 BK660 HI0 HK HB hHeld ⊢
      refine SQ.pu 1 37 HT_ ?_
      refine SQ.pu 2 38 HT_ ?_
      refine take_ (i := 0) (N := some 36) (v := ?_) (a' := ?_) #[true, true, true, false, false, false, false, false, false, false, false] rfl rfl (take_ofW HT_.out HW_.out (by kernel_rfl)) (fun _ _ _ h => h) (Or.inl ⟨by rfl, ?_⟩) hHeld ?_ ?_
      rotate_left
      ·
       intro w' s0
       go_simp
       with_reducible rfl
      rotate_left
      ·
       simp only [Act.put, List.setIfInBounds_toArray, List.set_cons_zero, List.set_cons_succ, i64_w, i32_w]
       rfl
      refine one_ (i := 3) (N := some 39) #[true, true, true, true, false, false, false, false, false, false, false] rfl rfl (one_of HT_.out (by kernel_rfl)) (by decide) (fun K hK => ?_)
      refine goes_ Tryd.func70 (by kernel_rfl) rfl #[.pointer (some ⟨g, 0, none⟩), .int .i64 5] (by rfl) rfl rfl (by (try simp only [List.map_toArray, List.map_cons, List.map_nil]); first | done | rfl | (simp only [List.length_drop, List.length_take]; rfl)) ?_
      with_reducible refine (spec_l01Below.calls g s0_0 t684 t685 5 t702 t703 t704 w0 _ ?side1 ?side2 A51.out).mono ?_
      (case side1 => repeat (first | (with_reducible first | exact HI0.out | apply IsS99.alloc | apply IsS99.drewN | apply IsS99.drew | apply IsS99.set_1 | apply IsS99.set_2 | refine IsS99.far ?_ NB0_659.out _ | refine IsS99.far ?_ NB0_660.out _) | exact HI0.out))
      (case side2 => repeat (first | (with_reducible first | exact HB.out | apply Zf | apply Zd | apply Ze | refine Zg ?_ (IsS99.ge HI0.out) | refine Zg ?_ GE659.out | refine Zg ?_ GE660.out) | exact HB.out))
      rintro e w56 ⟨rfl, hi, hb, hk⟩
      refine ⟨_, rfl, ?_⟩
      replace HO_661000 := Zh (S_mono (S_keep (IsS99.apartS (show IsS99 w0 _ g s0_0 t684 t685 from by repeat (first | (with_reducible first | exact HI0.out | apply IsS99.alloc | apply IsS99.drewN | apply IsS99.drew | apply IsS99.set_1 | apply IsS99.set_2 | refine IsS99.far ?_ NB0_659.out _ | refine IsS99.far ?_ NB0_660.out _) | exact HI0.out)) (ZS HO_661000.out) (by decide)) hk (fun _ h => h.2)) (fun _ h => h.1))
      replace BK659 := Zh (KeepBut.blk hk (g' := gb659) (o := .cells #[.slice none 0 0] 28 (0, 0)) Zk NB659_0.out (by simp))
      replace BK660 := Zh (KeepBut.blk hk (g' := gb660) (o := .cells #[u661000] 28 (0, 0)) Zk NB660_0.out (by simp))
      replace HK := Zh (KeepBut.trans (by repeat (first | (with_reducible first | exact HK.out | apply KeepBut.set_ | apply keep_drewN | apply keep_drew | apply keep_alloc | refine keep_far ?_ GW659.out _ | refine keep_far ?_ GW660.out _) | exact HK.out)) hk (.inl rfl))
      replace HB := Zh (hb)
      replace HI0 := Zh (hi)
      (try clear hb)
      (try clear hb2)
      (try clear hk)
      (try clear hi)
      refine hK.out _ _ ((blk_cell BK660.out 0).trans rfl) (fun hHeld => ?_)
      clear hK K
      refine norm_ (a' := ?_) ?_ ?_
      rotate_left
      ·
       show Act.put _ (some 39) _ = _
       simp only [Act.put, List.setIfInBounds_toArray, List.set_cons_zero, List.set_cons_succ, i64_w, i32_w]
       rfl
      refine SQ.pu 4 40 HT_ ?_
      refine one_ (i := 5) (N := some 41) #[true, true, true, true, true, true, false, false, false, false, false] rfl rfl (one_of HT_.out (by kernel_rfl)) (by decide) (fun K hK => ?_)
      refine goes_ Tryd.func71 (by kernel_rfl) rfl #[.pointer (some ⟨g, 0, none⟩), .int .i64 (wrap64 (1 + t702))] (by rfl) rfl rfl (by (try simp only [List.map_toArray, List.map_cons, List.map_nil]); first | done | rfl | (simp only [List.length_drop, List.length_take]; rfl)) ?_
      with_reducible refine (spec_l01DrawBytes.calls k2 g s0_0 t703 t704 (wrap64 (1 + t702)) t705 t708 t709 w0 _ ?side1 ?side2 A52.out).mono ?_
      (case side1 => repeat (first | (with_reducible first | exact HI0.out | apply IsS99.alloc | apply IsS99.drewN | apply IsS99.drew | apply IsS99.set_1 | apply IsS99.set_2 | refine IsS99.far ?_ NB0_659.out _ | refine IsS99.far ?_ NB0_660.out _) | exact HI0.out))
      (case side2 => repeat (first | (with_reducible first | exact HB.out | apply Zf | apply Zd | apply Ze | refine Zg ?_ (IsS99.ge HI0.out) | refine Zg ?_ GE659.out | refine Zg ?_ GE660.out) | exact HB.out))
      rintro e w57 ⟨v706, rfl, ho0, hi, hb, hk⟩
      refine ⟨_, rfl, ?_⟩
      replace HO_661000 := Zh (S_mono (S_told (S_oldK (IsS99.apartS (show IsS99 w0 _ g s0_0 t703 t704 from by repeat (first | (with_reducible first | exact HI0.out | apply IsS99.alloc | apply IsS99.drewN | apply IsS99.drew | apply IsS99.set_1 | apply IsS99.set_2 | refine IsS99.far ?_ NB0_659.out _ | refine IsS99.far ?_ NB0_660.out _) | exact HI0.out)) (ZS HO_661000.out) (by decide)) hk) (R_base ho0)) (fun _ h_ => h_.1))
      replace BK659 := Zh (KeepBut.blk hk (g' := gb659) (o := .cells #[.slice none 0 0] 28 (0, 0)) Zk NB659_0.out (by simp))
      replace BK660 := Zh (KeepBut.blk hk (g' := gb660) (o := .cells #[u661000] 28 (0, 0)) Zk NB660_0.out (by simp))
      have HO707 := Zh (R_lower ho0 (keep_size (w := w) (g := g) (row := none) (by repeat (first | (with_reducible first | exact HK.out | apply KeepBut.set_ | apply keep_drewN | apply keep_drew | apply keep_alloc | refine keep_far ?_ GW659.out _ | refine keep_far ?_ GW660.out _) | exact HK.out))))
      replace HK := Zh (KeepBut.trans (by repeat (first | (with_reducible first | exact HK.out | apply KeepBut.set_ | apply keep_drewN | apply keep_drew | apply keep_alloc | refine keep_far ?_ GW659.out _ | refine keep_far ?_ GW660.out _) | exact HK.out)) hk (.inl rfl))
      replace HB := Zh (hb)
      replace HI0 := Zh (hi)
      (try clear hb)
      (try clear hb2)
      (try clear hk)
      (try clear hi)
      (try clear ho0)
      obtain ⟨Ao58, co58, eo58⟩ := S_slice HO_661000.out
      (first | subst eo58 | (injection eo58 with f1_ f2_ f3_; have f4_ := f1_.symm; have f5_ := f3_.symm; clear f1_ f2_ f3_; subst f4_; subst f5_))
      obtain ⟨Ao59, co59, eo59⟩ := R_slice HO707.out
      (first | subst eo59 | (injection eo59 with f1_ f2_ f3_; have f4_ := f1_.symm; have f5_ := f3_.symm; clear f1_ f2_ f3_; subst f4_; subst f5_))
      refine hK.out _ _ ((blk_cell BK660.out 0).trans rfl) (fun hHeld => ?_)
      clear hK K
      refine norm_ (a' := ?_) ?_ ?_
      rotate_left
      ·
       show Act.put _ (some 41) _ = _
       simp only [Act.put, List.setIfInBounds_toArray, List.set_cons_zero, List.set_cons_succ, i64_w, i32_w]
       rfl
      refine one_ (i := 6) (N := some 42) #[true, true, true, true, true, true, true, false, false, false, false] rfl rfl (one_of HT_.out (by kernel_rfl)) (by decide) (fun K hK => ?_)
      refine goes_ Tryd.func27 (by kernel_rfl) rfl #[.agg #[.slice Ao58 x661000_2.length co58], .slice Ao59 t705.length co59] (by rfl) rfl rfl (by (try simp only [List.map_toArray, List.map_cons, List.map_nil]); first | done | rfl | (simp only [List.length_drop, List.length_take]; rfl)) ?_
      with_reducible refine (spec_WalAppend.calls k2 _ _ x661000_2 _ _ t705 t710 t713 _ ?side1 ?side2 ?side3 ?side4 A53.out).mono ?_
      (case side1 => repeat (first | exact (S_reads' HO_661000.out).2.2 | (with_reducible refine C_alloc ?_ _) | (with_reducible refine C_drewN ?_ _) | (with_reducible refine C_drew ?_)))
      (case side2 => exact (S_reads' HO_661000.out).2.1)
      (case side3 => repeat (first | exact (R_reads' HO707.out).2.2 | (with_reducible refine C_alloc ?_ _) | (with_reducible refine C_drewN ?_ _) | (with_reducible refine C_drew ?_)))
      (case side4 => exact (R_reads' HO707.out).2.1)
      rintro e w60 ⟨v711, rfl, ho0, hb⟩
      refine ⟨_, rfl, ?_⟩
      have HO712 := Zh (S_lower (S_new' (S_new' ho0 (S_lt (ZS HO_661000.out))) (R_lt (ZR HO707.out))) (keep_size (w := w) (g := g) (row := none) (by repeat (first | (with_reducible first | exact HK.out | apply KeepBut.set_ | apply keep_drewN | apply keep_drew | apply keep_alloc | refine keep_far ?_ GW659.out _ | refine keep_far ?_ GW660.out _) | exact HK.out))))
      replace HO_661000 := Zh (S_elder' (ZS HO_661000.out) (S_base ho0) hb)
      replace HO707 := Zh (R_below (ZR HO707.out) hb)
      replace BK659 := Zh (Zm (g := gb659) (o := .cells #[.slice none 0 0] 28 (0, 0)) Zk hb)
      replace BK660 := Zh (Zm (g := gb660) (o := .cells #[.slice Ao58 x661000_2.length co58] 28 (0, 0)) Zk hb)
      replace HK := Zh (KeepBut.trans (by repeat (first | (with_reducible first | exact HK.out | apply KeepBut.set_ | apply keep_drewN | apply keep_drew | apply keep_alloc | refine keep_far ?_ GW659.out _ | refine keep_far ?_ GW660.out _) | exact HK.out)) (KeepBut.of_below hb g none) (.inl rfl))
      replace HB := Zh (Zl (by repeat (first | (with_reducible first | exact HB.out | apply Zf | apply Zd | apply Ze | refine Zg ?_ (IsS99.ge HI0.out) | refine Zg ?_ GE659.out | refine Zg ?_ GE660.out) | exact HB.out)) hb)
      replace HI0 := Zh (IsS99.below (by repeat (first | (with_reducible first | exact HI0.out | apply IsS99.alloc | apply IsS99.drewN | apply IsS99.drew | apply IsS99.set_1 | apply IsS99.set_2 | refine IsS99.far ?_ NB0_659.out _ | refine IsS99.far ?_ NB0_660.out _) | exact HI0.out)) hb)
      (try clear hb)
      (try clear hb2)
      (try clear hk)
      (try clear hi)
      (try clear ho0)
      obtain ⟨Ao61, co61, eo61⟩ := S_slice HO712.out
      (first | subst eo61 | (injection eo61 with f1_ f2_ f3_; have f4_ := f1_.symm; have f5_ := f3_.symm; clear f1_ f2_ f3_; subst f4_; subst f5_))
      refine hK.out _ _ ((blk_cell BK660.out 0).trans rfl) (fun hHeld => ?_)
      clear hK K
      refine norm_ (a' := ?_) ?_ ?_
      rotate_left
      ·
       show Act.put _ (some 42) _ = _
       simp only [Act.put, List.setIfInBounds_toArray, List.set_cons_zero, List.set_cons_succ, i64_w, i32_w]
       rfl
      refine SQ.pu 7 35 HT_ ?_
      refine SQ.pu 8 43 HT_ ?_
      refine SQ.pu 9 44 HT_ ?_
      refine last_ (i := 10) (N := none) #[true, true, true, true, true, true, true, true, true, true, true] rfl rfl (one_of HT_.out (by kernel_rfl)) (by decide) (fun K hK => ?_)
      have hs62 : w60.cell? ⟨gb660, 0, none⟩ = some (.slice Ao58 x661000_2.length co58) := (blk_cell BK660.out 0).trans rfl
      have hfs62 := Zn BK660.out 0
      have hns62_0 := NB659_660.out
      have hms62_0 := NB660_659.out
      refine skip_ (w1 := ?_) (by rfl) rfl ?_ ?_
      rotate_left
      ·
       go_simp
       rfl
      refine hK.out _ _ ?_
      clear hK K
      refine done_ (done_of HT_.out (by kernel_rfl)) ?_
      try go_wp2
      go_roundg k2
      case measure => have := HJ3.out; have := HK2.out; omega
      case rel => exact ⟨(wrap64 (x6_2 - 1)), (t708), (t709), (t710), (.slice Ao61 t710.length co61), (by first | rfl | (simp; done) | (simp [*]; done)), H', ⟨by have := HJ3.out; have := HK2.out; omega⟩, ⟨ZS (S_mono (S_far (p := ⟨gb660, 0, none⟩) (S_types HO712.out BK660.out (by decide)) (fun _ hk => hk.2) (.slice Ao61 t710.length co61)) (fun _ hk => trivial))⟩, ⟨by (with_reducible repeat (first | refine Za ?_ _ | refine Zb ?_ | refine blk_alloc ?_ _)); refine blk_far ?_ NB659_660.out _; (with_reducible repeat (first | refine Za ?_ _ | refine Zb ?_ | refine blk_alloc ?_ _)); exact BK659.out⟩, ⟨by (with_reducible repeat (first | refine Za ?_ _ | refine Zb ?_ | refine blk_alloc ?_ _)); refine blk_put (cs := #[.slice Ao58 x661000_2.length co58]) ?_ 0 _ rfl; (with_reducible repeat (first | refine Za ?_ _ | refine Zb ?_ | refine blk_alloc ?_ _)); exact BK660.out⟩, ⟨by repeat (first | (with_reducible first | exact HI0.out | apply IsS99.alloc | apply IsS99.drewN | apply IsS99.drew | apply IsS99.set_1 | apply IsS99.set_2 | refine IsS99.far ?_ NB0_659.out _ | refine IsS99.far ?_ NB0_660.out _) | exact HI0.out)⟩, ⟨by repeat (first | (with_reducible first | exact HK.out | apply KeepBut.set_ | apply keep_drewN | apply keep_drew | apply keep_alloc | refine keep_far ?_ GW659.out _ | refine keep_far ?_ GW660.out _) | exact HK.out)⟩, ⟨by repeat (first | (with_reducible first | exact HB.out | apply Zf | apply Zd | apply Ze | refine Zg ?_ (IsS99.ge HI0.out) | refine Zg ?_ GE659.out | refine Zg ?_ GE660.out) | exact HB.out)⟩⟩
     rw [if_neg c28] at H
     have c28b0 : decide (0 < x6_2) = false := decide_eq_false c28
     clear c28
     simp only [Option.some.injEq, Prod.mk.injEq] at H
     obtain ⟨rfl, rfl, rfl⟩ := H
     have hnb63 := NB660_659.out
     have hnc63 := NB659_660.out
     have hnb64 := NB660_0.out
     have hnc64 := NB0_660.out
     have hcz65_0 : wr.cell? ⟨gb660, 0, none⟩ = some (u661000) := (blk_cell BK660.out 0).trans rfl
     have hfz65_0 := Zn BK660.out 0
     obtain ⟨Ao66, co66, eo66⟩ := S_slice HO_661000.out
     subst eo66
     have hnb67 := NB659_0.out
     have hnc67 := NB0_659.out
     have hcz68_0 : wr.cell? ⟨gb659, 0, none⟩ = some (.slice none 0 0) := (blk_cell BK659.out 0).trans rfl
     have hfz68_0 := Zn BK659.out 0
     go_wp2
     refine Zq (results_cell_row rfl _ _ gb659 28 #[.slice Ao66 x661000_2.length co66] (0, 0) _ rfl (by (with_reducible repeat (first | refine Za ?_ _ | refine Zb ?_ | refine blk_alloc ?_ _)); refine blk_put (cs := #[.slice none 0 0]) ?_ 0 _ rfl; (with_reducible repeat (first | refine Za ?_ _ | refine Zb ?_ | refine blk_alloc ?_ _)); exact BK659.out) Tryd.underlying28 rfl (by kernel_rfl)) rfl ?_
     exact ⟨_, ZE, ZS (S_mono (S_far (p := ⟨gb659, 0, none⟩) (S_types HO_661000.out BK659.out (by decide)) (fun _ hk => hk.2) (.slice Ao66 x661000_2.length co66)) (fun _ hk => trivial)), by repeat (first | (with_reducible first | exact HI0.out | apply IsS99.alloc | apply IsS99.drewN | apply IsS99.drew | apply IsS99.set_1 | apply IsS99.set_2 | refine IsS99.far ?_ NB0_659.out _ | refine IsS99.far ?_ NB0_660.out _) | exact HI0.out), by repeat (first | (with_reducible first | exact HB.out | apply Zf | apply Zd | apply Ze | refine Zg ?_ (IsS99.ge HI0.out) | refine Zg ?_ GE659.out | refine Zg ?_ GE660.out) | exact HB.out), by repeat (first | (with_reducible first | exact HK.out | apply KeepBut.set_ | apply keep_drewN | apply keep_drew | apply keep_alloc | refine keep_far ?_ GW659.out _ | refine keep_far ?_ GW660.out _) | exact HK.out)⟩
end Go.Proofs.YtcgojdhbphocgaaDoor.F

namespace Go.Proofs.YtcgojdhbphocgaaDoor.F
open Go.RowKit Go.Proofs.YtcgojdhbphocgaaDoorW.PrintWords Go.Proofs.YtcgojdhbphocgaaDoorW.PrintWords.Kd Go.Proofs.YtcgojdhbphocgaaDoorW.PrintMore.Kd Go.Proofs.YtcgojdhbphocgaaDoorW.PrintLast Go.Proofs.YtcgojdhbphocgaaDoorW.PrintMore
attribute [local go_sem] max2_int min2_int max_two min_two max_three min_three max_four min_four   -- for this text's walks alone
set_option linter.unusedVariables false
set_option linter.unusedSimpArgs false
def spec_DrawRightWal.l0 : Nat → List (List Int) → Int → List Int → Int → Int → List (S55) → Option ((List (S55)) × (List (List Int)) × Int)
 | 0, _, _, _, _, _, _ => none
 | k + 1, x7, x8, x719000, x719001, x719002, x725000 => if x8 > 0 then ((spec_l01Below.f x719000 x719001 x719002 5).bind fun bt731 => ((spec_l01DrawBytes.f k x719000 bt731.2.1 bt731.2.2 (wrap64 (1 + bt731.1))).bind fun bt734 => (if x7.length < 5864062014805 then (spec_DrawRightWal.l0 k (x7 ++ [bt734.1]) (wrap64 (x8 - 1)) x719000 bt734.2.1 bt734.2.2 x725000) else (none)))) else ((spec_l01Below.f x719000 x719001 x719002 60).bind fun bt742 => (some (x725000, x7, bt742.1)))
def spec_DrawRightWal.f (k : Nat) (l0 : List Int) : Option ((List (S55)) × (List (List Int)) × Int) := (spec_l01New.f k l0).bind fun bt715 => ((spec_l04DrawWal.f k bt715.1 bt715.2.1 bt715.2.2 l0).bind fun bt719 => ((spec_l01Below.f bt715.1 bt719.2.1 bt719.2.2 5).bind fun bt728 => (spec_DrawRightWal.l0 k (([] : List (List Int))) bt728.1 bt715.1 bt728.2.1 bt728.2.2 bt719.1)))
set_option maxHeartbeats 8000000 in
set_option maxRecDepth 100000 in
theorem spec_DrawRightWal.calls (k : Nat) (A0 : Option Addr) (c0 : Nat) (l0 : List Int) (r1 : List (S55)) (r2 : List (List Int)) (r3 : Int) (w : World) (hr0 : Kd.C (Kd.int .u8) w A0 l0.length l0) (hc0 : l0.length ≤ c0) (h : spec_DrawRightWal.f k l0 = some (r1, r2, r3)) :
  Calls Tryd.prog 35 #[.slice A0 l0.length c0] w fun e w' => ∃ v0_ v1_ : Value, e = .returned (.tuple #[.agg #[v0_], v1_, .int .i64 r3]) ∧ Kd.S k55 55 w' w.heap.size (fun _ => True) v0_ r1 ∧ Kd.S (Kd.slice 5 (Kd.int .u8)) 41 w' w.heap.size (fun _ => True) v1_ r2 ∧ Below w.heap.size w w' := by
 have hu28 := Tryd.underlying28
 have HR0 := Zh hr0
 have HC0 := Zh hc0
 clear hr0 hc0
 have HB := Zh (Below.refl w.heap.size w)
 have H : ((spec_l01New.f k l0).bind fun bt715 => ((spec_l04DrawWal.f k bt715.1 bt715.2.1 bt715.2.2 l0).bind fun bt719 => ((spec_l01Below.f bt715.1 bt719.2.1 bt719.2.2 5).bind fun bt728 => (spec_DrawRightWal.l0 k (([] : List (List Int))) bt728.1 bt715.1 bt728.2.1 bt728.2.2 bt719.1)))) = some (r1, r2, r3) := h
 clear h
 replace H := Option.bind_eq_some_iff.mp H
 obtain ⟨⟨t715, t716, t717⟩, A20, H⟩ := H
 replace H : ((spec_l04DrawWal.f k t715 t716 t717 l0).bind fun bt719 => ((spec_l01Below.f t715 bt719.2.1 bt719.2.2 5).bind fun bt728 => (spec_DrawRightWal.l0 k (([] : List (List Int))) bt728.1 t715 bt728.2.1 bt728.2.2 bt719.1))) = some (r1, r2, r3) := H
 have A2 := Zh A20
 clear A20
 replace H := Option.bind_eq_some_iff.mp H
 obtain ⟨⟨t719, t722, t723⟩, A30, H⟩ := H
 replace H : ((spec_l01Below.f t715 t722 t723 5).bind fun bt728 => (spec_DrawRightWal.l0 k (([] : List (List Int))) bt728.1 t715 bt728.2.1 bt728.2.2 t719)) = some (r1, r2, r3) := H
 have A3 := Zh A30
 clear A30
 obtain ⟨y725, hy725⟩ : ∃ y_ : List (List Int), y_ = (([] : List (List Int))) := ⟨_, rfl⟩
 replace H : ((spec_l01Below.f t715 t722 t723 5).bind fun bt728 => (spec_DrawRightWal.l0 k y725 bt728.1 t715 bt728.2.1 bt728.2.2 t719)) = some (r1, r2, r3) := by first | (rw [hy725]; with_reducible exact H) | (have H2_ := (Option.bind_some _ _).symm.trans H; rw [hy725]; with_reducible exact H2_) | (have H2_ := (Option.bind_some _ _).symm.trans H; with_reducible exact H2_) | with_reducible exact H | (rw [hy725]; exact H) | exact H
 have Ny725 := Zh hy725
 clear hy725
 replace H := Option.bind_eq_some_iff.mp H
 obtain ⟨⟨t728, t729, t730⟩, A40, H⟩ := H
 replace H : (spec_DrawRightWal.l0 k y725 t728 t715 t729 t730 t719) = some (r1, r2, r3) := H
 have A4 := Zh A40
 clear A40
 have H' := Zh H
 clear H
 go_enter Tryd.func35, Tryd.ntmps35
 go_wp2_with (first | ((with_reducible refine gate_dst (N := 2) rfl ?_); refine box_event ?hg (N := 2) ?hd (cs := #[.slice none 0 0]) (t := 28) ?hr ?_; (case hd => rfl); (case hg => rfl); (case hr => first | (go_simp; done) | (go_simp; rfl)); intro gb714 hg w5 hbox hb; have BK714 := Zh (hbox); have GW714 := Zh ((by rw [hg]; exact (below_size Zs) : w.heap.size ≤ gb714)); have GE714 := Zh ((by rw [hg]; exact (below_size Zs) : w.heap.size ≤ gb714)); replace HB := Zh (Zl Zs hb); clear hb hbox hg) | ((with_reducible refine gate_callee (f := 68) rfl ?_); refine ZG (some 10) Tryd.func68 #[.slice A0 l0.length c0] rfl ?_; (with_reducible refine (spec_l01New.calls k _ _ l0 t715 t716 t717 w _ ?side1 ?side2 ?side3 A2.out).mono ?_); (case side1 => repeat (first | (with_reducible first | exact HB.out | apply Zf | apply Zd | apply Ze | refine Zg ?_ GE714.out) | exact HB.out)); (case side2 => exact HR0.out); (case side3 => exact HC0.out); rintro e w6 ⟨g718, rfl, hi, hb, hb2⟩; refine ⟨_, rfl, ?_⟩; replace HB := Zh (hb); have HI718 := Zh (hi); have NB718_714 := Zh (IsS99.ne_blk hi (Zm (g := gb714) (o := .cells #[.slice none 0 0] 28 (0, 0)) Zk hb2) (by decide)); have NB714_718 := Zh (Ne.symm (IsS99.ne_blk hi (Zm (g := gb714) (o := .cells #[.slice none 0 0] 28 (0, 0)) Zk hb2) (by decide))); replace BK714 := Zh (Zm (g := gb714) (o := .cells #[.slice none 0 0] 28 (0, 0)) Zk hb2); (try clear hb); (try clear hb2); (try clear hk); (try clear hi)) | ((with_reducible refine gate_callee (f := 69) rfl ?_); refine ZG (some 13) Tryd.func69 #[.pointer (some ⟨g718, 0, none⟩), .slice A0 l0.length c0] rfl ?_; (with_reducible refine (spec_l04DrawWal.calls k g718 t715 t716 t717 _ _ l0 t719 t722 t723 w _ ?side1 ?side2 ?side3 ?side4 ?side5 A3.out).mono ?_); (case side1 => repeat (first | (with_reducible first | exact HI718.out | apply IsS99.alloc | apply IsS99.drewN | apply IsS99.drew | apply IsS99.set_1 | apply IsS99.set_2 | refine IsS99.far ?_ NB718_714.out _) | exact HI718.out)); (case side2 => repeat (first | (with_reducible first | exact HB.out | apply Zf | apply Zd | apply Ze | refine Zg ?_ (IsS99.ge HI718.out) | refine Zg ?_ GE714.out) | exact HB.out)); (case side3 => repeat (first | exact (C_below HR0.out HB.out) | (with_reducible refine C_alloc ?_ _) | (with_reducible refine C_drewN ?_ _) | (with_reducible refine C_drew ?_))); (case side4 => exact HC0.out); (case side5 => exact Kd.far_C 0 HR0.out (IsS99.ge HI718.out)); rintro e w7 ⟨v720, rfl, ho0, hi, hb, hk⟩; refine ⟨_, rfl, ?_⟩; replace BK714 := Zh (KeepBut.blk hk (g' := gb714) (o := .cells #[.slice none 0 0] 28 (0, 0)) Zk NB714_718.out (by simp)); have HO721 := Zh (S_lower ho0 (below_size (by repeat (first | (with_reducible first | exact HB.out | apply Zf | apply Zd | apply Ze | refine Zg ?_ (IsS99.ge HI718.out) | refine Zg ?_ GE714.out) | exact HB.out)))); replace HB := Zh (hb); replace HI718 := Zh (hi); (try clear hb); (try clear hb2); (try clear hk); (try clear hi); (try clear ho0)) | ((with_reducible refine gate_dst (N := 6) rfl ?_); refine box_event ?hg (N := 6) ?hd (cs := #[.slice none 0 0]) (t := 28) ?hr ?_; (case hd => rfl); (case hg => rfl); (case hr => first | (go_simp; done) | (go_simp; rfl)); intro gb724 hg w8 hbox hb; replace HO721 := Zh (S_below (ZS HO721.out) hb); have BK724 := Zh (hbox); have GW724 := Zh ((by rw [hg]; exact (below_size (by repeat (first | (with_reducible first | exact HB.out | apply Zf | apply Zd | apply Ze | refine Zg ?_ (IsS99.ge HI718.out) | refine Zg ?_ GE714.out) | exact HB.out))) : w.heap.size ≤ gb724)); have GE724 := Zh ((by rw [hg]; exact (below_size (by repeat (first | (with_reducible first | exact HB.out | apply Zf | apply Zd | apply Ze | refine Zg ?_ (IsS99.ge HI718.out) | refine Zg ?_ GE714.out) | exact HB.out))) : w.heap.size ≤ gb724)); replace HB := Zh (Zl (by repeat (first | (with_reducible first | exact HB.out | apply Zf | apply Zd | apply Ze | refine Zg ?_ (IsS99.ge HI718.out) | refine Zg ?_ GE714.out) | exact HB.out)) hb); have NB714_724 := Zh ((by rw [hg]; exact Nat.ne_of_lt (blk_lt (g := gb714) (o := .cells #[.slice none 0 0] 28 (0, 0)) Zk) : gb714 ≠ gb724)); have NB724_714 := Zh ((by rw [hg]; exact Nat.ne_of_gt (blk_lt (g := gb714) (o := .cells #[.slice none 0 0] 28 (0, 0)) Zk) : gb724 ≠ gb714)); replace BK714 := Zh (Zm (g := gb714) (o := .cells #[.slice none 0 0] 28 (0, 0)) Zk hb); have NB718_724 := Zh ((by rw [hg]; exact Nat.ne_of_lt (IsS99.lt (show IsS99 w _ g718 t715 t722 t723 from by repeat (first | (with_reducible first | exact HI718.out | apply IsS99.alloc | apply IsS99.drewN | apply IsS99.drew | apply IsS99.set_1 | apply IsS99.set_2 | refine IsS99.far ?_ NB718_714.out _) | exact HI718.out))) : g718 ≠ gb724)); have NB724_718 := Zh ((by rw [hg]; exact Nat.ne_of_gt (IsS99.lt (show IsS99 w _ g718 t715 t722 t723 from by repeat (first | (with_reducible first | exact HI718.out | apply IsS99.alloc | apply IsS99.drewN | apply IsS99.drew | apply IsS99.set_1 | apply IsS99.set_2 | refine IsS99.far ?_ NB718_714.out _) | exact HI718.out))) : gb724 ≠ g718)); replace HI718 := Zh (IsS99.below (by repeat (first | (with_reducible first | exact HI718.out | apply IsS99.alloc | apply IsS99.drewN | apply IsS99.drew | apply IsS99.set_1 | apply IsS99.set_2 | refine IsS99.far ?_ NB718_714.out _) | exact HI718.out)) hb); clear hb hbox hg; obtain ⟨Ao9, co9, eo9⟩ := S_slice HO721.out; subst eo9; have hnb10 := NB724_714.out; have hnc10 := NB714_724.out; have hnb11 := NB724_718.out; have hnc11 := NB718_724.out; have hcz12_0 : w8.cell? ⟨gb724, 0, none⟩ = some (.slice none 0 0) := (blk_cell BK724.out 0).trans rfl; have hfz12_0 := Zn BK724.out 0) | ((with_reducible refine gate_dst (N := 14) rfl ?_); refine S_lit (Kd.slice 5 (Kd.int .u8)) _ 41 ?hg (N := 14) ?hd (xs := ([] : List (List Int))) (inner := []) (ok := fun _ => True) (okp := fun _ => True) ?hr ?hp (fun _ hk => hk) trivial (Below.refl _ _) (Nat.le_refl _) (by simp) ?_; (case hd => rfl); (case hg => rfl); (case hr => first | (go_simp; done) | (go_simp; rfl)); (case hp => exact (Reps.none _ _)); intro v726 w13 ho14 hb hg_ hnew_; clear hg_ hnew_; (first | rw [← Ny725.out] at ho14 | (simp only [Int.reduceToNat] at ho14; rw [← Ny725.out] at ho14)); replace HO721 := Zh (S_below (ZS (S_mono (S_far (p := ⟨gb724, 0, none⟩) (S_types HO721.out BK724.out (by decide)) (fun _ hk => hk.2) (.slice Ao9 t719.length co9)) (fun _ h_ => h_.1))) hb); have HO727 := Zh (S_lower ho14 (below_size (by repeat (first | (with_reducible first | exact HB.out | apply Zf | apply Zd | apply Ze | refine Zg ?_ (IsS99.ge HI718.out) | refine Zg ?_ GE714.out | refine Zg ?_ GE724.out) | exact HB.out)))); replace BK714 := Zh (Zm (g := gb714) (o := .cells #[.slice none 0 0] 28 (0, 0)) (by (with_reducible repeat (first | refine Za ?_ _ | refine Zb ?_ | refine blk_alloc ?_ _)); refine blk_far ?_ NB714_724.out _; (with_reducible repeat (first | refine Za ?_ _ | refine Zb ?_ | refine blk_alloc ?_ _)); exact BK714.out) hb); replace BK724 := Zh (Zm (g := gb724) (o := .cells #[.slice Ao9 t719.length co9] 28 (0, 0)) (by (with_reducible repeat (first | refine Za ?_ _ | refine Zb ?_ | refine blk_alloc ?_ _)); refine blk_put (cs := #[.slice none 0 0]) ?_ 0 _ rfl; (with_reducible repeat (first | refine Za ?_ _ | refine Zb ?_ | refine blk_alloc ?_ _)); exact BK724.out) hb); replace HB := Zh (Zl (by repeat (first | (with_reducible first | exact HB.out | apply Zf | apply Zd | apply Ze | refine Zg ?_ (IsS99.ge HI718.out) | refine Zg ?_ GE714.out | refine Zg ?_ GE724.out) | exact HB.out)) hb); replace HI718 := Zh (IsS99.below (show IsS99 w (w8.setCell ⟨gb724, 0, none⟩ (.slice Ao9 t719.length co9)) g718 t715 t722 t723 from by repeat (first | (with_reducible first | exact HI718.out | apply IsS99.alloc | apply IsS99.drewN | apply IsS99.drew | apply IsS99.set_1 | apply IsS99.set_2 | refine IsS99.far ?_ NB718_714.out _ | refine IsS99.far ?_ NB718_724.out _) | exact HI718.out)) hb); clear hb ho14) | ((with_reducible refine gate_callee (f := 70) rfl ?_); refine ZG (some 16) Tryd.func70 #[.pointer (some ⟨g718, 0, none⟩), .int .i64 5] rfl ?_; (with_reducible refine (spec_l01Below.calls g718 t715 t722 t723 5 t728 t729 t730 w _ ?side1 ?side2 A4.out).mono ?_); (case side1 => repeat (first | (with_reducible first | exact HI718.out | apply IsS99.alloc | apply IsS99.drewN | apply IsS99.drew | apply IsS99.set_1 | apply IsS99.set_2 | refine IsS99.far ?_ NB718_714.out _ | refine IsS99.far ?_ NB718_724.out _) | exact HI718.out)); (case side2 => repeat (first | (with_reducible first | exact HB.out | apply Zf | apply Zd | apply Ze | refine Zg ?_ (IsS99.ge HI718.out) | refine Zg ?_ GE714.out | refine Zg ?_ GE724.out) | exact HB.out)); rintro e w15 ⟨rfl, hi, hb, hk⟩; refine ⟨_, rfl, ?_⟩; replace BK714 := Zh (KeepBut.blk hk (g' := gb714) (o := .cells #[.slice none 0 0] 28 (0, 0)) Zk NB714_718.out (by simp)); replace HO721 := Zh (S_mono (S_keep (IsS99.apartS (show IsS99 w _ g718 t715 t722 t723 from by repeat (first | (with_reducible first | exact HI718.out | apply IsS99.alloc | apply IsS99.drewN | apply IsS99.drew | apply IsS99.set_1 | apply IsS99.set_2 | refine IsS99.far ?_ NB718_714.out _ | refine IsS99.far ?_ NB718_724.out _) | exact HI718.out)) (ZS HO721.out) (by decide)) hk (fun _ h => h.2)) (fun _ h => h.1)); replace BK724 := Zh (KeepBut.blk hk (g' := gb724) (o := .cells #[.slice Ao9 t719.length co9] 28 (0, 0)) Zk NB724_718.out (by simp)); replace HO727 := Zh (S_mono (S_keep (IsS99.apartS (show IsS99 w _ g718 t715 t722 t723 from by repeat (first | (with_reducible first | exact HI718.out | apply IsS99.alloc | apply IsS99.drewN | apply IsS99.drew | apply IsS99.set_1 | apply IsS99.set_2 | refine IsS99.far ?_ NB718_714.out _ | refine IsS99.far ?_ NB718_724.out _) | exact HI718.out)) (ZS HO727.out) (by decide)) hk (fun _ h => h.2)) (fun _ h => h.1)); replace HB := Zh (hb); replace HI718 := Zh (hi); (try clear hb); (try clear hb2); (try clear hk); (try clear hi)))
 go_loopg [7, 8] k (fun kq v7 v8 w' => ∃ (x7_1 : List (List Int)) (x8_1 : Int) (x719001_1 : Int) (x719002_1 : Int), v8 = .int .i64 x8_1 ∧ Aside0 (spec_DrawRightWal.l0 kq x7_1 x8_1 t715 x719001_1 x719002_1 t719 = some (r1, r2, r3)) ∧ Aside0 (kq ≤ k) ∧ Aside0 (Kd.S (Kd.slice 5 (Kd.int .u8)) 41 w' w.heap.size (fun _ => True) v7 x7_1) ∧ Aside0 (Kd.S k55 55 w' w.heap.size (fun _ => True) (.slice Ao9 t719.length co9) t719) ∧ Aside0 (w'.heap[gb714]? = some (.cells #[(.slice none 0 0)] 28 (0, 0))) ∧ Aside0 (w'.heap[gb724]? = some (.cells #[(.slice Ao9 t719.length co9)] 28 (0, 0))) ∧ Aside0 (IsS99 w w' g718 t715 x719001_1 x719002_1) ∧ Aside0 (Below w.heap.size w w'))
 case atStart => exact ⟨(y725), (t728), (t729), (t730), (by first | rfl | (simp; done) | (simp [*]; done)), H', ⟨Nat.le_refl _⟩, ⟨ZS HO727.out⟩, ⟨ZS HO721.out⟩, ⟨Zk⟩, ⟨Zk⟩, ⟨by repeat (first | (with_reducible first | exact HI718.out | apply IsS99.alloc | apply IsS99.drewN | apply IsS99.drew | apply IsS99.set_1 | apply IsS99.set_2 | refine IsS99.far ?_ NB718_714.out _ | refine IsS99.far ?_ NB718_724.out _) | exact HI718.out)⟩, ⟨by repeat (first | (with_reducible first | exact HB.out | apply Zf | apply Zd | apply Ze | refine Zg ?_ (IsS99.ge HI718.out) | refine Zg ?_ GE714.out | refine Zg ?_ GE724.out) | exact HB.out)⟩⟩
 case round =>
  clear H'
  try clear c1
  try clear p2
  try clear c3
  try clear c6
  try clear c7
  try clear c10
  try clear c11
  try clear hcz12_0
  try clear hfz12_0
  obtain ⟨x7_1, x8_1, x719001_1, x719002_1, rfl, HA, HK1, HO_7, HO_725000, BK714, BK724, HI718, HB⟩ := hrel
  cases gk with
  | zero => exact absurd HA.out (by simp [spec_DrawRightWal.l0])
  | succ k1 =>
   have H := HA.out
   clear HA
   simp only [spec_DrawRightWal.l0] at H
   by_cases c16 : x8_1 > 0
   ·
    rw [if_pos c16] at H
    have c16b0 : decide (0 < x8_1) = true := decide_eq_true c16
    clear c16
    replace H := Option.bind_eq_some_iff.mp H
    obtain ⟨⟨t731, t732, t733⟩, A170, H⟩ := H
    replace H : ((spec_l01DrawBytes.f k1 t715 t732 t733 (wrap64 (1 + t731))).bind fun bt734 => (if x7_1.length < 5864062014805 then (spec_DrawRightWal.l0 k1 (x7_1 ++ [bt734.1]) (wrap64 (x8_1 - 1)) t715 bt734.2.1 bt734.2.2 t719) else (none))) = some (r1, r2, r3) := H
    have A17 := Zh A170
    clear A170
    replace H := Option.bind_eq_some_iff.mp H
    obtain ⟨⟨t734, t737, t738⟩, A180, H⟩ := H
    replace H : (if x7_1.length < 5864062014805 then (spec_DrawRightWal.l0 k1 (x7_1 ++ [t734]) (wrap64 (x8_1 - 1)) t715 t737 t738 t719) else (none)) = some (r1, r2, r3) := H
    have A18 := Zh A180
    clear A180
    by_cases c19 : x7_1.length < 5864062014805
    ·
     rw [if_pos c19] at H
     have LMc19 := Zh c19
     clear c19
     obtain ⟨y739, hy739⟩ : ∃ y_ : List (List Int), y_ = (x7_1 ++ [t734]) := ⟨_, rfl⟩
     replace H : (spec_DrawRightWal.l0 k1 y739 (wrap64 (x8_1 - 1)) t715 t737 t738 t719) = some (r1, r2, r3) := by first | (rw [hy739]; with_reducible exact H) | (have H2_ := (Option.bind_some _ _).symm.trans H; rw [hy739]; with_reducible exact H2_) | (have H2_ := (Option.bind_some _ _).symm.trans H; with_reducible exact H2_) | with_reducible exact H | (rw [hy739]; exact H) | exact H
     have Ny739 := Zh hy739
     clear hy739
     have H' := Zh H
     clear H
     go_wp2_with (first | ((with_reducible refine gate_callee (f := 70) rfl ?_); refine ZG (some 24) Tryd.func70 #[.pointer (some ⟨g718, 0, none⟩), .int .i64 5] rfl ?_; (with_reducible refine (spec_l01Below.calls g718 t715 x719001_1 x719002_1 5 t731 t732 t733 w _ ?side1 ?side2 A17.out).mono ?_); (case side1 => repeat (first | (with_reducible first | exact HI718.out | apply IsS99.alloc | apply IsS99.drewN | apply IsS99.drew | apply IsS99.set_1 | apply IsS99.set_2 | refine IsS99.far ?_ NB718_714.out _ | refine IsS99.far ?_ NB718_724.out _) | exact HI718.out)); (case side2 => repeat (first | (with_reducible first | exact HB.out | apply Zf | apply Zd | apply Ze | refine Zg ?_ (IsS99.ge HI718.out) | refine Zg ?_ GE714.out | refine Zg ?_ GE724.out) | exact HB.out)); rintro e w20 ⟨rfl, hi, hb, hk⟩; refine ⟨_, rfl, ?_⟩; replace HO_7 := Zh (S_mono (S_keep (IsS99.apartS (show IsS99 w _ g718 t715 x719001_1 x719002_1 from by repeat (first | (with_reducible first | exact HI718.out | apply IsS99.alloc | apply IsS99.drewN | apply IsS99.drew | apply IsS99.set_1 | apply IsS99.set_2 | refine IsS99.far ?_ NB718_714.out _ | refine IsS99.far ?_ NB718_724.out _) | exact HI718.out)) (ZS HO_7.out) (by decide)) hk (fun _ h => h.2)) (fun _ h => h.1)); replace HO_725000 := Zh (S_mono (S_keep (IsS99.apartS (show IsS99 w _ g718 t715 x719001_1 x719002_1 from by repeat (first | (with_reducible first | exact HI718.out | apply IsS99.alloc | apply IsS99.drewN | apply IsS99.drew | apply IsS99.set_1 | apply IsS99.set_2 | refine IsS99.far ?_ NB718_714.out _ | refine IsS99.far ?_ NB718_724.out _) | exact HI718.out)) (ZS HO_725000.out) (by decide)) hk (fun _ h => h.2)) (fun _ h => h.1)); replace BK714 := Zh (KeepBut.blk hk (g' := gb714) (o := .cells #[.slice none 0 0] 28 (0, 0)) Zk NB714_718.out (by simp)); replace BK724 := Zh (KeepBut.blk hk (g' := gb724) (o := .cells #[.slice Ao9 t719.length co9] 28 (0, 0)) Zk NB724_718.out (by simp)); replace HB := Zh (hb); replace HI718 := Zh (hi); (try clear hb); (try clear hb2); (try clear hk); (try clear hi)) | ((with_reducible refine gate_callee (f := 71) rfl ?_); refine ZG (some 26) Tryd.func71 #[.pointer (some ⟨g718, 0, none⟩), .int .i64 (wrap64 (1 + t731))] rfl ?_; (with_reducible refine (spec_l01DrawBytes.calls k1 g718 t715 t732 t733 (wrap64 (1 + t731)) t734 t737 t738 w _ ?side1 ?side2 A18.out).mono ?_); (case side1 => repeat (first | (with_reducible first | exact HI718.out | apply IsS99.alloc | apply IsS99.drewN | apply IsS99.drew | apply IsS99.set_1 | apply IsS99.set_2 | refine IsS99.far ?_ NB718_714.out _ | refine IsS99.far ?_ NB718_724.out _) | exact HI718.out)); (case side2 => repeat (first | (with_reducible first | exact HB.out | apply Zf | apply Zd | apply Ze | refine Zg ?_ (IsS99.ge HI718.out) | refine Zg ?_ GE714.out | refine Zg ?_ GE724.out) | exact HB.out)); rintro e w21 ⟨v735, rfl, ho0, hi, hb, hk⟩; refine ⟨_, rfl, ?_⟩; replace HO_7 := Zh (S_mono (S_told (S_oldK (IsS99.apartS (show IsS99 w _ g718 t715 t732 t733 from by repeat (first | (with_reducible first | exact HI718.out | apply IsS99.alloc | apply IsS99.drewN | apply IsS99.drew | apply IsS99.set_1 | apply IsS99.set_2 | refine IsS99.far ?_ NB718_714.out _ | refine IsS99.far ?_ NB718_724.out _) | exact HI718.out)) (ZS HO_7.out) (by decide)) hk) (R_base ho0)) (fun _ h_ => h_.1)); replace HO_725000 := Zh (S_mono (S_told (S_oldK (IsS99.apartS (show IsS99 w _ g718 t715 t732 t733 from by repeat (first | (with_reducible first | exact HI718.out | apply IsS99.alloc | apply IsS99.drewN | apply IsS99.drew | apply IsS99.set_1 | apply IsS99.set_2 | refine IsS99.far ?_ NB718_714.out _ | refine IsS99.far ?_ NB718_724.out _) | exact HI718.out)) (ZS HO_725000.out) (by decide)) hk) (R_base ho0)) (fun _ h_ => h_.1)); replace BK714 := Zh (KeepBut.blk hk (g' := gb714) (o := .cells #[.slice none 0 0] 28 (0, 0)) Zk NB714_718.out (by simp)); replace BK724 := Zh (KeepBut.blk hk (g' := gb724) (o := .cells #[.slice Ao9 t719.length co9] 28 (0, 0)) Zk NB724_718.out (by simp)); have HO736 := Zh (R_lower ho0 (below_size (by repeat (first | (with_reducible first | exact HB.out | apply Zf | apply Zd | apply Ze | refine Zg ?_ (IsS99.ge HI718.out) | refine Zg ?_ GE714.out | refine Zg ?_ GE724.out) | exact HB.out)))); replace HB := Zh (hb); replace HI718 := Zh (hi); (try clear hb); (try clear hb2); (try clear hk); (try clear hi); (try clear ho0); obtain ⟨Ao23, co23, eo23⟩ := R_slice HO736.out; subst eo23) | ((with_reducible refine gate_builtin (b := .append) (xs := #[.tmp 21, .tmp 27]) rfl ?_); at_builtin; refine S_append (Kd.slice 5 (Kd.int .u8)) (w0 := w) w.heap.size rfl (.tmp 21) (.tmp 27) 36 41 (.slice none 0 0) 24 rfl Tryd.underlying36 info41 rfl (by decide) (by omega) u7 x7_1 t734 [.slice Ao23 t734.length co23] (fun _ => True) (fun k_ => some k_ = (.slice Ao23 t734.length co23 : Value).ownBlock) rfl rfl ?aP (fun k_ hk_ => ((R_mono (ok' := fun k_ => ((fun _ => True)) k_ ∧ some k_ ≠ (u7 : Value).ownBlock) (R_apart' (HO736.out) (S_typed HO_7.out) (by decide)) (fun k_ hk => ⟨trivial, hk.2⟩))).1 k_ hk_.symm) ?aF ?aO ?aB ?aS ?aL ?_; (case aP => exact M_row (R_mono (R_tight rfl (R_mono (ok' := fun k_ => ((fun _ => True)) k_ ∧ some k_ ≠ (u7 : Value).ownBlock) (R_apart' (HO736.out) (S_typed HO_7.out) (by decide)) (fun k_ hk => ⟨trivial, hk.2⟩))) (fun _ h_ => h_))); (case aB => exact (by repeat (first | (with_reducible first | exact HB.out | apply Zf | apply Zd | apply Ze | refine Zg ?_ (IsS99.ge HI718.out) | refine Zg ?_ GE714.out | refine Zg ?_ GE724.out) | exact HB.out))); (case aF => exact (fun _ _ => trivial)); (case aO => exact (ZS (S_mono HO_7.out (fun k_ hk => ⟨trivial, fun e_ => hk.2 e_⟩)))); (case aS => exact (below_size (by repeat (first | (with_reducible first | exact HB.out | apply Zf | apply Zd | apply Ze | refine Zg ?_ (IsS99.ge HI718.out) | refine Zg ?_ GE714.out | refine Zg ?_ GE724.out) | exact HB.out)))); (case aL => have := LMc19.out; omega); intro v740 w22 ho hb hg hat; rw [← Ny739.out] at ho; have n0_ := Zh (S_over' (ZS HO_725000.out) (S_typed (ZS HO_7.out)) (by decide) hg); have n1_ := Zh (blk_grown (g := gb714) (o := .cells #[.slice none 0 0] 28 (0, 0)) Zk hg (S_ne HO_7.out BK714.out (by decide))); have n2_ := Zh (blk_grown (g := gb724) (o := .cells #[.slice Ao9 t719.length co9] 28 (0, 0)) Zk hg (S_ne HO_7.out BK724.out (by decide))); have n3_ := Zh (IsS99.grown (show IsS99 w _ g718 t715 t737 t738 from by repeat (first | (with_reducible first | exact HI718.out | apply IsS99.alloc | apply IsS99.drewN | apply IsS99.drew | apply IsS99.set_1 | apply IsS99.set_2 | refine IsS99.far ?_ NB718_714.out _ | refine IsS99.far ?_ NB718_724.out _) | exact HI718.out)) hg (IsS99.own_neS HI718.out HO_7.out (by decide))); have n4_ := Zh (hb); have n5_ := Zh (ho); clear HO_725000; clear BK714; clear BK724; clear HI718; clear HB; clear HO_7; clear HO736; have HO_725000 := n0_; have BK714 := n1_; have BK724 := n2_; have HI718 := n3_; have HB := n4_; have HO741 := n5_; clear n0_ n1_ n2_ n3_ n4_ n5_; clear ho hb hg hat))
     go_roundg k1
     case measure => have := HK1.out; omega
     case rel => exact ⟨(y739), (wrap64 (x8_1 - 1)), (t737), (t738), (by first | rfl | (simp; done) | (simp [*]; done)), H', ⟨by have := HK1.out; omega⟩, ⟨ZS HO741.out⟩, ⟨ZS (S_mono HO_725000.out (fun _ hk => trivial))⟩, ⟨Zk⟩, ⟨Zk⟩, ⟨by repeat (first | (with_reducible first | exact HI718.out | apply IsS99.alloc | apply IsS99.drewN | apply IsS99.drew | apply IsS99.set_1 | apply IsS99.set_2 | refine IsS99.far ?_ NB718_714.out _ | refine IsS99.far ?_ NB718_724.out _) | exact HI718.out)⟩, ⟨by repeat (first | (with_reducible first | exact HB.out | apply Zf | apply Zd | apply Ze | refine Zg ?_ (IsS99.ge HI718.out) | refine Zg ?_ GE714.out | refine Zg ?_ GE724.out) | exact HB.out)⟩⟩
    rw [if_neg c19] at H
    exact absurd H (by simp)
   rw [if_neg c16] at H
   have c16b0 : decide (0 < x8_1) = false := decide_eq_false c16
   clear c16
   replace H := Option.bind_eq_some_iff.mp H
   obtain ⟨⟨t742, t743, t744⟩, A240, H⟩ := H
   replace H : (some (t719, x7_1, t742)) = some (r1, r2, r3) := H
   have A24 := Zh A240
   clear A240
   simp only [Option.some.injEq, Prod.mk.injEq] at H
   obtain ⟨rfl, rfl, rfl⟩ := H
   try go_wp2
   replace HO_7 := Zh (S_drew HO_7.out)
   replace HO_725000 := Zh (S_drew HO_725000.out)
   replace BK714 := Zh (Zb BK714.out)
   replace BK724 := Zh (Zb BK724.out)
   replace HI718 := Zh (IsS99.drew HI718.out)
   replace HB := Zh (Ze HB.out)
   refine start_ (n := 7) (S := fun w' => w'.cell? ⟨gb724, 0, none⟩ = some (.slice Ao9 t719.length co9)) (ds := []) #[false, false, false, false, false, false, false] (by kernel_rfl) rfl rfl ((blk_cell BK724.out 0).trans rfl) (fun hHeld => ?_)
   generalize wr.drew = w25 at HO_7 HO_725000 BK714 BK724 HI718 HB hHeld ⊢
   refine pure_ (i := 1) (N := some 30) (v := ?_) (a' := ?_) #[false, true, false, false, false, false, false] rfl rfl (by kernel_rfl) (fun _ _ _ h => h) (Or.inl ⟨by rfl, ?_⟩) ?_ ?_
   rotate_left
   ·
    intro w'
    go_simp
    with_reducible rfl
   rotate_left
   ·
    simp only [Act.put, List.setIfInBounds_toArray, List.set_cons_zero, List.set_cons_succ, i64_w, i32_w]
    rfl
   refine pure_ (i := 2) (N := some 31) (v := ?_) (a' := ?_) #[false, true, true, false, false, false, false] rfl rfl (by kernel_rfl) (fun _ _ _ h => h) (Or.inl ⟨by rfl, ?_⟩) ?_ ?_
   rotate_left
   ·
    intro w'
    go_simp
    with_reducible rfl
   rotate_left
   ·
    simp only [Act.put, List.setIfInBounds_toArray, List.set_cons_zero, List.set_cons_succ, i64_w, i32_w]
    rfl
   refine take_ (i := 0) (N := some 29) (v := ?_) (a' := ?_) #[true, true, true, false, false, false, false] rfl rfl (by kernel_rfl) (fun _ _ _ h => h) (Or.inl ⟨by rfl, ?_⟩) hHeld ?_ ?_
   rotate_left
   ·
    intro w' s0
    go_simp
    with_reducible rfl
   rotate_left
   ·
    simp only [Act.put, List.setIfInBounds_toArray, List.set_cons_zero, List.set_cons_succ, i64_w, i32_w]
    rfl
   refine one_ (i := 3) (N := some 32) #[true, true, true, true, false, false, false] rfl rfl (by kernel_rfl) (by decide) (fun K hK => ?_)
   refine goes_ Tryd.func70 (by kernel_rfl) rfl #[.pointer (some ⟨g718, 0, none⟩), .int .i64 60] (by rfl) rfl rfl (by (try simp only [List.map_toArray, List.map_cons, List.map_nil]); first | done | rfl | (simp only [List.length_drop, List.length_take]; rfl)) ?_
   with_reducible refine (spec_l01Below.calls g718 t715 x719001_1 x719002_1 60 t742 t743 t744 w _ ?side1 ?side2 A24.out).mono ?_
   (case side1 => repeat (first | (with_reducible first | exact HI718.out | apply IsS99.alloc | apply IsS99.drewN | apply IsS99.drew | apply IsS99.set_1 | apply IsS99.set_2 | refine IsS99.far ?_ NB718_714.out _ | refine IsS99.far ?_ NB718_724.out _) | exact HI718.out))
   (case side2 => repeat (first | (with_reducible first | exact HB.out | apply Zf | apply Zd | apply Ze | refine Zg ?_ (IsS99.ge HI718.out) | refine Zg ?_ GE714.out | refine Zg ?_ GE724.out) | exact HB.out))
   rintro e w26 ⟨rfl, hi, hb, hk⟩
   refine ⟨_, rfl, ?_⟩
   replace HO_7 := Zh (S_mono (S_keep (IsS99.apartS (show IsS99 w _ g718 t715 x719001_1 x719002_1 from by repeat (first | (with_reducible first | exact HI718.out | apply IsS99.alloc | apply IsS99.drewN | apply IsS99.drew | apply IsS99.set_1 | apply IsS99.set_2 | refine IsS99.far ?_ NB718_714.out _ | refine IsS99.far ?_ NB718_724.out _) | exact HI718.out)) (ZS HO_7.out) (by decide)) hk (fun _ h => h.2)) (fun _ h => h.1))
   replace HO_725000 := Zh (S_mono (S_keep (IsS99.apartS (show IsS99 w _ g718 t715 x719001_1 x719002_1 from by repeat (first | (with_reducible first | exact HI718.out | apply IsS99.alloc | apply IsS99.drewN | apply IsS99.drew | apply IsS99.set_1 | apply IsS99.set_2 | refine IsS99.far ?_ NB718_714.out _ | refine IsS99.far ?_ NB718_724.out _) | exact HI718.out)) (ZS HO_725000.out) (by decide)) hk (fun _ h => h.2)) (fun _ h => h.1))
   replace BK714 := Zh (KeepBut.blk hk (g' := gb714) (o := .cells #[.slice none 0 0] 28 (0, 0)) Zk NB714_718.out (by simp))
   replace BK724 := Zh (KeepBut.blk hk (g' := gb724) (o := .cells #[.slice Ao9 t719.length co9] 28 (0, 0)) Zk NB724_718.out (by simp))
   replace HB := Zh (hb)
   replace HI718 := Zh (hi)
   (try clear hb)
   (try clear hb2)
   (try clear hk)
   (try clear hi)
   refine hK.out _ _ ((blk_cell BK724.out 0).trans rfl) (fun hHeld => ?_)
   clear hK K
   refine norm_ (a' := ?_) ?_ ?_
   rotate_left
   ·
    show Act.put _ (some 32) _ = _
    simp only [Act.put, List.setIfInBounds_toArray, List.set_cons_zero, List.set_cons_succ, i64_w, i32_w]
    rfl
   refine one_ (i := 4) (N := none) #[true, true, true, true, true, false, false] rfl rfl (by kernel_rfl) (by decide) (fun K hK => ?_)
   have hs27 : w26.cell? ⟨gb714, 0, none⟩ = some (.slice none 0 0) := (blk_cell BK714.out 0).trans rfl
   have hfs27 := Zn BK714.out 0
   have hns27_1 := NB724_714.out
   have hms27_1 := NB714_724.out
   refine skip_ (w1 := ?_) (by rfl) rfl ?_ ?_
   rotate_left
   ·
    go_simp
    rfl
   refine hK.out _ _ (((cell_far (p := ⟨gb714, _, none⟩) NB724_714.out _).trans (hHeld))) (fun hHeld => ?_)
   clear hK K
   refine pure_ (i := 5) (N := some 3) (v := ?_) (a' := ?_) #[true, true, true, true, true, true, false] rfl rfl (by kernel_rfl) (fun _ _ _ h => h) (Or.inl ⟨by rfl, ?_⟩) ?_ ?_
   rotate_left
   ·
    intro w'
    go_simp
    with_reducible rfl
   rotate_left
   ·
    simp only [Act.put, List.setIfInBounds_toArray, List.set_cons_zero, List.set_cons_succ, i64_w, i32_w]
    rfl
   refine pure_ (i := 6) (N := some 4) (v := ?_) (a' := ?_) #[true, true, true, true, true, true, true] rfl rfl (by kernel_rfl) (fun _ _ _ h => h) (Or.inl ⟨by rfl, ?_⟩) ?_ ?_
   rotate_left
   ·
    intro w'
    go_simp
    with_reducible rfl
   rotate_left
   ·
    simp only [Act.put, List.setIfInBounds_toArray, List.set_cons_zero, List.set_cons_succ, i64_w, i32_w]
    rfl
   refine done_ (by kernel_rfl) ?_
   try go_wp2
   refine Zq (results_ctt rfl _ _ gb714 28 #[.slice Ao9 t719.length co9] (0, 0) _ rfl (by (with_reducible repeat (first | refine Za ?_ _ | refine Zb ?_ | refine blk_alloc ?_ _)); refine blk_put (cs := #[.slice none 0 0]) ?_ 0 _ rfl; (with_reducible repeat (first | refine Za ?_ _ | refine Zb ?_ | refine blk_alloc ?_ _)); exact BK714.out) Tryd.underlying28 rfl (by kernel_rfl)) rfl ?_
   exact ⟨_, _, ZE, ZS (S_mono (S_far (p := ⟨gb714, 0, none⟩) (S_types HO_725000.out BK714.out (by decide)) (fun _ hk => hk.2) (.slice Ao9 t719.length co9)) (fun _ hk => trivial)), ZS (S_mono (S_far (p := ⟨gb714, 0, none⟩) (S_types HO_7.out BK714.out (by decide)) (fun _ hk => hk.2) (.slice Ao9 t719.length co9)) (fun _ hk => trivial)), by repeat (first | (with_reducible first | exact HB.out | apply Zf | apply Zd | apply Ze | refine Zg ?_ (IsS99.ge HI718.out) | refine Zg ?_ GE714.out | refine Zg ?_ GE724.out) | exact HB.out)⟩
def laws_samePayloads.l0 : Nat → List (List Int) → List (List Int) → Int → Option (Bool)
 | 0, _, _, _ => none
 | k + 1, x0, x1, x5 => if x5 < (x0.length : Int) then (if 0 ≤ x5 then (if x5 < (x1.length : Int) then (if (strOfNums (rd_L2 x0 x5)).toList = (strOfNums (rd_L2 x1 x5)).toList then (laws_samePayloads.l0 k x0 x1 (wrap64 (x5 + 1))) else (some false)) else (none)) else (none)) else (some true)
def laws_samePayloads.f (k : Nat) (l0 : List (List Int)) (l1 : List (List Int)) : Option (Bool) := if (l0.length : Int) = (l1.length : Int) then (laws_samePayloads.l0 k l0 l1 0) else (some false)
set_option maxHeartbeats 8000000 in
set_option maxRecDepth 100000 in
theorem laws_samePayloads.calls (k : Nat) (A0 : Option Addr) (c0 : Nat) (l0 : List (List Int)) (A1 : Option Addr) (c1 : Nat) (l1 : List (List Int)) (r : Bool) (w : World) (hr0 : Kd.C (Kd.slice 5 (Kd.int .u8)) w A0 l0.length l0) (hc0 : l0.length ≤ c0) (hr1 : Kd.C (Kd.slice 5 (Kd.int .u8)) w A1 l1.length l1) (hc1 : l1.length ≤ c1) (h : laws_samePayloads.f k l0 l1 = some r) :
  Calls Tryd.prog 36 #[.slice A0 l0.length c0, .slice A1 l1.length c1] w fun e w' => e = .returned (.bool r) ∧ Drawn0 w w' := by
 have HR0 := Zh hr0
 have HC0 := Zh hc0
 clear hr0 hc0
 have HR1 := Zh hr1
 have HC1 := Zh hc1
 clear hr1 hc1
 have H : (if (l0.length : Int) = (l1.length : Int) then (laws_samePayloads.l0 k l0 l1 0) else (some false)) = some r := h
 clear h
 by_cases c3 : (l0.length : Int) = (l1.length : Int)
 ·
  rw [if_pos c3] at H
  have c3b0 : ((l0.length : Int) == (l1.length : Int)) = true := beq_iff_eq.mpr c3
  have c3b1 : ((l0.length : Int) != (l1.length : Int)) = false := bne_eq_false_iff_eq.mpr c3
  have c3b2 : (l0.length == l1.length) = true := by first | simpa using c3 | (simp at c3 ⊢; omega)
  clear c3
  have H' := Zh H
  clear H
  go_enter Tryd.func36, Tryd.ntmps36
  go_wp2
  repeat (go_quiet (fail); try go_wp2)
  go_loopg [5] k (fun kq v5 w' => ∃ (x5_1 : Int), v5 = .int .i64 x5_1 ∧ Aside0 (laws_samePayloads.l0 kq l0 l1 x5_1 = some r) ∧ Aside0 (kq ≤ k) ∧ Drawn0 w w')
  case atStart => exact ⟨(0), (by first | rfl | (simp; done) | (simp [*]; done)), H', ⟨Nat.le_refl _⟩, by repeat (first | exact Drawn0.refl _ | apply Drawn0.step)⟩
  case round =>
   clear H'
   try clear c1
   try clear p2
   try clear c3
   try clear c3b0
   try clear c3b1
   try clear c3b2
   obtain ⟨x5_1, rfl, HA, HK1, ⟨m1, rfl⟩⟩ := hrel
   cases gk with
   | zero => exact absurd HA.out (by simp [laws_samePayloads.l0])
   | succ k1 =>
    have H := HA.out
    clear HA
    simp only [laws_samePayloads.l0] at H
    by_cases c4 : x5_1 < (l0.length : Int)
    ·
     rw [if_pos c4] at H
     have c4b0 : decide (x5_1 < (l0.length : Int)) = true := decide_eq_true c4
     clear c4
     by_cases c5 : 0 ≤ x5_1
     ·
      rw [if_pos c5] at H
      have c5b0 : decide (0 ≤ x5_1) = true := decide_eq_true c5
      clear c5
      by_cases c6 : x5_1 < (l1.length : Int)
      ·
       rw [if_pos c6] at H
       have c6b0 : decide (x5_1 < (l1.length : Int)) = true := decide_eq_true c6
       clear c6
       by_cases c7 : (strOfNums (rd_L2 l0 x5_1)).toList = (strOfNums (rd_L2 l1 x5_1)).toList
       ·
        rw [if_pos c7] at H
        have c7b0 : ((strOfNums (rd_L2 l0 x5_1)).toList == (strOfNums (rd_L2 l1 x5_1)).toList) = true := beq_iff_eq.mpr c7
        have c7b1 : ((strOfNums (rd_L2 l0 x5_1)).toList != (strOfNums (rd_L2 l1 x5_1)).toList) = false := bne_eq_false_iff_eq.mpr c7
        clear c7
        have H' := Zh H
        clear H
        have p745 : 0 ≤ (x5_1 : Int) := Zo
        have q745 : x5_1 < (l0.length : Int) := Zo
        obtain ⟨ad745, A745_0, c745_0, e745, hx745_0, hl745_0, hi745_0⟩ := at_L2 HR0.out x5_1 p745 q745
        cases e745
        have HR745_0 := Zh hi745_0
        have HC745_0 := Zh hl745_0
        clear hi745_0 hl745_0
        replace p745 := eq_true p745
        replace q745 := eq_true q745
        have hcv8 := C_string (P := Tryd.prog) (A := A745_0) (c := c745_0) Tryd.underlying41 Tryd.underlying5 Tryd.underlying9 HR745_0.out
        have hcv9 := fun (nq_ : Nat) => C_string (P := Tryd.prog) (A := A745_0) (c := c745_0) Tryd.underlying41 Tryd.underlying5 Tryd.underlying9 (C_drewN HR745_0.out nq_)
        have p746 : 0 ≤ (x5_1 : Int) := Zo
        have q746 : x5_1 < (l1.length : Int) := Zo
        obtain ⟨ad746, A746_0, c746_0, e746, hx746_0, hl746_0, hi746_0⟩ := at_L2 HR1.out x5_1 p746 q746
        cases e746
        have HR746_0 := Zh hi746_0
        have HC746_0 := Zh hl746_0
        clear hi746_0 hl746_0
        replace p746 := eq_true p746
        replace q746 := eq_true q746
        have hcv10 := C_string (P := Tryd.prog) (A := A746_0) (c := c746_0) Tryd.underlying41 Tryd.underlying5 Tryd.underlying9 HR746_0.out
        have hcv11 := fun (nq_ : Nat) => C_string (P := Tryd.prog) (A := A746_0) (c := c746_0) Tryd.underlying41 Tryd.underlying5 Tryd.underlying9 (C_drewN HR746_0.out nq_)
        go_wp2
        repeat (go_quiet (fail); try go_wp2)
        go_roundg k1
        case measure => have := HK1.out; omega
        case rel => exact ⟨(wrap64 (x5_1 + 1)), (by first | rfl | (simp; done) | (simp [*]; done)), H', ⟨by have := HK1.out; omega⟩, by repeat (first | exact Drawn0.refl _ | apply Drawn0.step)⟩
       rw [if_neg c7] at H
       have c7b0 : ((strOfNums (rd_L2 l0 x5_1)).toList == (strOfNums (rd_L2 l1 x5_1)).toList) = false := beq_eq_false_iff_ne.mpr c7
       have c7b1 : ((strOfNums (rd_L2 l0 x5_1)).toList != (strOfNums (rd_L2 l1 x5_1)).toList) = true := bne_iff_ne.mpr c7
       obtain rfl := Option.some.inj H
       have p745 : 0 ≤ (x5_1 : Int) := Zo
       have q745 : x5_1 < (l0.length : Int) := Zo
       obtain ⟨ad745, A745_0, c745_0, e745, hx745_0, hl745_0, hi745_0⟩ := at_L2 HR0.out x5_1 p745 q745
       cases e745
       have HR745_0 := Zh hi745_0
       have HC745_0 := Zh hl745_0
       clear hi745_0 hl745_0
       replace p745 := eq_true p745
       replace q745 := eq_true q745
       have hcv12 := C_string (P := Tryd.prog) (A := A745_0) (c := c745_0) Tryd.underlying41 Tryd.underlying5 Tryd.underlying9 HR745_0.out
       have hcv13 := fun (nq_ : Nat) => C_string (P := Tryd.prog) (A := A745_0) (c := c745_0) Tryd.underlying41 Tryd.underlying5 Tryd.underlying9 (C_drewN HR745_0.out nq_)
       have p746 : 0 ≤ (x5_1 : Int) := Zo
       have q746 : x5_1 < (l1.length : Int) := Zo
       obtain ⟨ad746, A746_0, c746_0, e746, hx746_0, hl746_0, hi746_0⟩ := at_L2 HR1.out x5_1 p746 q746
       cases e746
       have HR746_0 := Zh hi746_0
       have HC746_0 := Zh hl746_0
       clear hi746_0 hl746_0
       replace p746 := eq_true p746
       replace q746 := eq_true q746
       have hcv14 := C_string (P := Tryd.prog) (A := A746_0) (c := c746_0) Tryd.underlying41 Tryd.underlying5 Tryd.underlying9 HR746_0.out
       have hcv15 := fun (nq_ : Nat) => C_string (P := Tryd.prog) (A := A746_0) (c := c746_0) Tryd.underlying41 Tryd.underlying5 Tryd.underlying9 (C_drewN HR746_0.out nq_)
       go_wp2
       repeat (go_quiet (fail); try go_wp2)
       go_ret
       exact ⟨by first | rfl | (simp; done) | (simp [*]; done), by repeat (first | exact Drawn0.refl _ | apply Drawn0.step)⟩
      rw [if_neg c6] at H
      exact absurd H (by simp)
     rw [if_neg c5] at H
     exact absurd H (by simp)
    rw [if_neg c4] at H
    have c4b0 : decide (x5_1 < (l0.length : Int)) = false := decide_eq_false c4
    clear c4
    obtain rfl := Option.some.inj H
    go_wp2
    repeat (go_quiet (fail); try go_wp2)
    go_ret
    exact ⟨by first | rfl | (simp; done) | (simp [*]; done), by repeat (first | exact Drawn0.refl _ | apply Drawn0.step)⟩
 rw [if_neg c3] at H
 have c3b0 : ((l0.length : Int) == (l1.length : Int)) = false := beq_eq_false_iff_ne.mpr c3
 have c3b1 : ((l0.length : Int) != (l1.length : Int)) = true := bne_iff_ne.mpr c3
 have c3b2 : (l0.length == l1.length) = false := by first | simpa using c3 | (simp at c3 ⊢; omega)
 obtain rfl := Option.some.inj H
 go_enter Tryd.func36, Tryd.ntmps36
 go_wp2
 repeat (go_quiet (fail); try go_wp2)
 go_ret
 exact ⟨by first | rfl | (simp; done) | (simp [*]; done), by repeat (first | exact Drawn0.refl _ | apply Drawn0.step)⟩
def laws_starts.f (k : Nat) (l0 : List (List Int)) (l1 : List (List Int)) : Option (Bool) := if (l1.length : Int) ≤ (l0.length : Int) then (if 0 ≤ (l1.length : Int) then ((laws_samePayloads.f k (l0.take ((l1.length : Int) : Int).toNat) l1).bind fun t760 => (some t760)) else (none)) else (some false)
set_option maxHeartbeats 8000000 in
set_option maxRecDepth 100000 in
theorem laws_starts.calls (k : Nat) (A0 : Option Addr) (c0 : Nat) (l0 : List (List Int)) (A1 : Option Addr) (c1 : Nat) (l1 : List (List Int)) (r : Bool) (w : World) (hr0 : Kd.C (Kd.slice 5 (Kd.int .u8)) w A0 l0.length l0) (hc0 : l0.length ≤ c0) (hr1 : Kd.C (Kd.slice 5 (Kd.int .u8)) w A1 l1.length l1) (hc1 : l1.length ≤ c1) (h : laws_starts.f k l0 l1 = some r) :
  Calls Tryd.prog 38 #[.slice A0 l0.length c0, .slice A1 l1.length c1] w fun e w' => e = .returned (.bool r) ∧ Drawn0 w w' := by
 have HR0 := Zh hr0
 have HC0 := Zh hc0
 clear hr0 hc0
 have HR1 := Zh hr1
 have HC1 := Zh hc1
 clear hr1 hc1
 have H : (if (l1.length : Int) ≤ (l0.length : Int) then (if 0 ≤ (l1.length : Int) then ((laws_samePayloads.f k (l0.take ((l1.length : Int) : Int).toNat) l1).bind fun t760 => (some t760)) else (none)) else (some false)) = some r := h
 clear h
 by_cases c3 : (l1.length : Int) ≤ (l0.length : Int)
 ·
  rw [if_pos c3] at H
  have c3b0 : decide ((l1.length : Int) ≤ (l0.length : Int)) = true := decide_eq_true c3
  have c3b1 : decide (l1.length ≤ l0.length) = true := decide_eq_true (Int.ofNat_le.mp c3)
  clear c3
  by_cases c4 : 0 ≤ (l1.length : Int)
  ·
   rw [if_pos c4] at H
   have c4b0 := eq_true c4
   have c4b1 : decide (0 ≤ (l1.length : Int)) = true := decide_eq_true c4
   clear c4
   have c5b0 := eq_true (Zo : (l1.length : Int) ≤ (l0.length : Int))
   obtain ⟨y756, hy756⟩ : ∃ y_ : List (List Int), y_ = (l0.take ((l1.length : Int) : Int).toNat) := ⟨_, rfl⟩
   replace H : ((laws_samePayloads.f k y756 l1).bind fun t760 => (some t760)) = some r := by first | (rw [hy756]; with_reducible exact H) | (have H2_ := (Option.bind_some _ _).symm.trans H; rw [hy756]; with_reducible exact H2_) | (have H2_ := (Option.bind_some _ _).symm.trans H; with_reducible exact H2_) | with_reducible exact H | (rw [hy756]; exact H) | exact H
   have Ny756 := Zh hy756
   clear hy756
   replace H := Option.bind_eq_some_iff.mp H
   obtain ⟨t760, A60, H⟩ := H
   replace H : (some t760) = some r := H
   have A6 := Zh A60
   clear A60
   obtain rfl := Option.some.inj H
   have q7 : ((l1.length : Int) : Int) ≤ ((l0.length : Int) : Int) := Zo
   obtain ⟨i07, hi07, _, hsz7, _⟩ := info_parts info41
   have hroom7 : l0.length ≤ c0 := HC0.out
   have hC7 : Kd.C (Kd.slice 5 (Kd.int .u8)) _ A0 l0.length l0 := HR0.out
   have hcut7 := cut_to (P := Tryd.prog) 36 41 .i64 Tryd.underlying36 hi07 A0 l0.length c0 (l1.length : Int) (Zo) q7 hroom7
   have hr7 := C_take (m := ((l1.length : Int) : Int).toNat) hC7 (by omega)
   have hy7 : y756.length = ((l1.length : Int) : Int).toNat := (by rw [Ny756.out, List.length_take]; omega)
   rw [← Ny756.out] at hr7
   rw [← hy7] at hcut7
   have HR759 := Zh hr7
   have HC759 := Zh (show y756.length ≤ c0 from by omega)
   clear hr7 hC7 hroom7 hi07 hsz7
   have KY7 := Zh hy7
   clear hy7
   replace q7 := eq_true q7
   go_enter Tryd.func38, Tryd.ntmps38
   go_wp2_with (first | (go_at_call 36; (with_reducible refine (laws_samePayloads.calls k _ _ y756 _ _ l1 t760 _ ?side1 ?side2 ?side3 ?side4 A6.out).mono ?_); (case side1 => repeat (first | exact HR759.out | (with_reducible refine C_alloc ?_ _) | (with_reducible refine C_drewN ?_ _) | (with_reducible refine C_drew ?_))); (case side2 => exact HC759.out); (case side3 => repeat (first | exact HR1.out | (with_reducible refine C_alloc ?_ _) | (with_reducible refine C_drewN ?_ _) | (with_reducible refine C_drew ?_))); (case side4 => exact HC1.out); rintro e w' ⟨rfl, ⟨nd, rfl⟩⟩))
   go_ret
   exact ⟨by first | rfl | (simp; done) | (simp [*]; done), by repeat (first | exact Drawn0.refl _ | apply Drawn0.step)⟩
  rw [if_neg c4] at H
  exact absurd H (by simp)
 rw [if_neg c3] at H
 have c3b0 : decide ((l1.length : Int) ≤ (l0.length : Int)) = false := decide_eq_false c3
 have c3b1 : decide (l1.length ≤ l0.length) = false := decide_eq_false (fun h => c3 (Int.ofNat_le.mpr h))
 clear c3
 obtain rfl := Option.some.inj H
 go_enter Tryd.func38, Tryd.ntmps38
 go_wp2
 go_ret
 exact ⟨by first | rfl | (simp; done) | (simp [*]; done), by repeat (first | exact Drawn0.refl _ | apply Drawn0.step)⟩
end Go.Proofs.YtcgojdhbphocgaaDoor.F

namespace Go.Proofs.YtcgojdhbphocgaaDoor.F
open Go.RowKit Go.Proofs.YtcgojdhbphocgaaDoorW.PrintWords Go.Proofs.YtcgojdhbphocgaaDoorW.PrintLast Go.Proofs.YtcgojdhbphocgaaDoorW.PrintMore
set_option linter.unusedVariables false
set_option linter.unusedSimpArgs false
theorem impl_frame.nonempty (k : Nat) (l0 r : List Int) (h : impl_frame.f k l0 = some r) (hb : ¬ ((l0.length : Int) < 1 ∨ (l0.length : Int) > 600)) : r ≠ [] := by
  unfold impl_frame.f at h
  rw [if_neg (fun e => hb (.inl e)), decide_eq_false (fun e => hb (.inr e))] at h
  cases k with
  | zero => exact absurd h (by simp [impl_frame.j0])
  | succ k =>
    simp only [impl_frame.j0, Bool.false_eq_true, if_false] at h
    obtain ⟨t1, _, h⟩ := Option.bind_eq_some_iff.mp h
    obtain ⟨t2, _, h⟩ := Option.bind_eq_some_iff.mp h
    obtain ⟨t3, _, h⟩ := Option.bind_eq_some_iff.mp h
    split at h
    · have e := Option.some.inj h
      intro hr
      rw [hr] at e
      have := congrArg List.length e
      simp only [List.length_append, List.length_nil] at this
      omega
    exact absurd h (by simp)
set_option maxHeartbeats 8000000 in
set_option maxRecDepth 100000 in
theorem impl_frame.strong (k : Nat) (A0 : Option Addr) (c0 : Nat) (l0 : List Int) (r : List Int) (w : World) (hr0 : Kd.C (Kd.int .u8) w A0 l0.length l0) (hc0 : l0.length ≤ c0) (h : impl_frame.f k l0 = some r) :
    Calls Tryd.prog 60 #[.slice A0 l0.length c0] w fun e w' => ∃ v0_ : Value, e = .returned (v0_) ∧ Kd.R (Kd.int .u8) 5 w' w.heap.size (fun _ => True) v0_ r ∧ Below w.heap.size w w' ∧ (r = [] → v0_ = .slice none 0 0) := by
  by_cases hb : (l0.length : Int) < 1 ∨ (l0.length : Int) > 600
  · have hr : r = [] := by
      unfold impl_frame.f at h
      have hj : impl_frame.j0 k l0 true = some r := by
        rcases hb with hb | hb
        · rwa [if_pos hb] at h
        rwa [if_neg (by omega), decide_eq_true hb] at h
      cases k with
      | zero => exact absurd hj (by simp [impl_frame.j0])
      | succ k => simp only [impl_frame.j0, if_true] at hj; exact (Option.some.inj hj).symm
    subst hr
    clear h hr0 hc0
    by_cases h1 : (l0.length : Int) < 1
    · have b1 : decide ((l0.length : Int) < 1) = true := decide_eq_true h1
      clear h1 hb
      go_enter Tryd.func60, Tryd.ntmps60
      go_wp2
      go_ret
      exact ⟨_, rfl, Kd.R_nil _ _ _ _ _, Below.refl _ _, fun _ => rfl⟩
    have b1 : decide ((l0.length : Int) < 1) = false := decide_eq_false h1
    have b2 : decide ((l0.length : Int) > 600) = true := decide_eq_true (by omega)
    clear h1 hb
    go_enter Tryd.func60, Tryd.ntmps60
    go_wp2
    go_ret
    exact ⟨_, rfl, Kd.R_nil _ _ _ _ _, Below.refl _ _, fun _ => rfl⟩
  refine (impl_frame.calls k A0 c0 l0 r w hr0 hc0 h).mono ?_
  rintro e w' ⟨v, rfl, ho, hw⟩
  exact ⟨v, rfl, ho, hw, fun hr => absurd hr (impl_frame.nonempty k l0 r h hb)⟩
theorem R_beyond {α : Type} {d : Kd α} {e base n c g o : Nat} {W : World} {ok : Nat → Prop} {xs : List α} (h : d.R e W base ok (.slice (some ⟨g, 0, none⟩) n c) xs) (vs : List Value) (ho : n * d.sz ≤ o) (hc : o + vs.length ≤ c * d.sz) :
    d.R e (W.setCells g o vs) base ok (.slice (some ⟨g, 0, none⟩) n c) xs := by
  have hn := (Kd.R_reads' h).1
  have hgo : some g = (Value.slice (some ⟨g, 0, none⟩) n c).ownBlock := by simp [Value.ownBlock]
  obtain ⟨hok, inner, ⟨hl, hown⟩, hr⟩ := h
  rcases hown with ⟨hv, _⟩ | ⟨g', cap', cur, hv, hb, hh, hnc, hcm, hcs, htake⟩
  · cases hv
  injection hv with ha _ hc'
  injection ha with ha
  injection ha with hg
  subst hg; subst hc'
  obtain ⟨cur', h1, h2, h3⟩ := setCells_row vs o W cur hh (by omega)
  refine ⟨hok, inner, ⟨hl, .inr ⟨g, c, cur', by rw [← hn], hb, h1, hnc, hcm, by omega, ?_⟩⟩, hr.1, fun j p hj => d.M_move (fun k hk => setCells_far vs o k (fun he => hk.2 (by rw [he]; exact hgo))) (hr.2 j p hj)⟩
  rw [← htake, h3, ← hn, List.append_assoc, List.take_append_of_le_length (by rw [List.length_take, Array.length_toList]; omega), List.take_take]
  congr 1
  omega
theorem S_beyond {α : Type} {d : Kd α} {e base n c g o : Nat} {W : World} {ok : Nat → Prop} {xs : List α} (h : Kd.S d e W base ok (.slice (some ⟨g, 0, none⟩) n c) xs) (vs : List Value) (ho : n * d.sz ≤ o) (hc : o + vs.length ≤ c * d.sz) :
    Kd.S d e (W.setCells g o vs) base ok (.slice (some ⟨g, 0, none⟩) n c) xs := by
  obtain ⟨f, h⟩ := h
  exact ⟨f, R_beyond h vs ho hc⟩
theorem S_there {α : Type} {d : Kd α} {e base n c g : Nat} {W : World} {ok : Nat → Prop} {xs : List α} (h : Kd.S d e W base ok (.slice (some ⟨g, 0, none⟩) n c) xs) (j : Nat) (hj : j < c * d.sz) : (W.cell? ⟨g, j, none⟩).isSome = true ∧ W.frozen? ⟨g, j, none⟩ = false := by
  obtain ⟨inner, _, hown⟩ := Kd.S_own h
  rcases hown with ⟨hv, _⟩ | ⟨g', cap', cur, hv, hb, hh, hnc, hcm, hcs, htake⟩
  · cases hv
  injection hv with ha _ hc'
  injection ha with ha
  injection ha with hg
  subst hg; subst hc'
  refine ⟨?_, Zn hh j⟩
  rw [blk_cell hh j, Array.getElem?_eq_getElem (by omega)]
  rfl
theorem S_cap {α : Type} {d : Kd α} {e base n c g : Nat} {W : World} {ok : Nat → Prop} {xs : List α} (h : Kd.S d e W base ok (.slice (some ⟨g, 0, none⟩) n c) xs) : c ≤ 9223372036854775807 := by
  obtain ⟨inner, _, hown⟩ := Kd.S_own h
  rcases hown with ⟨hv, _⟩ | ⟨g', cap', cur, hv, hb, hh, hnc, hcm, hcs, htake⟩
  · cases hv
  injection hv with ha _ hc'
  subst hc'
  exact hcm
theorem info55s : (Tryd.prog.info? 55).map (·.size) = some k55.sz := by kernel_rfl
theorem below_setCells {g : Nat} {a : World} (hg : a.heap.size ≤ g) : ∀ (vs : List Value) (o : Nat) {w : World}, Below a.heap.size a w → Below a.heap.size a (w.setCells g o vs)
  | [], _, _, hb => hb
  | _ :: r, o, _, hb => below_setCells hg r (o + 1) (Zg hb hg)
theorem zeroed3 (W : World) (g o c ty : Nat) (hc : ∀ j, j < 3 → (W.cell? ⟨g, o + j, none⟩).isSome = true ∧ W.frozen? ⟨g, o + j, none⟩ = false) :
    (Builtin.clear_ #[26] ty #[.slice (some ⟨g, o, none⟩) 1 c]).run Tryd.prog W = .ok (.tuple #[]) (W.setCells g o [.string ⟨#[]⟩, .slice none 0 0, .slice none 0 0]) := by
  have hst := run_storeCells_cells (P := Tryd.prog) g o [.string ⟨#[]⟩, .slice none 0 0, .slice none 0 0] 0 W (fun j hj => by rw [Nat.add_zero]; exact (hc j hj).1) (fun j hj => by rw [Nat.add_zero]; exact (hc j hj).2) (by intro v hv; simp at hv; rcases hv with rfl | rfl <;> rfl)
  rw [Nat.add_zero] at hst
  have hz : (Builtin.zeroCells (Value.agg #[.string ⟨#[]⟩, .slice none 0 0, .slice none 0 0]).cells 1).toList = [.string ⟨#[]⟩, .slice none 0 0, .slice none 0 0] := by kernel_rfl
  simp [Builtin.clear_, run_underlying Tryd.underlying26, Tryd.zeroValue55, hz, hst]
theorem S_delete_law {P : Program} {ops : Array Oper} {o : Oper} {a : Act} {Q : Exit → Act → World → Prop} {α : Type} {Kc : Act → World → Prop} {E : Prop} (d : Kd α) {w0 W : World} (base : Nat) (hgd : o.guard = none) (s x : Operand) (t e : TypeId) (ho : o.op = .call { callee := .builtin .append, args := #[s, x], argTypes := #[t, t] })
    (ht : P.underlying t = some (.slice e)) (hinfo : (P.info? e).map (·.size) = some d.sz) {g n c k m c2 : Nat} {A : Option Addr} {xs : List α} {ok : Nat → Prop}
    (hs : a.eval s = .slice (some ⟨g, 0, none⟩) k c) (hx : a.eval x = .slice A m c2) (hA : A = if c = k + 1 then some ⟨g, 0, none⟩ else (some (⟨g, 0, none⟩ : Addr)).map (·.add ((k + 1) * d.sz))) (hm : m = n - (k + 1))
    (HO : Kd.S d e W base ok (.slice (some ⟨g, 0, none⟩) n c) xs) (hk : k < n) (HB : Below base w0 W) (hbase : base ≤ W.heap.size)
    (h : ∀ w1, Kd.S d e w1 base ok (.slice (some ⟨g, 0, none⟩) (n - 1) c) (xs.eraseIdx k) → Below base w0 w1 → W.grownBy w1 (some g) → Kc (a.put o.dst (.slice (some ⟨g, 0, none⟩) (n - 1) c)) w1) :
    if Region.wanted o (yielded ops a.tmps) = true then Oper.wp P o a W Kc Q else E := by
  have hw : Region.wanted o (yielded ops a.tmps) = true := by simp [Region.wanted, hgd]
  have := Kd.S_delete_step (Q := Q) d base hw s x t e ho ht hinfo hs hx hA hm HO hk HB hbase h
  rw [if_pos hw] at this ⊢
  exact this
set_option maxHeartbeats 4000000 in
set_option maxRecDepth 100000 in
theorem sDelete.calls (i : Nat) (P : Nat → Prop) (v : Value) (l : List S55) (w0 w : World) (hB : Below w0.heap.size w0 w) (ho : Kd.S k55 55 w w0.heap.size P v l) (hi : i < l.length) :
    Calls Tryd.prog 96 #[v, .int .i64 i, .int .i64 (i + 1)] w fun e w' => ∃ v' : Value, e = .returned v' ∧ Kd.S k55 55 w' w0.heap.size P v' (l.eraseIdx i) ∧ Below w0.heap.size w0 w' ∧ Kept w w' P := by
  obtain ⟨g, c, rfl, hbg, hgw, _⟩ := Kd.S_form ho (by omega)
  have hnc := (Kd.S_reads' ho).2.1
  have hcm := S_cap ho
  have hPg : P g := (Kd.S_R ho).1 g (by simp [Value.ownBlock])
  have HO := Zh (Kd.S_drew ho)
  have HB := Zh (Ze hB)
  have HK := Zh (Kept.of_below (Ze (Below.refl w.heap.size w)) P)
  have HS := Zh (show w0.heap.size ≤ w.drew.heap.size from Nat.le_of_lt (Nat.lt_of_le_of_lt hbg hgw))
  have HG := Zh hPg
  have HBG := Zh hbg
  have hic : i ≤ c := by omega
  have hjc : i + 1 ≤ c := by omega
  have hjl : i + 1 ≤ l.length := by omega
  have hj0 : (0 : Int) ≤ (i : Int) + 1 := by omega
  have hj1 : (i : Int) + 1 ≤ (l.length : Int) := by omega
  have hil : (i : Int) < (l.length : Int) := by omega
  have hi1 : ((i : Int) == (i : Int) + 1) = false := by simp; omega
  clear ho hB hbg hPg
  by_cases hci : c = i + 1
  · subst hci
    have hii : (i : Int) ≤ (i : Int) + 1 := by omega
    go_enter Tryd.func96, Tryd.ntmps96
    go_wp2
    go_region_law (refine S_delete_law (w0 := w0) k55 w0.heap.size rfl (.tmp 22) (.tmp 25) 26 55 rfl Tryd.underlying26 info55s (g := g) (n := l.length) (c := i + 1) (k := i) (m := 0) (c2 := 0) (A := some ⟨g, 0, none⟩) (ok := P) (by simp [Act.eval, Act.put]) (by simp [Act.eval, Act.put]) (by simp) (by omega) HO.out hi HB.out HS.out ?_; intro w1 hS1 hB1 hG1)
    all_goals
      have hnc1 : l.length - 1 < l.length := by omega
      have hth := fun j (hj : j < (i + 1) * 3) => S_there hS1 j hj
      have HC := Zh (fun ty => zeroed3 w1 g ((l.length - 1) * 3) (i + 1 - (l.length - 1)) ty (fun j hj => hth _ (by omega)))
      have HS1 := Zh (S_beyond hS1 [.string ⟨#[]⟩, .slice none 0 0, .slice none 0 0] (o := (l.length - 1) * 3) (Nat.le_refl _) (by show (l.length - 1) * 3 + 3 ≤ (i + 1) * 3; omega))
      have e1 : l.length - (l.length - 1) = 1 := by omega
      have hlc : l.length - 1 ≤ i + 1 := by omega
      have hcl := HC.out
      clear hS1 hth
      go_wp2
      go_ret
      refine ⟨.slice (some ⟨g, 0, none⟩) (l.length - 1) _, rfl, HS1.out, below_setCells HBG.out _ _ hB1, ?_⟩
      refine ⟨by rw [(setCells_same g _ _ w1).2.2.2]; exact hG1.size, fun k hk hn => ?_⟩
      have hkg : k ≠ g := fun he => hn (he ▸ HG.out)
      rw [setCells_far _ _ k hkg]
      exact hG1.block k hk (fun he => hkg (Option.some.inj he))
  have hcf : (c = i + 1) = False := eq_false hci
  clear hci
  go_enter Tryd.func96, Tryd.ntmps96
  go_wp2
  go_region_law (refine S_delete_law (w0 := w0) k55 w0.heap.size rfl (.tmp 22) (.tmp 25) 26 55 rfl Tryd.underlying26 info55s (g := g) (n := l.length) (c := c) (k := i) (m := l.length - (i + 1)) (c2 := c - (i + 1)) (A := some ⟨g, (i + 1) * 3, none⟩) (ok := P) (by simp [Act.eval, Act.put, hcf]) (by simp [Act.eval, Act.put, hcf]) (by rw [if_neg (of_eq_false hcf)]; exact congrArg some (add_at g 0 ((i + 1) * 3) |>.trans (by rw [Nat.zero_add])).symm) rfl HO.out hi HB.out HS.out ?_; intro w1 hS1 hB1 hG1)
  all_goals
    have hnc1 : l.length - 1 < l.length := by omega
    have hth := fun j (hj : j < (c) * 3) => S_there hS1 j hj
    have HC := Zh (fun ty => zeroed3 w1 g ((l.length - 1) * 3) (c - (l.length - 1)) ty (fun j hj => hth _ (by omega)))
    have HS1 := Zh (S_beyond hS1 [.string ⟨#[]⟩, .slice none 0 0, .slice none 0 0] (o := (l.length - 1) * 3) (Nat.le_refl _) (by show (l.length - 1) * 3 + 3 ≤ (c) * 3; omega))
    have e1 : l.length - (l.length - 1) = 1 := by omega
    have hlc : l.length - 1 ≤ c := by omega
    have hcl := HC.out
    clear hS1 hth
    go_wp2
    go_ret
    refine ⟨.slice (some ⟨g, 0, none⟩) (l.length - 1) _, rfl, HS1.out, below_setCells HBG.out _ _ hB1, ?_⟩
    refine ⟨by rw [(setCells_same g _ _ w1).2.2.2]; exact hG1.size, fun k hk hn => ?_⟩
    have hkg : k ≠ g := fun he => hn (he ▸ HG.out)
    rw [setCells_far _ _ k hkg]
    exact hG1.block k hk (fun he => hkg (Option.some.inj he))
theorem run_copy_k {P : Program} (w : World) (dT sT ty elem : TypeId) (size : Nat) (b o dLen dCap : Nat) (a : Addr) (sLen sCap : Nat) (cs : List Value)
    (hu : P.underlying dT = some (.slice elem)) (hs : (P.info? elem).map (·.size) = some size) (hn : cs.length = Nat.min sLen dLen * size)
    (hsrc : ∀ j v, cs[j]? = some v → w.cell? (a.add j) = some v) (hc : ∀ j, j < cs.length → (w.cell? ⟨b, o + j, none⟩).isSome = true) (hf : ∀ j, j < cs.length → w.frozen? ⟨b, o + j, none⟩ = false) (h1 : ∀ v ∈ cs, v.oneCell' = true) :
    (Builtin.copy_ #[dT, sT] ty #[.slice (some ⟨b, o, none⟩) dLen dCap, .slice (some a) sLen sCap]).run P w = .ok (goInt (Nat.min sLen dLen)) (w.setCells b o cs) := by
  have hl := run_loadCells_list (P := P) w a cs hsrc
  have hst := run_storeCells_cells (P := P) b o cs 0 w (by simpa using hc) (by simpa using hf) h1
  cases hq : P.info? elem with
  | none => simp [hq] at hs
  | some i =>
    have hi : i.size = size := by simpa [hq] using hs
    simp [Builtin.copy_, run_underlying hu, Builtin.lenOf, Builtin.firstCells, sizeOf, typeInfo, hq, hi, ← hn, hl, hst]
theorem wpList_copy_run {P : Program} (w : World) {ops : Array Oper} {rest : List Oper} {o : Oper} {a : Act} {Q : Exit → Act → World → Prop} (hgd : o.guard = none) (d s : Operand) (t t' : TypeId)
    (ho : o.op = .call { callee := .builtin .copy, args := #[d, s], argTypes := #[t, t'] }) (v u : Value) (hd : a.eval d = v) (hs : a.eval s = u) {v' : Value} {w' : World}
    (hr : (Builtin.copy_ #[t, t'] o.type #[v, u]).run P w = .ok v' w') (h : wpList P ops Q rest (a.put o.dst v') w') : wpList P ops Q (o :: rest) a w :=
  wpList_plain hgd fun _ hK => by
    unfold Oper.wp execOp
    simp only [ho, resolve, invoke, builtin, Sem.run_bind, Sem.run_pure, Result.andThen_ok, List.map_toArray, List.map_cons, List.map_nil, hd, hs, hr]
    exact hK _ _ h
theorem step_copy_run {P : Program} {ops : Array Oper} {o : Oper} {a : Act} {w : World} {K : Act → World → Prop} {Q : Exit → Act → World → Prop} {E : Prop}
    (hg : o.guard = none) (d x : Operand) (dT sT : TypeId) (hop : o.op = Op.call { callee := Callee.builtin Builtin.copy, args := #[d, x], argTypes := #[dT, sT] })
    (v u : Value) (hd : a.eval d = v) (hx : a.eval x = u) {v' : Value} {w' : World} (hr : (Builtin.copy_ #[dT, sT] o.type #[v, u]).run P w = .ok v' w') (hK : K (a.put o.dst v') w') :
    if Region.wanted o (yielded ops a.tmps) = true then Oper.wp P o a w K Q else E := by
  have hw : Region.wanted o (yielded ops a.tmps) = true := by simp [Region.wanted, hg]
  rw [if_pos hw]
  unfold Oper.wp
  simp [execOp, hop, resolve, invoke, builtin, hd, hx, hr, Result.andThen]
  exact hK
theorem S_parts {α : Type} {d : Kd α} {e base : Nat} {W : World} {ok : Nat → Prop} {v : Value} {xs : List α} (h : Kd.S d e W base ok v xs) :
    ∃ (inner : List Value) (okj : Nat → Nat → Prop), W.ownsRow base e d.sz v xs.length inner ∧ inner.length = xs.length * d.sz ∧ (∀ k, v.ownBlock = some k → ok k) ∧ (∀ i j k, okj i k → okj j k → i = j) ∧ (∀ j k, okj j k → ok k ∧ some k ≠ v.ownBlock) ∧ ∀ j x, xs[j]? = some x → d.M W base (okj j) x ((inner.drop (j * d.sz)).take d.sz) := by
  obtain ⟨f, h0, inner, ho, hr⟩ := h
  rw [List.length_zipIdx] at ho
  have hl : inner.length = xs.length * d.sz := by have := hr.1; rw [List.length_zipIdx] at this; exact this
  exact ⟨inner, fun j k => (ok k ∧ some k ≠ v.ownBlock) ∧ f k = j, ho, hl, h0, fun i j k h1 h2 => h1.2.symm.trans h2.2, fun j k hk => hk.1, fun j x hx => hr.2 j (x, j) (Kd.zip_at hx)⟩
theorem ins_get {α : Type} (l : List α) (x : α) (i : Nat) (hi : i ≤ l.length) (j : Nat) (y : α) (h : (l.take i ++ x :: l.drop i)[j]? = some y) : (j < i ∧ l[j]? = some y) ∨ (j = i ∧ y = x) ∨ (i < j ∧ l[j - 1]? = some y) := by
  have hl : (l.take i).length = i := by rw [List.length_take]; omega
  by_cases h1 : j < i
  · rw [List.getElem?_append_left (by omega), List.getElem?_take, if_pos h1] at h
    exact .inl ⟨h1, h⟩
  rw [List.getElem?_append_right (by omega), hl] at h
  by_cases h2 : j = i
  · subst h2
    rw [Nat.sub_self, List.getElem?_cons_zero] at h
    exact .inr (.inl ⟨rfl, (Option.some.inj h).symm⟩)
  obtain ⟨m, hm⟩ : ∃ m, j - i = m + 1 := ⟨j - i - 1, by omega⟩
  rw [hm, List.getElem?_cons_succ, List.getElem?_drop] at h
  exact .inr (.inr ⟨by omega, by rw [show j - 1 = i + m by omega]; exact h⟩)
theorem ins_cells {inner cx : List Value} {n i sz : Nat} (hin : inner.length = n * sz) (hcx : cx.length = sz) (hi : i ≤ n) (j : Nat) :
    (j < i → ((inner.take (i * sz) ++ cx ++ inner.drop (i * sz)).drop (j * sz)).take sz = (inner.drop (j * sz)).take sz) ∧ (j = i → ((inner.take (i * sz) ++ cx ++ inner.drop (i * sz)).drop (j * sz)).take sz = cx) ∧ (i < j → ((inner.take (i * sz) ++ cx ++ inner.drop (i * sz)).drop (j * sz)).take sz = (inner.drop ((j - 1) * sz)).take sz) := by
  have hil : i * sz ≤ inner.length := by rw [hin]; exact Nat.mul_le_mul_right _ hi
  have htl : (inner.take (i * sz)).length = i * sz := by rw [List.length_take]; omega
  refine ⟨fun h => ?_, fun h => ?_, fun h => ?_⟩
  · have h1 : j * sz + sz ≤ i * sz := by rw [← Nat.succ_mul]; exact Nat.mul_le_mul_right _ h
    rw [List.append_assoc, List.drop_append_of_le_length (by omega), List.take_append_of_le_length (by rw [List.length_drop]; omega), List.drop_take, List.take_take]
    congr 1
    omega
  · subst h
    rw [List.append_assoc, List.drop_append, htl, Nat.sub_self, List.drop_zero, List.drop_eq_nil_of_le (by omega), List.nil_append, List.take_append_of_le_length (by omega), List.take_of_length_le (by omega)]
  have h1 : i * sz + sz ≤ j * sz := by rw [← Nat.succ_mul]; exact Nat.mul_le_mul_right _ h
  have h2 : (j - 1) * sz = j * sz - sz := by rw [Nat.sub_mul, Nat.one_mul]
  rw [List.drop_append, List.drop_eq_nil_of_le (by rw [List.length_append]; omega), List.nil_append, List.length_append, htl, hcx, List.drop_drop]
  congr 2
  omega
theorem S_put {α : Type} {d : Kd α} {e base g' c' i : Nat} {W w1 : World} {ok G : Nat → Prop} {v : Value} {xs : List α} {x : α} {cx inner : List Value} {okj : Nat → Nat → Prop} {cur' : Array Value}
    (hin : inner.length = xs.length * d.sz) (h0 : ∀ k, v.ownBlock = some k → ok k) (hap : ∀ i j k, okj i k → okj j k → i = j) (hok : ∀ j k, okj j k → ok k ∧ some k ≠ v.ownBlock) (hrep : ∀ j x, xs[j]? = some x → d.M W base (okj j) x ((inner.drop (j * d.sz)).take d.sz))
    (hx : d.M W base G x cx) (hG : ∀ k, G k → ¬ ok k) (hi : i ≤ xs.length) (hb : base ≤ g') (hg' : v.ownBlock = some g' ∨ W.heap.size ≤ g')
    (hcur : w1.heap[g']? = some (.cells cur' e (0, 0))) (hsz : cur'.size = c' * d.sz) (hnc : xs.length + 1 ≤ c') (hcm : c' ≤ maxLen) (htk : cur'.toList.take ((xs.length + 1) * d.sz) = inner.take (i * d.sz) ++ cx ++ inner.drop (i * d.sz))
    (hmv : ∀ k, k < W.heap.size → some k ≠ v.ownBlock → w1.heap[k]? = W.heap[k]?) :
    Kd.S d e w1 base (fun k => ok k ∨ G k ∨ (W.heap.size ≤ k ∧ k < w1.heap.size)) (.slice (some ⟨g', 0, none⟩) (xs.length + 1) c') (xs.take i ++ x :: xs.drop i) := by
  have hlen : (xs.take i ++ x :: xs.drop i).length = xs.length + 1 := by simp; omega
  have hcx : cx.length = d.sz := d.K_len (d.K_of_M hx)
  have hgl : g' < w1.heap.size := blk_lt hcur
  have hcells := fun j => ins_cells (inner := inner) (cx := cx) hin hcx hi j
  have hmove : ∀ (q : Nat → Prop) (y : α) (cs : List Value), (∀ k, q k → some k ≠ v.ownBlock) → d.M W base q y cs → d.M w1 base (fun k => q k ∧ k < W.heap.size) y cs := fun q y cs hq hM =>
    d.M_move (fun k hk => hmv k hk.2 (hq k hk.1)) (d.M_mono (fun k hk => ⟨hk.1, hk.2.2.1⟩) (d.M_bound hM))
  have hGv : ∀ k, G k → some k ≠ v.ownBlock := fun k hk he => hG k hk (h0 k he.symm)
  have hnew : ∀ q : Nat → Prop, (∀ k, q k → some k ≠ v.ownBlock) → ∀ k, (q k ∧ k < W.heap.size) → some k ≠ some g' := fun q hq k hk he => by
    injection he with he
    rcases hg' with h | h
    · exact hq k hk.1 (by rw [h, he])
    have := hk.2; omega
  obtain ⟨f, hr⟩ := Kd.reps_tag (d := d) (w := w1) (base := base) (ok := fun k => (ok k ∨ G k ∨ (W.heap.size ≤ k ∧ k < w1.heap.size)) ∧ some k ≠ (Value.slice (some ⟨g', 0, none⟩) (xs.length + 1) c').ownBlock) (xs := xs.take i ++ x :: xs.drop i) (inner := inner.take (i * d.sz) ++ cx ++ inner.drop (i * d.sz))
    (fun j k => ((j < i ∧ okj j k) ∨ (j = i ∧ G k) ∨ (i < j ∧ okj (j - 1) k)) ∧ k < W.heap.size)
    (fun a b k h1 h2 => by
      rcases h1.1 with ⟨a1, a2⟩ | ⟨a1, a2⟩ | ⟨a1, a2⟩ <;> rcases h2.1 with ⟨b1, b2⟩ | ⟨b1, b2⟩ | ⟨b1, b2⟩
      · exact hap _ _ k a2 b2
      · exact absurd (hok _ k a2).1 (hG k b2)
      · have := hap _ _ k a2 b2; omega
      · exact absurd (hok _ k b2).1 (hG k a2)
      · omega
      · exact absurd (hok _ k b2).1 (hG k a2)
      · have := hap _ _ k a2 b2; omega
      · exact absurd (hok _ k a2).1 (hG k b2)
      have := hap _ _ k a2 b2; omega)
    (fun j k hk => by
      show _ ∧ some k ≠ (Value.slice (some ⟨g', 0, none⟩) (xs.length + 1) c').ownBlock
      have ho : (Value.slice (some ⟨g', 0, none⟩) (xs.length + 1) c').ownBlock = some g' := by simp [Value.ownBlock]
      rw [ho]
      rcases hk.1 with ⟨_, a2⟩ | ⟨_, a2⟩ | ⟨_, a2⟩
      · exact ⟨.inl (hok _ k a2).1, hnew (okj j) (fun k hk => (hok _ k hk).2) k ⟨a2, hk.2⟩⟩
      · exact ⟨.inr (.inl a2), hnew G hGv k ⟨a2, hk.2⟩⟩
      exact ⟨.inl (hok _ k a2).1, hnew (okj (j - 1)) (fun k hk => (hok _ k hk).2) k ⟨a2, hk.2⟩⟩)
    (by rw [hlen]; simp only [List.length_append, List.length_take, List.length_drop, hcx]; have : i * d.sz ≤ inner.length := by rw [hin]; exact Nat.mul_le_mul_right _ hi
        rw [Nat.add_mul, Nat.one_mul, ← hin]; omega)
    (fun j y hy => by
      rcases ins_get xs x i hi j y hy with ⟨h1, h2⟩ | ⟨h1, rfl⟩ | ⟨h1, h2⟩
      · rw [(hcells j).1 h1]
        exact d.M_mono (fun k hk => ⟨.inl ⟨h1, hk.1⟩, hk.2⟩) (hmove (okj j) y _ (fun k hk => (hok _ k hk).2) (hrep j y h2))
      · rw [(hcells j).2.1 h1]
        exact d.M_mono (fun k hk => ⟨.inr (.inl ⟨h1, hk.1⟩), hk.2⟩) (hmove G y _ hGv hx)
      rw [(hcells j).2.2 h1]
      exact d.M_mono (fun k hk => ⟨.inr (.inr ⟨h1, hk.1⟩), hk.2⟩) (hmove (okj (j - 1)) y _ (fun k hk => (hok _ k hk).2) (hrep (j - 1) y h2)))
  refine ⟨f, fun k hk => ?_, inner.take (i * d.sz) ++ cx ++ inner.drop (i * d.sz), ⟨?_, .inr ⟨g', c', cur', ?_, hb, hcur, ?_, hcm, hsz, ?_⟩⟩, hr⟩
  · have : g' = k := by simpa [Value.ownBlock] using hk
    subst this
    rcases hg' with h | h
    · exact .inl (h0 _ h)
    exact .inr (.inr ⟨h, hgl⟩)
  · rw [List.length_zipIdx]; have := hr.1; rw [List.length_zipIdx] at this; exact this
  · rw [List.length_zipIdx, hlen]
  · rw [List.length_zipIdx, hlen]; exact hnc
  rw [List.length_zipIdx, hlen]; exact htk
theorem S_putO {α : Type} {d : Kd α} {e base i : Nat} {W w1 : World} {ok G : Nat → Prop} {v v' : Value} {xs : List α} {x : α} {cx inner : List Value} {okj : Nat → Nat → Prop}
    (hin : inner.length = xs.length * d.sz) (h0 : ∀ k, v.ownBlock = some k → ok k) (hap : ∀ i j k, okj i k → okj j k → i = j) (hok : ∀ j k, okj j k → ok k ∧ some k ≠ v.ownBlock) (hrep : ∀ j x, xs[j]? = some x → d.M W base (okj j) x ((inner.drop (j * d.sz)).take d.sz))
    (hx : d.M W base G x cx) (hG : ∀ k, G k → ¬ ok k) (hi : i ≤ xs.length) (hown : w1.ownsRow base e d.sz v' (xs.length + 1) (inner.take (i * d.sz) ++ cx ++ inner.drop (i * d.sz))) (hat : v'.ownBlock = v.ownBlock ∨ ∃ b, v'.ownBlock = some b ∧ W.heap.size ≤ b)
    (hmv : ∀ k, k < W.heap.size → some k ≠ v.ownBlock → w1.heap[k]? = W.heap[k]?) :
    Kd.S d e w1 base (fun k => ok k ∨ G k ∨ (W.heap.size ≤ k ∧ k < w1.heap.size)) v' (xs.take i ++ x :: xs.drop i) := by
  rcases hown.2 with ⟨_, hn⟩ | ⟨g', c', cur', rfl, hb, hcur, hnc, hcm, hsz, htk⟩
  · omega
  refine S_put hin h0 hap hok hrep hx hG hi hb ?_ hcur hsz hnc hcm htk hmv
  have hg : (Value.slice (some ⟨g', 0, none⟩) (xs.length + 1) c').ownBlock = some g' := by simp [Value.ownBlock]
  rw [hg] at hat
  rcases hat with h | ⟨b, h, hb'⟩
  · exact .inl h.symm
  injection h with h
  subst h
  exact .inr hb'
end Go.Proofs.YtcgojdhbphocgaaDoor.F
