/- Merged texts below the law FnCrash: Go functions as Lean functions, their contracts, and plain lemmas. -/
import Derived.Test.YtmgeffgcihfpcaaDoorQFnCrash13
import Derived.Test.YtmgeffgcihfpcaaDoorQFnCrash23
import Derived.Test.YtmgeffgcihfpcaaDoorQFnCrash25
import Derived.BigQuiet
import Derived.Deep.DeepCutAuto
namespace Go.Proofs.YtmgeffgcihfpcaaDoor.F
open Go.RowKit Go.Proofs.YtmgeffgcihfpcaaDoorW.PrintWords Go.Proofs.YtmgeffgcihfpcaaDoorW.PrintLast Go.Proofs.YtmgeffgcihfpcaaDoorW.PrintMore
open Go.Proofs.YtmgeffgcihfpcaaDoor
set_option linter.unusedVariables false
set_option linter.unusedSimpArgs false
mutual
def spec_l03Put.l0 : Nat → Bool → Int → List (S74) → ByteArray → List Int → List Int → List (S74) → Option ((List (S74)))
  | 0, _, _, _, _, _, _, _ => none
  | k + 1, x6, x7, x, a, u, v, y => if x7 < (x.length : Int) then (if x6 = true then (spec_l03Put.j1 k x6 x7 false x a u v y) else (if 0 ≤ x7 then (spec_l03Put.j1 k x6 x7 (!(Op.bytesLess (((rd_T74 x x7).f0).toList) a.toList)) x a u v y) else (none))) else (if x6 = true then ((spec_l03Copy.f k y).bind fun t301 => (some t301)) else (if y.length < 2199023255552 then ((spec_l03Copy.f k (y ++ [(⟨a, u, v⟩ : S74)])).bind fun t307 => (some t307)) else (none)))
def spec_l03Put.j1 : Nat → Bool → Int → Bool → List (S74) → ByteArray → List Int → List Int → List (S74) → Option ((List (S74)))
  | 0, _, _, _, _, _, _, _, _ => none
  | k + 1, x6, x7, x28, x, a, u, v, y => if x28 = true then (if y.length < 2199023255552 then ((some (y ++ [(⟨a, u, v⟩ : S74)] : List (S74))).bind fun y311 => (if 0 ≤ x7 then (if x7 < (x.length : Int) then (if ((rd_T74 x x7).f0).toList = a.toList then (spec_l03Put.l0 k true (wrap64 (x7 + 1)) x a u v y311) else (if y311.length < 2199023255552 then (spec_l03Put.l0 k true (wrap64 (x7 + 1)) x a u v (y311 ++ [rd_T74 x x7])) else (none))) else (none)) else (none))) else (none)) else (if 0 ≤ x7 then (if x7 < (x.length : Int) then (if ((rd_T74 x x7).f0).toList = a.toList then (spec_l03Put.l0 k x6 (wrap64 (x7 + 1)) x a u v y) else (if y.length < 2199023255552 then (spec_l03Put.l0 k x6 (wrap64 (x7 + 1)) x a u v (y ++ [rd_T74 x x7])) else (none))) else (none)) else (none))
end
def spec_l03Put.f (k : Nat) (l0_0 : List (S74)) (a1_0 : ByteArray) (l1_1 : List Int) (l1_2 : List Int) : Option ((List (S74))) := spec_l03Put.l0 k false 0 l0_0 a1_0 l1_1 l1_2 ([] : List (S74))
set_option maxHeartbeats 8000000 in
set_option maxRecDepth 100000 in
theorem spec_l03Put.calls (k : Nat) (A0_0 : Option Addr) (c0_0 : Nat) (l0_0 : List (S74)) (a1_0 : ByteArray) (A1_1 : Option Addr) (c1_1 : Nat) (l1_1 : List Int) (A1_2 : Option Addr) (c1_2 : Nat) (l1_2 : List Int) (r : List (S74)) (w : World) (hr0_0 : Kd.C k74 w A0_0 l0_0.length l0_0) (hc0_0 : l0_0.length ≤ c0_0) (hr1_1 : Kd.C (Kd.int .u8) w A1_1 l1_1.length l1_1) (hc1_1 : l1_1.length ≤ c1_1) (hr1_2 : Kd.C (Kd.int .u8) w A1_2 l1_2.length l1_2) (hc1_2 : l1_2.length ≤ c1_2) (h : spec_l03Put.f k l0_0 a1_0 l1_1 l1_2 = some r) :
    Calls Tryd.prog 70 #[.agg #[.slice A0_0 l0_0.length c0_0], .agg #[.string a1_0, .slice A1_1 l1_1.length c1_1, .slice A1_2 l1_2.length c1_2]] w fun e w' => ∃ v0_ : Value, e = .returned (.agg #[v0_]) ∧ Kd.S k74 74 w' w.heap.size (fun _ => True) v0_ r ∧ Below w.heap.size w w' := by
  have HR := Zh hr0_0
  have HKf := Zh (k74_mk w (⟨a1_0, l1_1, l1_2⟩ : S74) hc1_1 hr1_1 hc1_2 hr1_2)
  clear hr0_0 hc0_0 hr1_1 hc1_1 hr1_2 hc1_2
  have ST := Zh (LW.St.start w)
  have hu29 := Tryd.underlying29
  have hu74 := Tryd.underlying74
  have H := Zh (show spec_l03Put.l0 k false 0 l0_0 a1_0 l1_1 l1_2 [] = some r from h)
  clear h
  go_enter Tryd.func70, Tryd.ntmps70
  go_wp2_with fail
  replace ST := Zh (ST.out.alloc #[.slice A0_0 l0_0.length c0_0] 29 (g := w.heap.size) rfl)
  replace ST := Zh (ST.out.alloc #[.string a1_0, .slice A1_1 l1_1.length c1_1, .slice A1_2 l1_2.length c1_2] 74 (g := w.heap.size + 1) (by simp))
  replace ST := Zh (ST.out.alloc #[.slice none 0 0] 29 (g := w.heap.size + 2) (by simp))
  replace ST := Zh (ST.out.alloc #[.slice none 0 0] 29 (g := w.heap.size + 3) (by simp))
  replace ST := Zh (LW.St.pick0 (d := k74) (e := 74) (B := w.heap.size) ST.out)
  generalize hW : ((((w.alloc (.cells #[.slice A0_0 l0_0.length c0_0] 29)).alloc (.cells #[.string a1_0, .slice A1_1 l1_1.length c1_1, .slice A1_2 l1_2.length c1_2] 74)).alloc (.cells #[.slice none 0 0] 29)).alloc (.cells #[.slice none 0 0] 29)) = W at ST ⊢
  clear hW
  go_loopg [6, 7] k (fun kq v6 v7 w' => ∃ (x6 : Bool) (x7 : Int) (y : List S74) (Ao : Option Addr) (co : Nat), v6 = .bool x6 ∧ v7 = .int .i64 x7 ∧ Aside0 (spec_l03Put.l0 kq x6 x7 l0_0 a1_0 l1_1 l1_2 y = some r) ∧ Aside0 (LW.St w w' [LW.pick k74 74 w.heap.size w (.slice Ao y.length co) y, LW.box (w.heap.size + 3) #[.slice Ao y.length co] 29, LW.box (w.heap.size + 2) #[.slice none 0 0] 29, LW.box (w.heap.size + 1) #[.string a1_0, .slice A1_1 l1_1.length c1_1, .slice A1_2 l1_2.length c1_2] 74, LW.box w.heap.size #[.slice A0_0 l0_0.length c0_0] 29]))
  case atStart => exact ⟨false, 0, [], none, 0, rfl, rfl, H, ST⟩
  case round =>
    clear H ST
    obtain ⟨x6, x7, y, Ao, co, rfl, rfl, HA, ST⟩ := hrel
    cases gk with
    | zero => exact absurd HA.out (by simp [spec_l03Put.l0])
    | succ k1 =>
      have H := HA.out
      clear HA
      simp only [spec_l03Put.l0] at H
      have hc0 := ST.out.cell 4 rfl 0 (u := .slice A0_0 l0_0.length c0_0) rfl
      have hc1 := ST.out.cell 3 rfl 0 (u := .string a1_0) rfl
      have hc2 := ST.out.cell 3 rfl 1 (u := .slice A1_1 l1_1.length c1_1) rfl
      have hc3 := ST.out.cell 3 rfl 2 (u := .slice A1_2 l1_2.length c1_2) rfl
      have hc4 := ST.out.cell 1 rfl 0 (u := .slice Ao y.length co) rfl
      have hl0 := ST.out.lt 4 rfl
      have hl3 := ST.out.lt 3 rfl
      have hl4 := ST.out.lt 1 rfl
      by_cases c7 : x7 < (l0_0.length : Int)
      · rw [if_pos c7] at H
        have q7 := decide_eq_true c7
        have hb : ∃ b : Bool, spec_l03Put.j1 k1 x6 x7 b l0_0 a1_0 l1_1 l1_2 y = some r ∧ (x6 = true → b = false) ∧ (x6 = false → 0 ≤ x7 ∧ b = !(Op.bytesLess (rd_T74 l0_0 x7).f0.toList a1_0.toList)) := by
          by_cases c : x6 = true
          · rw [if_pos c] at H
            exact ⟨false, H, fun _ => rfl, fun g => by rw [c] at g; cases g⟩
          rw [if_neg c] at H
          by_cases c0 : 0 ≤ x7
          · rw [if_pos c0] at H
            exact ⟨_, H, fun g => absurd g c, fun _ => ⟨c0, rfl⟩⟩
          rw [if_neg c0] at H
          exact absurd H (by simp)
        clear H
        obtain ⟨b, HJ, hbt, hbf⟩ := hb
        replace HJ := Zh HJ
        go_upto_region 6 with fail
        go_cut [28] (fun v28 wc => v28 = .bool b ∧ Aside0 (LW.St w wc [LW.pick k74 74 w.heap.size w (.slice Ao y.length co) y, LW.box (w.heap.size + 3) #[.slice Ao y.length co] 29, LW.box (w.heap.size + 2) #[.slice none 0 0] 29, LW.box (w.heap.size + 1) #[.string a1_0, .slice A1_1 l1_1.length c1_1, .slice A1_2 l1_2.length c1_2] 74, LW.box w.heap.size #[.slice A0_0 l0_0.length c0_0] 29]))
        case first =>
          cases x6 with
          | true =>
            obtain rfl := hbt rfl
            clear hbt hbf
            go_quiet (fail)
            go_wp2
            go_meet
            case rel => exact ⟨rfl, ⟨ST.out.drewN _⟩⟩
          | false =>
            obtain ⟨p0, rfl⟩ := hbf rfl
            clear hbt hbf
            obtain ⟨ad, B1, d1, B2, d2, e, E0, E1, E2, g1, g2, g3, g4⟩ := at_T74 HR.out x7 p0 c7
            have HKd := Zh (k74_mk w (rd_T74 l0_0 x7) g1 g2 g3 g4)
            cases e
            have hx0 := (ST.out.b.cell (Zi w _ E0)).trans E0
            have hx1 := (ST.out.b.cell (Zi w _ E1)).trans E1
            have hx2 := (ST.out.b.cell (Zi w _ E2)).trans E2
            have HE0 := Zh E0
            have HE1 := Zh E1
            have HE2 := Zh E2
            clear E0 E1 E2 g1 g2 g3 g4
            have p1 := eq_true p0
            have p2 := eq_true c7
            clear p0 c7
            go_quiet (fail)
            go_wp2
            go_meet
            case rel => exact ⟨rfl, ⟨ST.out.drewN _⟩⟩
        case rest =>
        obtain ⟨rfl, STc⟩ := hcut
        clear ST hbt hbf
        clear hc0 hc1 hc2 hc3 hc4 hl0 hl3 hl4
        have ST := STc
        clear STc
        have H := HJ.out
        clear HJ
        cases k1 with
        | zero => exact absurd H (by simp [spec_l03Put.j1])
        | succ k2 =>
          simp only [spec_l03Put.j1, Option.bind_some] at H
          have hj : ∃ (z6 : Bool) (z : List S74), (b = true → y.length < 2199023255552 ∧ z6 = true ∧ z = y ++ [(⟨a1_0, l1_1, l1_2⟩ : S74)]) ∧ (b = false → z6 = x6 ∧ z = y) ∧ (if 0 ≤ x7 then (if x7 < (l0_0.length : Int) then (if ((rd_T74 l0_0 x7).f0).toList = a1_0.toList then (spec_l03Put.l0 k2 z6 (wrap64 (x7 + 1)) l0_0 a1_0 l1_1 l1_2 z) else (if z.length < 2199023255552 then (spec_l03Put.l0 k2 z6 (wrap64 (x7 + 1)) l0_0 a1_0 l1_1 l1_2 (z ++ [rd_T74 l0_0 x7])) else (none))) else (none)) else (none)) = some r := by
            cases b with
            | true =>
              rw [if_pos rfl] at H
              by_cases c : y.length < 2199023255552
              · rw [if_pos c] at H
                exact ⟨true, _, fun _ => ⟨c, rfl, rfl⟩, fun g => absurd g (by decide), H⟩
              rw [if_neg c] at H
              exact absurd H (by simp)
            | false =>
              rw [if_neg (by decide)] at H
              exact ⟨x6, y, fun g => absurd g (by decide), fun _ => ⟨rfl, rfl⟩, H⟩
          clear H
          obtain ⟨z6, z, hzt, hzf, H⟩ := hj
          have H' := Zh H
          clear H
          have hc0 := ST.out.cell 4 rfl 0 (u := .slice A0_0 l0_0.length c0_0) rfl
          have hc1 := ST.out.cell 3 rfl 0 (u := .string a1_0) rfl
          have hc2 := ST.out.cell 3 rfl 1 (u := .slice A1_1 l1_1.length c1_1) rfl
          have hc3 := ST.out.cell 3 rfl 2 (u := .slice A1_2 l1_2.length c1_2) rfl
          have hc4 := ST.out.cell 1 rfl 0 (u := .slice Ao y.length co) rfl
          have hl0 := ST.out.lt 4 rfl
          have hl3 := ST.out.lt 3 rfl
          have hl4 := ST.out.lt 1 rfl
          go_upto_if 28 with fail
          go_cut [6] (fun v6 wd => ∃ (Ao : Option Addr) (co : Nat), v6 = .bool z6 ∧ Aside0 (LW.St w wd [LW.pick k74 74 w.heap.size w (.slice Ao z.length co) z, LW.box (w.heap.size + 3) #[.slice Ao z.length co] 29, LW.box (w.heap.size + 2) #[.slice none 0 0] 29, LW.box (w.heap.size + 1) #[.string a1_0, .slice A1_1 l1_1.length c1_1, .slice A1_2 l1_2.length c1_2] 74, LW.box w.heap.size #[.slice A0_0 l0_0.length c0_0] 29]))
          case first =>
            cases b with
            | true =>
              obtain ⟨hlm, rfl, rfl⟩ := hzt rfl
              have HLM := Zh hlm
              clear hzt hzf hlm
              obtain ⟨rows, hrl, hrow, back⟩ := ST.out.picked 0 rfl
              have HRL := Zh hrl
              have HRW := Zh hrow
              have BK := Zh back
              clear hrl hrow back
              go_wp2_with ((with_reducible refine gate_builtin (b := .append) (xs := #[.tmp 30, .tmp 32]) rfl ?_); at_builtin; refine Kd.R_append (Kd.raw 3) (w0 := w) w.heap.size rfl (.tmp 30) (.tmp 32) 27 74 (.agg #[(.string ⟨#[]⟩), (.slice none 0 0), (.slice none 0 0)]) 64 rfl Tryd.underlying27 info74 rfl (by decide) (by omega) (.slice Ao y.length co) rows [.string a1_0, .slice A1_1 l1_1.length c1_1, .slice A1_2 l1_2.length c1_2] [.string a1_0, .slice A1_1 l1_1.length c1_1, .slice A1_2 l1_2.length c1_2] (fun _ => True) (fun _ => False) rfl rfl ⟨rfl, rfl, k74.K_one HKf.out⟩ (fun _ h => h.elim) (fun _ _ => trivial) HRW.out ST.out.b ST.out.b.size (by have := HRL.out; have := HLM.out; omega) ?_; intro v1 w2 q1 q2 q3 q4; obtain ⟨A3, c3, hv⟩ := Kd.R_slice q1; rw [show (rows ++ [([.string a1_0, .slice A1_1 l1_1.length c1_1, .slice A1_2 l1_2.length c1_2] : List Value)]).length = y.length + 1 by simp [HRL.out]] at hv; subst hv; have ST2 := Zh (BK.out (⟨a1_0, l1_1, l1_2⟩ : S74) _ _ _ HKf.out q1 q2 q3 q4); have hs1 := ST2.out.cell 1 rfl 0 (u := .slice Ao y.length co) rfl; have hf1 := ST2.out.frozen 1 rfl 0; have hl1 := ST2.out.lt 1 rfl; clear hc0 hc1 hc2 hc3 hc4 hl0 hl3 hl4; clear q1 q2 q3 q4)
              replace ST := Zh (ST2.out.set 1 rfl 0 (.slice A3 (y.length + 1) c3))
              go_meet
              case rel => exact ⟨A3, c3, rfl, by rw [List.length_append]; exact ST⟩
            | false =>
              obtain ⟨rfl, rfl⟩ := hzf rfl
              clear hzt hzf
              go_wp2
              go_meet
              case rel => exact ⟨Ao, co, rfl, ST⟩
          case rest =>
          clear ST hzt hzf
          clear hc0 hc1 hc2 hc3 hc4 hl0 hl3 hl4
          obtain ⟨Ao, co, rfl, ST⟩ := hcut
          have H := H'.out
          clear H'
          by_cases p0 : 0 ≤ x7
          · rw [if_pos p0, if_pos c7] at H
            have hc0 := ST.out.cell 4 rfl 0 (u := .slice A0_0 l0_0.length c0_0) rfl
            have hc1 := ST.out.cell 3 rfl 0 (u := .string a1_0) rfl
            have hc2 := ST.out.cell 3 rfl 1 (u := .slice A1_1 l1_1.length c1_1) rfl
            have hc3 := ST.out.cell 3 rfl 2 (u := .slice A1_2 l1_2.length c1_2) rfl
            have hc4 := ST.out.cell 1 rfl 0 (u := .slice Ao z.length co) rfl
            have hl0 := ST.out.lt 4 rfl
            have hl3 := ST.out.lt 3 rfl
            have hl4 := ST.out.lt 1 rfl
            obtain ⟨ad, B1, d1, B2, d2, e, E0, E1, E2, g1, g2, g3, g4⟩ := at_T74 HR.out x7 p0 c7
            have HKd := Zh (k74_mk w (rd_T74 l0_0 x7) g1 g2 g3 g4)
            cases e
            have hx0 := (ST.out.b.cell (Zi w _ E0)).trans E0
            have hx1 := (ST.out.b.cell (Zi w _ E1)).trans E1
            have hx2 := (ST.out.b.cell (Zi w _ E2)).trans E2
            have HE0 := Zh E0
            have HE1 := Zh E1
            have HE2 := Zh E2
            clear E0 E1 E2 g1 g2 g3 g4
            have p1 := eq_true p0
            have p2 := eq_true c7
            clear p0 c7
            by_cases ceq : ((rd_T74 l0_0 x7).f0).toList = a1_0.toList
            · rw [if_pos ceq] at H
              have q9 : (((rd_T74 l0_0 x7).f0).toList == a1_0.toList) = true := beq_iff_eq.mpr ceq
              have H' := Zh H
              clear H ceq
              go_wp2_with fail
              go_quiet (fail)
              go_wp2
              go_roundg k2
              case measure => omega
              case rel => exact ⟨_, _, _, _, _, rfl, rfl, H', ⟨ST.out.drewN _⟩⟩
            rw [if_neg ceq] at H
            have q9 : (((rd_T74 l0_0 x7).f0).toList == a1_0.toList) = false := by rw [beq_eq_false_iff_ne]; exact ceq
            by_cases cm : z.length < 2199023255552
            · rw [if_pos cm] at H
              have HLM := Zh cm
              have H' := Zh H
              clear H ceq cm
              go_wp2_with fail
              go_quiet (fail)
              clear hc0 hc1 hc2 hc3 hc4 hl0 hl3 hl4
              replace ST := Zh (ST.out.drewN nq)
              generalize wc.drewN nq = w5 at ST ⊢
              clear hx0 hx1 hx2
              go_wp2_with fail
              replace ST := Zh ST.out.drew
              have hx0 := (ST.out.b.cell (Zi w _ HE0.out)).trans HE0.out
              have hx1 := (ST.out.b.cell (Zi w _ HE1.out)).trans HE1.out
              have hx2 := (ST.out.b.cell (Zi w _ HE2.out)).trans HE2.out
              refine start_ (n := 11) (S := fun w' => w'.cell? ⟨w.heap.size + 3, 0, none⟩ = some (.slice Ao z.length co) ∧ w'.cell? ⟨w.heap.size, 0, none⟩ = some (.slice (some ad) l0_0.length c0_0) ∧ w'.cell? (ad.add (x7.toNat * 3)) = some (.string (rd_T74 l0_0 x7).f0) ∧ w'.cell? ⟨(ad.add (x7.toNat * 3)).block, (ad.add (x7.toNat * 3)).off + 1, none⟩ = some (.slice B1 (rd_T74 l0_0 x7).f1.length d1) ∧ w'.cell? ⟨(ad.add (x7.toNat * 3)).block, (ad.add (x7.toNat * 3)).off + 2, none⟩ = some (.slice B2 (rd_T74 l0_0 x7).f2.length d2)) (ds := [8, 10]) #[false, false, false, false, false, false, false, false, false, false, false] (by kernel_rfl) rfl rfl ⟨ST.out.cell 1 rfl 0 rfl, ST.out.cell 4 rfl 0 rfl, hx0, hx1, hx2⟩ (fun hHeld => ?_)
              generalize w5.drew = w6 at ST hHeld hx0 hx1 hx2 ⊢
              refine SQ.p0 0 44 ?_
              refine SQ.p0 2 46 ?_
              refine SQ.p0 4 48 ?_
              refine SQ.t0 1 45 hHeld ?_
              refine SQ.t0 3 47 hHeld ?_
              refine SQ.p0 5 49 ?_
              refine SQ.t0 6 50 hHeld ?_
              refine one_ (i := 7) (N := some 51) #[true, true, true, true, true, true, true, true, false, false, false] rfl rfl (by kernel_rfl) (by decide) (fun K hK => ?_)
              refine value_ (w1 := ?_) (v := ?_) (by rfl) rfl ?_ ?_
              rotate_left 2
              · go_simp
                constructor
                · rfl
                rfl
              refine hK.out _ _ ⟨(World.cell?_alloc_lt _ _ _ (Zi _ _ hHeld.1)).trans hHeld.1, (World.cell?_alloc_lt _ _ _ (Zi _ _ hHeld.2.1)).trans hHeld.2.1, (World.cell?_alloc_lt _ _ _ (Zi _ _ hHeld.2.2.1)).trans hHeld.2.2.1, (World.cell?_alloc_lt _ _ _ (Zi _ _ hHeld.2.2.2.1)).trans hHeld.2.2.2.1, (World.cell?_alloc_lt _ _ _ (Zi _ _ hHeld.2.2.2.2)).trans hHeld.2.2.2.2⟩ (fun hHeld => ?_)
              clear hK K
              refine norm_ (a' := ?_) ?_ ?_
              rotate_left
              · show Act.put _ (some 51) _ = _
                simp only [Act.put, List.setIfInBounds_toArray, List.set_cons_zero, List.set_cons_succ, i64_w, i32_w]
                rfl
              obtain ⟨rows, hrl, hrow, back⟩ := ST.out.picked 0 rfl
              have HRL := Zh hrl
              have HRW := Zh hrow
              have BK := Zh back
              clear hrl hrow back
              refine last_ (i := 8) (N := some 52) #[true, true, true, true, true, true, true, true, true, false, false] rfl rfl (by kernel_rfl) (by decide) (fun K hK => ?_)
              refine Kd.R_append_step (Kd.raw 3) (w0 := w) w.heap.size (by rfl) (.tmp 45) (.tmp 51) 27 74 (.agg #[(.string ⟨#[]⟩), (.slice none 0 0), (.slice none 0 0)]) 64 rfl Tryd.underlying27 info74 rfl (by decide) (by omega) (.slice Ao z.length co) rows [.string (rd_T74 l0_0 x7).f0, .slice B1 (rd_T74 l0_0 x7).f1.length d1, .slice B2 (rd_T74 l0_0 x7).f2.length d2] [.string (rd_T74 l0_0 x7).f0, .slice B1 (rd_T74 l0_0 x7).f1.length d1, .slice B2 (rd_T74 l0_0 x7).f2.length d2] (fun _ => True) (fun _ => False) (by rfl) (by rfl) ⟨rfl, rfl, k74.K_one HKd.out⟩ (fun _ h => h.elim) (fun _ _ => trivial) HRW.out ST.out.b ST.out.b.size (by have := HRL.out; have := HLM.out; omega) ?_
              intro v1 w2 q1 q2 q3 q4
              obtain ⟨A3, c3, hv⟩ := Kd.R_slice q1
              rw [show (rows ++ [([.string (rd_T74 l0_0 x7).f0, .slice B1 (rd_T74 l0_0 x7).f1.length d1, .slice B2 (rd_T74 l0_0 x7).f2.length d2] : List Value)]).length = z.length + 1 by simp [HRL.out]] at hv
              subst hv
              have ST2 := Zh (BK.out (rd_T74 l0_0 x7) _ _ _ HKd.out q1 q2 q3 q4)
              have hs1 := ST2.out.cell 1 rfl 0 (u := .slice Ao z.length co) rfl
              have hf1 := ST2.out.frozen 1 rfl 0
              have hl1 := ST2.out.lt 1 rfl
              clear q1 q2 q3 q4 hx0 hx1 hx2 hHeld
              refine hK.out _ _ ?_
              clear hK K
              refine norm_ (a' := ?_) ?_ ?_
              rotate_left
              · show Act.put _ (some 52) _ = _
                simp only [Act.put, List.setIfInBounds_toArray, List.set_cons_zero, List.set_cons_succ, i64_w, i32_w]
                rfl
              refine SQ.p0 9 53 ?_
              refine last_ (i := 10) (N := none) #[true, true, true, true, true, true, true, true, true, true, true] rfl rfl (by kernel_rfl) (by decide) (fun K hK => ?_)
              refine skip_ (w1 := ?_) (by rfl) rfl ?_ ?_
              rotate_left
              · go_simp
                rfl
              refine hK.out _ _ ?_
              clear hK K
              refine done_ (by kernel_rfl) ?_
              go_wp2
              replace ST := Zh (ST2.out.set 1 rfl 0 (.slice A3 (z.length + 1) c3))
              go_roundg k2
              case measure => omega
              case rel => exact ⟨_, _, _, A3, c3, rfl, rfl, H', by rw [List.length_append]; exact ST⟩
            rw [if_neg cm] at H; exact absurd H (by simp)
          rw [if_neg p0] at H; exact absurd H (by simp)
      rw [if_neg c7] at H
      have q7 := decide_eq_false c7
      clear c7
      cases x6 with
      | true =>
        rw [if_pos rfl] at H
        obtain ⟨t, HT, H⟩ := Option.bind_eq_some_iff.mp H
        obtain rfl := Option.some.inj H
        replace HT := Zh HT
        clear H
        go_wp2_with fail
        clear hc0 hc1 hc2 hc3 hc4 hl0 hl3 hl4
        with_reducible refine (spec_l03Copy.calls k1 _ _ y t _ (ST.out.picks 0 rfl).2.2 (ST.out.picks 0 rfl).2.1 HT.out).mono ?_
        rintro e w9 ⟨v9, rfl, ho, hb⟩
        obtain ⟨A9, c9, rfl⟩ := Kd.S_slice ho
        replace ST := Zh (ST.out.row hb ho)
        clear hb ho
        have hc6 := ST.out.cell 3 rfl 0 (u := .slice none 0 0) rfl
        have hl6 := ST.out.lt 3 rfl
        have hf6 := ST.out.frozen 3 rfl 0
        go_wp2
        replace ST := Zh (ST.out.set 3 rfl 0 (.slice A9 t.length c9))
        refine Zq (results_cell_row rfl _ _ (w.heap.size + 2) 29 #[.slice A9 t.length c9] (0, 0) _ rfl (ST.out.blk 3 rfl) Tryd.underlying29 rfl (by kernel_rfl)) rfl ?_
        exact ⟨_, rfl, Kd.S_mono (ST.out.own 0 rfl) (fun _ _ => trivial), ST.out.b⟩
      | false =>
        rw [if_neg (by decide)] at H
        by_cases cm : y.length < 2199023255552
        · rw [if_pos cm] at H
          obtain ⟨t, HT, H⟩ := Option.bind_eq_some_iff.mp H
          obtain rfl := Option.some.inj H
          replace HT := Zh HT
          have HLM := Zh cm
          clear H cm
          obtain ⟨rows, hrl, hrow, back⟩ := ST.out.picked 0 rfl
          have HRL := Zh hrl
          have HRW := Zh hrow
          have BK := Zh back
          clear hrl hrow back
          go_wp2_with ((with_reducible refine gate_builtin (b := .append) (xs := #[.tmp 57, .tmp 59]) rfl ?_); at_builtin; refine Kd.R_append (Kd.raw 3) (w0 := w) w.heap.size rfl (.tmp 57) (.tmp 59) 27 74 (.agg #[(.string ⟨#[]⟩), (.slice none 0 0), (.slice none 0 0)]) 64 rfl Tryd.underlying27 info74 rfl (by decide) (by omega) (.slice Ao y.length co) rows [.string a1_0, .slice A1_1 l1_1.length c1_1, .slice A1_2 l1_2.length c1_2] [.string a1_0, .slice A1_1 l1_1.length c1_1, .slice A1_2 l1_2.length c1_2] (fun _ => True) (fun _ => False) rfl rfl ⟨rfl, rfl, k74.K_one HKf.out⟩ (fun _ h => h.elim) (fun _ _ => trivial) HRW.out ST.out.b ST.out.b.size (by have := HRL.out; have := HLM.out; omega) ?_; intro v1 w2 q1 q2 q3 q4; obtain ⟨A3, c3, hv⟩ := Kd.R_slice q1; rw [show (rows ++ [([.string a1_0, .slice A1_1 l1_1.length c1_1, .slice A1_2 l1_2.length c1_2] : List Value)]).length = y.length + 1 by simp [HRL.out]] at hv; subst hv; have ST2 := Zh (BK.out (⟨a1_0, l1_1, l1_2⟩ : S74) _ _ _ HKf.out q1 q2 q3 q4); have hs1 := ST2.out.cell 1 rfl 0 (u := .slice Ao y.length co) rfl; have hf1 := ST2.out.frozen 1 rfl 0; have hl1 := ST2.out.lt 1 rfl; clear hc0 hc1 hc2 hc3 hc4 hl0 hl3 hl4; clear q1 q2 q3 q4)
          replace ST := Zh (ST2.out.set 1 rfl 0 (.slice A3 (y.length + 1) c3))
          have hcall := spec_l03Copy.calls k1 _ c3 (y ++ [(⟨a1_0, l1_1, l1_2⟩ : S74)]) t _ (ST.out.picks 0 rfl).2.2 (by rw [List.length_append]; exact (ST.out.picks 0 rfl).2.1) HT.out
          rw [List.length_append] at hcall
          refine hcall.mono ?_
          clear hcall
          rintro e w9 ⟨v9, rfl, ho, hb⟩
          obtain ⟨A9, c9, rfl⟩ := Kd.S_slice ho
          replace ST := Zh (ST.out.row hb ho)
          clear hb ho
          have hc6 := ST.out.cell 3 rfl 0 (u := .slice none 0 0) rfl
          have hl6 := ST.out.lt 3 rfl
          have hf6 := ST.out.frozen 3 rfl 0
          go_wp2
          replace ST := Zh (ST.out.set 3 rfl 0 (.slice A9 t.length c9))
          refine Zq (results_cell_row rfl _ _ (w.heap.size + 2) 29 #[.slice A9 t.length c9] (0, 0) _ rfl (ST.out.blk 3 rfl) Tryd.underlying29 rfl (by kernel_rfl)) rfl ?_
          exact ⟨_, rfl, Kd.S_mono (ST.out.own 0 rfl) (fun _ _ => trivial), ST.out.b⟩
        rw [if_neg cm] at H; exact absurd H (by simp)
def spec_AppendFile.fin (k : Nat) (l0_0 : List S74) (a1 : ByteArray) (d f1 f2 : List Int) : Option (List S74 × Bool) := if (d.length : Int) > wrap64 (wrap64 (20000 - (f1.length : Int)) - (f2.length : Int)) then (spec_l03Copy.f k l0_0).bind fun o => some (o, false) else (spec_l01Join.f k f2 d).bind fun e => (spec_l03Put.f k l0_0 a1 f1 e).bind fun r => some (r, true)
def spec_AppendFile.f (k : Nat) (l0_0 : List S74) (a1 : ByteArray) (d : List Int) : Option (List S74 × Bool) := (spec_l03Find.f k l0_0 a1).bind fun i => (spec_DiskOk.f k l0_0).bind fun t => if t = true then (spec_l01Name.f k a1).bind fun n => if n = true then (if 0 ≤ i then (if i < (l0_0.length : Int) then spec_AppendFile.fin k l0_0 (rd_T74 l0_0 i).f0 d (rd_T74 l0_0 i).f1 (rd_T74 l0_0 i).f2 else none) else (if (l0_0.length : Int) = 8 then (spec_l03Copy.f k l0_0).bind fun o => some (o, false) else spec_AppendFile.fin k l0_0 a1 d [] [])) else (spec_l03Copy.f k l0_0).bind fun o => some (o, false) else (spec_l03Copy.f k l0_0).bind fun o => some (o, false)
set_option maxHeartbeats 8000000 in
set_option maxRecDepth 100000 in
theorem spec_AppendFile.calls (k : Nat) (A0_0 : Option Addr) (c0_0 : Nat) (l0_0 : List (S74)) (a1 : ByteArray) (A2 : Option Addr) (c2 : Nat) (l2 : List Int) (r1 : List (S74)) (r2 : Bool) (w : World) (hr0_0 : Kd.C k74 w A0_0 l0_0.length l0_0) (hc0_0 : l0_0.length ≤ c0_0) (hr2 : Kd.C (Kd.int .u8) w A2 l2.length l2) (hc2 : l2.length ≤ c2) (h : spec_AppendFile.f k l0_0 a1 l2 = some (r1, r2)) :
    Calls Tryd.prog 37 #[.agg #[.slice A0_0 l0_0.length c0_0], .string a1, .slice A2 l2.length c2] w fun e w' => ∃ v0_ : Value, e = .returned (.tuple #[.agg #[v0_], .bool r2]) ∧ Kd.S k74 74 w' w.heap.size (fun _ => True) v0_ r1 ∧ Below w.heap.size w w' := by
  have HR := Zh hr0_0
  have HC := Zh hc0_0
  have HR2 := Zh hr2
  have HC2 := Zh hc2
  clear hr0_0 hc0_0 hr2 hc2
  have ST := Zh (LW.St.start w)
  have hu74 := Tryd.underlying74
  have hu29 := Tryd.underlying29
  unfold spec_AppendFile.f at h
  replace h := Option.bind_eq_some_iff.mp h
  obtain ⟨i, HA1, h⟩ := h
  replace h := Option.bind_eq_some_iff.mp h
  obtain ⟨t, HA2, h⟩ := h
  replace HA1 := Zh HA1
  replace HA2 := Zh HA2
  have H := Zh h
  clear h
  go_enter Tryd.func37, Tryd.ntmps37
  go_wp2_with fail
  replace ST := Zh (ST.out.alloc #[.slice A0_0 l0_0.length c0_0] 29 (g := w.heap.size) rfl)
  replace ST := Zh (ST.out.alloc #[.slice none 0 0] 29 (g := w.heap.size + 1) (by simp))
  replace ST := Zh (ST.out.alloc #[.string a1, .slice none 0 0, .slice none 0 0] 74 (g := w.heap.size + 2) (by simp))
  with_reducible refine (spec_l03Find.calls k _ _ l0_0 a1 i _ (Kd.C_below HR.out ST.out.b) HC.out HA1.out).mono ?_
  rintro e w2 ⟨rfl, hb⟩
  replace ST := Zh (ST.out.step hb)
  clear hb
  have hc1 := ST.out.cell 2 rfl 0 (u := .slice A0_0 l0_0.length c0_0) rfl
  have hl1 := ST.out.lt 2 rfl
  go_wp2_with fail
  with_reducible refine (spec_DiskOk.calls k _ _ l0_0 t _ (Kd.C_below HR.out ST.out.b) HC.out HA2.out).mono ?_
  rintro e w3 ⟨rfl, hb⟩
  replace ST := Zh (ST.out.step hb)
  clear hb hc1 hl1
  have hc1 := ST.out.cell 2 rfl 0 (u := .slice A0_0 l0_0.length c0_0) rfl
  have hl1 := ST.out.lt 2 rfl
  have h := H.out
  clear H
  by_cases ct : t = true
  · subst ct
    rw [if_pos rfl] at h
    replace h := Option.bind_eq_some_iff.mp h
    obtain ⟨n, HA3, h⟩ := h
    replace HA3 := Zh HA3
    have H := Zh h
    clear h
    go_wp2_with fail
    with_reducible refine (spec_l01Name.calls k a1 n _ HA3.out).mono ?_
    rintro e w4 ⟨rfl, nd, rfl⟩
    replace ST := Zh (ST.out.step (Zd (Below.refl _ _) nd))
    generalize w3.drewN nd = w4 at ST ⊢
    clear hc1 hl1
    have hc1 := ST.out.cell 2 rfl 0 (u := .slice A0_0 l0_0.length c0_0) rfl
    have hl1 := ST.out.lt 2 rfl
    have h := H.out
    clear H
    by_cases cn : n = true
    · subst cn
      rw [if_pos rfl] at h
      by_cases ci : 0 ≤ i
      · rw [if_pos ci] at h
        have cib : decide (0 ≤ i) = true := decide_eq_true ci
        by_cases cl : i < (l0_0.length : Int)
        · rw [if_pos cl] at h
          obtain ⟨ad, B1, d1, B2, d2, e0, hx0, hx1, hx2, hl1', hi1, hl2', hi2⟩ := at_T74 HR.out i ci cl
          cases e0
          have HI1 := Zh hi1
          have HI2 := Zh hi2
          have HL1 := Zh hl1'
          have HL2 := Zh hl2'
          clear hi1 hi2 hl1' hl2'
          replace hx0 := (ST.out.b.cell (Zi w _ hx0)).trans hx0
          replace hx1 := (ST.out.b.cell (Zi w _ hx1)).trans hx1
          replace hx2 := (ST.out.b.cell (Zi w _ hx2)).trans hx2
          have p0 := eq_true ci
          have p1 := eq_true cl
          have hd0 := ST.out.cell 0 rfl 0 (u := .string a1) rfl
          have hd1 := ST.out.cell 0 rfl 1 (u := .slice none 0 0) rfl
          have hd2 := ST.out.cell 0 rfl 2 (u := .slice none 0 0) rfl
          have hdl := ST.out.lt 0 rfl
          have hf0 := ST.out.frozen 0 rfl 0
          have hf1 := ST.out.frozen 0 rfl 1
          have hf2 := ST.out.frozen 0 rfl 2
          have hne := ST.out.ne 0 2 (by decide) rfl rfl
          have hne' := hne.symm
          clear ci cl
          go_upto_region 9 with (fail)
          replace ST := Zh (ST.out.set 0 rfl 0 (.string (rd_T74 l0_0 i).f0))
          replace ST := Zh (ST.out.set 0 rfl 1 (.slice B1 (rd_T74 l0_0 i).f1.length d1))
          replace ST := Zh (ST.out.set 0 rfl 2 (.slice B2 (rd_T74 l0_0 i).f2.length d2))
          clear hx0 hx1 hx2 p0 p1 hd0 hd1 hd2 hdl hf0 hf1 hf2 hne hne' hc1 hl1
          generalize (((w4.setCell ⟨w.heap.size + 2, 0, none⟩ (.string (rd_T74 l0_0 i).f0)).setCell ⟨w.heap.size + 2, 1, none⟩ (.slice B1 (rd_T74 l0_0 i).f1.length d1)).setCell ⟨w.heap.size + 2, 2, none⟩ (.slice B2 (rd_T74 l0_0 i).f2.length d2)) = w5 at ST ⊢
          unfold spec_AppendFile.fin at h
          have hc1 := ST.out.cell 2 rfl 0 (u := .slice (some ad) l0_0.length c0_0) rfl
          have hl1 := ST.out.lt 2 rfl
          have hg1 := ST.out.cell 0 rfl 1 (u := .slice B1 ((rd_T74 l0_0 i).f1).length d1) rfl
          have hg2 := ST.out.cell 0 rfl 2 (u := .slice B2 ((rd_T74 l0_0 i).f2).length d2) rfl
          have hgl := ST.out.lt 0 rfl
          by_cases cg : (l2.length : Int) > wrap64 (wrap64 (20000 - (((rd_T74 l0_0 i).f1).length : Int)) - (((rd_T74 l0_0 i).f2).length : Int))
          · rw [if_pos cg] at h
            have cgb : decide (wrap64 (wrap64 (20000 - (((rd_T74 l0_0 i).f1).length : Int)) - (((rd_T74 l0_0 i).f2).length : Int)) < (l2.length : Int)) = true := decide_eq_true cg
            clear cg
            replace h := Option.bind_eq_some_iff.mp h
            obtain ⟨o, HAo, h⟩ := h
            obtain ⟨rfl, rfl⟩ := Prod.mk.inj (Option.some.inj h)
            clear h
            replace HAo := Zh HAo
            go_wp2_with fail
            with_reducible refine (spec_l03Copy.calls k _ _ l0_0 o _ (Kd.C_below HR.out ST.out.b) HC.out HAo.out).mono ?_
            rintro e w9 ⟨v9, rfl, ho, hb⟩
            obtain ⟨A9, c9, rfl⟩ := Kd.S_slice ho
            replace ST := Zh (ST.out.row hb ho)
            clear hb ho hc1 hl1
            have hc2 := ST.out.cell 2 rfl 0 (u := .slice none 0 0) rfl
            have hl2 := ST.out.lt 2 rfl
            have hf2 := ST.out.frozen 2 rfl 0
            go_wp2
            replace ST := Zh (ST.out.set 2 rfl 0 (.slice A9 o.length c9))
            refine Zq (results_ct rfl _ _ (w.heap.size + 1) 29 #[.slice A9 o.length c9] (0, 0) _ rfl (ST.out.blk 2 rfl) Tryd.underlying29 rfl (by kernel_rfl)) rfl ?_
            exact ⟨_, rfl, Kd.S_mono (ST.out.own 0 rfl) (fun _ _ => trivial), ST.out.b⟩
          rw [if_neg cg] at h
          have cgb : decide (wrap64 (wrap64 (20000 - (((rd_T74 l0_0 i).f1).length : Int)) - (((rd_T74 l0_0 i).f2).length : Int)) < (l2.length : Int)) = false := decide_eq_false cg
          clear cg
          replace h := Option.bind_eq_some_iff.mp h
          obtain ⟨e, HB1, h⟩ := h
          replace h := Option.bind_eq_some_iff.mp h
          obtain ⟨r, HB2, h⟩ := h
          obtain ⟨rfl, rfl⟩ := Prod.mk.inj (Option.some.inj h)
          clear h
          replace HB1 := Zh HB1
          replace HB2 := Zh HB2
          go_wp2_with fail
          refine (spec_l01Join.calls k _ _ ((rd_T74 l0_0 i).f2) _ _ l2 e _ (Kd.C_below HI2.out ST.out.b) HL2.out (Kd.C_below HR2.out ST.out.b) HC2.out HB1.out).mono ?_
          rintro e_ w6 ⟨v6, rfl, ho, hb⟩
          obtain ⟨A6, c6, rfl⟩ := Kd.R_slice ho
          replace ST := Zh (ST.out.rowR rfl hb ho)
          clear hb ho hc1 hl1 hg1 hg2 hgl
          have hc1 := ST.out.cell 3 rfl 0 (u := .slice (some ad) l0_0.length c0_0) rfl
          have hl1 := ST.out.lt 3 rfl
          have hg0 := ST.out.cell 1 rfl 0 (u := .string (rd_T74 l0_0 i).f0) rfl
          have hg1 := ST.out.cell 1 rfl 1 (u := .slice B1 ((rd_T74 l0_0 i).f1).length d1) rfl
          have hg2 := ST.out.cell 1 rfl 2 (u := .slice B2 ((rd_T74 l0_0 i).f2).length d2) rfl
          have hgl := ST.out.lt 1 rfl
          have hgf := ST.out.frozen 1 rfl 2
          have hne := ST.out.ne 1 3 (by decide) rfl rfl
          have hne' := hne.symm
          go_wp2_with fail
          replace ST := Zh (ST.out.set 1 rfl 2 (.slice A6 e.length c6))
          generalize hW : w6.setCell ⟨w.heap.size + 2, 2, none⟩ (.slice A6 e.length c6) = w7 at ST ⊢
          clear hW hc1 hl1 hg0 hg1 hg2 hgl hgf hne hne'
          refine (spec_l03Put.calls k _ _ l0_0 (rd_T74 l0_0 i).f0 _ _ ((rd_T74 l0_0 i).f1) _ _ e r _ (Kd.C_below HR.out ST.out.b) HC.out (Kd.C_below HI1.out ST.out.b) HL1.out (ST.out.reads 0 rfl).2.2 (ST.out.reads 0 rfl).2.1 HB2.out).mono ?_
          rintro e_ w8 ⟨v8, rfl, ho, hb⟩
          obtain ⟨A8, c8, rfl⟩ := Kd.S_slice ho
          replace ST := Zh (ST.out.row hb ho)
          clear hb ho
          have hc2 := ST.out.cell 3 rfl 0 (u := .slice none 0 0) rfl
          have hl2 := ST.out.lt 3 rfl
          have hf2 := ST.out.frozen 3 rfl 0
          go_wp2
          replace ST := Zh (ST.out.set 3 rfl 0 (.slice A8 r.length c8))
          refine Zq (results_ct rfl _ _ (w.heap.size + 1) 29 #[.slice A8 r.length c8] (0, 0) _ rfl (ST.out.blk 3 rfl) Tryd.underlying29 rfl (by kernel_rfl)) rfl ?_
          exact ⟨_, rfl, Kd.S_mono (ST.out.own 0 rfl) (fun _ _ => trivial), ST.out.b⟩
        rw [if_neg cl] at h; exact absurd h (by simp)
      rw [if_neg ci] at h
      have cib : decide (0 ≤ i) = false := decide_eq_false ci
      by_cases c8 : (l0_0.length : Int) = 8
      · rw [if_pos c8] at h
        have c8b : ((l0_0.length : Int) == 8) = true := beq_iff_eq.mpr c8
        clear c8
        replace h := Option.bind_eq_some_iff.mp h
        obtain ⟨o, HAo, h⟩ := h
        obtain ⟨rfl, rfl⟩ := Prod.mk.inj (Option.some.inj h)
        clear h
        replace HAo := Zh HAo
        go_wp2_with fail
        with_reducible refine (spec_l03Copy.calls k _ _ l0_0 o _ (Kd.C_below HR.out ST.out.b) HC.out HAo.out).mono ?_
        rintro e w9 ⟨v9, rfl, ho, hb⟩
        obtain ⟨A9, c9, rfl⟩ := Kd.S_slice ho
        replace ST := Zh (ST.out.row hb ho)
        clear hb ho hc1 hl1
        have hc2 := ST.out.cell 2 rfl 0 (u := .slice none 0 0) rfl
        have hl2 := ST.out.lt 2 rfl
        have hf2 := ST.out.frozen 2 rfl 0
        go_wp2
        replace ST := Zh (ST.out.set 2 rfl 0 (.slice A9 o.length c9))
        refine Zq (results_ct rfl _ _ (w.heap.size + 1) 29 #[.slice A9 o.length c9] (0, 0) _ rfl (ST.out.blk 2 rfl) Tryd.underlying29 rfl (by kernel_rfl)) rfl ?_
        exact ⟨_, rfl, Kd.S_mono (ST.out.own 0 rfl) (fun _ _ => trivial), ST.out.b⟩
      rw [if_neg c8] at h
      have c8b : ((l0_0.length : Int) == 8) = false := beq_eq_false_iff_ne.mpr c8
      clear c8
      have HI1 := Zh (Kd.C_nil (Kd.int .u8) w)
      have HI2 := HI1
      have HL1 := Zh (show ([] : List Int).length ≤ 0 from Nat.le_refl _)
      have HL2 := HL1
      unfold spec_AppendFile.fin at h
      have hc1 := ST.out.cell 2 rfl 0 (u := .slice A0_0 l0_0.length c0_0) rfl
      have hl1 := ST.out.lt 2 rfl
      have hg1 := ST.out.cell 0 rfl 1 (u := .slice none (([] : List Int)).length 0) rfl
      have hg2 := ST.out.cell 0 rfl 2 (u := .slice none (([] : List Int)).length 0) rfl
      have hgl := ST.out.lt 0 rfl
      by_cases cg : (l2.length : Int) > wrap64 (wrap64 (20000 - ((([] : List Int)).length : Int)) - ((([] : List Int)).length : Int))
      · rw [if_pos cg] at h
        have cgb : decide (wrap64 (wrap64 (20000 - ((([] : List Int)).length : Int)) - ((([] : List Int)).length : Int)) < (l2.length : Int)) = true := decide_eq_true cg
        have cgp : (20000 : Int) < (l2.length : Int) := by simpa [wrap64] using cg
        have cgq := eq_true cgp
        clear cg
        replace h := Option.bind_eq_some_iff.mp h
        obtain ⟨o, HAo, h⟩ := h
        obtain ⟨rfl, rfl⟩ := Prod.mk.inj (Option.some.inj h)
        clear h
        replace HAo := Zh HAo
        go_wp2_with fail
        with_reducible refine (spec_l03Copy.calls k _ _ l0_0 o _ (Kd.C_below HR.out ST.out.b) HC.out HAo.out).mono ?_
        rintro e w9 ⟨v9, rfl, ho, hb⟩
        obtain ⟨A9, c9, rfl⟩ := Kd.S_slice ho
        replace ST := Zh (ST.out.row hb ho)
        clear hb ho hc1 hl1
        have hc2 := ST.out.cell 2 rfl 0 (u := .slice none 0 0) rfl
        have hl2 := ST.out.lt 2 rfl
        have hf2 := ST.out.frozen 2 rfl 0
        go_wp2
        replace ST := Zh (ST.out.set 2 rfl 0 (.slice A9 o.length c9))
        refine Zq (results_ct rfl _ _ (w.heap.size + 1) 29 #[.slice A9 o.length c9] (0, 0) _ rfl (ST.out.blk 2 rfl) Tryd.underlying29 rfl (by kernel_rfl)) rfl ?_
        exact ⟨_, rfl, Kd.S_mono (ST.out.own 0 rfl) (fun _ _ => trivial), ST.out.b⟩
      rw [if_neg cg] at h
      have cgb : decide (wrap64 (wrap64 (20000 - ((([] : List Int)).length : Int)) - ((([] : List Int)).length : Int)) < (l2.length : Int)) = false := decide_eq_false cg
      have cgp : ¬ (20000 : Int) < (l2.length : Int) := by simpa [wrap64] using cg
      have cgr : (l2.length : Int) ≤ 20000 := by omega
      clear cg
      replace h := Option.bind_eq_some_iff.mp h
      obtain ⟨e, HB1, h⟩ := h
      replace h := Option.bind_eq_some_iff.mp h
      obtain ⟨r, HB2, h⟩ := h
      obtain ⟨rfl, rfl⟩ := Prod.mk.inj (Option.some.inj h)
      clear h
      replace HB1 := Zh HB1
      replace HB2 := Zh HB2
      go_wp2_with fail
      refine (spec_l01Join.calls k _ _ (([] : List Int)) _ _ l2 e _ (Kd.C_below HI2.out ST.out.b) HL2.out (Kd.C_below HR2.out ST.out.b) HC2.out HB1.out).mono ?_
      rintro e_ w6 ⟨v6, rfl, ho, hb⟩
      obtain ⟨A6, c6, rfl⟩ := Kd.R_slice ho
      replace ST := Zh (ST.out.rowR rfl hb ho)
      clear hb ho hc1 hl1 hg1 hg2 hgl
      have hc1 := ST.out.cell 3 rfl 0 (u := .slice A0_0 l0_0.length c0_0) rfl
      have hl1 := ST.out.lt 3 rfl
      have hg0 := ST.out.cell 1 rfl 0 (u := .string a1) rfl
      have hg1 := ST.out.cell 1 rfl 1 (u := .slice none (([] : List Int)).length 0) rfl
      have hg2 := ST.out.cell 1 rfl 2 (u := .slice none (([] : List Int)).length 0) rfl
      have hgl := ST.out.lt 1 rfl
      have hgf := ST.out.frozen 1 rfl 2
      have hne := ST.out.ne 1 3 (by decide) rfl rfl
      have hne' := hne.symm
      go_wp2_with fail
      replace ST := Zh (ST.out.set 1 rfl 2 (.slice A6 e.length c6))
      generalize hW : w6.setCell ⟨w.heap.size + 2, 2, none⟩ (.slice A6 e.length c6) = w7 at ST ⊢
      clear hW hc1 hl1 hg0 hg1 hg2 hgl hgf hne hne'
      refine (spec_l03Put.calls k _ _ l0_0 a1 _ _ (([] : List Int)) _ _ e r _ (Kd.C_below HR.out ST.out.b) HC.out (Kd.C_below HI1.out ST.out.b) HL1.out (ST.out.reads 0 rfl).2.2 (ST.out.reads 0 rfl).2.1 HB2.out).mono ?_
      rintro e_ w8 ⟨v8, rfl, ho, hb⟩
      obtain ⟨A8, c8, rfl⟩ := Kd.S_slice ho
      replace ST := Zh (ST.out.row hb ho)
      clear hb ho
      have hc2 := ST.out.cell 3 rfl 0 (u := .slice none 0 0) rfl
      have hl2 := ST.out.lt 3 rfl
      have hf2 := ST.out.frozen 3 rfl 0
      go_wp2
      replace ST := Zh (ST.out.set 3 rfl 0 (.slice A8 r.length c8))
      refine Zq (results_ct rfl _ _ (w.heap.size + 1) 29 #[.slice A8 r.length c8] (0, 0) _ rfl (ST.out.blk 3 rfl) Tryd.underlying29 rfl (by kernel_rfl)) rfl ?_
      exact ⟨_, rfl, Kd.S_mono (ST.out.own 0 rfl) (fun _ _ => trivial), ST.out.b⟩
    rw [if_neg cn] at h
    obtain rfl : n = false := by simpa using cn
    clear cn
    replace h := Option.bind_eq_some_iff.mp h
    obtain ⟨o, HAo, h⟩ := h
    obtain ⟨rfl, rfl⟩ := Prod.mk.inj (Option.some.inj h)
    clear h
    replace HAo := Zh HAo
    go_wp2_with fail
    with_reducible refine (spec_l03Copy.calls k _ _ l0_0 o _ (Kd.C_below HR.out ST.out.b) HC.out HAo.out).mono ?_
    rintro e w9 ⟨v9, rfl, ho, hb⟩
    obtain ⟨A9, c9, rfl⟩ := Kd.S_slice ho
    replace ST := Zh (ST.out.row hb ho)
    clear hb ho hc1 hl1
    have hc2 := ST.out.cell 2 rfl 0 (u := .slice none 0 0) rfl
    have hl2 := ST.out.lt 2 rfl
    have hf2 := ST.out.frozen 2 rfl 0
    go_wp2
    replace ST := Zh (ST.out.set 2 rfl 0 (.slice A9 o.length c9))
    refine Zq (results_ct rfl _ _ (w.heap.size + 1) 29 #[.slice A9 o.length c9] (0, 0) _ rfl (ST.out.blk 2 rfl) Tryd.underlying29 rfl (by kernel_rfl)) rfl ?_
    exact ⟨_, rfl, Kd.S_mono (ST.out.own 0 rfl) (fun _ _ => trivial), ST.out.b⟩
  rw [if_neg ct] at h
  obtain rfl : t = false := by simpa using ct
  clear ct
  replace h := Option.bind_eq_some_iff.mp h
  obtain ⟨o, HAo, h⟩ := h
  obtain ⟨rfl, rfl⟩ := Prod.mk.inj (Option.some.inj h)
  clear h
  replace HAo := Zh HAo
  go_wp2_with fail
  with_reducible refine (spec_l03Copy.calls k _ _ l0_0 o _ (Kd.C_below HR.out ST.out.b) HC.out HAo.out).mono ?_
  rintro e w9 ⟨v9, rfl, ho, hb⟩
  obtain ⟨A9, c9, rfl⟩ := Kd.S_slice ho
  replace ST := Zh (ST.out.row hb ho)
  clear hb ho hc1 hl1
  have hc2 := ST.out.cell 2 rfl 0 (u := .slice none 0 0) rfl
  have hl2 := ST.out.lt 2 rfl
  have hf2 := ST.out.frozen 2 rfl 0
  go_wp2
  replace ST := Zh (ST.out.set 2 rfl 0 (.slice A9 o.length c9))
  refine Zq (results_ct rfl _ _ (w.heap.size + 1) 29 #[.slice A9 o.length c9] (0, 0) _ rfl (ST.out.blk 2 rfl) Tryd.underlying29 rfl (by kernel_rfl)) rfl ?_
  exact ⟨_, rfl, Kd.S_mono (ST.out.own 0 rfl) (fun _ _ => trivial), ST.out.b⟩
end Go.Proofs.YtmgeffgcihfpcaaDoor.F

namespace Go.Proofs.YtmgeffgcihfpcaaDoor.F
open Go.Proofs.YtmgeffgcihfpcaaDoor
open Go.RowKit Go.Proofs.YtmgeffgcihfpcaaDoorW.PrintWords Go.Proofs.YtmgeffgcihfpcaaDoorW.PrintWords.Kd Go.Proofs.YtmgeffgcihfpcaaDoorW.PrintMore.Kd Go.Proofs.YtmgeffgcihfpcaaDoorW.PrintLast Go.Proofs.YtmgeffgcihfpcaaDoorW.PrintMore
attribute [local go_sem] max2_int min2_int max_two min_two max_three min_three max_four min_four   -- for this text's walks alone
set_option linter.unusedVariables false
set_option linter.unusedSimpArgs false
def spec_Content.f (k : Nat) (l0_0 : List (S74)) (a1 : ByteArray) : Option (List Int × Bool) := (spec_l03Find.f k l0_0 a1).bind fun t189 => ((spec_DiskOk.f k l0_0).bind fun t190 => (if t190 = true then (if t189 < 0 then (some (([] : List Int), false)) else (if 0 ≤ t189 then (if t189 < (l0_0.length : Int) then ((spec_l01Join.f k ((rd_T74 l0_0 t189).f1) ((rd_T74 l0_0 t189).f2)).bind fun t193 => (some (t193, true))) else (none)) else (none))) else (some (([] : List Int), false))))
def spec_Content.T4 : Bool × List (List Nat × List Nat) := (true, [([], []), ([0], [0]), ([], []), ([1, 2], [1, 2]), ([3], [3]), ([4], [4]), ([], []), ([6], [6]), ([], []), ([7, 8], [7, 8]), ([9], [9]), ([10], [10]), ([5, 11], [5, 11]), ([12, 12, 0, 1, 2, 3, 4, 5, 6, 7, 8, 9, 10, 11, 12], [12]), ([13, 0, 1, 2, 3, 4, 5, 6, 7, 8, 9, 10, 11, 12, 13], [])])
def spec_Content.B4 : List Nat := [0, 1, 0, 7, 15, 31, 0, 64, 0, 448, 960, 1984, 4095, 8191, 16383]
theorem spec_Content.tab4 : rtab .any (opsOf Tryd.f19 4) = spec_Content.T4 := by kernel_rfl
theorem spec_Content.bits4 : waitsOk spec_Content.T4.2 spec_Content.B4 = true := by kernel_rfl
set_option maxHeartbeats 8000000 in
set_option maxRecDepth 100000 in
theorem spec_Content.calls (k : Nat) (A0_0 : Option Addr) (c0_0 : Nat) (l0_0 : List (S74)) (a1 : ByteArray) (r1 : List Int) (r2 : Bool) (w : World) (hr0_0 : Kd.C k74 w A0_0 l0_0.length l0_0) (hc0_0 : l0_0.length ≤ c0_0) (h : spec_Content.f k l0_0 a1 = some (r1, r2)) :
  Calls Tryd.prog 19 #[.agg #[.slice A0_0 l0_0.length c0_0], .string a1] w fun e w' => ∃ v0_ : Value, e = .returned (.tuple #[v0_, .bool r2]) ∧ Kd.R (Kd.int .u8) 5 w' w.heap.size (fun _ => True) v0_ r1 ∧ Below w.heap.size w w' := by
 have hu29 := Tryd.underlying29
 have HR0_0 := Zh hr0_0
 have HC0_0 := Zh hc0_0
 clear hr0_0 hc0_0
 have HB := Zh (Below.refl w.heap.size w)
 have H : ((spec_l03Find.f k l0_0 a1).bind fun t189 => ((spec_DiskOk.f k l0_0).bind fun t190 => (if t190 = true then (if t189 < 0 then (some (([] : List Int), false)) else (if 0 ≤ t189 then (if t189 < (l0_0.length : Int) then ((spec_l01Join.f k ((rd_T74 l0_0 t189).f1) ((rd_T74 l0_0 t189).f2)).bind fun t193 => (some (t193, true))) else (none)) else (none))) else (some (([] : List Int), false))))) = some (r1, r2) := h
 clear h
 replace H := Option.bind_eq_some_iff.mp H
 obtain ⟨t189, A30, H⟩ := H
 replace H : ((spec_DiskOk.f k l0_0).bind fun t190 => (if t190 = true then (if t189 < 0 then (some (([] : List Int), false)) else (if 0 ≤ t189 then (if t189 < (l0_0.length : Int) then ((spec_l01Join.f k ((rd_T74 l0_0 t189).f1) ((rd_T74 l0_0 t189).f2)).bind fun t193 => (some (t193, true))) else (none)) else (none))) else (some (([] : List Int), false)))) = some (r1, r2) := H
 have A3 := Zh A30
 clear A30
 replace H := Option.bind_eq_some_iff.mp H
 obtain ⟨t190, A40, H⟩ := H
 replace H : (if t190 = true then (if t189 < 0 then (some (([] : List Int), false)) else (if 0 ≤ t189 then (if t189 < (l0_0.length : Int) then ((spec_l01Join.f k ((rd_T74 l0_0 t189).f1) ((rd_T74 l0_0 t189).f2)).bind fun t193 => (some (t193, true))) else (none)) else (none))) else (some (([] : List Int), false))) = some (r1, r2) := H
 have A4 := Zh A40
 clear A40
 by_cases c5 : t190 = true
 ·
  subst c5
  have H1 : (if t189 < 0 then (some (([] : List Int), false)) else (if 0 ≤ t189 then (if t189 < (l0_0.length : Int) then ((spec_l01Join.f k ((rd_T74 l0_0 t189).f1) ((rd_T74 l0_0 t189).f2)).bind fun t193 => (some (t193, true))) else (none)) else (none))) = some (r1, r2) := by rw [if_pos rfl] at H; exact H
  clear H
  have H := H1
  clear H1
  by_cases c6 : t189 < 0
  ·
   rw [if_pos c6] at H
   have c6b0 : decide (t189 < 0) = true := decide_eq_true c6
   clear c6
   simp only [Option.some.injEq, Prod.mk.injEq] at H
   obtain ⟨rfl, rfl⟩ := H
   go_enter Tryd.func19, Tryd.ntmps19
   go_wp2_with (first | ((with_reducible refine gate_dst (N := 2) rfl ?_); refine box_event ?hg (N := 2) ?hd (cs := #[.slice A0_0 l0_0.length c0_0]) (t := 29) ?hr ?_; (case hd => rfl); (case hg => rfl); (case hr => first | (go_simp; done) | (go_simp; rfl)); intro gb188 hg w7 hbox hb; have BK188 := Zh (hbox); have GW188 := Zh ((by rw [hg]; exact (below_size Zs) : w.heap.size ≤ gb188)); have GE188 := Zh ((by rw [hg]; exact (below_size Zs) : w.heap.size ≤ gb188)); replace HB := Zh (Zl Zs hb); clear hb hbox hg; have hcz8_0 : w7.cell? ⟨gb188, 0, none⟩ = some (.slice A0_0 l0_0.length c0_0) := (blk_cell BK188.out 0).trans rfl; have hfz8_0 := Zn BK188.out 0) | ((with_reducible refine gate_callee (f := 61) rfl ?_); refine ZG (some 9) Tryd.func61 #[.agg #[.slice A0_0 l0_0.length c0_0], .string a1] rfl ?_; (with_reducible refine (spec_l03Find.calls k _ _ l0_0 a1 t189 _ ?side1 ?side2 A3.out).mono ?_); (case side1 => repeat (first | exact (C_below HR0_0.out HB.out) | (with_reducible refine C_alloc ?_ _) | (with_reducible refine C_drewN ?_ _) | (with_reducible refine C_drew ?_))); (case side2 => exact HC0_0.out); rintro e w9 ⟨rfl, hb⟩; refine ⟨_, rfl, ?_⟩; replace BK188 := Zh (Zm (g := gb188) (o := .cells #[.slice A0_0 l0_0.length c0_0] 29 (0, 0)) Zk hb); replace HB := Zh (Zl Zs hb); (try clear hb); (try clear hb2); (try clear hk); (try clear hi); have hcz10_0 : w9.cell? ⟨gb188, 0, none⟩ = some (.slice A0_0 l0_0.length c0_0) := (blk_cell BK188.out 0).trans rfl; have hfz10_0 := Zn BK188.out 0) | ((with_reducible refine gate_callee (f := 15) rfl ?_); refine ZG (some 11) Tryd.func15 #[.agg #[.slice A0_0 l0_0.length c0_0]] rfl ?_; (with_reducible refine (spec_DiskOk.calls k _ _ l0_0 true _ ?side1 ?side2 A4.out).mono ?_); (case side1 => repeat (first | exact (C_below HR0_0.out HB.out) | (with_reducible refine C_alloc ?_ _) | (with_reducible refine C_drewN ?_ _) | (with_reducible refine C_drew ?_))); (case side2 => exact HC0_0.out); rintro e w11 ⟨rfl, hb⟩; refine ⟨_, rfl, ?_⟩; replace BK188 := Zh (Zm (g := gb188) (o := .cells #[.slice A0_0 l0_0.length c0_0] 29 (0, 0)) Zk hb); replace HB := Zh (Zl Zs hb); (try clear hb); (try clear hb2); (try clear hk); (try clear hi)))
   go_ret2
   exact ⟨_, ZE, by first | exact R_nil _ _ _ _ _ | exact N_nil _ _ _ _ _ | exact V_nil _ _ _ _ _ | exact Q_nil _ _ _ _ _ | exact S_nil _ _ _ _ _, Zs⟩
  rw [if_neg c6] at H
  have c6b0 : decide (t189 < 0) = false := decide_eq_false c6
  clear c6
  by_cases c12 : 0 ≤ t189
  ·
   rw [if_pos c12] at H
   have c12b0 : decide (0 ≤ t189) = true := decide_eq_true c12
   clear c12
   by_cases c13 : t189 < (l0_0.length : Int)
   ·
    rw [if_pos c13] at H
    have c13b0 : decide (t189 < (l0_0.length : Int)) = true := decide_eq_true c13
    clear c13
    replace H := Option.bind_eq_some_iff.mp H
    obtain ⟨t193, A140, H⟩ := H
    replace H : (some (t193, true)) = some (r1, r2) := H
    have A14 := Zh A140
    clear A140
    simp only [Option.some.injEq, Prod.mk.injEq] at H
    obtain ⟨rfl, rfl⟩ := H
    go_enter Tryd.func19, Tryd.ntmps19
    try go_wp2_with (first | ((with_reducible refine gate_dst (N := 2) rfl ?_); refine box_event ?hg (N := 2) ?hd (cs := #[.slice A0_0 l0_0.length c0_0]) (t := 29) ?hr ?_; (case hd => rfl); (case hg => rfl); (case hr => first | (go_simp; done) | (go_simp; rfl)); intro gb188 hg w15 hbox hb; have BK188 := Zh (hbox); have GW188 := Zh ((by rw [hg]; exact (below_size Zs) : w.heap.size ≤ gb188)); have GE188 := Zh ((by rw [hg]; exact (below_size Zs) : w.heap.size ≤ gb188)); replace HB := Zh (Zl Zs hb); clear hb hbox hg; have hcz16_0 : w15.cell? ⟨gb188, 0, none⟩ = some (.slice A0_0 l0_0.length c0_0) := (blk_cell BK188.out 0).trans rfl; have hfz16_0 := Zn BK188.out 0) | ((with_reducible refine gate_callee (f := 61) rfl ?_); refine ZG (some 9) Tryd.func61 #[.agg #[.slice A0_0 l0_0.length c0_0], .string a1] rfl ?_; (with_reducible refine (spec_l03Find.calls k _ _ l0_0 a1 t189 _ ?side1 ?side2 A3.out).mono ?_); (case side1 => repeat (first | exact (C_below HR0_0.out HB.out) | (with_reducible refine C_alloc ?_ _) | (with_reducible refine C_drewN ?_ _) | (with_reducible refine C_drew ?_))); (case side2 => exact HC0_0.out); rintro e w17 ⟨rfl, hb⟩; refine ⟨_, rfl, ?_⟩; replace BK188 := Zh (Zm (g := gb188) (o := .cells #[.slice A0_0 l0_0.length c0_0] 29 (0, 0)) Zk hb); replace HB := Zh (Zl Zs hb); (try clear hb); (try clear hb2); (try clear hk); (try clear hi); have hcz18_0 : w17.cell? ⟨gb188, 0, none⟩ = some (.slice A0_0 l0_0.length c0_0) := (blk_cell BK188.out 0).trans rfl; have hfz18_0 := Zn BK188.out 0) | ((with_reducible refine gate_callee (f := 15) rfl ?_); refine ZG (some 11) Tryd.func15 #[.agg #[.slice A0_0 l0_0.length c0_0]] rfl ?_; (with_reducible refine (spec_DiskOk.calls k _ _ l0_0 true _ ?side1 ?side2 A4.out).mono ?_); (case side1 => repeat (first | exact (C_below HR0_0.out HB.out) | (with_reducible refine C_alloc ?_ _) | (with_reducible refine C_drewN ?_ _) | (with_reducible refine C_drew ?_))); (case side2 => exact HC0_0.out); rintro e w19 ⟨rfl, hb⟩; refine ⟨_, rfl, ?_⟩; replace BK188 := Zh (Zm (g := gb188) (o := .cells #[.slice A0_0 l0_0.length c0_0] 29 (0, 0)) Zk hb); replace HB := Zh (Zl Zs hb); (try clear hb); (try clear hb2); (try clear hk); (try clear hi)))
    replace BK188 := Zh (Zb BK188.out)
    replace HB := Zh (Ze HB.out)
    have p191 : 0 ≤ (t189 : Int) := Zo
    have q191 : t189 < (l0_0.length : Int) := Zo
    obtain ⟨ad191, A191_1, c191_1, A191_2, c191_2, e191, hx191_0, hx191_1, hx191_2, hl191_1, hi191_1, hl191_2, hi191_2⟩ := at_T74 HR0_0.out t189 p191 q191
    have hw191_2 := hx191_2
    have hw191_1 := hx191_1
    have hw191_0 := hx191_0
    cases e191
    replace hx191_0 := Zc HB.out hx191_0
    replace hx191_1 := Zc HB.out hx191_1
    replace hx191_2 := Zc HB.out hx191_2
    have HR191_1 := Zh hi191_1
    have HC191_1 := Zh hl191_1
    clear hi191_1 hl191_1
    have HR191_2 := Zh hi191_2
    have HC191_2 := Zh hl191_2
    clear hi191_2 hl191_2
    replace p191 := eq_true p191
    replace q191 := eq_true q191
    have p192 : 0 ≤ (t189 : Int) := Zo
    have q192 : t189 < (l0_0.length : Int) := Zo
    obtain ⟨ad192, A192_1, c192_1, A192_2, c192_2, e192, hx192_0, hx192_1, hx192_2, hl192_1, hi192_1, hl192_2, hi192_2⟩ := at_T74 HR0_0.out t189 p192 q192
    have hw192_2 := hx192_2
    have hw192_1 := hx192_1
    have hw192_0 := hx192_0
    obtain rfl : ad191 = ad192 := (by injection e192)
    replace hx192_0 := Zc HB.out hx192_0
    replace hx192_1 := Zc HB.out hx192_1
    replace hx192_2 := Zc HB.out hx192_2
    have HR192_1 := Zh hi192_1
    have HC192_1 := Zh hl192_1
    clear hi192_1 hl192_1
    have HR192_2 := Zh hi192_2
    have HC192_2 := Zh hl192_2
    clear hi192_2 hl192_2
    replace p192 := eq_true p192
    replace q192 := eq_true q192
    have ea_ := Option.some.inj (hx191_1.symm.trans hx192_1)
    injection ea_ with ea_ en_ ec_
    subst ea_
    subst ec_
    clear en_
    have ea_ := Option.some.inj (hx191_2.symm.trans hx192_2)
    injection ea_ with ea_ en_ ec_
    subst ea_
    subst ec_
    clear en_
    refine start_ (n := 15) (S := fun w' => w'.cell? ⟨gb188, 0, none⟩ = some (.slice (some ad191) l0_0.length c0_0) ∧ w'.cell? (ad191.add ((t189).toNat * 3)) = some (.string ((rd_T74 l0_0 t189).f0)) ∧ w'.cell? ⟨(ad191.add ((t189).toNat * 3)).block, (ad191.add ((t189).toNat * 3)).off + 1, none⟩ = some (.slice A191_1 ((rd_T74 l0_0 t189).f1).length c191_1) ∧ w'.cell? ⟨(ad191.add ((t189).toNat * 3)).block, (ad191.add ((t189).toNat * 3)).off + 2, none⟩ = some (.slice A191_2 ((rd_T74 l0_0 t189).f2).length c191_2) ∧ w'.cell? (ad191.add ((t189).toNat * 3)) = some (.string ((rd_T74 l0_0 t189).f0)) ∧ w'.cell? ⟨(ad191.add ((t189).toNat * 3)).block, (ad191.add ((t189).toNat * 3)).off + 1, none⟩ = some (.slice A191_1 ((rd_T74 l0_0 t189).f1).length c191_1) ∧ w'.cell? ⟨(ad191.add ((t189).toNat * 3)).block, (ad191.add ((t189).toNat * 3)).off + 2, none⟩ = some (.slice A191_2 ((rd_T74 l0_0 t189).f2).length c191_2)) (ds := []) #[false, false, false, false, false, false, false, false, false, false, false, false, false, false, false] (by kernel_rfl) rfl rfl ⟨(blk_cell BK188.out 0).trans rfl, ((HB.out.cell (Zi w _ hw191_0)).trans hw191_0), ((HB.out.cell (Zi w _ hw191_1)).trans hw191_1), ((HB.out.cell (Zi w _ hw191_2)).trans hw191_2), ((HB.out.cell (Zi w _ hw192_0)).trans hw192_0), ((HB.out.cell (Zi w _ hw192_1)).trans hw192_1), ((HB.out.cell (Zi w _ hw192_2)).trans hw192_2)⟩ (fun hHeld => ?_); refine with_tabW spec_Content.tab4 spec_Content.bits4 (fun HT_ HW_ => ?_)
    generalize w19.drew = w20 at BK188 HB HR191_1 HR191_2 HR192_1 HR192_2 hx191_0 hx191_1 hx191_2 hx192_0 hx192_1 hx192_2 hHeld ⊢
    refine SQ.pu 0 17 HT_ ?_
    refine SQ.pu 2 19 HT_ ?_
    refine SQ.pu 6 23 HT_ ?_
    refine SQ.pu 8 25 HT_ ?_
    refine SQ.tk 1 18 HT_ HW_ hHeld ?_
    refine SQ.pu 3 20 HT_ ?_
    refine SQ.pu 4 21 HT_ ?_
    refine SQ.tk 5 22 HT_ HW_ hHeld ?_
    refine SQ.tk 7 24 HT_ HW_ hHeld ?_
    refine SQ.pu 9 26 HT_ ?_
    refine SQ.pu 10 27 HT_ ?_
    refine SQ.tk 11 28 HT_ HW_ hHeld ?_
    refine one_ (i := 12) (N := some 29) #[true, true, true, true, true, true, true, true, true, true, true, true, true, false, false] rfl rfl (one_of HT_.out (by kernel_rfl)) (by decide) (fun K hK => ?_)
    refine goes_ Tryd.func62 (by kernel_rfl) rfl #[.slice A191_1 ((rd_T74 l0_0 t189).f1).length c191_1, .slice A191_2 ((rd_T74 l0_0 t189).f2).length c191_2] (by rfl) rfl rfl (by (try simp only [List.map_toArray, List.map_cons, List.map_nil]); first | done | rfl | (simp only [List.length_drop, List.length_take]; rfl)) ?_
    with_reducible refine (spec_l01Join.calls k _ _ ((rd_T74 l0_0 t189).f1) _ _ ((rd_T74 l0_0 t189).f2) t193 _ ?side1 ?side2 ?side3 ?side4 A14.out).mono ?_
    (case side1 => repeat (first | exact (C_below HR191_1.out HB.out) | (with_reducible refine C_alloc ?_ _) | (with_reducible refine C_drewN ?_ _) | (with_reducible refine C_drew ?_)))
    (case side2 => exact HC191_1.out)
    (case side3 => repeat (first | exact (C_below HR192_2.out HB.out) | (with_reducible refine C_alloc ?_ _) | (with_reducible refine C_drewN ?_ _) | (with_reducible refine C_drew ?_)))
    (case side4 => exact HC192_2.out)
    rintro e w21 ⟨v194, rfl, ho0, hb⟩
    refine ⟨_, rfl, ?_⟩
    have HO195 := Zh (R_lower ho0 (below_size Zs))
    replace BK188 := Zh (Zm (g := gb188) (o := .cells #[.slice (some ad191) l0_0.length c0_0] 29 (0, 0)) Zk hb)
    replace HB := Zh (Zl Zs hb)
    (try clear hb)
    (try clear hb2)
    (try clear hk)
    (try clear hi)
    (try clear ho0)
    refine hK.out _ _ ⟨(blk_cell BK188.out 0).trans rfl, ((HB.out.cell (Zi w _ hw191_0)).trans hw191_0), ((HB.out.cell (Zi w _ hw191_1)).trans hw191_1), ((HB.out.cell (Zi w _ hw191_2)).trans hw191_2), ((HB.out.cell (Zi w _ hw192_0)).trans hw192_0), ((HB.out.cell (Zi w _ hw192_1)).trans hw192_1), ((HB.out.cell (Zi w _ hw192_2)).trans hw192_2)⟩ (fun hHeld => ?_)
    clear hK K
    refine norm_ (a' := ?_) ?_ ?_
    rotate_left
    ·
     show Act.put _ (some 29) _ = _
     simp only [Act.put, List.setIfInBounds_toArray, List.set_cons_zero, List.set_cons_succ, i64_w, i32_w]
     rfl
    refine SQ.pu 13 4 HT_ ?_
    refine SQ.pu 14 5 HT_ ?_
    refine done_ (done_of HT_.out (by kernel_rfl)) ?_
    try go_wp2
    go_ret2
    exact ⟨_, ZE, ZR HO195.out, Zs⟩
   rw [if_neg c13] at H
   exact absurd H (by simp)
  rw [if_neg c12] at H
  exact absurd H (by simp)
 replace c5 := Bool.eq_false_iff.mpr c5
 subst c5
 have H1 : (some (([] : List Int), false)) = some (r1, r2) := by rw [if_neg (show ¬ (false = true) by decide)] at H; exact H
 clear H
 have H := H1
 clear H1
 simp only [Option.some.injEq, Prod.mk.injEq] at H
 obtain ⟨rfl, rfl⟩ := H
 go_enter Tryd.func19, Tryd.ntmps19
 go_wp2_with (first | ((with_reducible refine gate_dst (N := 2) rfl ?_); refine box_event ?hg (N := 2) ?hd (cs := #[.slice A0_0 l0_0.length c0_0]) (t := 29) ?hr ?_; (case hd => rfl); (case hg => rfl); (case hr => first | (go_simp; done) | (go_simp; rfl)); intro gb188 hg w22 hbox hb; have BK188 := Zh (hbox); have GW188 := Zh ((by rw [hg]; exact (below_size Zs) : w.heap.size ≤ gb188)); have GE188 := Zh ((by rw [hg]; exact (below_size Zs) : w.heap.size ≤ gb188)); replace HB := Zh (Zl Zs hb); clear hb hbox hg; have hcz23_0 : w22.cell? ⟨gb188, 0, none⟩ = some (.slice A0_0 l0_0.length c0_0) := (blk_cell BK188.out 0).trans rfl; have hfz23_0 := Zn BK188.out 0) | ((with_reducible refine gate_callee (f := 61) rfl ?_); refine ZG (some 9) Tryd.func61 #[.agg #[.slice A0_0 l0_0.length c0_0], .string a1] rfl ?_; (with_reducible refine (spec_l03Find.calls k _ _ l0_0 a1 t189 _ ?side1 ?side2 A3.out).mono ?_); (case side1 => repeat (first | exact (C_below HR0_0.out HB.out) | (with_reducible refine C_alloc ?_ _) | (with_reducible refine C_drewN ?_ _) | (with_reducible refine C_drew ?_))); (case side2 => exact HC0_0.out); rintro e w24 ⟨rfl, hb⟩; refine ⟨_, rfl, ?_⟩; replace BK188 := Zh (Zm (g := gb188) (o := .cells #[.slice A0_0 l0_0.length c0_0] 29 (0, 0)) Zk hb); replace HB := Zh (Zl Zs hb); (try clear hb); (try clear hb2); (try clear hk); (try clear hi); have hcz25_0 : w24.cell? ⟨gb188, 0, none⟩ = some (.slice A0_0 l0_0.length c0_0) := (blk_cell BK188.out 0).trans rfl; have hfz25_0 := Zn BK188.out 0) | ((with_reducible refine gate_callee (f := 15) rfl ?_); refine ZG (some 11) Tryd.func15 #[.agg #[.slice A0_0 l0_0.length c0_0]] rfl ?_; (with_reducible refine (spec_DiskOk.calls k _ _ l0_0 false _ ?side1 ?side2 A4.out).mono ?_); (case side1 => repeat (first | exact (C_below HR0_0.out HB.out) | (with_reducible refine C_alloc ?_ _) | (with_reducible refine C_drewN ?_ _) | (with_reducible refine C_drew ?_))); (case side2 => exact HC0_0.out); rintro e w26 ⟨rfl, hb⟩; refine ⟨_, rfl, ?_⟩; replace BK188 := Zh (Zm (g := gb188) (o := .cells #[.slice A0_0 l0_0.length c0_0] 29 (0, 0)) Zk hb); replace HB := Zh (Zl Zs hb); (try clear hb); (try clear hb2); (try clear hk); (try clear hi)))
 go_ret2
 exact ⟨_, ZE, by first | exact R_nil _ _ _ _ _ | exact N_nil _ _ _ _ _ | exact V_nil _ _ _ _ _ | exact Q_nil _ _ _ _ _ | exact S_nil _ _ _ _ _, Zs⟩
end Go.Proofs.YtmgeffgcihfpcaaDoor.F

namespace Go.Proofs.YtmgeffgcihfpcaaDoor.F
open Go.RowKit Go.Proofs.YtmgeffgcihfpcaaDoorW.PrintWords Go.Proofs.YtmgeffgcihfpcaaDoorW.PrintWords.Kd Go.Proofs.YtmgeffgcihfpcaaDoorW.PrintMore.Kd Go.Proofs.YtmgeffgcihfpcaaDoorW.PrintLast Go.Proofs.YtmgeffgcihfpcaaDoorW.PrintMore
attribute [local go_sem] max2_int min2_int max_two min_two max_three min_three max_four min_four   -- for this text's walks alone
set_option linter.unusedVariables false
set_option linter.unusedSimpArgs false
def spec_SyncFile.f (k : Nat) (l0_0 : List (S74)) (a1 : ByteArray) : Option ((List (S74)) × Bool) := (spec_Content.f k l0_0 a1).bind fun bt264 => (if bt264.2 = true then ((spec_l03Put.f k l0_0 a1 bt264.1 ([] : List Int)).bind fun t268 => (some (t268, true))) else ((spec_l03Copy.f k l0_0).bind fun t271 => (some (t271, false))))
set_option maxHeartbeats 8000000 in
set_option maxRecDepth 100000 in
theorem spec_SyncFile.calls (k : Nat) (A0_0 : Option Addr) (c0_0 : Nat) (l0_0 : List (S74)) (a1 : ByteArray) (r1 : List (S74)) (r2 : Bool) (w : World) (hr0_0 : Kd.C k74 w A0_0 l0_0.length l0_0) (hc0_0 : l0_0.length ≤ c0_0) (h : spec_SyncFile.f k l0_0 a1 = some (r1, r2)) :
  Calls Tryd.prog 28 #[.agg #[.slice A0_0 l0_0.length c0_0], .string a1] w fun e w' => ∃ v0_ : Value, e = .returned (.tuple #[.agg #[v0_], .bool r2]) ∧ Kd.S k74 74 w' w.heap.size (fun _ => True) v0_ r1 ∧ Below w.heap.size w w' := by
 have hu29 := Tryd.underlying29
 have hu74 := Tryd.underlying74
 have HR0_0 := Zh hr0_0
 have HC0_0 := Zh hc0_0
 clear hr0_0 hc0_0
 have HB := Zh (Below.refl w.heap.size w)
 have H : ((spec_Content.f k l0_0 a1).bind fun bt264 => (if bt264.2 = true then ((spec_l03Put.f k l0_0 a1 bt264.1 ([] : List Int)).bind fun t268 => (some (t268, true))) else ((spec_l03Copy.f k l0_0).bind fun t271 => (some (t271, false))))) = some (r1, r2) := h
 clear h
 replace H := Option.bind_eq_some_iff.mp H
 obtain ⟨⟨t264, t267⟩, A30, H⟩ := H
 replace H : (if t267 = true then ((spec_l03Put.f k l0_0 a1 t264 ([] : List Int)).bind fun t268 => (some (t268, true))) else ((spec_l03Copy.f k l0_0).bind fun t271 => (some (t271, false)))) = some (r1, r2) := H
 have A3 := Zh A30
 clear A30
 by_cases c4 : t267 = true
 ·
  subst c4
  have H1 : ((spec_l03Put.f k l0_0 a1 t264 ([] : List Int)).bind fun t268 => (some (t268, true))) = some (r1, r2) := by rw [if_pos rfl] at H; exact H
  clear H
  have H := H1
  clear H1
  replace H := Option.bind_eq_some_iff.mp H
  obtain ⟨t268, A50, H⟩ := H
  replace H : (some (t268, true)) = some (r1, r2) := H
  have A5 := Zh A50
  clear A50
  simp only [Option.some.injEq, Prod.mk.injEq] at H
  obtain ⟨rfl, rfl⟩ := H
  go_enter Tryd.func28, Tryd.ntmps28
  go_wp2_with (first | ((with_reducible refine gate_dst (N := 2) rfl ?_); refine box_event ?hg (N := 2) ?hd (cs := #[.slice A0_0 l0_0.length c0_0]) (t := 29) ?hr ?_; (case hd => rfl); (case hg => rfl); (case hr => first | (go_simp; done) | (go_simp; rfl)); intro gb262 hg w6 hbox hb; have BK262 := Zh (hbox); have GW262 := Zh ((by rw [hg]; exact (below_size Zs) : w.heap.size ≤ gb262)); have GE262 := Zh ((by rw [hg]; exact (below_size Zs) : w.heap.size ≤ gb262)); replace HB := Zh (Zl Zs hb); clear hb hbox hg) | ((with_reducible refine gate_dst (N := 4) rfl ?_); refine box_event ?hg (N := 4) ?hd (cs := #[.slice none 0 0]) (t := 29) ?hr ?_; (case hd => rfl); (case hg => rfl); (case hr => first | (go_simp; done) | (go_simp; rfl)); intro gb263 hg w7 hbox hb; have BK263 := Zh (hbox); have GW263 := Zh ((by rw [hg]; exact (below_size Zs) : w.heap.size ≤ gb263)); have GE263 := Zh ((by rw [hg]; exact (below_size Zs) : w.heap.size ≤ gb263)); replace HB := Zh (Zl Zs hb); have NB262_263 := Zh ((by rw [hg]; exact Nat.ne_of_lt (blk_lt (g := gb262) (o := .cells #[.slice A0_0 l0_0.length c0_0] 29 (0, 0)) Zk) : gb262 ≠ gb263)); have NB263_262 := Zh ((by rw [hg]; exact Nat.ne_of_gt (blk_lt (g := gb262) (o := .cells #[.slice A0_0 l0_0.length c0_0] 29 (0, 0)) Zk) : gb263 ≠ gb262)); replace BK262 := Zh (Zm (g := gb262) (o := .cells #[.slice A0_0 l0_0.length c0_0] 29 (0, 0)) Zk hb); clear hb hbox hg; have hnb8 := NB262_263.out; have hnc8 := NB263_262.out; have hcz9_0 : w7.cell? ⟨gb262, 0, none⟩ = some (.slice A0_0 l0_0.length c0_0) := (blk_cell BK262.out 0).trans rfl; have hfz9_0 := Zn BK262.out 0) | ((with_reducible refine gate_callee (f := 19) rfl ?_); refine ZG (some 11) Tryd.func19 #[.agg #[.slice A0_0 l0_0.length c0_0], .string a1] rfl ?_; (with_reducible refine (spec_Content.calls k _ _ l0_0 a1 t264 true _ ?side1 ?side2 A3.out).mono ?_); (case side1 => repeat (first | exact (C_below HR0_0.out HB.out) | (with_reducible refine C_alloc ?_ _) | (with_reducible refine C_drewN ?_ _) | (with_reducible refine C_drew ?_))); (case side2 => exact HC0_0.out); rintro e w10 ⟨v265, rfl, ho0, hb⟩; refine ⟨_, rfl, ?_⟩; have HO266 := Zh (R_lower ho0 (below_size Zs)); replace BK262 := Zh (Zm (g := gb262) (o := .cells #[.slice A0_0 l0_0.length c0_0] 29 (0, 0)) Zk hb); replace BK263 := Zh (Zm (g := gb263) (o := .cells #[.slice none 0 0] 29 (0, 0)) Zk hb); replace HB := Zh (Zl Zs hb); (try clear hb); (try clear hb2); (try clear hk); (try clear hi); (try clear ho0); have hcz11_0 : w10.cell? ⟨gb262, 0, none⟩ = some (.slice A0_0 l0_0.length c0_0) := (blk_cell BK262.out 0).trans rfl; have hfz11_0 := Zn BK262.out 0; obtain ⟨Ao12, co12, eo12⟩ := R_slice HO266.out; subst eo12) | ((with_reducible refine gate_callee (f := 70) rfl ?_); refine ZG (some 22) Tryd.func70 #[.agg #[.slice A0_0 l0_0.length c0_0], .agg #[.string a1, .slice Ao12 t264.length co12, .slice none 0 0]] rfl ?_; (refine (spec_l03Put.calls k _ _ l0_0 a1 _ _ t264 _ _ ([] : List Int) t268 _ ?side1 ?side2 ?side3 ?side4 ?side5 ?side6 A5.out).mono ?_); (case side1 => repeat (first | exact (C_below HR0_0.out HB.out) | (with_reducible refine C_alloc ?_ _) | (with_reducible refine C_drewN ?_ _) | (with_reducible refine C_drew ?_))); (case side2 => exact HC0_0.out); (case side3 => repeat (first | exact (R_reads' HO266.out).2.2 | (with_reducible refine C_alloc ?_ _) | (with_reducible refine C_drewN ?_ _) | (with_reducible refine C_drew ?_))); (case side4 => exact (R_reads' HO266.out).2.1); (case side5 => exact C_nil _ _); (case side6 => exact Nat.le_refl _); rintro e w13 ⟨v269, rfl, ho0, hb⟩; refine ⟨_, rfl, ?_⟩; have HO270 := Zh (S_lower (S_new' ho0 (R_lt (ZR HO266.out))) (below_size Zs)); replace HO266 := Zh (R_below (ZR HO266.out) hb); replace BK262 := Zh (Zm (g := gb262) (o := .cells #[.slice A0_0 l0_0.length c0_0] 29 (0, 0)) Zk hb); replace BK263 := Zh (Zm (g := gb263) (o := .cells #[.slice none 0 0] 29 (0, 0)) Zk hb); replace HB := Zh (Zl Zs hb); (try clear hb); (try clear hb2); (try clear hk); (try clear hi); (try clear ho0); obtain ⟨Ao14, co14, eo14⟩ := S_slice HO270.out; subst eo14; have hcz15_0 : w13.cell? ⟨gb263, 0, none⟩ = some (.slice none 0 0) := (blk_cell BK263.out 0).trans rfl; have hfz15_0 := Zn BK263.out 0))
  refine Zq (results_ct rfl _ _ gb263 29 #[.slice Ao14 t268.length co14] (0, 0) _ rfl (by (with_reducible repeat (first | refine Za ?_ _ | refine Zb ?_ | refine blk_alloc ?_ _)); refine blk_put (cs := #[.slice none 0 0]) ?_ 0 _ rfl; (with_reducible repeat (first | refine Za ?_ _ | refine Zb ?_ | refine blk_alloc ?_ _)); exact BK263.out) Tryd.underlying29 rfl (by kernel_rfl)) rfl ?_
  exact ⟨_, ZE, ZS (S_mono (S_far (p := ⟨gb263, 0, none⟩) (S_types HO270.out BK263.out (by decide)) (fun _ hk => hk.2) (.slice Ao14 t268.length co14)) (fun _ hk => trivial)), Zs⟩
 replace c4 := Bool.eq_false_iff.mpr c4
 subst c4
 have H1 : ((spec_l03Copy.f k l0_0).bind fun t271 => (some (t271, false))) = some (r1, r2) := by rw [if_neg (show ¬ (false = true) by decide)] at H; exact H
 clear H
 have H := H1
 clear H1
 replace H := Option.bind_eq_some_iff.mp H
 obtain ⟨t271, A160, H⟩ := H
 replace H : (some (t271, false)) = some (r1, r2) := H
 have A16 := Zh A160
 clear A160
 simp only [Option.some.injEq, Prod.mk.injEq] at H
 obtain ⟨rfl, rfl⟩ := H
 go_enter Tryd.func28, Tryd.ntmps28
 go_wp2_with (first | ((with_reducible refine gate_dst (N := 2) rfl ?_); refine box_event ?hg (N := 2) ?hd (cs := #[.slice A0_0 l0_0.length c0_0]) (t := 29) ?hr ?_; (case hd => rfl); (case hg => rfl); (case hr => first | (go_simp; done) | (go_simp; rfl)); intro gb262 hg w17 hbox hb; have BK262 := Zh (hbox); have GW262 := Zh ((by rw [hg]; exact (below_size Zs) : w.heap.size ≤ gb262)); have GE262 := Zh ((by rw [hg]; exact (below_size Zs) : w.heap.size ≤ gb262)); replace HB := Zh (Zl Zs hb); clear hb hbox hg) | ((with_reducible refine gate_dst (N := 4) rfl ?_); refine box_event ?hg (N := 4) ?hd (cs := #[.slice none 0 0]) (t := 29) ?hr ?_; (case hd => rfl); (case hg => rfl); (case hr => first | (go_simp; done) | (go_simp; rfl)); intro gb263 hg w18 hbox hb; have BK263 := Zh (hbox); have GW263 := Zh ((by rw [hg]; exact (below_size Zs) : w.heap.size ≤ gb263)); have GE263 := Zh ((by rw [hg]; exact (below_size Zs) : w.heap.size ≤ gb263)); replace HB := Zh (Zl Zs hb); have NB262_263 := Zh ((by rw [hg]; exact Nat.ne_of_lt (blk_lt (g := gb262) (o := .cells #[.slice A0_0 l0_0.length c0_0] 29 (0, 0)) Zk) : gb262 ≠ gb263)); have NB263_262 := Zh ((by rw [hg]; exact Nat.ne_of_gt (blk_lt (g := gb262) (o := .cells #[.slice A0_0 l0_0.length c0_0] 29 (0, 0)) Zk) : gb263 ≠ gb262)); replace BK262 := Zh (Zm (g := gb262) (o := .cells #[.slice A0_0 l0_0.length c0_0] 29 (0, 0)) Zk hb); clear hb hbox hg; have hnb19 := NB262_263.out; have hnc19 := NB263_262.out; have hcz20_0 : w18.cell? ⟨gb262, 0, none⟩ = some (.slice A0_0 l0_0.length c0_0) := (blk_cell BK262.out 0).trans rfl; have hfz20_0 := Zn BK262.out 0) | ((with_reducible refine gate_callee (f := 19) rfl ?_); refine ZG (some 11) Tryd.func19 #[.agg #[.slice A0_0 l0_0.length c0_0], .string a1] rfl ?_; (with_reducible refine (spec_Content.calls k _ _ l0_0 a1 t264 false _ ?side1 ?side2 A3.out).mono ?_); (case side1 => repeat (first | exact (C_below HR0_0.out HB.out) | (with_reducible refine C_alloc ?_ _) | (with_reducible refine C_drewN ?_ _) | (with_reducible refine C_drew ?_))); (case side2 => exact HC0_0.out); rintro e w21 ⟨v265, rfl, ho0, hb⟩; refine ⟨_, rfl, ?_⟩; have HO266 := Zh (R_lower ho0 (below_size Zs)); replace BK262 := Zh (Zm (g := gb262) (o := .cells #[.slice A0_0 l0_0.length c0_0] 29 (0, 0)) Zk hb); replace BK263 := Zh (Zm (g := gb263) (o := .cells #[.slice none 0 0] 29 (0, 0)) Zk hb); replace HB := Zh (Zl Zs hb); (try clear hb); (try clear hb2); (try clear hk); (try clear hi); (try clear ho0); have hcz22_0 : w21.cell? ⟨gb262, 0, none⟩ = some (.slice A0_0 l0_0.length c0_0) := (blk_cell BK262.out 0).trans rfl; have hfz22_0 := Zn BK262.out 0) | ((with_reducible refine gate_callee (f := 66) rfl ?_); refine ZG (some 17) Tryd.func66 #[.agg #[.slice A0_0 l0_0.length c0_0]] rfl ?_; (with_reducible refine (spec_l03Copy.calls k _ _ l0_0 t271 _ ?side1 ?side2 A16.out).mono ?_); (case side1 => repeat (first | exact (C_below HR0_0.out HB.out) | (with_reducible refine C_alloc ?_ _) | (with_reducible refine C_drewN ?_ _) | (with_reducible refine C_drew ?_))); (case side2 => exact HC0_0.out); rintro e w23 ⟨v272, rfl, ho0, hb⟩; refine ⟨_, rfl, ?_⟩; have HO273 := Zh (S_lower (S_new' ho0 (R_lt (ZR HO266.out))) (below_size Zs)); replace HO266 := Zh (R_below (ZR HO266.out) hb); replace BK262 := Zh (Zm (g := gb262) (o := .cells #[.slice A0_0 l0_0.length c0_0] 29 (0, 0)) Zk hb); replace BK263 := Zh (Zm (g := gb263) (o := .cells #[.slice none 0 0] 29 (0, 0)) Zk hb); replace HB := Zh (Zl Zs hb); (try clear hb); (try clear hb2); (try clear hk); (try clear hi); (try clear ho0); obtain ⟨Ao24, co24, eo24⟩ := S_slice HO273.out; subst eo24; have hcz25_0 : w23.cell? ⟨gb263, 0, none⟩ = some (.slice none 0 0) := (blk_cell BK263.out 0).trans rfl; have hfz25_0 := Zn BK263.out 0))
 refine Zq (results_ct rfl _ _ gb263 29 #[.slice Ao24 t271.length co24] (0, 0) _ rfl (by (with_reducible repeat (first | refine Za ?_ _ | refine Zb ?_ | refine blk_alloc ?_ _)); refine blk_put (cs := #[.slice none 0 0]) ?_ 0 _ rfl; (with_reducible repeat (first | refine Za ?_ _ | refine Zb ?_ | refine blk_alloc ?_ _)); exact BK263.out) Tryd.underlying29 rfl (by kernel_rfl)) rfl ?_
 exact ⟨_, ZE, ZS (S_mono (S_far (p := ⟨gb263, 0, none⟩) (S_types HO273.out BK263.out (by decide)) (fun _ hk => hk.2) (.slice Ao24 t271.length co24)) (fun _ hk => trivial)), Zs⟩
end Go.Proofs.YtmgeffgcihfpcaaDoor.F

namespace Go.Proofs.YtmgeffgcihfpcaaDoor.F
open Go.Proofs.YtmgeffgcihfpcaaDoor
open Go.RowKit Go.Proofs.YtmgeffgcihfpcaaDoorW.PrintWords Go.Proofs.YtmgeffgcihfpcaaDoorW.PrintWords.Kd Go.Proofs.YtmgeffgcihfpcaaDoorW.PrintMore.Kd Go.Proofs.YtmgeffgcihfpcaaDoorW.PrintLast Go.Proofs.YtmgeffgcihfpcaaDoorW.PrintMore
attribute [local go_sem] max2_int min2_int max_two min_two max_three min_three max_four min_four   -- for this text's walks alone
set_option linter.unusedVariables false
set_option linter.unusedSimpArgs false
def spec_CutFile.j0 : Nat → ByteArray → Int → List Int → Bool → List (S74) → Option ((List (S74)) × Bool)
 | 0, _, _, _, _, _ => none
 | k + 1, x1, x2, x8, x24, x281000 => if x24 = true then ((spec_l03Copy.f k x281000).bind fun t287 => (some (t287, false))) else (if 0 ≤ x2 then (if x2 ≤ (x8.length : Int) then ((spec_l03Put.f k x281000 x1 (x8.take (x2 : Int).toNat) ([] : List Int)).bind fun t294 => (some (t294, true))) else (none)) else (none))
def spec_CutFile.f (k : Nat) (l0_0 : List (S74)) (a1 : ByteArray) (a2 : Int) : Option ((List (S74)) × Bool) := (spec_Content.f k l0_0 a1).bind fun bt282 => (if bt282.2 = true then ((spec_l01In.f a2 0 (bt282.1.length : Int)).bind fun t286 => (spec_CutFile.j0 k a1 a2 bt282.1 (!t286) l0_0)) else (spec_CutFile.j0 k a1 a2 bt282.1 true l0_0))
def spec_CutFile.T4 : Bool × List (List Nat × List Nat) := (true, [([], []), ([], []), ([], []), ([], []), ([2, 3], [2, 3]), ([1, 4], [1, 4]), ([0, 5], [0, 5]), ([6, 6, 0, 1, 2, 3, 4, 5, 6], [6]), ([7, 0, 1, 2, 3, 4, 5, 6, 7], [])])
def spec_CutFile.B4 : List Nat := [0, 0, 0, 0, 12, 30, 63, 127, 255]
theorem spec_CutFile.tab4 : rtab .any (opsOf Tryd.f30 4) = spec_CutFile.T4 := by kernel_rfl
theorem spec_CutFile.bits4 : waitsOk spec_CutFile.T4.2 spec_CutFile.B4 = true := by kernel_rfl
set_option maxHeartbeats 8000000 in
set_option maxRecDepth 100000 in
theorem spec_CutFile.calls (k : Nat) (A0_0 : Option Addr) (c0_0 : Nat) (l0_0 : List (S74)) (a1 : ByteArray) (a2 : Int) (r1 : List (S74)) (r2 : Bool) (w : World) (hr0_0 : Kd.C k74 w A0_0 l0_0.length l0_0) (hc0_0 : l0_0.length ≤ c0_0) (h : spec_CutFile.f k l0_0 a1 a2 = some (r1, r2)) :
  Calls Tryd.prog 30 #[.agg #[.slice A0_0 l0_0.length c0_0], .string a1, .int .i64 a2] w fun e w' => ∃ v0_ : Value, e = .returned (.tuple #[.agg #[v0_], .bool r2]) ∧ Kd.S k74 74 w' w.heap.size (fun _ => True) v0_ r1 ∧ Below w.heap.size w w' := by
 have hu29 := Tryd.underlying29
 have hu74 := Tryd.underlying74
 have HR0_0 := Zh hr0_0
 have HC0_0 := Zh hc0_0
 clear hr0_0 hc0_0
 have HB := Zh (Below.refl w.heap.size w)
 have H : ((spec_Content.f k l0_0 a1).bind fun bt282 => (if bt282.2 = true then ((spec_l01In.f a2 0 (bt282.1.length : Int)).bind fun t286 => (spec_CutFile.j0 k a1 a2 bt282.1 (!t286) l0_0)) else (spec_CutFile.j0 k a1 a2 bt282.1 true l0_0))) = some (r1, r2) := h
 clear h
 replace H := Option.bind_eq_some_iff.mp H
 obtain ⟨⟨t282, t285⟩, A40, H⟩ := H
 replace H : (if t285 = true then ((spec_l01In.f a2 0 (t282.length : Int)).bind fun t286 => (spec_CutFile.j0 k a1 a2 t282 (!t286) l0_0)) else (spec_CutFile.j0 k a1 a2 t282 true l0_0)) = some (r1, r2) := H
 have A4 := Zh A40
 clear A40
 have HC5 := Zh H
 clear H
 go_enter Tryd.func30, Tryd.ntmps30
 go_upto_region 2 with (first | ((with_reducible refine gate_dst (N := 3) rfl ?_); (try (refine gate_guard (by rfl) ?_; dsimp only)); refine box_event ?hg (N := 3) ?hd (cs := #[.slice A0_0 l0_0.length c0_0]) (t := 29) ?hr ?_; (case hd => rfl); (case hg => rfl); (case hr => first | (go_simp; done) | (go_simp; rfl)); intro gb280 hg w6 hbox hb; have BK280 := Zh (hbox); have GW280 := Zh ((by rw [hg]; exact (below_size Zs) : w.heap.size ≤ gb280)); have GE280 := Zh ((by rw [hg]; exact (below_size Zs) : w.heap.size ≤ gb280)); replace HB := Zh (Zl Zs hb); clear hb hbox hg) | ((with_reducible refine gate_dst (N := 6) rfl ?_); (try (refine gate_guard (by rfl) ?_; dsimp only)); refine box_event ?hg (N := 6) ?hd (cs := #[.slice none 0 0]) (t := 29) ?hr ?_; (case hd => rfl); (case hg => rfl); (case hr => first | (go_simp; done) | (go_simp; rfl)); intro gb281 hg w7 hbox hb; have BK281 := Zh (hbox); have GW281 := Zh ((by rw [hg]; exact (below_size Zs) : w.heap.size ≤ gb281)); have GE281 := Zh ((by rw [hg]; exact (below_size Zs) : w.heap.size ≤ gb281)); replace HB := Zh (Zl Zs hb); have NB280_281 := Zh ((by rw [hg]; exact Nat.ne_of_lt (blk_lt (g := gb280) (o := .cells #[.slice A0_0 l0_0.length c0_0] 29 (0, 0)) Zk) : gb280 ≠ gb281)); have NB281_280 := Zh ((by rw [hg]; exact Nat.ne_of_gt (blk_lt (g := gb280) (o := .cells #[.slice A0_0 l0_0.length c0_0] 29 (0, 0)) Zk) : gb281 ≠ gb280)); replace BK280 := Zh (Zm (g := gb280) (o := .cells #[.slice A0_0 l0_0.length c0_0] 29 (0, 0)) Zk hb); clear hb hbox hg; have hnb8 := NB280_281.out; have hnc8 := NB281_280.out; have hcz9_0 : w7.cell? ⟨gb280, 0, none⟩ = some (.slice A0_0 l0_0.length c0_0) := (blk_cell BK280.out 0).trans rfl; have hfz9_0 := Zn BK280.out 0) | ((with_reducible refine gate_callee (f := 19) rfl ?_); refine ZG (some 13) Tryd.func19 #[.agg #[.slice A0_0 l0_0.length c0_0], .string a1] rfl ?_; (with_reducible refine (spec_Content.calls k _ _ l0_0 a1 t282 t285 _ ?side1 ?side2 A4.out).mono ?_); (case side1 => repeat (first | exact (C_below HR0_0.out HB.out) | (with_reducible refine C_alloc ?_ _) | (with_reducible refine C_drewN ?_ _) | (with_reducible refine C_drew ?_))); (case side2 => exact HC0_0.out); rintro e w10 ⟨v283, rfl, ho0, hb⟩; refine ⟨_, rfl, ?_⟩; have HO284 := Zh (R_lower ho0 (below_size Zs)); replace BK280 := Zh (Zm (g := gb280) (o := .cells #[.slice A0_0 l0_0.length c0_0] 29 (0, 0)) Zk hb); replace BK281 := Zh (Zm (g := gb281) (o := .cells #[.slice none 0 0] 29 (0, 0)) Zk hb); replace HB := Zh (Zl Zs hb); (try clear hb); (try clear hb2); (try clear hk); (try clear hi); (try clear ho0)))
 (try simp only [Act.put, List.setIfInBounds_toArray, List.set_cons_zero, List.set_cons_succ])
 go_cut [24] (fun v24 wc => ∃ (kq : Nat) (x24_4 : Bool), v24 = .bool x24_4 ∧ Aside0 (spec_CutFile.j0 kq a1 a2 t282 x24_4 l0_0 = some (r1, r2)) ∧ Aside0 (kq ≤ k) ∧ Aside0 (Kd.R (Kd.int .u8) 5 wc w.heap.size (fun _ => True) v283 t282) ∧ Aside0 (wc.heap[gb280]? = some (.cells #[(.slice A0_0 l0_0.length c0_0)] 29 (0, 0))) ∧ Aside0 (wc.heap[gb281]? = some (.cells #[(.slice none 0 0)] 29 (0, 0))) ∧ Aside0 (Below w.heap.size w wc))
 case first =>
  have H := HC5.out
  clear HC5
  by_cases c11 : t285 = true
  ·
   subst c11
   have H1 : ((spec_l01In.f a2 0 (t282.length : Int)).bind fun t286 => (spec_CutFile.j0 k a1 a2 t282 (!t286) l0_0)) = some (r1, r2) := by rw [if_pos rfl] at H; exact H
   clear H
   have H := H1
   clear H1
   replace H := Option.bind_eq_some_iff.mp H
   obtain ⟨t286, A120, H⟩ := H
   replace H : (spec_CutFile.j0 k a1 a2 t282 (!t286) l0_0) = some (r1, r2) := H
   have A12 := Zh A120
   clear A120
   have H' := Zh H
   clear H
   obtain ⟨Ao13, co13, eo13⟩ := R_slice HO284.out
   subst eo13
   go_wp2_with (first | (go_at_call 72; (with_reducible refine (spec_l01In.calls a2 0 (t282.length : Int) t286 _ A12.out).mono ?_); rintro e w' ⟨rfl, ⟨nd, rfl⟩⟩))
   go_meet
   case rel => exact ⟨_, (!t286), (by first | rfl | (simp; done) | (simp [*]; done)), H', ⟨by first | omega | exact Nat.le_refl _⟩, ⟨ZR HO284.out⟩, ⟨Zk⟩, ⟨Zk⟩, ⟨Zs⟩⟩
  replace c11 := Bool.eq_false_iff.mpr c11
  subst c11
  have H1 : (spec_CutFile.j0 k a1 a2 t282 true l0_0) = some (r1, r2) := by rw [if_neg (show ¬ (false = true) by decide)] at H; exact H
  clear H
  have H := H1
  clear H1
  have H' := Zh H
  clear H
  go_wp2
  go_meet
  case rel => exact ⟨_, (true), (by first | rfl | (simp; done) | (simp [*]; done)), H', ⟨by first | omega | exact Nat.le_refl _⟩, ⟨ZR HO284.out⟩, ⟨Zk⟩, ⟨Zk⟩, ⟨Zs⟩⟩
 case rest =>
  clear HC5
  try clear c1
  try clear p2
  try clear c3
  try clear c8
  try clear c11
  try clear hcz9_0
  try clear hfz9_0
  obtain ⟨kq, x24_4, rfl, HA, HJ4, HO_8, BK280, BK281, HB⟩ := hcut
  cases kq with
  | zero => exact absurd HA.out (by simp [spec_CutFile.j0])
  | succ kj4 =>
   have H := HA.out
   clear HA
   simp only [spec_CutFile.j0] at H
   by_cases c14 : x24_4 = true
   ·
    subst c14
    have H1 : ((spec_l03Copy.f kj4 l0_0).bind fun t287 => (some (t287, false))) = some (r1, r2) := by rw [if_pos rfl] at H; exact H
    clear H
    have H := H1
    clear H1
    replace H := Option.bind_eq_some_iff.mp H
    obtain ⟨t287, A150, H⟩ := H
    replace H : (some (t287, false)) = some (r1, r2) := H
    have A15 := Zh A150
    clear A150
    simp only [Option.some.injEq, Prod.mk.injEq] at H
    obtain ⟨rfl, rfl⟩ := H
    have hnb16 := NB280_281.out
    have hnc16 := NB281_280.out
    have hcz17_0 : wc.cell? ⟨gb280, 0, none⟩ = some (.slice A0_0 l0_0.length c0_0) := (blk_cell BK280.out 0).trans rfl
    have hfz17_0 := Zn BK280.out 0
    go_wp2_with (first | ((with_reducible refine gate_callee (f := 66) rfl ?_); refine ZG (some 26) Tryd.func66 #[.agg #[.slice A0_0 l0_0.length c0_0]] rfl ?_; (with_reducible refine (spec_l03Copy.calls kj4 _ _ l0_0 t287 _ ?side1 ?side2 A15.out).mono ?_); (case side1 => repeat (first | exact (C_below HR0_0.out HB.out) | (with_reducible refine C_alloc ?_ _) | (with_reducible refine C_drewN ?_ _) | (with_reducible refine C_drew ?_))); (case side2 => exact HC0_0.out); rintro e w18 ⟨v288, rfl, ho0, hb⟩; refine ⟨_, rfl, ?_⟩; have HO289 := Zh (S_lower (S_new' ho0 (R_lt (ZR HO_8.out))) (below_size Zs)); replace HO_8 := Zh (R_below (ZR HO_8.out) hb); replace BK280 := Zh (Zm (g := gb280) (o := .cells #[.slice A0_0 l0_0.length c0_0] 29 (0, 0)) Zk hb); replace BK281 := Zh (Zm (g := gb281) (o := .cells #[.slice none 0 0] 29 (0, 0)) Zk hb); replace HB := Zh (Zl Zs hb); (try clear hb); (try clear hb2); (try clear hk); (try clear hi); (try clear ho0); obtain ⟨Ao19, co19, eo19⟩ := S_slice HO289.out; subst eo19; have hcz20_0 : w18.cell? ⟨gb281, 0, none⟩ = some (.slice none 0 0) := (blk_cell BK281.out 0).trans rfl; have hfz20_0 := Zn BK281.out 0))
    refine Zq (results_ct rfl _ _ gb281 29 #[.slice Ao19 t287.length co19] (0, 0) _ rfl (by (with_reducible repeat (first | refine Za ?_ _ | refine Zb ?_ | refine blk_alloc ?_ _)); refine blk_put (cs := #[.slice none 0 0]) ?_ 0 _ rfl; (with_reducible repeat (first | refine Za ?_ _ | refine Zb ?_ | refine blk_alloc ?_ _)); exact BK281.out) Tryd.underlying29 rfl (by kernel_rfl)) rfl ?_
    exact ⟨_, ZE, ZS (S_mono (S_far (p := ⟨gb281, 0, none⟩) (S_types HO289.out BK281.out (by decide)) (fun _ hk => hk.2) (.slice Ao19 t287.length co19)) (fun _ hk => trivial)), Zs⟩
   replace c14 := Bool.eq_false_iff.mpr c14
   subst c14
   have H1 : (if 0 ≤ a2 then (if a2 ≤ (t282.length : Int) then ((spec_l03Put.f kj4 l0_0 a1 (t282.take (a2 : Int).toNat) ([] : List Int)).bind fun t294 => (some (t294, true))) else (none)) else (none)) = some (r1, r2) := by rw [if_neg (show ¬ (false = true) by decide)] at H; exact H
   clear H
   have H := H1
   clear H1
   by_cases c21 : 0 ≤ a2
   ·
    rw [if_pos c21] at H
    have c21b0 := eq_true c21
    have c21b1 : decide (0 ≤ a2) = true := decide_eq_true c21
    clear c21
    by_cases c22 : a2 ≤ (t282.length : Int)
    ·
     rw [if_pos c22] at H
     have c22b0 := eq_true c22
     have c22b1 : decide (a2 ≤ (t282.length : Int)) = true := decide_eq_true c22
     clear c22
     obtain ⟨y290, hy290⟩ : ∃ y_ : List Int, y_ = (t282.take (a2 : Int).toNat) := ⟨_, rfl⟩
     replace H : ((spec_l03Put.f kj4 l0_0 a1 y290 ([] : List Int)).bind fun t294 => (some (t294, true))) = some (r1, r2) := by first | (rw [hy290]; with_reducible exact H) | (have H2_ := (Option.bind_some _ _).symm.trans H; rw [hy290]; with_reducible exact H2_) | (have H2_ := (Option.bind_some _ _).symm.trans H; with_reducible exact H2_) | with_reducible exact H | (rw [hy290]; exact H) | exact H
     have Ny290 := Zh hy290
     clear hy290
     replace H := Option.bind_eq_some_iff.mp H
     obtain ⟨t294, A230, H⟩ := H
     replace H : (some (t294, true)) = some (r1, r2) := H
     have A23 := Zh A230
     clear A230
     simp only [Option.some.injEq, Prod.mk.injEq] at H
     obtain ⟨rfl, rfl⟩ := H
     try go_wp2
     replace HO_8 := Zh (R_drew HO_8.out)
     replace BK280 := Zh (Zb BK280.out)
     replace BK281 := Zh (Zb BK281.out)
     replace HB := Zh (Ze HB.out)
     obtain ⟨Ao26, co26, eo26⟩ := R_slice HO_8.out
     (first | subst eo26 | (injection eo26 with f1_ f2_ f3_; have f4_ := f1_.symm; have f5_ := f3_.symm; clear f1_ f2_ f3_; subst f4_; subst f5_))
     have q25 : (a2 : Int) ≤ ((t282.length : Int) : Int) := Zo
     obtain ⟨i025, hi025, _, hsz25, _⟩ := info_parts info5
     have hroom25 : t282.length ≤ co26 := (R_reads' HO_8.out).2.1
     have hC25 : Kd.C (Kd.int .u8) _ Ao26 t282.length t282 := (R_reads' HO_8.out).2.2
     have hcut25 := cut_to (P := Tryd.prog) 33 5 .i64 Tryd.underlying33 hi025 Ao26 t282.length co26 a2 (Zo) q25 hroom25
     have hr25 := C_take (m := (a2 : Int).toNat) hC25 (by omega)
     have hy25 : y290.length = (a2 : Int).toNat := (by rw [Ny290.out, List.length_take]; omega)
     rw [← Ny290.out] at hr25
     rw [← hy25] at hcut25
     have HR293 := Zh hr25
     have HC293 := Zh (show y290.length ≤ co26 from by omega)
     clear hr25 hC25 hroom25 hi025 hsz25
     have KY25 := Zh hy25
     clear hy25
     have KL25 := Zh (show (a2 : Int).toNat ≤ t282.length from by omega)
     replace q25 := eq_true q25
     refine start_ (n := 9) (S := fun w' => w'.cell? ⟨gb280, 0, none⟩ = some (.slice A0_0 l0_0.length c0_0)) (ds := []) #[false, false, false, false, false, false, false, false, false] (by kernel_rfl) rfl rfl ((blk_cell BK280.out 0).trans rfl) (fun hHeld => ?_); refine with_tabW spec_CutFile.tab4 spec_CutFile.bits4 (fun HT_ HW_ => ?_)
     generalize wc.drew = w24 at HO_8 BK280 BK281 HB HR293 hHeld ⊢
     refine SQ.pu 1 28 HT_ ?_
     refine SQ.pu 2 29 HT_ ?_
     refine SQ.pu 3 30 HT_ ?_
     refine SQ.pu 4 31 HT_ ?_
     refine SQ.pu 5 32 HT_ ?_
     refine take_ (i := 0) (N := some 27) (v := ?_) (a' := ?_) #[true, true, true, true, true, true, false, false, false] rfl rfl (take_ofW HT_.out HW_.out (by kernel_rfl)) (fun _ _ _ h => h) (Or.inl ⟨by rfl, ?_⟩) hHeld ?_ ?_
     rotate_left
     ·
      intro w' s0
      go_simp
      with_reducible rfl
     rotate_left
     ·
      simp only [Act.put, List.setIfInBounds_toArray, List.set_cons_zero, List.set_cons_succ, i64_w, i32_w]
      rfl
     refine one_ (i := 6) (N := some 33) #[true, true, true, true, true, true, true, false, false] rfl rfl (one_of HT_.out (by kernel_rfl)) (by decide) (fun K hK => ?_)
     refine goes_ Tryd.func70 (by kernel_rfl) rfl #[.agg #[.slice A0_0 l0_0.length c0_0], .agg #[.string a1, .slice Ao26 y290.length co26, .slice none 0 0]] (by rfl) rfl rfl (by (try simp only [List.map_toArray, List.map_cons, List.map_nil]); first | done | rfl | (simp only [List.length_drop, List.length_take]; rfl)) ?_
     refine (spec_l03Put.calls kj4 _ _ l0_0 a1 _ _ y290 _ _ ([] : List Int) t294 _ ?side1 ?side2 ?side3 ?side4 ?side5 ?side6 A23.out).mono ?_
     (case side1 => repeat (first | exact (C_below HR0_0.out HB.out) | (with_reducible refine C_alloc ?_ _) | (with_reducible refine C_drewN ?_ _) | (with_reducible refine C_drew ?_)))
     (case side2 => exact HC0_0.out)
     (case side3 => repeat (first | exact (by repeat (first | (with_reducible exact HR293.out) | (with_reducible refine C_alloc ?_ _) | (with_reducible refine C_drewN ?_ _) | (with_reducible refine C_drew ?_) | exact HR293.out)) | (with_reducible refine C_alloc ?_ _) | (with_reducible refine C_drewN ?_ _) | (with_reducible refine C_drew ?_)))
     (case side4 => exact HC293.out)
     (case side5 => exact C_nil _ _)
     (case side6 => exact Nat.le_refl _)
     rintro e w27 ⟨v295, rfl, ho0, hb⟩
     refine ⟨_, rfl, ?_⟩
     have HO296 := Zh (S_lower (S_new' ho0 (R_lt (ZR HO_8.out))) (below_size Zs))
     replace HO_8 := Zh (R_below (ZR HO_8.out) hb)
     replace BK280 := Zh (Zm (g := gb280) (o := .cells #[.slice A0_0 l0_0.length c0_0] 29 (0, 0)) Zk hb)
     replace BK281 := Zh (Zm (g := gb281) (o := .cells #[.slice none 0 0] 29 (0, 0)) Zk hb)
     replace HR293 := Zh (C_below (by repeat (first | (with_reducible exact HR293.out) | (with_reducible refine C_alloc ?_ _) | (with_reducible refine C_drewN ?_ _) | (with_reducible refine C_drew ?_) | exact HR293.out)) hb)
     replace HB := Zh (Zl Zs hb)
     (try clear hb)
     (try clear hb2)
     (try clear hk)
     (try clear hi)
     (try clear ho0)
     obtain ⟨Ao28, co28, eo28⟩ := S_slice HO296.out
     (first | subst eo28 | (injection eo28 with f1_ f2_ f3_; have f4_ := f1_.symm; have f5_ := f3_.symm; clear f1_ f2_ f3_; subst f4_; subst f5_))
     refine hK.out _ _ ((blk_cell BK280.out 0).trans rfl) (fun hHeld => ?_)
     clear hK K
     refine norm_ (a' := ?_) ?_ ?_
     rotate_left
     ·
      show Act.put _ (some 33) _ = _
      simp only [Act.put, List.setIfInBounds_toArray, List.set_cons_zero, List.set_cons_succ, i64_w, i32_w]
      rfl
     refine one_ (i := 7) (N := none) #[true, true, true, true, true, true, true, true, false] rfl rfl (one_of HT_.out (by kernel_rfl)) (by decide) (fun K hK => ?_)
     have hs29 : w27.cell? ⟨gb281, 0, none⟩ = some (.slice none 0 0) := (blk_cell BK281.out 0).trans rfl
     have hfs29 := Zn BK281.out 0
     have hns29_0 := NB280_281.out
     have hms29_0 := NB281_280.out
     refine skip_ (w1 := ?_) (by rfl) rfl ?_ ?_
     rotate_left
     ·
      go_simp
      rfl
     refine hK.out _ _ (((cell_far (p := ⟨gb281, _, none⟩) NB280_281.out _).trans (hHeld))) (fun hHeld => ?_)
     clear hK K
     refine SQ.pu 8 7 HT_ ?_
     refine done_ (done_of HT_.out (by kernel_rfl)) ?_
     try go_wp2
     refine Zq (results_ct rfl _ _ gb281 29 #[.slice Ao28 t294.length co28] (0, 0) _ rfl (by (with_reducible repeat (first | refine Za ?_ _ | refine Zb ?_ | refine blk_alloc ?_ _)); refine blk_put (cs := #[.slice none 0 0]) ?_ 0 _ rfl; (with_reducible repeat (first | refine Za ?_ _ | refine Zb ?_ | refine blk_alloc ?_ _)); exact BK281.out) Tryd.underlying29 rfl (by kernel_rfl)) rfl ?_
     exact ⟨_, ZE, ZS (S_mono (S_far (p := ⟨gb281, 0, none⟩) (S_types HO296.out BK281.out (by decide)) (fun _ hk => hk.2) (.slice Ao28 t294.length co28)) (fun _ hk => trivial)), Zs⟩
    rw [if_neg c22] at H
    exact absurd H (by simp)
   rw [if_neg c21] at H
   exact absurd H (by simp)
end Go.Proofs.YtmgeffgcihfpcaaDoor.F
