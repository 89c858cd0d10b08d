/- Merged texts below the law FnFiles: Go functions as Lean functions, their contracts, and plain lemmas. -/
import Derived.Test.YtmgeffgcihfpcaaDoorQFnFiles13
import Derived.Test.YtmgeffgcihfpcaaDoorQFnFiles23
import Derived.Test.YtmgeffgcihfpcaaDoorQFnFiles26
namespace Go.Proofs.YtmgeffgcihfpcaaDoor.F
open Go.RowKit Go.Proofs.YtmgeffgcihfpcaaDoorW.PrintWords Go.Proofs.YtmgeffgcihfpcaaDoorW.PrintLast Go.Proofs.YtmgeffgcihfpcaaDoorW.PrintMore
open Go.Proofs.YtmgeffgcihfpcaaDoor
set_option linter.unusedVariables false
set_option linter.unusedSimpArgs false
def spec_l03Without.l0 : Nat → ByteArray → Int → List (S74) → List (S74) → Option ((List (S74)))
  | 0, _, _, _, _ => none
  | k + 1, a, x6, x, y => if x6 < (x.length : Int) then (if 0 ≤ x6 then (if ((rd_T74 x x6).f0).toList = a.toList then (spec_l03Without.l0 k a (wrap64 (x6 + 1)) x y) else (if y.length < 2199023255552 then (spec_l03Without.l0 k a (wrap64 (x6 + 1)) x (y ++ [rd_T74 x x6])) else (none))) else (none)) else ((spec_l03Copy.f k y).bind fun t287 => (some t287))
def spec_l03Without.f (k : Nat) (l0_0 : List (S74)) (a1 : ByteArray) : Option ((List (S74))) := spec_l03Without.l0 k a1 0 l0_0 ([] : List (S74))
set_option maxHeartbeats 8000000 in
set_option maxRecDepth 100000 in
theorem spec_l03Without.calls (k : Nat) (A0_0 : Option Addr) (c0_0 : Nat) (l0_0 : List (S74)) (a1 : ByteArray) (r : List (S74)) (w : World) (hr0_0 : Kd.C k74 w A0_0 l0_0.length l0_0) (hc0_0 : l0_0.length ≤ c0_0) (h : spec_l03Without.f k l0_0 a1 = some r) :
    Calls Tryd.prog 67 #[.agg #[.slice A0_0 l0_0.length c0_0], .string a1] w fun e w' => ∃ v0_ : Value, e = .returned (.agg #[v0_]) ∧ Kd.S k74 74 w' w.heap.size (fun _ => True) v0_ r ∧ Below w.heap.size w w' := by
  have HR := Zh hr0_0
  clear hr0_0 hc0_0
  have ST := Zh (LW.St.start w)
  have hu29 := Tryd.underlying29
  have hu74 := Tryd.underlying74
  have H := Zh (show spec_l03Without.l0 k a1 0 l0_0 [] = some r from h)
  clear h
  go_enter Tryd.func67, Tryd.ntmps67
  go_wp2_with fail
  replace ST := Zh (ST.out.alloc #[.slice A0_0 l0_0.length c0_0] 29 (g := w.heap.size) rfl)
  replace ST := Zh (ST.out.alloc #[.slice none 0 0] 29 (g := w.heap.size + 1) (by simp))
  replace ST := Zh (ST.out.alloc #[.slice none 0 0] 29 (g := w.heap.size + 2) (by simp))
  replace ST := Zh (LW.St.pick0 (d := k74) (e := 74) (B := w.heap.size) ST.out)
  generalize hW : (((w.alloc (.cells #[.slice A0_0 l0_0.length c0_0] 29)).alloc (.cells #[.slice none 0 0] 29)).alloc (.cells #[.slice none 0 0] 29)) = W at ST ⊢
  clear hW
  go_loopg [6] k (fun kq v6 w' => ∃ (x6 : Int) (y : List S74) (Ao : Option Addr) (co : Nat), v6 = .int .i64 x6 ∧ Aside0 (spec_l03Without.l0 kq a1 x6 l0_0 y = some r) ∧ Aside0 (LW.St w w' [LW.pick k74 74 w.heap.size w (.slice Ao y.length co) y, LW.box (w.heap.size + 2) #[.slice Ao y.length co] 29, LW.box (w.heap.size + 1) #[.slice none 0 0] 29, LW.box w.heap.size #[.slice A0_0 l0_0.length c0_0] 29]))
  case atStart => exact ⟨0, [], none, 0, rfl, H, ST⟩
  case round =>
    clear H ST
    obtain ⟨x6, y, Ao, co, rfl, HA, ST⟩ := hrel
    cases gk with
    | zero => exact absurd HA.out (by simp [spec_l03Without.l0])
    | succ k1 =>
      have H := HA.out
      clear HA
      simp only [spec_l03Without.l0] at H
      have hc0 := ST.out.cell 3 rfl 0 (u := .slice A0_0 l0_0.length c0_0) rfl
      have hc4 := ST.out.cell 1 rfl 0 (u := .slice Ao y.length co) rfl
      have hl0 := ST.out.lt 3 rfl
      have hl4 := ST.out.lt 1 rfl
      by_cases c6 : x6 < (l0_0.length : Int)
      · rw [if_pos c6] at H
        have q7 := decide_eq_true c6
        by_cases p0 : 0 ≤ x6
        · rw [if_pos p0] at H
          obtain ⟨ad, B1, d1, B2, d2, e, E0, E1, E2, g1, g2, g3, g4⟩ := at_T74 HR.out x6 p0 c6
          have HKd := Zh (k74_mk w (rd_T74 l0_0 x6) g1 g2 g3 g4)
          cases e
          have hx0 := (ST.out.b.cell (Zi w _ E0)).trans E0
          have hx1 := (ST.out.b.cell (Zi w _ E1)).trans E1
          have hx2 := (ST.out.b.cell (Zi w _ E2)).trans E2
          have HE0 := Zh E0
          have HE1 := Zh E1
          have HE2 := Zh E2
          clear E0 E1 E2 g1 g2 g3 g4
          have p1 := eq_true p0
          have p2 := eq_true c6
          clear p0 c6
          by_cases ceq : ((rd_T74 l0_0 x6).f0).toList = a1.toList
          · rw [if_pos ceq] at H
            have q9 : (((rd_T74 l0_0 x6).f0).toList == a1.toList) = true := beq_iff_eq.mpr ceq
            have H' := Zh H
            clear H ceq
            go_wp2
            go_roundg k1
            case measure => omega
            case rel => exact ⟨_, _, _, _, rfl, H', ST⟩
          · rw [if_neg ceq] at H
            have q9 : (((rd_T74 l0_0 x6).f0).toList == a1.toList) = false := by rw [beq_eq_false_iff_ne]; exact ceq
            by_cases cm : y.length < 2199023255552
            · rw [if_pos cm] at H
              have HLM := Zh cm
              have H' := Zh H
              clear H ceq cm
              go_wp2_with fail
              clear hc0 hc4 hl0 hl4
              clear hx0 hx1 hx2
              replace ST := Zh ST.out.drew
              have hx0 := (ST.out.b.cell (Zi w _ HE0.out)).trans HE0.out
              have hx1 := (ST.out.b.cell (Zi w _ HE1.out)).trans HE1.out
              have hx2 := (ST.out.b.cell (Zi w _ HE2.out)).trans HE2.out
              refine start_ (n := 11) (S := fun w' => w'.cell? ⟨w.heap.size + 2, 0, none⟩ = some (.slice Ao y.length co) ∧ w'.cell? ⟨w.heap.size, 0, none⟩ = some (.slice (some ad) l0_0.length c0_0) ∧ w'.cell? (ad.add (x6.toNat * 3)) = some (.string (rd_T74 l0_0 x6).f0) ∧ w'.cell? ⟨(ad.add (x6.toNat * 3)).block, (ad.add (x6.toNat * 3)).off + 1, none⟩ = some (.slice B1 (rd_T74 l0_0 x6).f1.length d1) ∧ w'.cell? ⟨(ad.add (x6.toNat * 3)).block, (ad.add (x6.toNat * 3)).off + 2, none⟩ = some (.slice B2 (rd_T74 l0_0 x6).f2.length d2)) (ds := [8, 10]) #[false, false, false, false, false, false, false, false, false, false, false] (by kernel_rfl) rfl rfl ⟨ST.out.cell 1 rfl 0 rfl, ST.out.cell 3 rfl 0 rfl, hx0, hx1, hx2⟩ (fun hHeld => ?_)
              generalize wr.drew = w6 at ST hHeld hx0 hx1 hx2 ⊢
              refine SQ.p0 0 23 ?_
              refine SQ.p0 2 25 ?_
              refine SQ.p0 4 27 ?_
              refine SQ.t0 1 24 hHeld ?_
              refine SQ.t0 3 26 hHeld ?_
              refine SQ.p0 5 28 ?_
              refine SQ.t0 6 29 hHeld ?_
              refine one_ (i := 7) (N := some 30) #[true, true, true, true, true, true, true, true, false, false, false] rfl rfl (by kernel_rfl) (by decide) (fun K hK => ?_)
              refine value_ (w1 := ?_) (v := ?_) (by rfl) rfl ?_ ?_
              rotate_left 2
              · go_simp
                constructor
                · rfl
                · rfl
              refine hK.out _ _ ⟨(World.cell?_alloc_lt _ _ _ (Zi _ _ hHeld.1)).trans hHeld.1, (World.cell?_alloc_lt _ _ _ (Zi _ _ hHeld.2.1)).trans hHeld.2.1, (World.cell?_alloc_lt _ _ _ (Zi _ _ hHeld.2.2.1)).trans hHeld.2.2.1, (World.cell?_alloc_lt _ _ _ (Zi _ _ hHeld.2.2.2.1)).trans hHeld.2.2.2.1, (World.cell?_alloc_lt _ _ _ (Zi _ _ hHeld.2.2.2.2)).trans hHeld.2.2.2.2⟩ (fun hHeld => ?_)
              clear hK K
              refine norm_ (a' := ?_) ?_ ?_
              rotate_left
              · show Act.put _ (some 30) _ = _
                simp only [Act.put, List.setIfInBounds_toArray, List.set_cons_zero, List.set_cons_succ, i64_w, i32_w]
                rfl
              obtain ⟨rows, hrl, hrow, back⟩ := ST.out.picked 0 rfl
              have HRL := Zh hrl
              have HRW := Zh hrow
              have BK := Zh back
              clear hrl hrow back
              refine last_ (i := 8) (N := some 31) #[true, true, true, true, true, true, true, true, true, false, false] rfl rfl (by kernel_rfl) (by decide) (fun K hK => ?_)
              refine Kd.R_append_step (Kd.raw 3) (w0 := w) w.heap.size (by rfl) (.tmp 24) (.tmp 30) 27 74 (.agg #[(.string ⟨#[]⟩), (.slice none 0 0), (.slice none 0 0)]) 64 rfl Tryd.underlying27 info74 rfl (by decide) (by omega) (.slice Ao y.length co) rows [.string (rd_T74 l0_0 x6).f0, .slice B1 (rd_T74 l0_0 x6).f1.length d1, .slice B2 (rd_T74 l0_0 x6).f2.length d2] [.string (rd_T74 l0_0 x6).f0, .slice B1 (rd_T74 l0_0 x6).f1.length d1, .slice B2 (rd_T74 l0_0 x6).f2.length d2] (fun _ => True) (fun _ => False) (by rfl) (by rfl) ⟨rfl, rfl, k74.K_one HKd.out⟩ (fun _ h => h.elim) (fun _ _ => trivial) HRW.out ST.out.b ST.out.b.size (by have := HRL.out; have := HLM.out; omega) ?_
              intro v1 w2 q1 q2 q3 q4
              obtain ⟨A3, c3, hv⟩ := Kd.R_slice q1
              rw [show (rows ++ [([.string (rd_T74 l0_0 x6).f0, .slice B1 (rd_T74 l0_0 x6).f1.length d1, .slice B2 (rd_T74 l0_0 x6).f2.length d2] : List Value)]).length = y.length + 1 by simp [HRL.out]] at hv
              subst hv
              have ST2 := Zh (BK.out (rd_T74 l0_0 x6) _ _ _ HKd.out q1 q2 q3 q4)
              have hs1 := ST2.out.cell 1 rfl 0 (u := .slice Ao y.length co) rfl
              have hf1 := ST2.out.frozen 1 rfl 0
              have hl1 := ST2.out.lt 1 rfl
              clear q1 q2 q3 q4 hx0 hx1 hx2 hHeld
              refine hK.out _ _ ?_
              clear hK K
              refine norm_ (a' := ?_) ?_ ?_
              rotate_left
              · show Act.put _ (some 31) _ = _
                simp only [Act.put, List.setIfInBounds_toArray, List.set_cons_zero, List.set_cons_succ, i64_w, i32_w]
                rfl
              refine SQ.p0 9 32 ?_
              refine last_ (i := 10) (N := none) #[true, true, true, true, true, true, true, true, true, true, true] rfl rfl (by kernel_rfl) (by decide) (fun K hK => ?_)
              refine skip_ (w1 := ?_) (by rfl) rfl ?_ ?_
              rotate_left
              · go_simp
                rfl
              refine hK.out _ _ ?_
              clear hK K
              refine done_ (by kernel_rfl) ?_
              go_wp2
              replace ST := Zh (ST2.out.set 1 rfl 0 (.slice A3 (y.length + 1) c3))
              go_roundg k1
              case measure => omega
              case rel => exact ⟨_, _, A3, c3, rfl, H', by rw [List.length_append]; exact ST⟩
            · rw [if_neg cm] at H; exact absurd H (by simp)
        · rw [if_neg p0] at H; exact absurd H (by simp)
      · rw [if_neg c6] at H
        have q7 := decide_eq_false c6
        clear c6
        obtain ⟨t, HT, H⟩ := Option.bind_eq_some_iff.mp H
        obtain rfl := Option.some.inj H
        replace HT := Zh HT
        clear H
        go_wp2_with fail
        clear hc0 hc4 hl0 hl4
        with_reducible refine (spec_l03Copy.calls k1 _ _ y t _ (ST.out.picks 0 rfl).2.2 (ST.out.picks 0 rfl).2.1 HT.out).mono ?_
        rintro e w9 ⟨v9, rfl, ho, hb⟩
        obtain ⟨A9, c9, rfl⟩ := Kd.S_slice ho
        replace ST := Zh (ST.out.row hb ho)
        clear hb ho
        have hc6 := ST.out.cell 3 rfl 0 (u := .slice none 0 0) rfl
        have hl6 := ST.out.lt 3 rfl
        have hf6 := ST.out.frozen 3 rfl 0
        go_wp2
        replace ST := Zh (ST.out.set 3 rfl 0 (.slice A9 t.length c9))
        refine Zq (results_cell_row rfl _ _ (w.heap.size + 1) 29 #[.slice A9 t.length c9] (0, 0) _ rfl (ST.out.blk 3 rfl) Tryd.underlying29 rfl (by kernel_rfl)) rfl ?_
        exact ⟨_, rfl, Kd.S_mono (ST.out.own 0 rfl) (fun _ _ => trivial), ST.out.b⟩
end Go.Proofs.YtmgeffgcihfpcaaDoor.F
