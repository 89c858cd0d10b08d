/- Merged texts below the law FnExactWalAppend: Go functions as Lean functions, their contracts, and plain lemmas. -/
import Derived.Test.YtcgojdhbphocgaaDoorQFnExactWalAppend23
import Derived.Test.YtcgojdhbphocgaaDoorQFnExactWalAppend24
import Derived.Lib.SliceRun
import Derived.Deep.RegionLaw
import Derived.Lib.Overlaps
import Derived.Laws.Externs
import Derived.Laws.IdiomCopy
import Derived.Lib.AppendZerosOnto
import Derived.Laws.NewBlocks
namespace Go.Proofs.YtcgojdhbphocgaaDoor.F
open Go.RowKit Go.Proofs.YtcgojdhbphocgaaDoorW.PrintWords Go.Proofs.YtcgojdhbphocgaaDoorW.PrintLast Go.Proofs.YtcgojdhbphocgaaDoorW.PrintMore
open Go.Proofs.YtcgojdhbphocgaaDoor
set_option linter.unusedVariables false
set_option linter.unusedSimpArgs false
def spec_AppendFile.fin (k : Nat) (l0_0 : List S55) (a1 : ByteArray) (d f1 f2 : List Int) : Option (List S55 × Bool) := if (d.length : Int) > wrap64 (wrap64 (20000 - (f1.length : Int)) - (f2.length : Int)) then (spec_l03Copy.f k l0_0).bind fun o => some (o, false) else (spec_l01Join.f k f2 d).bind fun e => (spec_l03Put.f k l0_0 a1 f1 e).bind fun r => some (r, true)
def spec_AppendFile.f (k : Nat) (l0_0 : List S55) (a1 : ByteArray) (d : List Int) : Option (List S55 × Bool) := (spec_l03Find.f k l0_0 a1).bind fun i => (spec_DiskOk.f k l0_0).bind fun t => if t = true then (spec_l01Name.f k a1).bind fun n => if n = true then (if 0 ≤ i then (if i < (l0_0.length : Int) then spec_AppendFile.fin k l0_0 (rd_T55 l0_0 i).f0 d (rd_T55 l0_0 i).f1 (rd_T55 l0_0 i).f2 else none) else (if (l0_0.length : Int) = 8 then (spec_l03Copy.f k l0_0).bind fun o => some (o, false) else spec_AppendFile.fin k l0_0 a1 d [] [])) else (spec_l03Copy.f k l0_0).bind fun o => some (o, false) else (spec_l03Copy.f k l0_0).bind fun o => some (o, false)
set_option maxHeartbeats 8000000 in
set_option maxRecDepth 100000 in
theorem spec_AppendFile.calls (k : Nat) (P0_0_ : Nat → Prop) (A0_0 : Option Addr) (c0_0 : Nat) (l0_0 : List (S55)) (a1 : ByteArray) (A2 : Option Addr) (c2 : Nat) (l2 : List Int) (r1 : List (S55)) (r2 : Bool) (w : World) (hs0_0 : Kd.V k55 55 w w.heap.size (fun k_ => P0_0_ k_) (.slice A0_0 l0_0.length c0_0) l0_0) (hr2 : Kd.C (Kd.int .u8) w A2 l2.length l2) (hc2 : l2.length ≤ c2) (h : spec_AppendFile.f k l0_0 a1 l2 = some (r1, r2)) :
    Calls Tryd.prog 59 #[.agg #[.slice A0_0 l0_0.length c0_0], .string a1, .slice A2 l2.length c2] w fun e w' => ∃ v0_ : Value, e = .returned (.tuple #[.agg #[v0_], .bool r2]) ∧ Kd.N k55 55 w' w.heap.size (fun k_ => (P0_0_ k_ ∨ w.heap.size ≤ k_)) v0_ r1 ∧ Below w.heap.size w w' := by
  have HV := Zh (Kd.V_bound hs0_0)
  have HR := Zh (Kd.V_reads' hs0_0).2.2
  have HC := Zh (Kd.V_reads' hs0_0).2.1
  have HR2 := Zh hr2
  have HC2 := Zh hc2
  clear hs0_0 hr2 hc2
  have ST := Zh (LW.St.start w)
  have hu55 := Tryd.underlying55
  have hu28 := Tryd.underlying28
  unfold spec_AppendFile.f at h
  replace h := Option.bind_eq_some_iff.mp h
  obtain ⟨i, HA1, h⟩ := h
  replace h := Option.bind_eq_some_iff.mp h
  obtain ⟨t, HA2, h⟩ := h
  replace HA1 := Zh HA1
  replace HA2 := Zh HA2
  have H := Zh h
  clear h
  go_enter Tryd.func59, Tryd.ntmps59
  go_wp2_with fail
  replace ST := Zh (ST.out.alloc #[.slice A0_0 l0_0.length c0_0] 28 (g := w.heap.size) rfl)
  replace ST := Zh (ST.out.alloc #[.slice none 0 0] 28 (g := w.heap.size + 1) (by simp))
  replace ST := Zh (ST.out.alloc #[.string a1, .slice none 0 0, .slice none 0 0] 55 (g := w.heap.size + 2) (by simp))
  with_reducible refine (spec_l03Find.calls k _ _ l0_0 a1 i _ (Kd.C_below HR.out ST.out.b) HC.out HA1.out).mono ?_
  rintro e w2 ⟨rfl, hb⟩
  replace ST := Zh (ST.out.step hb)
  clear hb
  have hc1 := ST.out.cell 2 rfl 0 (u := .slice A0_0 l0_0.length c0_0) rfl
  have hl1 := ST.out.lt 2 rfl
  go_wp2_with fail
  with_reducible refine (spec_DiskOk.calls k _ _ l0_0 t _ (Kd.C_below HR.out ST.out.b) HC.out HA2.out).mono ?_
  rintro e w3 ⟨rfl, hb⟩
  replace ST := Zh (ST.out.step hb)
  clear hb hc1 hl1
  have hc1 := ST.out.cell 2 rfl 0 (u := .slice A0_0 l0_0.length c0_0) rfl
  have hl1 := ST.out.lt 2 rfl
  have h := H.out
  clear H
  by_cases ct : t = true
  · subst ct
    rw [if_pos rfl] at h
    replace h := Option.bind_eq_some_iff.mp h
    obtain ⟨n, HA3, h⟩ := h
    replace HA3 := Zh HA3
    have H := Zh h
    clear h
    go_wp2_with fail
    with_reducible refine (spec_l01Name.calls k a1 n _ HA3.out).mono ?_
    rintro e w4 ⟨rfl, nd, rfl⟩
    replace ST := Zh (ST.out.step (Zd (Below.refl _ _) nd))
    generalize w3.drewN nd = w4 at ST ⊢
    clear hc1 hl1
    have hc1 := ST.out.cell 2 rfl 0 (u := .slice A0_0 l0_0.length c0_0) rfl
    have hl1 := ST.out.lt 2 rfl
    have h := H.out
    clear H
    by_cases cn : n = true
    · subst cn
      rw [if_pos rfl] at h
      by_cases ci : 0 ≤ i
      · rw [if_pos ci] at h
        have cib : decide (0 ≤ i) = true := decide_eq_true ci
        by_cases cl : i < (l0_0.length : Int)
        · rw [if_pos cl] at h
          obtain ⟨ad, B1, d1, B2, d2, e0, hx0, hx1, hx2, hl1', hi1, hl2', hi2⟩ := at_T55 HR.out i ci cl
          cases e0
          obtain ⟨cs, hcs, hFK, hcc⟩ := Kd.V_get HV.out z55 i ci cl
          obtain ⟨E1, q1, E2, q2, rfl, ul1, ge1, ul2, ge2⟩ := k55_openF hFK
          have hv1 := hcc 1 _ rfl
          rw [add_field _ _ 1 (by omega)] at hv1
          replace hv1 := Option.some.inj (hv1.symm.trans hx1)
          injection hv1 with hva_ hvn_ hvc_
          rw [hva_] at ge1
          rw [hvc_] at ul1
          have HL1 := Zh (show Kd.V (Kd.int .u8) 5 _ w.heap.size _ _ ((rd_T55 l0_0 i).f1) from Kd.V_mk ul1 ge1)
          clear hva_ hvn_ hvc_ ge1 ul1
          have hv2 := hcc 2 _ rfl
          rw [add_field _ _ 2 (by omega)] at hv2
          replace hv2 := Option.some.inj (hv2.symm.trans hx2)
          injection hv2 with hva_ hvn_ hvc_
          rw [hva_] at ge2
          rw [hvc_] at ul2
          have HL2 := Zh (show Kd.V (Kd.int .u8) 5 _ w.heap.size _ _ ((rd_T55 l0_0 i).f2) from Kd.V_mk ul2 ge2)
          clear hva_ hvn_ hvc_ ge2 ul2 hcc hcs hFK hl1' hi1 hl2' hi2
          replace hx0 := (ST.out.b.cell (Zi w _ hx0)).trans hx0
          replace hx1 := (ST.out.b.cell (Zi w _ hx1)).trans hx1
          replace hx2 := (ST.out.b.cell (Zi w _ hx2)).trans hx2
          have p0 := eq_true ci
          have p1 := eq_true cl
          have hd0 := ST.out.cell 0 rfl 0 (u := .string a1) rfl
          have hd1 := ST.out.cell 0 rfl 1 (u := .slice none 0 0) rfl
          have hd2 := ST.out.cell 0 rfl 2 (u := .slice none 0 0) rfl
          have hdl := ST.out.lt 0 rfl
          have hf0 := ST.out.frozen 0 rfl 0
          have hf1 := ST.out.frozen 0 rfl 1
          have hf2 := ST.out.frozen 0 rfl 2
          have hne := ST.out.ne 0 2 (by decide) rfl rfl
          have hne' := hne.symm
          clear ci cl
          go_upto_region 9 with (fail)
          replace ST := Zh (ST.out.set 0 rfl 0 (.string (rd_T55 l0_0 i).f0))
          replace ST := Zh (ST.out.set 0 rfl 1 (.slice B1 (rd_T55 l0_0 i).f1.length d1))
          replace ST := Zh (ST.out.set 0 rfl 2 (.slice B2 (rd_T55 l0_0 i).f2.length d2))
          clear hx0 hx1 hx2 p0 p1 hd0 hd1 hd2 hdl hf0 hf1 hf2 hne hne' hc1 hl1
          generalize (((w4.setCell ⟨w.heap.size + 2, 0, none⟩ (.string (rd_T55 l0_0 i).f0)).setCell ⟨w.heap.size + 2, 1, none⟩ (.slice B1 (rd_T55 l0_0 i).f1.length d1)).setCell ⟨w.heap.size + 2, 2, none⟩ (.slice B2 (rd_T55 l0_0 i).f2.length d2)) = w5 at ST ⊢
          unfold spec_AppendFile.fin at h
          have hc1 := ST.out.cell 2 rfl 0 (u := .slice (some ad) l0_0.length c0_0) rfl
          have hl1 := ST.out.lt 2 rfl
          have hg1 := ST.out.cell 0 rfl 1 (u := .slice B1 ((rd_T55 l0_0 i).f1).length d1) rfl
          have hg2 := ST.out.cell 0 rfl 2 (u := .slice B2 ((rd_T55 l0_0 i).f2).length d2) rfl
          have hgl := ST.out.lt 0 rfl
          by_cases cg : (l2.length : Int) > wrap64 (wrap64 (20000 - (((rd_T55 l0_0 i).f1).length : Int)) - (((rd_T55 l0_0 i).f2).length : Int))
          · rw [if_pos cg] at h
            have cgb : decide (wrap64 (wrap64 (20000 - (((rd_T55 l0_0 i).f1).length : Int)) - (((rd_T55 l0_0 i).f2).length : Int)) < (l2.length : Int)) = true := decide_eq_true cg
            clear cg
            replace h := Option.bind_eq_some_iff.mp h
            obtain ⟨o, HAo, h⟩ := h
            obtain ⟨rfl, rfl⟩ := Prod.mk.inj (Option.some.inj h)
            clear h
            replace HAo := Zh HAo
            go_wp2_with fail
            with_reducible refine (spec_l03Copy.calls k _ _ l0_0 o _ (Kd.C_below HR.out ST.out.b) HC.out HAo.out).mono ?_
            rintro e w9 ⟨v9, rfl, ho, hb⟩
            obtain ⟨A9, c9, rfl⟩ := Kd.S_slice ho
            have hw := ST.out.b.size
            replace ST := Zh (ST.out.row hb ho)
            clear hb ho hc1 hl1
            have hc2 := ST.out.cell 2 rfl 0 (u := .slice none 0 0) rfl
            have hl2 := ST.out.lt 2 rfl
            have hf2 := ST.out.frozen 2 rfl 0
            go_wp2
            replace ST := Zh (ST.out.set 2 rfl 0 (.slice A9 o.length c9))
            refine bodyPost_ret (results_ct rfl _ _ (w.heap.size + 1) 28 #[.slice A9 o.length c9] (0, 0) _ rfl (ST.out.blk 2 rfl) Tryd.underlying28 rfl (by kernel_rfl)) rfl ?_
            exact ⟨_, rfl, Kd.N_mono (Kd.S_N (ST.out.own 0 rfl)) (fun k_ hk => .inr (Nat.le_trans hw hk.1)), ST.out.b⟩
          rw [if_neg cg] at h
          have cgb : decide (wrap64 (wrap64 (20000 - (((rd_T55 l0_0 i).f1).length : Int)) - (((rd_T55 l0_0 i).f2).length : Int)) < (l2.length : Int)) = false := decide_eq_false cg
          clear cg
          replace h := Option.bind_eq_some_iff.mp h
          obtain ⟨e, HB1, h⟩ := h
          replace h := Option.bind_eq_some_iff.mp h
          obtain ⟨r, HB2, h⟩ := h
          obtain ⟨rfl, rfl⟩ := Prod.mk.inj (Option.some.inj h)
          clear h
          replace HB1 := Zh HB1
          replace HB2 := Zh HB2
          go_wp2_with fail
          refine (spec_l01Join.calls k _ _ ((rd_T55 l0_0 i).f2) _ _ l2 e _ (Kd.C_below (Kd.V_reads' HL2.out).2.2 ST.out.b) (Kd.V_reads' HL2.out).2.1 (Kd.C_below HR2.out ST.out.b) HC2.out HB1.out).mono ?_
          rintro e_ w6 ⟨v6, rfl, ho, hb⟩
          obtain ⟨A6, c6, rfl⟩ := Kd.R_slice ho
          have hz := ST.out.lt 1 rfl
          replace ST := Zh (ST.out.rowR rfl hb ho)
          clear hb ho hc1 hl1 hg1 hg2 hgl
          have hc1 := ST.out.cell 3 rfl 0 (u := .slice (some ad) l0_0.length c0_0) rfl
          have hl1 := ST.out.lt 3 rfl
          have hg0 := ST.out.cell 1 rfl 0 (u := .string (rd_T55 l0_0 i).f0) rfl
          have hg1 := ST.out.cell 1 rfl 1 (u := .slice B1 ((rd_T55 l0_0 i).f1).length d1) rfl
          have hg2 := ST.out.cell 1 rfl 2 (u := .slice B2 ((rd_T55 l0_0 i).f2).length d2) rfl
          have hgl := ST.out.lt 1 rfl
          have hgf := ST.out.frozen 1 rfl 2
          have hne := ST.out.ne 1 3 (by decide) rfl rfl
          have hne' := hne.symm
          go_wp2_with fail
          replace ST := Zh (ST.out.set 1 rfl 2 (.slice A6 e.length c6))
          generalize hW : w6.setCell ⟨w.heap.size + 2, 2, none⟩ (.slice A6 e.length c6) = w7 at ST ⊢
          clear hW hc1 hl1 hg0 hg1 hg2 hgl hgf hne hne'
          refine (spec_l03Put.calls k _ _ _ l0_0 (rd_T55 l0_0 i).f0 _ _ _ ((rd_T55 l0_0 i).f1) _ _ _ e r _ (Kd.V_map (Kd.V_below HV.out ST.out.b) (fun _ hf => hf)) (Kd.V_map (Kd.V_below HL1.out ST.out.b) (fun _ hf => hf)) (Kd.N_V (Kd.S_N (ST.out.own 0 rfl))) HB2.out).mono ?_
          rintro e_ w8 ⟨v8, rfl, ho, hb⟩
          have hy := ST.out.b.size
          have HN := Zh ho
          obtain ⟨A8, c8, rfl⟩ := Kd.N_slice ho
          have hy2 := ST.out.lt 2 rfl
          replace ST := Zh (ST.out.step hb)
          clear hb ho
          have hc2 := ST.out.cell 2 rfl 0 (u := .slice none 0 0) rfl
          have hl2 := ST.out.lt 2 rfl
          have hf2 := ST.out.frozen 2 rfl 0
          go_wp2
          replace ST := Zh (ST.out.set 2 rfl 0 (.slice A8 r.length c8))
          refine bodyPost_ret (results_ct rfl _ _ (w.heap.size + 1) 28 #[.slice A8 r.length c8] (0, 0) _ rfl (ST.out.blk 2 rfl) Tryd.underlying28 rfl (by kernel_rfl)) rfl ?_
          refine ⟨_, rfl, Kd.N_mono (Kd.N_far (Kd.N_lower HN.out (by omega)) (fun k_ hk => ?_) _) (fun k_ hk => ?_), ST.out.b⟩
          · show k_ ≠ w.heap.size + 1
            rcases hk with (hk | hk | hk) | hk
            · have := hk.2; omega
            · have := hk.2; omega
            · have := hk.1; omega
            omega
          rcases hk with (hk | hk | hk) | hk
          · exact .inl hk.1
          · exact .inl hk.1
          · exact .inr (by have := hk.1; omega)
          exact .inr (by omega)
        rw [if_neg cl] at h; exact absurd h (by simp)
      rw [if_neg ci] at h
      have cib : decide (0 ≤ i) = false := decide_eq_false ci
      by_cases c8 : (l0_0.length : Int) = 8
      · rw [if_pos c8] at h
        have c8b : ((l0_0.length : Int) == 8) = true := beq_iff_eq.mpr c8
        clear c8
        replace h := Option.bind_eq_some_iff.mp h
        obtain ⟨o, HAo, h⟩ := h
        obtain ⟨rfl, rfl⟩ := Prod.mk.inj (Option.some.inj h)
        clear h
        replace HAo := Zh HAo
        go_wp2_with fail
        with_reducible refine (spec_l03Copy.calls k _ _ l0_0 o _ (Kd.C_below HR.out ST.out.b) HC.out HAo.out).mono ?_
        rintro e w9 ⟨v9, rfl, ho, hb⟩
        obtain ⟨A9, c9, rfl⟩ := Kd.S_slice ho
        have hw := ST.out.b.size
        replace ST := Zh (ST.out.row hb ho)
        clear hb ho hc1 hl1
        have hc2 := ST.out.cell 2 rfl 0 (u := .slice none 0 0) rfl
        have hl2 := ST.out.lt 2 rfl
        have hf2 := ST.out.frozen 2 rfl 0
        go_wp2
        replace ST := Zh (ST.out.set 2 rfl 0 (.slice A9 o.length c9))
        refine bodyPost_ret (results_ct rfl _ _ (w.heap.size + 1) 28 #[.slice A9 o.length c9] (0, 0) _ rfl (ST.out.blk 2 rfl) Tryd.underlying28 rfl (by kernel_rfl)) rfl ?_
        exact ⟨_, rfl, Kd.N_mono (Kd.S_N (ST.out.own 0 rfl)) (fun k_ hk => .inr (Nat.le_trans hw hk.1)), ST.out.b⟩
      rw [if_neg c8] at h
      have c8b : ((l0_0.length : Int) == 8) = false := beq_eq_false_iff_ne.mpr c8
      clear c8
      have HL1 := Zh (show Kd.V (Kd.int .u8) 5 w w.heap.size (fun k => P0_0_ k ∧ k < w.heap.size) (.slice none ([] : List Int).length 0) [] from Kd.V_nil _ _ _ _ _)
      have HL2 := HL1
      unfold spec_AppendFile.fin at h
      have hc1 := ST.out.cell 2 rfl 0 (u := .slice A0_0 l0_0.length c0_0) rfl
      have hl1 := ST.out.lt 2 rfl
      have hg1 := ST.out.cell 0 rfl 1 (u := .slice none (([] : List Int)).length 0) rfl
      have hg2 := ST.out.cell 0 rfl 2 (u := .slice none (([] : List Int)).length 0) rfl
      have hgl := ST.out.lt 0 rfl
      by_cases cg : (l2.length : Int) > wrap64 (wrap64 (20000 - ((([] : List Int)).length : Int)) - ((([] : List Int)).length : Int))
      · rw [if_pos cg] at h
        have cgb : decide (wrap64 (wrap64 (20000 - ((([] : List Int)).length : Int)) - ((([] : List Int)).length : Int)) < (l2.length : Int)) = true := decide_eq_true cg
        have cgp : (20000 : Int) < (l2.length : Int) := by simpa [wrap64] using cg
        have cgq := eq_true cgp
        clear cg
        replace h := Option.bind_eq_some_iff.mp h
        obtain ⟨o, HAo, h⟩ := h
        obtain ⟨rfl, rfl⟩ := Prod.mk.inj (Option.some.inj h)
        clear h
        replace HAo := Zh HAo
        go_wp2_with fail
        with_reducible refine (spec_l03Copy.calls k _ _ l0_0 o _ (Kd.C_below HR.out ST.out.b) HC.out HAo.out).mono ?_
        rintro e w9 ⟨v9, rfl, ho, hb⟩
        obtain ⟨A9, c9, rfl⟩ := Kd.S_slice ho
        have hw := ST.out.b.size
        replace ST := Zh (ST.out.row hb ho)
        clear hb ho hc1 hl1
        have hc2 := ST.out.cell 2 rfl 0 (u := .slice none 0 0) rfl
        have hl2 := ST.out.lt 2 rfl
        have hf2 := ST.out.frozen 2 rfl 0
        go_wp2
        replace ST := Zh (ST.out.set 2 rfl 0 (.slice A9 o.length c9))
        refine bodyPost_ret (results_ct rfl _ _ (w.heap.size + 1) 28 #[.slice A9 o.length c9] (0, 0) _ rfl (ST.out.blk 2 rfl) Tryd.underlying28 rfl (by kernel_rfl)) rfl ?_
        exact ⟨_, rfl, Kd.N_mono (Kd.S_N (ST.out.own 0 rfl)) (fun k_ hk => .inr (Nat.le_trans hw hk.1)), ST.out.b⟩
      rw [if_neg cg] at h
      have cgb : decide (wrap64 (wrap64 (20000 - ((([] : List Int)).length : Int)) - ((([] : List Int)).length : Int)) < (l2.length : Int)) = false := decide_eq_false cg
      have cgp : ¬ (20000 : Int) < (l2.length : Int) := by simpa [wrap64] using cg
      have cgr : (l2.length : Int) ≤ 20000 := by omega
      clear cg
      replace h := Option.bind_eq_some_iff.mp h
      obtain ⟨e, HB1, h⟩ := h
      replace h := Option.bind_eq_some_iff.mp h
      obtain ⟨r, HB2, h⟩ := h
      obtain ⟨rfl, rfl⟩ := Prod.mk.inj (Option.some.inj h)
      clear h
      replace HB1 := Zh HB1
      replace HB2 := Zh HB2
      go_wp2_with fail
      refine (spec_l01Join.calls k _ _ (([] : List Int)) _ _ l2 e _ (Kd.C_below (Kd.V_reads' HL2.out).2.2 ST.out.b) (Kd.V_reads' HL2.out).2.1 (Kd.C_below HR2.out ST.out.b) HC2.out HB1.out).mono ?_
      rintro e_ w6 ⟨v6, rfl, ho, hb⟩
      obtain ⟨A6, c6, rfl⟩ := Kd.R_slice ho
      have hz := ST.out.lt 1 rfl
      replace ST := Zh (ST.out.rowR rfl hb ho)
      clear hb ho hc1 hl1 hg1 hg2 hgl
      have hc1 := ST.out.cell 3 rfl 0 (u := .slice A0_0 l0_0.length c0_0) rfl
      have hl1 := ST.out.lt 3 rfl
      have hg0 := ST.out.cell 1 rfl 0 (u := .string a1) rfl
      have hg1 := ST.out.cell 1 rfl 1 (u := .slice none (([] : List Int)).length 0) rfl
      have hg2 := ST.out.cell 1 rfl 2 (u := .slice none (([] : List Int)).length 0) rfl
      have hgl := ST.out.lt 1 rfl
      have hgf := ST.out.frozen 1 rfl 2
      have hne := ST.out.ne 1 3 (by decide) rfl rfl
      have hne' := hne.symm
      go_wp2_with fail
      replace ST := Zh (ST.out.set 1 rfl 2 (.slice A6 e.length c6))
      generalize hW : w6.setCell ⟨w.heap.size + 2, 2, none⟩ (.slice A6 e.length c6) = w7 at ST ⊢
      clear hW hc1 hl1 hg0 hg1 hg2 hgl hgf hne hne'
      refine (spec_l03Put.calls k _ _ _ l0_0 a1 _ _ _ (([] : List Int)) _ _ _ e r _ (Kd.V_map (Kd.V_below HV.out ST.out.b) (fun _ hf => hf)) (Kd.V_map (Kd.V_below HL1.out ST.out.b) (fun _ hf => hf)) (Kd.N_V (Kd.S_N (ST.out.own 0 rfl))) HB2.out).mono ?_
      rintro e_ w8 ⟨v8, rfl, ho, hb⟩
      have hy := ST.out.b.size
      have HN := Zh ho
      obtain ⟨A8, c8, rfl⟩ := Kd.N_slice ho
      have hy2 := ST.out.lt 2 rfl
      replace ST := Zh (ST.out.step hb)
      clear hb ho
      have hc2 := ST.out.cell 2 rfl 0 (u := .slice none 0 0) rfl
      have hl2 := ST.out.lt 2 rfl
      have hf2 := ST.out.frozen 2 rfl 0
      go_wp2
      replace ST := Zh (ST.out.set 2 rfl 0 (.slice A8 r.length c8))
      refine bodyPost_ret (results_ct rfl _ _ (w.heap.size + 1) 28 #[.slice A8 r.length c8] (0, 0) _ rfl (ST.out.blk 2 rfl) Tryd.underlying28 rfl (by kernel_rfl)) rfl ?_
      refine ⟨_, rfl, Kd.N_mono (Kd.N_far (Kd.N_lower HN.out (by omega)) (fun k_ hk => ?_) _) (fun k_ hk => ?_), ST.out.b⟩
      · show k_ ≠ w.heap.size + 1
        rcases hk with (hk | hk | hk) | hk
        · have := hk.2; omega
        · have := hk.2; omega
        · have := hk.1; omega
        omega
      rcases hk with (hk | hk | hk) | hk
      · exact .inl hk.1
      · exact .inl hk.1
      · exact .inr (by have := hk.1; omega)
      exact .inr (by omega)
    rw [if_neg cn] at h
    obtain rfl : n = false := by simpa using cn
    clear cn
    replace h := Option.bind_eq_some_iff.mp h
    obtain ⟨o, HAo, h⟩ := h
    obtain ⟨rfl, rfl⟩ := Prod.mk.inj (Option.some.inj h)
    clear h
    replace HAo := Zh HAo
    go_wp2_with fail
    with_reducible refine (spec_l03Copy.calls k _ _ l0_0 o _ (Kd.C_below HR.out ST.out.b) HC.out HAo.out).mono ?_
    rintro e w9 ⟨v9, rfl, ho, hb⟩
    obtain ⟨A9, c9, rfl⟩ := Kd.S_slice ho
    have hw := ST.out.b.size
    replace ST := Zh (ST.out.row hb ho)
    clear hb ho hc1 hl1
    have hc2 := ST.out.cell 2 rfl 0 (u := .slice none 0 0) rfl
    have hl2 := ST.out.lt 2 rfl
    have hf2 := ST.out.frozen 2 rfl 0
    go_wp2
    replace ST := Zh (ST.out.set 2 rfl 0 (.slice A9 o.length c9))
    refine bodyPost_ret (results_ct rfl _ _ (w.heap.size + 1) 28 #[.slice A9 o.length c9] (0, 0) _ rfl (ST.out.blk 2 rfl) Tryd.underlying28 rfl (by kernel_rfl)) rfl ?_
    exact ⟨_, rfl, Kd.N_mono (Kd.S_N (ST.out.own 0 rfl)) (fun k_ hk => .inr (Nat.le_trans hw hk.1)), ST.out.b⟩
  rw [if_neg ct] at h
  obtain rfl : t = false := by simpa using ct
  clear ct
  replace h := Option.bind_eq_some_iff.mp h
  obtain ⟨o, HAo, h⟩ := h
  obtain ⟨rfl, rfl⟩ := Prod.mk.inj (Option.some.inj h)
  clear h
  replace HAo := Zh HAo
  go_wp2_with fail
  with_reducible refine (spec_l03Copy.calls k _ _ l0_0 o _ (Kd.C_below HR.out ST.out.b) HC.out HAo.out).mono ?_
  rintro e w9 ⟨v9, rfl, ho, hb⟩
  obtain ⟨A9, c9, rfl⟩ := Kd.S_slice ho
  have hw := ST.out.b.size
  replace ST := Zh (ST.out.row hb ho)
  clear hb ho hc1 hl1
  have hc2 := ST.out.cell 2 rfl 0 (u := .slice none 0 0) rfl
  have hl2 := ST.out.lt 2 rfl
  have hf2 := ST.out.frozen 2 rfl 0
  go_wp2
  replace ST := Zh (ST.out.set 2 rfl 0 (.slice A9 o.length c9))
  refine bodyPost_ret (results_ct rfl _ _ (w.heap.size + 1) 28 #[.slice A9 o.length c9] (0, 0) _ rfl (ST.out.blk 2 rfl) Tryd.underlying28 rfl (by kernel_rfl)) rfl ?_
  exact ⟨_, rfl, Kd.N_mono (Kd.S_N (ST.out.own 0 rfl)) (fun k_ hk => .inr (Nat.le_trans hw hk.1)), ST.out.b⟩
end Go.Proofs.YtcgojdhbphocgaaDoor.F

namespace Go.Proofs.YtcgojdhbphocgaaDoor.F
open Go.RowKit Go.Proofs.YtcgojdhbphocgaaDoorW.PrintWords Go.Proofs.YtcgojdhbphocgaaDoorW.PrintWords.Kd Go.Proofs.YtcgojdhbphocgaaDoorW.PrintMore.Kd Go.Proofs.YtcgojdhbphocgaaDoorW.PrintLast Go.Proofs.YtcgojdhbphocgaaDoorW.PrintMore
attribute [local go_sem] max2_int min2_int max_two min_two max_three min_three max_four min_four   -- for this text's walks alone
set_option linter.unusedVariables false
set_option linter.unusedSimpArgs false
def spec_l02Four.f (a0 : Int) : Option (List Int) := some (([(Int.tmod a0 256) % 256, ((Int.tdiv a0 256) % 4294967296) % 256, ((Int.tdiv a0 65536) % 4294967296) % 256, ((Int.tdiv a0 16777216) % 4294967296) % 256] : List Int))
set_option maxHeartbeats 8000000 in
set_option maxRecDepth 100000 in
theorem spec_l02Four.calls (a0 : Int) (r : List Int) (w : World) (h : spec_l02Four.f a0 = some r) :
  Calls Tryd.prog 88 #[.int .u32 a0] w fun e w' => ∃ v0_ : Value, e = .returned (v0_) ∧ Kd.R (Kd.int .u8) 5 w' w.heap.size (fun _ => True) v0_ r ∧ Below w.heap.size w w' := by
 have HB := Zh (Below.refl w.heap.size w)
 have H : (some (([(Int.tmod a0 256) % 256, ((Int.tdiv a0 256) % 4294967296) % 256, ((Int.tdiv a0 65536) % 4294967296) % 256, ((Int.tdiv a0 16777216) % 4294967296) % 256] : List Int))) = some r := h
 clear h
 obtain ⟨y338, hy338⟩ : ∃ y_ : List Int, y_ = (([(Int.tmod a0 256) % 256, ((Int.tdiv a0 256) % 4294967296) % 256, ((Int.tdiv a0 65536) % 4294967296) % 256, ((Int.tdiv a0 16777216) % 4294967296) % 256] : List Int)) := ⟨_, rfl⟩
 replace H : (some y338) = some r := by first | (rw [hy338]; with_reducible exact H) | (have H2_ := (Option.bind_some _ _).symm.trans H; rw [hy338]; with_reducible exact H2_) | (have H2_ := (Option.bind_some _ _).symm.trans H; with_reducible exact H2_) | with_reducible exact H | (rw [hy338]; exact H) | exact H
 have Ny338 := Zh hy338
 clear hy338
 obtain rfl := Option.some.inj H
 go_enter Tryd.func88, Tryd.ntmps88
 go_wp2_with (first | ((with_reducible refine gate_dst (N := 17) rfl ?_); refine R_lit (Kd.int .u8) _ 5 ?hg (N := 17) ?hd (xs := ([(Int.tmod a0 256) % 256, ((Int.tdiv a0 256) % 4294967296) % 256, ((Int.tdiv a0 65536) % 4294967296) % 256, ((Int.tdiv a0 16777216) % 4294967296) % 256] : List Int)) (inner := [.int .u8 ((Int.tmod a0 256) % 256), .int .u8 (((Int.tdiv a0 256) % 4294967296) % 256), .int .u8 (((Int.tdiv a0 65536) % 4294967296) % 256), .int .u8 (((Int.tdiv a0 16777216) % 4294967296) % 256)]) (ok := fun _ => True) (okp := fun _ => True) ?hr ?hp (fun _ hk => hk) trivial (Below.refl _ _) (Nat.le_refl _) (by simp) ?_; (case hd => rfl); (case hg => rfl); (case hr => first | (go_simp; done) | (go_simp; rfl)); (case hp => exact (Reps.one (show Kd.M (Kd.int .u8) _ _ _ ((Int.tmod a0 256) % 256) [.int .u8 ((Int.tmod a0 256) % 256)] from rfl) (Reps.one (show Kd.M (Kd.int .u8) _ _ _ (((Int.tdiv a0 256) % 4294967296) % 256) [.int .u8 (((Int.tdiv a0 256) % 4294967296) % 256)] from rfl) (Reps.one (show Kd.M (Kd.int .u8) _ _ _ (((Int.tdiv a0 65536) % 4294967296) % 256) [.int .u8 (((Int.tdiv a0 65536) % 4294967296) % 256)] from rfl) (Reps.one (show Kd.M (Kd.int .u8) _ _ _ (((Int.tdiv a0 16777216) % 4294967296) % 256) [.int .u8 (((Int.tdiv a0 16777216) % 4294967296) % 256)] from rfl) (Reps.none _ _)))))); intro v339 w2 ho3 hb hg_ hnew_; clear hg_ hnew_; (first | rw [← Ny338.out] at ho3 | (simp only [Int.reduceToNat] at ho3; rw [← Ny338.out] at ho3)); have n0_ := Zh (R_lower ho3 (below_size Zs)); have n1_ := Zh (Zl Zs hb); clear HB; have HO340 := n0_; have HB := n1_; clear n0_ n1_; clear hb ho3))
 go_ret
 exact ⟨_, by first | rfl | (simp [errW_none, errW_some] <;> rfl) | (simp [*, errW_none, errW_some] <;> rfl), by (with_reducible repeat (first | apply R_alloc | apply R_drewN | apply R_drew)); exact HO340.out, by repeat (first | (with_reducible first | exact HB.out | apply Zf | apply Zd | apply Ze) | exact HB.out)⟩
mutual
def spec_Crc32.l0 : Nat → List Int → Int → Int → Option (Int)
 | 0, _, _, _ => none
 | k + 1, x0, x3, x4 => if x4 < (x0.length : Int) then (if 0 ≤ x4 then (spec_Crc32.l1 k x0 (Go.bits .xor .u32 x3 ((rd x0 x4) % 4294967296)) x4 0) else (none)) else (some (Go.bits .xor .u32 x3 4294967295))
def spec_Crc32.l1 : Nat → List Int → Int → Int → Int → Option (Int)
 | 0, _, _, _, _ => none
 | k + 1, x0, x3, x4, x5 => if x5 < 8 then (if (Int.tmod x3 2) = 1 then (spec_Crc32.l1 k x0 (Go.bits .xor .u32 ((Int.tdiv x3 2) % 4294967296) 3988292384) x4 (wrap64 (x5 + 1))) else (spec_Crc32.l1 k x0 ((Int.tdiv x3 2) % 4294967296) x4 (wrap64 (x5 + 1)))) else (spec_Crc32.l0 k x0 x3 (wrap64 (x4 + 1)))
end
def spec_Crc32.f (k : Nat) (l0 : List Int) : Option (Int) := if (l0.length : Int) > 20000 then (some 0) else (spec_Crc32.l0 k l0 4294967295 0)
set_option maxHeartbeats 8000000 in
set_option maxRecDepth 100000 in
theorem spec_Crc32.calls (k : Nat) (A0 : Option Addr) (c0 : Nat) (l0 : List Int) (r : Int) (w : World) (hr0 : Kd.C (Kd.int .u8) w A0 l0.length l0) (hc0 : l0.length ≤ c0) (h : spec_Crc32.f k l0 = some r) :
  Calls Tryd.prog 89 #[.slice A0 l0.length c0] w fun e w' => e = .returned (.int .u32 r) ∧ Drawn0 w w' := by
 have HR0 := Zh hr0
 have HC0 := Zh hc0
 clear hr0 hc0
 have H : (if (l0.length : Int) > 20000 then (some 0) else (spec_Crc32.l0 k l0 4294967295 0)) = some r := h
 clear h
 by_cases c2 : (l0.length : Int) > 20000
 ·
  rw [if_pos c2] at H
  have c2b0 : decide (20000 < (l0.length : Int)) = true := decide_eq_true c2
  have c2b1 : decide (20000 < l0.length) = true := decide_eq_true (by omega)
  clear c2
  obtain rfl := Option.some.inj H
  go_enter Tryd.func89, Tryd.ntmps89
  go_wp2
  go_ret
  exact ⟨by first | rfl | (simp; done) | (simp [*]; done), by repeat (first | exact Drawn0.refl _ | apply Drawn0.step)⟩
 rw [if_neg c2] at H
 have c2b0 : decide (20000 < (l0.length : Int)) = false := decide_eq_false c2
 have c2b1 : decide (20000 < l0.length) = false := decide_eq_false (by omega)
 clear c2
 have H' := Zh H
 clear H
 go_enter Tryd.func89, Tryd.ntmps89
 go_wp2
 go_loopg [3, 4] k (fun kq v3 v4 w' => ∃ (x3_1 : Int) (x4_1 : Int), v3 = .int .u32 x3_1 ∧ v4 = .int .i64 x4_1 ∧ Aside0 (spec_Crc32.l0 kq l0 x3_1 x4_1 = some r) ∧ Aside0 (kq ≤ k) ∧ Drawn0 w w')
 case atStart => exact ⟨(4294967295), (0), (by first | rfl | (simp; done) | (simp [*]; done)), (by first | rfl | (simp; done) | (simp [*]; done)), H', ⟨Nat.le_refl _⟩, by repeat (first | exact Drawn0.refl _ | apply Drawn0.step)⟩
 case round =>
  clear H'
  try clear c2
  try clear c2b0
  try clear c2b1
  try clear p2
  obtain ⟨x3_1, x4_1, rfl, rfl, HA, HK1, ⟨m1, rfl⟩⟩ := hrel
  cases gk with
  | zero => exact absurd HA.out (by simp [spec_Crc32.l0])
  | succ k1 =>
   have H := HA.out
   clear HA
   simp only [spec_Crc32.l0] at H
   by_cases c3 : x4_1 < (l0.length : Int)
   ·
    rw [if_pos c3] at H
    have c3b0 : decide (x4_1 < (l0.length : Int)) = true := decide_eq_true c3
    clear c3
    by_cases c4 : 0 ≤ x4_1
    ·
     rw [if_pos c4] at H
     have c4b0 : decide (0 ≤ x4_1) = true := decide_eq_true c4
     clear c4
     have H' := Zh H
     clear H
     have p341 : 0 ≤ (x4_1 : Int) := Zo
     have q341 : x4_1 < (l0.length : Int) := Zo
     obtain ⟨ad341, e341, hx341_0⟩ := Kd.at_int HR0.out x4_1 p341 q341
     cases e341
     replace p341 := eq_true p341
     replace q341 := eq_true q341
     go_wp2
     go_loopg [3, 5] k1 (fun kq v3 v5 w' => ∃ (x3_2 : Int) (x5_2 : Int), v3 = .int .u32 x3_2 ∧ v5 = .int .i64 x5_2 ∧ Aside0 (spec_Crc32.l1 kq l0 x3_2 x4_1 x5_2 = some r) ∧ Aside0 (kq ≤ k1) ∧ Drawn0 w w')
     case atStart => exact ⟨(Go.bits .xor .u32 x3_1 ((rd l0 x4_1) % 4294967296)), (0), (by first | rfl | (simp; done) | (simp [*]; done)), (by first | rfl | (simp; done) | (simp [*]; done)), H', ⟨Nat.le_refl _⟩, by repeat (first | exact Drawn0.refl _ | apply Drawn0.step)⟩
     case round =>
      clear H'
      try clear c2
      try clear c2b0
      try clear c2b1
      try clear p2
      try clear c3
      try clear c3b0
      try clear p3
      try clear q3
      try clear hx3
      try clear c4
      try clear c4b0
      try clear hx341_0
      try clear p2
      try clear p341
      try clear q341
      obtain ⟨x3_2, x5_2, rfl, rfl, HA, HK2, ⟨m2, rfl⟩⟩ := hrel
      cases gk with
      | zero => exact absurd HA.out (by simp [spec_Crc32.l1])
      | succ k2 =>
       have H := HA.out
       clear HA
       simp only [spec_Crc32.l1] at H
       by_cases c5 : x5_2 < 8
       ·
        rw [if_pos c5] at H
        have c5b0 : decide (x5_2 < 8) = true := decide_eq_true c5
        clear c5
        by_cases c6 : (Int.tmod x3_2 2) = 1
        ·
         rw [if_pos c6] at H
         have c6b0 : ((Int.tmod x3_2 2) == 1) = true := beq_iff_eq.mpr c6
         have c6b1 : ((Int.tmod x3_2 2) != 1) = false := bne_eq_false_iff_eq.mpr c6
         clear c6
         have H' := Zh H
         clear H
         go_wp2
         go_roundg k2
         case measure => have := HK1.out; have := HK2.out; omega
         case rel => exact ⟨(Go.bits .xor .u32 ((Int.tdiv x3_2 2) % 4294967296) 3988292384), (wrap64 (x5_2 + 1)), (by first | rfl | (simp; done) | (simp [*]; done)), (by first | rfl | (simp; done) | (simp [*]; done)), H', ⟨by have := HK1.out; have := HK2.out; omega⟩, by repeat (first | exact Drawn0.refl _ | apply Drawn0.step)⟩
        rw [if_neg c6] at H
        have c6b0 : ((Int.tmod x3_2 2) == 1) = false := beq_eq_false_iff_ne.mpr c6
        have c6b1 : ((Int.tmod x3_2 2) != 1) = true := bne_iff_ne.mpr c6
        have H' := Zh H
        clear H
        go_wp2
        go_roundg k2
        case measure => have := HK1.out; have := HK2.out; omega
        case rel => exact ⟨((Int.tdiv x3_2 2) % 4294967296), (wrap64 (x5_2 + 1)), (by first | rfl | (simp; done) | (simp [*]; done)), (by first | rfl | (simp; done) | (simp [*]; done)), H', ⟨by have := HK1.out; have := HK2.out; omega⟩, by repeat (first | exact Drawn0.refl _ | apply Drawn0.step)⟩
       rw [if_neg c5] at H
       have c5b0 : decide (x5_2 < 8) = false := decide_eq_false c5
       clear c5
       have H' := Zh H
       clear H
       go_wp2
       go_roundg k2
       case measure => have := HK1.out; have := HK2.out; omega
       case rel => exact ⟨(x3_2), (wrap64 (x4_1 + 1)), (by first | rfl | (simp; done) | (simp [*]; done)), (by first | rfl | (simp; done) | (simp [*]; done)), H', ⟨by have := HK1.out; have := HK2.out; omega⟩, by repeat (first | exact Drawn0.refl _ | apply Drawn0.step)⟩
    rw [if_neg c4] at H
    exact absurd H (by simp)
   rw [if_neg c3] at H
   have c3b0 : decide (x4_1 < (l0.length : Int)) = false := decide_eq_false c3
   clear c3
   obtain rfl := Option.some.inj H
   go_wp2
   go_ret
   exact ⟨by first | rfl | (simp; done) | (simp [*]; done), by repeat (first | exact Drawn0.refl _ | apply Drawn0.step)⟩
def spec_Frame.f (k : Nat) (l0 : List Int) : Option (List Int) := (spec_l01In.f (l0.length : Int) 1 600).bind fun t342 => (if t342 = true then ((spec_l02Four.f (((l0.length : Int)) % 4294967296)).bind fun t343 => ((spec_Crc32.f k l0).bind fun t346 => ((spec_l02Four.f t346).bind fun t347 => ((spec_l01Join.f k t343 t347).bind fun t350 => ((spec_l01Join.f k t350 l0).bind fun t353 => (some t353)))))) else (some ([] : List Int)))
set_option maxHeartbeats 8000000 in
set_option maxRecDepth 100000 in
theorem spec_Frame.calls (k : Nat) (A0 : Option Addr) (c0 : Nat) (l0 : List Int) (r : List Int) (w : World) (hr0 : Kd.C (Kd.int .u8) w A0 l0.length l0) (hc0 : l0.length ≤ c0) (h : spec_Frame.f k l0 = some r) :
  Calls Tryd.prog 58 #[.slice A0 l0.length c0] w fun e w' => ∃ v0_ : Value, e = .returned (v0_) ∧ Kd.R (Kd.int .u8) 5 w' w.heap.size (fun _ => True) v0_ r ∧ Below w.heap.size w w' := by
 have HR0 := Zh hr0
 have HC0 := Zh hc0
 clear hr0 hc0
 have HB := Zh (Below.refl w.heap.size w)
 have H : ((spec_l01In.f (l0.length : Int) 1 600).bind fun t342 => (if t342 = true then ((spec_l02Four.f (((l0.length : Int)) % 4294967296)).bind fun t343 => ((spec_Crc32.f k l0).bind fun t346 => ((spec_l02Four.f t346).bind fun t347 => ((spec_l01Join.f k t343 t347).bind fun t350 => ((spec_l01Join.f k t350 l0).bind fun t353 => (some t353)))))) else (some ([] : List Int)))) = some r := h
 clear h
 replace H := Option.bind_eq_some_iff.mp H
 obtain ⟨t342, A20, H⟩ := H
 replace H : (if t342 = true then ((spec_l02Four.f (((l0.length : Int)) % 4294967296)).bind fun t343 => ((spec_Crc32.f k l0).bind fun t346 => ((spec_l02Four.f t346).bind fun t347 => ((spec_l01Join.f k t343 t347).bind fun t350 => ((spec_l01Join.f k t350 l0).bind fun t353 => (some t353)))))) else (some ([] : List Int))) = some r := H
 have A2 := Zh A20
 clear A20
 by_cases c3 : t342 = true
 ·
  subst c3
  have H1 : ((spec_l02Four.f (((l0.length : Int)) % 4294967296)).bind fun t343 => ((spec_Crc32.f k l0).bind fun t346 => ((spec_l02Four.f t346).bind fun t347 => ((spec_l01Join.f k t343 t347).bind fun t350 => ((spec_l01Join.f k t350 l0).bind fun t353 => (some t353)))))) = some r := by rw [if_pos rfl] at H; exact H
  clear H
  have H := H1
  clear H1
  replace H := Option.bind_eq_some_iff.mp H
  obtain ⟨t343, A40, H⟩ := H
  replace H : ((spec_Crc32.f k l0).bind fun t346 => ((spec_l02Four.f t346).bind fun t347 => ((spec_l01Join.f k t343 t347).bind fun t350 => ((spec_l01Join.f k t350 l0).bind fun t353 => (some t353))))) = some r := H
  have A4 := Zh A40
  clear A40
  replace H := Option.bind_eq_some_iff.mp H
  obtain ⟨t346, A50, H⟩ := H
  replace H : ((spec_l02Four.f t346).bind fun t347 => ((spec_l01Join.f k t343 t347).bind fun t350 => ((spec_l01Join.f k t350 l0).bind fun t353 => (some t353)))) = some r := H
  have A5 := Zh A50
  clear A50
  replace H := Option.bind_eq_some_iff.mp H
  obtain ⟨t347, A60, H⟩ := H
  replace H : ((spec_l01Join.f k t343 t347).bind fun t350 => ((spec_l01Join.f k t350 l0).bind fun t353 => (some t353))) = some r := H
  have A6 := Zh A60
  clear A60
  replace H := Option.bind_eq_some_iff.mp H
  obtain ⟨t350, A70, H⟩ := H
  replace H : ((spec_l01Join.f k t350 l0).bind fun t353 => (some t353)) = some r := H
  have A7 := Zh A70
  clear A70
  replace H := Option.bind_eq_some_iff.mp H
  obtain ⟨t353, A80, H⟩ := H
  replace H : (some t353) = some r := H
  have A8 := Zh A80
  clear A80
  obtain rfl := Option.some.inj H
  go_enter Tryd.func58, Tryd.ntmps58
  go_wp2_with (first | ((with_reducible refine gate_callee (f := 62) rfl ?_); refine goesL_ (some 5) rfl rfl Tryd.func62 (by kernel_rfl) rfl #[.int .i64 (l0.length : Int), .int .i64 1, .int .i64 600] rfl (by (try simp only [List.map_toArray, List.map_cons, List.map_nil]); first | done | rfl | (simp only [List.length_drop, List.length_take]; rfl)) ?_; (with_reducible refine (spec_l01In.calls (l0.length : Int) 1 600 true _ A2.out).mono ?_); rintro e w' ⟨rfl, ⟨nd, rfl⟩⟩; refine ⟨_, rfl, ?_⟩) | ((with_reducible refine gate_callee (f := 88) rfl ?_); refine goesL_ (some 10) rfl rfl Tryd.func88 (by kernel_rfl) rfl #[.int .u32 (((l0.length : Int)) % 4294967296)] rfl (by (try simp only [List.map_toArray, List.map_cons, List.map_nil]); first | done | rfl | (simp only [List.length_drop, List.length_take]; rfl)) ?_; (with_reducible refine (spec_l02Four.calls (((l0.length : Int)) % 4294967296) t343 _ A4.out).mono ?_); rintro e w9 ⟨v344, rfl, ho0, hb⟩; refine ⟨_, rfl, ?_⟩; have n0_ := Zh (R_lower ho0 (below_size Zs)); have n1_ := Zh (Zl Zs hb); clear HB; have HO345 := n0_; have HB := n1_; clear n0_ n1_; (try clear hb); (try clear hb2); (try clear hk); (try clear hi); (try clear ho0)) | ((with_reducible refine gate_callee (f := 89) rfl ?_); refine goesL_ (some 12) rfl rfl Tryd.func89 (by kernel_rfl) rfl #[.slice A0 l0.length c0] rfl (by (try simp only [List.map_toArray, List.map_cons, List.map_nil]); first | done | rfl | (simp only [List.length_drop, List.length_take]; rfl)) ?_; (with_reducible refine (spec_Crc32.calls k _ _ l0 t346 _ ?side1 ?side2 A5.out).mono ?_); (case side1 => repeat (first | exact (C_below HR0.out HB.out) | (with_reducible refine C_alloc ?_ _) | (with_reducible refine C_drewN ?_ _) | (with_reducible refine C_drew ?_))); (case side2 => exact HC0.out); rintro e w' ⟨rfl, ⟨nd, rfl⟩⟩; refine ⟨_, rfl, ?_⟩) | ((with_reducible refine gate_callee (f := 88) rfl ?_); refine goesL_ (some 13) rfl rfl Tryd.func88 (by kernel_rfl) rfl #[.int .u32 t346] rfl (by (try simp only [List.map_toArray, List.map_cons, List.map_nil]); first | done | rfl | (simp only [List.length_drop, List.length_take]; rfl)) ?_; (with_reducible refine (spec_l02Four.calls t346 t347 _ A6.out).mono ?_); rintro e w10 ⟨v348, rfl, ho0, hb⟩; refine ⟨_, rfl, ?_⟩; have n0_ := Zh (R_elder' (by (with_reducible repeat (first | apply R_alloc | apply R_drewN | apply R_drew)); exact HO345.out) (R_base ho0) hb); have n1_ := Zh (R_lower (R_new' ho0 (R_lt (by (with_reducible repeat (first | apply R_alloc | apply R_drewN | apply R_drew)); exact HO345.out))) (below_size Zs)); have n2_ := Zh (Zl Zs hb); clear HO345; clear HB; have HO345 := n0_; have HO349 := n1_; have HB := n2_; clear n0_ n1_ n2_; (try clear hb); (try clear hb2); (try clear hk); (try clear hi); (try clear ho0); obtain ⟨Ao11, co11, eo11⟩ := R_slice HO345.out; subst eo11; obtain ⟨Ao12, co12, eo12⟩ := R_slice HO349.out; subst eo12) | ((with_reducible refine gate_callee (f := 85) rfl ?_); refine goesL_ (some 14) rfl rfl Tryd.func85 (by kernel_rfl) rfl #[.slice Ao11 t343.length co11, .slice Ao12 t347.length co12] rfl (by (try simp only [List.map_toArray, List.map_cons, List.map_nil]); first | done | rfl | (simp only [List.length_drop, List.length_take]; rfl)) ?_; (with_reducible refine (spec_l01Join.calls k _ _ t343 _ _ t347 t350 _ ?side1 ?side2 ?side3 ?side4 A7.out).mono ?_); (case side1 => repeat (first | exact (R_reads' HO345.out).2.2 | (with_reducible refine C_alloc ?_ _) | (with_reducible refine C_drewN ?_ _) | (with_reducible refine C_drew ?_))); (case side2 => exact (R_reads' HO345.out).2.1); (case side3 => repeat (first | exact (R_reads' HO349.out).2.2 | (with_reducible refine C_alloc ?_ _) | (with_reducible refine C_drewN ?_ _) | (with_reducible refine C_drew ?_))); (case side4 => exact (R_reads' HO349.out).2.1); rintro e w13 ⟨v351, rfl, ho0, hb⟩; refine ⟨_, rfl, ?_⟩; have n0_ := Zh (R_elder' (by (with_reducible repeat (first | apply R_alloc | apply R_drewN | apply R_drew)); exact HO345.out) (R_base ho0) hb); have n1_ := Zh (R_elder' (by (with_reducible repeat (first | apply R_alloc | apply R_drewN | apply R_drew)); exact HO349.out) (R_base ho0) hb); have n2_ := Zh (R_lower (R_new' (R_new' ho0 (R_lt (by (with_reducible repeat (first | apply R_alloc | apply R_drewN | apply R_drew)); exact HO345.out))) (R_lt (by (with_reducible repeat (first | apply R_alloc | apply R_drewN | apply R_drew)); exact HO349.out))) (below_size Zs)); have n3_ := Zh (Zl Zs hb); clear HO345; clear HO349; clear HB; have HO345 := n0_; have HO349 := n1_; have HO352 := n2_; have HB := n3_; clear n0_ n1_ n2_ n3_; (try clear hb); (try clear hb2); (try clear hk); (try clear hi); (try clear ho0); obtain ⟨Ao14, co14, eo14⟩ := R_slice HO352.out; subst eo14) | ((with_reducible refine gate_callee (f := 85) rfl ?_); refine goesL_ (some 16) rfl rfl Tryd.func85 (by kernel_rfl) rfl #[.slice Ao14 t350.length co14, .slice A0 l0.length c0] rfl (by (try simp only [List.map_toArray, List.map_cons, List.map_nil]); first | done | rfl | (simp only [List.length_drop, List.length_take]; rfl)) ?_; (with_reducible refine (spec_l01Join.calls k _ _ t350 _ _ l0 t353 _ ?side1 ?side2 ?side3 ?side4 A8.out).mono ?_); (case side1 => repeat (first | exact (R_reads' HO352.out).2.2 | (with_reducible refine C_alloc ?_ _) | (with_reducible refine C_drewN ?_ _) | (with_reducible refine C_drew ?_))); (case side2 => exact (R_reads' HO352.out).2.1); (case side3 => repeat (first | exact (C_below HR0.out HB.out) | (with_reducible refine C_alloc ?_ _) | (with_reducible refine C_drewN ?_ _) | (with_reducible refine C_drew ?_))); (case side4 => exact HC0.out); rintro e w15 ⟨v354, rfl, ho0, hb⟩; refine ⟨_, rfl, ?_⟩; have n0_ := Zh (R_elder' (by (with_reducible repeat (first | apply R_alloc | apply R_drewN | apply R_drew)); exact HO345.out) (R_base ho0) hb); have n1_ := Zh (R_elder' (by (with_reducible repeat (first | apply R_alloc | apply R_drewN | apply R_drew)); exact HO349.out) (R_base ho0) hb); have n2_ := Zh (R_elder' (by (with_reducible repeat (first | apply R_alloc | apply R_drewN | apply R_drew)); exact HO352.out) (R_base ho0) hb); have n3_ := Zh (R_lower (R_new' (R_new' (R_new' ho0 (R_lt (by (with_reducible repeat (first | apply R_alloc | apply R_drewN | apply R_drew)); exact HO345.out))) (R_lt (by (with_reducible repeat (first | apply R_alloc | apply R_drewN | apply R_drew)); exact HO349.out))) (R_lt (by (with_reducible repeat (first | apply R_alloc | apply R_drewN | apply R_drew)); exact HO352.out))) (below_size Zs)); have n4_ := Zh (Zl Zs hb); clear HO345; clear HO349; clear HO352; clear HB; have HO345 := n0_; have HO349 := n1_; have HO352 := n2_; have HO355 := n3_; have HB := n4_; clear n0_ n1_ n2_ n3_ n4_; (try clear hb); (try clear hb2); (try clear hk); (try clear hi); (try clear ho0)))
  go_ret
  exact ⟨_, by first | rfl | (simp [errW_none, errW_some] <;> rfl) | (simp [*, errW_none, errW_some] <;> rfl), by (with_reducible repeat (first | apply R_alloc | apply R_drewN | apply R_drew)); exact R_mono HO355.out (fun _ hk => trivial), by repeat (first | (with_reducible first | exact HB.out | apply Zf | apply Zd | apply Ze) | exact HB.out)⟩
 replace c3 := Bool.eq_false_iff.mpr c3
 subst c3
 have H1 : (some ([] : List Int)) = some r := by rw [if_neg (show ¬ (false = true) by decide)] at H; exact H
 clear H
 have H := H1
 clear H1
 obtain rfl := Option.some.inj H
 go_enter Tryd.func58, Tryd.ntmps58
 go_wp2_with (first | ((with_reducible refine gate_callee (f := 62) rfl ?_); refine goesL_ (some 5) rfl rfl Tryd.func62 (by kernel_rfl) rfl #[.int .i64 (l0.length : Int), .int .i64 1, .int .i64 600] rfl (by (try simp only [List.map_toArray, List.map_cons, List.map_nil]); first | done | rfl | (simp only [List.length_drop, List.length_take]; rfl)) ?_; (with_reducible refine (spec_l01In.calls (l0.length : Int) 1 600 false _ A2.out).mono ?_); rintro e w' ⟨rfl, ⟨nd, rfl⟩⟩; refine ⟨_, rfl, ?_⟩))
 go_ret
 exact ⟨_, by first | rfl | (simp [errW_none, errW_some] <;> rfl) | (simp [*, errW_none, errW_some] <;> rfl), by first | exact R_nil _ _ _ _ _ | exact N_nil _ _ _ _ _ | exact V_nil _ _ _ _ _ | exact Q_nil _ _ _ _ _ | exact S_nil _ _ _ _ _, by repeat (first | (with_reducible first | exact HB.out | apply Zf | apply Zd | apply Ze) | exact HB.out)⟩
end Go.Proofs.YtcgojdhbphocgaaDoor.F

namespace Go.Proofs.YtcgojdhbphocgaaDoor.F
open Go.RowKit Go.Proofs.YtcgojdhbphocgaaDoorW.PrintWords Go.Proofs.YtcgojdhbphocgaaDoorW.PrintLast Go.Proofs.YtcgojdhbphocgaaDoorW.PrintMore
open Go.Proofs.YtcgojdhbphocgaaDoor
set_option linter.unusedVariables false
set_option linter.unusedSimpArgs false
def spec_WalAppend.f (k : Nat) (l0_0 : List S55) (a1 : List Int) : Option (List S55 × Bool) := (spec_Frame.f k a1).bind fun f => if (f.length : Int) = 0 then (spec_l03Copy.f k l0_0).bind fun o => some (o, false) else spec_AppendFile.f k l0_0 (⟨#[108, 111, 103]⟩ : ByteArray) f
set_option maxHeartbeats 8000000 in
set_option maxRecDepth 100000 in
theorem spec_WalAppend.calls (k : Nat) (P0_0_ : Nat → Prop) (A0_0 : Option Addr) (c0_0 : Nat) (l0_0 : List (S55)) (A1 : Option Addr) (c1 : Nat) (l1 : List Int) (r1 : List (S55)) (r2 : Bool) (w : World) (hs0_0 : Kd.V k55 55 w w.heap.size (fun k_ => P0_0_ k_) (.slice A0_0 l0_0.length c0_0) l0_0) (hr1 : Kd.C (Kd.int .u8) w A1 l1.length l1) (hc1 : l1.length ≤ c1) (h : spec_WalAppend.f k l0_0 l1 = some (r1, r2)) :
    Calls Tryd.prog 27 #[.agg #[.slice A0_0 l0_0.length c0_0], .slice A1 l1.length c1] w fun e w' => ∃ v0_ : Value, e = .returned (.tuple #[.agg #[v0_], .bool r2]) ∧ Kd.N k55 55 w' w.heap.size (fun k_ => (P0_0_ k_ ∨ w.heap.size ≤ k_)) v0_ r1 ∧ Below w.heap.size w w' := by
  have HV := Zh (Kd.V_bound hs0_0)
  have HR := Zh (Kd.V_reads' hs0_0).2.2
  have HC := Zh (Kd.V_reads' hs0_0).2.1
  have HR1 := Zh hr1
  have HC1 := Zh hc1
  clear hs0_0 hr1 hc1
  have ST := Zh (LW.St.start w)
  unfold spec_WalAppend.f at h
  replace h := Option.bind_eq_some_iff.mp h
  obtain ⟨f, HA1, h⟩ := h
  replace HA1 := Zh HA1
  have H := Zh h
  clear h
  go_enter Tryd.func27, Tryd.ntmps27
  go_wp2_with fail
  replace ST := Zh (ST.out.alloc #[.slice A0_0 l0_0.length c0_0] 28 (g := w.heap.size) rfl)
  replace ST := Zh (ST.out.alloc #[.slice none 0 0] 28 (g := w.heap.size + 1) (by simp))
  with_reducible refine (spec_Frame.calls k _ _ l1 f _ (Kd.C_below HR1.out ST.out.b) HC1.out HA1.out).mono ?_
  rintro e w1 ⟨v1, rfl, ho, hb⟩
  obtain ⟨Af, cf, rfl⟩ := Kd.R_slice ho
  replace ST := Zh (ST.out.rowR rfl hb ho)
  clear hb ho
  have hc1 := ST.out.cell 2 rfl 0 (u := .slice A0_0 l0_0.length c0_0) rfl
  have hl1 := ST.out.lt 2 rfl
  have hc2 := ST.out.cell 1 rfl 0 (u := .slice none 0 0) rfl
  have hl2 := ST.out.lt 1 rfl
  have hf2 := ST.out.frozen 1 rfl 0
  have h := H.out
  clear H
  by_cases c : (f.length : Int) = 0
  · rw [if_pos c] at h
    replace h := Option.bind_eq_some_iff.mp h
    obtain ⟨o, HA2, h⟩ := h
    replace HA2 := Zh HA2
    obtain ⟨rfl, rfl⟩ := Prod.mk.inj (Option.some.inj h)
    clear h
    have q5 : ((f.length : Int) == 0) = true := beq_iff_eq.mpr c
    have hn : f.length = 0 := by omega
    go_wp2_with fail
    with_reducible refine (spec_l03Copy.calls k _ _ l0_0 o _ (Kd.C_below HR.out ST.out.b) HC.out HA2.out).mono ?_
    rintro e w2 ⟨v2, rfl, ho, hb⟩
    obtain ⟨A2, c2, rfl⟩ := Kd.S_slice ho
    have hw := ST.out.b.size
    replace ST := Zh (ST.out.row hb ho)
    clear hb ho hc1 hl1 hc2 hl2 hf2
    have hc2 := ST.out.cell 2 rfl 0 (u := .slice none 0 0) rfl
    have hl2 := ST.out.lt 2 rfl
    have hf2 := ST.out.frozen 2 rfl 0
    go_wp2
    replace ST := Zh (ST.out.set 2 rfl 0 (.slice A2 o.length c2))
    refine bodyPost_ret (results_ct rfl _ _ (w.heap.size + 1) 28 #[.slice A2 o.length c2] (0, 0) _ rfl (ST.out.blk 2 rfl) Tryd.underlying28 rfl (by kernel_rfl)) rfl ?_
    exact ⟨_, rfl, Kd.N_mono (Kd.S_N (ST.out.own 0 rfl)) (fun k_ hk => .inr (Nat.le_trans hw hk.1)), ST.out.b⟩
  rw [if_neg c] at h
  have q5 : ((f.length : Int) == 0) = false := by rw [beq_eq_false_iff_ne]; exact c
  have HA4 := Zh h
  have HW1 := Zh hl2
  clear h c
  go_wp2_with fail
  with_reducible refine (spec_AppendFile.calls k _ _ _ l0_0 (⟨#[108, 111, 103]⟩ : ByteArray) _ _ f r1 r2 _ (Kd.V_map (Kd.V_below HV.out ST.out.b) (fun _ hf => hf)) (ST.out.reads 0 rfl).2.2 (ST.out.reads 0 rfl).2.1 HA4.out).mono ?_
  rintro e w4 ⟨v4, rfl, ho, hb⟩
  have HN := Zh ho
  obtain ⟨A4, c4, rfl⟩ := Kd.N_slice ho
  replace ST := Zh (ST.out.step hb)
  have hz := ST.out.lt 1 rfl
  have hw1 := HW1.out
  clear hb ho hc1 hl1 hc2 hl2 hf2
  have hc1 := ST.out.cell 1 rfl 0 (u := .slice none 0 0) rfl
  have hl1 := ST.out.lt 1 rfl
  have hf1 := ST.out.frozen 1 rfl 0
  go_wp2
  replace ST := Zh (ST.out.set 1 rfl 0 (.slice A4 r1.length c4))
  replace ST := Zh (ST.out.alloc #[.slice A4 r1.length c4] 28 rfl)
  refine bodyPost_ret (results_ct rfl _ _ (w.heap.size + 1) 28 #[.slice A4 r1.length c4] (0, 0) _ rfl (ST.out.blk 2 rfl) Tryd.underlying28 rfl (by kernel_rfl)) rfl ?_
  refine ⟨_, rfl, Kd.N_mono (Kd.N_alloc (Kd.N_far (Kd.N_lower HN.out (by omega)) (fun k_ hk => ?_) _) _) (fun k_ hk => ?_), ST.out.b⟩
  · show k_ ≠ w.heap.size + 1
    rcases hk with hk | hk
    · have := hk.2; omega
    omega
  rcases hk with hk | hk
  · exact .inl hk.1
  exact .inr (by omega)
end Go.Proofs.YtcgojdhbphocgaaDoor.F

namespace Go.Proofs.YtcgojdhbphocgaaDoor.F
open Go.RowKit Go.Proofs.YtcgojdhbphocgaaDoorW.PrintWords Go.Proofs.YtcgojdhbphocgaaDoorW.PrintWords.Kd Go.Proofs.YtcgojdhbphocgaaDoorW.PrintMore.Kd Go.Proofs.YtcgojdhbphocgaaDoorW.PrintLast Go.Proofs.YtcgojdhbphocgaaDoorW.PrintMore
attribute [local go_sem] max2_int min2_int max_two min_two max_three min_three max_four min_four   -- for this text's walks alone
set_option linter.unusedVariables false
set_option linter.unusedSimpArgs false
def binary_littleEndian_AppendUint32.f  (l1 : List Int) (a2 : Int) : Option (List Int) := (some (([(a2) % 256, (a2 / 256) % 256, (a2 / 65536) % 256, (a2 / 16777216) % 256] : List Int) : List Int)).bind fun y430 => (if l1.length + y430.length < 140737488355328 then (some (l1 ++ y430)) else (none))
set_option maxHeartbeats 8000000 in
set_option maxRecDepth 100000 in
theorem binary_littleEndian_AppendUint32.calls  (P1_ : Nat → Prop) (u9000_ : Value) (l1 : List Int) (a2 : Int) (r : List Int) (w0 w : World) (hB : Below w0.heap.size w0 w) (ho1 : Kd.R (Kd.int .u8) 5 w w0.heap.size P1_ u9000_ l1) (h : binary_littleEndian_AppendUint32.f l1 a2 = some r) :
  Calls Tryd.prog 91 #[.agg #[], u9000_, .int .u32 a2] w fun e w' => ∃ v0_ : Value, e = .returned (v0_) ∧ Kd.R (Kd.int .u8) 5 w' w0.heap.size (fun k_ => (P1_ k_ ∨ w.heap.size ≤ k_)) v0_ r ∧ Below w0.heap.size w0 w' ∧ Kept w w' (fun k_ => P1_ k_) := by
 have hu94 := Tryd.underlying94
 have HO1 := Zh (show Kd.R (Kd.int .u8) 5 w w0.heap.size (fun k_ => (P1_ k_ ∨ w.heap.size ≤ k_)) u9000_ l1 from R_mono ho1 (fun k_ hk => (.inl hk)))
 have HK := Zh (Kept.refl w (fun k_ => P1_ k_))
 have HW0 := Zh hB.size
 have HB := Zh hB
 clear hB
 have H : ((some (([(a2) % 256, (a2 / 256) % 256, (a2 / 65536) % 256, (a2 / 16777216) % 256] : List Int) : List Int)).bind fun y430 => (if l1.length + y430.length < 140737488355328 then (some (l1 ++ y430)) else (none))) = some r := h
 clear h
 obtain ⟨y430, hy430⟩ : ∃ y_ : List Int, y_ = (([(a2) % 256, (a2 / 256) % 256, (a2 / 65536) % 256, (a2 / 16777216) % 256] : List Int)) := ⟨_, rfl⟩
 replace H : (if l1.length + y430.length < 140737488355328 then (some (l1 ++ y430)) else (none)) = some r := by first | (rw [hy430]; with_reducible exact H) | (have H2_ := (Option.bind_some _ _).symm.trans H; rw [hy430]; with_reducible exact H2_) | (have H2_ := (Option.bind_some _ _).symm.trans H; with_reducible exact H2_) | with_reducible exact H | (rw [hy430]; exact H) | exact H
 have Ny430 := Zh hy430
 clear hy430
 by_cases c4 : l1.length + y430.length < 140737488355328
 ·
  rw [if_pos c4] at H
  have LMc4 := Zh c4
  clear c4
  obtain ⟨y433, hy433⟩ : ∃ y_ : List Int, y_ = (l1 ++ y430) := ⟨_, rfl⟩
  replace H : (some y433) = some r := by first | (rw [hy433]; with_reducible exact H) | (have H2_ := (Option.bind_some _ _).symm.trans H; rw [hy433]; with_reducible exact H2_) | (have H2_ := (Option.bind_some _ _).symm.trans H; with_reducible exact H2_) | with_reducible exact H | (rw [hy433]; exact H) | exact H
  have Ny433 := Zh hy433
  clear hy433
  obtain rfl := Option.some.inj H
  go_enter Tryd.func91, Tryd.ntmps91
  go_wp2_with (first | ((with_reducible refine gate_dst (N := 3) rfl ?_); refine box_event ?hg (N := 3) ?hd (cs := #[]) (t := 94) ?hr ?_; (case hd => rfl); (case hg => rfl); (case hr => first | (go_simp; done) | (go_simp; rfl)); intro gb429 hg w5 hbox hb; have n0_ := Zh (R_below (by (with_reducible repeat (first | apply R_alloc | apply R_drewN | apply R_drew)); exact HO1.out) hb); have n1_ := Zh (Kept.below (S := (fun k_ => P1_ k_)) (by repeat (first | (with_reducible first | exact HK.out | apply Kept.alloc | apply Kept.drewN | apply Kept.drew) | exact HK.out)) hb); have n2_ := Zh (Zl Zs hb); have n3_ := Zh (hbox); have n4_ := Zh ((by rw [hg]; exact (by first | exact HK.out.1 | exact (show Kept w _ (fun k_ => P1_ k_) from by repeat (first | (with_reducible first | exact HK.out | apply Kept.alloc | apply Kept.drewN | apply Kept.drew) | exact HK.out)).1) : w.heap.size ≤ gb429)); have n5_ := Zh ((by rw [hg]; exact (below_size Zs) : w0.heap.size ≤ gb429)); clear HO1; clear HK; clear HB; have HO1 := n0_; have HK := n1_; have HB := n2_; have BK429 := n3_; have GW429 := n4_; have GE429 := n5_; clear n0_ n1_ n2_ n3_ n4_ n5_; clear hb hbox hg) | ((with_reducible refine gate_dst (N := 19) rfl ?_); refine R_lit (Kd.int .u8) _ 5 ?hg (N := 19) ?hd (xs := ([(a2) % 256, (a2 / 256) % 256, (a2 / 65536) % 256, (a2 / 16777216) % 256] : List Int)) (inner := [.int .u8 ((a2) % 256), .int .u8 ((a2 / 256) % 256), .int .u8 ((a2 / 65536) % 256), .int .u8 ((a2 / 16777216) % 256)]) (ok := fun _ => True) (okp := fun _ => True) ?hr ?hp (fun _ hk => hk) trivial (Below.refl _ _) (Nat.le_refl _) (by simp) ?_; (case hd => rfl); (case hg => rfl); (case hr => first | (go_simp; done) | (go_simp; rfl)); (case hp => exact (Reps.one (show Kd.M (Kd.int .u8) _ _ _ ((a2) % 256) [.int .u8 ((a2) % 256)] from rfl) (Reps.one (show Kd.M (Kd.int .u8) _ _ _ ((a2 / 256) % 256) [.int .u8 ((a2 / 256) % 256)] from rfl) (Reps.one (show Kd.M (Kd.int .u8) _ _ _ ((a2 / 65536) % 256) [.int .u8 ((a2 / 65536) % 256)] from rfl) (Reps.one (show Kd.M (Kd.int .u8) _ _ _ ((a2 / 16777216) % 256) [.int .u8 ((a2 / 16777216) % 256)] from rfl) (Reps.none _ _)))))); intro v431 w6 ho7 hb hg_ hnew_; clear hg_ hnew_; (first | rw [← Ny430.out] at ho7 | (simp only [Int.reduceToNat] at ho7; rw [← Ny430.out] at ho7)); have n0_ := Zh (R_elder' (by (with_reducible repeat (first | apply R_alloc | apply R_drewN | apply R_drew)); exact HO1.out) (R_base ho7) hb); have n1_ := Zh (R_lower (R_new' (R_newM (M := fun k_ => (P1_ k_ ∨ w.heap.size ≤ k_)) ho7 (by first | exact HK.out.1 | exact (show Kept w _ (fun k_ => P1_ k_) from by repeat (first | (with_reducible first | exact HK.out | apply Kept.alloc | apply Kept.drewN | apply Kept.drew | refine Kept.setCell ?_ (.inr GW429.out) _) | exact HK.out)).1) (fun k_ h_ => .inr h_)) (R_lt (by (with_reducible repeat (first | apply R_alloc | apply R_drewN | apply R_drew)); exact HO1.out))) (below_size Zs)); have n2_ := Zh (Zm (g := gb429) (o := .cells #[] 94 (0, 0)) Zk hb); have n3_ := Zh (Kept.below (S := (fun k_ => P1_ k_)) (by repeat (first | (with_reducible first | exact HK.out | apply Kept.alloc | apply Kept.drewN | apply Kept.drew | refine Kept.setCell ?_ (.inr GW429.out) _) | exact HK.out)) hb); have n4_ := Zh (Zl Zs hb); clear HO1; clear BK429; clear HK; clear HB; have HO1 := n0_; have HO432 := n1_; have BK429 := n2_; have HK := n3_; have HB := n4_; clear n0_ n1_ n2_ n3_ n4_; clear hb ho7; obtain ⟨Ao9, co9, eo9⟩ := R_slice HO432.out; subst eo9) | ((with_reducible refine gate_builtin (b := .append) (xs := #[.tmp 7, .tmp 19]) rfl ?_); at_builtin; refine R_append_rows (Kd.int .u8) (w0 := w0) w0.heap.size rfl (.tmp 7) (.tmp 19) 41 5 (.int .u8 0) 1 rfl Tryd.underlying41 info5 rfl (by decide) (by omega) u9000_ l1 y430 _ _ _ (fun k_ => (P1_ k_ ∨ w.heap.size ≤ k_) ∧ some k_ ≠ (.slice Ao9 y430.length co9 : Value).ownBlock) (fun _ => False) rfl rfl ?aO ?aR (fun _ _ h => h) (fun _ h => h.elim) ?aF ?aB ?aS ?aL ?_; (case aR => repeat (first | exact (R_reads' HO432.out).2.2 | (with_reducible refine C_alloc ?_ _) | (with_reducible refine C_drewN ?_ _) | (with_reducible refine C_drew ?_))); (case aB => exact Zs); (case aF => exact (fun k_ hk => ⟨(.inr (Nat.le_trans (by first | exact HK.out.1 | exact (show Kept w _ (fun k_ => P1_ k_) from by repeat (first | (with_reducible first | exact HK.out | apply Kept.alloc | apply Kept.drewN | apply Kept.drew | refine Kept.setCell ?_ (.inr GW429.out) _) | exact HK.out)).1) hk)), Kd.fresh' (R_lt (by (with_reducible repeat (first | apply R_alloc | apply R_drewN | apply R_drew)); exact HO432.out)) k_ hk⟩)); (case aO => exact (by (with_reducible repeat (first | apply R_alloc | apply R_drewN | apply R_drew)); exact HO1.out)); (case aS => exact (below_size Zs)); (case aL => have := LMc4.out; omega); intro v434 w8 ho hb hg hat; rw [← Ny433.out] at ho; have n0_ := Zh (blk_grown (g := gb429) (o := .cells #[] 94 (0, 0)) Zk hg (R_ne HO1.out BK429.out (by decide))); have n1_ := Zh (R_after (ok := (fun k_ => (P1_ k_ ∨ w.heap.size ≤ k_))) (by (with_reducible repeat (first | apply R_alloc | apply R_drewN | apply R_drew)); exact R_mono HO432.out (fun _ hk => ⟨hk.1.1, hk.2⟩)) hg hat); have n2_ := Zh (hb); have n3_ := Zh (Kept.of_grown (S := (fun k_ => P1_ k_)) hg (by repeat (first | (with_reducible first | exact HK.out | apply Kept.alloc | apply Kept.drewN | apply Kept.drew | refine Kept.setCell ?_ (.inr GW429.out) _) | exact HK.out)) (fun k_ e_ => (HO1.out.1 k_ e_).1)); have n4_ := Zh (ho); clear BK429; clear HO432; clear HB; clear HK; clear HO1; have BK429 := n0_; have HO432 := n1_; have HB := n2_; have HK := n3_; have HO435 := n4_; clear n0_ n1_ n2_ n3_ n4_; clear ho hb hg hat))
  go_ret
  exact ⟨_, by first | rfl | (simp [errW_none, errW_some] <;> rfl) | (simp [*, errW_none, errW_some] <;> rfl), by (with_reducible repeat (first | apply R_alloc | apply R_drewN | apply R_drew)); exact R_mono HO435.out (fun _ hk => hk.1), by repeat (first | (with_reducible first | exact HB.out | apply Zf | apply Zd | apply Ze | refine Zg ?_ GE429.out) | exact HB.out), by repeat (first | (with_reducible first | exact HK.out | apply Kept.alloc | apply Kept.drewN | apply Kept.drew | refine Kept.setCell ?_ (.inr GW429.out) _) | exact HK.out)⟩
 rw [if_neg c4] at H
 exact absurd H (by simp)
mutual
def impl_crc32.l0 : Nat → Int → List Int → Int → Int → Option (Int)
 | 0, _, _, _, _ => none
 | k + 1, x3, x7, x8, x9 => if x9 < x8 then (if 0 ≤ x9 then (if x9 < (x7.length : Int) then (impl_crc32.l1 k (Go.bits .xor .u32 x3 ((rd x7 x9) % 4294967296)) x7 x8 x9 0) else (none)) else (none)) else (some (Go.bits .xor .u32 4294967295 x3))
def impl_crc32.l1 : Nat → Int → List Int → Int → Int → Int → Option (Int)
 | 0, _, _, _, _, _ => none
 | k + 1, x3, x7, x8, x9, x17 => if x17 < 8 then (if (Go.bits .and .u32 x3 1) = 1 then (impl_crc32.l1 k (Go.bits .xor .u32 (x3 / 2) 3988292384) x7 x8 x9 (wrap64 (x17 + 1))) else (impl_crc32.l1 k (x3 / 2) x7 x8 x9 (wrap64 (x17 + 1)))) else (impl_crc32.l0 k x3 x7 x8 (wrap64 (x9 + 1)))
end
def impl_crc32.f (k : Nat) (l0 : List Int) : Option (Int) := impl_crc32.l0 k 4294967295 l0 (l0.length : Int) 0
set_option maxHeartbeats 8000000 in
set_option maxRecDepth 100000 in
theorem impl_crc32.calls (k : Nat) (A0 : Option Addr) (c0 : Nat) (l0 : List Int) (r : Int) (w : World) (hr0 : Kd.C (Kd.int .u8) w A0 l0.length l0) (hc0 : l0.length ≤ c0) (h : impl_crc32.f k l0 = some r) :
  Calls Tryd.prog 92 #[.slice A0 l0.length c0] w fun e w' => e = .returned (.int .u32 r) ∧ Drawn0 w w' := by
 have HR0 := Zh hr0
 have HC0 := Zh hc0
 clear hr0 hc0
 have H : (impl_crc32.l0 k 4294967295 l0 (l0.length : Int) 0) = some r := h
 clear h
 have H' := Zh H
 clear H
 go_enter Tryd.func92, Tryd.ntmps92
 go_wp2
 go_loopg [3, 9] k (fun kq v3 v9 w' => ∃ (x3_1 : Int) (x9_1 : Int), v3 = .int .u32 x3_1 ∧ v9 = .int .i64 x9_1 ∧ Aside0 (impl_crc32.l0 kq x3_1 l0 (l0.length : Int) x9_1 = some r) ∧ Aside0 (kq ≤ k) ∧ Drawn0 w w')
 case atStart => exact ⟨(4294967295), (0), (by first | rfl | (simp; done) | (simp [*]; done)), (by first | rfl | (simp; done) | (simp [*]; done)), H', ⟨Nat.le_refl _⟩, by repeat (first | exact Drawn0.refl _ | apply Drawn0.step)⟩
 case round =>
  clear H'
  obtain ⟨x3_1, x9_1, rfl, rfl, HA, HK1, ⟨m1, rfl⟩⟩ := hrel
  cases gk with
  | zero => exact absurd HA.out (by simp [impl_crc32.l0])
  | succ k1 =>
   have H := HA.out
   clear HA
   simp only [impl_crc32.l0] at H
   by_cases c2 : x9_1 < (l0.length : Int)
   ·
    rw [if_pos c2] at H
    have c2b0 : decide (x9_1 < (l0.length : Int)) = true := decide_eq_true c2
    clear c2
    by_cases c3 : 0 ≤ x9_1
    ·
     rw [if_pos c3] at H
     have c3b0 : decide (0 ≤ x9_1) = true := decide_eq_true c3
     clear c3
     by_cases c4 : x9_1 < (l0.length : Int)
     ·
      rw [if_pos c4] at H
      have c4b0 : decide (x9_1 < (l0.length : Int)) = true := decide_eq_true c4
      clear c4
      have H' := Zh H
      clear H
      have p404 : 0 ≤ (x9_1 : Int) := Zo
      have q404 : x9_1 < (l0.length : Int) := Zo
      obtain ⟨ad404, e404, hx404_0⟩ := Kd.at_int HR0.out x9_1 p404 q404
      cases e404
      replace p404 := eq_true p404
      replace q404 := eq_true q404
      go_wp2
      go_loopg [3, 17] k1 (fun kq v3 v17 w' => ∃ (x3_2 : Int) (x17_2 : Int), v3 = .int .u32 x3_2 ∧ v17 = .int .i64 x17_2 ∧ Aside0 (impl_crc32.l1 kq x3_2 l0 (l0.length : Int) x9_1 x17_2 = some r) ∧ Aside0 (kq ≤ k1) ∧ Drawn0 w w')
      case atStart => exact ⟨(Go.bits .xor .u32 x3_1 ((rd l0 x9_1) % 4294967296)), (0), (by first | rfl | (simp; done) | (simp [*]; done)), (by first | rfl | (simp; done) | (simp [*]; done)), H', ⟨Nat.le_refl _⟩, by repeat (first | exact Drawn0.refl _ | apply Drawn0.step)⟩
      case round =>
       clear H'
       try clear c2
       try clear c2b0
       try clear p2
       try clear c3
       try clear c3b0
       try clear c4
       try clear c4b0
       try clear p4
       try clear q4
       try clear hx4
       try clear hx404_0
       try clear p404
       try clear q404
       obtain ⟨x3_2, x17_2, rfl, rfl, HA, HK2, ⟨m2, rfl⟩⟩ := hrel
       cases gk with
       | zero => exact absurd HA.out (by simp [impl_crc32.l1])
       | succ k2 =>
        have H := HA.out
        clear HA
        simp only [impl_crc32.l1] at H
        by_cases c5 : x17_2 < 8
        ·
         rw [if_pos c5] at H
         have c5b0 : decide (x17_2 < 8) = true := decide_eq_true c5
         clear c5
         by_cases c6 : (Go.bits .and .u32 x3_2 1) = 1
         ·
          rw [if_pos c6] at H
          have c6b0 : ((Go.bits .and .u32 x3_2 1) == 1) = true := beq_iff_eq.mpr c6
          have c6b1 : ((Go.bits .and .u32 x3_2 1) != 1) = false := bne_eq_false_iff_eq.mpr c6
          clear c6
          have H' := Zh H
          clear H
          go_wp2
          go_roundg k2
          case measure => have := HK1.out; have := HK2.out; omega
          case rel => exact ⟨(Go.bits .xor .u32 (x3_2 / 2) 3988292384), (wrap64 (x17_2 + 1)), (by first | rfl | (simp; done) | (simp [*]; done)), (by first | rfl | (simp; done) | (simp [*]; done)), H', ⟨by have := HK1.out; have := HK2.out; omega⟩, by repeat (first | exact Drawn0.refl _ | apply Drawn0.step)⟩
         rw [if_neg c6] at H
         have c6b0 : ((Go.bits .and .u32 x3_2 1) == 1) = false := beq_eq_false_iff_ne.mpr c6
         have c6b1 : ((Go.bits .and .u32 x3_2 1) != 1) = true := bne_iff_ne.mpr c6
         have H' := Zh H
         clear H
         go_wp2
         go_roundg k2
         case measure => have := HK1.out; have := HK2.out; omega
         case rel => exact ⟨(x3_2 / 2), (wrap64 (x17_2 + 1)), (by first | rfl | (simp; done) | (simp [*]; done)), (by first | rfl | (simp; done) | (simp [*]; done)), H', ⟨by have := HK1.out; have := HK2.out; omega⟩, by repeat (first | exact Drawn0.refl _ | apply Drawn0.step)⟩
        rw [if_neg c5] at H
        have c5b0 : decide (x17_2 < 8) = false := decide_eq_false c5
        clear c5
        have H' := Zh H
        clear H
        go_wp2
        go_roundg k2
        case measure => have := HK1.out; have := HK2.out; omega
        case rel => exact ⟨(x3_2), (wrap64 (x9_1 + 1)), (by first | rfl | (simp; done) | (simp [*]; done)), (by first | rfl | (simp; done) | (simp [*]; done)), H', ⟨by have := HK1.out; have := HK2.out; omega⟩, by repeat (first | exact Drawn0.refl _ | apply Drawn0.step)⟩
     rw [if_neg c4] at H
     exact absurd H (by simp)
    rw [if_neg c3] at H
    exact absurd H (by simp)
   rw [if_neg c2] at H
   have c2b0 : decide (x9_1 < (l0.length : Int)) = false := decide_eq_false c2
   clear c2
   obtain rfl := Option.some.inj H
   go_wp2
   go_ret
   exact ⟨by first | rfl | (simp; done) | (simp [*]; done), by repeat (first | exact Drawn0.refl _ | apply Drawn0.step)⟩
def impl_frame.j0 : Nat → List Int → Bool → Option (List Int)
 | 0, _, _ => none
 | k + 1, x0, x11 => if x11 = true then (some ([] : List Int)) else ((binary_littleEndian_AppendUint32.f ([] : List Int) (((x0.length : Int)) % 4294967296)).bind fun t436 => ((impl_crc32.f k x0).bind fun t439 => ((binary_littleEndian_AppendUint32.f t436 t439).bind fun t440 => (if t440.length + x0.length < 140737488355328 then (some (t440 ++ x0)) else (none)))))
def impl_frame.f (k : Nat) (l0 : List Int) : Option (List Int) := if (l0.length : Int) < 1 then (impl_frame.j0 k l0 true) else (impl_frame.j0 k l0 (decide ((l0.length : Int) > 600)))
set_option maxHeartbeats 8000000 in
set_option maxRecDepth 100000 in
theorem impl_frame.calls (k : Nat) (A0 : Option Addr) (c0 : Nat) (l0 : List Int) (r : List Int) (w : World) (hr0 : Kd.C (Kd.int .u8) w A0 l0.length l0) (hc0 : l0.length ≤ c0) (h : impl_frame.f k l0 = some r) :
  Calls Tryd.prog 60 #[.slice A0 l0.length c0] w fun e w' => ∃ v0_ : Value, e = .returned (v0_) ∧ Kd.R (Kd.int .u8) 5 w' w.heap.size (fun _ => True) v0_ r ∧ Below w.heap.size w w' := by
 have hu94 := Tryd.underlying94
 have HR0 := Zh hr0
 have HC0 := Zh hc0
 clear hr0 hc0
 have HB := Zh (Below.refl w.heap.size w)
 have H : (if (l0.length : Int) < 1 then (impl_frame.j0 k l0 true) else (impl_frame.j0 k l0 (decide ((l0.length : Int) > 600)))) = some r := h
 clear h
 have HC2 := Zh H
 clear H
 go_enter Tryd.func60, Tryd.ntmps60
 go_upto_region 1 with (fail)
 go_cut [11] (fun v11 wc => ∃ (kq : Nat) (x11_1 : Bool), v11 = .bool x11_1 ∧ Aside0 (impl_frame.j0 kq l0 x11_1 = some r) ∧ Aside0 (kq ≤ k) ∧ Aside0 (Below w.heap.size w wc))
 case first =>
  have H := HC2.out
  clear HC2
  by_cases c3 : (l0.length : Int) < 1
  ·
   rw [if_pos c3] at H
   have c3b0 : decide ((l0.length : Int) < 1) = true := decide_eq_true c3
   have c3b1 : decide (l0.length < 1) = true := decide_eq_true (by omega)
   clear c3
   (first | rw [c3b0] | (simp only [i64_w, i32_w]; rw [c3b0]) | skip)
   have H' := Zh H
   clear H
   go_wp2
   go_meet
   case rel => exact ⟨_, (true), (by first | rfl | (simp; done) | (simp [*]; done)), H', ⟨by first | omega | exact Nat.le_refl _⟩, ⟨by repeat (first | (with_reducible first | exact HB.out | apply Zf | apply Zd | apply Ze) | exact HB.out)⟩⟩
  rw [if_neg c3] at H
  have c3b0 : decide ((l0.length : Int) < 1) = false := decide_eq_false c3
  have c3b1 : decide (l0.length < 1) = false := decide_eq_false (by omega)
  clear c3
  (first | rw [c3b0] | (simp only [i64_w, i32_w]; rw [c3b0]) | skip)
  have H' := Zh H
  clear H
  go_wp2
  go_meet
  case rel => exact ⟨_, (decide ((l0.length : Int) > 600)), (by first | rfl | (simp; done) | (simp [*]; done)), H', ⟨by first | omega | exact Nat.le_refl _⟩, ⟨by repeat (first | (with_reducible first | exact HB.out | apply Zf | apply Zd | apply Ze) | exact HB.out)⟩⟩
 case rest =>
  clear HC2
  try clear p2
  try clear c3
  try clear c3b0
  try clear c3b1
  obtain ⟨kq, x11_1, rfl, HA, HJ1, HB⟩ := hcut
  cases kq with
  | zero => exact absurd HA.out (by simp [impl_frame.j0])
  | succ kj1 =>
   have H := HA.out
   clear HA
   simp only [impl_frame.j0] at H
   by_cases c4 : x11_1 = true
   ·
    subst c4
    have H1 : (some ([] : List Int)) = some r := by rw [if_pos rfl] at H; exact H
    clear H
    have H := H1
    clear H1
    obtain rfl := Option.some.inj H
    go_wp2
    go_ret
    exact ⟨_, by first | rfl | (simp [errW_none, errW_some] <;> rfl) | (simp [*, errW_none, errW_some] <;> rfl), by first | exact R_nil _ _ _ _ _ | exact N_nil _ _ _ _ _ | exact V_nil _ _ _ _ _ | exact Q_nil _ _ _ _ _ | exact S_nil _ _ _ _ _, by repeat (first | (with_reducible first | exact HB.out | apply Zf | apply Zd | apply Ze) | exact HB.out)⟩
   replace c4 := Bool.eq_false_iff.mpr c4
   subst c4
   have H1 : ((binary_littleEndian_AppendUint32.f ([] : List Int) (((l0.length : Int)) % 4294967296)).bind fun t436 => ((impl_crc32.f kj1 l0).bind fun t439 => ((binary_littleEndian_AppendUint32.f t436 t439).bind fun t440 => (if t440.length + l0.length < 140737488355328 then (some (t440 ++ l0)) else (none))))) = some r := by rw [if_neg (show ¬ (false = true) by decide)] at H; exact H
   clear H
   have H := H1
   clear H1
   replace H := Option.bind_eq_some_iff.mp H
   obtain ⟨t436, A50, H⟩ := H
   replace H : ((impl_crc32.f kj1 l0).bind fun t439 => ((binary_littleEndian_AppendUint32.f t436 t439).bind fun t440 => (if t440.length + l0.length < 140737488355328 then (some (t440 ++ l0)) else (none)))) = some r := H
   have A5 := Zh A50
   clear A50
   replace H := Option.bind_eq_some_iff.mp H
   obtain ⟨t439, A60, H⟩ := H
   replace H : ((binary_littleEndian_AppendUint32.f t436 t439).bind fun t440 => (if t440.length + l0.length < 140737488355328 then (some (t440 ++ l0)) else (none))) = some r := H
   have A6 := Zh A60
   clear A60
   replace H := Option.bind_eq_some_iff.mp H
   obtain ⟨t440, A70, H⟩ := H
   replace H : (if t440.length + l0.length < 140737488355328 then (some (t440 ++ l0)) else (none)) = some r := H
   have A7 := Zh A70
   clear A70
   by_cases c8 : t440.length + l0.length < 140737488355328
   ·
    rw [if_pos c8] at H
    have LMc8 := Zh c8
    clear c8
    obtain ⟨y443, hy443⟩ : ∃ y_ : List Int, y_ = (t440 ++ l0) := ⟨_, rfl⟩
    replace H : (some y443) = some r := by first | (rw [hy443]; with_reducible exact H) | (have H2_ := (Option.bind_some _ _).symm.trans H; rw [hy443]; with_reducible exact H2_) | (have H2_ := (Option.bind_some _ _).symm.trans H; with_reducible exact H2_) | with_reducible exact H | (rw [hy443]; exact H) | exact H
    have Ny443 := Zh hy443
    clear hy443
    obtain rfl := Option.some.inj H
    try go_wp2_with (first | ((with_reducible refine gate_callee (f := 91) rfl ?_); refine goesL_ (some 16) rfl rfl Tryd.func91 (by kernel_rfl) rfl #[.agg #[], .slice none 0 0, .int .u32 (((l0.length : Int)) % 4294967296)] rfl (by (try simp only [List.map_toArray, List.map_cons, List.map_nil]); first | done | rfl | (simp only [List.length_drop, List.length_take]; rfl)) ?_; (refine (binary_littleEndian_AppendUint32.calls  (fun k_ => some k_ = (.slice none 0 0 : Value).ownBlock) (.slice none 0 0) ([] : List Int) (((l0.length : Int)) % 4294967296) t436 w _ ?side1 ?side2 A5.out).mono ?_); (case side1 => repeat (first | (with_reducible first | exact HB.out | apply Zf | apply Zd | apply Ze) | exact HB.out)); (case side2 => exact R_nil _ _ _ _ _); rintro e w9 ⟨v437, rfl, ho0, hb, hkp⟩; refine ⟨_, rfl, ?_⟩; have n0_ := Zh (R_mono (ok' := fun k_ => True) ho0 (fun k_ hk_ => trivial)); have n1_ := Zh (hb); clear HB; have HO438 := n0_; have HB := n1_; clear n0_ n1_; (try clear hb); (try clear hkp); (try clear ho0)))
    have n0_ := Zh (R_drew HO438.out)
    have n1_ := Zh (Ze HB.out)
    clear HO438
    clear HB
    have HO438 := n0_
    have HB := n1_
    clear n0_ n1_
    refine start_ (n := 6) (S := fun w' => True) (ds := []) #[false, false, false, false, false, false] (by kernel_rfl) rfl rfl trivial (fun hHeld => ?_)
    generalize w9.drew = w10 at HO438 HB hHeld ⊢
    refine pure_ (i := 1) (N := some 18) (v := ?_) (a' := ?_) #[false, true, false, false, false, false] rfl rfl (by kernel_rfl) (fun _ _ _ h => h) (Or.inl ⟨by rfl, ?_⟩) ?_ ?_
    rotate_left
    ·
     intro w'
     go_simp
     with_reducible rfl
    rotate_left
    ·
     simp only [Act.put, List.setIfInBounds_toArray, List.set_cons_zero, List.set_cons_succ, i64_w, i32_w]
     rfl
    refine pure_ (i := 2) (N := some 19) (v := ?_) (a' := ?_) #[false, true, true, false, false, false] rfl rfl (by kernel_rfl) (fun _ _ _ h => h) (Or.inl ⟨by rfl, ?_⟩) ?_ ?_
    rotate_left
    ·
     intro w'
     go_simp
     with_reducible rfl
    rotate_left
    ·
     simp only [Act.put, List.setIfInBounds_toArray, List.set_cons_zero, List.set_cons_succ, i64_w, i32_w]
     rfl
    refine take_ (i := 0) (N := some 17) (v := ?_) (a' := ?_) #[true, true, true, false, false, false] rfl rfl (by kernel_rfl) (fun _ _ _ h => h) (Or.inl ⟨by rfl, ?_⟩) hHeld ?_ ?_
    rotate_left
    ·
     intro w' _
     go_simp
     with_reducible rfl
    rotate_left
    ·
     simp only [Act.put, List.setIfInBounds_toArray, List.set_cons_zero, List.set_cons_succ, i64_w, i32_w]
     rfl
    refine one_ (i := 3) (N := some 20) #[true, true, true, true, false, false] rfl rfl (by kernel_rfl) (by decide) (fun K hK => ?_)
    refine goes_ Tryd.func92 (by kernel_rfl) rfl #[.slice A0 l0.length c0] (by rfl) rfl rfl (by (try simp only [List.map_toArray, List.map_cons, List.map_nil]); first | done | rfl | (simp only [List.length_drop, List.length_take]; rfl)) ?_
    with_reducible refine (impl_crc32.calls kj1 _ _ l0 t439 _ ?side1 ?side2 A6.out).mono ?_
    (case side1 => repeat (first | exact (C_below HR0.out HB.out) | (with_reducible refine C_alloc ?_ _) | (with_reducible refine C_drewN ?_ _) | (with_reducible refine C_drew ?_)))
    (case side2 => exact HC0.out)
    rintro e w' ⟨rfl, ⟨nd, rfl⟩⟩
    refine ⟨_, rfl, ?_⟩
    obtain ⟨Ao11, co11, eo11⟩ := R_slice HO438.out
    (first | subst eo11 | (injection eo11 with f1_ f2_ f3_; have f4_ := f1_.symm; have f5_ := f3_.symm; clear f1_ f2_ f3_; subst f4_; subst f5_))
    refine hK.out _ _ trivial (fun hHeld => ?_)
    clear hK K
    refine norm_ (a' := ?_) ?_ ?_
    rotate_left
    ·
     show Act.put _ (some 20) _ = _
     simp only [Act.put, List.setIfInBounds_toArray, List.set_cons_zero, List.set_cons_succ, i64_w, i32_w]
     rfl
    refine one_ (i := 4) (N := some 21) #[true, true, true, true, true, false] rfl rfl (by kernel_rfl) (by decide) (fun K hK => ?_)
    refine goes_ Tryd.func91 (by kernel_rfl) rfl #[.agg #[], .slice Ao11 t436.length co11, .int .u32 t439] (by rfl) rfl rfl (by (try simp only [List.map_toArray, List.map_cons, List.map_nil]); first | done | rfl | (simp only [List.length_drop, List.length_take]; rfl)) ?_
    with_reducible refine (binary_littleEndian_AppendUint32.calls  (fun k_ => some k_ = (.slice Ao11 t436.length co11 : Value).ownBlock) (.slice Ao11 t436.length co11) t436 t439 t440 w _ ?side1 ?side2 A7.out).mono ?_
    (case side1 => repeat (first | (with_reducible first | exact HB.out | apply Zf | apply Zd | apply Ze) | exact HB.out))
    (case side2 => exact R_tight rfl HO438.out)
    rintro e w12 ⟨v441, rfl, ho0, hb, hkp⟩
    refine ⟨_, rfl, ?_⟩
    have n0_ := Zh (R_mono (ok' := fun k_ => True) ho0 (fun k_ hk_ => trivial))
    have n1_ := Zh (hb)
    clear HB
    clear HO438
    have HO442 := n0_
    have HB := n1_
    clear n0_ n1_
    (try clear hb)
    (try clear hkp)
    (try clear ho0)
    refine hK.out _ _ trivial (fun hHeld => ?_)
    clear hK K
    refine norm_ (a' := ?_) ?_ ?_
    rotate_left
    ·
     show Act.put _ (some 21) _ = _
     simp only [Act.put, List.setIfInBounds_toArray, List.set_cons_zero, List.set_cons_succ, i64_w, i32_w]
     rfl
    refine pure_ (i := 5) (N := some 3) (v := ?_) (a' := ?_) #[true, true, true, true, true, true] rfl rfl (by kernel_rfl) (fun _ _ _ h => h) (Or.inl ⟨by rfl, ?_⟩) ?_ ?_
    rotate_left
    ·
     intro w'
     go_simp
     with_reducible rfl
    rotate_left
    ·
     simp only [Act.put, List.setIfInBounds_toArray, List.set_cons_zero, List.set_cons_succ, i64_w, i32_w]
     rfl
    refine done_ (by kernel_rfl) ?_
    try go_wp2_with (first | ((with_reducible refine gate_builtin (b := .append) (xs := #[.tmp 22, .tmp 23]) rfl ?_); (try (refine gate_guard (by rfl) ?_; dsimp only)); at_builtin; refine R_append_rows (Kd.int .u8) (w0 := w) w.heap.size rfl (.tmp 22) (.tmp 23) 41 5 (.int .u8 0) 1 rfl Tryd.underlying41 info5 rfl (by decide) (by omega) v441 t440 l0 _ _ _ (fun _ => True) (fun _ => False) rfl rfl ?aO ?aR (fun _ _ h => h) (fun _ h => h.elim) ?aF ?aB ?aS ?aL ?_; (case aR => repeat (first | exact (C_below HR0.out HB.out) | (with_reducible refine C_alloc ?_ _) | (with_reducible refine C_drewN ?_ _) | (with_reducible refine C_drew ?_))); (case aB => exact Zs); (case aF => exact (fun _ _ => trivial)); (case aO => exact (by (with_reducible repeat (first | apply R_alloc | apply R_drewN | apply R_drew)); exact HO442.out)); (case aS => exact (below_size Zs)); (case aL => have := LMc8.out; omega); intro v444 w13 ho hb hg hat; rw [← Ny443.out] at ho; have n0_ := Zh (hb); have n1_ := Zh (ho); clear HB; clear HO442; have HB := n0_; have HO445 := n1_; clear n0_ n1_; clear ho hb hg hat))
    go_ret
    exact ⟨_, by first | rfl | (simp [errW_none, errW_some] <;> rfl) | (simp [*, errW_none, errW_some] <;> rfl), by (with_reducible repeat (first | apply R_alloc | apply R_drewN | apply R_drew)); exact HO445.out, by repeat (first | (with_reducible first | exact HB.out | apply Zf | apply Zd | apply Ze) | exact HB.out)⟩
   rw [if_neg c8] at H
   exact absurd H (by simp)
end Go.Proofs.YtcgojdhbphocgaaDoor.F

namespace Go.Proofs.YtcgojdhbphocgaaDoor.F
open Go.RowKit Go.Proofs.YtcgojdhbphocgaaDoorW.PrintWords Go.Proofs.YtcgojdhbphocgaaDoorW.PrintLast Go.Proofs.YtcgojdhbphocgaaDoorW.PrintMore
set_option linter.unusedVariables false
set_option linter.unusedSimpArgs false
theorem impl_frame.nonempty (k : Nat) (l0 r : List Int) (h : impl_frame.f k l0 = some r) (hb : ¬ ((l0.length : Int) < 1 ∨ (l0.length : Int) > 600)) : r ≠ [] := by
  unfold impl_frame.f at h
  rw [if_neg (fun e => hb (.inl e)), decide_eq_false (fun e => hb (.inr e))] at h
  cases k with
  | zero => exact absurd h (by simp [impl_frame.j0])
  | succ k =>
    simp only [impl_frame.j0, Bool.false_eq_true, if_false] at h
    obtain ⟨t1, _, h⟩ := Option.bind_eq_some_iff.mp h
    obtain ⟨t2, _, h⟩ := Option.bind_eq_some_iff.mp h
    obtain ⟨t3, _, h⟩ := Option.bind_eq_some_iff.mp h
    split at h
    · have e := Option.some.inj h
      intro hr
      rw [hr] at e
      have := congrArg List.length e
      simp only [List.length_append, List.length_nil] at this
      omega
    exact absurd h (by simp)
set_option maxHeartbeats 8000000 in
set_option maxRecDepth 100000 in
theorem impl_frame.strong (k : Nat) (A0 : Option Addr) (c0 : Nat) (l0 : List Int) (r : List Int) (w : World) (hr0 : Kd.C (Kd.int .u8) w A0 l0.length l0) (hc0 : l0.length ≤ c0) (h : impl_frame.f k l0 = some r) :
    Calls Tryd.prog 60 #[.slice A0 l0.length c0] w fun e w' => ∃ v0_ : Value, e = .returned (v0_) ∧ Kd.R (Kd.int .u8) 5 w' w.heap.size (fun _ => True) v0_ r ∧ Below w.heap.size w w' ∧ (r = [] → v0_ = .slice none 0 0) := by
  by_cases hb : (l0.length : Int) < 1 ∨ (l0.length : Int) > 600
  · have hr : r = [] := by
      unfold impl_frame.f at h
      have hj : impl_frame.j0 k l0 true = some r := by
        rcases hb with hb | hb
        · rwa [if_pos hb] at h
        rwa [if_neg (by omega), decide_eq_true hb] at h
      cases k with
      | zero => exact absurd hj (by simp [impl_frame.j0])
      | succ k => simp only [impl_frame.j0, if_true] at hj; exact (Option.some.inj hj).symm
    subst hr
    clear h hr0 hc0
    by_cases h1 : (l0.length : Int) < 1
    · have b1 : decide ((l0.length : Int) < 1) = true := decide_eq_true h1
      clear h1 hb
      go_enter Tryd.func60, Tryd.ntmps60
      go_wp2
      go_ret
      exact ⟨_, rfl, Kd.R_nil _ _ _ _ _, Below.refl _ _, fun _ => rfl⟩
    have b1 : decide ((l0.length : Int) < 1) = false := decide_eq_false h1
    have b2 : decide ((l0.length : Int) > 600) = true := decide_eq_true (by omega)
    clear h1 hb
    go_enter Tryd.func60, Tryd.ntmps60
    go_wp2
    go_ret
    exact ⟨_, rfl, Kd.R_nil _ _ _ _ _, Below.refl _ _, fun _ => rfl⟩
  refine (impl_frame.calls k A0 c0 l0 r w hr0 hc0 h).mono ?_
  rintro e w' ⟨v, rfl, ho, hw⟩
  exact ⟨v, rfl, ho, hw, fun hr => absurd hr (impl_frame.nonempty k l0 r h hb)⟩
theorem R_beyond {α : Type} {d : Kd α} {e base n c g o : Nat} {W : World} {ok : Nat → Prop} {xs : List α} (h : d.R e W base ok (.slice (some ⟨g, 0, none⟩) n c) xs) (vs : List Value) (ho : n * d.sz ≤ o) (hc : o + vs.length ≤ c * d.sz) :
    d.R e (W.setCells g o vs) base ok (.slice (some ⟨g, 0, none⟩) n c) xs := by
  have hn := (Kd.R_reads' h).1
  have hgo : some g = (Value.slice (some ⟨g, 0, none⟩) n c).ownBlock := by simp [Value.ownBlock]
  obtain ⟨hok, inner, ⟨hl, hown⟩, hr⟩ := h
  rcases hown with ⟨hv, _⟩ | ⟨g', cap', cur, hv, hb, hh, hnc, hcm, hcs, htake⟩
  · cases hv
  injection hv with ha _ hc'
  injection ha with ha
  injection ha with hg
  subst hg; subst hc'
  obtain ⟨cur', h1, h2, h3⟩ := setCells_row vs o W cur hh (by omega)
  refine ⟨hok, inner, ⟨hl, .inr ⟨g, c, cur', by rw [← hn], hb, h1, hnc, hcm, by omega, ?_⟩⟩, hr.1, fun j p hj => d.M_move (fun k hk => setCells_far vs o k (fun he => hk.2 (by rw [he]; exact hgo))) (hr.2 j p hj)⟩
  rw [← htake, h3, ← hn, List.append_assoc, List.take_append_of_le_length (by rw [List.length_take, Array.length_toList]; omega), List.take_take]
  congr 1
  omega
theorem S_beyond {α : Type} {d : Kd α} {e base n c g o : Nat} {W : World} {ok : Nat → Prop} {xs : List α} (h : Kd.S d e W base ok (.slice (some ⟨g, 0, none⟩) n c) xs) (vs : List Value) (ho : n * d.sz ≤ o) (hc : o + vs.length ≤ c * d.sz) :
    Kd.S d e (W.setCells g o vs) base ok (.slice (some ⟨g, 0, none⟩) n c) xs := by
  obtain ⟨f, h⟩ := h
  exact ⟨f, R_beyond h vs ho hc⟩
theorem S_there {α : Type} {d : Kd α} {e base n c g : Nat} {W : World} {ok : Nat → Prop} {xs : List α} (h : Kd.S d e W base ok (.slice (some ⟨g, 0, none⟩) n c) xs) (j : Nat) (hj : j < c * d.sz) : (W.cell? ⟨g, j, none⟩).isSome = true ∧ W.frozen? ⟨g, j, none⟩ = false := by
  obtain ⟨inner, _, hown⟩ := Kd.S_own h
  rcases hown with ⟨hv, _⟩ | ⟨g', cap', cur, hv, hb, hh, hnc, hcm, hcs, htake⟩
  · cases hv
  injection hv with ha _ hc'
  injection ha with ha
  injection ha with hg
  subst hg; subst hc'
  refine ⟨?_, Zn hh j⟩
  rw [blk_cell hh j, Array.getElem?_eq_getElem (by omega)]
  rfl
theorem S_cap {α : Type} {d : Kd α} {e base n c g : Nat} {W : World} {ok : Nat → Prop} {xs : List α} (h : Kd.S d e W base ok (.slice (some ⟨g, 0, none⟩) n c) xs) : c ≤ 9223372036854775807 := by
  obtain ⟨inner, _, hown⟩ := Kd.S_own h
  rcases hown with ⟨hv, _⟩ | ⟨g', cap', cur, hv, hb, hh, hnc, hcm, hcs, htake⟩
  · cases hv
  injection hv with ha _ hc'
  subst hc'
  exact hcm
theorem info55s : (Tryd.prog.info? 55).map (·.size) = some k55.sz := by kernel_rfl
theorem below_setCells {g : Nat} {a : World} (hg : a.heap.size ≤ g) : ∀ (vs : List Value) (o : Nat) {w : World}, Below a.heap.size a w → Below a.heap.size a (w.setCells g o vs)
  | [], _, _, hb => hb
  | _ :: r, o, _, hb => below_setCells hg r (o + 1) (Zg hb hg)
theorem zeroed3 (W : World) (g o c ty : Nat) (hc : ∀ j, j < 3 → (W.cell? ⟨g, o + j, none⟩).isSome = true ∧ W.frozen? ⟨g, o + j, none⟩ = false) :
    (Builtin.clear_ #[26] ty #[.slice (some ⟨g, o, none⟩) 1 c]).run Tryd.prog W = .ok (.tuple #[]) (W.setCells g o [.string ⟨#[]⟩, .slice none 0 0, .slice none 0 0]) := by
  have hst := run_storeCells_cells (P := Tryd.prog) g o [.string ⟨#[]⟩, .slice none 0 0, .slice none 0 0] 0 W (fun j hj => by rw [Nat.add_zero]; exact (hc j hj).1) (fun j hj => by rw [Nat.add_zero]; exact (hc j hj).2) (by intro v hv; simp at hv; rcases hv with rfl | rfl <;> rfl)
  rw [Nat.add_zero] at hst
  have hz : (Builtin.zeroCells (Value.agg #[.string ⟨#[]⟩, .slice none 0 0, .slice none 0 0]).cells 1).toList = [.string ⟨#[]⟩, .slice none 0 0, .slice none 0 0] := by kernel_rfl
  simp [Builtin.clear_, run_underlying Tryd.underlying26, Tryd.zeroValue55, hz, hst]
theorem S_delete_law {P : Program} {ops : Array Oper} {o : Oper} {a : Act} {Q : Exit → Act → World → Prop} {α : Type} {Kc : Act → World → Prop} {E : Prop} (d : Kd α) {w0 W : World} (base : Nat) (hgd : o.guard = none) (s x : Operand) (t e : TypeId) (ho : o.op = .call { callee := .builtin .append, args := #[s, x], argTypes := #[t, t] })
    (ht : P.underlying t = some (.slice e)) (hinfo : (P.info? e).map (·.size) = some d.sz) {g n c k m c2 : Nat} {A : Option Addr} {xs : List α} {ok : Nat → Prop}
    (hs : a.eval s = .slice (some ⟨g, 0, none⟩) k c) (hx : a.eval x = .slice A m c2) (hA : A = if c = k + 1 then some ⟨g, 0, none⟩ else (some (⟨g, 0, none⟩ : Addr)).map (·.add ((k + 1) * d.sz))) (hm : m = n - (k + 1))
    (HO : Kd.S d e W base ok (.slice (some ⟨g, 0, none⟩) n c) xs) (hk : k < n) (HB : Below base w0 W) (hbase : base ≤ W.heap.size)
    (h : ∀ w1, Kd.S d e w1 base ok (.slice (some ⟨g, 0, none⟩) (n - 1) c) (xs.eraseIdx k) → Below base w0 w1 → W.grownBy w1 (some g) → Kc (a.put o.dst (.slice (some ⟨g, 0, none⟩) (n - 1) c)) w1) :
    if Region.wanted o (yielded ops a.tmps) = true then Oper.wp P o a W Kc Q else E := by
  have hw : Region.wanted o (yielded ops a.tmps) = true := by simp [Region.wanted, hgd]
  have := Kd.S_delete_step (Q := Q) d base hw s x t e ho ht hinfo hs hx hA hm HO hk HB hbase h
  rw [if_pos hw] at this ⊢
  exact this
set_option maxHeartbeats 4000000 in
set_option maxRecDepth 100000 in
theorem sDelete.calls (i : Nat) (P : Nat → Prop) (v : Value) (l : List S55) (w0 w : World) (hB : Below w0.heap.size w0 w) (ho : Kd.S k55 55 w w0.heap.size P v l) (hi : i < l.length) :
    Calls Tryd.prog 96 #[v, .int .i64 i, .int .i64 (i + 1)] w fun e w' => ∃ v' : Value, e = .returned v' ∧ Kd.S k55 55 w' w0.heap.size P v' (l.eraseIdx i) ∧ Below w0.heap.size w0 w' ∧ Kept w w' P := by
  obtain ⟨g, c, rfl, hbg, hgw, _⟩ := Kd.S_form ho (by omega)
  have hnc := (Kd.S_reads' ho).2.1
  have hcm := S_cap ho
  have hPg : P g := (Kd.S_R ho).1 g (by simp [Value.ownBlock])
  have HO := Zh (Kd.S_drew ho)
  have HB := Zh (Ze hB)
  have HK := Zh (Kept.of_below (Ze (Below.refl w.heap.size w)) P)
  have HS := Zh (show w0.heap.size ≤ w.drew.heap.size from Nat.le_of_lt (Nat.lt_of_le_of_lt hbg hgw))
  have HG := Zh hPg
  have HBG := Zh hbg
  have hic : i ≤ c := by omega
  have hjc : i + 1 ≤ c := by omega
  have hjl : i + 1 ≤ l.length := by omega
  have hj0 : (0 : Int) ≤ (i : Int) + 1 := by omega
  have hj1 : (i : Int) + 1 ≤ (l.length : Int) := by omega
  have hil : (i : Int) < (l.length : Int) := by omega
  have hi1 : ((i : Int) == (i : Int) + 1) = false := by simp; omega
  clear ho hB hbg hPg
  by_cases hci : c = i + 1
  · subst hci
    have hii : (i : Int) ≤ (i : Int) + 1 := by omega
    go_enter Tryd.func96, Tryd.ntmps96
    go_wp2
    go_region_law (refine S_delete_law (w0 := w0) k55 w0.heap.size rfl (.tmp 22) (.tmp 25) 26 55 rfl Tryd.underlying26 info55s (g := g) (n := l.length) (c := i + 1) (k := i) (m := 0) (c2 := 0) (A := some ⟨g, 0, none⟩) (ok := P) (by simp [Act.eval, Act.put]) (by simp [Act.eval, Act.put]) (by simp) (by omega) HO.out hi HB.out HS.out ?_; intro w1 hS1 hB1 hG1)
    all_goals
      have hnc1 : l.length - 1 < l.length := by omega
      have hth := fun j (hj : j < (i + 1) * 3) => S_there hS1 j hj
      have HC := Zh (fun ty => zeroed3 w1 g ((l.length - 1) * 3) (i + 1 - (l.length - 1)) ty (fun j hj => hth _ (by omega)))
      have HS1 := Zh (S_beyond hS1 [.string ⟨#[]⟩, .slice none 0 0, .slice none 0 0] (o := (l.length - 1) * 3) (Nat.le_refl _) (by show (l.length - 1) * 3 + 3 ≤ (i + 1) * 3; omega))
      have e1 : l.length - (l.length - 1) = 1 := by omega
      have hlc : l.length - 1 ≤ i + 1 := by omega
      have hcl := HC.out
      clear hS1 hth
      go_wp2
      go_ret
      refine ⟨.slice (some ⟨g, 0, none⟩) (l.length - 1) _, rfl, HS1.out, below_setCells HBG.out _ _ hB1, ?_⟩
      refine ⟨by rw [(setCells_same g _ _ w1).2.2.2]; exact hG1.size, fun k hk hn => ?_⟩
      have hkg : k ≠ g := fun he => hn (he ▸ HG.out)
      rw [setCells_far _ _ k hkg]
      exact hG1.block k hk (fun he => hkg (Option.some.inj he))
  have hcf : (c = i + 1) = False := eq_false hci
  clear hci
  go_enter Tryd.func96, Tryd.ntmps96
  go_wp2
  go_region_law (refine S_delete_law (w0 := w0) k55 w0.heap.size rfl (.tmp 22) (.tmp 25) 26 55 rfl Tryd.underlying26 info55s (g := g) (n := l.length) (c := c) (k := i) (m := l.length - (i + 1)) (c2 := c - (i + 1)) (A := some ⟨g, (i + 1) * 3, none⟩) (ok := P) (by simp [Act.eval, Act.put, hcf]) (by simp [Act.eval, Act.put, hcf]) (by rw [if_neg (of_eq_false hcf)]; exact congrArg some (add_at g 0 ((i + 1) * 3) |>.trans (by rw [Nat.zero_add])).symm) rfl HO.out hi HB.out HS.out ?_; intro w1 hS1 hB1 hG1)
  all_goals
    have hnc1 : l.length - 1 < l.length := by omega
    have hth := fun j (hj : j < (c) * 3) => S_there hS1 j hj
    have HC := Zh (fun ty => zeroed3 w1 g ((l.length - 1) * 3) (c - (l.length - 1)) ty (fun j hj => hth _ (by omega)))
    have HS1 := Zh (S_beyond hS1 [.string ⟨#[]⟩, .slice none 0 0, .slice none 0 0] (o := (l.length - 1) * 3) (Nat.le_refl _) (by show (l.length - 1) * 3 + 3 ≤ (c) * 3; omega))
    have e1 : l.length - (l.length - 1) = 1 := by omega
    have hlc : l.length - 1 ≤ c := by omega
    have hcl := HC.out
    clear hS1 hth
    go_wp2
    go_ret
    refine ⟨.slice (some ⟨g, 0, none⟩) (l.length - 1) _, rfl, HS1.out, below_setCells HBG.out _ _ hB1, ?_⟩
    refine ⟨by rw [(setCells_same g _ _ w1).2.2.2]; exact hG1.size, fun k hk hn => ?_⟩
    have hkg : k ≠ g := fun he => hn (he ▸ HG.out)
    rw [setCells_far _ _ k hkg]
    exact hG1.block k hk (fun he => hkg (Option.some.inj he))
theorem run_copy_k {P : Program} (w : World) (dT sT ty elem : TypeId) (size : Nat) (b o dLen dCap : Nat) (a : Addr) (sLen sCap : Nat) (cs : List Value)
    (hu : P.underlying dT = some (.slice elem)) (hs : (P.info? elem).map (·.size) = some size) (hn : cs.length = Nat.min sLen dLen * size)
    (hsrc : ∀ j v, cs[j]? = some v → w.cell? (a.add j) = some v) (hc : ∀ j, j < cs.length → (w.cell? ⟨b, o + j, none⟩).isSome = true) (hf : ∀ j, j < cs.length → w.frozen? ⟨b, o + j, none⟩ = false) (h1 : ∀ v ∈ cs, v.oneCell' = true) :
    (Builtin.copy_ #[dT, sT] ty #[.slice (some ⟨b, o, none⟩) dLen dCap, .slice (some a) sLen sCap]).run P w = .ok (goInt (Nat.min sLen dLen)) (w.setCells b o cs) := by
  have hl := run_loadCells_list (P := P) w a cs hsrc
  have hst := run_storeCells_cells (P := P) b o cs 0 w (by simpa using hc) (by simpa using hf) h1
  cases hq : P.info? elem with
  | none => simp [hq] at hs
  | some i =>
    have hi : i.size = size := by simpa [hq] using hs
    simp [Builtin.copy_, run_underlying hu, Builtin.lenOf, Builtin.firstCells, sizeOf, typeInfo, hq, hi, ← hn, hl, hst]
theorem wpList_copy_run {P : Program} (w : World) {ops : Array Oper} {rest : List Oper} {o : Oper} {a : Act} {Q : Exit → Act → World → Prop} (hgd : o.guard = none) (d s : Operand) (t t' : TypeId)
    (ho : o.op = .call { callee := .builtin .copy, args := #[d, s], argTypes := #[t, t'] }) (v u : Value) (hd : a.eval d = v) (hs : a.eval s = u) {v' : Value} {w' : World}
    (hr : (Builtin.copy_ #[t, t'] o.type #[v, u]).run P w = .ok v' w') (h : wpList P ops Q rest (a.put o.dst v') w') : wpList P ops Q (o :: rest) a w :=
  wpList_plain hgd fun _ hK => by
    unfold Oper.wp execOp
    simp only [ho, resolve, invoke, builtin, Sem.run_bind, Sem.run_pure, Result.andThen_ok, List.map_toArray, List.map_cons, List.map_nil, hd, hs, hr]
    exact hK _ _ h
theorem step_copy_run {P : Program} {ops : Array Oper} {o : Oper} {a : Act} {w : World} {K : Act → World → Prop} {Q : Exit → Act → World → Prop} {E : Prop}
    (hg : o.guard = none) (d x : Operand) (dT sT : TypeId) (hop : o.op = Op.call { callee := Callee.builtin Builtin.copy, args := #[d, x], argTypes := #[dT, sT] })
    (v u : Value) (hd : a.eval d = v) (hx : a.eval x = u) {v' : Value} {w' : World} (hr : (Builtin.copy_ #[dT, sT] o.type #[v, u]).run P w = .ok v' w') (hK : K (a.put o.dst v') w') :
    if Region.wanted o (yielded ops a.tmps) = true then Oper.wp P o a w K Q else E := by
  have hw : Region.wanted o (yielded ops a.tmps) = true := by simp [Region.wanted, hg]
  rw [if_pos hw]
  unfold Oper.wp
  simp [execOp, hop, resolve, invoke, builtin, hd, hx, hr, Result.andThen]
  exact hK
theorem S_parts {α : Type} {d : Kd α} {e base : Nat} {W : World} {ok : Nat → Prop} {v : Value} {xs : List α} (h : Kd.S d e W base ok v xs) :
    ∃ (inner : List Value) (okj : Nat → Nat → Prop), W.ownsRow base e d.sz v xs.length inner ∧ inner.length = xs.length * d.sz ∧ (∀ k, v.ownBlock = some k → ok k) ∧ (∀ i j k, okj i k → okj j k → i = j) ∧ (∀ j k, okj j k → ok k ∧ some k ≠ v.ownBlock) ∧ ∀ j x, xs[j]? = some x → d.M W base (okj j) x ((inner.drop (j * d.sz)).take d.sz) := by
  obtain ⟨f, h0, inner, ho, hr⟩ := h
  rw [List.length_zipIdx] at ho
  have hl : inner.length = xs.length * d.sz := by have := hr.1; rw [List.length_zipIdx] at this; exact this
  exact ⟨inner, fun j k => (ok k ∧ some k ≠ v.ownBlock) ∧ f k = j, ho, hl, h0, fun i j k h1 h2 => h1.2.symm.trans h2.2, fun j k hk => hk.1, fun j x hx => hr.2 j (x, j) (Kd.zip_at hx)⟩
theorem ins_get {α : Type} (l : List α) (x : α) (i : Nat) (hi : i ≤ l.length) (j : Nat) (y : α) (h : (l.take i ++ x :: l.drop i)[j]? = some y) : (j < i ∧ l[j]? = some y) ∨ (j = i ∧ y = x) ∨ (i < j ∧ l[j - 1]? = some y) := by
  have hl : (l.take i).length = i := by rw [List.length_take]; omega
  by_cases h1 : j < i
  · rw [List.getElem?_append_left (by omega), List.getElem?_take, if_pos h1] at h
    exact .inl ⟨h1, h⟩
  rw [List.getElem?_append_right (by omega), hl] at h
  by_cases h2 : j = i
  · subst h2
    rw [Nat.sub_self, List.getElem?_cons_zero] at h
    exact .inr (.inl ⟨rfl, (Option.some.inj h).symm⟩)
  obtain ⟨m, hm⟩ : ∃ m, j - i = m + 1 := ⟨j - i - 1, by omega⟩
  rw [hm, List.getElem?_cons_succ, List.getElem?_drop] at h
  exact .inr (.inr ⟨by omega, by rw [show j - 1 = i + m by omega]; exact h⟩)
theorem ins_cells {inner cx : List Value} {n i sz : Nat} (hin : inner.length = n * sz) (hcx : cx.length = sz) (hi : i ≤ n) (j : Nat) :
    (j < i → ((inner.take (i * sz) ++ cx ++ inner.drop (i * sz)).drop (j * sz)).take sz = (inner.drop (j * sz)).take sz) ∧ (j = i → ((inner.take (i * sz) ++ cx ++ inner.drop (i * sz)).drop (j * sz)).take sz = cx) ∧ (i < j → ((inner.take (i * sz) ++ cx ++ inner.drop (i * sz)).drop (j * sz)).take sz = (inner.drop ((j - 1) * sz)).take sz) := by
  have hil : i * sz ≤ inner.length := by rw [hin]; exact Nat.mul_le_mul_right _ hi
  have htl : (inner.take (i * sz)).length = i * sz := by rw [List.length_take]; omega
  refine ⟨fun h => ?_, fun h => ?_, fun h => ?_⟩
  · have h1 : j * sz + sz ≤ i * sz := by rw [← Nat.succ_mul]; exact Nat.mul_le_mul_right _ h
    rw [List.append_assoc, List.drop_append_of_le_length (by omega), List.take_append_of_le_length (by rw [List.length_drop]; omega), List.drop_take, List.take_take]
    congr 1
    omega
  · subst h
    rw [List.append_assoc, List.drop_append, htl, Nat.sub_self, List.drop_zero, List.drop_eq_nil_of_le (by omega), List.nil_append, List.take_append_of_le_length (by omega), List.take_of_length_le (by omega)]
  have h1 : i * sz + sz ≤ j * sz := by rw [← Nat.succ_mul]; exact Nat.mul_le_mul_right _ h
  have h2 : (j - 1) * sz = j * sz - sz := by rw [Nat.sub_mul, Nat.one_mul]
  rw [List.drop_append, List.drop_eq_nil_of_le (by rw [List.length_append]; omega), List.nil_append, List.length_append, htl, hcx, List.drop_drop]
  congr 2
  omega
theorem S_put {α : Type} {d : Kd α} {e base g' c' i : Nat} {W w1 : World} {ok G : Nat → Prop} {v : Value} {xs : List α} {x : α} {cx inner : List Value} {okj : Nat → Nat → Prop} {cur' : Array Value}
    (hin : inner.length = xs.length * d.sz) (h0 : ∀ k, v.ownBlock = some k → ok k) (hap : ∀ i j k, okj i k → okj j k → i = j) (hok : ∀ j k, okj j k → ok k ∧ some k ≠ v.ownBlock) (hrep : ∀ j x, xs[j]? = some x → d.M W base (okj j) x ((inner.drop (j * d.sz)).take d.sz))
    (hx : d.M W base G x cx) (hG : ∀ k, G k → ¬ ok k) (hi : i ≤ xs.length) (hb : base ≤ g') (hg' : v.ownBlock = some g' ∨ W.heap.size ≤ g')
    (hcur : w1.heap[g']? = some (.cells cur' e (0, 0))) (hsz : cur'.size = c' * d.sz) (hnc : xs.length + 1 ≤ c') (hcm : c' ≤ maxLen) (htk : cur'.toList.take ((xs.length + 1) * d.sz) = inner.take (i * d.sz) ++ cx ++ inner.drop (i * d.sz))
    (hmv : ∀ k, k < W.heap.size → some k ≠ v.ownBlock → w1.heap[k]? = W.heap[k]?) :
    Kd.S d e w1 base (fun k => ok k ∨ G k ∨ (W.heap.size ≤ k ∧ k < w1.heap.size)) (.slice (some ⟨g', 0, none⟩) (xs.length + 1) c') (xs.take i ++ x :: xs.drop i) := by
  have hlen : (xs.take i ++ x :: xs.drop i).length = xs.length + 1 := by simp; omega
  have hcx : cx.length = d.sz := d.K_len (d.K_of_M hx)
  have hgl : g' < w1.heap.size := blk_lt hcur
  have hcells := fun j => ins_cells (inner := inner) (cx := cx) hin hcx hi j
  have hmove : ∀ (q : Nat → Prop) (y : α) (cs : List Value), (∀ k, q k → some k ≠ v.ownBlock) → d.M W base q y cs → d.M w1 base (fun k => q k ∧ k < W.heap.size) y cs := fun q y cs hq hM =>
    d.M_move (fun k hk => hmv k hk.2 (hq k hk.1)) (d.M_mono (fun k hk => ⟨hk.1, hk.2.2.1⟩) (d.M_bound hM))
  have hGv : ∀ k, G k → some k ≠ v.ownBlock := fun k hk he => hG k hk (h0 k he.symm)
  have hnew : ∀ q : Nat → Prop, (∀ k, q k → some k ≠ v.ownBlock) → ∀ k, (q k ∧ k < W.heap.size) → some k ≠ some g' := fun q hq k hk he => by
    injection he with he
    rcases hg' with h | h
    · exact hq k hk.1 (by rw [h, he])
    have := hk.2; omega
  obtain ⟨f, hr⟩ := Kd.reps_tag (d := d) (w := w1) (base := base) (ok := fun k => (ok k ∨ G k ∨ (W.heap.size ≤ k ∧ k < w1.heap.size)) ∧ some k ≠ (Value.slice (some ⟨g', 0, none⟩) (xs.length + 1) c').ownBlock) (xs := xs.take i ++ x :: xs.drop i) (inner := inner.take (i * d.sz) ++ cx ++ inner.drop (i * d.sz))
    (fun j k => ((j < i ∧ okj j k) ∨ (j = i ∧ G k) ∨ (i < j ∧ okj (j - 1) k)) ∧ k < W.heap.size)
    (fun a b k h1 h2 => by
      rcases h1.1 with ⟨a1, a2⟩ | ⟨a1, a2⟩ | ⟨a1, a2⟩ <;> rcases h2.1 with ⟨b1, b2⟩ | ⟨b1, b2⟩ | ⟨b1, b2⟩
      · exact hap _ _ k a2 b2
      · exact absurd (hok _ k a2).1 (hG k b2)
      · have := hap _ _ k a2 b2; omega
      · exact absurd (hok _ k b2).1 (hG k a2)
      · omega
      · exact absurd (hok _ k b2).1 (hG k a2)
      · have := hap _ _ k a2 b2; omega
      · exact absurd (hok _ k a2).1 (hG k b2)
      have := hap _ _ k a2 b2; omega)
    (fun j k hk => by
      show _ ∧ some k ≠ (Value.slice (some ⟨g', 0, none⟩) (xs.length + 1) c').ownBlock
      have ho : (Value.slice (some ⟨g', 0, none⟩) (xs.length + 1) c').ownBlock = some g' := by simp [Value.ownBlock]
      rw [ho]
      rcases hk.1 with ⟨_, a2⟩ | ⟨_, a2⟩ | ⟨_, a2⟩
      · exact ⟨.inl (hok _ k a2).1, hnew (okj j) (fun k hk => (hok _ k hk).2) k ⟨a2, hk.2⟩⟩
      · exact ⟨.inr (.inl a2), hnew G hGv k ⟨a2, hk.2⟩⟩
      exact ⟨.inl (hok _ k a2).1, hnew (okj (j - 1)) (fun k hk => (hok _ k hk).2) k ⟨a2, hk.2⟩⟩)
    (by rw [hlen]; simp only [List.length_append, List.length_take, List.length_drop, hcx]; have : i * d.sz ≤ inner.length := by rw [hin]; exact Nat.mul_le_mul_right _ hi
        rw [Nat.add_mul, Nat.one_mul, ← hin]; omega)
    (fun j y hy => by
      rcases ins_get xs x i hi j y hy with ⟨h1, h2⟩ | ⟨h1, rfl⟩ | ⟨h1, h2⟩
      · rw [(hcells j).1 h1]
        exact d.M_mono (fun k hk => ⟨.inl ⟨h1, hk.1⟩, hk.2⟩) (hmove (okj j) y _ (fun k hk => (hok _ k hk).2) (hrep j y h2))
      · rw [(hcells j).2.1 h1]
        exact d.M_mono (fun k hk => ⟨.inr (.inl ⟨h1, hk.1⟩), hk.2⟩) (hmove G y _ hGv hx)
      rw [(hcells j).2.2 h1]
      exact d.M_mono (fun k hk => ⟨.inr (.inr ⟨h1, hk.1⟩), hk.2⟩) (hmove (okj (j - 1)) y _ (fun k hk => (hok _ k hk).2) (hrep (j - 1) y h2)))
  refine ⟨f, fun k hk => ?_, inner.take (i * d.sz) ++ cx ++ inner.drop (i * d.sz), ⟨?_, .inr ⟨g', c', cur', ?_, hb, hcur, ?_, hcm, hsz, ?_⟩⟩, hr⟩
  · have : g' = k := by simpa [Value.ownBlock] using hk
    subst this
    rcases hg' with h | h
    · exact .inl (h0 _ h)
    exact .inr (.inr ⟨h, hgl⟩)
  · rw [List.length_zipIdx]; have := hr.1; rw [List.length_zipIdx] at this; exact this
  · rw [List.length_zipIdx, hlen]
  · rw [List.length_zipIdx, hlen]; exact hnc
  rw [List.length_zipIdx, hlen]; exact htk
theorem S_putO {α : Type} {d : Kd α} {e base i : Nat} {W w1 : World} {ok G : Nat → Prop} {v v' : Value} {xs : List α} {x : α} {cx inner : List Value} {okj : Nat → Nat → Prop}
    (hin : inner.length = xs.length * d.sz) (h0 : ∀ k, v.ownBlock = some k → ok k) (hap : ∀ i j k, okj i k → okj j k → i = j) (hok : ∀ j k, okj j k → ok k ∧ some k ≠ v.ownBlock) (hrep : ∀ j x, xs[j]? = some x → d.M W base (okj j) x ((inner.drop (j * d.sz)).take d.sz))
    (hx : d.M W base G x cx) (hG : ∀ k, G k → ¬ ok k) (hi : i ≤ xs.length) (hown : w1.ownsRow base e d.sz v' (xs.length + 1) (inner.take (i * d.sz) ++ cx ++ inner.drop (i * d.sz))) (hat : v'.ownBlock = v.ownBlock ∨ ∃ b, v'.ownBlock = some b ∧ W.heap.size ≤ b)
    (hmv : ∀ k, k < W.heap.size → some k ≠ v.ownBlock → w1.heap[k]? = W.heap[k]?) :
    Kd.S d e w1 base (fun k => ok k ∨ G k ∨ (W.heap.size ≤ k ∧ k < w1.heap.size)) v' (xs.take i ++ x :: xs.drop i) := by
  rcases hown.2 with ⟨_, hn⟩ | ⟨g', c', cur', rfl, hb, hcur, hnc, hcm, hsz, htk⟩
  · omega
  refine S_put hin h0 hap hok hrep hx hG hi hb ?_ hcur hsz hnc hcm htk hmv
  have hg : (Value.slice (some ⟨g', 0, none⟩) (xs.length + 1) c').ownBlock = some g' := by simp [Value.ownBlock]
  rw [hg] at hat
  rcases hat with h | ⟨b, h, hb'⟩
  · exact .inl h.symm
  injection h with h
  subst h
  exact .inr hb'
theorem ins_row {cur cur1 cur2 inner cx : List Value} {n i : Nat} (hin : inner.length = n * 3) (hcx : cx.length = 3) (hi : i < n) (hcl : (n + 1) * 3 ≤ cur.length) (htk : cur.take (n * 3) = inner)
    (h1 : cur1 = cur.take ((i + 1) * 3) ++ inner.drop (i * 3) ++ cur.drop ((i + 1) * 3 + (inner.drop (i * 3)).length)) (h2 : cur2 = cur1.take (i * 3) ++ cx ++ cur1.drop (i * 3 + cx.length)) :
    cur2.take ((n + 1) * 3) = inner.take (i * 3) ++ cx ++ inner.drop (i * 3) := by
  have e0 : (cur.take ((i + 1) * 3)).length = i * 3 + 3 := by rw [List.length_take]; omega
  have e1 : cur1.take (i * 3) = inner.take (i * 3) := by
    rw [h1, List.append_assoc, List.take_append_of_le_length (by omega), List.take_take, ← htk, List.take_take, Nat.min_eq_left (by omega), Nat.min_eq_left (by omega)]
  have e2 : cur1.drop (i * 3 + cx.length) = inner.drop (i * 3) ++ cur.drop ((i + 1) * 3 + (inner.drop (i * 3)).length) := by
    rw [h1, List.append_assoc, List.drop_left' (by rw [e0, hcx])]
  rw [h2, e1, e2, ← List.append_assoc, List.take_left']
  simp only [List.length_append, List.length_take, List.length_drop, hcx, hin]
  omega
def InsPost (w0 w : World) (P G : Nat → Prop) (l : List S55) (e : Ending) (w' : World) : Prop := ∃ v' : Value, e = .returned v' ∧ Kd.S k55 55 w' w0.heap.size (fun k => P k ∨ G k ∨ (w.heap.size ≤ k ∧ k < w'.heap.size)) v' l ∧ Below w0.heap.size w0 w' ∧ Kept w w' P
theorem kept_of_grown {w w1 : World} {v : Value} {P : Nat → Prop} (hg : w.grownBy w1 v.ownBlock) (h0 : ∀ k, v.ownBlock = some k → P k) : Kept w w1 P := ⟨hg.size, fun k hk hn => hg.block k hk (fun he => hn (h0 k he.symm))⟩
set_option maxHeartbeats 4000000 in
set_option maxRecDepth 100000 in
theorem sInsert_end (P G : Nat → Prop) (v : Value) (l : List S55) (x : S55) (cx : List Value) (gv : Nat) (w0 w : World) (hB : Below w0.heap.size w0 w) (ho : Kd.S k55 55 w w0.heap.size P v l) (hlen : (l.length + 1) * 64 ≤ 140737488355328)
    (hx : k55.M w w0.heap.size G x cx) (hgv : w.heap[gv]? = some (.cells cx.toArray 55 (0, 0))) (hPG : ∀ k, G k → ¬ P k) (r : List S55) (hr : r = l.take l.length ++ x :: l.drop l.length) :
    Calls Tryd.prog 108 #[v, .int .i64 l.length, .slice (some ⟨gv, 0, none⟩) 1 1] w (InsPost w0 w P G r) := by
  obtain ⟨inner, okj, hown, hin, h0, hap, hok, hrep⟩ := S_parts ho
  obtain ⟨A, c, rfl⟩ := Kd.S_slice ho
  obtain ⟨i0, hi0, hz0, hz1, hz2⟩ := info_parts info55
  have hcx : cx.length = 3 := k55.K_len (k55.K_of_M hx)
  have hone := k55.K_one (k55.K_of_M hx)
  have hnc := (Kd.S_reads' ho).2.1
  have HOW := Zh hown
  have HB := Zh hB
  have HV := Zh (World.news_of_block hgv)
  have HX := Zh hone
  have HS := Zh hB.size
  have K1 := Zh (And.intro hin (And.intro h0 (And.intro hap (And.intro hok (And.intro hrep (And.intro hx hPG))))))
  have hl63 : l.length + 1 ≤ maxLen := by simp only [maxLen]; omega
  have hll : (l.length : Int) ≤ (l.length : Int) := Int.le_refl _
  have fin : ∀ (v' : Value) (w' : World), w'.ownsRow w0.heap.size 55 3 v' (l.length + 1) (inner ++ cx) → w.grownBy w' (Value.slice A l.length c).ownBlock → (v'.ownBlock = (Value.slice A l.length c).ownBlock ∨ v'.ownBlock = some w.heap.size) → InsPost w0 w P G r (.returned v') w' := by
    intro v' w' h1 h2 h3
    subst hr
    refine ⟨v', rfl, S_putO (i := l.length) hin h0 hap hok hrep hx hPG (Nat.le_refl _) ?_ ?_ (fun k hk hn => h2.block k hk hn), hB.grown h2 hB.size (Kd.S_base ho), kept_of_grown h2 h0⟩
    · have e1 : inner.take (l.length * k55.sz) = inner := List.take_of_length_le (by omega)
      have e2 : inner.drop (l.length * k55.sz) = [] := List.drop_eq_nil_of_le (by omega)
      rw [e1, e2, List.append_nil]
      exact h1
    rcases h3 with h3 | h3
    · exact .inl h3
    exact .inr ⟨_, h3, Nat.le_refl _⟩
  have FIN := Zh fin
  clear hown hB hgv hone ho hin h0 hap hok hrep hx hPG fin K1 hr
  have hA : (A = none ∧ l.length = 0 ∧ c = 0) ∨ ∃ g, A = some ⟨g, 0, none⟩ := by
    rcases HOW.out.2 with ⟨hv, hn⟩ | ⟨g, cap, cur, hv, _⟩
    · injection hv with h1 h2 h3; exact .inl ⟨h1, h2, h3⟩
    injection hv with h1 _ _; exact .inr ⟨g, h1⟩
  rcases hA with ⟨rfl, hn0, rfl⟩ | ⟨g, rfl⟩
  all_goals
    go_enter Tryd.func108, Tryd.ntmps108
    go_wp2_with (at_builtin; refine wpList_append_own_at _ rfl _ _ 26 rfl w0.heap.size 55 i0 _ 3 64 Tryd.underlying26 hi0 hz0 hz1 hz2 rfl (by decide) _ l.length inner rfl HOW.out ⟨gv, 0, none⟩ 1 1 cx rfl (by rw [hcx]) HV.out HX.out hl63 hlen HS.out ?_; intro v' w' h1 h2 _ h3; have F := Zh (FIN.out v' w' h1 h2 h3); clear h1 h2 h3)
    all_goals (go_ret; exact F.out)
set_option maxHeartbeats 4000000 in
set_option maxRecDepth 100000 in
theorem sInsert_room (i : Nat) (P G : Nat → Prop) (g n c : Nat) (l : List S55) (x : S55) (cx : List Value) (gv : Nat) (w0 w : World) (hB : Below w0.heap.size w0 w) (ho : Kd.S k55 55 w w0.heap.size P (.slice (some ⟨g, 0, none⟩) n c) l) (hlen : (l.length + 1) * 64 ≤ 140737488355328)
    (hx : k55.M w w0.heap.size G x cx) (hgv : w.heap[gv]? = some (.cells cx.toArray 55 (0, 0))) (hPG : ∀ k, G k → ¬ P k) (hgP : ¬ P gv) (hi : i < n) (hroom : n + 1 ≤ c) (r : List S55) (hr : r = l.take i ++ x :: l.drop i) :
    Calls Tryd.prog 108 #[.slice (some ⟨g, 0, none⟩) n c, .int .i64 i, .slice (some ⟨gv, 0, none⟩) 1 1] w (InsPost w0 w P G r) := by
  obtain ⟨inner, okj, hown, hin, h0, hap, hok, hrep⟩ := S_parts ho
  have hn := (Kd.S_reads' ho).1
  have hcx : cx.length = 3 := k55.K_len (k55.K_of_M hx)
  have hone := k55.K_one (k55.K_of_M hx)
  have hPg : P g := h0 g (by simp [Value.ownBlock])
  have hvb : gv ≠ g := fun he => hgP (he ▸ hPg)
  have hcm := S_cap ho
  have hin3 : inner.length = n * 3 := by rw [hin, hn]; rfl
  obtain ⟨cur, hh, hcs, htk, hbg⟩ : ∃ cur, w.heap[g]? = some (.cells cur 55 (0, 0)) ∧ cur.size = c * 3 ∧ cur.toList.take (n * 3) = inner ∧ w0.heap.size ≤ g := by
    rcases hown.2 with ⟨hv, _⟩ | ⟨g', cap', cur, hv, hb, hh, hnc, hcm, hcs, htake⟩
    · cases hv
    injection hv with ha _ hc'
    injection ha with ha
    injection ha with hg
    subst hg; subst hc'
    exact ⟨cur, hh, hcs, by rw [hn]; exact htake, hb⟩
  have hgw : g < w.heap.size := blk_lt hh
  have hone2 : ∀ u ∈ inner, u.oneCell' = true := by
    intro u hu
    obtain ⟨q, hq⟩ := List.mem_iff_getElem?.1 hu
    have hql := (List.getElem?_eq_some_iff.1 hq).1
    have hqn : q / 3 < l.length := by omega
    have hM := hrep (q / 3) _ (List.getElem?_eq_getElem hqn)
    refine k55.K_one (k55.K_of_M hM) u (List.mem_iff_getElem?.2 ⟨q % 3, ?_⟩)
    show ((inner.drop (q / 3 * 3)).take 3)[q % 3]? = some u
    rw [List.getElem?_take, if_pos (Nat.mod_lt _ (by decide)), List.getElem?_drop, show q / 3 * 3 + q % 3 = q by omega]
    exact hq
  have hc0 : ∀ j u, inner[j]? = some u → w.cell? ⟨g, j, none⟩ = some u := fun j u hu => by
    rw [blk_cell hh j]
    rw [← htk, List.getElem?_take] at hu
    split at hu
    · simpa using hu
    cases hu
  have hsp : ∀ j, j < c * 3 → (w.cell? ⟨g, j, none⟩).isSome = true := fun j hj => by rw [blk_cell hh j, Array.getElem?_eq_getElem (by omega)]; rfl
  have hfz : ∀ j, w.frozen? ⟨g, j, none⟩ = false := fun j => Zn hh j
  have hvs : ∀ j u, cx[j]? = some u → w.cell? ⟨gv, j, none⟩ = some u := fun j u hu => by rw [blk_cell hgv j]; simpa using hu
  have hdl : (inner.drop (i * 3)).length = (n - i) * 3 := by rw [List.length_drop, hin3, Nat.sub_mul]
  have hov : ∀ lb cb, (callFunc 116 #[.slice (some ⟨gv, 0, none⟩) 1 1, .slice (some ⟨g, (i + 1) * 3, none⟩) lb cb]).run Tryd.prog w = .ok (.value (.bool false)) w := fun lb cb => by
    rw [run_callFunc_extern Tryd.func116 (by kernel_rfl) (by kernel_rfl) (by kernel_rfl) (e := Extern.SlicesOverlaps.overlaps #[26, 26] #[4]) (by kernel_rfl),
      Lib.run_overlaps_apart w 26 4 55 Tryd.underlying26 3 Tryd.sizeOf55 ⟨gv, 0, none⟩ ⟨g, (i + 1) * 3, none⟩ 1 1 lb cb hvb 55 55 3 (c * 3) (by simp [World.shape?, hgv, hcx]) (by simp [World.shape?, hh, hcs]) (by omega) (Zn hgv 0) (Zn hgv 3)]
    rfl
  have hmin1 : Nat.min (n + 1 - i) (n - i) = n - i := by simp only [Nat.min_def]; split <;> omega
  have hmin2 : Nat.min 1 (n + 1 - i) = 1 := by simp only [Nat.min_def]; split <;> omega
  have hcp1 : ∀ ty dc sc, (Builtin.copy_ #[26, 26] ty #[.slice (some ⟨g, (i + 1) * 3, none⟩) (n - i) dc, .slice (some ⟨g, i * 3, none⟩) (n + 1 - i) sc]).run Tryd.prog w.drew = .ok (goInt ((n - i : Nat) : Int)) (w.drew.setCells g ((i + 1) * 3) (inner.drop (i * 3))) := fun ty dc sc => by
    have h := run_copy_k (P := Tryd.prog) w.drew 26 26 ty 55 3 g ((i + 1) * 3) (n - i) dc ⟨g, i * 3, none⟩ (n + 1 - i) sc (inner.drop (i * 3)) Tryd.underlying26 info55s (by rw [hmin1]; exact hdl)
      (fun j u hj => by rw [Addr.add_lit]; exact hc0 (i * 3 + j) u (by rwa [List.getElem?_drop] at hj))
      (fun j hj => hsp _ (by rw [hdl, Nat.sub_mul] at hj; omega)) (fun j hj => hfz _) (fun u hu => hone2 u (List.mem_of_mem_drop hu))
    rw [hmin1] at h
    exact h
  obtain ⟨cur1, hh1, hcs1, hl1⟩ := setCells_row (inner.drop (i * 3)) ((i + 1) * 3) w.drew cur hh (by rw [hdl, Nat.sub_mul]; omega)
  obtain ⟨W1, hW1⟩ : ∃ W1, W1 = w.drew.setCells g ((i + 1) * 3) (inner.drop (i * 3)) := ⟨_, rfl⟩
  rw [← hW1] at hcp1 hh1
  have hgv1 : W1.heap[gv]? = some (.cells cx.toArray 55 (0, 0)) := by rw [hW1, setCells_far _ _ gv hvb]; exact hgv
  have hcp2 : ∀ ty dc, (Builtin.copy_ #[26, 26] ty #[.slice (some ⟨g, i * 3, none⟩) (n + 1 - i) dc, .slice (some ⟨gv, 0, none⟩) 1 1]).run Tryd.prog W1 = .ok (goInt ((1 : Nat) : Int)) (W1.setCells g (i * 3) cx) := fun ty dc => by
    have h := run_copy_k (P := Tryd.prog) W1 26 26 ty 55 3 g (i * 3) (n + 1 - i) dc ⟨gv, 0, none⟩ 1 1 cx Tryd.underlying26 info55s (by rw [hmin2, hcx])
      (fun j u hj => by rw [Addr.add_lit, Nat.zero_add, blk_cell hgv1 j]; simpa using hj)
      (fun j hj => by rw [blk_cell hh1, Array.getElem?_eq_getElem (by omega)]; rfl) (fun j hj => Zn hh1 _) hone
    rw [hmin2] at h
    exact h
  obtain ⟨cur2, hh2, hcs2, hl2⟩ := setCells_row cx (i * 3) W1 cur1 hh1 (by omega)
  have hfin : InsPost w0 w P G r (.returned (.slice (some ⟨g, 0, none⟩) (n + 1) c)) (W1.setCells g (i * 3) cx) := by
    subst hr
    have hB1 : Below w0.heap.size w0 (W1.setCells g (i * 3) cx) := by rw [hW1]; exact below_setCells hbg _ _ (below_setCells hbg _ _ (Ze hB))
    have hfar : ∀ k, k ≠ g → (W1.setCells g (i * 3) cx).heap[k]? = w.heap[k]? := fun k hk => by rw [setCells_far _ _ k hk, hW1, setCells_far _ _ k hk]; rfl
    have hsz2 : (W1.setCells g (i * 3) cx).heap.size = w.heap.size := by rw [(setCells_same g _ _ W1).2.2.2, hW1, (setCells_same g _ _ w.drew).2.2.2]; rfl
    have ho' : (Value.slice (some ⟨g, 0, none⟩) n c).ownBlock = some g := by simp [Value.ownBlock]
    refine ⟨_, rfl, S_putO (i := i) hin h0 hap hok hrep hx hPG (by omega) ⟨?_, .inr ⟨g, c, cur2, by rw [hn], hbg, hh2, by omega, by simp only [maxLen]; omega, ?_, ?_⟩⟩ (.inl (by simp [Value.ownBlock])) (fun k hk hne => hfar k (fun he => hne (by rw [ho', he]))), hB1, by omega, fun k hk hne => hfar k (fun he => hne (he ▸ hPg))⟩
    · simp only [List.length_append, List.length_take, List.length_drop, hcx, hin3]
      show min (i * 3) (n * 3) + 3 + (n * 3 - i * 3) = (l.length + 1) * 3
      omega
    · show cur2.size = c * 3; omega
    show cur2.toList.take ((l.length + 1) * 3) = inner.take (i * 3) ++ cx ++ inner.drop (i * 3)
    rw [← hn]
    exact ins_row hin3 hcx hi (by rw [Array.length_toList]; omega) htk hl1 hl2
  have FIN := Zh hfin
  have hcp1' := Zh hcp1
  have hcp2' := Zh hcp2
  have hic : i ≤ c := by omega
  have hi1c : i + 1 ≤ c := by omega
  have hinz : ¬ ((i : Int) = (n : Int)) := by omega
  have hin1 : (i : Int) ≤ (n : Int) := by omega
  have hii0 : (0 : Int) ≤ (i : Int) + 1 := by omega
  have hii1 : (i : Int) + 1 ≤ (n : Int) + 1 := by omega
  have hii2 : (i : Int) ≤ (n : Int) + 1 := by omega
  have hnn0 : (0 : Int) ≤ (n : Int) + 1 := by omega
  have hnn1 : (n : Int) + 1 ≤ (c : Int) := by omega
  have hnc : n ≤ c := by omega
  have hcgt : ¬ ((c : Int) < (n : Int) + 1) := by omega
  have hb2 : ¬ (c = i + 1) := by omega
  have hb4 : ¬ (c = i) := by omega
  have hnt : ((n : Int) + 1).toNat = n + 1 := by omega
  have hit : ((i : Int) + 1).toNat = i + 1 := by omega
  clear hown hin h0 hap hok hrep ho hx hPG hr hfin hcp1 hcp2 hone hone2 hc0 hsp hfz hvs hdl hh hh1 hh2 hl1 hl2 hcs hcs1 hcs2 htk hmin1 hmin2 hgv hgv1 hB hn hW1 hgP hPg
  clear hlen
  go_enter Tryd.func108, Tryd.ntmps108
  go_wp2_with (simp only [hov])
  have hw1 : IntKind.i64.wrap ((i : Int) + 1) = (i : Int) + 1 := by rw [IntKind.wrap_i64]; omega
  go_region_law (refine step_copy_run rfl (.tmp 73) (.tmp 76) 26 26 rfl _ _ (by simp [Act.eval, Act.put]) (by simp [Act.eval, Act.put]) (hcp1'.out _ (c - (i + 1)) (c - i)) ?_)
  go_wp2_with ((with_reducible refine gate_builtin (b := .copy) (xs := #[.tmp 80, .tmp 81]) rfl ?_); refine wpList_copy_run _ rfl (.tmp 80) (.tmp 81) 26 26 rfl _ _ rfl rfl (hcp2'.out _ _) ?_)
  go_ret
  exact FIN.out
theorem wpList_append_run {P : Program} (w : World) {ops : Array Oper} {rest : List Oper} {o : Oper} {a : Act} {Q : Exit → Act → World → Prop} (hgd : o.guard = none) (d s : Operand) (t t' : TypeId)
    (ho : o.op = .call { callee := .builtin .append, args := #[d, s], argTypes := #[t, t'] }) (v u : Value) (hd : a.eval d = v) (hs : a.eval s = u) {v' : Value} {w' : World}
    (hr : (Builtin.append_ #[t, t'] o.type #[v, u]).run P w = .ok v' w') (h : wpList P ops Q rest (a.put o.dst v') w') : wpList P ops Q (o :: rest) a w :=
  wpList_plain hgd fun _ hK => by
    unfold Oper.wp execOp
    simp only [ho, resolve, invoke, builtin, Sem.run_bind, Sem.run_pure, Result.andThen_ok, List.map_toArray, List.map_cons, List.map_nil, hd, hs, hr]
    exact hK _ _ h
theorem ins_new {cur cur1 cur2 inner cx z : List Value} {n i : Nat} (hin : inner.length = n * 3) (hcx : cx.length = 3) (hi : i < n) (hcl : (n + 1) * 3 ≤ cur.length) (h0 : cur.take (i * 3) = inner.take (i * 3))
    (h1 : cur1 = cur.take (i * 3) ++ cx ++ cur.drop (i * 3 + cx.length)) (h2 : cur2 = cur1.take ((i + 1) * 3) ++ inner.drop (i * 3) ++ cur1.drop ((i + 1) * 3 + (inner.drop (i * 3)).length)) :
    cur2.take ((n + 1) * 3) = inner.take (i * 3) ++ cx ++ inner.drop (i * 3) := by
  have e0 : (inner.take (i * 3)).length = i * 3 := by rw [List.length_take]; omega
  have e1 : cur1.take ((i + 1) * 3) = inner.take (i * 3) ++ cx := by
    rw [h1, h0, List.take_left']
    rw [List.length_append, e0, hcx]; omega
  rw [h2, e1, List.take_left']
  simp only [List.length_append, List.length_drop, hcx, hin, e0]
  omega
set_option maxHeartbeats 4000000 in
set_option maxRecDepth 100000 in
theorem sInsert_grow (i : Nat) (P G : Nat → Prop) (g n c : Nat) (l : List S55) (x : S55) (cx : List Value) (gv : Nat) (w0 w : World) (hB : Below w0.heap.size w0 w) (ho : Kd.S k55 55 w w0.heap.size P (.slice (some ⟨g, 0, none⟩) n c) l) (hlen : (l.length + 1) * 64 ≤ 140737488355328)
    (hx : k55.M w w0.heap.size G x cx) (hgv : w.heap[gv]? = some (.cells cx.toArray 55 (0, 0))) (hPG : ∀ k, G k → ¬ P k) (hgP : ¬ P gv) (hi : i < n) (hroom : c < n + 1) (r : List S55) (hr : r = l.take i ++ x :: l.drop i) :
    Calls Tryd.prog 108 #[.slice (some ⟨g, 0, none⟩) n c, .int .i64 i, .slice (some ⟨gv, 0, none⟩) 1 1] w (InsPost w0 w P G r) := by
  obtain ⟨inner, okj, hown, hin, h0, hap, hok, hrep⟩ := S_parts ho
  have hn := (Kd.S_reads' ho).1
  have hcx : cx.length = 3 := k55.K_len (k55.K_of_M hx)
  have hone := k55.K_one (k55.K_of_M hx)
  have hPg : P g := h0 g (by simp [Value.ownBlock])
  have hvb : gv ≠ g := fun he => hgP (he ▸ hPg)
  have hin3 : inner.length = n * 3 := by rw [hin, hn]; rfl
  obtain ⟨cur, hh, hcs, htk, hbg⟩ : ∃ cur, w.heap[g]? = some (.cells cur 55 (0, 0)) ∧ cur.size = c * 3 ∧ cur.toList.take (n * 3) = inner ∧ w0.heap.size ≤ g := by
    rcases hown.2 with ⟨hv, _⟩ | ⟨g', cap', cur, hv, hb, hh, hnc, hcm, hcs, htake⟩
    · cases hv
    injection hv with ha _ hc'
    injection ha with ha
    injection ha with hg
    subst hg; subst hc'
    exact ⟨cur, hh, hcs, by rw [hn]; exact htake, hb⟩
  have hgw : g < w.heap.size := blk_lt hh
  have hone2 : ∀ u ∈ inner, u.oneCell' = true := by
    intro u hu
    obtain ⟨q, hq⟩ := List.mem_iff_getElem?.1 hu
    have hql := (List.getElem?_eq_some_iff.1 hq).1
    have hqn : q / 3 < l.length := by omega
    have hM := hrep (q / 3) _ (List.getElem?_eq_getElem hqn)
    refine k55.K_one (k55.K_of_M hM) u (List.mem_iff_getElem?.2 ⟨q % 3, ?_⟩)
    show ((inner.drop (q / 3 * 3)).take 3)[q % 3]? = some u
    rw [List.getElem?_take, if_pos (Nat.mod_lt _ (by decide)), List.getElem?_drop, show q / 3 * 3 + q % 3 = q by omega]
    exact hq
  have hc0 : ∀ j u, inner[j]? = some u → w.cell? ⟨g, j, none⟩ = some u := fun j u hu => by
    rw [blk_cell hh j]
    rw [← htk, List.getElem?_take] at hu
    split at hu
    · simpa using hu
    cases hu
  have hsp : ∀ j, j < c * 3 → (w.cell? ⟨g, j, none⟩).isSome = true := fun j hj => by rw [blk_cell hh j, Array.getElem?_eq_getElem (by omega)]; rfl
  have hfz : ∀ j, w.frozen? ⟨g, j, none⟩ = false := fun j => Zn hh j
  have hvs : ∀ j u, cx[j]? = some u → w.cell? ⟨gv, j, none⟩ = some u := fun j u hu => by rw [blk_cell hgv j]; simpa using hu
  have hdl : (inner.drop (i * 3)).length = (n - i) * 3 := by rw [List.length_drop, hin3, Nat.sub_mul]
  obtain ⟨i0, hi0, hz0, hz1, hz2⟩ := info_parts info55
  have hnc : n ≤ c := (Kd.S_reads' ho).2.1
  have hgvw : gv < w.heap.size := blk_lt hgv
  have hold : (Builtin.firstCells i0.size i (.slice (some ⟨g, 0, none⟩) i c)).run Tryd.prog w.drew = .ok (inner.take (i * 3)).toArray w.drew := by
    rw [hz1]
    exact run_firstCells_some w.drew 3 i ⟨g, 0, none⟩ i c (inner.take (i * 3)) (by rw [List.length_take]; omega) (fun j v hj => by
      rw [Addr.add_lit, Nat.zero_add]
      rw [List.getElem?_take] at hj
      split at hj
      · exact hc0 j v hj
      cases hj)
  have hik : i + (n + 1 - i) = n + 1 := by omega
  obtain ⟨GC, hGC⟩ : ∃ GC, GC = grownCap w (n + 1) c 55 := ⟨_, rfl⟩
  have hGn : n + 1 ≤ GC := by rw [hGC]; exact grownCap_ge w _ _ _
  have hGm : GC ≤ maxLen := by rw [hGC]; exact grownCap_le_maxLen w (n + 1) c 55 (by simp only [maxLen]; omega)
  obtain ⟨ROW, hROW⟩ : ∃ ROW : Array Value, ROW = (inner.take (i * 3)).toArray ++ Builtin.zeroCells (Value.agg #[.string ⟨#[]⟩, .slice none 0 0, .slice none 0 0]).cells (n + 1 - i) ++ Builtin.zeroCells (Value.agg #[.string ⟨#[]⟩, .slice none 0 0, .slice none 0 0]).cells (GC - (n + 1)) := ⟨_, rfl⟩
  have hRs : ROW.size = GC * 3 := by
    rw [hROW]
    simp only [Array.size_append, List.size_toArray, List.length_take, size_zeroCells, show (Value.agg #[.string ⟨#[]⟩, .slice none 0 0, .slice none 0 0]).cells.size = 3 from rfl]
    omega
  have hRt : ROW.toList.take (i * 3) = inner.take (i * 3) := by
    rw [hROW]
    simp only [Array.toList_append]
    rw [List.append_assoc, List.take_left']
    rw [List.length_take]; omega
  obtain ⟨W1, hW1⟩ : ∃ W1, W1 = w.drew.alloc (.cells ROW 55) := ⟨_, rfl⟩
  have hrz : ∀ ty, (Builtin.append_ #[26, 3] ty #[.slice (some ⟨g, 0, none⟩) i c, .int .i64 ((n + 1 - i : Nat) : Int)]).run Tryd.prog w = .ok (.slice (some ⟨w.heap.size, 0, none⟩) (n + 1) GC) W1 := fun ty => by
    have h := Lib.run_append_grow_zeros (P := Tryd.prog) w 26 3 ty 55 i0 _ .i64 .i64 Tryd.underlying26 Tryd.underlying3 hi0 hz0 (some ⟨g, 0, none⟩) i c (inner.take (i * 3)) hold (n + 1 - i) (by omega) (by omega) (by omega) (by omega) (by rw [hz2]; omega) (by rw [hz2, hik]; exact growslice_fits hroom (by omega))
    rw [hik, ← hGC, ← hROW, ← hW1] at h
    exact h
  have hW1n : W1.heap[w.heap.size]? = some (.cells ROW 55 (0, 0)) := by rw [hW1]; exact heap_alloc_new w.drew _
  have hW1o : ∀ k, k < w.heap.size → W1.heap[k]? = w.heap[k]? := fun k hk => by rw [hW1]; exact heap_alloc_old (w := w.drew) _ hk
  have hW1s : W1.heap.size = w.heap.size + 1 := by rw [hW1]; simp
  have hB1 : Below w0.heap.size w0 W1 := by rw [hW1]; exact Zf (Ze hB) _
  have hmin2 : Nat.min 1 (n + 1 - i) = 1 := by simp only [Nat.min_def]; split <;> omega
  have hmin1 : Nat.min (n - i) (n - i) = n - i := by simp only [Nat.min_def]; split <;> omega
  have hcpA : ∀ ty dc, (Builtin.copy_ #[26, 26] ty #[.slice (some ⟨w.heap.size, i * 3, none⟩) (n + 1 - i) dc, .slice (some ⟨gv, 0, none⟩) 1 1]).run Tryd.prog W1 = .ok (goInt ((1 : Nat) : Int)) (W1.setCells w.heap.size (i * 3) cx) := fun ty dc => by
    have h := run_copy_k (P := Tryd.prog) W1 26 26 ty 55 3 w.heap.size (i * 3) (n + 1 - i) dc ⟨gv, 0, none⟩ 1 1 cx Tryd.underlying26 info55s (by rw [hmin2, hcx])
      (fun j u hj => by rw [Addr.add_lit, Nat.zero_add, blk_cell ((hW1o gv hgvw).trans hgv) j]; simpa using hj)
      (fun j hj => by rw [blk_cell hW1n, Array.getElem?_eq_getElem (by omega)]; rfl) (fun j hj => Zn hW1n _) hone
    rw [hmin2] at h
    exact h
  obtain ⟨cur1, hh1, hcs1, hl1⟩ := setCells_row cx (i * 3) W1 ROW hW1n (by omega)
  obtain ⟨W2, hW2⟩ : ∃ W2, W2 = W1.setCells w.heap.size (i * 3) cx := ⟨_, rfl⟩
  rw [← hW2] at hcpA hh1
  have hgW2 : W2.heap[g]? = some (.cells cur 55 (0, 0)) := by rw [hW2, setCells_far _ _ g (by omega)]; exact (hW1o g hgw).trans hh
  have hcpB : ∀ ty dc sc, (Builtin.copy_ #[26, 26] ty #[.slice (some ⟨w.heap.size, (i + 1) * 3, none⟩) (n - i) dc, .slice (some ⟨g, i * 3, none⟩) (n - i) sc]).run Tryd.prog W2.drew = .ok (goInt ((n - i : Nat) : Int)) (W2.drew.setCells w.heap.size ((i + 1) * 3) (inner.drop (i * 3))) := fun ty dc sc => by
    have h := run_copy_k (P := Tryd.prog) W2.drew 26 26 ty 55 3 w.heap.size ((i + 1) * 3) (n - i) dc ⟨g, i * 3, none⟩ (n - i) sc (inner.drop (i * 3)) Tryd.underlying26 info55s (by rw [hmin1]; exact hdl)
      (fun j u hj => by
        have hj2 : inner[i * 3 + j]? = some u := by rwa [List.getElem?_drop] at hj
        rw [Addr.add_lit]
        show W2.cell? ⟨g, i * 3 + j, none⟩ = some u
        rw [blk_cell hgW2]
        rw [← htk, List.getElem?_take] at hj2
        split at hj2
        · simpa using hj2
        cases hj2)
      (fun j hj => by show (W2.cell? _).isSome = true; rw [blk_cell hh1, Array.getElem?_eq_getElem (by rw [hdl, Nat.sub_mul] at hj; omega)]; rfl) (fun j hj => Zn (w := W2) hh1 _) (fun u hu => hone2 u (List.mem_of_mem_drop hu))
    rw [hmin1] at h
    exact h
  obtain ⟨cur2, hh2, hcs2, hl2⟩ := setCells_row (inner.drop (i * 3)) ((i + 1) * 3) W2.drew cur1 hh1 (by rw [hdl, Nat.sub_mul]; omega)
  obtain ⟨W3, hW3⟩ : ∃ W3, W3 = W2.drew.setCells w.heap.size ((i + 1) * 3) (inner.drop (i * 3)) := ⟨_, rfl⟩
  rw [← hW3] at hcpB hh2
  have hfin : InsPost w0 w P G r (.returned (.slice (some ⟨w.heap.size, 0, none⟩) (n + 1) GC)) W3 := by
    subst hr
    have hws : w0.heap.size ≤ w.heap.size := hB.size
    have hB3 : Below w0.heap.size w0 W3 := by rw [hW3, hW2]; exact below_setCells hws _ _ (Ze (below_setCells hws _ _ hB1))
    have hfar : ∀ k, k < w.heap.size → W3.heap[k]? = w.heap[k]? := fun k hk => by
      rw [hW3, setCells_far _ _ k (by omega)]
      show W2.heap[k]? = _
      rw [hW2, setCells_far _ _ k (by omega)]
      exact hW1o k hk
    have hs3 : W3.heap.size = w.heap.size + 1 := by
      rw [hW3, (setCells_same _ _ _ W2.drew).2.2.2]
      show W2.heap.size = _
      rw [hW2, (setCells_same _ _ _ W1).2.2.2, hW1s]
    refine ⟨_, rfl, S_putO (i := i) hin h0 hap hok hrep hx hPG (by omega) ⟨?_, .inr ⟨w.heap.size, GC, cur2, by rw [hn], hws, hh2, by omega, hGm, ?_, ?_⟩⟩ (.inr ⟨w.heap.size, by simp [Value.ownBlock], Nat.le_refl _⟩) (fun k hk hne => hfar k hk), hB3, by omega, fun k hk hne => hfar k hk⟩
    · simp only [List.length_append, List.length_take, List.length_drop, hcx, hin3]
      show min (i * 3) (n * 3) + 3 + (n * 3 - i * 3) = (l.length + 1) * 3
      omega
    · show cur2.size = GC * 3; omega
    show cur2.toList.take ((l.length + 1) * 3) = inner.take (i * 3) ++ cx ++ inner.drop (i * 3)
    rw [← hn]
    exact ins_new (z := []) hin3 hcx hi (by rw [Array.length_toList]; omega) hRt hl1 hl2
  have FIN := Zh hfin
  have hrz' := Zh hrz
  have hcpA' := Zh hcpA
  have hcpB' := Zh hcpB
  have hnb : n + 1 ≤ 9223372036854775807 := by omega
  have hinz : ¬ ((i : Int) = (n : Int)) := by omega
  have hin1 : (i : Int) ≤ (n : Int) := by omega
  have hii0 : (0 : Int) ≤ (i : Int) + 1 := by omega
  have hii1 : (i : Int) + 1 ≤ (n : Int) + 1 := by omega
  have hii2 : (i : Int) ≤ (n : Int) + 1 := by omega
  have hcgt : ((c : Int) < (n : Int) + 1) := by omega
  have hic : i ≤ c := by omega
  have hb4 : ¬ (c = i) := by omega
  have hGi : ¬ (GC = i) := by omega
  have hGi1 : ¬ (GC = i + 1) := by omega
  have hiG : i ≤ GC := by omega
  have hi1G : i + 1 ≤ GC := by omega
  have hkk : (n : Int) + 1 - (i : Int) = ((n + 1 - i : Nat) : Int) := by omega
  have hit : ((i : Int) + 1).toNat = i + 1 := by omega
  have hwn : IntKind.i64.wrap ((n : Int) + 1) = (n : Int) + 1 := by rw [IntKind.wrap_i64]; omega
  have hwk : IntKind.i64.wrap ((n : Int) + 1 - (i : Int)) = ((n + 1 - i : Nat) : Int) := by rw [IntKind.wrap_i64]; omega
  have hw1 : IntKind.i64.wrap ((i : Int) + 1) = (i : Int) + 1 := by rw [IntKind.wrap_i64]; omega
  clear hown hin h0 hap hok hrep ho hx hPG hr hfin hrz hcpA hcpB hone hone2 hc0 hsp hfz hvs hdl hh hh1 hh2 hl1 hl2 hcs hcs1 hcs2 htk hmin1 hmin2 hgv hB hB1 hn hW1 hW2 hW3 hgP hPg hlen hW1n hW1o hW1s hRs hRt hROW hGC hold hik hgW2 hi0 hz0 hz1 hz2 hGm
  go_enter Tryd.func108, Tryd.ntmps108
  go_wp2_with (first
    | ((with_reducible refine gate_builtin (b := .append) (xs := #[.tmp 34, .tmp 39]) rfl ?_); refine wpList_append_run _ rfl (.tmp 34) (.tmp 39) 26 3 rfl _ _ rfl rfl (hrz'.out _) ?_)
    | ((with_reducible refine gate_builtin (b := .copy) (xs := #[.tmp 43, .tmp 44]) rfl ?_); refine wpList_copy_run _ rfl (.tmp 43) (.tmp 44) 26 26 rfl _ _ rfl rfl (hcpA'.out _ _) ?_))
  go_region_law (refine step_copy_run rfl (.tmp 50) (.tmp 53) 26 26 rfl _ _ (by simp [Act.eval, Act.put]) (by simp [Act.eval, Act.put]) (hcpB'.out _ (GC - (i + 1)) (c - i)) ?_)
  go_wp2
  go_ret
  exact FIN.out
end Go.Proofs.YtcgojdhbphocgaaDoor.F
