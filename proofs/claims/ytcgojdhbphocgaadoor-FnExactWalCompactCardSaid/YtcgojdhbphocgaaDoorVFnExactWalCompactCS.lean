/- Merged texts below the law FnExactWalCompact: Go functions as Lean functions, their contracts, and plain lemmas. -/
import Derived.Test.YtcgojdhbphocgaaDoorQFnExactWalCompact26
import Derived.Test.YtcgojdhbphocgaaDoorQFnExactWalCompact23
import Derived.Test.YtcgojdhbphocgaaDoorQFnExactWalCompact29
import Derived.Test.YtcgojdhbphocgaaDoorQFnExactWalCompact31
import Derived.Deep.DeepCutAuto
namespace Go.Proofs.YtcgojdhbphocgaaDoor.F
open Go.RowKit Go.Proofs.YtcgojdhbphocgaaDoorW.PrintWords Go.Proofs.YtcgojdhbphocgaaDoorW.PrintLast Go.Proofs.YtcgojdhbphocgaaDoorW.PrintMore
open Go.Proofs.YtcgojdhbphocgaaDoor
set_option linter.unusedVariables false
set_option linter.unusedSimpArgs false
def spec_WalCompact.bad (q : List (List Int) × Int) (n : Int) : Option Bool := if q.2 = 0 then (spec_l01In.f n 0 (q.1.length : Int)).bind fun t => some (!t || decide (wrap64 ((q.1.length : Int) - n) > 200)) else some true
def spec_WalCompact.f (k : Nat) (l : List S55) (n : Int) : Option (List S55 × Bool) := (spec_WalRead.f k l).bind fun q => (spec_WalCompact.bad q n).bind fun b => if b = true then (spec_l03Copy.f k l).bind fun o => some (o, false) else if 0 ≤ n then (if n ≤ (q.1.length : Int) then (spec_RemoveFile.f k l (⟨#[110, 101, 119]⟩ : ByteArray)).bind fun a => (spec_Frames.f k (q.1.drop n.toNat)).bind fun y => (spec_AppendFile.f k a.1 (⟨#[110, 101, 119]⟩ : ByteArray) y).bind fun b => if b.2 = true then (spec_SyncFile.f k b.1 (⟨#[110, 101, 119]⟩ : ByteArray)).bind fun c => (spec_RenameFile.f k c.1 (⟨#[110, 101, 119]⟩ : ByteArray) (⟨#[108, 111, 103]⟩ : ByteArray)).bind fun d => some (d.1, true) else (spec_l03Copy.f k l).bind fun o => some (o, false) else none) else none
set_option maxHeartbeats 8000000 in
set_option maxRecDepth 100000 in
theorem spec_WalCompact.calls (k : Nat) (A0_0 : Option Addr) (c0_0 : Nat) (l0_0 : List (S55)) (a1 : Int) (r1 : List (S55)) (r2 : Bool) (w : World) (hr0_0 : Kd.C k55 w A0_0 l0_0.length l0_0) (hc0_0 : l0_0.length ≤ c0_0) (h : spec_WalCompact.f k l0_0 a1 = some (r1, r2)) :
    Calls Tryd.prog 32 #[.agg #[.slice A0_0 l0_0.length c0_0], .int .i64 a1] w fun e w' => ∃ v0_ : Value, e = .returned (.tuple #[.agg #[v0_], .bool r2]) ∧ Kd.S k55 55 w' w.heap.size (fun _ => True) v0_ r1 ∧ Below w.heap.size w w' := by
  have HR := Zh hr0_0
  have HC := Zh hc0_0
  clear hr0_0 hc0_0
  have ST := Zh (LW.St.start w)
  unfold spec_WalCompact.f at h
  replace h := Option.bind_eq_some_iff.mp h
  obtain ⟨⟨q1, q2⟩, HA1, h⟩ := h
  replace h := Option.bind_eq_some_iff.mp h
  obtain ⟨b, HB1, h⟩ := h
  simp only at h
  replace HA1 := Zh HA1
  replace HB1 := Zh HB1
  have H := Zh h
  clear h
  go_enter Tryd.func32, Tryd.ntmps32
  go_wp2_with fail
  replace ST := Zh (ST.out.alloc #[.slice A0_0 l0_0.length c0_0] 28 (g := w.heap.size) rfl)
  replace ST := Zh (ST.out.alloc #[.slice none 0 0] 28 (g := w.heap.size + 1) (by simp))
  with_reducible refine (spec_WalRead.calls k _ _ l0_0 q1 q2 _ (Kd.C_below HR.out ST.out.b) HC.out HA1.out).mono ?_
  rintro e w1 ⟨v1, rfl, ho, hb⟩
  obtain ⟨A1, c1, rfl⟩ := Kd.S_slice ho
  have ho2 := LW.S_between ho ST.out.b.size
  replace ST := Zh (ST.out.row hb ho)
  clear hb ho ho2
  obtain ⟨FP, hFP⟩ : ∃ F : Nat → Prop, LW.St w w1 [LW.row (Kd.slice 5 (Kd.int .u8)) 41 w.heap.size (.slice A1 q1.length c1) q1 F, LW.box (w.heap.size + 1) #[.slice none 0 0] 28, LW.box w.heap.size #[.slice A0_0 l0_0.length c0_0] 28] := ⟨_, ST.out⟩
  replace ST := Zh hFP
  clear hFP
  have hc1 := ST.out.cell 2 rfl 0 (u := .slice A0_0 l0_0.length c0_0) rfl
  have hl1 := ST.out.lt 2 rfl
  go_upto_region 2 with fail
  go_cut [31] (fun v31 wc => v31 = .bool b ∧ Aside0 (LW.St w wc [LW.row (Kd.slice 5 (Kd.int .u8)) 41 w.heap.size (.slice A1 q1.length c1) q1 FP, LW.box (w.heap.size + 1) #[.slice none 0 0] 28, LW.box w.heap.size #[.slice A0_0 l0_0.length c0_0] 28]))
  case first =>
    have hbd := HB1.out
    unfold spec_WalCompact.bad at hbd
    by_cases g0 : q2 = 0
    · have n0 : (q2 != 0) = false := by rw [g0]; rfl
      rw [if_pos g0] at hbd
      obtain ⟨t, HT, hbd⟩ := Option.bind_eq_some_iff.mp hbd
      obtain rfl := Option.some.inj hbd
      replace HT := Zh HT
      clear hbd g0 HB1 H
      go_wp2_with fail
      with_reducible refine (spec_l01In.calls a1 0 (q1.length : Int) t _ HT.out).mono ?_
      rintro e w2 ⟨rfl, nd, rfl⟩
      replace ST := Zh (ST.out.drewN nd)
      cases t with
      | false =>
        go_wp2
        go_meet
        case rel => exact ⟨rfl, ST⟩
      | true =>
        by_cases g3 : wrap64 ((q1.length : Int) - a1) > 200
        · have n3 : decide (200 < wrap64 ((q1.length : Int) - a1)) = true := decide_eq_true g3
          have n4 : decide (wrap64 ((q1.length : Int) - a1) > 200) = true := decide_eq_true g3
          clear g3
          go_wp2
          go_meet
          case rel => exact ⟨by rw [n4]; rfl, ST⟩
        · have n3 : decide (200 < wrap64 ((q1.length : Int) - a1)) = false := decide_eq_false g3
          have n4 : decide (wrap64 ((q1.length : Int) - a1) > 200) = false := decide_eq_false g3
          clear g3
          go_wp2
          go_meet
          case rel => exact ⟨by rw [n4]; rfl, ST⟩
    · have n0 : (q2 != 0) = true := bne_iff_ne.mpr g0
      rw [if_neg g0] at hbd
      obtain rfl := Option.some.inj hbd
      clear g0 hbd HB1 H
      go_wp2
      go_meet
      case rel => exact ⟨rfl, ST⟩
  case rest =>
  clear ST hc1 hl1
  obtain ⟨rfl, ST⟩ := hcut
  have h := H.out
  clear H
  have hc1 := ST.out.cell 2 rfl 0 (u := .slice A0_0 l0_0.length c0_0) rfl
  have hl1 := ST.out.lt 2 rfl
  cases b with
  | true =>
    rw [if_pos rfl] at h
    replace h := Option.bind_eq_some_iff.mp h
    obtain ⟨o, HA2, h⟩ := h
    replace HA2 := Zh HA2
    obtain ⟨rfl, rfl⟩ := Prod.mk.inj (Option.some.inj h)
    clear h
    go_wp2_with fail
    with_reducible refine (spec_l03Copy.calls k _ _ l0_0 o _ (Kd.C_below HR.out ST.out.b) HC.out HA2.out).mono ?_
    rintro e w2 ⟨v2, rfl, ho, hb⟩
    obtain ⟨A2, c2, rfl⟩ := Kd.S_slice ho
    replace ST := Zh (ST.out.row hb ho)
    clear hb ho hc1 hl1
    have hc2 := ST.out.cell 2 rfl 0 (u := .slice none 0 0) rfl
    have hl2 := ST.out.lt 2 rfl
    have hf2 := ST.out.frozen 2 rfl 0
    go_wp2
    replace ST := Zh (ST.out.set 2 rfl 0 (.slice A2 o.length c2))
    refine Zq (results_ct rfl _ _ (w.heap.size + 1) 28 #[.slice A2 o.length c2] (0, 0) _ rfl (ST.out.blk 2 rfl) Tryd.underlying28 rfl (by kernel_rfl)) rfl ?_
    exact ⟨_, rfl, Kd.S_mono (ST.out.own 0 rfl) (fun _ _ => trivial), ST.out.b⟩
  | false =>
    rw [if_neg (by decide)] at h
    by_cases g1 : 0 ≤ a1
    · rw [if_pos g1] at h
      by_cases g2 : a1 ≤ (q1.length : Int)
      · rw [if_pos g2] at h
        replace h := Option.bind_eq_some_iff.mp h
        obtain ⟨⟨d1, e1⟩, HD, h⟩ := h
        replace h := Option.bind_eq_some_iff.mp h
        obtain ⟨y, HY, h⟩ := h
        replace h := Option.bind_eq_some_iff.mp h
        obtain ⟨⟨d2, e2⟩, HE, h⟩ := h
        simp only at HE h
        replace HD := Zh HD
        replace HE := Zh HE
        have H := Zh h
        clear h
        have hroom : q1.length ≤ c1 := (ST.out.reads 0 rfl).2.1
        obtain ⟨i0, hi0, _, hsz, _⟩ := info_parts info41
        have hcut := cut_from (P := Tryd.prog) 36 41 .i64 Tryd.underlying36 hi0 1 hsz A1 q1.length c1 a1 g1 g2
        obtain ⟨A3, hA3⟩ : ∃ A3, A3 = (if c1 = a1.toNat then A1 else (A1 : Option Addr).map (·.add (a1.toNat * 1))) := ⟨_, rfl⟩
        obtain ⟨x, hx⟩ : ∃ x, x = q1.drop a1.toNat := ⟨_, rfl⟩
        have hxl : x.length = q1.length - a1.toNat := by rw [hx, List.length_drop]
        obtain ⟨c3, hc3⟩ : ∃ c3, c3 = c1 - a1.toNat := ⟨_, rfl⟩
        rw [← hxl, ← hA3, ← hc3] at hcut
        have HX := Zh (fun (w' : World) (hC : Kd.C (Kd.slice 5 (Kd.int .u8)) w' A1 q1.length q1) => (show Kd.C (Kd.slice 5 (Kd.int .u8)) w' A3 x.length x by rw [hA3, hx]; exact Kd.C_drop (m := a1.toNat) (c := c1) hC (by omega) hroom))
        have HXC := Zh (show x.length ≤ c3 by omega)
        have HY2 := Zh (show spec_Frames.f k x = some y by rw [hx]; exact HY)
        have p2 := eq_true g2
        have p1 := eq_true g1
        clear hroom hi0 hsz hA3 hx hxl hc3 g1 g2 HY
        go_wp2_with fail
        with_reducible refine (spec_RemoveFile.calls k _ _ l0_0 (⟨#[110, 101, 119]⟩ : ByteArray) d1 e1 _ (Kd.C_below HR.out ST.out.b) HC.out HD.out).mono ?_
        rintro e w5 ⟨v5, rfl, ho, hb⟩
        obtain ⟨A4, c4, rfl⟩ := Kd.S_slice ho
        replace ST := Zh (ST.out.row hb ho)
        clear hb ho hc1 hl1
        go_wp2_with fail
        replace ST := Zh (ST.out.alloc #[.slice A4 d1.length c4] 28 (g := w5.heap.size) rfl)
        replace ST := Zh ST.out.drew
        refine start_ (n := 11) (S := fun w' => w'.cell? ⟨w5.heap.size, 0, none⟩ = some (.slice A4 d1.length c4)) (ds := [9]) #[false, false, false, false, false, false, false, false, false, false, false] (by kernel_rfl) rfl rfl (ST.out.cell 0 rfl 0 rfl) (fun hHeld => ?_)
        generalize (w5.alloc (.cells #[.slice A4 d1.length c4] 28)).drew = w6 at ST hHeld ⊢
        refine SQ.p0 1 41 ?_
        refine SQ.p0 2 42 ?_
        refine SQ.p0 3 43 ?_
        refine SQ.t0 0 40 hHeld ?_
        refine one_ (i := 4) (N := some 44) #[true, true, true, true, true, false, false, false, false, false, false] rfl rfl (by kernel_rfl) (by decide) (fun K hK => ?_)
        refine goes_ Tryd.func64 (by kernel_rfl) rfl #[.slice A3 x.length c3] (by rfl) rfl rfl (by (try simp only [List.map_toArray, List.map_cons, List.map_nil]); first | done | rfl) ?_
        with_reducible refine (spec_Frames.calls k _ _ x y _ (HX.out _ (ST.out.reads 2 rfl).2.2) HXC.out HY2.out).mono ?_
        rintro e w7 ⟨v7, rfl, ho, hb⟩
        refine ⟨_, rfl, ?_⟩
        obtain ⟨A7, c7, rfl⟩ := Kd.R_slice ho
        replace ST := Zh (ST.out.rowR rfl hb ho)
        clear hb ho hHeld
        refine hK.out _ _ (ST.out.cell 1 rfl 0 rfl) (fun hHeld => ?_)
        clear hK K
        refine norm_ (a' := ?_) ?_ ?_
        rotate_left
        · show Act.put _ (some 44) _ = _
          simp only [Act.put, List.setIfInBounds_toArray, List.set_cons_zero, List.set_cons_succ, i64_w, i32_w]
          rfl
        refine one_ (i := 5) (N := some 45) #[true, true, true, true, true, true, false, false, false, false, false] rfl rfl (by kernel_rfl) (by decide) (fun K hK => ?_)
        refine goes_ Tryd.func59 (by kernel_rfl) rfl #[.agg #[.slice A4 d1.length c4], .string (⟨#[110, 101, 119]⟩ : ByteArray), .slice A7 y.length c7] (by rfl) rfl rfl (by (try simp only [List.map_toArray, List.map_cons, List.map_nil]); first | done | rfl) ?_
        with_reducible refine (spec_AppendFile.calls k _ _ d1 (⟨#[110, 101, 119]⟩ : ByteArray) _ _ y d2 e2 _ (ST.out.reads 2 rfl).2.2 (ST.out.reads 2 rfl).2.1 (ST.out.reads 0 rfl).2.2 (ST.out.reads 0 rfl).2.1 HE.out).mono ?_
        rintro e w8 ⟨v8, rfl, ho, hb⟩
        refine ⟨_, rfl, ?_⟩
        obtain ⟨A5, c5, rfl⟩ := Kd.S_slice ho
        replace ST := Zh (ST.out.row hb ho)
        clear hb ho hHeld
        have hc1 := ST.out.cell 2 rfl 0 (u := .slice A4 d1.length c4) rfl
        have hl1 := ST.out.lt 2 rfl
        have hf1 := ST.out.frozen 2 rfl 0
        refine hK.out _ _ (hc1) (fun hHeld => ?_)
        clear hK K
        refine norm_ (a' := ?_) ?_ ?_
        rotate_left
        · show Act.put _ (some 45) _ = _
          simp only [Act.put, List.setIfInBounds_toArray, List.set_cons_zero, List.set_cons_succ, i64_w, i32_w]
          rfl
        refine SQ.p0 6 39 ?_
        refine SQ.p0 7 46 ?_
        refine SQ.p0 8 47 ?_
        refine last_ (i := 9) (N := none) #[true, true, true, true, true, true, true, true, true, true, false] rfl rfl (by kernel_rfl) (by decide) (fun K hK => ?_)
        refine skip_ (w1 := ?_) (by rfl) rfl ?_ ?_
        rotate_left
        · go_simp
          rfl
        refine hK.out _ _ ?_
        clear hK K
        refine SQ.p0 10 10 ?_
        refine done_ (by kernel_rfl) ?_
        clear hHeld hc1 hl1 hf1 hcut p1 p2
        replace ST := Zh (ST.out.set 2 rfl 0 (.slice A5 d2.length c5))
        generalize w8.setCell ⟨w5.heap.size, 0, none⟩ (.slice A5 d2.length c5) = w9 at ST ⊢
        have h := H.out
        clear H
        have hc1 := ST.out.cell 2 rfl 0 (u := .slice A5 d2.length c5) rfl
        have hl1 := ST.out.lt 2 rfl
        cases e2 with
        | true =>
          rw [if_pos rfl] at h
          replace h := Option.bind_eq_some_iff.mp h
          obtain ⟨⟨d3, e3⟩, HG, h⟩ := h
          replace h := Option.bind_eq_some_iff.mp h
          obtain ⟨⟨d4, e4⟩, HH, h⟩ := h
          obtain ⟨rfl, rfl⟩ := Prod.mk.inj (Option.some.inj h)
          replace HG := Zh HG
          replace HH := Zh HH
          clear h
          go_wp2_with fail
          with_reducible refine (spec_SyncFile.calls k _ _ d2 (⟨#[110, 101, 119]⟩ : ByteArray) d3 e3 _ (ST.out.reads 0 rfl).2.2 (ST.out.reads 0 rfl).2.1 HG.out).mono ?_
          rintro e w7 ⟨v7, rfl, ho, hb⟩
          obtain ⟨A6, c6, rfl⟩ := Kd.S_slice ho
          replace ST := Zh (ST.out.row hb ho)
          clear hb ho hc1 hl1
          have hc1 := ST.out.cell 3 rfl 0 (u := .slice A5 d2.length c5) rfl
          have hl1 := ST.out.lt 3 rfl
          have hf1 := ST.out.frozen 3 rfl 0
          go_wp2_with fail
          replace ST := Zh (ST.out.set 3 rfl 0 (.slice A6 d3.length c6))
          with_reducible refine (spec_RenameFile.calls k _ _ d3 (⟨#[110, 101, 119]⟩ : ByteArray) (⟨#[108, 111, 103]⟩ : ByteArray) d4 e4 _ (ST.out.reads 0 rfl).2.2 (ST.out.reads 0 rfl).2.1 HH.out).mono ?_
          rintro e w8 ⟨v8, rfl, ho, hb⟩
          obtain ⟨A9, c9, rfl⟩ := Kd.S_slice ho
          replace ST := Zh (ST.out.row hb ho)
          clear hb ho hc1 hl1 hf1
          have hc1 := ST.out.cell 4 rfl 0 (u := .slice A6 d3.length c6) rfl
          have hl1 := ST.out.lt 4 rfl
          have hf1 := ST.out.frozen 4 rfl 0
          have hc2 := ST.out.cell 7 rfl 0 (u := .slice none 0 0) rfl
          have hl2 := ST.out.lt 7 rfl
          have hf2 := ST.out.frozen 7 rfl 0
          have hne := ST.out.ne 4 7 (by decide) rfl rfl
          have hne' := hne.symm
          go_wp2
          replace ST := Zh ((ST.out.set 4 rfl 0 (.slice A9 d4.length c9)).set 7 rfl 0 (.slice A9 d4.length c9))
          refine Zq (results_ct rfl _ _ (w.heap.size + 1) 28 #[.slice A9 d4.length c9] (0, 0) _ rfl (ST.out.blk 7 rfl) Tryd.underlying28 rfl (by kernel_rfl)) rfl ?_
          exact ⟨_, rfl, Kd.S_mono (ST.out.own 0 rfl) (fun _ _ => trivial), ST.out.b⟩
        | false =>
          rw [if_neg (by decide)] at h
          replace h := Option.bind_eq_some_iff.mp h
          obtain ⟨o, HO, h⟩ := h
          replace HO := Zh HO
          obtain ⟨rfl, rfl⟩ := Prod.mk.inj (Option.some.inj h)
          clear h
          have hc3 := ST.out.cell 6 rfl 0 (u := .slice A0_0 l0_0.length c0_0) rfl
          have hl3 := ST.out.lt 6 rfl
          go_wp2_with fail
          with_reducible refine (spec_l03Copy.calls k _ _ l0_0 o _ (Kd.C_below HR.out ST.out.b) HC.out HO.out).mono ?_
          rintro e w8 ⟨v8, rfl, ho, hb⟩
          obtain ⟨A9, c9, rfl⟩ := Kd.S_slice ho
          replace ST := Zh (ST.out.row hb ho)
          clear hb ho hc1 hl1 hc3 hl3
          have hc2 := ST.out.cell 6 rfl 0 (u := .slice none 0 0) rfl
          have hl2 := ST.out.lt 6 rfl
          have hf2 := ST.out.frozen 6 rfl 0
          go_wp2
          replace ST := Zh (ST.out.set 6 rfl 0 (.slice A9 o.length c9))
          refine Zq (results_ct rfl _ _ (w.heap.size + 1) 28 #[.slice A9 o.length c9] (0, 0) _ rfl (ST.out.blk 6 rfl) Tryd.underlying28 rfl (by kernel_rfl)) rfl ?_
          exact ⟨_, rfl, Kd.S_mono (ST.out.own 0 rfl) (fun _ _ => trivial), ST.out.b⟩
      · rw [if_neg g2] at h; exact absurd h (by simp)
    · rw [if_neg g1] at h; exact absurd h (by simp)
end Go.Proofs.YtcgojdhbphocgaaDoor.F
