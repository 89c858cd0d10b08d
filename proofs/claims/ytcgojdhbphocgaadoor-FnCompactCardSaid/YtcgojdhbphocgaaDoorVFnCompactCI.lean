/- Merged texts below the law FnCompact: Go functions as Lean functions, their contracts, and plain lemmas. -/
import Derived.Test.YtcgojdhbphocgaaDoorQFnCompact24
import Derived.Test.YtcgojdhbphocgaaDoorQFnCompact25
import Derived.Test.YtcgojdhbphocgaaDoorQFnCompact27
import Derived.Test.YtcgojdhbphocgaaDoorQFnCompact29
import Derived.Deep.DeepCutAuto
namespace Go.Proofs.YtcgojdhbphocgaaDoor.F
open Go.RowKit Go.Proofs.YtcgojdhbphocgaaDoorW.PrintWords Go.Proofs.YtcgojdhbphocgaaDoorW.PrintLast Go.Proofs.YtcgojdhbphocgaaDoorW.PrintMore
open Go.Proofs.YtcgojdhbphocgaaDoor
set_option linter.unusedVariables false
set_option linter.unusedSimpArgs false
def wcBad (q : List (List Int) × Int × Int) (n : Int) : Prop := q.2.2 ≠ 0 ∨ n < 0 ∨ n > (q.1.length : Int) ∨ wrap64 ((q.1.length : Int) - n) > 200
instance (q : List (List Int) × Int × Int) (n : Int) : Decidable (wcBad q n) := by unfold wcBad; infer_instance
def impl_WalCompact.l0 : Nat → List (List Int) → List Int → Int → Option (List Int)
  | 0, _, _, _ => none
  | k + 1, x, y, i => if i < (x.length : Int) then (if 0 ≤ i then (impl_frame.f k (rd_L2 x i)).bind fun t => (if y.length + t.length ≤ 140737488355328 then impl_WalCompact.l0 k x (y ++ t) (wrap64 (i + 1)) else none) else none) else some y
def impl_WalCompact.f (k : Nat) (l : List S55) (n : Int) : Option (List S55 × Bool) := (impl_walRead.f k l).bind fun q => if wcBad q n then (impl_copyDisk.f k l).bind fun o => some (o, false) else (impl_WalCompact.l0 k (q.1.drop n.toNat) [] 0).bind fun y => (impl_removeFile.f k l (⟨#[110, 101, 119]⟩ : ByteArray)).bind fun a => (impl_appendFile.f k a.1 (⟨#[110, 101, 119]⟩ : ByteArray) y).bind fun b => if b.2 = true then (impl_syncFile.f k b.1 (⟨#[110, 101, 119]⟩ : ByteArray)).bind fun c => impl_renameFile.f k c.1 (⟨#[110, 101, 119]⟩ : ByteArray) (⟨#[108, 111, 103]⟩ : ByteArray) else (impl_copyDisk.f k l).bind fun o => some (o, false)
set_option maxHeartbeats 8000000 in
set_option maxRecDepth 100000 in
theorem impl_WalCompact.calls (k : Nat) (A0_0 : Option Addr) (c0_0 : Nat) (l0_0 : List (S55)) (a1 : Int) (r1 : List (S55)) (r2 : Bool) (w : World) (hr0_0 : Kd.C k55 w A0_0 l0_0.length l0_0) (hc0_0 : l0_0.length ≤ c0_0) (h : impl_WalCompact.f k l0_0 a1 = some (r1, r2)) :
    Calls Tryd.prog 33 #[.agg #[.slice A0_0 l0_0.length c0_0], .int .i64 a1] w fun e w' => ∃ v0_ : Value, e = .returned (.tuple #[.agg #[v0_], .bool r2]) ∧ Kd.S k55 55 w' w.heap.size (fun _ => True) v0_ r1 ∧ Below w.heap.size w w' := by
  have HR := Zh hr0_0
  have HC := Zh hc0_0
  clear hr0_0 hc0_0
  have ST := Zh (LW.St.start w)
  unfold impl_WalCompact.f at h
  replace h := Option.bind_eq_some_iff.mp h
  obtain ⟨⟨q1, q2, q3⟩, HA1, h⟩ := h
  replace HA1 := Zh HA1
  have H := Zh h
  clear h
  go_enter Tryd.func33, Tryd.ntmps33
  go_wp2_with fail
  replace ST := Zh (ST.out.alloc #[.slice A0_0 l0_0.length c0_0] 28 (g := w.heap.size) rfl)
  replace ST := Zh (ST.out.alloc #[.slice none 0 0] 28 (g := w.heap.size + 1) (by simp))
  with_reducible refine (impl_walRead.calls k _ _ l0_0 q1 q2 q3 _ (Kd.C_below HR.out ST.out.b) HC.out HA1.out).mono ?_
  rintro e w1 ⟨v1, rfl, ho, hb⟩
  obtain ⟨A1, c1, rfl⟩ := Kd.S_slice ho
  replace ST := Zh (ST.out.row hb ho)
  clear hb ho
  obtain ⟨b, hb⟩ : ∃ b, b = decide (wcBad (q1, q2, q3) a1) := ⟨_, rfl⟩
  have HBD := Zh hb
  clear hb
  have hc1 := ST.out.cell 2 rfl 0 (u := .slice A0_0 l0_0.length c0_0) rfl
  have hl1 := ST.out.lt 2 rfl
  go_upto_region 2 with fail
  go_cut [39] (fun v39 wc => v39 = .bool b ∧ wc = w1)
  case first =>
    by_cases g0 : q3 = 0
    · have n0 : (q3 != 0) = false := by rw [g0]; rfl
      by_cases g1 : a1 < 0
      · have n1 : decide (a1 < 0) = true := decide_eq_true g1
        have hbd : b = true := HBD.out.trans (decide_eq_true (p := wcBad (q1, q2, q3) a1) (Or.inr (Or.inl g1)))
        clear g0 g1
        go_wp2
        go_meet
        case rel => exact ⟨by rw [hbd], rfl⟩
      · have n1 : decide (a1 < 0) = false := decide_eq_false g1
        by_cases g2 : a1 > (q1.length : Int)
        · have n2 : decide ((q1.length : Int) < a1) = true := decide_eq_true g2
          have hbd : b = true := HBD.out.trans (decide_eq_true (p := wcBad (q1, q2, q3) a1) (Or.inr (Or.inr (Or.inl g2))))
          clear g0 g1 g2
          go_wp2
          go_meet
          case rel => exact ⟨by rw [hbd], rfl⟩
        · have n2 : decide ((q1.length : Int) < a1) = false := decide_eq_false g2
          by_cases g3 : wrap64 ((q1.length : Int) - a1) > 200
          · have n3 : decide (200 < wrap64 ((q1.length : Int) - a1)) = true := decide_eq_true g3
            have hbd : b = true := HBD.out.trans (decide_eq_true (p := wcBad (q1, q2, q3) a1) (Or.inr (Or.inr (Or.inr g3))))
            clear g0 g1 g2 g3
            go_wp2
            go_meet
            case rel => exact ⟨by rw [hbd], rfl⟩
          · have n3 : decide (200 < wrap64 ((q1.length : Int) - a1)) = false := decide_eq_false g3
            have hbd : b = false := HBD.out.trans (decide_eq_false (p := wcBad (q1, q2, q3) a1) (fun q => by unfold wcBad at q; rcases q with q | q | q | q; exact q g0; exact g1 q; exact g2 q; exact g3 q))
            clear g0 g1 g2 g3
            go_wp2
            go_meet
            case rel => exact ⟨by rw [hbd], rfl⟩
    · have n0 : (q3 != 0) = true := bne_iff_ne.mpr g0
      have hbd : b = true := HBD.out.trans (decide_eq_true (p := wcBad (q1, q2, q3) a1) (Or.inl g0))
      clear g0
      go_wp2
      go_meet
      case rel => exact ⟨by rw [hbd], rfl⟩
  case rest =>
  obtain ⟨rfl, rfl⟩ := hcut
  have h := H.out
  clear H
  cases b with
  | true =>
    rw [if_pos (of_decide_eq_true HBD.out.symm)] at h
    replace h := Option.bind_eq_some_iff.mp h
    obtain ⟨o, HA2, h⟩ := h
    replace HA2 := Zh HA2
    obtain ⟨rfl, rfl⟩ := Prod.mk.inj (Option.some.inj h)
    clear h
    go_wp2_with fail
    with_reducible refine (impl_copyDisk.calls k _ _ l0_0 o _ (Kd.C_below HR.out ST.out.b) HC.out HA2.out).mono ?_
    rintro e w2 ⟨v2, rfl, ho, hb⟩
    obtain ⟨A2, c2, rfl⟩ := Kd.S_slice ho
    replace ST := Zh (ST.out.row hb ho)
    clear hb ho hc1 hl1
    have hc2 := ST.out.cell 2 rfl 0 (u := .slice none 0 0) rfl
    have hl2 := ST.out.lt 2 rfl
    have hf2 := ST.out.frozen 2 rfl 0
    go_wp2
    replace ST := Zh (ST.out.set 2 rfl 0 (.slice A2 o.length c2))
    refine Zq (results_ct rfl _ _ (w.heap.size + 1) 28 #[.slice A2 o.length c2] (0, 0) _ rfl (ST.out.blk 2 rfl) Tryd.underlying28 rfl (by kernel_rfl)) rfl ?_
    exact ⟨_, rfl, Kd.S_mono (ST.out.own 0 rfl) (fun _ _ => trivial), ST.out.b⟩
  | false =>
    have hbad : ¬ wcBad (q1, q2, q3) a1 := of_decide_eq_false HBD.out.symm
    rw [if_neg hbad] at h
    unfold wcBad at hbad
    simp only [not_or, Decidable.not_not] at hbad
    have g1 : 0 ≤ a1 := by omega
    have g2 : a1 ≤ (q1.length : Int) := by omega
    clear hbad
    replace h := Option.bind_eq_some_iff.mp h
    obtain ⟨y, HY, h⟩ := h
    replace h := Option.bind_eq_some_iff.mp h
    obtain ⟨⟨d1, e1⟩, HD, h⟩ := h
    replace h := Option.bind_eq_some_iff.mp h
    obtain ⟨⟨d2, e2⟩, HE, h⟩ := h
    simp only at HY HE h
    replace HY := Zh HY
    replace HD := Zh HD
    replace HE := Zh HE
    have H := Zh h
    clear h
    have hroom : q1.length ≤ c1 := (ST.out.reads 0 rfl).2.1
    obtain ⟨i0, hi0, _, hsz, _⟩ := info_parts info41
    have hcut := cut_from (P := Tryd.prog) 36 41 .i64 Tryd.underlying36 hi0 1 hsz A1 q1.length c1 a1 g1 g2
    obtain ⟨A3, hA3⟩ : ∃ A3, A3 = (if c1 = a1.toNat then A1 else (A1 : Option Addr).map (·.add (a1.toNat * 1))) := ⟨_, rfl⟩
    obtain ⟨x, hx⟩ : ∃ x, x = q1.drop a1.toNat := ⟨_, rfl⟩
    have hxl : x.length = q1.length - a1.toNat := by rw [hx, List.length_drop]
    obtain ⟨c3, hc3⟩ : ∃ c3, c3 = c1 - a1.toNat := ⟨_, rfl⟩
    rw [← hxl, ← hA3, ← hc3] at hcut
    have HX := Zh (fun (w' : World) (hC : Kd.C (Kd.slice 5 (Kd.int .u8)) w' A1 q1.length q1) => (show Kd.C (Kd.slice 5 (Kd.int .u8)) w' A3 x.length x by rw [hA3, hx]; exact Kd.C_drop (m := a1.toNat) (c := c1) hC (by omega) hroom))
    have HY2 := Zh (show impl_WalCompact.l0 k x [] 0 = some y by rw [hx]; exact HY.out)
    have p2 := eq_true g2
    have p1 := eq_true g1
    clear hroom hi0 hsz hA3 hx hxl hc3 g1 g2 HY
    go_wp2_with fail
    replace ST := Zh (ST.out.rowR (d := Kd.int .u8) (e := 5) (xs := []) rfl (Zf (Below.refl _ _) (.cells #[] 5)) (R_empty _))
    clear hcut p1 p2 hc1 hl1
    generalize wc.alloc (.cells #[] 5) = w3 at ST ⊢
    go_loopg [9, 47] k (fun kq v9 v47 w' => ∃ (z : List Int) (i : Int) (F FP : Nat → Prop) (Az : Option Addr) (cz : Nat), v9 = .slice Az z.length cz ∧ v47 = .int .i64 i ∧ Aside0 (impl_WalCompact.l0 kq x z i = some y) ∧ Aside0 (LW.St w w' [LW.row (Kd.int .u8) 5 w.heap.size (.slice Az z.length cz) z F, LW.row (Kd.slice 5 (Kd.int .u8)) 41 w.heap.size (.slice A1 q1.length c1) q1 FP, LW.box (w.heap.size + 1) #[.slice none 0 0] 28, LW.box w.heap.size #[.slice A0_0 l0_0.length c0_0] 28]))
    case atStart => exact ⟨[], 0, _, _, some ⟨wc.heap.size, 0, none⟩, 0, rfl, rfl, HY2, ST⟩
    case round =>
      clear ST HY2
      obtain ⟨z, i, F, FP, Az, cz, rfl, rfl, HA, ST⟩ := hrel
      cases gk with
      | zero => exact absurd HA.out (by simp [impl_WalCompact.l0])
      | succ k1 =>
        have h := HA.out
        clear HA
        simp only [impl_WalCompact.l0] at h
        by_cases c3' : i < (x.length : Int)
        · rw [if_pos c3'] at h
          by_cases c4 : 0 ≤ i
          · rw [if_pos c4] at h
            obtain ⟨t, A6, h⟩ := Option.bind_eq_some_iff.mp h
            replace A6 := Zh A6
            by_cases c6 : z.length + t.length ≤ 140737488355328
            · rw [if_pos c6] at h
              have H' := Zh h
              have HSZ := Zh c6
              clear h c6
              obtain ⟨ad, Ai, ci, e, hx0, hl, hi⟩ := at_L2 (HX.out _ (ST.out.reads 1 rfl).2.2) i c4 c3'
              cases e
              have HI := Zh hi
              have HL := Zh hl
              have q5 := decide_eq_true c3'
              have p5 := eq_true c4
              have q6 := eq_true c3'
              clear hi hl c3' c4
              go_wp2_with fail
              with_reducible refine (impl_frame.calls k1 _ _ (rd_L2 x i) t _ HI.out HL.out A6.out).mono ?_
              rintro e w5 ⟨v, rfl, ho, hb⟩
              obtain ⟨At, ct, rfl⟩ := Kd.R_slice ho
              replace ST := Zh (ST.out.rowR rfl hb ho)
              clear ho hb HI HL hx0 A6
              go_wp2_with (at_builtin; refine Kd.R_append_rows (Kd.int .u8) (w0 := w) w.heap.size rfl _ _ 41 5 (.int .u8 0) 1 rfl Tryd.underlying41 info5 rfl (by decide) (by omega) _ z t _ _ _ (fun k => F k ∨ w5.heap.size ≤ k) (fun _ => False) rfl rfl (Kd.R_mono (Kd.S_R (ST.out.own 1 rfl)) (fun k hk => .inl hk)) (ST.out.reads 0 rfl).2.2 (fun _ _ h => h) (fun _ h => h.elim) (fun k hk => .inr hk) ST.out.b ST.out.b.size (by have := HSZ.out; omega) ?_; intro v1 w6 s1 s2 s3 s4; obtain ⟨A8, c8, rfl⟩ := Kd.R_slice s1; have Q := Zh (And.intro s1 (And.intro s2 s3)); clear s1 s2 s3 s4)
              obtain ⟨s1, s2, s3⟩ := Q.out
              rw [List.length_append] at s1
              have hST := LW.St.tail (ST.out.grow 1 rfl (LW.row (Kd.int .u8) 5 w.heap.size (.slice A8 (z.length + t.length) c8) (z ++ t) (fun k => F k ∨ (w5.heap.size ≤ k ∧ k < w6.heap.size))) (fun k hk => hk) (LW.S_flat rfl (Kd.R_mono (Kd.R_tight rfl s1) (fun k hk => (s1.1 k hk.symm).elim .inl (fun a => .inr ⟨a, Kd.R_lt s1 k hk.symm⟩)))) s2 ⟨s3.size, fun k hk hn => s3.block k hk (fun he => hn ((Kd.S_R (ST.out.own 1 rfl)).1 k he.symm))⟩)
              clear s1 s2 s3 Q
              go_roundg k1
              case measure => omega
              case rel => exact ⟨z ++ t, _, _, _, A8, c8, by rw [List.length_append], rfl, H', ⟨by rw [List.length_append]; exact hST⟩⟩
            · rw [if_neg c6] at h; exact absurd h (by simp)
          · rw [if_neg c4] at h; exact absurd h (by simp)
        · rw [if_neg c3'] at h
          have q5 := decide_eq_false c3'
          obtain rfl := Option.some.inj h
          clear h c3'
          have hc1 := ST.out.cell 3 rfl 0 (u := .slice A0_0 l0_0.length c0_0) rfl
          have hl1 := ST.out.lt 3 rfl
          go_wp2_with fail
          with_reducible refine (impl_removeFile.calls k _ _ l0_0 (⟨#[110, 101, 119]⟩ : ByteArray) d1 e1 _ (Kd.C_below HR.out ST.out.b) HC.out HD.out).mono ?_
          rintro e w5 ⟨v5, rfl, ho, hb⟩
          obtain ⟨A4, c4, rfl⟩ := Kd.S_slice ho
          replace ST := Zh (ST.out.row hb ho)
          clear hb ho hc1 hl1
          go_wp2_with fail
          replace ST := Zh (ST.out.alloc #[.slice A4 d1.length c4] 28 (g := w5.heap.size) rfl)
          with_reducible refine (impl_appendFile.calls k _ _ d1 (⟨#[110, 101, 119]⟩ : ByteArray) _ _ z d2 e2 _ (ST.out.reads 1 rfl).2.2 (ST.out.reads 1 rfl).2.1 (ST.out.reads 2 rfl).2.2 (ST.out.reads 2 rfl).2.1 HE.out).mono ?_
          rintro e w6 ⟨v6, rfl, ho, hb⟩
          obtain ⟨A5, c5, rfl⟩ := Kd.S_slice ho
          replace ST := Zh (ST.out.row hb ho)
          clear hb ho
          have hc1 := ST.out.cell 1 rfl 0 (u := .slice A4 d1.length c4) rfl
          have hl1 := ST.out.lt 1 rfl
          have hf1 := ST.out.frozen 1 rfl 0
          have h := H.out
          clear H
          cases e2 with
          | true =>
            rw [if_pos rfl] at h
            replace h := Option.bind_eq_some_iff.mp h
            obtain ⟨⟨d3, e3⟩, HG, h⟩ := h
            replace HG := Zh HG
            have HH := Zh h
            clear h
            go_wp2_with fail
            replace ST := Zh (ST.out.set 1 rfl 0 (.slice A5 d2.length c5))
            with_reducible refine (impl_syncFile.calls k _ _ d2 (⟨#[110, 101, 119]⟩ : ByteArray) d3 e3 _ (ST.out.reads 0 rfl).2.2 (ST.out.reads 0 rfl).2.1 HG.out).mono ?_
            rintro e w7 ⟨v7, rfl, ho, hb⟩
            obtain ⟨A6, c6, rfl⟩ := Kd.S_slice ho
            replace ST := Zh (ST.out.row hb ho)
            clear hb ho hc1 hl1 hf1
            have hc1 := ST.out.cell 2 rfl 0 (u := .slice A5 d2.length c5) rfl
            have hl1 := ST.out.lt 2 rfl
            have hf1 := ST.out.frozen 2 rfl 0
            go_wp2_with fail
            replace ST := Zh (ST.out.set 2 rfl 0 (.slice A6 d3.length c6))
            with_reducible refine (impl_renameFile.calls k _ _ d3 (⟨#[110, 101, 119]⟩ : ByteArray) (⟨#[108, 111, 103]⟩ : ByteArray) r1 r2 _ (ST.out.reads 0 rfl).2.2 (ST.out.reads 0 rfl).2.1 HH.out).mono ?_
            rintro e w8 ⟨v8, rfl, ho, hb⟩
            obtain ⟨A7, c7, rfl⟩ := Kd.S_slice ho
            replace ST := Zh (ST.out.row hb ho)
            clear hb ho hc1 hl1 hf1
            have hc2 := ST.out.cell 7 rfl 0 (u := .slice none 0 0) rfl
            have hl2 := ST.out.lt 7 rfl
            have hf2 := ST.out.frozen 7 rfl 0
            go_wp2
            replace ST := Zh (ST.out.set 7 rfl 0 (.slice A7 r1.length c7))
            refine Zq (results_ct rfl _ _ (w.heap.size + 1) 28 #[.slice A7 r1.length c7] (0, 0) _ rfl (ST.out.blk 7 rfl) Tryd.underlying28 rfl (by kernel_rfl)) rfl ?_
            exact ⟨_, rfl, Kd.S_mono (ST.out.own 0 rfl) (fun _ _ => trivial), ST.out.b⟩
          | false =>
            rw [if_neg (by decide)] at h
            replace h := Option.bind_eq_some_iff.mp h
            obtain ⟨o, HO, h⟩ := h
            replace HO := Zh HO
            obtain ⟨rfl, rfl⟩ := Prod.mk.inj (Option.some.inj h)
            clear h
            have hc3 := ST.out.cell 6 rfl 0 (u := .slice A0_0 l0_0.length c0_0) rfl
            have hl3 := ST.out.lt 6 rfl
            have hne := ST.out.ne 1 6 (by decide) rfl rfl
            have hne' := hne.symm
            go_wp2_with fail
            replace ST := Zh (ST.out.set 1 rfl 0 (.slice A5 d2.length c5))
            with_reducible refine (impl_copyDisk.calls k _ _ l0_0 o _ (Kd.C_below HR.out ST.out.b) HC.out HO.out).mono ?_
            rintro e w8 ⟨v8, rfl, ho, hb⟩
            obtain ⟨A7, c7, rfl⟩ := Kd.S_slice ho
            replace ST := Zh (ST.out.row hb ho)
            clear hb ho hc1 hl1 hf1 hc3 hl3 hne hne'
            have hc2 := ST.out.cell 6 rfl 0 (u := .slice none 0 0) rfl
            have hl2 := ST.out.lt 6 rfl
            have hf2 := ST.out.frozen 6 rfl 0
            go_wp2
            replace ST := Zh (ST.out.set 6 rfl 0 (.slice A7 o.length c7))
            refine Zq (results_ct rfl _ _ (w.heap.size + 1) 28 #[.slice A7 o.length c7] (0, 0) _ rfl (ST.out.blk 6 rfl) Tryd.underlying28 rfl (by kernel_rfl)) rfl ?_
            exact ⟨_, rfl, Kd.S_mono (ST.out.own 0 rfl) (fun _ _ => trivial), ST.out.b⟩
end Go.Proofs.YtcgojdhbphocgaaDoor.F
