/- Merged texts below the law FnWal: Go functions as Lean functions, their contracts, and plain lemmas. -/
import Derived.Test.YtcgojdhbphocgaaDoorVFnWalF
import Derived.Test.YtcgojdhbphocgaaDoorQFnWal23
namespace Go.Proofs.YtcgojdhbphocgaaDoor.F
open Go.RowKit Go.Proofs.YtcgojdhbphocgaaDoorW.PrintWords Go.Proofs.YtcgojdhbphocgaaDoorW.PrintLast Go.Proofs.YtcgojdhbphocgaaDoorW.PrintMore
open Go.Proofs.YtcgojdhbphocgaaDoor
set_option linter.unusedVariables false
set_option linter.unusedSimpArgs false
def impl_appendFile.fin (k : Nat) (l0_0 p : List S55) (a1 : ByteArray) (d : List Int) : Option (List S55 × Bool) := (impl_fileOf.f p a1).bind fun i => if 0 ≤ i then (if i < (p.length : Int) then (if (rd_T55 p i).f2.length + d.length ≤ 140737488355328 then (impl_isDisk.f k (p.set i.toNat ⟨(rd_T55 p i).f0, (rd_T55 p i).f1, (rd_T55 p i).f2 ++ d⟩)).bind fun t => if t = true then some (p.set i.toNat ⟨(rd_T55 p i).f0, (rd_T55 p i).f1, (rd_T55 p i).f2 ++ d⟩, true) else (impl_copyDisk.f k l0_0).bind fun o => some (o, false) else none) else none) else none
def impl_appendFile.f (k : Nat) (l0_0 : List S55) (a1 : ByteArray) (d : List Int) : Option (List S55 × Bool) := (impl_copyDisk.f k l0_0).bind fun o => (impl_isDisk.f k l0_0).bind fun t => if t = true then (impl_isFileName.f a1).bind fun n => if n = true then (impl_fileOf.f o a1).bind fun j => if j < 0 then (if (o.length + 1) * 64 ≤ 140737488355328 then impl_appendFile.fin k l0_0 (insM o ⟨a1, [], []⟩) a1 d else none) else impl_appendFile.fin k l0_0 o a1 d else some (o, false) else some (o, false)
set_option maxHeartbeats 8000000 in
set_option maxRecDepth 100000 in
theorem impl_appendFile.calls (k : Nat) (A0_0 : Option Addr) (c0_0 : Nat) (l0_0 : List S55) (a1 : ByteArray) (A2 : Option Addr) (c2 : Nat) (l2 : List Int) (r1 : List S55) (r2 : Bool) (w : World) (hr0_0 : Kd.C k55 w A0_0 l0_0.length l0_0) (hc0_0 : l0_0.length ≤ c0_0) (hr2 : Kd.C (Kd.int .u8) w A2 l2.length l2) (hc2 : l2.length ≤ c2) (h : impl_appendFile.f k l0_0 a1 l2 = some (r1, r2)) :
    Calls Tryd.prog 61 #[.agg #[.slice A0_0 l0_0.length c0_0], .string a1, .slice A2 l2.length c2] w fun e w' => ∃ v0_ : Value, e = .returned (.tuple #[.agg #[v0_], .bool r2]) ∧ Kd.S k55 55 w' w.heap.size (fun _ => True) v0_ r1 ∧ Below w.heap.size w w' := by
  have HR := Zh hr0_0
  have HC := Zh hc0_0
  have HR2 := Zh hr2
  have HC2 := Zh hc2
  clear hr0_0 hc0_0 hr2 hc2
  have ST := Zh (LW.St.start w)
  have hu28 := Tryd.underlying28
  have hu55 := Tryd.underlying55
  unfold impl_appendFile.f at h
  replace h := Option.bind_eq_some_iff.mp h
  obtain ⟨o, HA1, h⟩ := h
  replace h := Option.bind_eq_some_iff.mp h
  obtain ⟨t, HA2, h⟩ := h
  replace HA1 := Zh HA1
  replace HA2 := Zh HA2
  have H := Zh h
  clear h
  go_enter Tryd.func61, Tryd.ntmps61
  go_wp2_with fail
  replace ST := Zh (ST.out.alloc #[.slice A0_0 l0_0.length c0_0] 28 (g := w.heap.size) rfl)
  replace ST := Zh (ST.out.alloc #[.slice none 0 0] 28 (g := w.heap.size + 1) (by simp))
  with_reducible refine (impl_copyDisk.calls k _ _ l0_0 o _ (Kd.C_below HR.out ST.out.b) HC.out HA1.out).mono ?_
  rintro e w1 ⟨v1, rfl, ho, hb⟩
  obtain ⟨A1, c1, rfl⟩ := Kd.S_slice ho
  replace ST := Zh (ST.out.row hb ho)
  clear hb ho
  have hc1 := ST.out.cell 2 rfl 0 (u := .slice A0_0 l0_0.length c0_0) rfl
  have hl1 := ST.out.lt 2 rfl
  go_wp2_with fail
  replace ST := Zh (ST.out.alloc #[.slice A1 o.length c1] 28 (g := w1.heap.size) rfl)
  with_reducible refine (impl_isDisk.calls k _ _ l0_0 t _ (Kd.C_below HR.out ST.out.b) HC.out HA2.out).mono ?_
  rintro e w3 ⟨rfl, hb⟩
  replace ST := Zh (ST.out.step hb)
  clear hb hc1 hl1
  have h := H.out
  clear H
  by_cases ct : t = true
  · subst ct
    rw [if_pos rfl] at h
    replace h := Option.bind_eq_some_iff.mp h
    obtain ⟨n, HA3, h⟩ := h
    replace HA3 := Zh HA3
    have H := Zh h
    clear h
    go_wp2_with fail
    with_reducible refine (impl_isFileName.calls a1 n _ HA3.out).mono ?_
    rintro e w4 ⟨rfl, hb⟩
    replace ST := Zh (ST.out.step hb)
    clear hb
    have h := H.out
    clear H
    by_cases cn : n = true
    · subst cn
      rw [if_pos rfl] at h
      replace h := Option.bind_eq_some_iff.mp h
      obtain ⟨j, HA4, h⟩ := h
      replace HA4 := Zh HA4
      have H := Zh h
      clear h
      have hc2 := ST.out.cell 0 rfl 0 (u := .slice A1 o.length c1) rfl
      have hl2 := ST.out.lt 0 rfl
      go_wp2_with fail
      with_reducible refine (impl_fileOf.calls _ _ o a1 j _ (ST.out.reads 1 rfl).2.2 (ST.out.reads 1 rfl).2.1 HA4.out).mono ?_
      rintro e w5 ⟨rfl, hb⟩
      replace ST := Zh (ST.out.step hb)
      clear hb hc2 hl2
      have hc2 := ST.out.cell 0 rfl 0 (u := .slice A1 o.length c1) rfl
      have hl2 := ST.out.lt 0 rfl
      have hf2 := ST.out.frozen 0 rfl 0
      have h := H.out
      clear H
      by_cases cj : j < 0
      · rw [if_pos cj] at h
        have cjb : decide (j < 0) = true := decide_eq_true cj
        clear cj
        by_cases cq : (o.length + 1) * 64 ≤ 140737488355328
        · rw [if_pos cq] at h
          have HCQ := Zh cq
          have H := Zh h
          clear h cq
          go_wp2_with fail
          refine (impl_withFile.calls _ (fun _ => False) _ o ⟨a1, [], []⟩ (.slice none 0 0) (.slice none 0 0) w _ ST.out.b (ST.out.own 1 rfl) HCQ.out (k55_mkM _ _ _ (⟨a1, [], []⟩ : S55) (Kd.R_nil _ _ _ _ _) (Kd.R_nil _ _ _ _ _) AP.nil_ne) (fun k hk => hk.elim)).mono ?_
          rintro e w6 ⟨v', rfl, hS, hB6, hK6⟩
          obtain ⟨A6, c6, hv6⟩ := Kd.S_slice hS
          obtain ⟨q, hq⟩ : ∃ q, q = insM o ⟨a1, [], []⟩ := ⟨_, rfl⟩
          rw [← hq] at hS hv6
          subst hv6
          have hST := ST.out.grow 1 rfl (LW.row k55 55 w.heap.size (.slice A6 q.length c6) q _) (fun k hk => by
            rcases hk with a | a | a
            · exact .inl a
            · exact a.elim
            exact .inr a) hS hB6 hK6
          replace ST := Zh hST
          have H2 := Zh (show impl_appendFile.fin k l0_0 q a1 l2 = some (r1, r2) by rw [hq]; exact H.out)
          clear hST hS hB6 hK6 hq hc2 hl2 hf2 H
          have hc2 := ST.out.cell 0 rfl 0 (u := .slice A1 o.length c1) rfl
          have hl2 := ST.out.lt 0 rfl
          have hf2 := ST.out.frozen 0 rfl 0
          go_upto_region 6 with (fail)
          replace ST := Zh (ST.out.set 0 rfl 0 (.slice A6 q.length c6))
          generalize w6.setCell ⟨w1.heap.size, 0, none⟩ (.slice A6 q.length c6) = wY at ST ⊢
          have h := H2.out
          clear H2
          unfold impl_appendFile.fin at h
          replace h := Option.bind_eq_some_iff.mp h
          obtain ⟨i, HA5, h⟩ := h
          replace HA5 := Zh HA5
          by_cases ci : 0 ≤ i
          · rw [if_pos ci] at h
            by_cases cl : i < (q.length : Int)
            · rw [if_pos cl] at h
              by_cases cs : (rd_T55 q i).f2.length + l2.length ≤ 140737488355328
              · rw [if_pos cs] at h
                replace h := Option.bind_eq_some_iff.mp h
                obtain ⟨t2, HA6, h⟩ := h
                replace HA6 := Zh HA6
                have H := Zh h
                have HI0 := Zh ci
                have HIL := Zh cl
                have HSZ := Zh cs
                clear h cs hc2 hl2 hf2
                have p0 := eq_true ci
                have p1 := eq_true cl
                clear ci cl
                obtain ⟨g, cg, hv, _, _, _⟩ := Kd.S_form (ST.out.own 1 rfl) (by have := HI0.out; have := HIL.out; omega)
                injection hv with hv1 hv2 hv3
                subst hv1
                clear hv2 hv3
                replace ST := Zh ST.out.drew
                refine start_ (n := 7) (S := fun w' => w'.cell? ⟨w1.heap.size, 0, none⟩ = some (.slice (some ⟨g, 0, none⟩) q.length c6)) (ds := []) #[false, false, false, false, false, false, false] (by kernel_rfl) rfl rfl (ST.out.cell 0 rfl 0 rfl) (fun hHeld => ?_)
                generalize wY.drew = w8 at ST hHeld ⊢
                refine pure_ (i := 0) (N := some 29) (v := ?_) (a' := ?_) #[true, false, false, false, false, false, false] rfl rfl (by kernel_rfl) (fun _ _ _ h => h) (Or.inl ⟨by rfl, ?_⟩) ?_ ?_
                rotate_left
                · intro w'
                  go_simp
                  with_reducible rfl
                rotate_left
                · simp only [Act.put, List.setIfInBounds_toArray, List.set_cons_zero, List.set_cons_succ, i64_w, i32_w]
                  rfl
                refine pure_ (i := 3) (N := some 32) (v := ?_) (a' := ?_) #[true, false, false, true, false, false, false] rfl rfl (by kernel_rfl) (fun _ _ _ h => h) (Or.inl ⟨by rfl, ?_⟩) ?_ ?_
                rotate_left
                · intro w'
                  go_simp
                  with_reducible rfl
                rotate_left
                · simp only [Act.put, List.setIfInBounds_toArray, List.set_cons_zero, List.set_cons_succ, i64_w, i32_w]
                  rfl
                refine take_ (i := 1) (N := some 30) (v := ?_) (a' := ?_) #[true, true, false, true, false, false, false] rfl rfl (by kernel_rfl) (fun _ _ _ h => h) (Or.inl ⟨by rfl, ?_⟩) hHeld ?_ ?_
                rotate_left
                · rintro w' s0
                  go_simp
                  with_reducible rfl
                rotate_left
                · simp only [Act.put, List.setIfInBounds_toArray, List.set_cons_zero, List.set_cons_succ, i64_w, i32_w]
                  rfl
                refine take_ (i := 2) (N := some 31) (v := ?_) (a' := ?_) #[true, true, true, true, false, false, false] rfl rfl (by kernel_rfl) (fun _ _ _ h => h) (Or.inl ⟨by rfl, ?_⟩) hHeld ?_ ?_
                rotate_left
                · rintro w' s0
                  go_simp
                  with_reducible rfl
                rotate_left
                · simp only [Act.put, List.setIfInBounds_toArray, List.set_cons_zero, List.set_cons_succ, i64_w, i32_w]
                  rfl
                refine one_ (i := 4) (N := some 33) #[true, true, true, true, true, false, false] rfl rfl (by kernel_rfl) (by decide) (fun K hK => ?_)
                refine goes_ Tryd.func74 (by kernel_rfl) rfl #[.agg #[.slice (some ⟨g, 0, none⟩) q.length c6], .string a1] (by rfl) rfl rfl (by (try simp only [List.map_toArray, List.map_cons, List.map_nil]); first | done | rfl) ?_
                with_reducible refine (impl_fileOf.calls _ _ q a1 i _ (ST.out.reads 1 rfl).2.2 (ST.out.reads 1 rfl).2.1 HA5.out).mono ?_
                rintro e w9 ⟨rfl, hb⟩
                refine ⟨_, rfl, ?_⟩
                replace ST := Zh (ST.out.step hb)
                clear hb
                refine hK.out _ _ (ST.out.cell 0 rfl 0 rfl) (fun hHeld => ?_)
                clear hK K
                refine norm_ (a' := ?_) ?_ ?_
                rotate_left
                · show Act.put _ (some 33) _ = _
                  simp only [Act.put, List.setIfInBounds_toArray, List.set_cons_zero, List.set_cons_succ, i64_w, i32_w]
                  rfl
                refine pure_ (i := 5) (N := some 34) (v := ?_) (a' := ?_) #[true, true, true, true, true, true, false] rfl rfl (by kernel_rfl) (fun _ _ _ h => h) (Or.inl ⟨by rfl, ?_⟩) ?_ ?_
                rotate_left
                · intro w'
                  go_simp
                  with_reducible rfl
                rotate_left
                · simp only [Act.put, List.setIfInBounds_toArray, List.set_cons_zero, List.set_cons_succ, i64_w, i32_w]
                  rfl
                refine pure_ (i := 6) (N := some 9) (v := ?_) (a' := ?_) #[true, true, true, true, true, true, true] rfl rfl (by kernel_rfl) (fun _ _ _ h => h) (Or.inl ⟨by rfl, ?_⟩) ?_ ?_
                rotate_left
                · intro w'
                  go_simp
                  with_reducible rfl
                rotate_left
                · simp only [Act.put, List.setIfInBounds_toArray, List.set_cons_zero, List.set_cons_succ, i64_w, i32_w]
                  rfl
                refine done_ (by kernel_rfl) ?_
                clear hHeld
                obtain ⟨u1, u2, ok2, hy0, hy1, hy2, hfz, hR2, hng, hFu, back⟩ := lendLoose ST.out 1 rfl i HI0.out HIL.out
                obtain ⟨B2, d2, rfl⟩ := Kd.R_slice hR2
                have HBK := Zh back
                have HRR := Zh hR2
                have hgl := blk_lt_of hy2
                have hc2 := ST.out.cell 0 rfl 0 (u := .slice (some ⟨g, 0, none⟩) q.length c6) rfl
                have hl2 := ST.out.lt 0 rfl
                have HNG := Zh hng
                have HFU := Zh hFu
                clear back hR2 hng hFu p0 p1
                go_wp2_with (at_builtin; refine Kd.R_append_rows (Kd.int .u8) (w0 := w) w.heap.size rfl _ _ 41 5 (.int .u8 0) 1 rfl Tryd.underlying41 info5 rfl (by decide) (by omega) _ (rd_T55 q i).f2 l2 _ _ _ (fun k => ok2 k ∨ w9.heap.size ≤ k) (fun _ => False) rfl rfl (Kd.R_mono HRR.out (fun k hk => .inl hk)) (Kd.C_below HR2.out ST.out.b) (fun _ _ h => h) (fun _ h => h.elim) (fun k hk => .inr hk) ST.out.b ST.out.b.size (by have := HSZ.out; omega) ?_; intro v1 w10 q1 q2 q3 q4; obtain ⟨A3, c3, rfl⟩ := Kd.R_slice q1; have hgb := q3.block g hgl (fun he => HNG.out g (HRR.out.1 g he.symm) rfl); have hgb8 := q3.block _ hl2 (fun he => LW.Its.disj ST.out.i 1 0 _ _ (by decide) rfl rfl _ (HFU.out _ he.symm) rfl); have hcg : w10.cell? ⟨g, i.toNat * 3 + 2, none⟩ = some (.slice B2 (rd_T55 q i).f2.length d2) := (cell_blk hgb).trans hy2; have hfg : w10.frozen? ⟨g, i.toNat * 3 + 2, none⟩ = false := (frozen_blk hgb).trans hfz; have hc8 : w10.cell? ⟨w1.heap.size, 0, none⟩ = some (.slice (some ⟨g, 0, none⟩) q.length c6) := (cell_blk hgb8).trans hc2; have hg8 : g ≠ w1.heap.size := fun he => LW.Its.disj ST.out.i 1 0 _ _ (by decide) rfl rfl g ((Kd.S_R (ST.out.own 1 rfl)).1 g (by simp [Value.ownBlock])) he; have hg8' := hg8.symm; have Q := Zh (And.intro q1 (And.intro q2 (And.intro q3 q4))); clear q1 q2 q3 q4 hgb hgb8 hc2 hl2 hy0 hy1 hy2 hfz hgl)
                obtain ⟨q1, q2, q3, q4⟩ := Q.out
                rw [List.length_append] at q1 q4
                have hST := HBK.out (.slice A3 ((rd_T55 q i).f2.length + l2.length) c3) w10 ((rd_T55 q i).f2 ++ l2) (fun ok hok => Kd.R_mono (Kd.R_tight rfl q1) (fun k hk => hok k hk.symm)) q2 q3 q4
                clear q1 q2 q3 q4 Q HBK hcg hfg hc8 hg8 hg8' HNG HFU HRR
                obtain ⟨p', hp'⟩ : ∃ p', p' = q.set i.toNat (⟨(rd_T55 q i).f0, (rd_T55 q i).f1, (rd_T55 q i).f2 ++ l2⟩ : S55) := ⟨_, rfl⟩
                have hpl : p'.length = q.length := by rw [hp', List.length_set]
                rw [← hp'] at hST
                replace ST := Zh hST
                have HA7 := Zh (show impl_isDisk.f k p' = some t2 by rw [hp']; exact HA6.out)
                have H3 := Zh (show (if t2 = true then some (p', true) else (impl_copyDisk.f k l0_0).bind fun o => some (o, false)) = some (r1, r2) by rw [hp']; exact H.out)
                clear hST hp' HA6 H
                generalize w10.setCell ⟨g, i.toNat * 3 + 2, none⟩ (.slice A3 ((rd_T55 q i).f2.length + l2.length) c3) = w11 at ST ⊢
                have hcall := impl_isDisk.calls k (some ⟨g, 0, none⟩) c6 p' t2 w11 (ST.out.reads 1 rfl).2.2 (by have := (ST.out.reads 1 rfl).2.1; omega) HA7.out
                rw [hpl] at hcall
                clear hpl
                refine hcall.mono ?_
                rintro e w12 ⟨rfl, hb⟩
                replace ST := Zh (ST.out.step hb)
                clear hb hcall
                have h := H3.out
                clear H3
                by_cases ct2 : t2 = true
                · subst ct2
                  rw [if_pos rfl] at h
                  obtain ⟨rfl, rfl⟩ := Prod.mk.inj (Option.some.inj h)
                  clear h
                  have hc2 := ST.out.cell 0 rfl 0 (u := .slice (some ⟨g, 0, none⟩) q.length c6) rfl
                  have hl2 := ST.out.lt 0 rfl
                  have hc3 := ST.out.cell 2 rfl 0 (u := .slice none 0 0) rfl
                  have hl3 := ST.out.lt 2 rfl
                  have hf3 := ST.out.frozen 2 rfl 0
                  go_wp2_with fail
                  replace ST := Zh (ST.out.set 2 rfl 0 (.slice (some ⟨g, 0, none⟩) q.length c6))
                  refine Zq (results_ct rfl _ _ (w.heap.size + 1) 28 #[.slice (some ⟨g, 0, none⟩) q.length c6] (0, 0) _ rfl (ST.out.blk 2 rfl) Tryd.underlying28 rfl (by kernel_rfl)) rfl ?_
                  exact ⟨_, rfl, Kd.S_mono (ST.out.own 1 rfl) (fun _ _ => trivial), ST.out.b⟩
                rw [if_neg ct2] at h
                obtain rfl : t2 = false := by simpa using ct2
                replace h := Option.bind_eq_some_iff.mp h
                obtain ⟨o2, HAo, h⟩ := h
                obtain ⟨rfl, rfl⟩ := Prod.mk.inj (Option.some.inj h)
                clear h ct2
                replace HAo := Zh HAo
                have hc1 := ST.out.cell 3 rfl 0 (u := .slice A0_0 l0_0.length c0_0) rfl
                have hl1 := ST.out.lt 3 rfl
                go_wp2_with fail
                with_reducible refine (impl_copyDisk.calls k _ _ l0_0 o2 _ (Kd.C_below HR.out ST.out.b) HC.out HAo.out).mono ?_
                rintro e w13 ⟨v9, rfl, ho, hb⟩
                obtain ⟨A9, c9, rfl⟩ := Kd.S_slice ho
                replace ST := Zh (ST.out.row hb ho)
                clear hb ho hc1 hl1
                have hc3 := ST.out.cell 3 rfl 0 (u := .slice none 0 0) rfl
                have hl3 := ST.out.lt 3 rfl
                have hf3 := ST.out.frozen 3 rfl 0
                go_wp2
                replace ST := Zh (ST.out.set 3 rfl 0 (.slice A9 o2.length c9))
                refine Zq (results_ct rfl _ _ (w.heap.size + 1) 28 #[.slice A9 o2.length c9] (0, 0) _ rfl (ST.out.blk 3 rfl) Tryd.underlying28 rfl (by kernel_rfl)) rfl ?_
                exact ⟨_, rfl, Kd.S_mono (ST.out.own 0 rfl) (fun _ _ => trivial), ST.out.b⟩
              rw [if_neg cs] at h; exact absurd h (by simp)
            rw [if_neg cl] at h; exact absurd h (by simp)
          rw [if_neg ci] at h; exact absurd h (by simp)
        rw [if_neg cq] at h; exact absurd h (by simp)
      rw [if_neg cj] at h
      have cjb : decide (j < 0) = false := decide_eq_false cj
      clear cj
      have H2 := Zh h
      clear h
      go_upto_region 6 with (fail)
      generalize hY : w5 = wY at ST hc2 hl2 hf2 ⊢
      clear hY
      have h := H2.out
      clear H2
      unfold impl_appendFile.fin at h
      replace h := Option.bind_eq_some_iff.mp h
      obtain ⟨i, HA5, h⟩ := h
      replace HA5 := Zh HA5
      by_cases ci : 0 ≤ i
      · rw [if_pos ci] at h
        by_cases cl : i < (o.length : Int)
        · rw [if_pos cl] at h
          by_cases cs : (rd_T55 o i).f2.length + l2.length ≤ 140737488355328
          · rw [if_pos cs] at h
            replace h := Option.bind_eq_some_iff.mp h
            obtain ⟨t2, HA6, h⟩ := h
            replace HA6 := Zh HA6
            have H := Zh h
            have HI0 := Zh ci
            have HIL := Zh cl
            have HSZ := Zh cs
            clear h cs hc2 hl2 hf2
            have p0 := eq_true ci
            have p1 := eq_true cl
            clear ci cl
            obtain ⟨g, cg, hv, _, _, _⟩ := Kd.S_form (ST.out.own 1 rfl) (by have := HI0.out; have := HIL.out; omega)
            injection hv with hv1 hv2 hv3
            subst hv1
            clear hv2 hv3
            replace ST := Zh ST.out.drew
            refine start_ (n := 7) (S := fun w' => w'.cell? ⟨w1.heap.size, 0, none⟩ = some (.slice (some ⟨g, 0, none⟩) o.length c1)) (ds := []) #[false, false, false, false, false, false, false] (by kernel_rfl) rfl rfl (ST.out.cell 0 rfl 0 rfl) (fun hHeld => ?_)
            generalize wY.drew = w8 at ST hHeld ⊢
            refine pure_ (i := 0) (N := some 29) (v := ?_) (a' := ?_) #[true, false, false, false, false, false, false] rfl rfl (by kernel_rfl) (fun _ _ _ h => h) (Or.inl ⟨by rfl, ?_⟩) ?_ ?_
            rotate_left
            · intro w'
              go_simp
              with_reducible rfl
            rotate_left
            · simp only [Act.put, List.setIfInBounds_toArray, List.set_cons_zero, List.set_cons_succ, i64_w, i32_w]
              rfl
            refine pure_ (i := 3) (N := some 32) (v := ?_) (a' := ?_) #[true, false, false, true, false, false, false] rfl rfl (by kernel_rfl) (fun _ _ _ h => h) (Or.inl ⟨by rfl, ?_⟩) ?_ ?_
            rotate_left
            · intro w'
              go_simp
              with_reducible rfl
            rotate_left
            · simp only [Act.put, List.setIfInBounds_toArray, List.set_cons_zero, List.set_cons_succ, i64_w, i32_w]
              rfl
            refine take_ (i := 1) (N := some 30) (v := ?_) (a' := ?_) #[true, true, false, true, false, false, false] rfl rfl (by kernel_rfl) (fun _ _ _ h => h) (Or.inl ⟨by rfl, ?_⟩) hHeld ?_ ?_
            rotate_left
            · rintro w' s0
              go_simp
              with_reducible rfl
            rotate_left
            · simp only [Act.put, List.setIfInBounds_toArray, List.set_cons_zero, List.set_cons_succ, i64_w, i32_w]
              rfl
            refine take_ (i := 2) (N := some 31) (v := ?_) (a' := ?_) #[true, true, true, true, false, false, false] rfl rfl (by kernel_rfl) (fun _ _ _ h => h) (Or.inl ⟨by rfl, ?_⟩) hHeld ?_ ?_
            rotate_left
            · rintro w' s0
              go_simp
              with_reducible rfl
            rotate_left
            · simp only [Act.put, List.setIfInBounds_toArray, List.set_cons_zero, List.set_cons_succ, i64_w, i32_w]
              rfl
            refine one_ (i := 4) (N := some 33) #[true, true, true, true, true, false, false] rfl rfl (by kernel_rfl) (by decide) (fun K hK => ?_)
            refine goes_ Tryd.func74 (by kernel_rfl) rfl #[.agg #[.slice (some ⟨g, 0, none⟩) o.length c1], .string a1] (by rfl) rfl rfl (by (try simp only [List.map_toArray, List.map_cons, List.map_nil]); first | done | rfl) ?_
            with_reducible refine (impl_fileOf.calls _ _ o a1 i _ (ST.out.reads 1 rfl).2.2 (ST.out.reads 1 rfl).2.1 HA5.out).mono ?_
            rintro e w9 ⟨rfl, hb⟩
            refine ⟨_, rfl, ?_⟩
            replace ST := Zh (ST.out.step hb)
            clear hb
            refine hK.out _ _ (ST.out.cell 0 rfl 0 rfl) (fun hHeld => ?_)
            clear hK K
            refine norm_ (a' := ?_) ?_ ?_
            rotate_left
            · show Act.put _ (some 33) _ = _
              simp only [Act.put, List.setIfInBounds_toArray, List.set_cons_zero, List.set_cons_succ, i64_w, i32_w]
              rfl
            refine pure_ (i := 5) (N := some 34) (v := ?_) (a' := ?_) #[true, true, true, true, true, true, false] rfl rfl (by kernel_rfl) (fun _ _ _ h => h) (Or.inl ⟨by rfl, ?_⟩) ?_ ?_
            rotate_left
            · intro w'
              go_simp
              with_reducible rfl
            rotate_left
            · simp only [Act.put, List.setIfInBounds_toArray, List.set_cons_zero, List.set_cons_succ, i64_w, i32_w]
              rfl
            refine pure_ (i := 6) (N := some 9) (v := ?_) (a' := ?_) #[true, true, true, true, true, true, true] rfl rfl (by kernel_rfl) (fun _ _ _ h => h) (Or.inl ⟨by rfl, ?_⟩) ?_ ?_
            rotate_left
            · intro w'
              go_simp
              with_reducible rfl
            rotate_left
            · simp only [Act.put, List.setIfInBounds_toArray, List.set_cons_zero, List.set_cons_succ, i64_w, i32_w]
              rfl
            refine done_ (by kernel_rfl) ?_
            clear hHeld
            obtain ⟨u1, u2, ok2, hy0, hy1, hy2, hfz, hR2, hng, hFu, back⟩ := lendLoose ST.out 1 rfl i HI0.out HIL.out
            obtain ⟨B2, d2, rfl⟩ := Kd.R_slice hR2
            have HBK := Zh back
            have HRR := Zh hR2
            have hgl := blk_lt_of hy2
            have hc2 := ST.out.cell 0 rfl 0 (u := .slice (some ⟨g, 0, none⟩) o.length c1) rfl
            have hl2 := ST.out.lt 0 rfl
            have HNG := Zh hng
            have HFU := Zh hFu
            clear back hR2 hng hFu p0 p1
            go_wp2_with (at_builtin; refine Kd.R_append_rows (Kd.int .u8) (w0 := w) w.heap.size rfl _ _ 41 5 (.int .u8 0) 1 rfl Tryd.underlying41 info5 rfl (by decide) (by omega) _ (rd_T55 o i).f2 l2 _ _ _ (fun k => ok2 k ∨ w9.heap.size ≤ k) (fun _ => False) rfl rfl (Kd.R_mono HRR.out (fun k hk => .inl hk)) (Kd.C_below HR2.out ST.out.b) (fun _ _ h => h) (fun _ h => h.elim) (fun k hk => .inr hk) ST.out.b ST.out.b.size (by have := HSZ.out; omega) ?_; intro v1 w10 q1 q2 q3 q4; obtain ⟨A3, c3, rfl⟩ := Kd.R_slice q1; have hgb := q3.block g hgl (fun he => HNG.out g (HRR.out.1 g he.symm) rfl); have hgb8 := q3.block _ hl2 (fun he => LW.Its.disj ST.out.i 1 0 _ _ (by decide) rfl rfl _ (HFU.out _ he.symm) rfl); have hcg : w10.cell? ⟨g, i.toNat * 3 + 2, none⟩ = some (.slice B2 (rd_T55 o i).f2.length d2) := (cell_blk hgb).trans hy2; have hfg : w10.frozen? ⟨g, i.toNat * 3 + 2, none⟩ = false := (frozen_blk hgb).trans hfz; have hc8 : w10.cell? ⟨w1.heap.size, 0, none⟩ = some (.slice (some ⟨g, 0, none⟩) o.length c1) := (cell_blk hgb8).trans hc2; have hg8 : g ≠ w1.heap.size := fun he => LW.Its.disj ST.out.i 1 0 _ _ (by decide) rfl rfl g ((Kd.S_R (ST.out.own 1 rfl)).1 g (by simp [Value.ownBlock])) he; have hg8' := hg8.symm; have Q := Zh (And.intro q1 (And.intro q2 (And.intro q3 q4))); clear q1 q2 q3 q4 hgb hgb8 hc2 hl2 hy0 hy1 hy2 hfz hgl)
            obtain ⟨q1, q2, q3, q4⟩ := Q.out
            rw [List.length_append] at q1 q4
            have hST := HBK.out (.slice A3 ((rd_T55 o i).f2.length + l2.length) c3) w10 ((rd_T55 o i).f2 ++ l2) (fun ok hok => Kd.R_mono (Kd.R_tight rfl q1) (fun k hk => hok k hk.symm)) q2 q3 q4
            clear q1 q2 q3 q4 Q HBK hcg hfg hc8 hg8 hg8' HNG HFU HRR
            obtain ⟨p', hp'⟩ : ∃ p', p' = o.set i.toNat (⟨(rd_T55 o i).f0, (rd_T55 o i).f1, (rd_T55 o i).f2 ++ l2⟩ : S55) := ⟨_, rfl⟩
            have hpl : p'.length = o.length := by rw [hp', List.length_set]
            rw [← hp'] at hST
            replace ST := Zh hST
            have HA7 := Zh (show impl_isDisk.f k p' = some t2 by rw [hp']; exact HA6.out)
            have H3 := Zh (show (if t2 = true then some (p', true) else (impl_copyDisk.f k l0_0).bind fun o => some (o, false)) = some (r1, r2) by rw [hp']; exact H.out)
            clear hST hp' HA6 H
            generalize w10.setCell ⟨g, i.toNat * 3 + 2, none⟩ (.slice A3 ((rd_T55 o i).f2.length + l2.length) c3) = w11 at ST ⊢
            have hcall := impl_isDisk.calls k (some ⟨g, 0, none⟩) c1 p' t2 w11 (ST.out.reads 1 rfl).2.2 (by have := (ST.out.reads 1 rfl).2.1; omega) HA7.out
            rw [hpl] at hcall
            clear hpl
            refine hcall.mono ?_
            rintro e w12 ⟨rfl, hb⟩
            replace ST := Zh (ST.out.step hb)
            clear hb hcall
            have h := H3.out
            clear H3
            by_cases ct2 : t2 = true
            · subst ct2
              rw [if_pos rfl] at h
              obtain ⟨rfl, rfl⟩ := Prod.mk.inj (Option.some.inj h)
              clear h
              have hc2 := ST.out.cell 0 rfl 0 (u := .slice (some ⟨g, 0, none⟩) o.length c1) rfl
              have hl2 := ST.out.lt 0 rfl
              have hc3 := ST.out.cell 2 rfl 0 (u := .slice none 0 0) rfl
              have hl3 := ST.out.lt 2 rfl
              have hf3 := ST.out.frozen 2 rfl 0
              go_wp2_with fail
              replace ST := Zh (ST.out.set 2 rfl 0 (.slice (some ⟨g, 0, none⟩) o.length c1))
              refine Zq (results_ct rfl _ _ (w.heap.size + 1) 28 #[.slice (some ⟨g, 0, none⟩) o.length c1] (0, 0) _ rfl (ST.out.blk 2 rfl) Tryd.underlying28 rfl (by kernel_rfl)) rfl ?_
              exact ⟨_, rfl, Kd.S_mono (ST.out.own 1 rfl) (fun _ _ => trivial), ST.out.b⟩
            rw [if_neg ct2] at h
            obtain rfl : t2 = false := by simpa using ct2
            replace h := Option.bind_eq_some_iff.mp h
            obtain ⟨o2, HAo, h⟩ := h
            obtain ⟨rfl, rfl⟩ := Prod.mk.inj (Option.some.inj h)
            clear h ct2
            replace HAo := Zh HAo
            have hc1 := ST.out.cell 3 rfl 0 (u := .slice A0_0 l0_0.length c0_0) rfl
            have hl1 := ST.out.lt 3 rfl
            go_wp2_with fail
            with_reducible refine (impl_copyDisk.calls k _ _ l0_0 o2 _ (Kd.C_below HR.out ST.out.b) HC.out HAo.out).mono ?_
            rintro e w13 ⟨v9, rfl, ho, hb⟩
            obtain ⟨A9, c9, rfl⟩ := Kd.S_slice ho
            replace ST := Zh (ST.out.row hb ho)
            clear hb ho hc1 hl1
            have hc3 := ST.out.cell 3 rfl 0 (u := .slice none 0 0) rfl
            have hl3 := ST.out.lt 3 rfl
            have hf3 := ST.out.frozen 3 rfl 0
            go_wp2
            replace ST := Zh (ST.out.set 3 rfl 0 (.slice A9 o2.length c9))
            refine Zq (results_ct rfl _ _ (w.heap.size + 1) 28 #[.slice A9 o2.length c9] (0, 0) _ rfl (ST.out.blk 3 rfl) Tryd.underlying28 rfl (by kernel_rfl)) rfl ?_
            exact ⟨_, rfl, Kd.S_mono (ST.out.own 0 rfl) (fun _ _ => trivial), ST.out.b⟩
          rw [if_neg cs] at h; exact absurd h (by simp)
        rw [if_neg cl] at h; exact absurd h (by simp)
      rw [if_neg ci] at h; exact absurd h (by simp)
    rw [if_neg cn] at h
    obtain rfl : n = false := by simpa using cn
    clear cn
    obtain ⟨rfl, rfl⟩ := Prod.mk.inj (Option.some.inj h)
    clear h
    have hc2 := ST.out.cell 0 rfl 0 (u := .slice A1 o.length c1) rfl
    have hl2 := ST.out.lt 0 rfl
    have hc3 := ST.out.cell 2 rfl 0 (u := .slice none 0 0) rfl
    have hl3 := ST.out.lt 2 rfl
    have hf3 := ST.out.frozen 2 rfl 0
    go_wp2_with fail
    replace ST := Zh (ST.out.set 2 rfl 0 (.slice A1 o.length c1))
    refine Zq (results_ct rfl _ _ (w.heap.size + 1) 28 #[.slice A1 o.length c1] (0, 0) _ rfl (ST.out.blk 2 rfl) Tryd.underlying28 rfl (by kernel_rfl)) rfl ?_
    exact ⟨_, rfl, Kd.S_mono (ST.out.own 1 rfl) (fun _ _ => trivial), ST.out.b⟩
  rw [if_neg ct] at h
  obtain rfl : t = false := by simpa using ct
  clear ct
  obtain ⟨rfl, rfl⟩ := Prod.mk.inj (Option.some.inj h)
  clear h
  have hc2 := ST.out.cell 0 rfl 0 (u := .slice A1 o.length c1) rfl
  have hl2 := ST.out.lt 0 rfl
  have hc3 := ST.out.cell 2 rfl 0 (u := .slice none 0 0) rfl
  have hl3 := ST.out.lt 2 rfl
  have hf3 := ST.out.frozen 2 rfl 0
  go_wp2_with fail
  replace ST := Zh (ST.out.set 2 rfl 0 (.slice A1 o.length c1))
  refine Zq (results_ct rfl _ _ (w.heap.size + 1) 28 #[.slice A1 o.length c1] (0, 0) _ rfl (ST.out.blk 2 rfl) Tryd.underlying28 rfl (by kernel_rfl)) rfl ?_
  exact ⟨_, rfl, Kd.S_mono (ST.out.own 1 rfl) (fun _ _ => trivial), ST.out.b⟩
end Go.Proofs.YtcgojdhbphocgaaDoor.F
