/- Merged texts below the law FnCompact: Go functions as Lean functions, their contracts, and plain lemmas. -/
import Derived.Test.YtcgojdhbphocgaaDoorQFnCompact23
import Derived.Test.YtcgojdhbphocgaaDoorQFnCompact24
import Derived.Test.YtcgojdhbphocgaaDoorQFnCompact25
import Derived.Test.YtcgojdhbphocgaaDoorVFnCompactF
namespace Go.Proofs.YtcgojdhbphocgaaDoor.F
open Go.RowKit Go.Proofs.YtcgojdhbphocgaaDoorW.PrintWords Go.Proofs.YtcgojdhbphocgaaDoorW.PrintLast Go.Proofs.YtcgojdhbphocgaaDoorW.PrintMore
open Go.Proofs.YtcgojdhbphocgaaDoor
set_option linter.unusedVariables false
set_option linter.unusedSimpArgs false
def impl_removeFile.f (k : Nat) (l0_0 : List S55) (a1 : ByteArray) : Option (List S55 × Bool) := (impl_copyDisk.f k l0_0).bind fun o => (impl_fileOf.f l0_0 a1).bind fun i => (impl_isDisk.f k l0_0).bind fun t => if t = true then (if i < 0 then some (o, false) else (if i < (o.length : Int) then some (o.eraseIdx i.toNat, true) else none)) else some (o, false)
set_option maxHeartbeats 8000000 in
set_option maxRecDepth 100000 in
theorem impl_removeFile.calls (k : Nat) (A0_0 : Option Addr) (c0_0 : Nat) (l0_0 : List S55) (a1 : ByteArray) (r1 : List S55) (r2 : Bool) (w : World) (hr0_0 : Kd.C k55 w A0_0 l0_0.length l0_0) (hc0_0 : l0_0.length ≤ c0_0) (h : impl_removeFile.f k l0_0 a1 = some (r1, r2)) :
    Calls Tryd.prog 66 #[.agg #[.slice A0_0 l0_0.length c0_0], .string a1] w fun e w' => ∃ v0_ : Value, e = .returned (.tuple #[.agg #[v0_], .bool r2]) ∧ Kd.S k55 55 w' w.heap.size (fun _ => True) v0_ r1 ∧ Below w.heap.size w w' := by
  have HR := Zh hr0_0
  have HC := Zh hc0_0
  clear hr0_0 hc0_0
  have ST := Zh (LW.St.start w)
  unfold impl_removeFile.f at h
  replace h := Option.bind_eq_some_iff.mp h
  obtain ⟨o, HA1, h⟩ := h
  replace h := Option.bind_eq_some_iff.mp h
  obtain ⟨i, HA2, h⟩ := h
  replace h := Option.bind_eq_some_iff.mp h
  obtain ⟨t, HA3, h⟩ := h
  replace HA1 := Zh HA1
  replace HA2 := Zh HA2
  replace HA3 := Zh HA3
  have H := Zh h
  clear h
  go_enter Tryd.func66, Tryd.ntmps66
  go_wp2_with fail
  replace ST := Zh (ST.out.alloc #[.slice A0_0 l0_0.length c0_0] 28 (g := w.heap.size) rfl)
  replace ST := Zh (ST.out.alloc #[.slice none 0 0] 28 (g := w.heap.size + 1) (by simp))
  with_reducible refine (impl_copyDisk.calls k _ _ l0_0 o _ (Kd.C_below HR.out ST.out.b) HC.out HA1.out).mono ?_
  rintro e w1 ⟨v1, rfl, ho, hb⟩
  obtain ⟨A1, c1, rfl⟩ := Kd.S_slice ho
  replace ST := Zh (ST.out.row hb ho)
  clear hb ho
  have hc1 := ST.out.cell 1 rfl 0 (u := .slice none 0 0) rfl
  have hl1 := ST.out.lt 1 rfl
  have hc2 := ST.out.cell 2 rfl 0 (u := .slice A0_0 l0_0.length c0_0) rfl
  have hl2 := ST.out.lt 2 rfl
  go_wp2_with fail
  replace ST := Zh (ST.out.alloc #[.slice A1 o.length c1] 28 (g := w1.heap.size) rfl)
  with_reducible refine (impl_fileOf.calls _ _ l0_0 a1 i _ (Kd.C_below HR.out ST.out.b) HC.out HA2.out).mono ?_
  rintro e w2 ⟨rfl, hb⟩
  replace ST := Zh (ST.out.step hb)
  clear hb
  clear hc1 hl1 hc2 hl2
  have hc1 := ST.out.cell 0 rfl 0 (u := .slice A1 o.length c1) rfl
  have hl1 := ST.out.lt 0 rfl
  have hc2 := ST.out.cell 3 rfl 0 (u := .slice A0_0 l0_0.length c0_0) rfl
  have hl2 := ST.out.lt 3 rfl
  go_wp2_with fail
  with_reducible refine (impl_isDisk.calls k _ _ l0_0 t _ (Kd.C_below HR.out ST.out.b) HC.out HA3.out).mono ?_
  rintro e w3 ⟨rfl, hb⟩
  replace ST := Zh (ST.out.step hb)
  clear hb
  clear hc1 hl1 hc2 hl2
  have hc1 := ST.out.cell 0 rfl 0 (u := .slice A1 o.length c1) rfl
  have hl1 := ST.out.lt 0 rfl
  have hc2 := ST.out.cell 2 rfl 0 (u := .slice none 0 0) rfl
  have hl2 := ST.out.lt 2 rfl
  have h := H.out
  clear H
  by_cases ct : t = true
  · subst ct
    rw [if_pos rfl] at h
    by_cases ci : i < 0
    · rw [if_pos ci] at h
      obtain ⟨rfl, rfl⟩ := Prod.mk.inj (Option.some.inj h)
      clear h
      have cib : decide (i < 0) = true := decide_eq_true ci
      clear ci
      have hf2 := ST.out.frozen 2 rfl 0
      go_wp2_with fail
      replace ST := Zh (ST.out.set 2 rfl 0 (.slice A1 o.length c1))
      refine Zq (results_ct rfl _ _ (w.heap.size + 1) 28 #[.slice A1 o.length c1] (0, 0) _ rfl (ST.out.blk 2 rfl) Tryd.underlying28 rfl (by kernel_rfl)) rfl ?_
      exact ⟨_, rfl, Kd.S_mono (ST.out.own 1 rfl) (fun _ _ => trivial), ST.out.b⟩
    rw [if_neg ci] at h
    by_cases cj : i < (o.length : Int)
    · rw [if_pos cj] at h
      obtain ⟨rfl, rfl⟩ := Prod.mk.inj (Option.some.inj h)
      clear h
      obtain ⟨n, rfl⟩ := Int.eq_ofNat_of_zero_le (show 0 ≤ i by omega)
      have cib : decide ((n : Int) < 0) = false := decide_eq_false ci
      have hn : n < o.length := by omega
      have hcap := (ST.out.reads 1 rfl).2.1
      obtain ⟨g, cg, hv, _, _, _⟩ := Kd.S_form (ST.out.own 1 rfl) (by omega)
      injection hv with hv1 hv2 hv3
      subst hv1
      have hcc := S_cap (ST.out.own 1 rfl)
      have hb1 : (n : Int) + 1 ≤ 9223372036854775807 := by omega
      clear ci cj hcap hcc hv2 hv3
      go_wp2_with fail
      with_reducible refine (sDelete.calls n _ _ o w _ ST.out.b (ST.out.own 1 rfl) hn).mono ?_
      rintro e w4 ⟨v4, rfl, ho, hb, hk⟩
      clear hc1 hl1 hc2 hl2 cib hb1
      replace ST := Zh (ST.out.writeV 1 rfl ho hb hk)
      obtain ⟨A4, c4, rfl⟩ := Kd.S_slice ho
      clear ho hb hk
      have hc1 := ST.out.cell 0 rfl 0 (u := .slice (some ⟨g, 0, none⟩) o.length c1) rfl
      have hl1 := ST.out.lt 0 rfl
      have hf1 := ST.out.frozen 0 rfl 0
      have hc2 := ST.out.cell 2 rfl 0 (u := .slice none 0 0) rfl
      have hl2 := ST.out.lt 2 rfl
      have hf2 := ST.out.frozen 2 rfl 0
      have hne : (w1.heap.size == w.heap.size + 1) = false := by have := ST.out.ne 0 2 (by decide) rfl rfl; simpa using this
      have hne' : ¬ w1.heap.size = w.heap.size + 1 := ST.out.ne 0 2 (by decide) rfl rfl
      go_wp2_with fail
      replace ST := Zh (ST.out.set 0 rfl 0 (.slice A4 (o.eraseIdx n).length c4))
      replace ST := Zh (ST.out.set 2 rfl 0 (.slice A4 (o.eraseIdx n).length c4))
      refine Zq (results_ct rfl _ _ (w.heap.size + 1) 28 #[.slice A4 (o.eraseIdx n).length c4] (0, 0) _ rfl (ST.out.blk 2 rfl) Tryd.underlying28 rfl (by kernel_rfl)) rfl ?_
      exact ⟨_, rfl, Kd.S_mono (ST.out.own 1 rfl) (fun _ _ => trivial), ST.out.b⟩
    rw [if_neg cj] at h
    exact absurd h (by simp)
  rw [if_neg ct] at h
  obtain rfl : t = false := by simpa using ct
  obtain ⟨rfl, rfl⟩ := Prod.mk.inj (Option.some.inj h)
  clear h ct
  have hf2 := ST.out.frozen 2 rfl 0
  go_wp2_with fail
  replace ST := Zh (ST.out.set 2 rfl 0 (.slice A1 o.length c1))
  refine Zq (results_ct rfl _ _ (w.heap.size + 1) 28 #[.slice A1 o.length c1] (0, 0) _ rfl (ST.out.blk 2 rfl) Tryd.underlying28 rfl (by kernel_rfl)) rfl ?_
  exact ⟨_, rfl, Kd.S_mono (ST.out.own 1 rfl) (fun _ _ => trivial), ST.out.b⟩
theorem setFile {w0 w : World} {l : List LW.It} {g n c : Nat} {xs : List S55} {F G : Nat → Prop} {v1 : Value} {ys : List Int} (h : LW.St w0 w l) (q p : Nat) (hn : q ≠ p)
    (hq : l[q]? = some (LW.row k55 55 w0.heap.size (.slice (some ⟨g, 0, none⟩) n c) xs F)) (hp : l[p]? = some (LW.row (Kd.int .u8) 5 w0.heap.size v1 ys G)) (i : Int) (h0 : 0 ≤ i) (h1 : i < n) (a : ByteArray) :
    LW.St w0 (((w.setCell ⟨g, i.toNat * 3, none⟩ (.string a)).setCell ⟨g, i.toNat * 3 + 1, none⟩ v1).setCell ⟨g, i.toNat * 3 + 2, none⟩ (.slice none 0 0))
      ((l.set q (LW.row k55 55 w0.heap.size (.slice (some ⟨g, 0, none⟩) n c) (xs.set i.toNat ⟨a, ys, []⟩) (fun k => F k ∨ G k))).set p LW.gone) := by
  have hS := h.own q hq
  have hR := Kd.S_R (h.own p hp)
  have hd := LW.Its.disj h.i q p _ _ hn hq hp
  have hFg : F g := (Kd.S_R hS).1 g (by simp [Value.ownBlock])
  have hbg := (h.i.all _ (List.mem_of_getElem? hq)).2 g hFg
  have hS2 : Kd.S k55 55 w w0.heap.size (fun k => (F k ∨ G k) ∧ ¬ G k) (.slice (some ⟨g, 0, none⟩) n c) xs := Kd.S_mono hS (fun k hk => ⟨.inl hk, fun h2 => hd k hk h2⟩)
  obtain ⟨oki, cs, hcl, hM, hcc, hfr, hoki, hH⟩ := Kd.S_elem hS2 z55 i h0 h1
  obtain ⟨pp, u1, u2, rfl, hA1, hA2⟩ := k55_openA hM
  have hP := (Kd.S_seg (okg := G) (seg := [.string a, v1, .slice none 0 0]) (j := 0) hH h0 h1 (show 0 + 3 ≤ 3 by decide) (x' := (⟨a, ys, []⟩ : S55)) (k55_mkM _ _ _ (⟨a, ys, []⟩ : S55) hR (Kd.R_nil _ _ _ _ _) AP.nil_ne) (fun k hk => .inr hk) (fun k hk => ⟨.inr hk, fun he => hd k (he ▸ hFg) hk⟩))
  refine h.merge q p hn hq hp (LW.row k55 55 w0.heap.size (.slice (some ⟨g, 0, none⟩) n c) (xs.set i.toNat ⟨a, ys, []⟩) (fun k => F k ∨ G k)) (fun k hk => hk) hP.1 (Zg (Zg (Zg h.b hbg.1) hbg.1) hbg.1) ⟨?_, fun k hk hne => ?_⟩
  · simp [World.setCell]
  have hkg : k ≠ g := fun he => hne (he ▸ hFg)
  rw [Below.heap_setCell _ _ _ k hkg, Below.heap_setCell _ _ _ k hkg, Below.heap_setCell _ _ _ k hkg]
def impl_syncFile.f (k : Nat) (l0_0 : List S55) (a1 : ByteArray) : Option (List S55 × Bool) := (impl_copyDisk.f k l0_0).bind fun o => (impl_fileOf.f l0_0 a1).bind fun i => (impl_isDisk.f k l0_0).bind fun t => if t = true then (if i < 0 then some (o, false) else (if i < (l0_0.length : Int) then (if i < (o.length : Int) then (impl_File_content.f (rd_T55 l0_0 i).f0 (rd_T55 l0_0 i).f1 (rd_T55 l0_0 i).f2).bind fun b => some (o.set i.toNat (⟨a1, b, []⟩ : S55), true) else none) else none)) else some (o, false)
set_option maxHeartbeats 8000000 in
set_option maxRecDepth 100000 in
theorem impl_syncFile.calls (k : Nat) (A0_0 : Option Addr) (c0_0 : Nat) (l0_0 : List S55) (a1 : ByteArray) (r1 : List S55) (r2 : Bool) (w : World) (hr0_0 : Kd.C k55 w A0_0 l0_0.length l0_0) (hc0_0 : l0_0.length ≤ c0_0) (h : impl_syncFile.f k l0_0 a1 = some (r1, r2)) :
    Calls Tryd.prog 45 #[.agg #[.slice A0_0 l0_0.length c0_0], .string a1] w fun e w' => ∃ v0_ : Value, e = .returned (.tuple #[.agg #[v0_], .bool r2]) ∧ Kd.S k55 55 w' w.heap.size (fun _ => True) v0_ r1 ∧ Below w.heap.size w w' := by
  have HR := Zh hr0_0
  have HC := Zh hc0_0
  clear hr0_0 hc0_0
  have ST := Zh (LW.St.start w)
  unfold impl_syncFile.f at h
  replace h := Option.bind_eq_some_iff.mp h
  obtain ⟨o, HA1, h⟩ := h
  replace h := Option.bind_eq_some_iff.mp h
  obtain ⟨i, HA2, h⟩ := h
  replace h := Option.bind_eq_some_iff.mp h
  obtain ⟨t, HA3, h⟩ := h
  replace HA1 := Zh HA1
  replace HA2 := Zh HA2
  replace HA3 := Zh HA3
  have H := Zh h
  clear h
  go_enter Tryd.func45, Tryd.ntmps45
  go_wp2_with fail
  replace ST := Zh (ST.out.alloc #[.slice A0_0 l0_0.length c0_0] 28 (g := w.heap.size) rfl)
  replace ST := Zh (ST.out.alloc #[.slice none 0 0] 28 (g := w.heap.size + 1) (by simp))
  with_reducible refine (impl_copyDisk.calls k _ _ l0_0 o _ (Kd.C_below HR.out ST.out.b) HC.out HA1.out).mono ?_
  rintro e w1 ⟨v1, rfl, ho, hb⟩
  obtain ⟨A1, c1, rfl⟩ := Kd.S_slice ho
  replace ST := Zh (ST.out.row hb ho)
  clear hb ho
  have hc1 := ST.out.cell 1 rfl 0 (u := .slice none 0 0) rfl
  have hl1 := ST.out.lt 1 rfl
  have hc2 := ST.out.cell 2 rfl 0 (u := .slice A0_0 l0_0.length c0_0) rfl
  have hl2 := ST.out.lt 2 rfl
  go_wp2_with fail
  replace ST := Zh (ST.out.alloc #[.slice A1 o.length c1] 28 (g := w1.heap.size) rfl)
  with_reducible refine (impl_fileOf.calls _ _ l0_0 a1 i _ (Kd.C_below HR.out ST.out.b) HC.out HA2.out).mono ?_
  rintro e w2 ⟨rfl, hb⟩
  replace ST := Zh (ST.out.step hb)
  clear hb
  clear hc1 hl1 hc2 hl2
  have hc1 := ST.out.cell 0 rfl 0 (u := .slice A1 o.length c1) rfl
  have hl1 := ST.out.lt 0 rfl
  have hc2 := ST.out.cell 3 rfl 0 (u := .slice A0_0 l0_0.length c0_0) rfl
  have hl2 := ST.out.lt 3 rfl
  go_wp2_with fail
  with_reducible refine (impl_isDisk.calls k _ _ l0_0 t _ (Kd.C_below HR.out ST.out.b) HC.out HA3.out).mono ?_
  rintro e w3 ⟨rfl, hb⟩
  replace ST := Zh (ST.out.step hb)
  clear hb
  clear hc1 hl1 hc2 hl2
  have hc1 := ST.out.cell 0 rfl 0 (u := .slice A1 o.length c1) rfl
  have hl1 := ST.out.lt 0 rfl
  have hc2 := ST.out.cell 2 rfl 0 (u := .slice none 0 0) rfl
  have hl2 := ST.out.lt 2 rfl
  have h := H.out
  clear H
  by_cases ct : t = true
  · subst ct
    rw [if_pos rfl] at h
    by_cases ci : i < 0
    · rw [if_pos ci] at h
      obtain ⟨rfl, rfl⟩ := Prod.mk.inj (Option.some.inj h)
      clear h
      have cib : decide (i < 0) = true := decide_eq_true ci
      clear ci
      have hf2 := ST.out.frozen 2 rfl 0
      go_wp2_with fail
      replace ST := Zh (ST.out.set 2 rfl 0 (.slice A1 o.length c1))
      refine Zq (results_ct rfl _ _ (w.heap.size + 1) 28 #[.slice A1 o.length c1] (0, 0) _ rfl (ST.out.blk 2 rfl) Tryd.underlying28 rfl (by kernel_rfl)) rfl ?_
      exact ⟨_, rfl, Kd.S_mono (ST.out.own 1 rfl) (fun _ _ => trivial), ST.out.b⟩
    rw [if_neg ci] at h
    by_cases cl : i < (l0_0.length : Int)
    · rw [if_pos cl] at h
      by_cases cj : i < (o.length : Int)
      · rw [if_pos cj] at h
        replace h := Option.bind_eq_some_iff.mp h
        obtain ⟨b, HA4, h⟩ := h
        obtain ⟨rfl, rfl⟩ := Prod.mk.inj (Option.some.inj h)
        replace HA4 := Zh HA4
        clear h
        have cib : decide (i < 0) = false := decide_eq_false ci
        have ci0 : 0 ≤ i := by omega
        obtain ⟨g, cg, hv, _, _, _⟩ := Kd.S_form (ST.out.own 1 rfl) (by omega)
        injection hv with hv1 hv2 hv3
        subst hv1
        have HI0 := Zh ci0
        have HIL := Zh cl
        have HIO := Zh cj
        have ci0b := eq_true ci0
        have clb := eq_true cl
        have cjb := eq_true cj
        clear ci cl cj ci0 hv2 hv3
        obtain ⟨ad, B1, d1, B2, d2, e, hx0, hx1, hx2, hl1', hi1, hl2', hi2⟩ := at_T55 HR.out i HI0.out HIL.out
        cases e
        go_wp2_with fail
        clear hc1 hl1 hc2 hl2
        have E0 := Zh hx0
        have E1 := Zh hx1
        have E2 := Zh hx2
        have HI1 := Zh hi1
        have HL1 := Zh hl1'
        have HI2 := Zh hi2
        have HL2 := Zh hl2'
        clear hx0 hx1 hx2 hl1' hi1 hl2' hi2
        replace ST := Zh ST.out.drew
        refine start_ (n := 13) (S := fun w' => w'.cell? ⟨w1.heap.size, 0, none⟩ = some (.slice (some ⟨g, 0, none⟩) o.length c1) ∧ w'.cell? ⟨w.heap.size, 0, none⟩ = some (.slice (some ad) l0_0.length c0_0) ∧ w'.cell? (ad.add (i.toNat * 3)) = some (.string (rd_T55 l0_0 i).f0) ∧ w'.cell? ⟨(ad.add (i.toNat * 3)).block, (ad.add (i.toNat * 3)).off + 1, none⟩ = some (.slice B1 (rd_T55 l0_0 i).f1.length d1) ∧ w'.cell? ⟨(ad.add (i.toNat * 3)).block, (ad.add (i.toNat * 3)).off + 2, none⟩ = some (.slice B2 (rd_T55 l0_0 i).f2.length d2)) (ds := [12]) #[false, false, false, false, false, false, false, false, false, false, false, false, false] (by kernel_rfl) rfl rfl ⟨ST.out.cell 0 rfl 0 rfl, ST.out.cell 3 rfl 0 rfl, (ST.out.b.cell (Zi w _ E0.out)).trans E0.out, (ST.out.b.cell (Zi w _ E1.out)).trans E1.out, (ST.out.b.cell (Zi w _ E2.out)).trans E2.out⟩ (fun hHeld => ?_)
        generalize w3.drew = w4 at ST hHeld ⊢
        refine pure_ (i := 0) (N := some 21) (v := ?_) (a' := ?_) #[true, false, false, false, false, false, false, false, false, false, false, false, false] rfl rfl (by kernel_rfl) (fun _ _ _ h => h) (Or.inl ⟨by rfl, ?_⟩) ?_ ?_
        rotate_left
        · intro w'
          go_simp
          with_reducible rfl
        rotate_left
        · simp only [Act.put, List.setIfInBounds_toArray, List.set_cons_zero, List.set_cons_succ, i64_w, i32_w]
          rfl
        refine pure_ (i := 2) (N := some 23) (v := ?_) (a' := ?_) #[true, false, true, false, false, false, false, false, false, false, false, false, false] rfl rfl (by kernel_rfl) (fun _ _ _ h => h) (Or.inl ⟨by rfl, ?_⟩) ?_ ?_
        rotate_left
        · intro w'
          go_simp
          with_reducible rfl
        rotate_left
        · simp only [Act.put, List.setIfInBounds_toArray, List.set_cons_zero, List.set_cons_succ, i64_w, i32_w]
          rfl
        refine pure_ (i := 3) (N := some 24) (v := ?_) (a' := ?_) #[true, false, true, true, false, false, false, false, false, false, false, false, false] rfl rfl (by kernel_rfl) (fun _ _ _ h => h) (Or.inl ⟨by rfl, ?_⟩) ?_ ?_
        rotate_left
        · intro w'
          go_simp
          with_reducible rfl
        rotate_left
        · simp only [Act.put, List.setIfInBounds_toArray, List.set_cons_zero, List.set_cons_succ, i64_w, i32_w]
          rfl
        refine pure_ (i := 4) (N := some 25) (v := ?_) (a' := ?_) #[true, false, true, true, true, false, false, false, false, false, false, false, false] rfl rfl (by kernel_rfl) (fun _ _ _ h => h) (Or.inl ⟨by rfl, ?_⟩) ?_ ?_
        rotate_left
        · intro w'
          go_simp
          with_reducible rfl
        rotate_left
        · simp only [Act.put, List.setIfInBounds_toArray, List.set_cons_zero, List.set_cons_succ, i64_w, i32_w]
          rfl
        refine pure_ (i := 6) (N := some 27) (v := ?_) (a' := ?_) #[true, false, true, true, true, false, true, false, false, false, false, false, false] rfl rfl (by kernel_rfl) (fun _ _ _ h => h) (Or.inl ⟨by rfl, ?_⟩) ?_ ?_
        rotate_left
        · intro w'
          go_simp
          with_reducible rfl
        rotate_left
        · simp only [Act.put, List.setIfInBounds_toArray, List.set_cons_zero, List.set_cons_succ, i64_w, i32_w]
          rfl
        refine take_ (i := 1) (N := some 22) (v := ?_) (a' := ?_) #[true, true, true, true, true, false, true, false, false, false, false, false, false] rfl rfl (by kernel_rfl) (fun _ _ _ h => h) (Or.inl ⟨by rfl, ?_⟩) hHeld ?_ ?_
        rotate_left
        · rintro w' ⟨s0, s1, s2, s3, s4⟩
          go_simp
          with_reducible rfl
        rotate_left
        · simp only [Act.put, List.setIfInBounds_toArray, List.set_cons_zero, List.set_cons_succ, i64_w, i32_w]
          rfl
        refine take_ (i := 5) (N := some 26) (v := ?_) (a' := ?_) #[true, true, true, true, true, true, true, false, false, false, false, false, false] rfl rfl (by kernel_rfl) (fun _ _ _ h => h) (Or.inl ⟨by rfl, ?_⟩) hHeld ?_ ?_
        rotate_left
        · rintro w' ⟨s0, s1, s2, s3, s4⟩
          go_simp
          with_reducible rfl
        rotate_left
        · simp only [Act.put, List.setIfInBounds_toArray, List.set_cons_zero, List.set_cons_succ, i64_w, i32_w]
          rfl
        refine pure_ (i := 7) (N := some 28) (v := ?_) (a' := ?_) #[true, true, true, true, true, true, true, true, false, false, false, false, false] rfl rfl (by kernel_rfl) (fun _ _ _ h => h) (Or.inl ⟨by rfl, ?_⟩) ?_ ?_
        rotate_left
        · intro w'
          go_simp
          with_reducible rfl
        rotate_left
        · simp only [Act.put, List.setIfInBounds_toArray, List.set_cons_zero, List.set_cons_succ, i64_w, i32_w]
          rfl
        refine take_ (i := 8) (N := some 29) (v := ?_) (a' := ?_) #[true, true, true, true, true, true, true, true, true, false, false, false, false] rfl rfl (by kernel_rfl) (fun _ _ _ h => h) (Or.inl ⟨by rfl, ?_⟩) hHeld ?_ ?_
        rotate_left
        · rintro w' ⟨s0, s1, s2, s3, s4⟩
          go_simp
          with_reducible rfl
        rotate_left
        · simp only [Act.put, List.setIfInBounds_toArray, List.set_cons_zero, List.set_cons_succ, i64_w, i32_w]
          rfl
        refine one_ (i := 9) (N := some 30) #[true, true, true, true, true, true, true, true, true, true, false, false, false] rfl rfl (by kernel_rfl) (by decide) (fun K hK => ?_)
        refine goes_ Tryd.func75 (by kernel_rfl) rfl #[.agg #[.string (rd_T55 l0_0 i).f0, .slice B1 (rd_T55 l0_0 i).f1.length d1, .slice B2 (rd_T55 l0_0 i).f2.length d2]] (by rfl) rfl rfl (by (try simp only [List.map_toArray, List.map_cons, List.map_nil]); first | done | rfl) ?_
        with_reducible refine (impl_File_content.calls (rd_T55 l0_0 i).f0 _ _ (rd_T55 l0_0 i).f1 _ _ (rd_T55 l0_0 i).f2 b _ (Kd.C_below HI1.out ST.out.b) HL1.out (Kd.C_below HI2.out ST.out.b) HL2.out HA4.out).mono ?_
        rintro e w5 ⟨v5, rfl, ho, hb⟩
        refine ⟨_, rfl, ?_⟩
        obtain ⟨A5, c5, rfl⟩ := Kd.R_slice ho
        replace ST := Zh (ST.out.rowR rfl hb ho)
        clear hb ho
        refine hK.out _ _ ⟨ST.out.cell 1 rfl 0 rfl, ST.out.cell 4 rfl 0 rfl, (ST.out.b.cell (Zi w _ E0.out)).trans E0.out, (ST.out.b.cell (Zi w _ E1.out)).trans E1.out, (ST.out.b.cell (Zi w _ E2.out)).trans E2.out⟩ (fun hHeld => ?_)
        clear hK K
        refine norm_ (a' := ?_) ?_ ?_
        rotate_left
        · show Act.put _ (some 30) _ = _
          simp only [Act.put, List.setIfInBounds_toArray, List.set_cons_zero, List.set_cons_succ, i64_w, i32_w]
          rfl
        obtain ⟨oki, cs, hcl, hM, hcc, hfr, hoki, hH⟩ := Kd.S_elem (ST.out.own 2 rfl) z55 i HI0.out HIO.out
        obtain ⟨pp, u1, u2, rfl, hA1, hA2⟩ := k55_openA hM
        have hy0 : w5.cell? ⟨g, i.toNat * 3, none⟩ = some (.string (o.getD i.toNat z55).f0) := hcc 0 _ rfl
        have hy1 : w5.cell? ⟨g, i.toNat * 3 + 1, none⟩ = some u1 := hcc 1 _ rfl
        have hy2 : w5.cell? ⟨g, i.toNat * 3 + 2, none⟩ = some u2 := hcc 2 _ rfl
        have hf0 : w5.frozen? ⟨g, i.toNat * 3, none⟩ = false := hfr 0
        have hf1 : w5.frozen? ⟨g, i.toNat * 3 + 1, none⟩ = false := hfr 1
        have hf2 : w5.frozen? ⟨g, i.toNat * 3 + 2, none⟩ = false := hfr 2
        clear hcl hM hcc hfr hoki hH hA1 hA2
        refine pure_ (i := 10) (N := some 31) (v := ?_) (a' := ?_) #[true, true, true, true, true, true, true, true, true, true, true, false, false] rfl rfl (by kernel_rfl) (fun _ _ _ h => h) (Or.inl ⟨by rfl, ?_⟩) ?_ ?_
        rotate_left
        · intro w'
          go_simp
          with_reducible rfl
        rotate_left
        · simp only [Act.put, List.setIfInBounds_toArray, List.set_cons_zero, List.set_cons_succ, i64_w, i32_w]
          rfl
        refine pure_ (i := 11) (N := some 32) (v := ?_) (a' := ?_) #[true, true, true, true, true, true, true, true, true, true, true, true, false] rfl rfl (by kernel_rfl) (fun _ _ _ h => h) (Or.inl ⟨by rfl, ?_⟩) ?_ ?_
        rotate_left
        · intro w'
          go_simp
          with_reducible rfl
        rotate_left
        · simp only [Act.put, List.setIfInBounds_toArray, List.set_cons_zero, List.set_cons_succ, i64_w, i32_w]
          rfl
        refine last_ (i := 12) (N := none) #[true, true, true, true, true, true, true, true, true, true, true, true, true] rfl rfl (by kernel_rfl) (by decide) (fun K hK => ?_)
        refine skip_ (w1 := ?_) (by rfl) rfl ?_ ?_
        rotate_left
        · go_simp
          rfl
        refine hK.out _ _ ?_
        clear hK K
        refine done_ (by kernel_rfl) ?_
        clear hy0 hy1 hy2 hf0 hf1 hf2 hHeld
        replace ST := Zh (setFile ST.out 2 0 (by decide) rfl rfl i HI0.out HIO.out a1)
        generalize (((w5.setCell ⟨g, i.toNat * 3, none⟩ (.string a1)).setCell ⟨g, i.toNat * 3 + 1, none⟩ (.slice A5 b.length c5)).setCell ⟨g, i.toNat * 3 + 2, none⟩ (.slice none 0 0)) = w6 at ST ⊢
        have hc1 := ST.out.cell 1 rfl 0 (u := .slice (some ⟨g, 0, none⟩) o.length c1) rfl
        have hl1 := ST.out.lt 1 rfl
        have hc2 := ST.out.cell 3 rfl 0 (u := .slice none 0 0) rfl
        have hl2 := ST.out.lt 3 rfl
        have hf2 := ST.out.frozen 3 rfl 0
        go_wp2
        replace ST := Zh (ST.out.set 3 rfl 0 (.slice (some ⟨g, 0, none⟩) o.length c1))
        refine Zq (results_ct rfl _ _ (w.heap.size + 1) 28 #[.slice (some ⟨g, 0, none⟩) o.length c1] (0, 0) _ rfl (ST.out.blk 3 rfl) Tryd.underlying28 rfl (by kernel_rfl)) rfl ?_
        exact ⟨_, rfl, Kd.S_mono (ST.out.own 2 rfl) (fun _ _ => trivial), ST.out.b⟩
      rw [if_neg cj] at h
      exact absurd h (by simp)
    rw [if_neg cl] at h
    exact absurd h (by simp)
  rw [if_neg ct] at h
  obtain rfl : t = false := by simpa using ct
  obtain ⟨rfl, rfl⟩ := Prod.mk.inj (Option.some.inj h)
  clear h ct
  have hf2 := ST.out.frozen 2 rfl 0
  go_wp2_with fail
  replace ST := Zh (ST.out.set 2 rfl 0 (.slice A1 o.length c1))
  refine Zq (results_ct rfl _ _ (w.heap.size + 1) 28 #[.slice A1 o.length c1] (0, 0) _ rfl (ST.out.blk 2 rfl) Tryd.underlying28 rfl (by kernel_rfl)) rfl ?_
  exact ⟨_, rfl, Kd.S_mono (ST.out.own 1 rfl) (fun _ _ => trivial), ST.out.b⟩
theorem run_field28 (v : Value) (w : World) : (Instr.field 28 (.agg #[v]) 0).run Tryd.prog w = .ok v w := by
  simp [Instr.field, go_sem, asAgg, Tryd.underlying28, Tryd.underlying26]
attribute [local go_sem] run_field28
def impl_renameFile.f (k : Nat) (l0_0 : List S55) (a1 a2 : ByteArray) : Option (List S55 × Bool) := (impl_fileOf.f l0_0 a1).bind fun i => (impl_isDisk.f k l0_0).bind fun t => if t = true then (if i < 0 then (impl_copyDisk.f k l0_0).bind fun o => some (o, false) else (impl_isFileName.f a2).bind fun n => if n = true then (if a1.toList = a2.toList then (impl_copyDisk.f k l0_0).bind fun o => some (o, true) else (impl_removeFile.f k l0_0 a1).bind fun p => (impl_removeFile.f k p.1 a2).bind fun q => (impl_copyDisk.f k l0_0).bind fun o => if i < (o.length : Int) then (if (q.1.length + 1) * 64 ≤ 140737488355328 then some (insM q.1 ⟨a2, (rd_T55 o i).f1, (rd_T55 o i).f2⟩, true) else none) else none) else (impl_copyDisk.f k l0_0).bind fun o => some (o, false)) else (impl_copyDisk.f k l0_0).bind fun o => some (o, false)
set_option maxHeartbeats 8000000 in
set_option maxRecDepth 100000 in
theorem impl_renameFile.calls (k : Nat) (A0_0 : Option Addr) (c0_0 : Nat) (l0_0 : List S55) (a1 a2 : ByteArray) (r1 : List S55) (r2 : Bool) (w : World) (hr0_0 : Kd.C k55 w A0_0 l0_0.length l0_0) (hc0_0 : l0_0.length ≤ c0_0) (h : impl_renameFile.f k l0_0 a1 a2 = some (r1, r2)) :
    Calls Tryd.prog 67 #[.agg #[.slice A0_0 l0_0.length c0_0], .string a1, .string a2] w fun e w' => ∃ v0_ : Value, e = .returned (.tuple #[.agg #[v0_], .bool r2]) ∧ Kd.S k55 55 w' w.heap.size (fun _ => True) v0_ r1 ∧ Below w.heap.size w w' := by
  have HR := Zh hr0_0
  have HC := Zh hc0_0
  clear hr0_0 hc0_0
  have ST := Zh (LW.St.start w)
  have hu28 := Tryd.underlying28
  have hu55 := Tryd.underlying55
  unfold impl_renameFile.f at h
  replace h := Option.bind_eq_some_iff.mp h
  obtain ⟨i, HA1, h⟩ := h
  replace h := Option.bind_eq_some_iff.mp h
  obtain ⟨t, HA2, h⟩ := h
  replace HA1 := Zh HA1
  replace HA2 := Zh HA2
  have H := Zh h
  clear h
  go_enter Tryd.func67, Tryd.ntmps67
  go_wp2_with fail
  replace ST := Zh (ST.out.alloc #[.slice A0_0 l0_0.length c0_0] 28 (g := w.heap.size) rfl)
  replace ST := Zh (ST.out.alloc #[.slice none 0 0] 28 (g := w.heap.size + 1) (by simp))
  with_reducible refine (impl_fileOf.calls _ _ l0_0 a1 i _ (Kd.C_below HR.out ST.out.b) HC.out HA1.out).mono ?_
  rintro e w2 ⟨rfl, hb⟩
  replace ST := Zh (ST.out.step hb)
  clear hb
  have hc1 := ST.out.cell 1 rfl 0 (u := .slice A0_0 l0_0.length c0_0) rfl
  have hl1 := ST.out.lt 1 rfl
  go_wp2_with fail
  with_reducible refine (impl_isDisk.calls k _ _ l0_0 t _ (Kd.C_below HR.out ST.out.b) HC.out HA2.out).mono ?_
  rintro e w3 ⟨rfl, hb⟩
  replace ST := Zh (ST.out.step hb)
  clear hb hc1 hl1
  have hc1 := ST.out.cell 1 rfl 0 (u := .slice A0_0 l0_0.length c0_0) rfl
  have hl1 := ST.out.lt 1 rfl
  have h := H.out
  clear H
  by_cases ct : t = true
  · subst ct
    rw [if_pos rfl] at h
    by_cases ci : i < 0
    · rw [if_pos ci] at h
      have cib : decide (i < 0) = true := decide_eq_true ci
      clear ci
      replace h := Option.bind_eq_some_iff.mp h
      obtain ⟨o, HAo, h⟩ := h
      obtain ⟨rfl, rfl⟩ := Prod.mk.inj (Option.some.inj h)
      clear h
      replace HAo := Zh HAo
      go_wp2_with fail
      with_reducible refine (impl_copyDisk.calls k _ _ l0_0 o _ (Kd.C_below HR.out ST.out.b) HC.out HAo.out).mono ?_
      rintro e w9 ⟨v9, rfl, ho, hb⟩
      obtain ⟨A9, c9, rfl⟩ := Kd.S_slice ho
      replace ST := Zh (ST.out.row hb ho)
      clear hb ho hc1 hl1
      have hc2 := ST.out.cell 1 rfl 0 (u := .slice none 0 0) rfl
      have hl2 := ST.out.lt 1 rfl
      have hf2 := ST.out.frozen 1 rfl 0
      go_wp2
      replace ST := Zh (ST.out.set 1 rfl 0 (.slice A9 o.length c9))
      refine Zq (results_ct rfl _ _ (w.heap.size + 1) 28 #[.slice A9 o.length c9] (0, 0) _ rfl (ST.out.blk 1 rfl) Tryd.underlying28 rfl (by kernel_rfl)) rfl ?_
      exact ⟨_, rfl, Kd.S_mono (ST.out.own 0 rfl) (fun _ _ => trivial), ST.out.b⟩
    rw [if_neg ci] at h
    have cib : decide (i < 0) = false := decide_eq_false ci
    have HI0 := Zh (show 0 ≤ i by omega)
    clear ci
    replace h := Option.bind_eq_some_iff.mp h
    obtain ⟨n, HA3, h⟩ := h
    replace HA3 := Zh HA3
    have H := Zh h
    clear h
    go_wp2_with fail
    with_reducible refine (impl_isFileName.calls a2 n _ HA3.out).mono ?_
    rintro e w4 ⟨rfl, hb⟩
    replace ST := Zh (ST.out.step hb)
    clear hb hc1 hl1
    have hc1 := ST.out.cell 1 rfl 0 (u := .slice A0_0 l0_0.length c0_0) rfl
    have hl1 := ST.out.lt 1 rfl
    have h := H.out
    clear H
    by_cases cn : n = true
    · subst cn
      rw [if_pos rfl] at h
      by_cases ce : a1.toList = a2.toList
      · rw [if_pos ce] at h
        have ceb : (a1.toList == a2.toList) = true := beq_iff_eq.mpr ce
        clear ce
        replace h := Option.bind_eq_some_iff.mp h
        obtain ⟨o, HAo, h⟩ := h
        obtain ⟨rfl, rfl⟩ := Prod.mk.inj (Option.some.inj h)
        clear h
        replace HAo := Zh HAo
        go_wp2_with fail
        with_reducible refine (impl_copyDisk.calls k _ _ l0_0 o _ (Kd.C_below HR.out ST.out.b) HC.out HAo.out).mono ?_
        rintro e w9 ⟨v9, rfl, ho, hb⟩
        obtain ⟨A9, c9, rfl⟩ := Kd.S_slice ho
        replace ST := Zh (ST.out.row hb ho)
        clear hb ho hc1 hl1
        have hc2 := ST.out.cell 1 rfl 0 (u := .slice none 0 0) rfl
        have hl2 := ST.out.lt 1 rfl
        have hf2 := ST.out.frozen 1 rfl 0
        go_wp2
        replace ST := Zh (ST.out.set 1 rfl 0 (.slice A9 o.length c9))
        refine Zq (results_ct rfl _ _ (w.heap.size + 1) 28 #[.slice A9 o.length c9] (0, 0) _ rfl (ST.out.blk 1 rfl) Tryd.underlying28 rfl (by kernel_rfl)) rfl ?_
        exact ⟨_, rfl, Kd.S_mono (ST.out.own 0 rfl) (fun _ _ => trivial), ST.out.b⟩
      rw [if_neg ce] at h
      have ceb : (a1.toList == a2.toList) = false := beq_eq_false_iff_ne.mpr ce
      clear ce
      replace h := Option.bind_eq_some_iff.mp h
      obtain ⟨⟨p, pb⟩, HA4, h⟩ := h
      replace h := Option.bind_eq_some_iff.mp h
      obtain ⟨⟨q, qb⟩, HA5, h⟩ := h
      replace h := Option.bind_eq_some_iff.mp h
      obtain ⟨o, HA6, h⟩ := h
      simp only at HA5 h
      replace HA4 := Zh HA4
      replace HA5 := Zh HA5
      replace HA6 := Zh HA6
      by_cases cl : i < (o.length : Int)
      · rw [if_pos cl] at h
        by_cases cq : (q.length + 1) * 64 ≤ 140737488355328
        · rw [if_pos cq] at h
          obtain ⟨rfl, rfl⟩ := Prod.mk.inj (Option.some.inj h)
          have HCL := Zh cl
          have HCQ := Zh cq
          clear h cl cq
          go_wp2_with fail
          with_reducible refine (impl_removeFile.calls k _ _ l0_0 a1 p pb _ (Kd.C_below HR.out ST.out.b) HC.out HA4.out).mono ?_
          rintro e w5 ⟨v5, rfl, ho, hb⟩
          obtain ⟨A5, c5, rfl⟩ := Kd.S_slice ho
          replace ST := Zh (ST.out.row hb ho)
          clear hb ho hc1 hl1
          go_wp2_with fail
          replace ST := Zh (ST.out.alloc #[.slice A5 p.length c5] 28 (g := w5.heap.size) rfl)
          with_reducible refine (impl_removeFile.calls k _ _ p a2 q qb _ (ST.out.reads 1 rfl).2.2 (ST.out.reads 1 rfl).2.1 HA5.out).mono ?_
          rintro e w6 ⟨v6, rfl, ho, hb⟩
          obtain ⟨A6, c6, rfl⟩ := Kd.S_slice ho
          replace ST := Zh (ST.out.row hb ho)
          clear hb ho
          have hc1 := ST.out.cell 4 rfl 0 (u := .slice A0_0 l0_0.length c0_0) rfl
          have hl1 := ST.out.lt 4 rfl
          have hc2 := ST.out.cell 1 rfl 0 (u := .slice A5 p.length c5) rfl
          have hl2 := ST.out.lt 1 rfl
          have hf2 := ST.out.frozen 1 rfl 0
          have hne := ST.out.ne 1 4 (by decide) rfl rfl
          go_wp2_with fail
          replace ST := Zh (ST.out.set 1 rfl 0 (.slice A6 q.length c6))
          generalize (w6.setCell ⟨w5.heap.size, 0, none⟩ (.slice A6 q.length c6)) = w7 at ST ⊢
          with_reducible refine (impl_copyDisk.calls k _ _ l0_0 o _ (Kd.C_below HR.out ST.out.b) HC.out HA6.out).mono ?_
          rintro e w8 ⟨v8, rfl, ho, hb⟩
          obtain ⟨g, cg, rfl, _, _, _⟩ := Kd.S_form ho (by have := HCL.out; have := HI0.out; omega)
          replace ST := Zh (ST.out.row hb ho)
          clear hb ho hc1 hl1 hc2 hl2 hf2 hne
          obtain ⟨oki, cs, hcl, hM, hcc, hfr, hoki, hH⟩ := Kd.S_elem (ST.out.own 0 rfl) z55 i HI0.out HCL.out
          obtain ⟨pp, u1, u2, rfl, hM1, hM2⟩ := k55_openA hM
          obtain ⟨B1, d1, rfl⟩ := Kd.R_slice hM1
          obtain ⟨B2, d2, rfl⟩ := Kd.R_slice hM2
          have hrd : o.getD i.toNat z55 = rd_T55 o i := rfl
          rw [hrd] at hM1 hM2 hcc
          generalize hy : rd_T55 o i = y at hM1 hM2 hcc
          have HY := Zh hy
          clear hy
          have hy0 : w8.cell? ⟨g, i.toNat * 3, none⟩ = some (.string y.f0) := hcc 0 _ rfl
          have hy1 : w8.cell? ⟨g, i.toNat * 3 + 1, none⟩ = some (.slice B1 y.f1.length d1) := hcc 1 _ rfl
          have hy2 : w8.cell? ⟨g, i.toNat * 3 + 2, none⟩ = some (.slice B2 y.f2.length d2) := hcc 2 _ rfl
          have hc1 := ST.out.cell 2 rfl 0 (u := .slice A6 q.length c6) rfl
          have hl1 := ST.out.lt 2 rfl
          have p0 := eq_true HI0.out
          have p1 := eq_true HCL.out
          have K1 := Zh (And.intro hM1 (And.intro hM2 hoki))
          clear hrd hcl hM hcc hfr hoki hH hM1 hM2
          go_wp2_with ((with_reducible refine gate_dst (N := 11) rfl ?_); refine box_event ?hg (N := 11) ?hd (cs := #[.string (⟨#[]⟩ : ByteArray), .slice none 0 0, .slice none 0 0]) (t := 55) ?hr ?_; (case hd => rfl); (case hg => rfl); (case hr => first | (go_simp; done) | (go_simp; rfl)); intro gb hg w10 hbox hb; replace ST := Zh (ST.out.box hg hbox hb); have hd0 := ST.out.cell 0 rfl 0 (u := .string (⟨#[]⟩ : ByteArray)) rfl; have hd1 := ST.out.cell 0 rfl 1 (u := .slice none 0 0) rfl; have hd2 := ST.out.cell 0 rfl 2 (u := .slice none 0 0) rfl; have hg0 := ST.out.frozen 0 rfl 0; have hg1 := ST.out.frozen 0 rfl 1; have hg2 := ST.out.frozen 0 rfl 2; have hgl := ST.out.lt 0 rfl; replace hc1 := ST.out.cell 3 rfl 0 (u := .slice A6 q.length c6) rfl; replace hl1 := ST.out.lt 3 rfl; have hne := ST.out.ne 3 0 (by decide) rfl rfl; have hne' := hne.symm; have HBX := Zh hb; have HGB := Zh (Nat.le_of_eq hg.symm); clear hg hbox hb)
          have hb11 : Below w8.heap.size w8 ((((w10.setCell ⟨gb, 0, none⟩ (.string y.f0)).setCell ⟨gb, 1, none⟩ (.slice B1 y.f1.length d1)).setCell ⟨gb, 2, none⟩ (.slice B2 y.f2.length d2)).setCell ⟨gb, 0, none⟩ (.string a2)) := Zg (Zg (Zg (Zg HBX.out HGB.out) HGB.out) HGB.out) HGB.out
          replace ST := Zh (ST.out.set 0 rfl 0 (.string y.f0))
          replace ST := Zh (ST.out.set 0 rfl 1 (.slice B1 y.f1.length d1))
          replace ST := Zh (ST.out.set 0 rfl 2 (.slice B2 y.f2.length d2))
          replace ST := Zh (ST.out.set 0 rfl 0 (.string a2))
          clear hd0 hd1 hd2 hg0 hg1 hg2 hgl hc1 hl1 hne hne' hy0 hy1 hy2 p0 p1
          generalize ((((w10.setCell ⟨gb, 0, none⟩ (.string y.f0)).setCell ⟨gb, 1, none⟩ (.slice B1 y.f1.length d1)).setCell ⟨gb, 2, none⟩ (.slice B2 y.f2.length d2)).setCell ⟨gb, 0, none⟩ (.string a2)) = w11 at ST hb11 ⊢
          obtain ⟨hM1, hM2, hoki⟩ := K1.out
          refine (impl_withFile.calls _ oki _ q ⟨a2, y.f1, y.f2⟩ (.slice B1 y.f1.length d1) (.slice B2 y.f2.length d2) w w11 ST.out.b (ST.out.own 2 rfl) HCQ.out (k55_mkM w11 _ oki (⟨a2, y.f1, y.f2⟩ : S55) (Kd.R_mono (Kd.R_below hM1 hb11) (fun k hk => hk.1)) (Kd.R_mono (Kd.R_below hM2 hb11) (fun k hk => hk.1)) (fun k h1 h2 => (hM2.1 k h2.symm).2 (hM1.1 k h1.symm).2)) (fun k hk hp => LW.Its.disj ST.out.i 1 2 _ _ (by decide) rfl rfl k (hoki k hk).1 hp)).mono ?_
          rintro e w12 ⟨v', rfl, hS, hB12, hK12⟩
          have hl5 := ST.out.lt 5 rfl
          have b5 := (hK12.2 _ hl5 (fun hp => LW.Its.disj ST.out.i 5 2 _ _ (by decide) rfl rfl _ rfl hp)).trans (ST.out.blk 5 rfl)
          obtain ⟨A12, c12, hv12⟩ := Kd.S_slice hS
          obtain ⟨n12, hn12⟩ : ∃ n12, n12 = (insM q ⟨a2, y.f1, y.f2⟩).length := ⟨_, rfl⟩
          rw [← hn12] at hv12
          subst hv12
          clear hn12
          have FIN := Zh (And.intro hS (And.intro hB12 (And.intro hl5 b5)))
          have K2 := Zh hoki
          have hc5 := (blk_cell b5 0).trans (show _ = some (.slice none 0 0) from rfl)
          have hf5 := Zn b5 0
          have hm5 := blk_lt b5
          clear hS hB12 hK12 hl5 b5 hM1 hM2 hoki K1 hb11
          go_wp2_with fail
          obtain ⟨hS, hB12, hl5, b5⟩ := FIN.out
          have hy := HY.out
          clear HY
          subst hy
          refine Zq (results_ct rfl _ _ (w.heap.size + 1) 28 #[.slice A12 n12 c12] (0, 0) _ rfl (blk_put b5 0 _ rfl) Tryd.underlying28 rfl (by kernel_rfl)) rfl ?_
          refine ⟨_, rfl, Kd.S_mono (Kd.S_far hS (fun k hk => ?_) _) (fun _ _ => trivial), Zg hB12 (Nat.le_succ _)⟩
          show k ≠ w.heap.size + 1
          intro he
          rcases hk with hk | hk | hk
          · exact LW.Its.disj ST.out.i 2 5 _ _ (by decide) rfl rfl k hk he
          · exact LW.Its.disj ST.out.i 1 5 _ _ (by decide) rfl rfl k (K2.out k hk).1 he
          have := hk.1; omega
        rw [if_neg cq] at h; exact absurd h (by simp)
      rw [if_neg cl] at h; exact absurd h (by simp)
    rw [if_neg cn] at h
    obtain rfl : n = false := by simpa using cn
    clear cn
    replace h := Option.bind_eq_some_iff.mp h
    obtain ⟨o, HAo, h⟩ := h
    obtain ⟨rfl, rfl⟩ := Prod.mk.inj (Option.some.inj h)
    clear h
    replace HAo := Zh HAo
    go_wp2_with fail
    with_reducible refine (impl_copyDisk.calls k _ _ l0_0 o _ (Kd.C_below HR.out ST.out.b) HC.out HAo.out).mono ?_
    rintro e w9 ⟨v9, rfl, ho, hb⟩
    obtain ⟨A9, c9, rfl⟩ := Kd.S_slice ho
    replace ST := Zh (ST.out.row hb ho)
    clear hb ho hc1 hl1
    have hc2 := ST.out.cell 1 rfl 0 (u := .slice none 0 0) rfl
    have hl2 := ST.out.lt 1 rfl
    have hf2 := ST.out.frozen 1 rfl 0
    go_wp2
    replace ST := Zh (ST.out.set 1 rfl 0 (.slice A9 o.length c9))
    refine Zq (results_ct rfl _ _ (w.heap.size + 1) 28 #[.slice A9 o.length c9] (0, 0) _ rfl (ST.out.blk 1 rfl) Tryd.underlying28 rfl (by kernel_rfl)) rfl ?_
    exact ⟨_, rfl, Kd.S_mono (ST.out.own 0 rfl) (fun _ _ => trivial), ST.out.b⟩
  rw [if_neg ct] at h
  obtain rfl : t = false := by simpa using ct
  clear ct
  replace h := Option.bind_eq_some_iff.mp h
  obtain ⟨o, HAo, h⟩ := h
  obtain ⟨rfl, rfl⟩ := Prod.mk.inj (Option.some.inj h)
  clear h
  replace HAo := Zh HAo
  go_wp2_with fail
  with_reducible refine (impl_copyDisk.calls k _ _ l0_0 o _ (Kd.C_below HR.out ST.out.b) HC.out HAo.out).mono ?_
  rintro e w9 ⟨v9, rfl, ho, hb⟩
  obtain ⟨A9, c9, rfl⟩ := Kd.S_slice ho
  replace ST := Zh (ST.out.row hb ho)
  clear hb ho hc1 hl1
  have hc2 := ST.out.cell 1 rfl 0 (u := .slice none 0 0) rfl
  have hl2 := ST.out.lt 1 rfl
  have hf2 := ST.out.frozen 1 rfl 0
  go_wp2
  replace ST := Zh (ST.out.set 1 rfl 0 (.slice A9 o.length c9))
  refine Zq (results_ct rfl _ _ (w.heap.size + 1) 28 #[.slice A9 o.length c9] (0, 0) _ rfl (ST.out.blk 1 rfl) Tryd.underlying28 rfl (by kernel_rfl)) rfl ?_
  exact ⟨_, rfl, Kd.S_mono (ST.out.own 0 rfl) (fun _ _ => trivial), ST.out.b⟩
end Go.Proofs.YtcgojdhbphocgaaDoor.F
