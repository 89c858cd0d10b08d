/- Merged texts below the law FnWal: Go functions as Lean functions, their contracts, and plain lemmas. -/
import Derived.Test.YtcgojdhbphocgaaDoorQFnWal25
import Derived.Test.YtcgojdhbphocgaaDoorQFnWal28
namespace Go.Proofs.YtcgojdhbphocgaaDoor.F
open Go.RowKit Go.Proofs.YtcgojdhbphocgaaDoorW.PrintWords Go.Proofs.YtcgojdhbphocgaaDoorW.PrintLast Go.Proofs.YtcgojdhbphocgaaDoorW.PrintMore
open Go.Proofs.YtcgojdhbphocgaaDoor
set_option linter.unusedVariables false
set_option linter.unusedSimpArgs false
def impl_WalAppend.f (k : Nat) (l0_0 : List S55) (a1 : List Int) : Option (List S55 × Bool) := (impl_frame.f k a1).bind fun f => if (f.length : Int) = 0 then (impl_copyDisk.f k l0_0).bind fun o => some (o, false) else impl_appendFile.f k l0_0 (⟨#[108, 111, 103]⟩ : ByteArray) f
set_option maxHeartbeats 8000000 in
set_option maxRecDepth 100000 in
theorem impl_WalAppend.calls (k : Nat) (A0_0 : Option Addr) (c0_0 : Nat) (l0_0 : List (S55)) (A1 : Option Addr) (c1 : Nat) (l1 : List Int) (r1 : List (S55)) (r2 : Bool) (w : World) (hr0_0 : Kd.C k55 w A0_0 l0_0.length l0_0) (hc0_0 : l0_0.length ≤ c0_0) (hr1 : Kd.C (Kd.int .u8) w A1 l1.length l1) (hc1 : l1.length ≤ c1) (h : impl_WalAppend.f k l0_0 l1 = some (r1, r2)) :
    Calls Tryd.prog 29 #[.agg #[.slice A0_0 l0_0.length c0_0], .slice A1 l1.length c1] w fun e w' => ∃ v0_ : Value, e = .returned (.tuple #[.agg #[v0_], .bool r2]) ∧ Kd.S k55 55 w' w.heap.size (fun _ => True) v0_ r1 ∧ Below w.heap.size w w' := by
  have HR := Zh hr0_0
  have HC := Zh hc0_0
  have HR1 := Zh hr1
  have HC1 := Zh hc1
  clear hr0_0 hc0_0 hr1 hc1
  have ST := Zh (LW.St.start w)
  unfold impl_WalAppend.f at h
  replace h := Option.bind_eq_some_iff.mp h
  obtain ⟨f, HA1, h⟩ := h
  replace HA1 := Zh HA1
  have H := Zh h
  clear h
  go_enter Tryd.func29, Tryd.ntmps29
  go_wp2_with fail
  replace ST := Zh (ST.out.alloc #[.slice A0_0 l0_0.length c0_0] 28 (g := w.heap.size) rfl)
  replace ST := Zh (ST.out.alloc #[.slice none 0 0] 28 (g := w.heap.size + 1) (by simp))
  with_reducible refine (impl_frame.strong k _ _ l1 f _ (Kd.C_below HR1.out ST.out.b) HC1.out HA1.out).mono ?_
  rintro e w1 ⟨v1, rfl, ho, hb, hn⟩
  have h := H.out
  clear H
  by_cases c : (f.length : Int) = 0
  · rw [if_pos c] at h
    replace h := Option.bind_eq_some_iff.mp h
    obtain ⟨o, HA2, h⟩ := h
    replace HA2 := Zh HA2
    obtain ⟨rfl, rfl⟩ := Prod.mk.inj (Option.some.inj h)
    clear h
    obtain rfl := hn (List.length_eq_zero_iff.1 (by omega))
    replace ST := Zh (ST.out.step hb)
    clear hb ho hn c
    have hc1 := ST.out.cell 1 rfl 0 (u := .slice A0_0 l0_0.length c0_0) rfl
    have hl1 := ST.out.lt 1 rfl
    have hq := fun (w : World) => Lib.run_eql_slice_nil (P := Tryd.prog) w 41 5 none 0 0 0 0 Tryd.underlying41
    go_wp2_with fail
    with_reducible refine (impl_copyDisk.calls k _ _ l0_0 o _ (Kd.C_below HR.out ST.out.b) HC.out HA2.out).mono ?_
    rintro e w2 ⟨v2, rfl, ho, hb⟩
    obtain ⟨A2, c2, rfl⟩ := Kd.S_slice ho
    replace ST := Zh (ST.out.row hb ho)
    clear hb ho hc1 hl1 hq
    have hc2 := ST.out.cell 1 rfl 0 (u := .slice none 0 0) rfl
    have hl2 := ST.out.lt 1 rfl
    have hf2 := ST.out.frozen 1 rfl 0
    go_wp2
    replace ST := Zh (ST.out.set 1 rfl 0 (.slice A2 o.length c2))
    refine Zq (results_ct rfl _ _ (w.heap.size + 1) 28 #[.slice A2 o.length c2] (0, 0) _ rfl (ST.out.blk 1 rfl) Tryd.underlying28 rfl (by kernel_rfl)) rfl ?_
    exact ⟨_, rfl, Kd.S_mono (ST.out.own 0 rfl) (fun _ _ => trivial), ST.out.b⟩
  · rw [if_neg c] at h
    have HA4 := Zh h
    clear h
    obtain ⟨g, cap, rfl, _⟩ := Kd.R_form ho (by omega)
    replace ST := Zh (ST.out.rowR rfl hb ho)
    clear hb ho hn c
    have hc1 := ST.out.cell 2 rfl 0 (u := .slice A0_0 l0_0.length c0_0) rfl
    have hl1 := ST.out.lt 2 rfl
    have hq := fun (w : World) => Lib.run_eql_slice_nil (P := Tryd.prog) w 41 5 (some ⟨g, 0, none⟩) f.length cap 0 0 Tryd.underlying41
    go_wp2_with fail
    with_reducible refine (impl_appendFile.calls k _ _ l0_0 (⟨#[108, 111, 103]⟩ : ByteArray) _ _ f r1 r2 _ (Kd.C_below HR.out ST.out.b) HC.out (ST.out.reads 0 rfl).2.2 (ST.out.reads 0 rfl).2.1 HA4.out).mono ?_
    rintro e w4 ⟨v4, rfl, ho, hb⟩
    obtain ⟨A4, c4, rfl⟩ := Kd.S_slice ho
    replace ST := Zh (ST.out.row hb ho)
    clear hb ho hc1 hl1 hq
    have hc2 := ST.out.cell 2 rfl 0 (u := .slice none 0 0) rfl
    have hl2 := ST.out.lt 2 rfl
    have hf2 := ST.out.frozen 2 rfl 0
    go_wp2
    replace ST := Zh (ST.out.set 2 rfl 0 (.slice A4 r1.length c4))
    refine Zq (results_ct rfl _ _ (w.heap.size + 1) 28 #[.slice A4 r1.length c4] (0, 0) _ rfl (ST.out.blk 2 rfl) Tryd.underlying28 rfl (by kernel_rfl)) rfl ?_
    exact ⟨_, rfl, Kd.S_mono (ST.out.own 0 rfl) (fun _ _ => trivial), ST.out.b⟩
end Go.Proofs.YtcgojdhbphocgaaDoor.F
