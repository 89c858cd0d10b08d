/- Merged texts below the law FnExactAppendFile: Go functions as Lean functions, their contracts, and plain lemmas. -/
import Derived.Test.YtmgeffgcihfpcaaDoorQFnExactAppendFile23
import Derived.Shelf.Abstract
import Derived.Test.YtmgeffgcihfpcaaDoorVFnExactAppendFileTab
import Derived.Test.YtmgeffgcihfpcaaDoorVFnExactAppendFileMore
import Derived.WalkKit
import Derived.Shelf.Strings.SlTrimAscii
import Derived.Test.YtmgeffgcihfpcaaDoorVFnExactAppendFileF
namespace Go.Proofs.YtmgeffgcihfpcaaDoor.LW
open Go.RowKit Go.Proofs.YtmgeffgcihfpcaaDoorW.PrintWords Go.Proofs.YtmgeffgcihfpcaaDoorW.PrintLast Go.Proofs.YtmgeffgcihfpcaaDoorW.PrintMore
set_option linter.unusedVariables false
set_option linter.unusedSimpArgs false
theorem St.grow {w0 w w1 : World} {l : List It} {i : It} (h : St w0 w l) (q : Nat) (hq : l[q]? = some i) (i' : It) (hF : ∀ k, i'.F k → i.F k ∨ (w.heap.size ≤ k ∧ k < w1.heap.size)) (hP : i'.P w1) (hB : Below w0.heap.size w0 w1) (hk : Kept w w1 i.F) : St w0 w1 (l.set q i') := by
  have hql : q < l.length := (List.getElem?_eq_some_iff.1 hq).1
  have hI := h.i.all i (List.mem_of_getElem? hq)
  have look : ∀ (m : Nat) (x : It), (l.set q i')[m]? = some x → (m = q ∧ x = i') ∨ (m ≠ q ∧ l[m]? = some x) := by
    intro m x hm
    by_cases e : m = q
    · subst e
      rw [List.getElem?_set_self hql] at hm
      exact .inl ⟨rfl, (Option.some.inj hm).symm⟩
    rw [List.getElem?_set_ne (Ne.symm e)] at hm
    exact .inr ⟨e, hm⟩
  refine ⟨hB, Its.of (fun m x hm => ?_) (fun m m' x y hlt hm hm' k hx hy => ?_)⟩
  · rcases look m x hm with ⟨_, rfl⟩ | ⟨e, hm⟩
    · refine ⟨fun k hkx => ?_, hP⟩
      rcases hF k hkx with h2 | h2
      · exact ⟨(hI.2 k h2).1, Nat.lt_of_lt_of_le (hI.2 k h2).2 hk.1⟩
      exact ⟨Nat.le_trans h.b.size h2.1, h2.2⟩
    have hX := h.i.all x (List.mem_of_getElem? hm)
    exact ⟨fun k hkx => ⟨(hX.2 k hkx).1, Nat.lt_of_lt_of_le (hX.2 k hkx).2 hk.1⟩, x.mv w w1 (fun k hkx => hk.2 k (hX.2 k hkx).2 (fun hi => Its.disj h.i m q x i e hm hq k hkx hi)) hX.1⟩
  rcases look m x hm with ⟨e, hxe⟩ | ⟨e, hm2⟩
  · rcases look m' y hm' with ⟨e', _⟩ | ⟨e', hm3⟩
    · omega
    rw [hxe] at hx
    rcases hF k hx with h2 | h2
    · exact Its.disj h.i m' q y i e' hm3 hq k hy h2
    have := ((h.i.all y (List.mem_of_getElem? hm3)).2 k hy).2
    omega
  rcases look m' y hm' with ⟨e', hye⟩ | ⟨e', hm3⟩
  · rw [hye] at hy
    rcases hF k hy with h2 | h2
    · exact Its.disj h.i m q x i e hm2 hq k hx h2
    have := ((h.i.all x (List.mem_of_getElem? hm2)).2 k hx).2
    omega
  exact Its.disj h.i m m' x y (by omega) hm2 hm3 k hx hy
end Go.Proofs.YtmgeffgcihfpcaaDoor.LW
namespace Go.Proofs.YtmgeffgcihfpcaaDoor.F
open Go.RowKit Go.Proofs.YtmgeffgcihfpcaaDoorW.PrintWords Go.Proofs.YtmgeffgcihfpcaaDoorW.PrintLast Go.Proofs.YtmgeffgcihfpcaaDoorW.PrintMore
open Go.Proofs.YtmgeffgcihfpcaaDoor
set_option linter.unusedVariables false
set_option linter.unusedSimpArgs false
theorem lendLoose {w0 w : World} {l : List LW.It} {g n c : Nat} {xs : List S74} {F : Nat → Prop} (h : LW.St w0 w l) (q : Nat) (hq : l[q]? = some (LW.row k74 74 w0.heap.size (.slice (some ⟨g, 0, none⟩) n c) xs F)) (i : Int) (h0 : 0 ≤ i) (h1 : i < n) :
    ∃ (u1 u2 : Value) (ok2 : Nat → Prop), w.cell? ⟨g, i.toNat * 3, none⟩ = some (.string (rd_T74 xs i).f0) ∧ w.cell? ⟨g, i.toNat * 3 + 1, none⟩ = some u1 ∧ w.cell? ⟨g, i.toNat * 3 + 2, none⟩ = some u2 ∧ w.frozen? ⟨g, i.toNat * 3 + 2, none⟩ = false ∧ Kd.R (Kd.int .u8) 5 w w0.heap.size ok2 u2 (rd_T74 xs i).f2 ∧ (∀ k, ok2 k → k ≠ g) ∧ (∀ k, u2.ownBlock = some k → F k) ∧
      ∀ (v1 : Value) (w1 : World) (zs : List Int), (∀ ok : Nat → Prop, (∀ k, v1.ownBlock = some k → ok k) → Kd.R (Kd.int .u8) 5 w1 w0.heap.size ok v1 zs) → Below w0.heap.size w0 w1 → w.grownBy w1 u2.ownBlock → (v1.ownBlock = u2.ownBlock ∨ ∃ b, v1.ownBlock = some b ∧ w.heap.size ≤ b) →
        LW.St w0 (w1.setCell ⟨g, i.toNat * 3 + 2, none⟩ v1) (l.set q (LW.row k74 74 w0.heap.size (.slice (some ⟨g, 0, none⟩) n c) (xs.set i.toNat ⟨(rd_T74 xs i).f0, (rd_T74 xs i).f1, zs⟩) (fun k => F k ∨ (w.heap.size ≤ k ∧ k < w1.heap.size)))) := by
  have hS := h.own q hq
  have hFg : F g := (Kd.S_R hS).1 g (by simp [Value.ownBlock])
  have hbg := (h.i.all _ (List.mem_of_getElem? hq)).2 g hFg
  obtain ⟨oki, cs, hcl, hM, hcc, hfr, hoki, hH⟩ := Kd.S_elem (Kd.S_mono hS (fun k hk => (.inl hk : F k ∨ w.heap.size ≤ k))) z74 i h0 h1
  obtain ⟨pp, u1, u2, rfl, hA1, hA2⟩ := k74_openA hM
  refine ⟨u1, u2, fun k => oki k ∧ ¬ pp k, hcc 0 _ rfl, hcc 1 _ rfl, hcc 2 _ rfl, hfr 2, hA2, fun k hk => (hoki k hk.1).2, fun k hk => ((hoki k (hA2.1 k hk).1).1).elim id (fun a => absurd (Kd.R_lt hA2 k hk) (by omega)), fun v1 w1 zs hR hB hg hat => ?_⟩
  have hu2 : ∀ k, u2.ownBlock = some k → oki k := fun k hk => (hA2.1 k hk).1
  have H1 := Kd.H_grown (Kd.H_widen hH) hg (fun k hk => .inl (hu2 k hk))
  have hR1 : Kd.R (Kd.int .u8) 5 w1 w0.heap.size (fun k => oki k ∨ w.heap.size ≤ k) u1 (xs.getD i.toNat z74).f1 := Kd.R_mono (Kd.R_step hA1 (fun k hk hlt => hg.block k hlt (fun he => (hA2.1 k he.symm).2 hk.2))) (fun k hk => .inl hk.1)
  have hR2 := hR (fun k => oki k ∨ w.heap.size ≤ k) (fun k hk => by
    rcases hat with e | ⟨b, e, hb⟩
    · exact .inl (hu2 k (e ▸ hk))
    rw [e] at hk
    injection hk with hk
    exact .inr (hk ▸ hb))
  have hne : ∀ k, some k = u1.ownBlock → ¬ some k = v1.ownBlock := fun k a b => by
    rcases hat with e | ⟨b', e, hb⟩
    · rw [e] at b
      exact (hA2.1 k b.symm).2 (hA1.1 k a.symm).2
    rw [e] at b
    injection b with b
    have := Kd.R_lt hA1 k a.symm
    omega
  have hM1 := k74_mkM w1 w0.heap.size (fun k => oki k ∨ w.heap.size ≤ k) (⟨(xs.getD i.toNat z74).f0, (xs.getD i.toNat z74).f1, zs⟩ : S74) hR1 hR2 hne
  have hP := Kd.S_seg (okg := fun _ => False) (seg := [v1]) (j := 2) (x' := (⟨(xs.getD i.toNat z74).f0, (xs.getD i.toNat z74).f1, zs⟩ : S74)) (Kd.H_mono H1 (fun k hk => (⟨hk, fun hf => hf⟩ : (F k ∨ w.heap.size ≤ k) ∧ ¬ False))) h0 h1 (show 2 + 1 ≤ 3 by decide) hM1 (fun k hk => hk.elim (fun a => .inl (.inl a)) (fun a => .inl (.inr ⟨.inr a, a⟩))) (fun k hk => hk.elim)
  have hPS : Kd.S k74 74 (w1.setCell ⟨g, i.toNat * 3 + 2, none⟩ v1) w0.heap.size (fun k => F k ∨ w.heap.size ≤ k) (.slice (some ⟨g, 0, none⟩) n c) (xs.set i.toNat ⟨(xs.getD i.toNat z74).f0, (xs.getD i.toNat z74).f1, zs⟩) := hP.1
  refine h.grow q hq (LW.row k74 74 w0.heap.size (.slice (some ⟨g, 0, none⟩) n c) (xs.set i.toNat ⟨(xs.getD i.toNat z74).f0, (xs.getD i.toNat z74).f1, zs⟩) (fun k => F k ∨ (w.heap.size ≤ k ∧ k < w1.heap.size))) (fun k hk => ?_) (Kd.S_mono (Kd.S_bound hPS) (fun k hk => ?_)) (Zg hB hbg.1) ⟨?_, fun k hk hn => ?_⟩
  · rw [LW.setCell_size]; exact hk
  · have h2 := hk.2.2.1
    rw [LW.setCell_size] at h2
    exact hk.1.elim .inl (fun a => .inr ⟨a, h2⟩)
  · rw [LW.setCell_size]; exact hg.size
  rw [Below.heap_setCell _ _ _ k (fun he => hn (by rw [he]; exact hFg))]
  exact hg.block k hk (fun he => hn (by
    have := hu2 k he.symm
    rcases (hoki k this).1 with a | a
    · exact a
    omega))
end Go.Proofs.YtmgeffgcihfpcaaDoor.F

namespace Go.Proofs.YtmgeffgcihfpcaaDoor.F
open Go.RowKit Go.Proofs.YtmgeffgcihfpcaaDoorW.PrintWords Go.Proofs.YtmgeffgcihfpcaaDoorW.PrintLast Go.Proofs.YtmgeffgcihfpcaaDoorW.PrintMore
set_option linter.unusedVariables false
set_option linter.unusedSimpArgs false
def PredF (g : Nat) (lb : Array Value) (p : ByteArray → Bool) (w : World) : Prop := ∀ w1 : World, Below w.heap.size w w1 → ∀ (s : ByteArray) (v1 v2 : Value), Calls Tryd.prog g (#[.agg #[.string s, v1, v2]] ++ lb) w1 fun e w' => e = .returned (.bool (p s)) ∧ Below w1.heap.size w1 w'
def idxF (p : ByteArray → Bool) : List S74 → Int → Int
  | [], _ => -1
  | x :: t, i => if p x.f0 = true then i else idxF p t (i + 1)
set_option maxHeartbeats 4000000 in
theorem indexFile.calls (g : Nat) (lb : Array Value) (p : ByteArray → Bool) (eg : ∀ args w, (callFunc g args).run Tryd.prog w = .ok (.enter g args) w) (A : Option Addr) (c : Nat) (l : List S74) (w : World) (hr : Kd.C k74 w A l.length l) (hl : l.length ≤ 9223372036854775807) (hp : PredF g lb p w) :
    Calls Tryd.prog 94 #[.slice A l.length c, .func (.func g) #[] lb] w fun e w' => e = .returned (.int .i64 (idxF p l 0)) ∧ Below w.heap.size w w' := by
  have HR0 := Zh hr
  clear hr
  have HP := Zh hp
  clear hp
  have hu74 := Tryd.underlying74
  go_enter Tryd.func94, Tryd.ntmps94
  go_wp2
  go_loopg [5, 8] l.length (fun gg _ v8 w' => ∃ kk : Nat, kk ≤ l.length ∧ l.length - kk ≤ gg ∧ v8 = .int .i64 kk ∧ Aside0 (Below w.heap.size w w') ∧ Aside0 (idxF p (l.drop kk) kk = idxF p l 0))
  case atStart => exact ⟨0, Nat.zero_le _, by omega, rfl, ⟨Below.refl _ _⟩, ⟨rfl⟩⟩
  case round =>
    obtain ⟨kk, hkk, hg, rfl, HB, HA⟩ := hrel
    by_cases hlt : kk < l.length
    · have hltz : (kk : Int) < (l.length : Int) := by omega
      obtain ⟨ad, A1, c1, A2, c2, e, hx0, hx1, hx2, _, _, _, _⟩ := at_T74 HR0.out (kk : Int) (by omega) (by omega)
      cases e
      replace hx0 := (HB.out.cell (Zi w _ hx0)).trans hx0
      replace hx1 := (HB.out.cell (Zi w _ hx1)).trans hx1
      replace hx2 := (HB.out.cell (Zi w _ hx2)).trans hx2
      rw [Int.toNat_natCast] at hx0 hx1 hx2
      have hrd : rd_T74 l (kk : Int) = l[kk] := by simp [rd_T74, List.getD_eq_getElem?_getD, List.getElem?_eq_getElem hlt]
      have hA := HA.out
      rw [List.drop_eq_getElem_cons hlt] at hA
      rw [hrd] at hx0 hx1 hx2
      clear HA hrd
      generalize l[kk] = y at hx0 hx1 hx2 hA
      have hcall := HP.out wr HB.out y.f0 (.slice A1 y.f1.length c1) (.slice A2 y.f2.length c2)
      cases hq : p y.f0 with
      | true =>
        simp only [idxF, hq, if_true] at hA
        rw [hq] at hcall
        have HA := Zh hA
        clear hA
        go_wp2_with (go_at_fn g; refine hcall.mono ?_; rintro e w' ⟨rfl, hb⟩; replace HB := Zh (Zl HB.out hb); clear hb)
        go_ret
        exact ⟨by rw [← HA.out]; rfl, HB.out⟩
      | false =>
        simp only [idxF, hq, Bool.false_eq_true, if_false] at hA
        rw [hq] at hcall
        have HA := Zh hA
        clear hA
        go_wp2_with (go_at_fn g; refine hcall.mono ?_; rintro e w' ⟨rfl, hb⟩; replace HB := Zh (Zl HB.out hb); clear hb)
        go_roundg (l.length - (kk + 1))
        case measure => omega
        case rel => exact ⟨kk + 1, by omega, by omega, by go_num, HB, ⟨by have := HA.out; simpa using this⟩⟩
    have hltz : ¬ (kk : Int) < (l.length : Int) := by omega
    have : kk = l.length := by omega
    subst this
    go_wp2
    go_ret
    refine ⟨?_, HB.out⟩
    rw [← HA.out, List.drop_length]
    rfl
set_option maxHeartbeats 4000000 in
theorem fileOf1.pred (B : Nat) (name : ByteArray) (w : World) (hb : w.cell? ⟨B, 0, none⟩ = some (.string name)) : PredF 95 #[.pointer (some ⟨B, 0, none⟩)] (fun s => s.toList == name.toList) w := by
  intro w1 hB s v1 v2
  have hlt := Nat.lt_of_lt_of_le (Zi w _ hb) hB.size
  have hx := (hB.cell (Zi w _ hb)).trans hb
  clear hb hB
  have hu74 := Tryd.underlying74
  have hlt2 : B < w1.heap.size := hlt
  clear hlt
  go_enter Tryd.func95, Tryd.ntmps95
  go_wp2
  go_ret
  exact ⟨rfl, Zf (Below.refl _ _) _⟩
def impl_fileOf.f (l0_0 : List S74) (a1 : ByteArray) : Option Int := if l0_0.length ≤ 9223372036854775807 then some (idxF (fun s => s.toList == a1.toList) l0_0 0) else none
set_option maxHeartbeats 4000000 in
theorem impl_fileOf.calls (A0_0 : Option Addr) (c0_0 : Nat) (l0_0 : List S74) (a1 : ByteArray) (r : Int) (w : World) (hr0_0 : Kd.C k74 w A0_0 l0_0.length l0_0) (hc0_0 : l0_0.length ≤ c0_0) (h : impl_fileOf.f l0_0 a1 = some r) :
    Calls Tryd.prog 63 #[.agg #[.slice A0_0 l0_0.length c0_0], .string a1] w fun e w' => e = .returned (.int .i64 r) ∧ Below w.heap.size w w' := by
  unfold impl_fileOf.f at h
  split at h
  · rename_i hl
    have h := Option.some.inj h
    subst h
    have HR := Zh hr0_0
    have HL := Zh hl
    clear hr0_0 hl
    have e6 : ∀ args w, (callFunc 94 args).run Tryd.prog w = .ok (.enter 94 args) w := enters_of Tryd.func94 (by kernel_rfl) rfl
    have e7 : ∀ args w, (callFunc 95 args).run Tryd.prog w = .ok (.enter 95 args) w := enters_of Tryd.func95 (by kernel_rfl) rfl
    have hmf : ∀ (fn : Fn) (first cap : Array Value) (w : World), (Instr.makeFunc fn first cap).run Tryd.prog w = .ok (.func fn first cap) w := fun _ _ _ _ => rfl
    have hcall := indexFile.calls 95 #[.pointer (some ⟨w.heap.size + 1, 0, none⟩)] (fun s => s.toList == a1.toList) e7 A0_0 c0_0 l0_0 ((w.alloc (.cells #[.slice A0_0 l0_0.length c0_0] 29)).alloc (.cells #[.string a1] 9)) (Kd.C_alloc (Kd.C_alloc HR.out _) _) HL.out (fileOf1.pred _ _ _ (by simp))
    go_enter Tryd.func63, Tryd.ntmps63
    go_wp2_with (go_at_fn 94; refine hcall.mono ?_; rintro e w' ⟨rfl, hb⟩)
    go_ret
    exact ⟨rfl, Zl (Zf (Zf (Below.refl _ _) _) _) hb⟩
  cases h
end Go.Proofs.YtmgeffgcihfpcaaDoor.F

namespace Go.Proofs.YtmgeffgcihfpcaaDoor.SQ
open Go.RowKit Go.Proofs.YtmgeffgcihfpcaaDoorW.PrintWords Go.Proofs.YtmgeffgcihfpcaaDoorW.PrintLast Go.Proofs.YtmgeffgcihfpcaaDoorW.PrintMore
section
variable {P : Program} {md : Region.Mode} {ops : Array Oper} {ds : List Nat} {S : World → Prop} {Q : Exit → Act → World → Prop} {oi : Oper} {v : Value} {fuel : Nat} {l : Array Bool} {a a' : Act} {w : World} {T : Bool × List (List Nat × List Nat)} {B : List Nat}
theorem pu (i N : Nat) (hT : Aside0 (rtab md ops = T)) (h : wpAnyLast P md ops Q S ds fuel (l.setIfInBounds i true) a' w)
    (hk : anyT T l.toList (l.setIfInBounds i true).toList i = true := by kernel_rfl) (hi : ops[i]? = some oi := by rfl) (hN : oi.dst = some N := by rfl) (hQ : ∀ c a w, Q (.panic c) (a.put oi.dst v) w → Q (.panic c) a w := by exact fun _ _ _ h => h)
    (hw : Region.wanted oi (yielded ops a.tmps) = true := by rfl) (hv : ∀ w', (execOp a.eval oi).run P w' = .ok (.value v) w' := by intro w'; go_simp; with_reducible rfl)
    (ha : a.put (some N) v = a' := by simp only [Act.put, List.setIfInBounds_toArray, List.set_cons_zero, List.set_cons_succ, i64_w, i32_w]; rfl) : wpAnyLast P md ops Q S ds (fuel + 1) l a w :=
  pure_ (l.setIfInBounds i true) hi hN (any_of hT.out hk) hQ (.inl ⟨hw, hv⟩) ha h
theorem of (i N : Nat) (hT : Aside0 (rtab md ops = T)) (h : wpAnyLast P md ops Q S ds fuel (l.setIfInBounds i true) a' w)
    (hk : anyT T l.toList (l.setIfInBounds i true).toList i = true := by kernel_rfl) (hi : ops[i]? = some oi := by rfl) (hN : oi.dst = some N := by rfl) (hQ : ∀ c a w, Q (.panic c) (a.put oi.dst undef) w → Q (.panic c) a w := by exact fun _ _ _ h => h)
    (hw : Region.wanted oi (yielded ops a.tmps) = false := by rfl)
    (ha : a.put (some N) undef = a' := by simp only [Act.put, List.setIfInBounds_toArray, List.set_cons_zero, List.set_cons_succ, i64_w, i32_w]; rfl) : wpAnyLast P md ops Q S ds (fuel + 1) l a w :=
  pure_ (l.setIfInBounds i true) hi hN (any_of hT.out hk) hQ (.inr ⟨hw, rfl⟩) ha h
theorem tk (i N : Nat) (hT : Aside0 (rtab md ops = T)) (hB : Aside0 (waitsOk T.2 B = true)) (hS : S w) (h : wpAnyLast P md ops Q S ds fuel (l.setIfInBounds i true) a' w)
    (hk : takeW T B ds l.toList (l.setIfInBounds i true).toList i = true := by kernel_rfl) (hi : ops[i]? = some oi := by rfl) (hN : oi.dst = some N := by rfl) (hQ : ∀ c a w, Q (.panic c) (a.put oi.dst v) w → Q (.panic c) a w := by exact fun _ _ _ h => h)
    (hw : Region.wanted oi (yielded ops a.tmps) = true := by rfl) (hv : ∀ w', S w' → (execOp a.eval oi).run P w' = .ok (.value v) w' := by intro w' hs_; go_simp; with_reducible rfl)
    (ha : a.put (some N) v = a' := by simp only [Act.put, List.setIfInBounds_toArray, List.set_cons_zero, List.set_cons_succ, i64_w, i32_w]; rfl) : wpAnyLast P md ops Q S ds (fuel + 1) l a w :=
  take_ (l.setIfInBounds i true) hi hN (take_ofW hT.out hB.out hk) hQ (.inl ⟨hw, hv⟩) hS ha h
end
end Go.Proofs.YtmgeffgcihfpcaaDoor.SQ

namespace Go.Proofs.YtmgeffgcihfpcaaDoor.F
open Go.Proofs.YtmgeffgcihfpcaaDoor
open Go.RowKit Go.Proofs.YtmgeffgcihfpcaaDoorW.PrintWords Go.Proofs.YtmgeffgcihfpcaaDoorW.PrintWords.Kd Go.Proofs.YtmgeffgcihfpcaaDoorW.PrintMore.Kd Go.Proofs.YtmgeffgcihfpcaaDoorW.PrintLast Go.Proofs.YtmgeffgcihfpcaaDoorW.PrintMore
attribute [local go_sem] max2_int min2_int max_two min_two max_three min_three max_four min_four   -- for this text's walks alone
set_option linter.unusedVariables false
set_option linter.unusedSimpArgs false
def impl_copyDisk.l0 : Nat → List (S74) → Int → Int → List (S74) → Option ((List (S74)))
 | 0, _, _, _, _ => none
 | k + 1, x8, x9, x10, x266000 => if x10 < x9 then (if 0 ≤ x10 then (if x10 < (x8.length : Int) then ((some (([] : List Int) : List Int)).bind fun y268 => (if y268.length + ((rd_T74 x8 x10).f1).length < 140737488355328 then ((some (([] : List Int) : List Int)).bind fun y274 => (if y274.length + ((rd_T74 x8 x10).f2).length < 140737488355328 then (if x266000.length < 2199023255552 then (impl_copyDisk.l0 k x8 x9 (wrap64 (x10 + 1)) (x266000 ++ [(⟨(rd_T74 x8 x10).f0, (y268 ++ ((rd_T74 x8 x10).f1)), (y274 ++ ((rd_T74 x8 x10).f2))⟩ : S74)])) else (none)) else (none))) else (none))) else (none)) else (none)) else (some x266000)
def impl_copyDisk.f (k : Nat) (l0_0 : List (S74)) : Option ((List (S74))) := impl_copyDisk.l0 k l0_0 (l0_0.length : Int) 0 ([] : List (S74))
def impl_copyDisk.T5 : Bool × List (List Nat × List Nat) := (true, [([], []), ([0], [0]), ([], []), ([2], [2]), ([], []), ([], []), ([5], [5]), ([4, 6], [4, 6]), ([], []), ([], []), ([9], [9]), ([8, 10, 7], [8, 10]), ([3, 7, 11], [3, 7, 11]), ([12], [12]), ([1, 13, 11], [1, 13]), ([0, 1, 2, 3, 4, 5, 6, 7, 8, 9, 10, 11, 12, 13, 14], []), ([15, 14, 14, 0, 1, 2, 3, 4, 5, 6, 7, 8, 9, 10, 11, 12, 13, 14], [14, 15])])
def impl_copyDisk.B5 : List Nat := [0, 1, 0, 4, 0, 0, 32, 112, 0, 0, 512, 2032, 4092, 8188, 16383, 32767, 65535]
theorem impl_copyDisk.tab5 : rtab .any (opsOf Tryd.f76 5) = impl_copyDisk.T5 := by kernel_rfl
theorem impl_copyDisk.bits5 : waitsOk impl_copyDisk.T5.2 impl_copyDisk.B5 = true := by kernel_rfl
set_option maxHeartbeats 8000000 in
set_option maxRecDepth 100000 in
theorem impl_copyDisk.calls (k : Nat) (A0_0 : Option Addr) (c0_0 : Nat) (l0_0 : List (S74)) (r : List (S74)) (w : World) (hr0_0 : Kd.C k74 w A0_0 l0_0.length l0_0) (hc0_0 : l0_0.length ≤ c0_0) (h : impl_copyDisk.f k l0_0 = some r) :
  Calls Tryd.prog 76 #[.agg #[.slice A0_0 l0_0.length c0_0]] w fun e w' => ∃ v0_ : Value, e = .returned (.agg #[v0_]) ∧ Kd.S k74 74 w' w.heap.size (fun _ => True) v0_ r ∧ Below w.heap.size w w' := by
 have hu29 := Tryd.underlying29
 have hu74 := Tryd.underlying74
 have HR0_0 := Zh hr0_0
 have HC0_0 := Zh hc0_0
 clear hr0_0 hc0_0
 have HB := Zh (Below.refl w.heap.size w)
 have H : (impl_copyDisk.l0 k l0_0 (l0_0.length : Int) 0 ([] : List (S74))) = some r := h
 clear h
 have H' := Zh H
 clear H
 go_enter Tryd.func76, Tryd.ntmps76
 go_wp2_with (first | ((with_reducible refine gate_dst (N := 1) rfl ?_); refine box_event ?hg (N := 1) ?hd (cs := #[.slice A0_0 l0_0.length c0_0]) (t := 29) ?hr ?_; (case hd => rfl); (case hg => rfl); (case hr => first | (go_simp; done) | (go_simp; rfl)); intro gb263 hg w2 hbox hb; have n0_ := Zh (Zl Zs hb); have n1_ := Zh (hbox); have n2_ := Zh ((by rw [hg]; exact (below_size Zs) : w.heap.size ≤ gb263)); have n3_ := Zh ((by rw [hg]; exact (below_size Zs) : w.heap.size ≤ gb263)); clear HB; have HB := n0_; have BK263 := n1_; have GW263 := n2_; have GE263 := n3_; clear n0_ n1_ n2_ n3_; clear hb hbox hg) | ((with_reducible refine gate_dst (N := 2) rfl ?_); refine box_event ?hg (N := 2) ?hd (cs := #[.slice none 0 0]) (t := 29) ?hr ?_; (case hd => rfl); (case hg => rfl); (case hr => first | (go_simp; done) | (go_simp; rfl)); intro gb264 hg w3 hbox hb; have n0_ := Zh (Zm (g := gb263) (o := .cells #[.slice A0_0 l0_0.length c0_0] 29 (0, 0)) Zk hb); have n1_ := Zh (Zl Zs hb); have n2_ := Zh (hbox); have n3_ := Zh ((by rw [hg]; exact (below_size Zs) : w.heap.size ≤ gb264)); have n4_ := Zh ((by rw [hg]; exact (below_size Zs) : w.heap.size ≤ gb264)); have n5_ := Zh ((by rw [hg]; exact Nat.ne_of_lt (blk_lt (g := gb263) (o := .cells #[.slice A0_0 l0_0.length c0_0] 29 (0, 0)) Zk) : gb263 ≠ gb264)); have n6_ := Zh ((by rw [hg]; exact Nat.ne_of_gt (blk_lt (g := gb263) (o := .cells #[.slice A0_0 l0_0.length c0_0] 29 (0, 0)) Zk) : gb264 ≠ gb263)); clear BK263; clear HB; have BK263 := n0_; have HB := n1_; have BK264 := n2_; have GW264 := n3_; have GE264 := n4_; have NB263_264 := n5_; have NB264_263 := n6_; clear n0_ n1_ n2_ n3_ n4_ n5_ n6_; clear hb hbox hg) | ((with_reducible refine gate_dst (N := 3) rfl ?_); refine box_event ?hg (N := 3) ?hd (cs := #[.slice none 0 0]) (t := 29) ?hr ?_; (case hd => rfl); (case hg => rfl); (case hr => first | (go_simp; done) | (go_simp; rfl)); intro gb265 hg w4 hbox hb; have n0_ := Zh (Zm (g := gb263) (o := .cells #[.slice A0_0 l0_0.length c0_0] 29 (0, 0)) Zk hb); have n1_ := Zh (Zm (g := gb264) (o := .cells #[.slice none 0 0] 29 (0, 0)) Zk hb); have n2_ := Zh (Zl Zs hb); have n3_ := Zh (hbox); have n4_ := Zh ((by rw [hg]; exact (below_size Zs) : w.heap.size ≤ gb265)); have n5_ := Zh ((by rw [hg]; exact (below_size Zs) : w.heap.size ≤ gb265)); have n6_ := Zh ((by rw [hg]; exact Nat.ne_of_lt (blk_lt (g := gb263) (o := .cells #[.slice A0_0 l0_0.length c0_0] 29 (0, 0)) Zk) : gb263 ≠ gb265)); have n7_ := Zh ((by rw [hg]; exact Nat.ne_of_gt (blk_lt (g := gb263) (o := .cells #[.slice A0_0 l0_0.length c0_0] 29 (0, 0)) Zk) : gb265 ≠ gb263)); have n8_ := Zh ((by rw [hg]; exact Nat.ne_of_lt (blk_lt (g := gb264) (o := .cells #[.slice none 0 0] 29 (0, 0)) Zk) : gb264 ≠ gb265)); have n9_ := Zh ((by rw [hg]; exact Nat.ne_of_gt (blk_lt (g := gb264) (o := .cells #[.slice none 0 0] 29 (0, 0)) Zk) : gb265 ≠ gb264)); clear BK263; clear BK264; clear HB; have BK263 := n0_; have BK264 := n1_; have HB := n2_; have BK265 := n3_; have GW265 := n4_; have GE265 := n5_; have NB263_265 := n6_; have NB265_263 := n7_; have NB264_265 := n8_; have NB265_264 := n9_; clear n0_ n1_ n2_ n3_ n4_ n5_ n6_ n7_ n8_ n9_; clear hb hbox hg; have hnb5 := NB265_263.out; have hnc5 := NB263_265.out; have hnb6 := NB265_264.out; have hnc6 := NB264_265.out; have hcz7_0 : w4.cell? ⟨gb265, 0, none⟩ = some (.slice none 0 0) := (blk_cell BK265.out 0).trans rfl; have hfz7_0 := Zn BK265.out 0; have hnb8 := NB263_264.out; have hnc8 := NB264_263.out; have hcz9_0 : w4.cell? ⟨gb263, 0, none⟩ = some (.slice A0_0 l0_0.length c0_0) := (blk_cell BK263.out 0).trans rfl; have hfz9_0 := Zn BK263.out 0))
 go_loopg [10] k (fun kq v10 w' => ∃ (x10_1 : Int) (x266000_1 : List (S74)) (u266000 : Value), v10 = .int .i64 x10_1 ∧ Aside0 (impl_copyDisk.l0 kq l0_0 (l0_0.length : Int) x10_1 x266000_1 = some r) ∧ Aside0 (kq ≤ k) ∧ Aside0 (Kd.S k74 74 w' w.heap.size (fun _ => True) u266000 x266000_1) ∧ Aside0 (w'.heap[gb263]? = some (.cells #[(.slice A0_0 l0_0.length c0_0)] 29 (0, 0))) ∧ Aside0 (w'.heap[gb264]? = some (.cells #[(.slice none 0 0)] 29 (0, 0))) ∧ Aside0 (w'.heap[gb265]? = some (.cells #[u266000] 29 (0, 0))) ∧ Aside0 (Below w.heap.size w w'))
 case atStart => exact ⟨(0), (([] : List (S74))), (.slice none 0 0), (by first | rfl | (simp; done) | (simp [*]; done)), H', ⟨Nat.le_refl _⟩, ⟨by first | exact S_nil _ _ _ _ _ | exact N_nil _ _ _ _ _ | exact V_nil _ _ _ _ _ | exact Q_nil _ _ _ _ _ | exact R_nil _ _ _ _ _⟩, ⟨by (with_reducible repeat (first | refine Za ?_ _ | refine Zb ?_ | refine blk_alloc ?_ _)); refine Zp ?_ NB263_265.out _; (with_reducible repeat (first | refine Za ?_ _ | refine Zb ?_ | refine blk_alloc ?_ _)); exact BK263.out⟩, ⟨by (with_reducible repeat (first | refine Za ?_ _ | refine Zb ?_ | refine blk_alloc ?_ _)); refine Zp ?_ NB264_265.out _; (with_reducible repeat (first | refine Za ?_ _ | refine Zb ?_ | refine blk_alloc ?_ _)); exact BK264.out⟩, ⟨by (with_reducible repeat (first | refine Za ?_ _ | refine Zb ?_ | refine blk_alloc ?_ _)); refine blk_put (cs := #[.slice none 0 0]) ?_ 0 _ rfl; (with_reducible repeat (first | refine Za ?_ _ | refine Zb ?_ | refine blk_alloc ?_ _)); exact BK265.out⟩, ⟨by repeat (first | (with_reducible first | exact HB.out | apply Zf | apply Zd | apply Ze | refine Zg ?_ GE263.out | refine Zg ?_ GE264.out | refine Zg ?_ GE265.out) | exact HB.out)⟩⟩
 case round =>
  clear H'
  try clear p2
  try clear c5
  try clear c6
  try clear c7
  try clear c8
  try clear hcz7_0
  try clear hcz9_0
  try clear hfz7_0
  try clear hfz9_0
  obtain ⟨x10_1, x266000_1, u266000, rfl, HA, HK1, HO_266000, BK263, BK264, BK265, HB⟩ := hrel
  cases gk with
  | zero => exact absurd HA.out (by simp [impl_copyDisk.l0])
  | succ k1 =>
   have H := HA.out
   clear HA
   simp only [impl_copyDisk.l0] at H
   by_cases c10 : x10_1 < (l0_0.length : Int)
   ·
    rw [if_pos c10] at H
    have c10b0 : decide (x10_1 < (l0_0.length : Int)) = true := decide_eq_true c10
    clear c10
    by_cases c11 : 0 ≤ x10_1
    ·
     rw [if_pos c11] at H
     have c11b0 : decide (0 ≤ x10_1) = true := decide_eq_true c11
     clear c11
     by_cases c12 : x10_1 < (l0_0.length : Int)
     ·
      rw [if_pos c12] at H
      have c12b0 : decide (x10_1 < (l0_0.length : Int)) = true := decide_eq_true c12
      clear c12
      obtain ⟨y268, hy268⟩ : ∃ y_ : List Int, y_ = (([] : List Int)) := ⟨_, rfl⟩
      replace H : (if y268.length + ((rd_T74 l0_0 x10_1).f1).length < 140737488355328 then ((some (([] : List Int) : List Int)).bind fun y274 => (if y274.length + ((rd_T74 l0_0 x10_1).f2).length < 140737488355328 then (if x266000_1.length < 2199023255552 then (impl_copyDisk.l0 k1 l0_0 (l0_0.length : Int) (wrap64 (x10_1 + 1)) (x266000_1 ++ [(⟨(rd_T74 l0_0 x10_1).f0, (y268 ++ ((rd_T74 l0_0 x10_1).f1)), (y274 ++ ((rd_T74 l0_0 x10_1).f2))⟩ : S74)])) else (none)) else (none))) else (none)) = some r := by first | (rw [hy268]; with_reducible exact H) | (have H2_ := (Option.bind_some _ _).symm.trans H; rw [hy268]; with_reducible exact H2_) | (have H2_ := (Option.bind_some _ _).symm.trans H; with_reducible exact H2_) | with_reducible exact H | (rw [hy268]; exact H) | exact H
      have Ny268 := Zh hy268
      clear hy268
      by_cases c13 : y268.length + ((rd_T74 l0_0 x10_1).f1).length < 140737488355328
      ·
       rw [if_pos c13] at H
       have LMc13 := Zh c13
       clear c13
       obtain ⟨y271, hy271⟩ : ∃ y_ : List Int, y_ = (y268 ++ ((rd_T74 l0_0 x10_1).f1)) := ⟨_, rfl⟩
       replace H : ((some (([] : List Int) : List Int)).bind fun y274 => (if y274.length + ((rd_T74 l0_0 x10_1).f2).length < 140737488355328 then (if x266000_1.length < 2199023255552 then (impl_copyDisk.l0 k1 l0_0 (l0_0.length : Int) (wrap64 (x10_1 + 1)) (x266000_1 ++ [(⟨(rd_T74 l0_0 x10_1).f0, y271, (y274 ++ ((rd_T74 l0_0 x10_1).f2))⟩ : S74)])) else (none)) else (none))) = some r := by first | (rw [hy271]; with_reducible exact H) | (have H2_ := (Option.bind_some _ _).symm.trans H; rw [hy271]; with_reducible exact H2_) | (have H2_ := (Option.bind_some _ _).symm.trans H; with_reducible exact H2_) | with_reducible exact H | (rw [hy271]; exact H) | exact H
       have Ny271 := Zh hy271
       clear hy271
       obtain ⟨y274, hy274⟩ : ∃ y_ : List Int, y_ = (([] : List Int)) := ⟨_, rfl⟩
       replace H : (if y274.length + ((rd_T74 l0_0 x10_1).f2).length < 140737488355328 then (if x266000_1.length < 2199023255552 then (impl_copyDisk.l0 k1 l0_0 (l0_0.length : Int) (wrap64 (x10_1 + 1)) (x266000_1 ++ [(⟨(rd_T74 l0_0 x10_1).f0, y271, (y274 ++ ((rd_T74 l0_0 x10_1).f2))⟩ : S74)])) else (none)) else (none)) = some r := by first | (rw [hy274]; with_reducible exact H) | (have H2_ := (Option.bind_some _ _).symm.trans H; rw [hy274]; with_reducible exact H2_) | (have H2_ := (Option.bind_some _ _).symm.trans H; with_reducible exact H2_) | with_reducible exact H | (rw [hy274]; exact H) | exact H
       have Ny274 := Zh hy274
       clear hy274
       by_cases c14 : y274.length + ((rd_T74 l0_0 x10_1).f2).length < 140737488355328
       ·
        rw [if_pos c14] at H
        have LMc14 := Zh c14
        clear c14
        obtain ⟨y277, hy277⟩ : ∃ y_ : List Int, y_ = (y274 ++ ((rd_T74 l0_0 x10_1).f2)) := ⟨_, rfl⟩
        replace H : (if x266000_1.length < 2199023255552 then (impl_copyDisk.l0 k1 l0_0 (l0_0.length : Int) (wrap64 (x10_1 + 1)) (x266000_1 ++ [(⟨(rd_T74 l0_0 x10_1).f0, y271, y277⟩ : S74)])) else (none)) = some r := by first | (rw [hy277]; with_reducible exact H) | (have H2_ := (Option.bind_some _ _).symm.trans H; rw [hy277]; with_reducible exact H2_) | (have H2_ := (Option.bind_some _ _).symm.trans H; with_reducible exact H2_) | with_reducible exact H | (rw [hy277]; exact H) | exact H
        have Ny277 := Zh hy277
        clear hy277
        by_cases c15 : x266000_1.length < 2199023255552
        ·
         rw [if_pos c15] at H
         have LMc15 := Zh c15
         clear c15
         obtain ⟨y280, hy280⟩ : ∃ y_ : List (S74), y_ = (x266000_1 ++ [(⟨(rd_T74 l0_0 x10_1).f0, y271, y277⟩ : S74)]) := ⟨_, rfl⟩
         replace H : (impl_copyDisk.l0 k1 l0_0 (l0_0.length : Int) (wrap64 (x10_1 + 1)) y280) = some r := by first | (rw [hy280]; with_reducible exact H) | (have H2_ := (Option.bind_some _ _).symm.trans H; rw [hy280]; with_reducible exact H2_) | (have H2_ := (Option.bind_some _ _).symm.trans H; with_reducible exact H2_) | with_reducible exact H | (rw [hy280]; exact H) | exact H
         have Ny280 := Zh hy280
         clear hy280
         have H' := Zh H
         clear H
         have p266 : 0 ≤ (x10_1 : Int) := Zo
         have q266 : x10_1 < (l0_0.length : Int) := Zo
         obtain ⟨ad266, A266_1, c266_1, A266_2, c266_2, e266, hx266_0, hx266_1, hx266_2, hl266_1, hi266_1, hl266_2, hi266_2⟩ := at_T74 HR0_0.out x10_1 p266 q266
         cases e266
         replace hx266_0 := Zc HB.out hx266_0
         replace hx266_1 := Zc HB.out hx266_1
         replace hx266_2 := Zc HB.out hx266_2
         have HR266_1 := Zh hi266_1
         have HC266_1 := Zh hl266_1
         clear hi266_1 hl266_1
         have HR266_2 := Zh hi266_2
         have HC266_2 := Zh hl266_2
         clear hi266_2 hl266_2
         replace p266 := eq_true p266
         replace q266 := eq_true q266
         try go_wp2_with (first | ((with_reducible refine gate_dst (N := 5) rfl ?_); refine box_event ?hg (N := 5) ?hd (cs := #[.string (⟨#[]⟩ : ByteArray), .slice none 0 0, .slice none 0 0]) (t := 74) ?hr ?_; (case hd => rfl); (case hg => rfl); (case hr => first | (go_simp; done) | (go_simp; rfl)); intro gb267 hg w16 hbox hb; have n0_ := Zh (S_below (S_elderB (by (with_reducible repeat (first | apply S_alloc | apply S_drewN | apply S_drew)); exact HO_266000.out) gb267 (Nat.le_of_eq hg.symm)) hb); have n1_ := Zh (Zm (g := gb263) (o := .cells #[.slice (some ad266) l0_0.length c0_0] 29 (0, 0)) Zk hb); have n2_ := Zh (Zm (g := gb264) (o := .cells #[.slice none 0 0] 29 (0, 0)) Zk hb); have n3_ := Zh (Zm (g := gb265) (o := .cells #[u266000] 29 (0, 0)) Zk hb); have n4_ := Zh (Zl Zs hb); have n5_ := Zh (hbox); have n6_ := Zh ((by rw [hg]; exact (below_size Zs) : w.heap.size ≤ gb267)); have n7_ := Zh ((by rw [hg]; exact (below_size Zs) : w.heap.size ≤ gb267)); have n8_ := Zh ((by rw [hg]; exact Nat.ne_of_lt (blk_lt (g := gb263) (o := .cells #[.slice (some ad266) l0_0.length c0_0] 29 (0, 0)) Zk) : gb263 ≠ gb267)); have n9_ := Zh ((by rw [hg]; exact Nat.ne_of_gt (blk_lt (g := gb263) (o := .cells #[.slice (some ad266) l0_0.length c0_0] 29 (0, 0)) Zk) : gb267 ≠ gb263)); have n10_ := Zh ((by rw [hg]; exact Nat.ne_of_lt (blk_lt (g := gb264) (o := .cells #[.slice none 0 0] 29 (0, 0)) Zk) : gb264 ≠ gb267)); have n11_ := Zh ((by rw [hg]; exact Nat.ne_of_gt (blk_lt (g := gb264) (o := .cells #[.slice none 0 0] 29 (0, 0)) Zk) : gb267 ≠ gb264)); have n12_ := Zh ((by rw [hg]; exact Nat.ne_of_lt (blk_lt (g := gb265) (o := .cells #[u266000] 29 (0, 0)) Zk) : gb265 ≠ gb267)); have n13_ := Zh ((by rw [hg]; exact Nat.ne_of_gt (blk_lt (g := gb265) (o := .cells #[u266000] 29 (0, 0)) Zk) : gb267 ≠ gb265)); clear HO_266000; clear BK263; clear BK264; clear BK265; clear HB; have HO_266000 := n0_; have BK263 := n1_; have BK264 := n2_; have BK265 := n3_; have HB := n4_; have BK267 := n5_; have GW267 := n6_; have GE267 := n7_; have NB263_267 := n8_; have NB267_263 := n9_; have NB264_267 := n10_; have NB267_264 := n11_; have NB265_267 := n12_; have NB267_265 := n13_; clear n0_ n1_ n2_ n3_ n4_ n5_ n6_ n7_ n8_ n9_ n10_ n11_ n12_ n13_; clear hb hbox hg; have hnb17 := NB267_263.out; have hnc17 := NB263_267.out; have hnb18 := NB267_264.out; have hnc18 := NB264_267.out; have hnb19 := NB267_265.out; have hnc19 := NB265_267.out; have hcz20_0 : w16.cell? ⟨gb267, 0, none⟩ = some (.string (⟨#[]⟩ : ByteArray)) := (blk_cell BK267.out 0).trans rfl; have hcz20_1 : w16.cell? ⟨gb267, 1, none⟩ = some (.slice none 0 0) := (blk_cell BK267.out 1).trans rfl; have hcz20_2 : w16.cell? ⟨gb267, 2, none⟩ = some (.slice none 0 0) := (blk_cell BK267.out 2).trans rfl; have hfz20_0 := Zn BK267.out 0; have hfz20_1 := Zn BK267.out 1; have hfz20_2 := Zn BK267.out 2; obtain ⟨Ao21, co21, eo21⟩ := S_slice HO_266000.out; subst eo21))
         have n0_ : Aside0 (Kd.S k74 74 (((w16.setCell ⟨gb267, 0, none⟩ (.string ((rd_T74 l0_0 x10_1).f0))).setCell ⟨gb267, 1, none⟩ (.slice A266_1 ((rd_T74 l0_0 x10_1).f1).length c266_1)).setCell ⟨gb267, 2, none⟩ (.slice A266_2 ((rd_T74 l0_0 x10_1).f2).length c266_2)) w.heap.size (fun k_ => k_ ≠ gb267) (.slice Ao21 x266000_1.length co21) x266000_1) := ⟨by (with_reducible repeat (first | apply S_alloc | apply S_drewN | apply S_drew)); exact S_mono (S_far (p := ⟨gb267, 2, none⟩) (S_far (p := ⟨gb267, 1, none⟩) (S_far (p := ⟨gb267, 0, none⟩) (S_mono HO_266000.out (fun k_ hk => (⟨hk, hk.2⟩ : _ ∧ k_ ≠ gb267))) (fun _ hk => hk.2) (.string ((rd_T74 l0_0 x10_1).f0))) (fun _ hk => hk.2) (.slice A266_1 ((rd_T74 l0_0 x10_1).f1).length c266_1)) (fun _ hk => hk.2) (.slice A266_2 ((rd_T74 l0_0 x10_1).f2).length c266_2)) (fun _ hk => hk.1.2)⟩
         have n1_ : Aside0 ((((w16.setCell ⟨gb267, 0, none⟩ (.string ((rd_T74 l0_0 x10_1).f0))).setCell ⟨gb267, 1, none⟩ (.slice A266_1 ((rd_T74 l0_0 x10_1).f1).length c266_1)).setCell ⟨gb267, 2, none⟩ (.slice A266_2 ((rd_T74 l0_0 x10_1).f2).length c266_2)).heap[gb263]? = some (.cells #[.slice (some ad266) l0_0.length c0_0] 29 (0, 0))) := ⟨by (with_reducible repeat (first | refine Za ?_ _ | refine Zb ?_ | refine blk_alloc ?_ _)); refine Zp ?_ NB263_267.out _; (with_reducible repeat (first | refine Za ?_ _ | refine Zb ?_ | refine blk_alloc ?_ _)); refine Zp ?_ NB263_267.out _; (with_reducible repeat (first | refine Za ?_ _ | refine Zb ?_ | refine blk_alloc ?_ _)); refine Zp ?_ NB263_267.out _; (with_reducible repeat (first | refine Za ?_ _ | refine Zb ?_ | refine blk_alloc ?_ _)); exact BK263.out⟩
         have n2_ : Aside0 ((((w16.setCell ⟨gb267, 0, none⟩ (.string ((rd_T74 l0_0 x10_1).f0))).setCell ⟨gb267, 1, none⟩ (.slice A266_1 ((rd_T74 l0_0 x10_1).f1).length c266_1)).setCell ⟨gb267, 2, none⟩ (.slice A266_2 ((rd_T74 l0_0 x10_1).f2).length c266_2)).heap[gb264]? = some (.cells #[.slice none 0 0] 29 (0, 0))) := ⟨by (with_reducible repeat (first | refine Za ?_ _ | refine Zb ?_ | refine blk_alloc ?_ _)); refine Zp ?_ NB264_267.out _; (with_reducible repeat (first | refine Za ?_ _ | refine Zb ?_ | refine blk_alloc ?_ _)); refine Zp ?_ NB264_267.out _; (with_reducible repeat (first | refine Za ?_ _ | refine Zb ?_ | refine blk_alloc ?_ _)); refine Zp ?_ NB264_267.out _; (with_reducible repeat (first | refine Za ?_ _ | refine Zb ?_ | refine blk_alloc ?_ _)); exact BK264.out⟩
         have n3_ : Aside0 ((((w16.setCell ⟨gb267, 0, none⟩ (.string ((rd_T74 l0_0 x10_1).f0))).setCell ⟨gb267, 1, none⟩ (.slice A266_1 ((rd_T74 l0_0 x10_1).f1).length c266_1)).setCell ⟨gb267, 2, none⟩ (.slice A266_2 ((rd_T74 l0_0 x10_1).f2).length c266_2)).heap[gb265]? = some (.cells #[.slice Ao21 x266000_1.length co21] 29 (0, 0))) := ⟨by (with_reducible repeat (first | refine Za ?_ _ | refine Zb ?_ | refine blk_alloc ?_ _)); refine Zp ?_ NB265_267.out _; (with_reducible repeat (first | refine Za ?_ _ | refine Zb ?_ | refine blk_alloc ?_ _)); refine Zp ?_ NB265_267.out _; (with_reducible repeat (first | refine Za ?_ _ | refine Zb ?_ | refine blk_alloc ?_ _)); refine Zp ?_ NB265_267.out _; (with_reducible repeat (first | refine Za ?_ _ | refine Zb ?_ | refine blk_alloc ?_ _)); exact BK265.out⟩
         have n4_ : Aside0 ((((w16.setCell ⟨gb267, 0, none⟩ (.string ((rd_T74 l0_0 x10_1).f0))).setCell ⟨gb267, 1, none⟩ (.slice A266_1 ((rd_T74 l0_0 x10_1).f1).length c266_1)).setCell ⟨gb267, 2, none⟩ (.slice A266_2 ((rd_T74 l0_0 x10_1).f2).length c266_2)).heap[gb267]? = some (.cells #[.string ((rd_T74 l0_0 x10_1).f0), .slice A266_1 ((rd_T74 l0_0 x10_1).f1).length c266_1, .slice A266_2 ((rd_T74 l0_0 x10_1).f2).length c266_2] 74 (0, 0))) := ⟨by (with_reducible repeat (first | refine Za ?_ _ | refine Zb ?_ | refine blk_alloc ?_ _)); refine blk_put (cs := #[.string ((rd_T74 l0_0 x10_1).f0), .slice A266_1 ((rd_T74 l0_0 x10_1).f1).length c266_1, .slice none 0 0]) ?_ 2 _ rfl; (with_reducible repeat (first | refine Za ?_ _ | refine Zb ?_ | refine blk_alloc ?_ _)); refine blk_put (cs := #[.string ((rd_T74 l0_0 x10_1).f0), .slice none 0 0, .slice none 0 0]) ?_ 1 _ rfl; (with_reducible repeat (first | refine Za ?_ _ | refine Zb ?_ | refine blk_alloc ?_ _)); refine blk_put (cs := #[.string (⟨#[]⟩ : ByteArray), .slice none 0 0, .slice none 0 0]) ?_ 0 _ rfl; (with_reducible repeat (first | refine Za ?_ _ | refine Zb ?_ | refine blk_alloc ?_ _)); exact BK267.out⟩
         have n5_ : Aside0 (Below w.heap.size w (((w16.setCell ⟨gb267, 0, none⟩ (.string ((rd_T74 l0_0 x10_1).f0))).setCell ⟨gb267, 1, none⟩ (.slice A266_1 ((rd_T74 l0_0 x10_1).f1).length c266_1)).setCell ⟨gb267, 2, none⟩ (.slice A266_2 ((rd_T74 l0_0 x10_1).f2).length c266_2))) := ⟨by repeat (first | (with_reducible first | exact HB.out | apply Zf | apply Zd | apply Ze | refine Zg ?_ GE263.out | refine Zg ?_ GE264.out | refine Zg ?_ GE265.out | refine Zg ?_ GE267.out) | exact HB.out)⟩
         (try clear HO_266000)
         (try clear BK263)
         (try clear BK264)
         (try clear BK265)
         (try clear BK267)
         (try clear HB)
         generalize (((w16.setCell ⟨gb267, 0, none⟩ (.string ((rd_T74 l0_0 x10_1).f0))).setCell ⟨gb267, 1, none⟩ (.slice A266_1 ((rd_T74 l0_0 x10_1).f1).length c266_1)).setCell ⟨gb267, 2, none⟩ (.slice A266_2 ((rd_T74 l0_0 x10_1).f2).length c266_2)) = w22 at n0_ n1_ n2_ n3_ n4_ n5_ ⊢
         have HO_266000 := n0_
         have BK263 := n1_
         have BK264 := n2_
         have BK265 := n3_
         have BK267 := n4_
         have HB := n5_
         clear n0_ n1_ n2_ n3_ n4_ n5_
         have n0_ := Zh (S_drew HO_266000.out)
         have n1_ := Zh (Zb BK263.out)
         have n2_ := Zh (Zb BK264.out)
         have n3_ := Zh (Zb BK265.out)
         have n4_ := Zh (Zb BK267.out)
         have n5_ := Zh (Ze HB.out)
         clear HO_266000
         clear BK263
         clear BK264
         clear BK265
         clear BK267
         clear HB
         have HO_266000 := n0_
         have BK263 := n1_
         have BK264 := n2_
         have BK265 := n3_
         have BK267 := n4_
         have HB := n5_
         clear n0_ n1_ n2_ n3_ n4_ n5_
         refine start_ (n := 17) (S := fun w' => w'.cell? ⟨gb265, 0, none⟩ = some (.slice Ao21 x266000_1.length co21) ∧ w'.cell? ⟨gb267, 0, none⟩ = some (.string ((rd_T74 l0_0 x10_1).f0)) ∧ w'.cell? ⟨gb267, 1, none⟩ = some (.slice A266_1 ((rd_T74 l0_0 x10_1).f1).length c266_1) ∧ w'.cell? ⟨gb267, 2, none⟩ = some (.slice A266_2 ((rd_T74 l0_0 x10_1).f2).length c266_2)) (ds := [16]) #[false, false, false, false, false, false, false, false, false, false, false, false, false, false, false, false, false] (by kernel_rfl) rfl rfl ⟨(blk_cell BK265.out 0).trans rfl, (blk_cell BK267.out 0).trans rfl, (blk_cell BK267.out 1).trans rfl, (blk_cell BK267.out 2).trans rfl⟩ (fun hHeld => ?_); refine with_tabW impl_copyDisk.tab5 impl_copyDisk.bits5 (fun HT_ HW_ => ?_)
         generalize w22.drew = w23 at HO_266000 BK263 BK264 BK265 BK267 HB hHeld ⊢
         refine SQ.pu 0 14 HT_ ?_
         refine SQ.pu 2 16 HT_ ?_
         refine SQ.pu 5 19 HT_ ?_
         refine SQ.pu 9 23 HT_ ?_
         refine SQ.tk 1 15 HT_ HW_ hHeld ?_
         refine SQ.tk 3 17 HT_ HW_ hHeld ?_
         refine SQ.tk 6 20 HT_ HW_ hHeld ?_
         refine SQ.tk 10 24 HT_ HW_ hHeld ?_
         refine join_ (σ := Value × Value × Value) 6 #[true, true, true, true, true, true, true, true, true, true, true, false, false, false, false, false, false] (fun s_ => [(18, s_.1), (21, s_.2.1), (22, s_.2.2)]) (fun s_ w' => (w'.cell? ⟨gb265, 0, none⟩ = some (.slice Ao21 x266000_1.length co21) ∧ w'.cell? ⟨gb267, 0, none⟩ = some (.string ((rd_T74 l0_0 x10_1).f0)) ∧ w'.cell? ⟨gb267, 1, none⟩ = some (.slice A266_1 ((rd_T74 l0_0 x10_1).f1).length c266_1) ∧ w'.cell? ⟨gb267, 2, none⟩ = some (.slice A266_2 ((rd_T74 l0_0 x10_1).f2).length c266_2)) ∧ (Kd.R (Kd.int .u8) 5 w' w.heap.size (fun k_ => some k_ ≠ (s_.2.2 : Value).ownBlock) s_.2.1 y271) ∧ (Kd.R (Kd.int .u8) 5 w' w.heap.size (fun k_ => some k_ ≠ (s_.2.1 : Value).ownBlock) s_.2.2 y274) ∧ (Kd.S k74 74 w' w.heap.size (fun k_ => some k_ ≠ (s_.2.1 : Value).ownBlock ∧ some k_ ≠ (s_.2.2 : Value).ownBlock ∧ k_ ≠ gb267) (.slice Ao21 x266000_1.length co21) x266000_1) ∧ (w'.heap[gb263]? = some (.cells #[.slice (some ad266) l0_0.length c0_0] 29 (0, 0))) ∧ (w'.heap[gb264]? = some (.cells #[.slice none 0 0] 29 (0, 0))) ∧ (w'.heap[gb265]? = some (.cells #[.slice Ao21 x266000_1.length co21] 29 (0, 0))) ∧ (w'.heap[gb267]? = some (.cells #[.string ((rd_T74 l0_0 x10_1).f0), .slice A266_1 ((rd_T74 l0_0 x10_1).f1).length c266_1, .slice A266_2 ((rd_T74 l0_0 x10_1).f2).length c266_2] 74 (0, 0))) ∧ (Below w.heap.size w w')) ?_ ?_
         rotate_left
         ·
          intro hCont
          refine two_ (i := 4) (j := 8) (Ni := some 18) (Nj := some 22) #[true, true, true, true, true, true, true, false, false, true, true, false, false, false, false, false, false] #[true, true, true, true, false, true, true, false, true, true, true, false, false, false, false, false, false] rfl rfl rfl rfl (two_of HT_.out (by kernel_rfl)) (by decide) (by decide) (fun K hK => ?_) (fun K hK => ?_)
          ·
           skip
           refine R_lit_step (Kd.int .u8) _ 5 ?hg (N := 18) ?hd (xs := ([] : List Int)) (inner := []) (ok := fun _ => True) (okp := fun _ => True) ?hr ?hp (fun _ hk => hk) trivial (Below.refl _ _) (Nat.le_refl _) (by simp) ?_; (case hd => rfl); (case hg => rfl); (case hr => first | (go_simp; done) | (go_simp; rfl)); (case hp => exact (Reps.none _ _))
           intro v269 w24 ho25 hb hg_ hnew_
           clear hg_ hnew_
           (first | rw [← Ny268.out] at ho25 | (simp only [Int.reduceToNat] at ho25; rw [← Ny268.out] at ho25))
           have n0_ := Zh (S_elder' (by (with_reducible repeat (first | apply S_alloc | apply S_drewN | apply S_drew)); exact HO_266000.out) (R_base ho25) hb)
           have n1_ := Zh (R_lower ho25 (below_size Zs))
           have n2_ := Zh (Zm (g := gb263) (o := .cells #[.slice (some ad266) l0_0.length c0_0] 29 (0, 0)) Zk hb)
           have n3_ := Zh (Zm (g := gb264) (o := .cells #[.slice none 0 0] 29 (0, 0)) Zk hb)
           have n4_ := Zh (Zm (g := gb265) (o := .cells #[.slice Ao21 x266000_1.length co21] 29 (0, 0)) Zk hb)
           have n5_ := Zh (Zm (g := gb267) (o := .cells #[.string ((rd_T74 l0_0 x10_1).f0), .slice A266_1 ((rd_T74 l0_0 x10_1).f1).length c266_1, .slice A266_2 ((rd_T74 l0_0 x10_1).f2).length c266_2] 74 (0, 0)) Zk hb)
           have n6_ := Zh (Zl Zs hb)
           clear HO_266000
           clear BK263
           clear BK264
           clear BK265
           clear BK267
           clear HB
           have HO_266000 := n0_
           have HO270 := n1_
           have BK263 := n2_
           have BK264 := n3_
           have BK265 := n4_
           have BK267 := n5_
           have HB := n6_
           clear n0_ n1_ n2_ n3_ n4_ n5_ n6_
           clear hb ho25
           refine hK.out _ _ ⟨(blk_cell BK265.out 0).trans rfl, (blk_cell BK267.out 0).trans rfl, (blk_cell BK267.out 1).trans rfl, (blk_cell BK267.out 2).trans rfl⟩ (fun hHeld => ?_)
           clear hK K
           refine norm_ (a' := ?_) ?_ ?_
           rotate_left
           ·
            show Act.put _ (some 18) _ = _
            simp only [Act.put, List.setIfInBounds_toArray, List.set_cons_zero, List.set_cons_succ, i64_w, i32_w]
            rfl
           refine two_ (i := 7) (j := 8) (Ni := some 21) (Nj := some 22) #[true, true, true, true, true, true, true, true, false, true, true, false, false, false, false, false, false] #[true, true, true, true, true, true, true, false, true, true, true, false, false, false, false, false, false] rfl rfl rfl rfl (two_of HT_.out (by kernel_rfl)) (by decide) (by decide) (fun K hK => ?_) (fun K hK => ?_)
           ·
            skip
            refine R_append_rows_step (Kd.int .u8) (w0 := w) w.heap.size (by rfl) (.tmp 18) (.tmp 20) 33 5 (.int .u8 0) 1 rfl Tryd.underlying33 info5 rfl (by decide) (by omega) v269 y268 ((rd_T74 l0_0 x10_1).f1) _ _ _ (fun _ => True) (fun _ => False) rfl rfl ?aO ?aR (fun _ _ h => h) (fun _ h => h.elim) ?aF ?aB ?aS ?aL ?_
            (case aR => repeat (first | exact (C_below HR266_1.out HB.out) | (with_reducible refine C_alloc ?_ _) | (with_reducible refine C_drewN ?_ _) | (with_reducible refine C_drew ?_)))
            (case aB => exact Zs)
            (case aF => exact (fun _ _ => trivial))
            (case aO => exact (by (with_reducible repeat (first | apply R_alloc | apply R_drewN | apply R_drew)); exact HO270.out))
            (case aS => exact (below_size Zs))
            (case aL => have := LMc13.out; omega)
            intro v272 w26 ho hb hg hat
            rw [← Ny271.out] at ho
            have n0_ := Zh (S_after (ok := (fun k_ => k_ ≠ gb267)) (by (with_reducible repeat (first | apply S_alloc | apply S_drewN | apply S_drew)); exact HO_266000.out) hg hat)
            have n1_ := Zh (blk_grown (g := gb263) (o := .cells #[.slice (some ad266) l0_0.length c0_0] 29 (0, 0)) Zk hg (R_ne HO270.out BK263.out (by decide)))
            have n2_ := Zh (blk_grown (g := gb264) (o := .cells #[.slice none 0 0] 29 (0, 0)) Zk hg (R_ne HO270.out BK264.out (by decide)))
            have n3_ := Zh (blk_grown (g := gb265) (o := .cells #[.slice Ao21 x266000_1.length co21] 29 (0, 0)) Zk hg (R_ne HO270.out BK265.out (by decide)))
            have n4_ := Zh (blk_grown (g := gb267) (o := .cells #[.string ((rd_T74 l0_0 x10_1).f0), .slice A266_1 ((rd_T74 l0_0 x10_1).f1).length c266_1, .slice A266_2 ((rd_T74 l0_0 x10_1).f2).length c266_2] 74 (0, 0)) Zk hg (R_ne HO270.out BK267.out (by decide)))
            have n5_ := Zh (hb)
            have n6_ := Zh (ho)
            clear HO_266000
            clear BK263
            clear BK264
            clear BK265
            clear BK267
            clear HB
            clear HO270
            have HO_266000 := n0_
            have BK263 := n1_
            have BK264 := n2_
            have BK265 := n3_
            have BK267 := n4_
            have HB := n5_
            have HO273 := n6_
            clear n0_ n1_ n2_ n3_ n4_ n5_ n6_
            clear ho hb hg hat
            refine hK.out _ _ ⟨(blk_cell BK265.out 0).trans rfl, (blk_cell BK267.out 0).trans rfl, (blk_cell BK267.out 1).trans rfl, (blk_cell BK267.out 2).trans rfl⟩ (fun hHeld => ?_)
            clear hK K
            refine norm_ (a' := ?_) ?_ ?_
            rotate_left
            ·
             show Act.put _ (some 21) _ = _
             simp only [Act.put, List.setIfInBounds_toArray, List.set_cons_zero, List.set_cons_succ, i64_w, i32_w]
             rfl
            refine one_ (i := 8) (N := some 22) #[true, true, true, true, true, true, true, true, true, true, true, false, false, false, false, false, false] rfl rfl (one_of HT_.out (by kernel_rfl)) (by decide) (fun K hK => ?_)
            refine R_lit_step (Kd.int .u8) _ 5 ?hg (N := 22) ?hd (xs := ([] : List Int)) (inner := []) (ok := fun _ => True) (okp := fun _ => True) ?hr ?hp (fun _ hk => hk) trivial (Below.refl _ _) (Nat.le_refl _) (by simp) ?_; (case hd => rfl); (case hg => rfl); (case hr => first | (go_simp; done) | (go_simp; rfl)); (case hp => exact (Reps.none _ _))
            intro v275 w27 ho28 hb hg_ hnew_
            clear hg_ hnew_
            (first | rw [← Ny274.out] at ho28 | (simp only [Int.reduceToNat] at ho28; rw [← Ny274.out] at ho28))
            have n0_ := Zh (S_elder' (by (with_reducible repeat (first | apply S_alloc | apply S_drewN | apply S_drew)); exact HO_266000.out) (R_base ho28) hb)
            have n1_ := Zh (R_elder' (by (with_reducible repeat (first | apply R_alloc | apply R_drewN | apply R_drew)); exact HO273.out) (R_base ho28) hb)
            have n2_ := Zh (R_lower (R_new' ho28 (R_lt (by (with_reducible repeat (first | apply R_alloc | apply R_drewN | apply R_drew)); exact HO273.out))) (below_size Zs))
            have n3_ := Zh (Zm (g := gb263) (o := .cells #[.slice (some ad266) l0_0.length c0_0] 29 (0, 0)) Zk hb)
            have n4_ := Zh (Zm (g := gb264) (o := .cells #[.slice none 0 0] 29 (0, 0)) Zk hb)
            have n5_ := Zh (Zm (g := gb265) (o := .cells #[.slice Ao21 x266000_1.length co21] 29 (0, 0)) Zk hb)
            have n6_ := Zh (Zm (g := gb267) (o := .cells #[.string ((rd_T74 l0_0 x10_1).f0), .slice A266_1 ((rd_T74 l0_0 x10_1).f1).length c266_1, .slice A266_2 ((rd_T74 l0_0 x10_1).f2).length c266_2] 74 (0, 0)) Zk hb)
            have n7_ := Zh (Zl Zs hb)
            clear HO_266000
            clear HO273
            clear BK263
            clear BK264
            clear BK265
            clear BK267
            clear HB
            have HO_266000 := n0_
            have HO273 := n1_
            have HO276 := n2_
            have BK263 := n3_
            have BK264 := n4_
            have BK265 := n5_
            have BK267 := n6_
            have HB := n7_
            clear n0_ n1_ n2_ n3_ n4_ n5_ n6_ n7_
            clear hb ho28
            refine hK.out _ _ ⟨(blk_cell BK265.out 0).trans rfl, (blk_cell BK267.out 0).trans rfl, (blk_cell BK267.out 1).trans rfl, (blk_cell BK267.out 2).trans rfl⟩ (fun hHeld => ?_)
            clear hK K
            refine norm_ (a' := ?_) ?_ ?_
            rotate_left
            ·
             show Act.put _ (some 22) _ = _
             simp only [Act.put, List.setIfInBounds_toArray, List.set_cons_zero, List.set_cons_succ, i64_w, i32_w]
             rfl
            exact norm_ (by simp only [putAll, Act.put, List.setIfInBounds_toArray, List.set_cons_zero, List.set_cons_succ]) (hCont (v269, v272, v275) _ ⟨hHeld, (by (with_reducible repeat (first | apply R_alloc | apply R_drewN | apply R_drew)); exact R_mono HO273.out (fun _ hk => hk.2)), (by (with_reducible repeat (first | apply R_alloc | apply R_drewN | apply R_drew)); exact R_mono HO276.out (fun _ hk => hk.2)), (by (with_reducible repeat (first | apply S_alloc | apply S_drewN | apply S_drew)); exact S_mono HO_266000.out (fun _ hk => ⟨hk.1.2, ⟨hk.2, hk.1.1⟩⟩)), Zk, Zk, Zk, Zk, Zs⟩)
           skip
           refine R_lit_step (Kd.int .u8) _ 5 ?hg (N := 22) ?hd (xs := ([] : List Int)) (inner := []) (ok := fun _ => True) (okp := fun _ => True) ?hr ?hp (fun _ hk => hk) trivial (Below.refl _ _) (Nat.le_refl _) (by simp) ?_; (case hd => rfl); (case hg => rfl); (case hr => first | (go_simp; done) | (go_simp; rfl)); (case hp => exact (Reps.none _ _))
           intro v275 w26 ho27 hb hg_ hnew_
           clear hg_ hnew_
           (first | rw [← Ny274.out] at ho27 | (simp only [Int.reduceToNat] at ho27; rw [← Ny274.out] at ho27))
           have n0_ := Zh (S_elder' (by (with_reducible repeat (first | apply S_alloc | apply S_drewN | apply S_drew)); exact HO_266000.out) (R_base ho27) hb)
           have n1_ := Zh (R_elder' (by (with_reducible repeat (first | apply R_alloc | apply R_drewN | apply R_drew)); exact HO270.out) (R_base ho27) hb)
           have n2_ := Zh (R_lower (R_new' ho27 (R_lt (by (with_reducible repeat (first | apply R_alloc | apply R_drewN | apply R_drew)); exact HO270.out))) (below_size Zs))
           have n3_ := Zh (Zm (g := gb263) (o := .cells #[.slice (some ad266) l0_0.length c0_0] 29 (0, 0)) Zk hb)
           have n4_ := Zh (Zm (g := gb264) (o := .cells #[.slice none 0 0] 29 (0, 0)) Zk hb)
           have n5_ := Zh (Zm (g := gb265) (o := .cells #[.slice Ao21 x266000_1.length co21] 29 (0, 0)) Zk hb)
           have n6_ := Zh (Zm (g := gb267) (o := .cells #[.string ((rd_T74 l0_0 x10_1).f0), .slice A266_1 ((rd_T74 l0_0 x10_1).f1).length c266_1, .slice A266_2 ((rd_T74 l0_0 x10_1).f2).length c266_2] 74 (0, 0)) Zk hb)
           have n7_ := Zh (Zl Zs hb)
           clear HO_266000
           clear HO270
           clear BK263
           clear BK264
           clear BK265
           clear BK267
           clear HB
           have HO_266000 := n0_
           have HO270 := n1_
           have HO276 := n2_
           have BK263 := n3_
           have BK264 := n4_
           have BK265 := n5_
           have BK267 := n6_
           have HB := n7_
           clear n0_ n1_ n2_ n3_ n4_ n5_ n6_ n7_
           clear hb ho27
           refine hK.out _ _ ⟨(blk_cell BK265.out 0).trans rfl, (blk_cell BK267.out 0).trans rfl, (blk_cell BK267.out 1).trans rfl, (blk_cell BK267.out 2).trans rfl⟩ (fun hHeld => ?_)
           clear hK K
           refine norm_ (a' := ?_) ?_ ?_
           rotate_left
           ·
            show Act.put _ (some 22) _ = _
            simp only [Act.put, List.setIfInBounds_toArray, List.set_cons_zero, List.set_cons_succ, i64_w, i32_w]
            rfl
           refine one_ (i := 7) (N := some 21) #[true, true, true, true, true, true, true, true, true, true, true, false, false, false, false, false, false] rfl rfl (one_of HT_.out (by kernel_rfl)) (by decide) (fun K hK => ?_)
           refine R_append_rows_step (Kd.int .u8) (w0 := w) w.heap.size (by rfl) (.tmp 18) (.tmp 20) 33 5 (.int .u8 0) 1 rfl Tryd.underlying33 info5 rfl (by decide) (by omega) v269 y268 ((rd_T74 l0_0 x10_1).f1) _ _ _ (fun k_ => some k_ ≠ (v275 : Value).ownBlock) (fun _ => False) rfl rfl ?aO ?aR (fun _ _ h => h) (fun _ h => h.elim) ?aF ?aB ?aS ?aL ?_
           (case aR => repeat (first | exact (C_below HR266_1.out HB.out) | (with_reducible refine C_alloc ?_ _) | (with_reducible refine C_drewN ?_ _) | (with_reducible refine C_drew ?_)))
           (case aB => exact Zs)
           (case aF => exact (fun k_ hk => Kd.fresh' (R_lt (by (with_reducible repeat (first | apply R_alloc | apply R_drewN | apply R_drew)); exact HO276.out)) k_ hk))
           (case aO => exact (by (with_reducible repeat (first | apply R_alloc | apply R_drewN | apply R_drew)); exact R_mono HO270.out (fun _ hk => hk.2)))
           (case aS => exact (below_size Zs))
           (case aL => have := LMc13.out; omega)
           intro v272 w28 ho hb hg hat
           rw [← Ny271.out] at ho
           have n0_ := Zh (S_after (ok := (fun k_ => some k_ ≠ (v275 : Value).ownBlock ∧ k_ ≠ gb267)) (by (with_reducible repeat (first | apply S_alloc | apply S_drewN | apply S_drew)); exact S_mono HO_266000.out (fun _ hk => ⟨⟨hk.2, hk.1.1⟩, hk.1.2⟩)) hg hat)
           have n1_ := Zh (blk_grown (g := gb263) (o := .cells #[.slice (some ad266) l0_0.length c0_0] 29 (0, 0)) Zk hg (R_ne HO270.out BK263.out (by decide)))
           have n2_ := Zh (blk_grown (g := gb264) (o := .cells #[.slice none 0 0] 29 (0, 0)) Zk hg (R_ne HO270.out BK264.out (by decide)))
           have n3_ := Zh (blk_grown (g := gb265) (o := .cells #[.slice Ao21 x266000_1.length co21] 29 (0, 0)) Zk hg (R_ne HO270.out BK265.out (by decide)))
           have n4_ := Zh (blk_grown (g := gb267) (o := .cells #[.string ((rd_T74 l0_0 x10_1).f0), .slice A266_1 ((rd_T74 l0_0 x10_1).f1).length c266_1, .slice A266_2 ((rd_T74 l0_0 x10_1).f2).length c266_2] 74 (0, 0)) Zk hg (R_ne HO270.out BK267.out (by decide)))
           have n5_ := Zh (R_after (ok := (fun _ => True)) (by (with_reducible repeat (first | apply R_alloc | apply R_drewN | apply R_drew)); exact HO276.out) hg hat)
           have n6_ := Zh (hb)
           have n7_ := Zh (ho)
           clear HO_266000
           clear BK263
           clear BK264
           clear BK265
           clear BK267
           clear HO276
           clear HB
           clear HO270
           have HO_266000 := n0_
           have BK263 := n1_
           have BK264 := n2_
           have BK265 := n3_
           have BK267 := n4_
           have HO276 := n5_
           have HB := n6_
           have HO273 := n7_
           clear n0_ n1_ n2_ n3_ n4_ n5_ n6_ n7_
           clear ho hb hg hat
           refine hK.out _ _ ⟨(blk_cell BK265.out 0).trans rfl, (blk_cell BK267.out 0).trans rfl, (blk_cell BK267.out 1).trans rfl, (blk_cell BK267.out 2).trans rfl⟩ (fun hHeld => ?_)
           clear hK K
           refine norm_ (a' := ?_) ?_ ?_
           rotate_left
           ·
            show Act.put _ (some 21) _ = _
            simp only [Act.put, List.setIfInBounds_toArray, List.set_cons_zero, List.set_cons_succ, i64_w, i32_w]
            rfl
           exact norm_ (by simp only [putAll, Act.put, List.setIfInBounds_toArray, List.set_cons_zero, List.set_cons_succ]) (hCont (v269, v272, v275) _ ⟨hHeld, (by (with_reducible repeat (first | apply R_alloc | apply R_drewN | apply R_drew)); exact HO273.out), (by (with_reducible repeat (first | apply R_alloc | apply R_drewN | apply R_drew)); exact R_mono HO276.out (fun _ hk => hk.2)), (by (with_reducible repeat (first | apply S_alloc | apply S_drewN | apply S_drew)); exact S_mono HO_266000.out (fun _ hk => ⟨hk.2, ⟨hk.1.1, hk.1.2⟩⟩)), Zk, Zk, Zk, Zk, Zs⟩)
          skip
          refine R_lit_step (Kd.int .u8) _ 5 ?hg (N := 22) ?hd (xs := ([] : List Int)) (inner := []) (ok := fun _ => True) (okp := fun _ => True) ?hr ?hp (fun _ hk => hk) trivial (Below.refl _ _) (Nat.le_refl _) (by simp) ?_; (case hd => rfl); (case hg => rfl); (case hr => first | (go_simp; done) | (go_simp; rfl)); (case hp => exact (Reps.none _ _))
          intro v275 w24 ho25 hb hg_ hnew_
          clear hg_ hnew_
          (first | rw [← Ny274.out] at ho25 | (simp only [Int.reduceToNat] at ho25; rw [← Ny274.out] at ho25))
          have n0_ := Zh (S_elder' (by (with_reducible repeat (first | apply S_alloc | apply S_drewN | apply S_drew)); exact HO_266000.out) (R_base ho25) hb)
          have n1_ := Zh (R_lower ho25 (below_size Zs))
          have n2_ := Zh (Zm (g := gb263) (o := .cells #[.slice (some ad266) l0_0.length c0_0] 29 (0, 0)) Zk hb)
          have n3_ := Zh (Zm (g := gb264) (o := .cells #[.slice none 0 0] 29 (0, 0)) Zk hb)
          have n4_ := Zh (Zm (g := gb265) (o := .cells #[.slice Ao21 x266000_1.length co21] 29 (0, 0)) Zk hb)
          have n5_ := Zh (Zm (g := gb267) (o := .cells #[.string ((rd_T74 l0_0 x10_1).f0), .slice A266_1 ((rd_T74 l0_0 x10_1).f1).length c266_1, .slice A266_2 ((rd_T74 l0_0 x10_1).f2).length c266_2] 74 (0, 0)) Zk hb)
          have n6_ := Zh (Zl Zs hb)
          clear HO_266000
          clear BK263
          clear BK264
          clear BK265
          clear BK267
          clear HB
          have HO_266000 := n0_
          have HO276 := n1_
          have BK263 := n2_
          have BK264 := n3_
          have BK265 := n4_
          have BK267 := n5_
          have HB := n6_
          clear n0_ n1_ n2_ n3_ n4_ n5_ n6_
          clear hb ho25
          refine hK.out _ _ ⟨(blk_cell BK265.out 0).trans rfl, (blk_cell BK267.out 0).trans rfl, (blk_cell BK267.out 1).trans rfl, (blk_cell BK267.out 2).trans rfl⟩ (fun hHeld => ?_)
          clear hK K
          refine norm_ (a' := ?_) ?_ ?_
          rotate_left
          ·
           show Act.put _ (some 22) _ = _
           simp only [Act.put, List.setIfInBounds_toArray, List.set_cons_zero, List.set_cons_succ, i64_w, i32_w]
           rfl
          refine one_ (i := 4) (N := some 18) #[true, true, true, true, true, true, true, false, true, true, true, false, false, false, false, false, false] rfl rfl (one_of HT_.out (by kernel_rfl)) (by decide) (fun K hK => ?_)
          refine R_lit_step (Kd.int .u8) _ 5 ?hg (N := 18) ?hd (xs := ([] : List Int)) (inner := []) (ok := fun _ => True) (okp := fun _ => True) ?hr ?hp (fun _ hk => hk) trivial (Below.refl _ _) (Nat.le_refl _) (by simp) ?_; (case hd => rfl); (case hg => rfl); (case hr => first | (go_simp; done) | (go_simp; rfl)); (case hp => exact (Reps.none _ _))
          intro v269 w26 ho27 hb hg_ hnew_
          clear hg_ hnew_
          (first | rw [← Ny268.out] at ho27 | (simp only [Int.reduceToNat] at ho27; rw [← Ny268.out] at ho27))
          have n0_ := Zh (S_elder' (by (with_reducible repeat (first | apply S_alloc | apply S_drewN | apply S_drew)); exact HO_266000.out) (R_base ho27) hb)
          have n1_ := Zh (R_elder' (by (with_reducible repeat (first | apply R_alloc | apply R_drewN | apply R_drew)); exact HO276.out) (R_base ho27) hb)
          have n2_ := Zh (R_lower (R_new' ho27 (R_lt (by (with_reducible repeat (first | apply R_alloc | apply R_drewN | apply R_drew)); exact HO276.out))) (below_size Zs))
          have n3_ := Zh (Zm (g := gb263) (o := .cells #[.slice (some ad266) l0_0.length c0_0] 29 (0, 0)) Zk hb)
          have n4_ := Zh (Zm (g := gb264) (o := .cells #[.slice none 0 0] 29 (0, 0)) Zk hb)
          have n5_ := Zh (Zm (g := gb265) (o := .cells #[.slice Ao21 x266000_1.length co21] 29 (0, 0)) Zk hb)
          have n6_ := Zh (Zm (g := gb267) (o := .cells #[.string ((rd_T74 l0_0 x10_1).f0), .slice A266_1 ((rd_T74 l0_0 x10_1).f1).length c266_1, .slice A266_2 ((rd_T74 l0_0 x10_1).f2).length c266_2] 74 (0, 0)) Zk hb)
          have n7_ := Zh (Zl Zs hb)
          clear HO_266000
          clear HO276
          clear BK263
          clear BK264
          clear BK265
          clear BK267
          clear HB
          have HO_266000 := n0_
          have HO276 := n1_
          have HO270 := n2_
          have BK263 := n3_
          have BK264 := n4_
          have BK265 := n5_
          have BK267 := n6_
          have HB := n7_
          clear n0_ n1_ n2_ n3_ n4_ n5_ n6_ n7_
          clear hb ho27
          refine hK.out _ _ ⟨(blk_cell BK265.out 0).trans rfl, (blk_cell BK267.out 0).trans rfl, (blk_cell BK267.out 1).trans rfl, (blk_cell BK267.out 2).trans rfl⟩ (fun hHeld => ?_)
          clear hK K
          refine norm_ (a' := ?_) ?_ ?_
          rotate_left
          ·
           show Act.put _ (some 18) _ = _
           simp only [Act.put, List.setIfInBounds_toArray, List.set_cons_zero, List.set_cons_succ, i64_w, i32_w]
           rfl
          refine one_ (i := 7) (N := some 21) #[true, true, true, true, true, true, true, true, true, true, true, false, false, false, false, false, false] rfl rfl (one_of HT_.out (by kernel_rfl)) (by decide) (fun K hK => ?_)
          refine R_append_rows_step (Kd.int .u8) (w0 := w) w.heap.size (by rfl) (.tmp 18) (.tmp 20) 33 5 (.int .u8 0) 1 rfl Tryd.underlying33 info5 rfl (by decide) (by omega) v269 y268 ((rd_T74 l0_0 x10_1).f1) _ _ _ (fun k_ => some k_ ≠ (v275 : Value).ownBlock) (fun _ => False) rfl rfl ?aO ?aR (fun _ _ h => h) (fun _ h => h.elim) ?aF ?aB ?aS ?aL ?_
          (case aR => repeat (first | exact (C_below HR266_1.out HB.out) | (with_reducible refine C_alloc ?_ _) | (with_reducible refine C_drewN ?_ _) | (with_reducible refine C_drew ?_)))
          (case aB => exact Zs)
          (case aF => exact (fun k_ hk => Kd.fresh' (R_lt (by (with_reducible repeat (first | apply R_alloc | apply R_drewN | apply R_drew)); exact HO276.out)) k_ hk))
          (case aO => exact (by (with_reducible repeat (first | apply R_alloc | apply R_drewN | apply R_drew)); exact R_mono HO270.out (fun _ hk => hk.2)))
          (case aS => exact (below_size Zs))
          (case aL => have := LMc13.out; omega)
          intro v272 w28 ho hb hg hat
          rw [← Ny271.out] at ho
          have n0_ := Zh (S_after (ok := (fun k_ => some k_ ≠ (v275 : Value).ownBlock ∧ k_ ≠ gb267)) (by (with_reducible repeat (first | apply S_alloc | apply S_drewN | apply S_drew)); exact S_mono HO_266000.out (fun _ hk => ⟨⟨hk.1.2, hk.1.1⟩, hk.2⟩)) hg hat)
          have n1_ := Zh (blk_grown (g := gb263) (o := .cells #[.slice (some ad266) l0_0.length c0_0] 29 (0, 0)) Zk hg (R_ne HO270.out BK263.out (by decide)))
          have n2_ := Zh (blk_grown (g := gb264) (o := .cells #[.slice none 0 0] 29 (0, 0)) Zk hg (R_ne HO270.out BK264.out (by decide)))
          have n3_ := Zh (blk_grown (g := gb265) (o := .cells #[.slice Ao21 x266000_1.length co21] 29 (0, 0)) Zk hg (R_ne HO270.out BK265.out (by decide)))
          have n4_ := Zh (blk_grown (g := gb267) (o := .cells #[.string ((rd_T74 l0_0 x10_1).f0), .slice A266_1 ((rd_T74 l0_0 x10_1).f1).length c266_1, .slice A266_2 ((rd_T74 l0_0 x10_1).f2).length c266_2] 74 (0, 0)) Zk hg (R_ne HO270.out BK267.out (by decide)))
          have n5_ := Zh (R_after (ok := (fun _ => True)) (by (with_reducible repeat (first | apply R_alloc | apply R_drewN | apply R_drew)); exact HO276.out) hg hat)
          have n6_ := Zh (hb)
          have n7_ := Zh (ho)
          clear HO_266000
          clear BK263
          clear BK264
          clear BK265
          clear BK267
          clear HO276
          clear HB
          clear HO270
          have HO_266000 := n0_
          have BK263 := n1_
          have BK264 := n2_
          have BK265 := n3_
          have BK267 := n4_
          have HO276 := n5_
          have HB := n6_
          have HO273 := n7_
          clear n0_ n1_ n2_ n3_ n4_ n5_ n6_ n7_
          clear ho hb hg hat
          refine hK.out _ _ ⟨(blk_cell BK265.out 0).trans rfl, (blk_cell BK267.out 0).trans rfl, (blk_cell BK267.out 1).trans rfl, (blk_cell BK267.out 2).trans rfl⟩ (fun hHeld => ?_)
          clear hK K
          refine norm_ (a' := ?_) ?_ ?_
          rotate_left
          ·
           show Act.put _ (some 21) _ = _
           simp only [Act.put, List.setIfInBounds_toArray, List.set_cons_zero, List.set_cons_succ, i64_w, i32_w]
           rfl
          exact norm_ (by simp only [putAll, Act.put, List.setIfInBounds_toArray, List.set_cons_zero, List.set_cons_succ]) (hCont (v269, v272, v275) _ ⟨hHeld, (by (with_reducible repeat (first | apply R_alloc | apply R_drewN | apply R_drew)); exact HO273.out), (by (with_reducible repeat (first | apply R_alloc | apply R_drewN | apply R_drew)); exact R_mono HO276.out (fun _ hk => hk.2)), (by (with_reducible repeat (first | apply S_alloc | apply S_drewN | apply S_drew)); exact S_mono HO_266000.out (fun _ hk => ⟨hk.2, ⟨hk.1.1, hk.1.2⟩⟩)), Zk, Zk, Zk, Zk, Zs⟩)
         rintro ⟨v269, v272, v275⟩ w29 ⟨hS_, h0_, h1_, h2_, h3_, h4_, h5_, h6_, h7_⟩
         have n0_ : Aside0 (Kd.R (Kd.int .u8) 5 w29 w.heap.size (fun k_ => some k_ ≠ (v275 : Value).ownBlock) v272 y271) := ⟨h0_⟩
         have n1_ : Aside0 (Kd.R (Kd.int .u8) 5 w29 w.heap.size (fun k_ => some k_ ≠ (v272 : Value).ownBlock) v275 y274) := ⟨h1_⟩
         have n2_ : Aside0 (Kd.S k74 74 w29 w.heap.size (fun k_ => some k_ ≠ (v272 : Value).ownBlock ∧ some k_ ≠ (v275 : Value).ownBlock ∧ k_ ≠ gb267) (.slice Ao21 x266000_1.length co21) x266000_1) := ⟨h2_⟩
         have n3_ : Aside0 (w29.heap[gb263]? = some (.cells #[.slice (some ad266) l0_0.length c0_0] 29 (0, 0))) := ⟨h3_⟩
         have n4_ : Aside0 (w29.heap[gb264]? = some (.cells #[.slice none 0 0] 29 (0, 0))) := ⟨h4_⟩
         have n5_ : Aside0 (w29.heap[gb265]? = some (.cells #[.slice Ao21 x266000_1.length co21] 29 (0, 0))) := ⟨h5_⟩
         have n6_ : Aside0 (w29.heap[gb267]? = some (.cells #[.string ((rd_T74 l0_0 x10_1).f0), .slice A266_1 ((rd_T74 l0_0 x10_1).f1).length c266_1, .slice A266_2 ((rd_T74 l0_0 x10_1).f2).length c266_2] 74 (0, 0))) := ⟨h6_⟩
         have n7_ : Aside0 (Below w.heap.size w w29) := ⟨h7_⟩
         clear HO_266000
         clear BK263
         clear BK264
         clear BK265
         clear BK267
         clear HB
         clear h0_ h1_ h2_ h3_ h4_ h5_ h6_ h7_
         have HO273 := n0_
         have HO276 := n1_
         have HO_266000 := n2_
         have BK263 := n3_
         have BK264 := n4_
         have BK265 := n5_
         have BK267 := n6_
         have HB := n7_
         clear n0_ n1_ n2_ n3_ n4_ n5_ n6_ n7_
         have hHeld : w29.cell? ⟨gb265, 0, none⟩ = some (.slice Ao21 x266000_1.length co21) ∧ w29.cell? ⟨gb267, 0, none⟩ = some (.string ((rd_T74 l0_0 x10_1).f0)) ∧ w29.cell? ⟨gb267, 1, none⟩ = some (.slice A266_1 ((rd_T74 l0_0 x10_1).f1).length c266_1) ∧ w29.cell? ⟨gb267, 2, none⟩ = some (.slice A266_2 ((rd_T74 l0_0 x10_1).f2).length c266_2) := hS_
         refine norm_ (a' := ?_) ?_ ?_
         rotate_left
         ·
          simp only [putAll, Act.put, List.setIfInBounds_toArray, List.set_cons_zero, List.set_cons_succ]
          rfl
         refine one_ (i := 11) (N := some 25) #[true, true, true, true, true, true, true, true, true, true, true, true, false, false, false, false, false] rfl rfl (one_of HT_.out (by kernel_rfl)) (by decide) (fun K hK => ?_)
         refine R_append_rows_step (Kd.int .u8) (w0 := w) w.heap.size (by rfl) (.tmp 22) (.tmp 24) 33 5 (.int .u8 0) 1 rfl Tryd.underlying33 info5 rfl (by decide) (by omega) v275 y274 ((rd_T74 l0_0 x10_1).f2) _ _ _ (fun k_ => some k_ ≠ (v272 : Value).ownBlock) (fun _ => False) rfl rfl ?aO ?aR (fun _ _ h => h) (fun _ h => h.elim) ?aF ?aB ?aS ?aL ?_
         (case aR => repeat (first | exact (C_below HR266_2.out HB.out) | (with_reducible refine C_alloc ?_ _) | (with_reducible refine C_drewN ?_ _) | (with_reducible refine C_drew ?_)))
         (case aB => exact Zs)
         (case aF => exact (fun k_ hk => Kd.fresh' (R_lt (by (with_reducible repeat (first | apply R_alloc | apply R_drewN | apply R_drew)); exact HO273.out)) k_ hk))
         (case aO => exact (by (with_reducible repeat (first | apply R_alloc | apply R_drewN | apply R_drew)); exact HO276.out))
         (case aS => exact (below_size Zs))
         (case aL => have := LMc14.out; omega)
         intro v278 w30 ho hb hg hat
         rw [← Ny277.out] at ho
         have n0_ := Zh (S_after (ok := (fun k_ => some k_ ≠ (v272 : Value).ownBlock ∧ k_ ≠ gb267)) (by (with_reducible repeat (first | apply S_alloc | apply S_drewN | apply S_drew)); exact S_mono HO_266000.out (fun _ hk => ⟨⟨hk.1, hk.2.2⟩, hk.2.1⟩)) hg hat)
         have n1_ := Zh (blk_grown (g := gb263) (o := .cells #[.slice (some ad266) l0_0.length c0_0] 29 (0, 0)) Zk hg (R_ne HO276.out BK263.out (by decide)))
         have n2_ := Zh (blk_grown (g := gb264) (o := .cells #[.slice none 0 0] 29 (0, 0)) Zk hg (R_ne HO276.out BK264.out (by decide)))
         have n3_ := Zh (blk_grown (g := gb265) (o := .cells #[.slice Ao21 x266000_1.length co21] 29 (0, 0)) Zk hg (R_ne HO276.out BK265.out (by decide)))
         have n4_ := Zh (blk_grown (g := gb267) (o := .cells #[.string ((rd_T74 l0_0 x10_1).f0), .slice A266_1 ((rd_T74 l0_0 x10_1).f1).length c266_1, .slice A266_2 ((rd_T74 l0_0 x10_1).f2).length c266_2] 74 (0, 0)) Zk hg (R_ne HO276.out BK267.out (by decide)))
         have n5_ := Zh (R_after (ok := (fun _ => True)) (by (with_reducible repeat (first | apply R_alloc | apply R_drewN | apply R_drew)); exact R_mono HO273.out (fun _ hk => ⟨trivial, hk⟩)) hg hat)
         have n6_ := Zh (hb)
         have n7_ := Zh (ho)
         clear HO_266000
         clear BK263
         clear BK264
         clear BK265
         clear BK267
         clear HO273
         clear HB
         clear HO276
         have HO_266000 := n0_
         have BK263 := n1_
         have BK264 := n2_
         have BK265 := n3_
         have BK267 := n4_
         have HO273 := n5_
         have HB := n6_
         have HO279 := n7_
         clear n0_ n1_ n2_ n3_ n4_ n5_ n6_ n7_
         clear ho hb hg hat
         obtain ⟨Ao31, co31, eo31⟩ := R_slice HO279.out
         (first | subst eo31 | (injection eo31 with f1_ f2_ f3_; have f4_ := f1_.symm; have f5_ := f3_.symm; clear f1_ f2_ f3_; subst f4_; subst f5_))
         obtain ⟨Ao32, co32, eo32⟩ := R_slice HO273.out
         (first | subst eo32 | (injection eo32 with f1_ f2_ f3_; have f4_ := f1_.symm; have f5_ := f3_.symm; clear f1_ f2_ f3_; subst f4_; subst f5_))
         refine hK.out _ _ ⟨(blk_cell BK265.out 0).trans rfl, (blk_cell BK267.out 0).trans rfl, (blk_cell BK267.out 1).trans rfl, (blk_cell BK267.out 2).trans rfl⟩ (fun hHeld => ?_)
         clear hK K
         refine norm_ (a' := ?_) ?_ ?_
         rotate_left
         ·
          show Act.put _ (some 25) _ = _
          simp only [Act.put, List.setIfInBounds_toArray, List.set_cons_zero, List.set_cons_succ, i64_w, i32_w]
          rfl
         refine SQ.pu 12 26 HT_ ?_
         refine one_ (i := 13) (N := some 27) #[true, true, true, true, true, true, true, true, true, true, true, true, true, true, false, false, false] rfl rfl (one_of HT_.out (by kernel_rfl)) (by decide) (fun K hK => ?_)
         refine value_ (w1 := ?_) (v := ?_) (by rfl) rfl ?_ ?_
         rotate_left 2
         ·
          go_simp
          constructor
          ·
           rfl
          rfl
         refine hK.out _ _ ⟨(blk_cell (blk_alloc BK265.out _) 0).trans rfl, (blk_cell (blk_alloc BK267.out _) 0).trans rfl, (blk_cell (blk_alloc BK267.out _) 1).trans rfl, (blk_cell (blk_alloc BK267.out _) 2).trans rfl⟩ (fun hHeld => ?_)
         clear hK K
         refine norm_ (a' := ?_) ?_ ?_
         rotate_left
         ·
          show Act.put _ (some 27) _ = _
          simp only [Act.put, List.setIfInBounds_toArray, List.set_cons_zero, List.set_cons_succ, i64_w, i32_w]
          rfl
         refine one_ (i := 14) (N := some 28) #[true, true, true, true, true, true, true, true, true, true, true, true, true, true, true, false, false] rfl rfl (one_of HT_.out (by kernel_rfl)) (by decide) (fun K hK => ?_)
         refine S_append_step k74 (w0 := w) w.heap.size (by rfl) (.tmp 15) (.tmp 27) 27 74 (.agg #[(.string ⟨#[]⟩), (.slice none 0 0), (.slice none 0 0)]) 64 rfl Tryd.underlying27 info74 rfl (by decide) (by omega) (.slice Ao21 x266000_1.length co21) x266000_1 (⟨(rd_T74 l0_0 x10_1).f0, y271, y277⟩ : S74) [.string ((rd_T74 l0_0 x10_1).f0), .slice Ao32 y271.length co32, .slice Ao31 y277.length co31] (fun k_ => k_ ≠ gb267) (fun k_ => some k_ = (.slice Ao32 y271.length co32 : Value).ownBlock ∨ some k_ = (.slice Ao31 y277.length co31 : Value).ownBlock) rfl rfl ?aP (fun k_ hk_ => hk_.elim (fun h_ => ((R_mono (ok' := fun k_ => ((fun k_ => k_ ≠ gb267)) k_ ∧ some k_ ≠ (.slice Ao21 x266000_1.length co21 : Value).ownBlock) (R_types (R_apart' (HO273.out) (S_typed HO_266000.out) (by decide)) BK267.out (by decide)) (fun k_ hk => ⟨hk.2, hk.1.2⟩))).1 k_ h_.symm) (fun h_ => ((R_mono (ok' := fun k_ => ((fun k_ => k_ ≠ gb267)) k_ ∧ some k_ ≠ (.slice Ao21 x266000_1.length co21 : Value).ownBlock) (R_types (R_apart' (HO279.out) (S_typed HO_266000.out) (by decide)) BK267.out (by decide)) (fun k_ hk => ⟨hk.2, hk.1.2⟩))).1 k_ h_.symm)) ?aF ?aO ?aB ?aS ?aL ?_
         (case aP => exact k74_mkM _ _ _ (⟨(rd_T74 l0_0 x10_1).f0, y271, y277⟩ : S74) (R_mono (R_tight rfl (R_mono (ok' := fun k_ => ((fun k_ => k_ ≠ gb267)) k_ ∧ some k_ ≠ (.slice Ao21 x266000_1.length co21 : Value).ownBlock) (R_types (R_apart' (HO273.out) (S_typed HO_266000.out) (by decide)) BK267.out (by decide)) (fun k_ hk => ⟨hk.2, hk.1.2⟩))) (fun _ h_ => Or.inl h_)) (R_mono (R_tight rfl (R_mono (ok' := fun k_ => ((fun k_ => k_ ≠ gb267)) k_ ∧ some k_ ≠ (.slice Ao21 x266000_1.length co21 : Value).ownBlock) (R_types (R_apart' (HO279.out) (S_typed HO_266000.out) (by decide)) BK267.out (by decide)) (fun k_ hk => ⟨hk.2, hk.1.2⟩))) (fun _ h_ => Or.inr (h_))) (AP.ne_of (HO273.out) (HO279.out) (by first | exact .inl (fun k_ hk_ => by first | exact hk_ | exact hk_.1 | exact hk_.2 | exact hk_.1.1 | exact hk_.1.2 | exact hk_.2.1 | exact hk_.2.2) | exact .inr (fun k_ hk_ => by first | exact hk_ | exact hk_.1 | exact hk_.2 | exact hk_.1.1 | exact hk_.1.2 | exact hk_.2.1 | exact hk_.2.2))))
         (case aB => exact Zs)
         (case aF => exact (fun k_ hk => Kd.freshB (g := gb267) (o := .cells #[.string ((rd_T74 l0_0 x10_1).f0), .slice A266_1 ((rd_T74 l0_0 x10_1).f1).length c266_1, .slice A266_2 ((rd_T74 l0_0 x10_1).f2).length c266_2] 74 (0, 0)) Zk k_ hk))
         (case aO => exact (by (with_reducible repeat (first | apply S_alloc | apply S_drewN | apply S_drew)); exact S_mono HO_266000.out (fun k_ hk => ⟨hk.1.2, fun e_ => e_.elim (fun h_ => hk.1.1 h_) (fun h_ => hk.2 h_)⟩)))
         (case aS => exact (below_size Zs))
         (case aL => have := LMc15.out; omega)
         intro v281 w33 ho hb hg hat
         rw [← Ny280.out] at ho
         have n0_ := Zh (blk_grown (g := gb263) (o := .cells #[.slice (some ad266) l0_0.length c0_0] 29 (0, 0)) Zk hg (S_ne HO_266000.out BK263.out (by decide)))
         have n1_ := Zh (blk_grown (g := gb264) (o := .cells #[.slice none 0 0] 29 (0, 0)) Zk hg (S_ne HO_266000.out BK264.out (by decide)))
         have n2_ := Zh (blk_grown (g := gb265) (o := .cells #[.slice Ao21 x266000_1.length co21] 29 (0, 0)) Zk hg (S_ne HO_266000.out BK265.out (by decide)))
         have n3_ := Zh (blk_grown (g := gb267) (o := .cells #[.string ((rd_T74 l0_0 x10_1).f0), .slice A266_1 ((rd_T74 l0_0 x10_1).f1).length c266_1, .slice A266_2 ((rd_T74 l0_0 x10_1).f2).length c266_2] 74 (0, 0)) Zk hg (S_away HO_266000.out (fun _ hk => hk.1.2)))
         have n4_ := Zh (hb)
         have n5_ := Zh (ho)
         clear BK263
         clear BK264
         clear BK265
         clear BK267
         clear HB
         clear HO_266000
         clear HO273
         clear HO279
         have BK263 := n0_
         have BK264 := n1_
         have BK265 := n2_
         have BK267 := n3_
         have HB := n4_
         have HO282 := n5_
         clear n0_ n1_ n2_ n3_ n4_ n5_
         clear ho hb hg hat
         obtain ⟨Ao34, co34, eo34⟩ := S_slice HO282.out
         (first | subst eo34 | (injection eo34 with f1_ f2_ f3_; have f4_ := f1_.symm; have f5_ := f3_.symm; clear f1_ f2_ f3_; subst f4_; subst f5_))
         refine hK.out _ _ ⟨(blk_cell BK265.out 0).trans rfl, (blk_cell BK267.out 0).trans rfl, (blk_cell BK267.out 1).trans rfl, (blk_cell BK267.out 2).trans rfl⟩ (fun hHeld => ?_)
         clear hK K
         refine norm_ (a' := ?_) ?_ ?_
         rotate_left
         ·
          show Act.put _ (some 28) _ = _
          simp only [Act.put, List.setIfInBounds_toArray, List.set_cons_zero, List.set_cons_succ, i64_w, i32_w]
          rfl
         refine SQ.pu 15 29 HT_ ?_
         refine last_ (i := 16) (N := none) #[true, true, true, true, true, true, true, true, true, true, true, true, true, true, true, true, true] rfl rfl (one_of HT_.out (by kernel_rfl)) (by decide) (fun K hK => ?_)
         have hs35 : w33.cell? ⟨gb265, 0, none⟩ = some (.slice Ao21 x266000_1.length co21) := (blk_cell BK265.out 0).trans rfl
         have hfs35 := Zn BK265.out 0
         have hns35_0 := NB263_265.out
         have hns35_1 := NB264_265.out
         have hns35_3 := NB267_265.out
         have hms35_0 := NB265_263.out
         have hms35_1 := NB265_264.out
         have hms35_3 := NB265_267.out
         refine skip_ (w1 := ?_) (by rfl) rfl ?_ ?_
         rotate_left
         ·
          go_simp
          rfl
         refine hK.out _ _ ?_
         clear hK K
         refine done_ (done_of HT_.out (by kernel_rfl)) ?_
         try go_wp2
         go_roundg k1
         case measure => have := HK1.out; omega
         case rel => exact ⟨(wrap64 (x10_1 + 1)), (y280), (.slice Ao34 y280.length co34), (by first | rfl | (simp; done) | (simp [*]; done)), H', ⟨by have := HK1.out; omega⟩, ⟨by (with_reducible repeat (first | apply S_alloc | apply S_drewN | apply S_drew)); exact S_mono (S_far (p := ⟨gb265, 0, none⟩) (S_types HO282.out BK265.out (by decide)) (fun _ hk => hk.2) (.slice Ao34 y280.length co34)) (fun _ hk => trivial)⟩, ⟨by (with_reducible repeat (first | refine Za ?_ _ | refine Zb ?_ | refine blk_alloc ?_ _)); refine Zp ?_ NB263_265.out _; (with_reducible repeat (first | refine Za ?_ _ | refine Zb ?_ | refine blk_alloc ?_ _)); exact BK263.out⟩, ⟨by (with_reducible repeat (first | refine Za ?_ _ | refine Zb ?_ | refine blk_alloc ?_ _)); refine Zp ?_ NB264_265.out _; (with_reducible repeat (first | refine Za ?_ _ | refine Zb ?_ | refine blk_alloc ?_ _)); exact BK264.out⟩, ⟨by (with_reducible repeat (first | refine Za ?_ _ | refine Zb ?_ | refine blk_alloc ?_ _)); refine blk_put (cs := #[.slice Ao21 x266000_1.length co21]) ?_ 0 _ rfl; (with_reducible repeat (first | refine Za ?_ _ | refine Zb ?_ | refine blk_alloc ?_ _)); exact BK265.out⟩, ⟨by repeat (first | (with_reducible first | exact HB.out | apply Zf | apply Zd | apply Ze | refine Zg ?_ GE263.out | refine Zg ?_ GE264.out | refine Zg ?_ GE265.out | refine Zg ?_ GE267.out) | exact HB.out)⟩⟩
        rw [if_neg c15] at H
        exact absurd H (by simp)
       rw [if_neg c14] at H
       exact absurd H (by simp)
      rw [if_neg c13] at H
      exact absurd H (by simp)
     rw [if_neg c12] at H
     exact absurd H (by simp)
    rw [if_neg c11] at H
    exact absurd H (by simp)
   rw [if_neg c10] at H
   have c10b0 : decide (x10_1 < (l0_0.length : Int)) = false := decide_eq_false c10
   clear c10
   obtain rfl := Option.some.inj H
   have hnb36 := NB265_263.out
   have hnc36 := NB263_265.out
   have hnb37 := NB265_264.out
   have hnc37 := NB264_265.out
   have hcz38_0 : wr.cell? ⟨gb265, 0, none⟩ = some (u266000) := (blk_cell BK265.out 0).trans rfl
   have hfz38_0 := Zn BK265.out 0
   obtain ⟨Ao39, co39, eo39⟩ := S_slice HO_266000.out
   subst eo39
   have hnb40 := NB264_263.out
   have hnc40 := NB263_264.out
   have hcz41_0 : wr.cell? ⟨gb264, 0, none⟩ = some (.slice none 0 0) := (blk_cell BK264.out 0).trans rfl
   have hfz41_0 := Zn BK264.out 0
   go_wp2
   refine bodyPost_ret (results_cell_row rfl _ _ gb264 29 #[.slice Ao39 x266000_1.length co39] (0, 0) _ rfl (by (with_reducible repeat (first | refine Za ?_ _ | refine Zb ?_ | refine blk_alloc ?_ _)); refine blk_put (cs := #[.slice none 0 0]) ?_ 0 _ rfl; (with_reducible repeat (first | refine Za ?_ _ | refine Zb ?_ | refine blk_alloc ?_ _)); exact BK264.out) Tryd.underlying29 rfl (by kernel_rfl)) rfl ?_
   exact ⟨_, by first | rfl | (simp [errW_none, errW_some] <;> rfl) | (simp [*, errW_none, errW_some] <;> rfl), by (with_reducible repeat (first | apply S_alloc | apply S_drewN | apply S_drew)); exact S_mono (S_far (p := ⟨gb264, 0, none⟩) (S_types HO_266000.out BK264.out (by decide)) (fun _ hk => hk.2) (.slice Ao39 x266000_1.length co39)) (fun _ hk => trivial), by repeat (first | (with_reducible first | exact HB.out | apply Zf | apply Zd | apply Ze | refine Zg ?_ GE263.out | refine Zg ?_ GE264.out | refine Zg ?_ GE265.out) | exact HB.out)⟩
end Go.Proofs.YtmgeffgcihfpcaaDoor.F

namespace Go.Proofs.YtmgeffgcihfpcaaDoor.F
open Go.RowKit Go.Proofs.YtmgeffgcihfpcaaDoorW.PrintWords Go.Proofs.YtmgeffgcihfpcaaDoorW.PrintLast Go.Proofs.YtmgeffgcihfpcaaDoorW.PrintMore
set_option linter.unusedVariables false
def lays160_ren : Go.Shelf.Ren := ⟨fun | 160 => 104 | 232 => 110 | 231 => 109 | 227 => 111 | 234 => 113 | 233 => 112 | 236 => 115 | 235 => 114 | 228 => 118 | 271 => 121 | 151 => 120 | 197 => 119 | 120 => 125 | 152 => 124 | 260 => 123 | 137 => 127 | 119 => 128 | 224 => 129 | 225 => 130 | 217 => 131 | 266 => 132 | n => n, fun | 9 => 9 | 4 => 4 | 3 => 3 | 5 => 5 | 117 => 122 | 116 => 121 | 0 => 0 | 124 => 125 | 21 => 21 | 105 => 129 | 46 => 127 | 119 => 134 | 139 => 137 | 138 => 136 | n => n, fun | 3 => 0 | 4 => 1 | n => n⟩
theorem lays160 : Go.Proofs.Lays.n160 Tryd.prog lays160_ren where
  mixed := by kernel_rfl
  f119 := Tryd.func128.trans (congrArg some (by kernel_rfl))
  f120 := Tryd.func125.trans (congrArg some (by kernel_rfl))
  f137 := Tryd.func127.trans (congrArg some (by kernel_rfl))
  f151 := Tryd.func120.trans (congrArg some (by kernel_rfl))
  f152 := Tryd.func124.trans (congrArg some (by kernel_rfl))
  f160 := Tryd.func104.trans (congrArg some (by kernel_rfl))
  f197 := Tryd.func119.trans (congrArg some (by kernel_rfl))
  f217 := Tryd.func131.trans (congrArg some (by kernel_rfl))
  f224 := Tryd.func129.trans (congrArg some (by kernel_rfl))
  f225 := Tryd.func130.trans (congrArg some (by kernel_rfl))
  f227 := Tryd.func111.trans (congrArg some (by kernel_rfl))
  f228 := Tryd.func118.trans (congrArg some (by kernel_rfl))
  f231 := Tryd.func109.trans (congrArg some (by kernel_rfl))
  f232 := Tryd.func110.trans (congrArg some (by kernel_rfl))
  f233 := Tryd.func112.trans (congrArg some (by kernel_rfl))
  f234 := Tryd.func113.trans (congrArg some (by kernel_rfl))
  f235 := Tryd.func114.trans (congrArg some (by kernel_rfl))
  f236 := Tryd.func115.trans (congrArg some (by kernel_rfl))
  f260 := Tryd.func123.trans (congrArg some (by kernel_rfl))
  f266 := Tryd.func132.trans (congrArg some (by kernel_rfl))
  f271 := Tryd.func121.trans (congrArg some (by kernel_rfl))
  t0 := Tryd.underlying0
  a0 := Tryd.isAgg0
  z0 := Tryd.sizeOf0
  v0 := Tryd.zeroValue0
  t3 := Tryd.underlying3
  a3 := Tryd.isAgg3
  z3 := Tryd.sizeOf3
  v3 := Tryd.zeroValue3
  t4 := Tryd.underlying4
  a4 := Tryd.isAgg4
  z4 := Tryd.sizeOf4
  v4 := Tryd.zeroValue4
  t5 := Tryd.underlying5
  a5 := Tryd.isAgg5
  z5 := Tryd.sizeOf5
  v5 := Tryd.zeroValue5
  t9 := Tryd.underlying9
  a9 := Tryd.isAgg9
  z9 := Tryd.sizeOf9
  v9 := Tryd.zeroValue9
  t21 := Tryd.underlying21
  a21 := Tryd.isAgg21
  z21 := Tryd.sizeOf21
  v21 := Tryd.zeroValue21
  t46 := Tryd.underlying127
  a46 := Tryd.isAgg127
  z46 := Tryd.sizeOf127
  v46 := Tryd.zeroValue127
  t105 := Tryd.underlying129
  a105 := Tryd.isAgg129
  z105 := Tryd.sizeOf129
  v105 := Tryd.zeroValue129
  t116 := Tryd.underlying121
  a116 := Tryd.isAgg121
  z116 := Tryd.sizeOf121
  t117 := Tryd.underlying122
  a117 := Tryd.isAgg122
  z117 := Tryd.sizeOf122
  v117 := Tryd.zeroValue122
  t119 := Tryd.underlying134
  a119 := Tryd.isAgg134
  z119 := Tryd.sizeOf134
  t124 := Tryd.underlying125
  a124 := Tryd.isAgg125
  z124 := Tryd.sizeOf125
  v124 := Tryd.zeroValue125
  t138 := Tryd.underlying136
  a138 := Tryd.isAgg136
  z138 := Tryd.sizeOf136
  v138 := Tryd.zeroValue136
  t139 := Tryd.underlying137
  a139 := Tryd.isAgg137
  z139 := Tryd.sizeOf137
  v139 := Tryd.zeroValue137
  g3 := by kernel_rfl
  g4 := by kernel_rfl
def trimF.f (s c : ByteArray) : Option ByteArray := if s.size ≤ 9223372036854775807 ∧ c.size < 4294967281 ∧ c.data.toList.all (fun b => decide (b.toNat < 128)) = true then some ⟨(Go.Lib.trimS s.data.toList c.data.toList).toArray⟩ else none
theorem trimF.calls (a0 a1 : ByteArray) (r : ByteArray) (w : World) (h : trimF.f a0 a1 = some r) :
    Calls Tryd.prog 104 #[.string a0, .string a1] w fun e w' => e = .returned (.string r) ∧ Below w.heap.size w w' := by
  unfold trimF.f at h
  split at h
  · rename_i hc
    have h := Option.some.inj h
    subst h
    exact Any.strings_Trim_laid lays160 (by kernel_rfl) a0 a1 w hc.1 hc.2.1 (ascii_of_all hc.2.2)
  cases h
end Go.Proofs.YtmgeffgcihfpcaaDoor.F

namespace Go.Proofs.YtmgeffgcihfpcaaDoor.F
open Go.RowKit Go.Proofs.YtmgeffgcihfpcaaDoorW.PrintWords Go.Proofs.YtmgeffgcihfpcaaDoorW.PrintWords.Kd Go.Proofs.YtmgeffgcihfpcaaDoorW.PrintMore.Kd Go.Proofs.YtmgeffgcihfpcaaDoorW.PrintLast Go.Proofs.YtmgeffgcihfpcaaDoorW.PrintMore
attribute [local go_sem] max2_int min2_int max_two min_two max_three min_three max_four min_four   -- for this text's walks alone
set_option linter.unusedVariables false
set_option linter.unusedSimpArgs false
def impl_isFileName.f (a0 : ByteArray) : Option (Bool) := if (a0.size : Int) ≥ 1 then (if (a0.size : Int) ≤ 12 then ((trimF.f a0 (⟨#[97, 98, 99, 100, 101, 102, 103, 104, 105, 106, 107, 108, 109, 110, 111, 112, 113, 114, 115, 116, 117, 118, 119, 120, 121, 122, 48, 49, 50, 51, 52, 53, 54, 55, 56, 57]⟩ : ByteArray)).bind fun t147 => (some (t147.toList == ([] : List UInt8)))) else (some false)) else (some false)
set_option maxHeartbeats 8000000 in
set_option maxRecDepth 100000 in
theorem impl_isFileName.calls (a0 : ByteArray) (r : Bool) (w : World) (h : impl_isFileName.f a0 = some r) :
  Calls Tryd.prog 91 #[.string a0] w fun e w' => e = .returned (.bool r) ∧ Below w.heap.size w w' := by
 have HB := Zh (Below.refl w.heap.size w)
 have H : (if (a0.size : Int) ≥ 1 then (if (a0.size : Int) ≤ 12 then ((trimF.f a0 (⟨#[97, 98, 99, 100, 101, 102, 103, 104, 105, 106, 107, 108, 109, 110, 111, 112, 113, 114, 115, 116, 117, 118, 119, 120, 121, 122, 48, 49, 50, 51, 52, 53, 54, 55, 56, 57]⟩ : ByteArray)).bind fun t147 => (some (t147.toList == ([] : List UInt8)))) else (some false)) else (some false)) = some r := h
 clear h
 by_cases c2 : (a0.size : Int) ≥ 1
 ·
  rw [if_pos c2] at H
  have c2b0 : decide (1 ≤ (a0.size : Int)) = true := decide_eq_true c2
  have c2b1 : decide (1 ≤ a0.size) = true := decide_eq_true (by omega)
  clear c2
  by_cases c3 : (a0.size : Int) ≤ 12
  ·
   rw [if_pos c3] at H
   have c3b0 : decide ((a0.size : Int) ≤ 12) = true := decide_eq_true c3
   have c3b1 : decide (a0.size ≤ 12) = true := decide_eq_true (by omega)
   clear c3
   replace H := Option.bind_eq_some_iff.mp H
   obtain ⟨t147, A40, H⟩ := H
   replace H : (some (t147.toList == ([] : List UInt8))) = some r := H
   have A4 := Zh A40
   clear A40
   obtain rfl := Option.some.inj H
   go_enter Tryd.func91, Tryd.ntmps91
   go_wp2_with (first | (go_at_call 104; (with_reducible refine (trimF.calls a0 (⟨#[97, 98, 99, 100, 101, 102, 103, 104, 105, 106, 107, 108, 109, 110, 111, 112, 113, 114, 115, 116, 117, 118, 119, 120, 121, 122, 48, 49, 50, 51, 52, 53, 54, 55, 56, 57]⟩ : ByteArray) t147 _ A4.out).mono ?_); rintro e w5 ⟨rfl, hb⟩; have n0_ := Zh (Zl Zs hb); clear HB; have HB := n0_; clear n0_; (try clear hb); (try clear hb2); (try clear hk); (try clear hi)))
   go_ret
   exact ⟨by first | rfl | (simp [errW_none, errW_some] <;> rfl) | (simp [*, errW_none, errW_some] <;> rfl), by repeat (first | (with_reducible first | exact HB.out | apply Zf | apply Zd | apply Ze) | exact HB.out)⟩
  rw [if_neg c3] at H
  have c3b0 : decide ((a0.size : Int) ≤ 12) = false := decide_eq_false c3
  have c3b1 : decide (a0.size ≤ 12) = false := decide_eq_false (by omega)
  clear c3
  obtain rfl := Option.some.inj H
  go_enter Tryd.func91, Tryd.ntmps91
  go_wp2
  go_ret
  exact ⟨by first | rfl | (simp [errW_none, errW_some] <;> rfl) | (simp [*, errW_none, errW_some] <;> rfl), by repeat (first | (with_reducible first | exact HB.out | apply Zf | apply Zd | apply Ze) | exact HB.out)⟩
 rw [if_neg c2] at H
 have c2b0 : decide (1 ≤ (a0.size : Int)) = false := decide_eq_false c2
 have c2b1 : decide (1 ≤ a0.size) = false := decide_eq_false (by omega)
 clear c2
 obtain rfl := Option.some.inj H
 go_enter Tryd.func91, Tryd.ntmps91
 go_wp2
 go_ret
 exact ⟨by first | rfl | (simp [errW_none, errW_some] <;> rfl) | (simp [*, errW_none, errW_some] <;> rfl), by repeat (first | (with_reducible first | exact HB.out | apply Zf | apply Zd | apply Ze) | exact HB.out)⟩
end Go.Proofs.YtmgeffgcihfpcaaDoor.F

namespace Go.Proofs.YtmgeffgcihfpcaaDoor.F
open Go.Proofs.YtmgeffgcihfpcaaDoor
open Go.RowKit Go.Proofs.YtmgeffgcihfpcaaDoorW.PrintWords Go.Proofs.YtmgeffgcihfpcaaDoorW.PrintWords.Kd Go.Proofs.YtmgeffgcihfpcaaDoorW.PrintMore.Kd Go.Proofs.YtmgeffgcihfpcaaDoorW.PrintLast Go.Proofs.YtmgeffgcihfpcaaDoorW.PrintMore
attribute [local go_sem] max2_int min2_int max_two min_two max_three min_three max_four min_four   -- for this text's walks alone
set_option linter.unusedVariables false
set_option linter.unusedSimpArgs false
def impl_isDisk.l0 : Nat → List (S74) → Int → Int → List (S74) → Option (Bool)
 | 0, _, _, _, _ => none
 | k + 1, x6, x7, x8, x149000 => if x8 < x7 then (if 0 ≤ x8 then (if x8 < (x6.length : Int) then ((impl_isFileName.f ((rd_T74 x6 x8).f0)).bind fun t151 => (if t151 = true then (if (wrap64 ((((rd_T74 x6 x8).f1).length : Int) + (((rd_T74 x6 x8).f2).length : Int))) > 20000 then (some false) else (if x8 > 0 then (if 0 ≤ (wrap64 (x8 - 1)) then (if (wrap64 (x8 - 1)) < (x149000.length : Int) then (if ((Op.bytesLess (((rd_T74 x149000 (wrap64 (x8 - 1))).f0).toList) (((rd_T74 x6 x8).f0).toList)) = true) then (impl_isDisk.l0 k x6 x7 (wrap64 (x8 + 1)) x149000) else (some false)) else (none)) else (none)) else (impl_isDisk.l0 k x6 x7 (wrap64 (x8 + 1)) x149000))) else (some false))) else (none)) else (none)) else (some (decide ((x149000.length : Int) ≤ 8)))
def impl_isDisk.f (k : Nat) (l0_0 : List (S74)) : Option (Bool) := impl_isDisk.l0 k l0_0 (l0_0.length : Int) 0 l0_0
def impl_isDisk.T4 : Bool × List (List Nat × List Nat) := (true, [([], []), ([0], [0]), ([1], [1]), ([2], [2]), ([3, 2], [3]), ([4], [4]), ([5, 4], [4, 5]), ([6, 4], [4, 6]), ([4], [4]), ([8, 4], [4, 8]), ([9, 4], [4, 9]), ([7, 10, 4], [4, 7, 10]), ([11, 4], [4, 11]), ([4, 12], [4, 12]), ([13, 4], [13]), ([14], [14]), ([15, 14], [14, 15]), ([16, 14, 14], [14, 16]), ([17], [17]), ([18, 17], [17, 18]), ([17], [17]), ([20, 17], [17, 20]), ([19, 21, 17], [17, 19, 21]), ([22, 17], [17, 22]), ([23, 17], [17, 23]), ([17], [17]), ([25, 17], [17, 25]), ([24, 26, 17], [17, 24, 26]), ([17, 27, 14], [14, 17, 27]), ([14, 28], [14, 28])])
def impl_isDisk.B4 : List Nat := [0, 1, 3, 7, 15, 31, 63, 127, 31, 287, 799, 2047, 4095, 8191, 16383, 32767, 65535, 131071, 262143, 524287, 262143, 1310719, 4194303, 8388607, 16777215, 262143, 33816575, 134217727, 268435455, 536870911]
theorem impl_isDisk.tab4 : rtab .any (opsOf Tryd.f59 4) = impl_isDisk.T4 := by kernel_rfl
theorem impl_isDisk.bits4 : waitsOk impl_isDisk.T4.2 impl_isDisk.B4 = true := by kernel_rfl
set_option maxHeartbeats 8000000 in
set_option maxRecDepth 100000 in
theorem impl_isDisk.calls (k : Nat) (A0_0 : Option Addr) (c0_0 : Nat) (l0_0 : List (S74)) (r : Bool) (w : World) (hr0_0 : Kd.C k74 w A0_0 l0_0.length l0_0) (hc0_0 : l0_0.length ≤ c0_0) (h : impl_isDisk.f k l0_0 = some r) :
  Calls Tryd.prog 59 #[.agg #[.slice A0_0 l0_0.length c0_0]] w fun e w' => e = .returned (.bool r) ∧ Below w.heap.size w w' := by
 have hu29 := Tryd.underlying29
 have hu74 := Tryd.underlying74
 have HR0_0 := Zh hr0_0
 have HC0_0 := Zh hc0_0
 clear hr0_0 hc0_0
 have HB := Zh (Below.refl w.heap.size w)
 have H : (impl_isDisk.l0 k l0_0 (l0_0.length : Int) 0 l0_0) = some r := h
 clear h
 have H' := Zh H
 clear H
 go_enter Tryd.func59, Tryd.ntmps59
 go_wp2_with (first | ((with_reducible refine gate_dst (N := 1) rfl ?_); (try (refine gate_guard (by rfl) ?_; dsimp only)); refine box_event ?hg (N := 1) ?hd (cs := #[.slice A0_0 l0_0.length c0_0]) (t := 29) ?hr ?_; (case hd => rfl); (case hg => rfl); (case hr => first | (go_simp; done) | (go_simp; rfl)); intro gb148 hg w2 hbox hb; have n0_ := Zh (Zl Zs hb); have n1_ := Zh (hbox); have n2_ := Zh ((by rw [hg]; exact (below_size Zs) : w.heap.size ≤ gb148)); have n3_ := Zh ((by rw [hg]; exact (below_size Zs) : w.heap.size ≤ gb148)); clear HB; have HB := n0_; have BK148 := n1_; have GW148 := n2_; have GE148 := n3_; clear n0_ n1_ n2_ n3_; clear hb hbox hg; have hcz3_0 : w2.cell? ⟨gb148, 0, none⟩ = some (.slice A0_0 l0_0.length c0_0) := (blk_cell BK148.out 0).trans rfl; have hfz3_0 := Zn BK148.out 0))
 go_loopg [8] k (fun kq v8 w' => ∃ (x8_1 : Int), v8 = .int .i64 x8_1 ∧ Aside0 (impl_isDisk.l0 kq l0_0 (l0_0.length : Int) x8_1 l0_0 = some r) ∧ Aside0 (kq ≤ k) ∧ Aside0 (w'.heap[gb148]? = some (.cells #[(.slice A0_0 l0_0.length c0_0)] 29 (0, 0))) ∧ Aside0 (Below w.heap.size w w'))
 case atStart => exact ⟨(0), (by first | rfl | (simp; done) | (simp [*]; done)), H', ⟨Nat.le_refl _⟩, ⟨by (with_reducible repeat (first | refine Za ?_ _ | refine Zb ?_ | refine blk_alloc ?_ _)); exact BK148.out⟩, ⟨by repeat (first | (with_reducible first | exact HB.out | apply Zf | apply Zd | apply Ze | refine Zg ?_ GE148.out) | exact HB.out)⟩⟩
 case round =>
  clear H'
  try clear p2
  try clear hcz3_0
  try clear hfz3_0
  obtain ⟨x8_1, rfl, HA, HK1, BK148, HB⟩ := hrel
  cases gk with
  | zero => exact absurd HA.out (by simp [impl_isDisk.l0])
  | succ k1 =>
   have H := HA.out
   clear HA
   simp only [impl_isDisk.l0] at H
   by_cases c4 : x8_1 < (l0_0.length : Int)
   ·
    rw [if_pos c4] at H
    have c4b0 : decide (x8_1 < (l0_0.length : Int)) = true := decide_eq_true c4
    clear c4
    by_cases c5 : 0 ≤ x8_1
    ·
     rw [if_pos c5] at H
     have c5b0 : decide (0 ≤ x8_1) = true := decide_eq_true c5
     clear c5
     by_cases c6 : x8_1 < (l0_0.length : Int)
     ·
      rw [if_pos c6] at H
      have c6b0 : decide (x8_1 < (l0_0.length : Int)) = true := decide_eq_true c6
      clear c6
      replace H := Option.bind_eq_some_iff.mp H
      obtain ⟨t151, A70, H⟩ := H
      replace H : (if t151 = true then (if (wrap64 ((((rd_T74 l0_0 x8_1).f1).length : Int) + (((rd_T74 l0_0 x8_1).f2).length : Int))) > 20000 then (some false) else (if x8_1 > 0 then (if 0 ≤ (wrap64 (x8_1 - 1)) then (if (wrap64 (x8_1 - 1)) < (l0_0.length : Int) then (if ((Op.bytesLess (((rd_T74 l0_0 (wrap64 (x8_1 - 1))).f0).toList) (((rd_T74 l0_0 x8_1).f0).toList)) = true) then (impl_isDisk.l0 k1 l0_0 (l0_0.length : Int) (wrap64 (x8_1 + 1)) l0_0) else (some false)) else (none)) else (none)) else (impl_isDisk.l0 k1 l0_0 (l0_0.length : Int) (wrap64 (x8_1 + 1)) l0_0))) else (some false)) = some r := H
      have A7 := Zh A70
      clear A70
      by_cases c8 : t151 = true
      ·
       subst c8
       have H1 : (if (wrap64 ((((rd_T74 l0_0 x8_1).f1).length : Int) + (((rd_T74 l0_0 x8_1).f2).length : Int))) > 20000 then (some false) else (if x8_1 > 0 then (if 0 ≤ (wrap64 (x8_1 - 1)) then (if (wrap64 (x8_1 - 1)) < (l0_0.length : Int) then (if ((Op.bytesLess (((rd_T74 l0_0 (wrap64 (x8_1 - 1))).f0).toList) (((rd_T74 l0_0 x8_1).f0).toList)) = true) then (impl_isDisk.l0 k1 l0_0 (l0_0.length : Int) (wrap64 (x8_1 + 1)) l0_0) else (some false)) else (none)) else (none)) else (impl_isDisk.l0 k1 l0_0 (l0_0.length : Int) (wrap64 (x8_1 + 1)) l0_0))) = some r := by rw [if_pos rfl] at H; exact H
       clear H
       have H := H1
       clear H1
       by_cases c9 : (wrap64 ((((rd_T74 l0_0 x8_1).f1).length : Int) + (((rd_T74 l0_0 x8_1).f2).length : Int))) > 20000
       ·
        rw [if_pos c9] at H
        have c9b0 : decide (20000 < (wrap64 ((((rd_T74 l0_0 x8_1).f1).length : Int) + (((rd_T74 l0_0 x8_1).f2).length : Int)))) = true := decide_eq_true c9
        clear c9
        obtain rfl := Option.some.inj H
        have p149 : 0 ≤ (x8_1 : Int) := Zo
        have q149 : x8_1 < (l0_0.length : Int) := Zo
        obtain ⟨ad149, A149_1, c149_1, A149_2, c149_2, e149, hx149_0, hx149_1, hx149_2, hl149_1, hi149_1, hl149_2, hi149_2⟩ := at_T74 HR0_0.out x8_1 p149 q149
        cases e149
        replace hx149_0 := Zc HB.out hx149_0
        replace hx149_1 := Zc HB.out hx149_1
        replace hx149_2 := Zc HB.out hx149_2
        have HR149_1 := Zh hi149_1
        have HC149_1 := Zh hl149_1
        clear hi149_1 hl149_1
        have HR149_2 := Zh hi149_2
        have HC149_2 := Zh hl149_2
        clear hi149_2 hl149_2
        replace p149 := eq_true p149
        replace q149 := eq_true q149
        try go_wp2_with (first | ((with_reducible refine gate_dst (N := 4) rfl ?_); (try (refine gate_guard (by rfl) ?_; dsimp only)); refine box_event ?hg (N := 4) ?hd (cs := #[.string (⟨#[]⟩ : ByteArray), .slice none 0 0, .slice none 0 0]) (t := 74) ?hr ?_; (case hd => rfl); (case hg => rfl); (case hr => first | (go_simp; done) | (go_simp; rfl)); intro gb150 hg w10 hbox hb; have n0_ := Zh (Zm (g := gb148) (o := .cells #[.slice (some ad149) l0_0.length c0_0] 29 (0, 0)) Zk hb); have n1_ := Zh (Zl Zs hb); have n2_ := Zh (hbox); have n3_ := Zh ((by rw [hg]; exact (below_size Zs) : w.heap.size ≤ gb150)); have n4_ := Zh ((by rw [hg]; exact (below_size Zs) : w.heap.size ≤ gb150)); have n5_ := Zh ((by rw [hg]; exact Nat.ne_of_lt (blk_lt (g := gb148) (o := .cells #[.slice (some ad149) l0_0.length c0_0] 29 (0, 0)) Zk) : gb148 ≠ gb150)); have n6_ := Zh ((by rw [hg]; exact Nat.ne_of_gt (blk_lt (g := gb148) (o := .cells #[.slice (some ad149) l0_0.length c0_0] 29 (0, 0)) Zk) : gb150 ≠ gb148)); clear BK148; clear HB; have BK148 := n0_; have HB := n1_; have BK150 := n2_; have GW150 := n3_; have GE150 := n4_; have NB148_150 := n5_; have NB150_148 := n6_; clear n0_ n1_ n2_ n3_ n4_ n5_ n6_; clear hb hbox hg; have hnb11 := NB150_148.out; have hnc11 := NB148_150.out; have hcz12_0 : w10.cell? ⟨gb150, 0, none⟩ = some (.string (⟨#[]⟩ : ByteArray)) := (blk_cell BK150.out 0).trans rfl; have hcz12_1 : w10.cell? ⟨gb150, 1, none⟩ = some (.slice none 0 0) := (blk_cell BK150.out 1).trans rfl; have hcz12_2 : w10.cell? ⟨gb150, 2, none⟩ = some (.slice none 0 0) := (blk_cell BK150.out 2).trans rfl; have hfz12_0 := Zn BK150.out 0; have hfz12_1 := Zn BK150.out 1; have hfz12_2 := Zn BK150.out 2))
        have n0_ : Aside0 ((((w10.setCell ⟨gb150, 0, none⟩ (.string ((rd_T74 l0_0 x8_1).f0))).setCell ⟨gb150, 1, none⟩ (.slice A149_1 ((rd_T74 l0_0 x8_1).f1).length c149_1)).setCell ⟨gb150, 2, none⟩ (.slice A149_2 ((rd_T74 l0_0 x8_1).f2).length c149_2)).heap[gb148]? = some (.cells #[.slice (some ad149) l0_0.length c0_0] 29 (0, 0))) := ⟨by (with_reducible repeat (first | refine Za ?_ _ | refine Zb ?_ | refine blk_alloc ?_ _)); refine Zp ?_ NB148_150.out _; (with_reducible repeat (first | refine Za ?_ _ | refine Zb ?_ | refine blk_alloc ?_ _)); refine Zp ?_ NB148_150.out _; (with_reducible repeat (first | refine Za ?_ _ | refine Zb ?_ | refine blk_alloc ?_ _)); refine Zp ?_ NB148_150.out _; (with_reducible repeat (first | refine Za ?_ _ | refine Zb ?_ | refine blk_alloc ?_ _)); exact BK148.out⟩
        have n1_ : Aside0 ((((w10.setCell ⟨gb150, 0, none⟩ (.string ((rd_T74 l0_0 x8_1).f0))).setCell ⟨gb150, 1, none⟩ (.slice A149_1 ((rd_T74 l0_0 x8_1).f1).length c149_1)).setCell ⟨gb150, 2, none⟩ (.slice A149_2 ((rd_T74 l0_0 x8_1).f2).length c149_2)).heap[gb150]? = some (.cells #[.string ((rd_T74 l0_0 x8_1).f0), .slice A149_1 ((rd_T74 l0_0 x8_1).f1).length c149_1, .slice A149_2 ((rd_T74 l0_0 x8_1).f2).length c149_2] 74 (0, 0))) := ⟨by (with_reducible repeat (first | refine Za ?_ _ | refine Zb ?_ | refine blk_alloc ?_ _)); refine blk_put (cs := #[.string ((rd_T74 l0_0 x8_1).f0), .slice A149_1 ((rd_T74 l0_0 x8_1).f1).length c149_1, .slice none 0 0]) ?_ 2 _ rfl; (with_reducible repeat (first | refine Za ?_ _ | refine Zb ?_ | refine blk_alloc ?_ _)); refine blk_put (cs := #[.string ((rd_T74 l0_0 x8_1).f0), .slice none 0 0, .slice none 0 0]) ?_ 1 _ rfl; (with_reducible repeat (first | refine Za ?_ _ | refine Zb ?_ | refine blk_alloc ?_ _)); refine blk_put (cs := #[.string (⟨#[]⟩ : ByteArray), .slice none 0 0, .slice none 0 0]) ?_ 0 _ rfl; (with_reducible repeat (first | refine Za ?_ _ | refine Zb ?_ | refine blk_alloc ?_ _)); exact BK150.out⟩
        have n2_ : Aside0 (Below w.heap.size w (((w10.setCell ⟨gb150, 0, none⟩ (.string ((rd_T74 l0_0 x8_1).f0))).setCell ⟨gb150, 1, none⟩ (.slice A149_1 ((rd_T74 l0_0 x8_1).f1).length c149_1)).setCell ⟨gb150, 2, none⟩ (.slice A149_2 ((rd_T74 l0_0 x8_1).f2).length c149_2))) := ⟨by repeat (first | (with_reducible first | exact HB.out | apply Zf | apply Zd | apply Ze | refine Zg ?_ GE148.out | refine Zg ?_ GE150.out) | exact HB.out)⟩
        (try clear BK148)
        (try clear BK150)
        (try clear HB)
        generalize (((w10.setCell ⟨gb150, 0, none⟩ (.string ((rd_T74 l0_0 x8_1).f0))).setCell ⟨gb150, 1, none⟩ (.slice A149_1 ((rd_T74 l0_0 x8_1).f1).length c149_1)).setCell ⟨gb150, 2, none⟩ (.slice A149_2 ((rd_T74 l0_0 x8_1).f2).length c149_2)) = w13 at n0_ n1_ n2_ ⊢
        have BK148 := n0_
        have BK150 := n1_
        have HB := n2_
        clear n0_ n1_ n2_
        have n0_ := Zh (Zb BK148.out)
        have n1_ := Zh (Zb BK150.out)
        have n2_ := Zh (Ze HB.out)
        clear BK148
        clear BK150
        clear HB
        have BK148 := n0_
        have BK150 := n1_
        have HB := n2_
        clear n0_ n1_ n2_
        refine start_ (n := 30) (S := fun w' => w'.cell? ⟨gb150, 0, none⟩ = some (.string ((rd_T74 l0_0 x8_1).f0)) ∧ w'.cell? ⟨gb150, 1, none⟩ = some (.slice A149_1 ((rd_T74 l0_0 x8_1).f1).length c149_1) ∧ w'.cell? ⟨gb150, 2, none⟩ = some (.slice A149_2 ((rd_T74 l0_0 x8_1).f2).length c149_2)) (ds := []) #[false, false, false, false, false, false, false, false, false, false, false, false, false, false, false, false, false, false, false, false, false, false, false, false, false, false, false, false, false, false] (by kernel_rfl) rfl rfl ⟨(blk_cell BK150.out 0).trans rfl, (blk_cell BK150.out 1).trans rfl, (blk_cell BK150.out 2).trans rfl⟩ (fun hHeld => ?_); refine with_tabW impl_isDisk.tab4 impl_isDisk.bits4 (fun HT_ HW_ => ?_)
        generalize w13.drew = w14 at BK148 BK150 HB hHeld ⊢
        refine SQ.pu 0 13 HT_ ?_
        refine SQ.tk 1 14 HT_ HW_ hHeld ?_
        refine one_ (i := 2) (N := some 15) #[true, true, true, false, false, false, false, false, false, false, false, false, false, false, false, false, false, false, false, false, false, false, false, false, false, false, false, false, false, false] rfl rfl (one_of HT_.out (by kernel_rfl)) (by decide) (fun K hK => ?_)
        refine goes_ Tryd.func91 (by kernel_rfl) rfl #[.string ((rd_T74 l0_0 x8_1).f0)] (by rfl) rfl rfl (by (try simp only [List.map_toArray, List.map_cons, List.map_nil]); first | done | rfl | (simp only [List.length_drop, List.length_take]; rfl)) ?_
        with_reducible refine (impl_isFileName.calls ((rd_T74 l0_0 x8_1).f0) true _ A7.out).mono ?_
        rintro e w15 ⟨rfl, hb⟩
        refine ⟨_, rfl, ?_⟩
        have n0_ := Zh (Zm (g := gb148) (o := .cells #[.slice (some ad149) l0_0.length c0_0] 29 (0, 0)) Zk hb)
        have n1_ := Zh (Zm (g := gb150) (o := .cells #[.string ((rd_T74 l0_0 x8_1).f0), .slice A149_1 ((rd_T74 l0_0 x8_1).f1).length c149_1, .slice A149_2 ((rd_T74 l0_0 x8_1).f2).length c149_2] 74 (0, 0)) Zk hb)
        have n2_ := Zh (Zl Zs hb)
        clear BK148
        clear BK150
        clear HB
        have BK148 := n0_
        have BK150 := n1_
        have HB := n2_
        clear n0_ n1_ n2_
        (try clear hb)
        (try clear hb2)
        (try clear hk)
        (try clear hi)
        refine hK.out _ _ ⟨(blk_cell BK150.out 0).trans rfl, (blk_cell BK150.out 1).trans rfl, (blk_cell BK150.out 2).trans rfl⟩ (fun hHeld => ?_)
        clear hK K
        refine norm_ (a' := ?_) ?_ ?_
        rotate_left
        ·
         show Act.put _ (some 15) _ = _
         simp only [Act.put, List.setIfInBounds_toArray, List.set_cons_zero, List.set_cons_succ, i64_w, i32_w]
         rfl
        refine SQ.pu 3 16 HT_ ?_
        refine SQ.pu 4 17 HT_ ?_
        refine SQ.pu 5 18 HT_ ?_
        refine SQ.pu 8 21 HT_ ?_
        refine SQ.tk 6 19 HT_ HW_ hHeld ?_
        refine SQ.pu 7 20 HT_ ?_
        refine SQ.tk 9 22 HT_ HW_ hHeld ?_
        refine SQ.pu 10 23 HT_ ?_
        refine SQ.pu 11 24 HT_ ?_
        refine SQ.pu 12 25 HT_ ?_
        refine SQ.pu 13 26 HT_ ?_
        refine SQ.pu 14 27 HT_ ?_
        refine SQ.of 15 28 HT_ ?_
        refine SQ.of 16 29 HT_ ?_
        refine SQ.of 17 30 HT_ ?_
        refine SQ.of 18 31 HT_ ?_
        refine SQ.of 19 32 HT_ ?_
        refine SQ.of 20 33 HT_ ?_
        refine SQ.of 21 34 HT_ ?_
        refine SQ.of 22 35 HT_ ?_
        refine SQ.of 23 36 HT_ ?_
        refine SQ.of 24 37 HT_ ?_
        refine SQ.of 25 38 HT_ ?_
        refine SQ.of 26 39 HT_ ?_
        refine SQ.of 27 40 HT_ ?_
        refine SQ.of 28 41 HT_ ?_
        refine SQ.pu 29 42 HT_ ?_
        refine done_ (done_of HT_.out (by kernel_rfl)) ?_
        try go_wp2
        go_ret
        exact ⟨by first | rfl | (simp [errW_none, errW_some] <;> rfl) | (simp [*, errW_none, errW_some] <;> rfl), by repeat (first | (with_reducible first | exact HB.out | apply Zf | apply Zd | apply Ze | refine Zg ?_ GE148.out | refine Zg ?_ GE150.out) | exact HB.out)⟩
       rw [if_neg c9] at H
       have c9b0 : decide (20000 < (wrap64 ((((rd_T74 l0_0 x8_1).f1).length : Int) + (((rd_T74 l0_0 x8_1).f2).length : Int)))) = false := decide_eq_false c9
       clear c9
       by_cases c16 : x8_1 > 0
       ·
        rw [if_pos c16] at H
        have c16b0 : decide (0 < x8_1) = true := decide_eq_true c16
        clear c16
        obtain ⟨ji17, hji17⟩ : ∃ j_ : Int, (wrap64 (x8_1 - 1)) = j_ := ⟨_, rfl⟩
        replace H : (if 0 ≤ (ji17) then (if (ji17) < (l0_0.length : Int) then (if ((Op.bytesLess (((rd_T74 l0_0 (ji17)).f0).toList) (((rd_T74 l0_0 x8_1).f0).toList)) = true) then (impl_isDisk.l0 k1 l0_0 (l0_0.length : Int) (wrap64 (x8_1 + 1)) l0_0) else (some false)) else (none)) else (none)) = some r := by first | (rw [hji17] at H; exact H) | (simp only [hji17] at H ⊢; exact H)
        (try rw [hji17] at A7)
        have hji17w : (IntKind.i64.wrap (x8_1 - 1)) = ji17 := (i64_w _).trans hji17
        by_cases c18 : 0 ≤ (ji17)
        ·
         rw [if_pos c18] at H
         have c18b0 : decide (0 ≤ (ji17)) = true := decide_eq_true c18
         clear c18
         by_cases c19 : (ji17) < (l0_0.length : Int)
         ·
          rw [if_pos c19] at H
          have c19b0 : decide ((ji17) < (l0_0.length : Int)) = true := decide_eq_true c19
          clear c19
          by_cases c20 : ((Op.bytesLess (((rd_T74 l0_0 (ji17)).f0).toList) (((rd_T74 l0_0 x8_1).f0).toList)) = true)
          ·
           rw [if_pos c20] at H
           have c20b0 : (Op.bytesLess (((rd_T74 l0_0 (ji17)).f0).toList) (((rd_T74 l0_0 x8_1).f0).toList)) = true := c20
           clear c20
           have H' := Zh H
           clear H
           have p149 : 0 ≤ (x8_1 : Int) := Zo
           have q149 : x8_1 < (l0_0.length : Int) := Zo
           obtain ⟨ad149, A149_1, c149_1, A149_2, c149_2, e149, hx149_0, hx149_1, hx149_2, hl149_1, hi149_1, hl149_2, hi149_2⟩ := at_T74 HR0_0.out x8_1 p149 q149
           cases e149
           replace hx149_0 := Zc HB.out hx149_0
           replace hx149_1 := Zc HB.out hx149_1
           replace hx149_2 := Zc HB.out hx149_2
           have HR149_1 := Zh hi149_1
           have HC149_1 := Zh hl149_1
           clear hi149_1 hl149_1
           have HR149_2 := Zh hi149_2
           have HC149_2 := Zh hl149_2
           clear hi149_2 hl149_2
           replace p149 := eq_true p149
           replace q149 := eq_true q149
           try go_wp2_with (first | ((with_reducible refine gate_dst (N := 4) rfl ?_); (try (refine gate_guard (by rfl) ?_; dsimp only)); refine box_event ?hg (N := 4) ?hd (cs := #[.string (⟨#[]⟩ : ByteArray), .slice none 0 0, .slice none 0 0]) (t := 74) ?hr ?_; (case hd => rfl); (case hg => rfl); (case hr => first | (go_simp; done) | (go_simp; rfl)); intro gb150 hg w21 hbox hb; have n0_ := Zh (Zm (g := gb148) (o := .cells #[.slice (some ad149) l0_0.length c0_0] 29 (0, 0)) Zk hb); have n1_ := Zh (Zl Zs hb); have n2_ := Zh (hbox); have n3_ := Zh ((by rw [hg]; exact (below_size Zs) : w.heap.size ≤ gb150)); have n4_ := Zh ((by rw [hg]; exact (below_size Zs) : w.heap.size ≤ gb150)); have n5_ := Zh ((by rw [hg]; exact Nat.ne_of_lt (blk_lt (g := gb148) (o := .cells #[.slice (some ad149) l0_0.length c0_0] 29 (0, 0)) Zk) : gb148 ≠ gb150)); have n6_ := Zh ((by rw [hg]; exact Nat.ne_of_gt (blk_lt (g := gb148) (o := .cells #[.slice (some ad149) l0_0.length c0_0] 29 (0, 0)) Zk) : gb150 ≠ gb148)); clear BK148; clear HB; have BK148 := n0_; have HB := n1_; have BK150 := n2_; have GW150 := n3_; have GE150 := n4_; have NB148_150 := n5_; have NB150_148 := n6_; clear n0_ n1_ n2_ n3_ n4_ n5_ n6_; clear hb hbox hg; have hnb22 := NB150_148.out; have hnc22 := NB148_150.out; have hcz23_0 : w21.cell? ⟨gb150, 0, none⟩ = some (.string (⟨#[]⟩ : ByteArray)) := (blk_cell BK150.out 0).trans rfl; have hcz23_1 : w21.cell? ⟨gb150, 1, none⟩ = some (.slice none 0 0) := (blk_cell BK150.out 1).trans rfl; have hcz23_2 : w21.cell? ⟨gb150, 2, none⟩ = some (.slice none 0 0) := (blk_cell BK150.out 2).trans rfl; have hfz23_0 := Zn BK150.out 0; have hfz23_1 := Zn BK150.out 1; have hfz23_2 := Zn BK150.out 2))
           have n0_ : Aside0 ((((w21.setCell ⟨gb150, 0, none⟩ (.string ((rd_T74 l0_0 x8_1).f0))).setCell ⟨gb150, 1, none⟩ (.slice A149_1 ((rd_T74 l0_0 x8_1).f1).length c149_1)).setCell ⟨gb150, 2, none⟩ (.slice A149_2 ((rd_T74 l0_0 x8_1).f2).length c149_2)).heap[gb148]? = some (.cells #[.slice (some ad149) l0_0.length c0_0] 29 (0, 0))) := ⟨by (with_reducible repeat (first | refine Za ?_ _ | refine Zb ?_ | refine blk_alloc ?_ _)); refine Zp ?_ NB148_150.out _; (with_reducible repeat (first | refine Za ?_ _ | refine Zb ?_ | refine blk_alloc ?_ _)); refine Zp ?_ NB148_150.out _; (with_reducible repeat (first | refine Za ?_ _ | refine Zb ?_ | refine blk_alloc ?_ _)); refine Zp ?_ NB148_150.out _; (with_reducible repeat (first | refine Za ?_ _ | refine Zb ?_ | refine blk_alloc ?_ _)); exact BK148.out⟩
           have n1_ : Aside0 ((((w21.setCell ⟨gb150, 0, none⟩ (.string ((rd_T74 l0_0 x8_1).f0))).setCell ⟨gb150, 1, none⟩ (.slice A149_1 ((rd_T74 l0_0 x8_1).f1).length c149_1)).setCell ⟨gb150, 2, none⟩ (.slice A149_2 ((rd_T74 l0_0 x8_1).f2).length c149_2)).heap[gb150]? = some (.cells #[.string ((rd_T74 l0_0 x8_1).f0), .slice A149_1 ((rd_T74 l0_0 x8_1).f1).length c149_1, .slice A149_2 ((rd_T74 l0_0 x8_1).f2).length c149_2] 74 (0, 0))) := ⟨by (with_reducible repeat (first | refine Za ?_ _ | refine Zb ?_ | refine blk_alloc ?_ _)); refine blk_put (cs := #[.string ((rd_T74 l0_0 x8_1).f0), .slice A149_1 ((rd_T74 l0_0 x8_1).f1).length c149_1, .slice none 0 0]) ?_ 2 _ rfl; (with_reducible repeat (first | refine Za ?_ _ | refine Zb ?_ | refine blk_alloc ?_ _)); refine blk_put (cs := #[.string ((rd_T74 l0_0 x8_1).f0), .slice none 0 0, .slice none 0 0]) ?_ 1 _ rfl; (with_reducible repeat (first | refine Za ?_ _ | refine Zb ?_ | refine blk_alloc ?_ _)); refine blk_put (cs := #[.string (⟨#[]⟩ : ByteArray), .slice none 0 0, .slice none 0 0]) ?_ 0 _ rfl; (with_reducible repeat (first | refine Za ?_ _ | refine Zb ?_ | refine blk_alloc ?_ _)); exact BK150.out⟩
           have n2_ : Aside0 (Below w.heap.size w (((w21.setCell ⟨gb150, 0, none⟩ (.string ((rd_T74 l0_0 x8_1).f0))).setCell ⟨gb150, 1, none⟩ (.slice A149_1 ((rd_T74 l0_0 x8_1).f1).length c149_1)).setCell ⟨gb150, 2, none⟩ (.slice A149_2 ((rd_T74 l0_0 x8_1).f2).length c149_2))) := ⟨by repeat (first | (with_reducible first | exact HB.out | apply Zf | apply Zd | apply Ze | refine Zg ?_ GE148.out | refine Zg ?_ GE150.out) | exact HB.out)⟩
           (try clear BK148)
           (try clear BK150)
           (try clear HB)
           generalize (((w21.setCell ⟨gb150, 0, none⟩ (.string ((rd_T74 l0_0 x8_1).f0))).setCell ⟨gb150, 1, none⟩ (.slice A149_1 ((rd_T74 l0_0 x8_1).f1).length c149_1)).setCell ⟨gb150, 2, none⟩ (.slice A149_2 ((rd_T74 l0_0 x8_1).f2).length c149_2)) = w24 at n0_ n1_ n2_ ⊢
           have BK148 := n0_
           have BK150 := n1_
           have HB := n2_
           clear n0_ n1_ n2_
           have n0_ := Zh (Zb BK148.out)
           have n1_ := Zh (Zb BK150.out)
           have n2_ := Zh (Ze HB.out)
           clear BK148
           clear BK150
           clear HB
           have BK148 := n0_
           have BK150 := n1_
           have HB := n2_
           clear n0_ n1_ n2_
           have p152 : 0 ≤ ((ji17) : Int) := Zo
           have q152 : (ji17) < (l0_0.length : Int) := Zo
           obtain ⟨ad152, A152_1, c152_1, A152_2, c152_2, e152, hx152_0, hx152_1, hx152_2, hl152_1, hi152_1, hl152_2, hi152_2⟩ := at_T74 HR0_0.out (ji17) p152 q152
           have hw152_2 := hx152_2
           have hw152_1 := hx152_1
           have hw152_0 := hx152_0
           obtain rfl : ad149 = ad152 := (by injection e152)
           replace hx152_0 := Zc HB.out hx152_0
           replace hx152_1 := Zc HB.out hx152_1
           replace hx152_2 := Zc HB.out hx152_2
           have HR152_1 := Zh hi152_1
           have HC152_1 := Zh hl152_1
           clear hi152_1 hl152_1
           have HR152_2 := Zh hi152_2
           have HC152_2 := Zh hl152_2
           clear hi152_2 hl152_2
           replace p152 := eq_true p152
           replace q152 := eq_true q152
           refine start_ (n := 30) (S := fun w' => w'.cell? ⟨gb150, 0, none⟩ = some (.string ((rd_T74 l0_0 x8_1).f0)) ∧ w'.cell? ⟨gb150, 1, none⟩ = some (.slice A149_1 ((rd_T74 l0_0 x8_1).f1).length c149_1) ∧ w'.cell? ⟨gb150, 2, none⟩ = some (.slice A149_2 ((rd_T74 l0_0 x8_1).f2).length c149_2) ∧ w'.cell? ⟨gb148, 0, none⟩ = some (.slice (some ad149) l0_0.length c0_0) ∧ w'.cell? (ad149.add (((ji17)).toNat * 3)) = some (.string ((rd_T74 l0_0 (ji17)).f0)) ∧ w'.cell? ⟨(ad149.add (((ji17)).toNat * 3)).block, (ad149.add (((ji17)).toNat * 3)).off + 1, none⟩ = some (.slice A152_1 ((rd_T74 l0_0 (ji17)).f1).length c152_1) ∧ w'.cell? ⟨(ad149.add (((ji17)).toNat * 3)).block, (ad149.add (((ji17)).toNat * 3)).off + 2, none⟩ = some (.slice A152_2 ((rd_T74 l0_0 (ji17)).f2).length c152_2)) (ds := []) #[false, false, false, false, false, false, false, false, false, false, false, false, false, false, false, false, false, false, false, false, false, false, false, false, false, false, false, false, false, false] (by kernel_rfl) rfl rfl ⟨(blk_cell BK150.out 0).trans rfl, (blk_cell BK150.out 1).trans rfl, (blk_cell BK150.out 2).trans rfl, (blk_cell BK148.out 0).trans rfl, ((HB.out.cell (Zi w _ hw152_0)).trans hw152_0), ((HB.out.cell (Zi w _ hw152_1)).trans hw152_1), ((HB.out.cell (Zi w _ hw152_2)).trans hw152_2)⟩ (fun hHeld => ?_); refine with_tabW impl_isDisk.tab4 impl_isDisk.bits4 (fun HT_ HW_ => ?_)
           generalize w24.drew = w25 at BK148 BK150 HB HR152_1 HR152_2 hx152_0 hx152_1 hx152_2 hHeld ⊢
           refine SQ.pu 0 13 HT_ ?_
           refine SQ.tk 1 14 HT_ HW_ hHeld ?_
           refine one_ (i := 2) (N := some 15) #[true, true, true, false, false, false, false, false, false, false, false, false, false, false, false, false, false, false, false, false, false, false, false, false, false, false, false, false, false, false] rfl rfl (one_of HT_.out (by kernel_rfl)) (by decide) (fun K hK => ?_)
           refine goes_ Tryd.func91 (by kernel_rfl) rfl #[.string ((rd_T74 l0_0 x8_1).f0)] (by rfl) rfl rfl (by (try simp only [List.map_toArray, List.map_cons, List.map_nil]); first | done | rfl | (simp only [List.length_drop, List.length_take]; rfl)) ?_
           with_reducible refine (impl_isFileName.calls ((rd_T74 l0_0 x8_1).f0) true _ A7.out).mono ?_
           rintro e w26 ⟨rfl, hb⟩
           refine ⟨_, rfl, ?_⟩
           have n0_ := Zh (Zm (g := gb148) (o := .cells #[.slice (some ad149) l0_0.length c0_0] 29 (0, 0)) Zk hb)
           have n1_ := Zh (Zm (g := gb150) (o := .cells #[.string ((rd_T74 l0_0 x8_1).f0), .slice A149_1 ((rd_T74 l0_0 x8_1).f1).length c149_1, .slice A149_2 ((rd_T74 l0_0 x8_1).f2).length c149_2] 74 (0, 0)) Zk hb)
           have n2_ := Zh (Zl Zs hb)
           clear BK148
           clear BK150
           clear HB
           have BK148 := n0_
           have BK150 := n1_
           have HB := n2_
           clear n0_ n1_ n2_
           (try clear hb)
           (try clear hb2)
           (try clear hk)
           (try clear hi)
           refine hK.out _ _ ⟨(blk_cell BK150.out 0).trans rfl, (blk_cell BK150.out 1).trans rfl, (blk_cell BK150.out 2).trans rfl, (blk_cell BK148.out 0).trans rfl, ((HB.out.cell (Zi w _ hw152_0)).trans hw152_0), ((HB.out.cell (Zi w _ hw152_1)).trans hw152_1), ((HB.out.cell (Zi w _ hw152_2)).trans hw152_2)⟩ (fun hHeld => ?_)
           clear hK K
           refine norm_ (a' := ?_) ?_ ?_
           rotate_left
           ·
            show Act.put _ (some 15) _ = _
            simp only [Act.put, List.setIfInBounds_toArray, List.set_cons_zero, List.set_cons_succ, i64_w, i32_w]
            rfl
           refine SQ.pu 3 16 HT_ ?_
           refine SQ.pu 4 17 HT_ ?_
           refine SQ.pu 5 18 HT_ ?_
           refine SQ.pu 8 21 HT_ ?_
           refine SQ.tk 6 19 HT_ HW_ hHeld ?_
           refine SQ.pu 7 20 HT_ ?_
           refine SQ.tk 9 22 HT_ HW_ hHeld ?_
           refine SQ.pu 10 23 HT_ ?_
           refine SQ.pu 11 24 HT_ ?_
           refine SQ.pu 12 25 HT_ ?_
           refine SQ.pu 13 26 HT_ ?_
           refine SQ.pu 14 27 HT_ ?_
           refine SQ.pu 15 28 HT_ ?_
           refine SQ.pu 16 29 HT_ ?_
           refine SQ.pu 17 30 HT_ ?_
           refine SQ.pu 18 31 HT_ ?_
           refine SQ.pu 20 33 HT_ ?_
           refine SQ.pu 21 34 HT_ ?_
           refine SQ.pu 25 38 HT_ ?_
           refine SQ.tk 19 32 HT_ HW_ hHeld ?_
           refine SQ.pu 22 35 HT_ ?_
           refine SQ.pu 23 36 HT_ ?_
           refine SQ.tk 24 37 HT_ HW_ hHeld ?_
           refine SQ.tk 26 39 HT_ HW_ hHeld ?_
           refine SQ.pu 27 40 HT_ ?_
           refine SQ.pu 28 41 HT_ ?_
           refine SQ.pu 29 42 HT_ ?_
           refine done_ (done_of HT_.out (by kernel_rfl)) ?_
           try go_wp2
           go_roundg k1
           case measure => have := HK1.out; omega
           case rel => exact ⟨(wrap64 (x8_1 + 1)), (by first | rfl | (simp; done) | (simp [*]; done)), H', ⟨by have := HK1.out; omega⟩, ⟨by (with_reducible repeat (first | refine Za ?_ _ | refine Zb ?_ | refine blk_alloc ?_ _)); exact BK148.out⟩, ⟨by repeat (first | (with_reducible first | exact HB.out | apply Zf | apply Zd | apply Ze | refine Zg ?_ GE148.out | refine Zg ?_ GE150.out) | exact HB.out)⟩⟩
          rw [if_neg c20] at H
          have c20b0 : (Op.bytesLess (((rd_T74 l0_0 (ji17)).f0).toList) (((rd_T74 l0_0 x8_1).f0).toList)) = false := by simpa using c20
          clear c20
          obtain rfl := Option.some.inj H
          have p149 : 0 ≤ (x8_1 : Int) := Zo
          have q149 : x8_1 < (l0_0.length : Int) := Zo
          obtain ⟨ad149, A149_1, c149_1, A149_2, c149_2, e149, hx149_0, hx149_1, hx149_2, hl149_1, hi149_1, hl149_2, hi149_2⟩ := at_T74 HR0_0.out x8_1 p149 q149
          cases e149
          replace hx149_0 := Zc HB.out hx149_0
          replace hx149_1 := Zc HB.out hx149_1
          replace hx149_2 := Zc HB.out hx149_2
          have HR149_1 := Zh hi149_1
          have HC149_1 := Zh hl149_1
          clear hi149_1 hl149_1
          have HR149_2 := Zh hi149_2
          have HC149_2 := Zh hl149_2
          clear hi149_2 hl149_2
          replace p149 := eq_true p149
          replace q149 := eq_true q149
          try go_wp2_with (first | ((with_reducible refine gate_dst (N := 4) rfl ?_); (try (refine gate_guard (by rfl) ?_; dsimp only)); refine box_event ?hg (N := 4) ?hd (cs := #[.string (⟨#[]⟩ : ByteArray), .slice none 0 0, .slice none 0 0]) (t := 74) ?hr ?_; (case hd => rfl); (case hg => rfl); (case hr => first | (go_simp; done) | (go_simp; rfl)); intro gb150 hg w27 hbox hb; have n0_ := Zh (Zm (g := gb148) (o := .cells #[.slice (some ad149) l0_0.length c0_0] 29 (0, 0)) Zk hb); have n1_ := Zh (Zl Zs hb); have n2_ := Zh (hbox); have n3_ := Zh ((by rw [hg]; exact (below_size Zs) : w.heap.size ≤ gb150)); have n4_ := Zh ((by rw [hg]; exact (below_size Zs) : w.heap.size ≤ gb150)); have n5_ := Zh ((by rw [hg]; exact Nat.ne_of_lt (blk_lt (g := gb148) (o := .cells #[.slice (some ad149) l0_0.length c0_0] 29 (0, 0)) Zk) : gb148 ≠ gb150)); have n6_ := Zh ((by rw [hg]; exact Nat.ne_of_gt (blk_lt (g := gb148) (o := .cells #[.slice (some ad149) l0_0.length c0_0] 29 (0, 0)) Zk) : gb150 ≠ gb148)); clear BK148; clear HB; have BK148 := n0_; have HB := n1_; have BK150 := n2_; have GW150 := n3_; have GE150 := n4_; have NB148_150 := n5_; have NB150_148 := n6_; clear n0_ n1_ n2_ n3_ n4_ n5_ n6_; clear hb hbox hg; have hnb28 := NB150_148.out; have hnc28 := NB148_150.out; have hcz29_0 : w27.cell? ⟨gb150, 0, none⟩ = some (.string (⟨#[]⟩ : ByteArray)) := (blk_cell BK150.out 0).trans rfl; have hcz29_1 : w27.cell? ⟨gb150, 1, none⟩ = some (.slice none 0 0) := (blk_cell BK150.out 1).trans rfl; have hcz29_2 : w27.cell? ⟨gb150, 2, none⟩ = some (.slice none 0 0) := (blk_cell BK150.out 2).trans rfl; have hfz29_0 := Zn BK150.out 0; have hfz29_1 := Zn BK150.out 1; have hfz29_2 := Zn BK150.out 2))
          have n0_ : Aside0 ((((w27.setCell ⟨gb150, 0, none⟩ (.string ((rd_T74 l0_0 x8_1).f0))).setCell ⟨gb150, 1, none⟩ (.slice A149_1 ((rd_T74 l0_0 x8_1).f1).length c149_1)).setCell ⟨gb150, 2, none⟩ (.slice A149_2 ((rd_T74 l0_0 x8_1).f2).length c149_2)).heap[gb148]? = some (.cells #[.slice (some ad149) l0_0.length c0_0] 29 (0, 0))) := ⟨by (with_reducible repeat (first | refine Za ?_ _ | refine Zb ?_ | refine blk_alloc ?_ _)); refine Zp ?_ NB148_150.out _; (with_reducible repeat (first | refine Za ?_ _ | refine Zb ?_ | refine blk_alloc ?_ _)); refine Zp ?_ NB148_150.out _; (with_reducible repeat (first | refine Za ?_ _ | refine Zb ?_ | refine blk_alloc ?_ _)); refine Zp ?_ NB148_150.out _; (with_reducible repeat (first | refine Za ?_ _ | refine Zb ?_ | refine blk_alloc ?_ _)); exact BK148.out⟩
          have n1_ : Aside0 ((((w27.setCell ⟨gb150, 0, none⟩ (.string ((rd_T74 l0_0 x8_1).f0))).setCell ⟨gb150, 1, none⟩ (.slice A149_1 ((rd_T74 l0_0 x8_1).f1).length c149_1)).setCell ⟨gb150, 2, none⟩ (.slice A149_2 ((rd_T74 l0_0 x8_1).f2).length c149_2)).heap[gb150]? = some (.cells #[.string ((rd_T74 l0_0 x8_1).f0), .slice A149_1 ((rd_T74 l0_0 x8_1).f1).length c149_1, .slice A149_2 ((rd_T74 l0_0 x8_1).f2).length c149_2] 74 (0, 0))) := ⟨by (with_reducible repeat (first | refine Za ?_ _ | refine Zb ?_ | refine blk_alloc ?_ _)); refine blk_put (cs := #[.string ((rd_T74 l0_0 x8_1).f0), .slice A149_1 ((rd_T74 l0_0 x8_1).f1).length c149_1, .slice none 0 0]) ?_ 2 _ rfl; (with_reducible repeat (first | refine Za ?_ _ | refine Zb ?_ | refine blk_alloc ?_ _)); refine blk_put (cs := #[.string ((rd_T74 l0_0 x8_1).f0), .slice none 0 0, .slice none 0 0]) ?_ 1 _ rfl; (with_reducible repeat (first | refine Za ?_ _ | refine Zb ?_ | refine blk_alloc ?_ _)); refine blk_put (cs := #[.string (⟨#[]⟩ : ByteArray), .slice none 0 0, .slice none 0 0]) ?_ 0 _ rfl; (with_reducible repeat (first | refine Za ?_ _ | refine Zb ?_ | refine blk_alloc ?_ _)); exact BK150.out⟩
          have n2_ : Aside0 (Below w.heap.size w (((w27.setCell ⟨gb150, 0, none⟩ (.string ((rd_T74 l0_0 x8_1).f0))).setCell ⟨gb150, 1, none⟩ (.slice A149_1 ((rd_T74 l0_0 x8_1).f1).length c149_1)).setCell ⟨gb150, 2, none⟩ (.slice A149_2 ((rd_T74 l0_0 x8_1).f2).length c149_2))) := ⟨by repeat (first | (with_reducible first | exact HB.out | apply Zf | apply Zd | apply Ze | refine Zg ?_ GE148.out | refine Zg ?_ GE150.out) | exact HB.out)⟩
          (try clear BK148)
          (try clear BK150)
          (try clear HB)
          generalize (((w27.setCell ⟨gb150, 0, none⟩ (.string ((rd_T74 l0_0 x8_1).f0))).setCell ⟨gb150, 1, none⟩ (.slice A149_1 ((rd_T74 l0_0 x8_1).f1).length c149_1)).setCell ⟨gb150, 2, none⟩ (.slice A149_2 ((rd_T74 l0_0 x8_1).f2).length c149_2)) = w30 at n0_ n1_ n2_ ⊢
          have BK148 := n0_
          have BK150 := n1_
          have HB := n2_
          clear n0_ n1_ n2_
          have n0_ := Zh (Zb BK148.out)
          have n1_ := Zh (Zb BK150.out)
          have n2_ := Zh (Ze HB.out)
          clear BK148
          clear BK150
          clear HB
          have BK148 := n0_
          have BK150 := n1_
          have HB := n2_
          clear n0_ n1_ n2_
          have p152 : 0 ≤ ((ji17) : Int) := Zo
          have q152 : (ji17) < (l0_0.length : Int) := Zo
          obtain ⟨ad152, A152_1, c152_1, A152_2, c152_2, e152, hx152_0, hx152_1, hx152_2, hl152_1, hi152_1, hl152_2, hi152_2⟩ := at_T74 HR0_0.out (ji17) p152 q152
          have hw152_2 := hx152_2
          have hw152_1 := hx152_1
          have hw152_0 := hx152_0
          obtain rfl : ad149 = ad152 := (by injection e152)
          replace hx152_0 := Zc HB.out hx152_0
          replace hx152_1 := Zc HB.out hx152_1
          replace hx152_2 := Zc HB.out hx152_2
          have HR152_1 := Zh hi152_1
          have HC152_1 := Zh hl152_1
          clear hi152_1 hl152_1
          have HR152_2 := Zh hi152_2
          have HC152_2 := Zh hl152_2
          clear hi152_2 hl152_2
          replace p152 := eq_true p152
          replace q152 := eq_true q152
          refine start_ (n := 30) (S := fun w' => w'.cell? ⟨gb150, 0, none⟩ = some (.string ((rd_T74 l0_0 x8_1).f0)) ∧ w'.cell? ⟨gb150, 1, none⟩ = some (.slice A149_1 ((rd_T74 l0_0 x8_1).f1).length c149_1) ∧ w'.cell? ⟨gb150, 2, none⟩ = some (.slice A149_2 ((rd_T74 l0_0 x8_1).f2).length c149_2) ∧ w'.cell? ⟨gb148, 0, none⟩ = some (.slice (some ad149) l0_0.length c0_0) ∧ w'.cell? (ad149.add (((ji17)).toNat * 3)) = some (.string ((rd_T74 l0_0 (ji17)).f0)) ∧ w'.cell? ⟨(ad149.add (((ji17)).toNat * 3)).block, (ad149.add (((ji17)).toNat * 3)).off + 1, none⟩ = some (.slice A152_1 ((rd_T74 l0_0 (ji17)).f1).length c152_1) ∧ w'.cell? ⟨(ad149.add (((ji17)).toNat * 3)).block, (ad149.add (((ji17)).toNat * 3)).off + 2, none⟩ = some (.slice A152_2 ((rd_T74 l0_0 (ji17)).f2).length c152_2)) (ds := []) #[false, false, false, false, false, false, false, false, false, false, false, false, false, false, false, false, false, false, false, false, false, false, false, false, false, false, false, false, false, false] (by kernel_rfl) rfl rfl ⟨(blk_cell BK150.out 0).trans rfl, (blk_cell BK150.out 1).trans rfl, (blk_cell BK150.out 2).trans rfl, (blk_cell BK148.out 0).trans rfl, ((HB.out.cell (Zi w _ hw152_0)).trans hw152_0), ((HB.out.cell (Zi w _ hw152_1)).trans hw152_1), ((HB.out.cell (Zi w _ hw152_2)).trans hw152_2)⟩ (fun hHeld => ?_); refine with_tabW impl_isDisk.tab4 impl_isDisk.bits4 (fun HT_ HW_ => ?_)
          generalize w30.drew = w31 at BK148 BK150 HB HR152_1 HR152_2 hx152_0 hx152_1 hx152_2 hHeld ⊢
          refine SQ.pu 0 13 HT_ ?_
          refine SQ.tk 1 14 HT_ HW_ hHeld ?_
          refine one_ (i := 2) (N := some 15) #[true, true, true, false, false, false, false, false, false, false, false, false, false, false, false, false, false, false, false, false, false, false, false, false, false, false, false, false, false, false] rfl rfl (one_of HT_.out (by kernel_rfl)) (by decide) (fun K hK => ?_)
          refine goes_ Tryd.func91 (by kernel_rfl) rfl #[.string ((rd_T74 l0_0 x8_1).f0)] (by rfl) rfl rfl (by (try simp only [List.map_toArray, List.map_cons, List.map_nil]); first | done | rfl | (simp only [List.length_drop, List.length_take]; rfl)) ?_
          with_reducible refine (impl_isFileName.calls ((rd_T74 l0_0 x8_1).f0) true _ A7.out).mono ?_
          rintro e w32 ⟨rfl, hb⟩
          refine ⟨_, rfl, ?_⟩
          have n0_ := Zh (Zm (g := gb148) (o := .cells #[.slice (some ad149) l0_0.length c0_0] 29 (0, 0)) Zk hb)
          have n1_ := Zh (Zm (g := gb150) (o := .cells #[.string ((rd_T74 l0_0 x8_1).f0), .slice A149_1 ((rd_T74 l0_0 x8_1).f1).length c149_1, .slice A149_2 ((rd_T74 l0_0 x8_1).f2).length c149_2] 74 (0, 0)) Zk hb)
          have n2_ := Zh (Zl Zs hb)
          clear BK148
          clear BK150
          clear HB
          have BK148 := n0_
          have BK150 := n1_
          have HB := n2_
          clear n0_ n1_ n2_
          (try clear hb)
          (try clear hb2)
          (try clear hk)
          (try clear hi)
          refine hK.out _ _ ⟨(blk_cell BK150.out 0).trans rfl, (blk_cell BK150.out 1).trans rfl, (blk_cell BK150.out 2).trans rfl, (blk_cell BK148.out 0).trans rfl, ((HB.out.cell (Zi w _ hw152_0)).trans hw152_0), ((HB.out.cell (Zi w _ hw152_1)).trans hw152_1), ((HB.out.cell (Zi w _ hw152_2)).trans hw152_2)⟩ (fun hHeld => ?_)
          clear hK K
          refine norm_ (a' := ?_) ?_ ?_
          rotate_left
          ·
           show Act.put _ (some 15) _ = _
           simp only [Act.put, List.setIfInBounds_toArray, List.set_cons_zero, List.set_cons_succ, i64_w, i32_w]
           rfl
          refine SQ.pu 3 16 HT_ ?_
          refine SQ.pu 4 17 HT_ ?_
          refine SQ.pu 5 18 HT_ ?_
          refine SQ.pu 8 21 HT_ ?_
          refine SQ.tk 6 19 HT_ HW_ hHeld ?_
          refine SQ.pu 7 20 HT_ ?_
          refine SQ.tk 9 22 HT_ HW_ hHeld ?_
          refine SQ.pu 10 23 HT_ ?_
          refine SQ.pu 11 24 HT_ ?_
          refine SQ.pu 12 25 HT_ ?_
          refine SQ.pu 13 26 HT_ ?_
          refine SQ.pu 14 27 HT_ ?_
          refine SQ.pu 15 28 HT_ ?_
          refine SQ.pu 16 29 HT_ ?_
          refine SQ.pu 17 30 HT_ ?_
          refine SQ.pu 18 31 HT_ ?_
          refine SQ.pu 20 33 HT_ ?_
          refine SQ.pu 21 34 HT_ ?_
          refine SQ.pu 25 38 HT_ ?_
          refine SQ.tk 19 32 HT_ HW_ hHeld ?_
          refine SQ.pu 22 35 HT_ ?_
          refine SQ.pu 23 36 HT_ ?_
          refine SQ.tk 24 37 HT_ HW_ hHeld ?_
          refine SQ.tk 26 39 HT_ HW_ hHeld ?_
          refine SQ.pu 27 40 HT_ ?_
          refine SQ.pu 28 41 HT_ ?_
          refine SQ.pu 29 42 HT_ ?_
          refine done_ (done_of HT_.out (by kernel_rfl)) ?_
          try go_wp2
          go_ret
          exact ⟨by first | rfl | (simp [errW_none, errW_some] <;> rfl) | (simp only [← hji17]; first | rfl | (simp [errW_none, errW_some] <;> rfl)) | (simp [*, errW_none, errW_some] <;> rfl), by repeat (first | (with_reducible first | exact HB.out | apply Zf | apply Zd | apply Ze | refine Zg ?_ GE148.out | refine Zg ?_ GE150.out) | exact HB.out)⟩
         rw [if_neg c19] at H
         exact absurd H (by simp)
        rw [if_neg c18] at H
        exact absurd H (by simp)
       rw [if_neg c16] at H
       have c16b0 : decide (0 < x8_1) = false := decide_eq_false c16
       clear c16
       have H' := Zh H
       clear H
       have p149 : 0 ≤ (x8_1 : Int) := Zo
       have q149 : x8_1 < (l0_0.length : Int) := Zo
       obtain ⟨ad149, A149_1, c149_1, A149_2, c149_2, e149, hx149_0, hx149_1, hx149_2, hl149_1, hi149_1, hl149_2, hi149_2⟩ := at_T74 HR0_0.out x8_1 p149 q149
       cases e149
       replace hx149_0 := Zc HB.out hx149_0
       replace hx149_1 := Zc HB.out hx149_1
       replace hx149_2 := Zc HB.out hx149_2
       have HR149_1 := Zh hi149_1
       have HC149_1 := Zh hl149_1
       clear hi149_1 hl149_1
       have HR149_2 := Zh hi149_2
       have HC149_2 := Zh hl149_2
       clear hi149_2 hl149_2
       replace p149 := eq_true p149
       replace q149 := eq_true q149
       try go_wp2_with (first | ((with_reducible refine gate_dst (N := 4) rfl ?_); (try (refine gate_guard (by rfl) ?_; dsimp only)); refine box_event ?hg (N := 4) ?hd (cs := #[.string (⟨#[]⟩ : ByteArray), .slice none 0 0, .slice none 0 0]) (t := 74) ?hr ?_; (case hd => rfl); (case hg => rfl); (case hr => first | (go_simp; done) | (go_simp; rfl)); intro gb150 hg w33 hbox hb; have n0_ := Zh (Zm (g := gb148) (o := .cells #[.slice (some ad149) l0_0.length c0_0] 29 (0, 0)) Zk hb); have n1_ := Zh (Zl Zs hb); have n2_ := Zh (hbox); have n3_ := Zh ((by rw [hg]; exact (below_size Zs) : w.heap.size ≤ gb150)); have n4_ := Zh ((by rw [hg]; exact (below_size Zs) : w.heap.size ≤ gb150)); have n5_ := Zh ((by rw [hg]; exact Nat.ne_of_lt (blk_lt (g := gb148) (o := .cells #[.slice (some ad149) l0_0.length c0_0] 29 (0, 0)) Zk) : gb148 ≠ gb150)); have n6_ := Zh ((by rw [hg]; exact Nat.ne_of_gt (blk_lt (g := gb148) (o := .cells #[.slice (some ad149) l0_0.length c0_0] 29 (0, 0)) Zk) : gb150 ≠ gb148)); clear BK148; clear HB; have BK148 := n0_; have HB := n1_; have BK150 := n2_; have GW150 := n3_; have GE150 := n4_; have NB148_150 := n5_; have NB150_148 := n6_; clear n0_ n1_ n2_ n3_ n4_ n5_ n6_; clear hb hbox hg; have hnb34 := NB150_148.out; have hnc34 := NB148_150.out; have hcz35_0 : w33.cell? ⟨gb150, 0, none⟩ = some (.string (⟨#[]⟩ : ByteArray)) := (blk_cell BK150.out 0).trans rfl; have hcz35_1 : w33.cell? ⟨gb150, 1, none⟩ = some (.slice none 0 0) := (blk_cell BK150.out 1).trans rfl; have hcz35_2 : w33.cell? ⟨gb150, 2, none⟩ = some (.slice none 0 0) := (blk_cell BK150.out 2).trans rfl; have hfz35_0 := Zn BK150.out 0; have hfz35_1 := Zn BK150.out 1; have hfz35_2 := Zn BK150.out 2))
       have n0_ : Aside0 ((((w33.setCell ⟨gb150, 0, none⟩ (.string ((rd_T74 l0_0 x8_1).f0))).setCell ⟨gb150, 1, none⟩ (.slice A149_1 ((rd_T74 l0_0 x8_1).f1).length c149_1)).setCell ⟨gb150, 2, none⟩ (.slice A149_2 ((rd_T74 l0_0 x8_1).f2).length c149_2)).heap[gb148]? = some (.cells #[.slice (some ad149) l0_0.length c0_0] 29 (0, 0))) := ⟨by (with_reducible repeat (first | refine Za ?_ _ | refine Zb ?_ | refine blk_alloc ?_ _)); refine Zp ?_ NB148_150.out _; (with_reducible repeat (first | refine Za ?_ _ | refine Zb ?_ | refine blk_alloc ?_ _)); refine Zp ?_ NB148_150.out _; (with_reducible repeat (first | refine Za ?_ _ | refine Zb ?_ | refine blk_alloc ?_ _)); refine Zp ?_ NB148_150.out _; (with_reducible repeat (first | refine Za ?_ _ | refine Zb ?_ | refine blk_alloc ?_ _)); exact BK148.out⟩
       have n1_ : Aside0 ((((w33.setCell ⟨gb150, 0, none⟩ (.string ((rd_T74 l0_0 x8_1).f0))).setCell ⟨gb150, 1, none⟩ (.slice A149_1 ((rd_T74 l0_0 x8_1).f1).length c149_1)).setCell ⟨gb150, 2, none⟩ (.slice A149_2 ((rd_T74 l0_0 x8_1).f2).length c149_2)).heap[gb150]? = some (.cells #[.string ((rd_T74 l0_0 x8_1).f0), .slice A149_1 ((rd_T74 l0_0 x8_1).f1).length c149_1, .slice A149_2 ((rd_T74 l0_0 x8_1).f2).length c149_2] 74 (0, 0))) := ⟨by (with_reducible repeat (first | refine Za ?_ _ | refine Zb ?_ | refine blk_alloc ?_ _)); refine blk_put (cs := #[.string ((rd_T74 l0_0 x8_1).f0), .slice A149_1 ((rd_T74 l0_0 x8_1).f1).length c149_1, .slice none 0 0]) ?_ 2 _ rfl; (with_reducible repeat (first | refine Za ?_ _ | refine Zb ?_ | refine blk_alloc ?_ _)); refine blk_put (cs := #[.string ((rd_T74 l0_0 x8_1).f0), .slice none 0 0, .slice none 0 0]) ?_ 1 _ rfl; (with_reducible repeat (first | refine Za ?_ _ | refine Zb ?_ | refine blk_alloc ?_ _)); refine blk_put (cs := #[.string (⟨#[]⟩ : ByteArray), .slice none 0 0, .slice none 0 0]) ?_ 0 _ rfl; (with_reducible repeat (first | refine Za ?_ _ | refine Zb ?_ | refine blk_alloc ?_ _)); exact BK150.out⟩
       have n2_ : Aside0 (Below w.heap.size w (((w33.setCell ⟨gb150, 0, none⟩ (.string ((rd_T74 l0_0 x8_1).f0))).setCell ⟨gb150, 1, none⟩ (.slice A149_1 ((rd_T74 l0_0 x8_1).f1).length c149_1)).setCell ⟨gb150, 2, none⟩ (.slice A149_2 ((rd_T74 l0_0 x8_1).f2).length c149_2))) := ⟨by repeat (first | (with_reducible first | exact HB.out | apply Zf | apply Zd | apply Ze | refine Zg ?_ GE148.out | refine Zg ?_ GE150.out) | exact HB.out)⟩
       (try clear BK148)
       (try clear BK150)
       (try clear HB)
       generalize (((w33.setCell ⟨gb150, 0, none⟩ (.string ((rd_T74 l0_0 x8_1).f0))).setCell ⟨gb150, 1, none⟩ (.slice A149_1 ((rd_T74 l0_0 x8_1).f1).length c149_1)).setCell ⟨gb150, 2, none⟩ (.slice A149_2 ((rd_T74 l0_0 x8_1).f2).length c149_2)) = w36 at n0_ n1_ n2_ ⊢
       have BK148 := n0_
       have BK150 := n1_
       have HB := n2_
       clear n0_ n1_ n2_
       have n0_ := Zh (Zb BK148.out)
       have n1_ := Zh (Zb BK150.out)
       have n2_ := Zh (Ze HB.out)
       clear BK148
       clear BK150
       clear HB
       have BK148 := n0_
       have BK150 := n1_
       have HB := n2_
       clear n0_ n1_ n2_
       refine start_ (n := 30) (S := fun w' => w'.cell? ⟨gb150, 0, none⟩ = some (.string ((rd_T74 l0_0 x8_1).f0)) ∧ w'.cell? ⟨gb150, 1, none⟩ = some (.slice A149_1 ((rd_T74 l0_0 x8_1).f1).length c149_1) ∧ w'.cell? ⟨gb150, 2, none⟩ = some (.slice A149_2 ((rd_T74 l0_0 x8_1).f2).length c149_2)) (ds := []) #[false, false, false, false, false, false, false, false, false, false, false, false, false, false, false, false, false, false, false, false, false, false, false, false, false, false, false, false, false, false] (by kernel_rfl) rfl rfl ⟨(blk_cell BK150.out 0).trans rfl, (blk_cell BK150.out 1).trans rfl, (blk_cell BK150.out 2).trans rfl⟩ (fun hHeld => ?_); refine with_tabW impl_isDisk.tab4 impl_isDisk.bits4 (fun HT_ HW_ => ?_)
       generalize w36.drew = w37 at BK148 BK150 HB hHeld ⊢
       refine SQ.pu 0 13 HT_ ?_
       refine SQ.tk 1 14 HT_ HW_ hHeld ?_
       refine one_ (i := 2) (N := some 15) #[true, true, true, false, false, false, false, false, false, false, false, false, false, false, false, false, false, false, false, false, false, false, false, false, false, false, false, false, false, false] rfl rfl (one_of HT_.out (by kernel_rfl)) (by decide) (fun K hK => ?_)
       refine goes_ Tryd.func91 (by kernel_rfl) rfl #[.string ((rd_T74 l0_0 x8_1).f0)] (by rfl) rfl rfl (by (try simp only [List.map_toArray, List.map_cons, List.map_nil]); first | done | rfl | (simp only [List.length_drop, List.length_take]; rfl)) ?_
       with_reducible refine (impl_isFileName.calls ((rd_T74 l0_0 x8_1).f0) true _ A7.out).mono ?_
       rintro e w38 ⟨rfl, hb⟩
       refine ⟨_, rfl, ?_⟩
       have n0_ := Zh (Zm (g := gb148) (o := .cells #[.slice (some ad149) l0_0.length c0_0] 29 (0, 0)) Zk hb)
       have n1_ := Zh (Zm (g := gb150) (o := .cells #[.string ((rd_T74 l0_0 x8_1).f0), .slice A149_1 ((rd_T74 l0_0 x8_1).f1).length c149_1, .slice A149_2 ((rd_T74 l0_0 x8_1).f2).length c149_2] 74 (0, 0)) Zk hb)
       have n2_ := Zh (Zl Zs hb)
       clear BK148
       clear BK150
       clear HB
       have BK148 := n0_
       have BK150 := n1_
       have HB := n2_
       clear n0_ n1_ n2_
       (try clear hb)
       (try clear hb2)
       (try clear hk)
       (try clear hi)
       refine hK.out _ _ ⟨(blk_cell BK150.out 0).trans rfl, (blk_cell BK150.out 1).trans rfl, (blk_cell BK150.out 2).trans rfl⟩ (fun hHeld => ?_)
       clear hK K
       refine norm_ (a' := ?_) ?_ ?_
       rotate_left
       ·
        show Act.put _ (some 15) _ = _
        simp only [Act.put, List.setIfInBounds_toArray, List.set_cons_zero, List.set_cons_succ, i64_w, i32_w]
        rfl
       refine SQ.pu 3 16 HT_ ?_
       refine SQ.pu 4 17 HT_ ?_
       refine SQ.pu 5 18 HT_ ?_
       refine SQ.pu 8 21 HT_ ?_
       refine SQ.tk 6 19 HT_ HW_ hHeld ?_
       refine SQ.pu 7 20 HT_ ?_
       refine SQ.tk 9 22 HT_ HW_ hHeld ?_
       refine SQ.pu 10 23 HT_ ?_
       refine SQ.pu 11 24 HT_ ?_
       refine SQ.pu 12 25 HT_ ?_
       refine SQ.pu 13 26 HT_ ?_
       refine SQ.pu 14 27 HT_ ?_
       refine SQ.pu 15 28 HT_ ?_
       refine SQ.pu 16 29 HT_ ?_
       refine SQ.pu 17 30 HT_ ?_
       refine SQ.of 18 31 HT_ ?_
       refine SQ.of 19 32 HT_ ?_
       refine SQ.of 20 33 HT_ ?_
       refine SQ.of 21 34 HT_ ?_
       refine SQ.of 22 35 HT_ ?_
       refine SQ.of 23 36 HT_ ?_
       refine SQ.of 24 37 HT_ ?_
       refine SQ.of 25 38 HT_ ?_
       refine SQ.of 26 39 HT_ ?_
       refine SQ.of 27 40 HT_ ?_
       refine SQ.pu 28 41 HT_ ?_
       refine SQ.pu 29 42 HT_ ?_
       refine done_ (done_of HT_.out (by kernel_rfl)) ?_
       try go_wp2
       go_roundg k1
       case measure => have := HK1.out; omega
       case rel => exact ⟨(wrap64 (x8_1 + 1)), (by first | rfl | (simp; done) | (simp [*]; done)), H', ⟨by have := HK1.out; omega⟩, ⟨by (with_reducible repeat (first | refine Za ?_ _ | refine Zb ?_ | refine blk_alloc ?_ _)); exact BK148.out⟩, ⟨by repeat (first | (with_reducible first | exact HB.out | apply Zf | apply Zd | apply Ze | refine Zg ?_ GE148.out | refine Zg ?_ GE150.out) | exact HB.out)⟩⟩
      replace c8 := Bool.eq_false_iff.mpr c8
      subst c8
      have H1 : (some false) = some r := by rw [if_neg (show ¬ (false = true) by decide)] at H; exact H
      clear H
      have H := H1
      clear H1
      obtain rfl := Option.some.inj H
      have p149 : 0 ≤ (x8_1 : Int) := Zo
      have q149 : x8_1 < (l0_0.length : Int) := Zo
      obtain ⟨ad149, A149_1, c149_1, A149_2, c149_2, e149, hx149_0, hx149_1, hx149_2, hl149_1, hi149_1, hl149_2, hi149_2⟩ := at_T74 HR0_0.out x8_1 p149 q149
      cases e149
      replace hx149_0 := Zc HB.out hx149_0
      replace hx149_1 := Zc HB.out hx149_1
      replace hx149_2 := Zc HB.out hx149_2
      have HR149_1 := Zh hi149_1
      have HC149_1 := Zh hl149_1
      clear hi149_1 hl149_1
      have HR149_2 := Zh hi149_2
      have HC149_2 := Zh hl149_2
      clear hi149_2 hl149_2
      replace p149 := eq_true p149
      replace q149 := eq_true q149
      try go_wp2_with (first | ((with_reducible refine gate_dst (N := 4) rfl ?_); (try (refine gate_guard (by rfl) ?_; dsimp only)); refine box_event ?hg (N := 4) ?hd (cs := #[.string (⟨#[]⟩ : ByteArray), .slice none 0 0, .slice none 0 0]) (t := 74) ?hr ?_; (case hd => rfl); (case hg => rfl); (case hr => first | (go_simp; done) | (go_simp; rfl)); intro gb150 hg w39 hbox hb; have n0_ := Zh (Zm (g := gb148) (o := .cells #[.slice (some ad149) l0_0.length c0_0] 29 (0, 0)) Zk hb); have n1_ := Zh (Zl Zs hb); have n2_ := Zh (hbox); have n3_ := Zh ((by rw [hg]; exact (below_size Zs) : w.heap.size ≤ gb150)); have n4_ := Zh ((by rw [hg]; exact (below_size Zs) : w.heap.size ≤ gb150)); have n5_ := Zh ((by rw [hg]; exact Nat.ne_of_lt (blk_lt (g := gb148) (o := .cells #[.slice (some ad149) l0_0.length c0_0] 29 (0, 0)) Zk) : gb148 ≠ gb150)); have n6_ := Zh ((by rw [hg]; exact Nat.ne_of_gt (blk_lt (g := gb148) (o := .cells #[.slice (some ad149) l0_0.length c0_0] 29 (0, 0)) Zk) : gb150 ≠ gb148)); clear BK148; clear HB; have BK148 := n0_; have HB := n1_; have BK150 := n2_; have GW150 := n3_; have GE150 := n4_; have NB148_150 := n5_; have NB150_148 := n6_; clear n0_ n1_ n2_ n3_ n4_ n5_ n6_; clear hb hbox hg; have hnb40 := NB150_148.out; have hnc40 := NB148_150.out; have hcz41_0 : w39.cell? ⟨gb150, 0, none⟩ = some (.string (⟨#[]⟩ : ByteArray)) := (blk_cell BK150.out 0).trans rfl; have hcz41_1 : w39.cell? ⟨gb150, 1, none⟩ = some (.slice none 0 0) := (blk_cell BK150.out 1).trans rfl; have hcz41_2 : w39.cell? ⟨gb150, 2, none⟩ = some (.slice none 0 0) := (blk_cell BK150.out 2).trans rfl; have hfz41_0 := Zn BK150.out 0; have hfz41_1 := Zn BK150.out 1; have hfz41_2 := Zn BK150.out 2))
      have n0_ : Aside0 ((((w39.setCell ⟨gb150, 0, none⟩ (.string ((rd_T74 l0_0 x8_1).f0))).setCell ⟨gb150, 1, none⟩ (.slice A149_1 ((rd_T74 l0_0 x8_1).f1).length c149_1)).setCell ⟨gb150, 2, none⟩ (.slice A149_2 ((rd_T74 l0_0 x8_1).f2).length c149_2)).heap[gb148]? = some (.cells #[.slice (some ad149) l0_0.length c0_0] 29 (0, 0))) := ⟨by (with_reducible repeat (first | refine Za ?_ _ | refine Zb ?_ | refine blk_alloc ?_ _)); refine Zp ?_ NB148_150.out _; (with_reducible repeat (first | refine Za ?_ _ | refine Zb ?_ | refine blk_alloc ?_ _)); refine Zp ?_ NB148_150.out _; (with_reducible repeat (first | refine Za ?_ _ | refine Zb ?_ | refine blk_alloc ?_ _)); refine Zp ?_ NB148_150.out _; (with_reducible repeat (first | refine Za ?_ _ | refine Zb ?_ | refine blk_alloc ?_ _)); exact BK148.out⟩
      have n1_ : Aside0 ((((w39.setCell ⟨gb150, 0, none⟩ (.string ((rd_T74 l0_0 x8_1).f0))).setCell ⟨gb150, 1, none⟩ (.slice A149_1 ((rd_T74 l0_0 x8_1).f1).length c149_1)).setCell ⟨gb150, 2, none⟩ (.slice A149_2 ((rd_T74 l0_0 x8_1).f2).length c149_2)).heap[gb150]? = some (.cells #[.string ((rd_T74 l0_0 x8_1).f0), .slice A149_1 ((rd_T74 l0_0 x8_1).f1).length c149_1, .slice A149_2 ((rd_T74 l0_0 x8_1).f2).length c149_2] 74 (0, 0))) := ⟨by (with_reducible repeat (first | refine Za ?_ _ | refine Zb ?_ | refine blk_alloc ?_ _)); refine blk_put (cs := #[.string ((rd_T74 l0_0 x8_1).f0), .slice A149_1 ((rd_T74 l0_0 x8_1).f1).length c149_1, .slice none 0 0]) ?_ 2 _ rfl; (with_reducible repeat (first | refine Za ?_ _ | refine Zb ?_ | refine blk_alloc ?_ _)); refine blk_put (cs := #[.string ((rd_T74 l0_0 x8_1).f0), .slice none 0 0, .slice none 0 0]) ?_ 1 _ rfl; (with_reducible repeat (first | refine Za ?_ _ | refine Zb ?_ | refine blk_alloc ?_ _)); refine blk_put (cs := #[.string (⟨#[]⟩ : ByteArray), .slice none 0 0, .slice none 0 0]) ?_ 0 _ rfl; (with_reducible repeat (first | refine Za ?_ _ | refine Zb ?_ | refine blk_alloc ?_ _)); exact BK150.out⟩
      have n2_ : Aside0 (Below w.heap.size w (((w39.setCell ⟨gb150, 0, none⟩ (.string ((rd_T74 l0_0 x8_1).f0))).setCell ⟨gb150, 1, none⟩ (.slice A149_1 ((rd_T74 l0_0 x8_1).f1).length c149_1)).setCell ⟨gb150, 2, none⟩ (.slice A149_2 ((rd_T74 l0_0 x8_1).f2).length c149_2))) := ⟨by repeat (first | (with_reducible first | exact HB.out | apply Zf | apply Zd | apply Ze | refine Zg ?_ GE148.out | refine Zg ?_ GE150.out) | exact HB.out)⟩
      (try clear BK148)
      (try clear BK150)
      (try clear HB)
      generalize (((w39.setCell ⟨gb150, 0, none⟩ (.string ((rd_T74 l0_0 x8_1).f0))).setCell ⟨gb150, 1, none⟩ (.slice A149_1 ((rd_T74 l0_0 x8_1).f1).length c149_1)).setCell ⟨gb150, 2, none⟩ (.slice A149_2 ((rd_T74 l0_0 x8_1).f2).length c149_2)) = w42 at n0_ n1_ n2_ ⊢
      have BK148 := n0_
      have BK150 := n1_
      have HB := n2_
      clear n0_ n1_ n2_
      have n0_ := Zh (Zb BK148.out)
      have n1_ := Zh (Zb BK150.out)
      have n2_ := Zh (Ze HB.out)
      clear BK148
      clear BK150
      clear HB
      have BK148 := n0_
      have BK150 := n1_
      have HB := n2_
      clear n0_ n1_ n2_
      refine start_ (n := 30) (S := fun w' => w'.cell? ⟨gb150, 0, none⟩ = some (.string ((rd_T74 l0_0 x8_1).f0)) ∧ w'.cell? ⟨gb150, 1, none⟩ = some (.slice A149_1 ((rd_T74 l0_0 x8_1).f1).length c149_1) ∧ w'.cell? ⟨gb150, 2, none⟩ = some (.slice A149_2 ((rd_T74 l0_0 x8_1).f2).length c149_2)) (ds := []) #[false, false, false, false, false, false, false, false, false, false, false, false, false, false, false, false, false, false, false, false, false, false, false, false, false, false, false, false, false, false] (by kernel_rfl) rfl rfl ⟨(blk_cell BK150.out 0).trans rfl, (blk_cell BK150.out 1).trans rfl, (blk_cell BK150.out 2).trans rfl⟩ (fun hHeld => ?_); refine with_tabW impl_isDisk.tab4 impl_isDisk.bits4 (fun HT_ HW_ => ?_)
      generalize w42.drew = w43 at BK148 BK150 HB hHeld ⊢
      refine SQ.pu 0 13 HT_ ?_
      refine SQ.tk 1 14 HT_ HW_ hHeld ?_
      refine one_ (i := 2) (N := some 15) #[true, true, true, false, false, false, false, false, false, false, false, false, false, false, false, false, false, false, false, false, false, false, false, false, false, false, false, false, false, false] rfl rfl (one_of HT_.out (by kernel_rfl)) (by decide) (fun K hK => ?_)
      refine goes_ Tryd.func91 (by kernel_rfl) rfl #[.string ((rd_T74 l0_0 x8_1).f0)] (by rfl) rfl rfl (by (try simp only [List.map_toArray, List.map_cons, List.map_nil]); first | done | rfl | (simp only [List.length_drop, List.length_take]; rfl)) ?_
      with_reducible refine (impl_isFileName.calls ((rd_T74 l0_0 x8_1).f0) false _ A7.out).mono ?_
      rintro e w44 ⟨rfl, hb⟩
      refine ⟨_, rfl, ?_⟩
      have n0_ := Zh (Zm (g := gb148) (o := .cells #[.slice (some ad149) l0_0.length c0_0] 29 (0, 0)) Zk hb)
      have n1_ := Zh (Zm (g := gb150) (o := .cells #[.string ((rd_T74 l0_0 x8_1).f0), .slice A149_1 ((rd_T74 l0_0 x8_1).f1).length c149_1, .slice A149_2 ((rd_T74 l0_0 x8_1).f2).length c149_2] 74 (0, 0)) Zk hb)
      have n2_ := Zh (Zl Zs hb)
      clear BK148
      clear BK150
      clear HB
      have BK148 := n0_
      have BK150 := n1_
      have HB := n2_
      clear n0_ n1_ n2_
      (try clear hb)
      (try clear hb2)
      (try clear hk)
      (try clear hi)
      refine hK.out _ _ ⟨(blk_cell BK150.out 0).trans rfl, (blk_cell BK150.out 1).trans rfl, (blk_cell BK150.out 2).trans rfl⟩ (fun hHeld => ?_)
      clear hK K
      refine norm_ (a' := ?_) ?_ ?_
      rotate_left
      ·
       show Act.put _ (some 15) _ = _
       simp only [Act.put, List.setIfInBounds_toArray, List.set_cons_zero, List.set_cons_succ, i64_w, i32_w]
       rfl
      refine SQ.pu 3 16 HT_ ?_
      refine SQ.pu 4 17 HT_ ?_
      refine SQ.of 5 18 HT_ ?_
      refine SQ.of 6 19 HT_ ?_
      refine SQ.of 7 20 HT_ ?_
      refine SQ.of 8 21 HT_ ?_
      refine SQ.of 9 22 HT_ ?_
      refine SQ.of 10 23 HT_ ?_
      refine SQ.of 11 24 HT_ ?_
      refine SQ.of 12 25 HT_ ?_
      refine SQ.pu 13 26 HT_ ?_
      refine SQ.pu 14 27 HT_ ?_
      refine SQ.of 15 28 HT_ ?_
      refine SQ.of 16 29 HT_ ?_
      refine SQ.of 17 30 HT_ ?_
      refine SQ.of 18 31 HT_ ?_
      refine SQ.of 19 32 HT_ ?_
      refine SQ.of 20 33 HT_ ?_
      refine SQ.of 21 34 HT_ ?_
      refine SQ.of 22 35 HT_ ?_
      refine SQ.of 23 36 HT_ ?_
      refine SQ.of 24 37 HT_ ?_
      refine SQ.of 25 38 HT_ ?_
      refine SQ.of 26 39 HT_ ?_
      refine SQ.of 27 40 HT_ ?_
      refine SQ.of 28 41 HT_ ?_
      refine SQ.pu 29 42 HT_ ?_
      refine done_ (done_of HT_.out (by kernel_rfl)) ?_
      try go_wp2
      go_ret
      exact ⟨by first | rfl | (simp [errW_none, errW_some] <;> rfl) | (simp [*, errW_none, errW_some] <;> rfl), by repeat (first | (with_reducible first | exact HB.out | apply Zf | apply Zd | apply Ze | refine Zg ?_ GE148.out | refine Zg ?_ GE150.out) | exact HB.out)⟩
     rw [if_neg c6] at H
     exact absurd H (by simp)
    rw [if_neg c5] at H
    exact absurd H (by simp)
   rw [if_neg c4] at H
   have c4b0 : decide (x8_1 < (l0_0.length : Int)) = false := decide_eq_false c4
   clear c4
   obtain rfl := Option.some.inj H
   have hcz45_0 : wr.cell? ⟨gb148, 0, none⟩ = some (.slice A0_0 l0_0.length c0_0) := (blk_cell BK148.out 0).trans rfl
   have hfz45_0 := Zn BK148.out 0
   go_wp2
   go_ret
   exact ⟨by first | rfl | (simp [errW_none, errW_some] <;> rfl) | (simp [*, errW_none, errW_some] <;> rfl), by repeat (first | (with_reducible first | exact HB.out | apply Zf | apply Zd | apply Ze | refine Zg ?_ GE148.out) | exact HB.out)⟩
end Go.Proofs.YtmgeffgcihfpcaaDoor.F

namespace Go.Proofs.YtmgeffgcihfpcaaDoor.F
open Go.RowKit Go.Proofs.YtmgeffgcihfpcaaDoorW.PrintWords Go.Proofs.YtmgeffgcihfpcaaDoorW.PrintLast Go.Proofs.YtmgeffgcihfpcaaDoorW.PrintMore
open Go.Proofs.YtmgeffgcihfpcaaDoor
set_option linter.unusedVariables false
set_option linter.unusedSimpArgs false
def impl_appendFile.fin (k : Nat) (l0_0 p : List S74) (a1 : ByteArray) (d : List Int) : Option (List S74 × Bool) := (impl_fileOf.f p a1).bind fun i => if 0 ≤ i then (if i < (p.length : Int) then (if (rd_T74 p i).f2.length + d.length ≤ 140737488355328 then (impl_isDisk.f k (p.set i.toNat ⟨(rd_T74 p i).f0, (rd_T74 p i).f1, (rd_T74 p i).f2 ++ d⟩)).bind fun t => if t = true then some (p.set i.toNat ⟨(rd_T74 p i).f0, (rd_T74 p i).f1, (rd_T74 p i).f2 ++ d⟩, true) else (impl_copyDisk.f k l0_0).bind fun o => some (o, false) else none) else none) else none
def impl_appendFile.f (k : Nat) (l0_0 : List S74) (a1 : ByteArray) (d : List Int) : Option (List S74 × Bool) := (impl_copyDisk.f k l0_0).bind fun o => (impl_isDisk.f k l0_0).bind fun t => if t = true then (impl_isFileName.f a1).bind fun n => if n = true then (impl_fileOf.f o a1).bind fun j => if j < 0 then (if (o.length + 1) * 64 ≤ 140737488355328 then impl_appendFile.fin k l0_0 (insM o ⟨a1, [], []⟩) a1 d else none) else impl_appendFile.fin k l0_0 o a1 d else some (o, false) else some (o, false)
theorem cell_blk {w w1 : World} {g o : Nat} (h : w1.heap[g]? = w.heap[g]?) : w1.cell? ⟨g, o, none⟩ = w.cell? ⟨g, o, none⟩ := by
  simp only [World.cell?, h]
theorem frozen_blk {w w1 : World} {g o : Nat} (h : w1.heap[g]? = w.heap[g]?) : w1.frozen? ⟨g, o, none⟩ = w.frozen? ⟨g, o, none⟩ := by
  simp only [World.frozen?, h]
theorem blk_lt_of {w : World} {g o : Nat} {v : Value} (h : w.cell? ⟨g, o, none⟩ = some v) : g < w.heap.size := Zi w _ h
set_option maxHeartbeats 8000000 in
set_option maxRecDepth 100000 in
theorem impl_appendFile.calls (k : Nat) (A0_0 : Option Addr) (c0_0 : Nat) (l0_0 : List S74) (a1 : ByteArray) (A2 : Option Addr) (c2 : Nat) (l2 : List Int) (r1 : List S74) (r2 : Bool) (w : World) (hr0_0 : Kd.C k74 w A0_0 l0_0.length l0_0) (hc0_0 : l0_0.length ≤ c0_0) (hr2 : Kd.C (Kd.int .u8) w A2 l2.length l2) (hc2 : l2.length ≤ c2) (h : impl_appendFile.f k l0_0 a1 l2 = some (r1, r2)) :
    Calls Tryd.prog 78 #[.agg #[.slice A0_0 l0_0.length c0_0], .string a1, .slice A2 l2.length c2] w fun e w' => ∃ v0_ : Value, e = .returned (.tuple #[.agg #[v0_], .bool r2]) ∧ Kd.S k74 74 w' w.heap.size (fun _ => True) v0_ r1 ∧ Below w.heap.size w w' := by
  have HR := Zh hr0_0
  have HC := Zh hc0_0
  have HR2 := Zh hr2
  have HC2 := Zh hc2
  clear hr0_0 hc0_0 hr2 hc2
  have ST := Zh (LW.St.start w)
  have hu29 := Tryd.underlying29
  have hu74 := Tryd.underlying74
  unfold impl_appendFile.f at h
  replace h := Option.bind_eq_some_iff.mp h
  obtain ⟨o, HA1, h⟩ := h
  replace h := Option.bind_eq_some_iff.mp h
  obtain ⟨t, HA2, h⟩ := h
  replace HA1 := Zh HA1
  replace HA2 := Zh HA2
  have H := Zh h
  clear h
  go_enter Tryd.func78, Tryd.ntmps78
  go_wp2_with fail
  replace ST := Zh (ST.out.alloc #[.slice A0_0 l0_0.length c0_0] 29 (g := w.heap.size) rfl)
  replace ST := Zh (ST.out.alloc #[.slice none 0 0] 29 (g := w.heap.size + 1) (by simp))
  with_reducible refine (impl_copyDisk.calls k _ _ l0_0 o _ (Kd.C_below HR.out ST.out.b) HC.out HA1.out).mono ?_
  rintro e w1 ⟨v1, rfl, ho, hb⟩
  obtain ⟨A1, c1, rfl⟩ := Kd.S_slice ho
  replace ST := Zh (ST.out.row hb ho)
  clear hb ho
  have hc1 := ST.out.cell 2 rfl 0 (u := .slice A0_0 l0_0.length c0_0) rfl
  have hl1 := ST.out.lt 2 rfl
  go_wp2_with fail
  replace ST := Zh (ST.out.alloc #[.slice A1 o.length c1] 29 (g := w1.heap.size) rfl)
  with_reducible refine (impl_isDisk.calls k _ _ l0_0 t _ (Kd.C_below HR.out ST.out.b) HC.out HA2.out).mono ?_
  rintro e w3 ⟨rfl, hb⟩
  replace ST := Zh (ST.out.step hb)
  clear hb hc1 hl1
  have h := H.out
  clear H
  by_cases ct : t = true
  · subst ct
    rw [if_pos rfl] at h
    replace h := Option.bind_eq_some_iff.mp h
    obtain ⟨n, HA3, h⟩ := h
    replace HA3 := Zh HA3
    have H := Zh h
    clear h
    go_wp2_with fail
    with_reducible refine (impl_isFileName.calls a1 n _ HA3.out).mono ?_
    rintro e w4 ⟨rfl, hb⟩
    replace ST := Zh (ST.out.step hb)
    clear hb
    have h := H.out
    clear H
    by_cases cn : n = true
    · subst cn
      rw [if_pos rfl] at h
      replace h := Option.bind_eq_some_iff.mp h
      obtain ⟨j, HA4, h⟩ := h
      replace HA4 := Zh HA4
      have H := Zh h
      clear h
      have hc2 := ST.out.cell 0 rfl 0 (u := .slice A1 o.length c1) rfl
      have hl2 := ST.out.lt 0 rfl
      go_wp2_with fail
      with_reducible refine (impl_fileOf.calls _ _ o a1 j _ (ST.out.reads 1 rfl).2.2 (ST.out.reads 1 rfl).2.1 HA4.out).mono ?_
      rintro e w5 ⟨rfl, hb⟩
      replace ST := Zh (ST.out.step hb)
      clear hb hc2 hl2
      have hc2 := ST.out.cell 0 rfl 0 (u := .slice A1 o.length c1) rfl
      have hl2 := ST.out.lt 0 rfl
      have hf2 := ST.out.frozen 0 rfl 0
      have h := H.out
      clear H
      by_cases cj : j < 0
      · rw [if_pos cj] at h
        have cjb : decide (j < 0) = true := decide_eq_true cj
        clear cj
        by_cases cq : (o.length + 1) * 64 ≤ 140737488355328
        · rw [if_pos cq] at h
          have HCQ := Zh cq
          have H := Zh h
          clear h cq
          go_wp2_with fail
          refine (impl_withFile.calls _ (fun _ => False) _ o ⟨a1, [], []⟩ (.slice none 0 0) (.slice none 0 0) w _ ST.out.b (ST.out.own 1 rfl) HCQ.out (k74_mkM _ _ _ (⟨a1, [], []⟩ : S74) (Kd.R_nil _ _ _ _ _) (Kd.R_nil _ _ _ _ _) AP.nil_ne) (fun k hk => hk.elim)).mono ?_
          rintro e w6 ⟨v', rfl, hS, hB6, hK6⟩
          obtain ⟨A6, c6, hv6⟩ := Kd.S_slice hS
          obtain ⟨q, hq⟩ : ∃ q, q = insM o ⟨a1, [], []⟩ := ⟨_, rfl⟩
          rw [← hq] at hS hv6
          subst hv6
          have hST := ST.out.grow 1 rfl (LW.row k74 74 w.heap.size (.slice A6 q.length c6) q _) (fun k hk => by
            rcases hk with a | a | a
            · exact .inl a
            · exact a.elim
            exact .inr a) hS hB6 hK6
          replace ST := Zh hST
          have H2 := Zh (show impl_appendFile.fin k l0_0 q a1 l2 = some (r1, r2) by rw [hq]; exact H.out)
          clear hST hS hB6 hK6 hq hc2 hl2 hf2 H
          have hc2 := ST.out.cell 0 rfl 0 (u := .slice A1 o.length c1) rfl
          have hl2 := ST.out.lt 0 rfl
          have hf2 := ST.out.frozen 0 rfl 0
          go_upto_region 6 with (fail)
          replace ST := Zh (ST.out.set 0 rfl 0 (.slice A6 q.length c6))
          generalize w6.setCell ⟨w1.heap.size, 0, none⟩ (.slice A6 q.length c6) = wY at ST ⊢
          have h := H2.out
          clear H2
          unfold impl_appendFile.fin at h
          replace h := Option.bind_eq_some_iff.mp h
          obtain ⟨i, HA5, h⟩ := h
          replace HA5 := Zh HA5
          by_cases ci : 0 ≤ i
          · rw [if_pos ci] at h
            by_cases cl : i < (q.length : Int)
            · rw [if_pos cl] at h
              by_cases cs : (rd_T74 q i).f2.length + l2.length ≤ 140737488355328
              · rw [if_pos cs] at h
                replace h := Option.bind_eq_some_iff.mp h
                obtain ⟨t2, HA6, h⟩ := h
                replace HA6 := Zh HA6
                have H := Zh h
                have HI0 := Zh ci
                have HIL := Zh cl
                have HSZ := Zh cs
                clear h cs hc2 hl2 hf2
                have p0 := eq_true ci
                have p1 := eq_true cl
                clear ci cl
                obtain ⟨g, cg, hv, _, _, _⟩ := Kd.S_form (ST.out.own 1 rfl) (by have := HI0.out; have := HIL.out; omega)
                injection hv with hv1 hv2 hv3
                subst hv1
                clear hv2 hv3
                replace ST := Zh ST.out.drew
                refine start_ (n := 7) (S := fun w' => w'.cell? ⟨w1.heap.size, 0, none⟩ = some (.slice (some ⟨g, 0, none⟩) q.length c6)) (ds := []) #[false, false, false, false, false, false, false] (by kernel_rfl) rfl rfl (ST.out.cell 0 rfl 0 rfl) (fun hHeld => ?_)
                generalize wY.drew = w8 at ST hHeld ⊢
                refine pure_ (i := 0) (N := some 29) (v := ?_) (a' := ?_) #[true, false, false, false, false, false, false] rfl rfl (by kernel_rfl) (fun _ _ _ h => h) (Or.inl ⟨by rfl, ?_⟩) ?_ ?_
                rotate_left
                · intro w'
                  go_simp
                  with_reducible rfl
                rotate_left
                · simp only [Act.put, List.setIfInBounds_toArray, List.set_cons_zero, List.set_cons_succ, i64_w, i32_w]
                  rfl
                refine pure_ (i := 3) (N := some 32) (v := ?_) (a' := ?_) #[true, false, false, true, false, false, false] rfl rfl (by kernel_rfl) (fun _ _ _ h => h) (Or.inl ⟨by rfl, ?_⟩) ?_ ?_
                rotate_left
                · intro w'
                  go_simp
                  with_reducible rfl
                rotate_left
                · simp only [Act.put, List.setIfInBounds_toArray, List.set_cons_zero, List.set_cons_succ, i64_w, i32_w]
                  rfl
                refine take_ (i := 1) (N := some 30) (v := ?_) (a' := ?_) #[true, true, false, true, false, false, false] rfl rfl (by kernel_rfl) (fun _ _ _ h => h) (Or.inl ⟨by rfl, ?_⟩) hHeld ?_ ?_
                rotate_left
                · rintro w' s0
                  go_simp
                  with_reducible rfl
                rotate_left
                · simp only [Act.put, List.setIfInBounds_toArray, List.set_cons_zero, List.set_cons_succ, i64_w, i32_w]
                  rfl
                refine take_ (i := 2) (N := some 31) (v := ?_) (a' := ?_) #[true, true, true, true, false, false, false] rfl rfl (by kernel_rfl) (fun _ _ _ h => h) (Or.inl ⟨by rfl, ?_⟩) hHeld ?_ ?_
                rotate_left
                · rintro w' s0
                  go_simp
                  with_reducible rfl
                rotate_left
                · simp only [Act.put, List.setIfInBounds_toArray, List.set_cons_zero, List.set_cons_succ, i64_w, i32_w]
                  rfl
                refine one_ (i := 4) (N := some 33) #[true, true, true, true, true, false, false] rfl rfl (by kernel_rfl) (by decide) (fun K hK => ?_)
                refine goes_ Tryd.func63 (by kernel_rfl) rfl #[.agg #[.slice (some ⟨g, 0, none⟩) q.length c6], .string a1] (by rfl) rfl rfl (by (try simp only [List.map_toArray, List.map_cons, List.map_nil]); first | done | rfl) ?_
                with_reducible refine (impl_fileOf.calls _ _ q a1 i _ (ST.out.reads 1 rfl).2.2 (ST.out.reads 1 rfl).2.1 HA5.out).mono ?_
                rintro e w9 ⟨rfl, hb⟩
                refine ⟨_, rfl, ?_⟩
                replace ST := Zh (ST.out.step hb)
                clear hb
                refine hK.out _ _ (ST.out.cell 0 rfl 0 rfl) (fun hHeld => ?_)
                clear hK K
                refine norm_ (a' := ?_) ?_ ?_
                rotate_left
                · show Act.put _ (some 33) _ = _
                  simp only [Act.put, List.setIfInBounds_toArray, List.set_cons_zero, List.set_cons_succ, i64_w, i32_w]
                  rfl
                refine pure_ (i := 5) (N := some 34) (v := ?_) (a' := ?_) #[true, true, true, true, true, true, false] rfl rfl (by kernel_rfl) (fun _ _ _ h => h) (Or.inl ⟨by rfl, ?_⟩) ?_ ?_
                rotate_left
                · intro w'
                  go_simp
                  with_reducible rfl
                rotate_left
                · simp only [Act.put, List.setIfInBounds_toArray, List.set_cons_zero, List.set_cons_succ, i64_w, i32_w]
                  rfl
                refine pure_ (i := 6) (N := some 9) (v := ?_) (a' := ?_) #[true, true, true, true, true, true, true] rfl rfl (by kernel_rfl) (fun _ _ _ h => h) (Or.inl ⟨by rfl, ?_⟩) ?_ ?_
                rotate_left
                · intro w'
                  go_simp
                  with_reducible rfl
                rotate_left
                · simp only [Act.put, List.setIfInBounds_toArray, List.set_cons_zero, List.set_cons_succ, i64_w, i32_w]
                  rfl
                refine done_ (by kernel_rfl) ?_
                clear hHeld
                obtain ⟨u1, u2, ok2, hy0, hy1, hy2, hfz, hR2, hng, hFu, back⟩ := lendLoose ST.out 1 rfl i HI0.out HIL.out
                obtain ⟨B2, d2, rfl⟩ := Kd.R_slice hR2
                have HBK := Zh back
                have HRR := Zh hR2
                have hgl := blk_lt_of hy2
                have hc2 := ST.out.cell 0 rfl 0 (u := .slice (some ⟨g, 0, none⟩) q.length c6) rfl
                have hl2 := ST.out.lt 0 rfl
                have HNG := Zh hng
                have HFU := Zh hFu
                clear back hR2 hng hFu p0 p1
                go_wp2_with (at_builtin; refine Kd.R_append_rows (Kd.int .u8) (w0 := w) w.heap.size rfl _ _ 33 5 (.int .u8 0) 1 rfl Tryd.underlying33 info5 rfl (by decide) (by omega) _ (rd_T74 q i).f2 l2 _ _ _ (fun k => ok2 k ∨ w9.heap.size ≤ k) (fun _ => False) rfl rfl (Kd.R_mono HRR.out (fun k hk => .inl hk)) (Kd.C_below HR2.out ST.out.b) (fun _ _ h => h) (fun _ h => h.elim) (fun k hk => .inr hk) ST.out.b ST.out.b.size (by have := HSZ.out; omega) ?_; intro v1 w10 q1 q2 q3 q4; obtain ⟨A3, c3, rfl⟩ := Kd.R_slice q1; have hgb := q3.block g hgl (fun he => HNG.out g (HRR.out.1 g he.symm) rfl); have hgb8 := q3.block _ hl2 (fun he => LW.Its.disj ST.out.i 1 0 _ _ (by decide) rfl rfl _ (HFU.out _ he.symm) rfl); have hcg : w10.cell? ⟨g, i.toNat * 3 + 2, none⟩ = some (.slice B2 (rd_T74 q i).f2.length d2) := (cell_blk hgb).trans hy2; have hfg : w10.frozen? ⟨g, i.toNat * 3 + 2, none⟩ = false := (frozen_blk hgb).trans hfz; have hc8 : w10.cell? ⟨w1.heap.size, 0, none⟩ = some (.slice (some ⟨g, 0, none⟩) q.length c6) := (cell_blk hgb8).trans hc2; have hg8 : g ≠ w1.heap.size := fun he => LW.Its.disj ST.out.i 1 0 _ _ (by decide) rfl rfl g ((Kd.S_R (ST.out.own 1 rfl)).1 g (by simp [Value.ownBlock])) he; have hg8' := hg8.symm; have Q := Zh (And.intro q1 (And.intro q2 (And.intro q3 q4))); clear q1 q2 q3 q4 hgb hgb8 hc2 hl2 hy0 hy1 hy2 hfz hgl)
                obtain ⟨q1, q2, q3, q4⟩ := Q.out
                rw [List.length_append] at q1 q4
                have hST := HBK.out (.slice A3 ((rd_T74 q i).f2.length + l2.length) c3) w10 ((rd_T74 q i).f2 ++ l2) (fun ok hok => Kd.R_mono (Kd.R_tight rfl q1) (fun k hk => hok k hk.symm)) q2 q3 q4
                clear q1 q2 q3 q4 Q HBK hcg hfg hc8 hg8 hg8' HNG HFU HRR
                obtain ⟨p', hp'⟩ : ∃ p', p' = q.set i.toNat (⟨(rd_T74 q i).f0, (rd_T74 q i).f1, (rd_T74 q i).f2 ++ l2⟩ : S74) := ⟨_, rfl⟩
                have hpl : p'.length = q.length := by rw [hp', List.length_set]
                rw [← hp'] at hST
                replace ST := Zh hST
                have HA7 := Zh (show impl_isDisk.f k p' = some t2 by rw [hp']; exact HA6.out)
                have H3 := Zh (show (if t2 = true then some (p', true) else (impl_copyDisk.f k l0_0).bind fun o => some (o, false)) = some (r1, r2) by rw [hp']; exact H.out)
                clear hST hp' HA6 H
                generalize w10.setCell ⟨g, i.toNat * 3 + 2, none⟩ (.slice A3 ((rd_T74 q i).f2.length + l2.length) c3) = w11 at ST ⊢
                have hcall := impl_isDisk.calls k (some ⟨g, 0, none⟩) c6 p' t2 w11 (ST.out.reads 1 rfl).2.2 (by have := (ST.out.reads 1 rfl).2.1; omega) HA7.out
                rw [hpl] at hcall
                clear hpl
                refine hcall.mono ?_
                rintro e w12 ⟨rfl, hb⟩
                replace ST := Zh (ST.out.step hb)
                clear hb hcall
                have h := H3.out
                clear H3
                by_cases ct2 : t2 = true
                · subst ct2
                  rw [if_pos rfl] at h
                  obtain ⟨rfl, rfl⟩ := Prod.mk.inj (Option.some.inj h)
                  clear h
                  have hc2 := ST.out.cell 0 rfl 0 (u := .slice (some ⟨g, 0, none⟩) q.length c6) rfl
                  have hl2 := ST.out.lt 0 rfl
                  have hc3 := ST.out.cell 2 rfl 0 (u := .slice none 0 0) rfl
                  have hl3 := ST.out.lt 2 rfl
                  have hf3 := ST.out.frozen 2 rfl 0
                  go_wp2_with fail
                  replace ST := Zh (ST.out.set 2 rfl 0 (.slice (some ⟨g, 0, none⟩) q.length c6))
                  refine bodyPost_ret (results_ct rfl _ _ (w.heap.size + 1) 29 #[.slice (some ⟨g, 0, none⟩) q.length c6] (0, 0) _ rfl (ST.out.blk 2 rfl) Tryd.underlying29 rfl (by kernel_rfl)) rfl ?_
                  exact ⟨_, rfl, Kd.S_mono (ST.out.own 1 rfl) (fun _ _ => trivial), ST.out.b⟩
                rw [if_neg ct2] at h
                obtain rfl : t2 = false := by simpa using ct2
                replace h := Option.bind_eq_some_iff.mp h
                obtain ⟨o2, HAo, h⟩ := h
                obtain ⟨rfl, rfl⟩ := Prod.mk.inj (Option.some.inj h)
                clear h ct2
                replace HAo := Zh HAo
                have hc1 := ST.out.cell 3 rfl 0 (u := .slice A0_0 l0_0.length c0_0) rfl
                have hl1 := ST.out.lt 3 rfl
                go_wp2_with fail
                with_reducible refine (impl_copyDisk.calls k _ _ l0_0 o2 _ (Kd.C_below HR.out ST.out.b) HC.out HAo.out).mono ?_
                rintro e w13 ⟨v9, rfl, ho, hb⟩
                obtain ⟨A9, c9, rfl⟩ := Kd.S_slice ho
                replace ST := Zh (ST.out.row hb ho)
                clear hb ho hc1 hl1
                have hc3 := ST.out.cell 3 rfl 0 (u := .slice none 0 0) rfl
                have hl3 := ST.out.lt 3 rfl
                have hf3 := ST.out.frozen 3 rfl 0
                go_wp2
                replace ST := Zh (ST.out.set 3 rfl 0 (.slice A9 o2.length c9))
                refine bodyPost_ret (results_ct rfl _ _ (w.heap.size + 1) 29 #[.slice A9 o2.length c9] (0, 0) _ rfl (ST.out.blk 3 rfl) Tryd.underlying29 rfl (by kernel_rfl)) rfl ?_
                exact ⟨_, rfl, Kd.S_mono (ST.out.own 0 rfl) (fun _ _ => trivial), ST.out.b⟩
              rw [if_neg cs] at h; exact absurd h (by simp)
            rw [if_neg cl] at h; exact absurd h (by simp)
          rw [if_neg ci] at h; exact absurd h (by simp)
        rw [if_neg cq] at h; exact absurd h (by simp)
      rw [if_neg cj] at h
      have cjb : decide (j < 0) = false := decide_eq_false cj
      clear cj
      have H2 := Zh h
      clear h
      go_upto_region 6 with (fail)
      generalize hY : w5 = wY at ST hc2 hl2 hf2 ⊢
      clear hY
      have h := H2.out
      clear H2
      unfold impl_appendFile.fin at h
      replace h := Option.bind_eq_some_iff.mp h
      obtain ⟨i, HA5, h⟩ := h
      replace HA5 := Zh HA5
      by_cases ci : 0 ≤ i
      · rw [if_pos ci] at h
        by_cases cl : i < (o.length : Int)
        · rw [if_pos cl] at h
          by_cases cs : (rd_T74 o i).f2.length + l2.length ≤ 140737488355328
          · rw [if_pos cs] at h
            replace h := Option.bind_eq_some_iff.mp h
            obtain ⟨t2, HA6, h⟩ := h
            replace HA6 := Zh HA6
            have H := Zh h
            have HI0 := Zh ci
            have HIL := Zh cl
            have HSZ := Zh cs
            clear h cs hc2 hl2 hf2
            have p0 := eq_true ci
            have p1 := eq_true cl
            clear ci cl
            obtain ⟨g, cg, hv, _, _, _⟩ := Kd.S_form (ST.out.own 1 rfl) (by have := HI0.out; have := HIL.out; omega)
            injection hv with hv1 hv2 hv3
            subst hv1
            clear hv2 hv3
            replace ST := Zh ST.out.drew
            refine start_ (n := 7) (S := fun w' => w'.cell? ⟨w1.heap.size, 0, none⟩ = some (.slice (some ⟨g, 0, none⟩) o.length c1)) (ds := []) #[false, false, false, false, false, false, false] (by kernel_rfl) rfl rfl (ST.out.cell 0 rfl 0 rfl) (fun hHeld => ?_)
            generalize wY.drew = w8 at ST hHeld ⊢
            refine pure_ (i := 0) (N := some 29) (v := ?_) (a' := ?_) #[true, false, false, false, false, false, false] rfl rfl (by kernel_rfl) (fun _ _ _ h => h) (Or.inl ⟨by rfl, ?_⟩) ?_ ?_
            rotate_left
            · intro w'
              go_simp
              with_reducible rfl
            rotate_left
            · simp only [Act.put, List.setIfInBounds_toArray, List.set_cons_zero, List.set_cons_succ, i64_w, i32_w]
              rfl
            refine pure_ (i := 3) (N := some 32) (v := ?_) (a' := ?_) #[true, false, false, true, false, false, false] rfl rfl (by kernel_rfl) (fun _ _ _ h => h) (Or.inl ⟨by rfl, ?_⟩) ?_ ?_
            rotate_left
            · intro w'
              go_simp
              with_reducible rfl
            rotate_left
            · simp only [Act.put, List.setIfInBounds_toArray, List.set_cons_zero, List.set_cons_succ, i64_w, i32_w]
              rfl
            refine take_ (i := 1) (N := some 30) (v := ?_) (a' := ?_) #[true, true, false, true, false, false, false] rfl rfl (by kernel_rfl) (fun _ _ _ h => h) (Or.inl ⟨by rfl, ?_⟩) hHeld ?_ ?_
            rotate_left
            · rintro w' s0
              go_simp
              with_reducible rfl
            rotate_left
            · simp only [Act.put, List.setIfInBounds_toArray, List.set_cons_zero, List.set_cons_succ, i64_w, i32_w]
              rfl
            refine take_ (i := 2) (N := some 31) (v := ?_) (a' := ?_) #[true, true, true, true, false, false, false] rfl rfl (by kernel_rfl) (fun _ _ _ h => h) (Or.inl ⟨by rfl, ?_⟩) hHeld ?_ ?_
            rotate_left
            · rintro w' s0
              go_simp
              with_reducible rfl
            rotate_left
            · simp only [Act.put, List.setIfInBounds_toArray, List.set_cons_zero, List.set_cons_succ, i64_w, i32_w]
              rfl
            refine one_ (i := 4) (N := some 33) #[true, true, true, true, true, false, false] rfl rfl (by kernel_rfl) (by decide) (fun K hK => ?_)
            refine goes_ Tryd.func63 (by kernel_rfl) rfl #[.agg #[.slice (some ⟨g, 0, none⟩) o.length c1], .string a1] (by rfl) rfl rfl (by (try simp only [List.map_toArray, List.map_cons, List.map_nil]); first | done | rfl) ?_
            with_reducible refine (impl_fileOf.calls _ _ o a1 i _ (ST.out.reads 1 rfl).2.2 (ST.out.reads 1 rfl).2.1 HA5.out).mono ?_
            rintro e w9 ⟨rfl, hb⟩
            refine ⟨_, rfl, ?_⟩
            replace ST := Zh (ST.out.step hb)
            clear hb
            refine hK.out _ _ (ST.out.cell 0 rfl 0 rfl) (fun hHeld => ?_)
            clear hK K
            refine norm_ (a' := ?_) ?_ ?_
            rotate_left
            · show Act.put _ (some 33) _ = _
              simp only [Act.put, List.setIfInBounds_toArray, List.set_cons_zero, List.set_cons_succ, i64_w, i32_w]
              rfl
            refine pure_ (i := 5) (N := some 34) (v := ?_) (a' := ?_) #[true, true, true, true, true, true, false] rfl rfl (by kernel_rfl) (fun _ _ _ h => h) (Or.inl ⟨by rfl, ?_⟩) ?_ ?_
            rotate_left
            · intro w'
              go_simp
              with_reducible rfl
            rotate_left
            · simp only [Act.put, List.setIfInBounds_toArray, List.set_cons_zero, List.set_cons_succ, i64_w, i32_w]
              rfl
            refine pure_ (i := 6) (N := some 9) (v := ?_) (a' := ?_) #[true, true, true, true, true, true, true] rfl rfl (by kernel_rfl) (fun _ _ _ h => h) (Or.inl ⟨by rfl, ?_⟩) ?_ ?_
            rotate_left
            · intro w'
              go_simp
              with_reducible rfl
            rotate_left
            · simp only [Act.put, List.setIfInBounds_toArray, List.set_cons_zero, List.set_cons_succ, i64_w, i32_w]
              rfl
            refine done_ (by kernel_rfl) ?_
            clear hHeld
            obtain ⟨u1, u2, ok2, hy0, hy1, hy2, hfz, hR2, hng, hFu, back⟩ := lendLoose ST.out 1 rfl i HI0.out HIL.out
            obtain ⟨B2, d2, rfl⟩ := Kd.R_slice hR2
            have HBK := Zh back
            have HRR := Zh hR2
            have hgl := blk_lt_of hy2
            have hc2 := ST.out.cell 0 rfl 0 (u := .slice (some ⟨g, 0, none⟩) o.length c1) rfl
            have hl2 := ST.out.lt 0 rfl
            have HNG := Zh hng
            have HFU := Zh hFu
            clear back hR2 hng hFu p0 p1
            go_wp2_with (at_builtin; refine Kd.R_append_rows (Kd.int .u8) (w0 := w) w.heap.size rfl _ _ 33 5 (.int .u8 0) 1 rfl Tryd.underlying33 info5 rfl (by decide) (by omega) _ (rd_T74 o i).f2 l2 _ _ _ (fun k => ok2 k ∨ w9.heap.size ≤ k) (fun _ => False) rfl rfl (Kd.R_mono HRR.out (fun k hk => .inl hk)) (Kd.C_below HR2.out ST.out.b) (fun _ _ h => h) (fun _ h => h.elim) (fun k hk => .inr hk) ST.out.b ST.out.b.size (by have := HSZ.out; omega) ?_; intro v1 w10 q1 q2 q3 q4; obtain ⟨A3, c3, rfl⟩ := Kd.R_slice q1; have hgb := q3.block g hgl (fun he => HNG.out g (HRR.out.1 g he.symm) rfl); have hgb8 := q3.block _ hl2 (fun he => LW.Its.disj ST.out.i 1 0 _ _ (by decide) rfl rfl _ (HFU.out _ he.symm) rfl); have hcg : w10.cell? ⟨g, i.toNat * 3 + 2, none⟩ = some (.slice B2 (rd_T74 o i).f2.length d2) := (cell_blk hgb).trans hy2; have hfg : w10.frozen? ⟨g, i.toNat * 3 + 2, none⟩ = false := (frozen_blk hgb).trans hfz; have hc8 : w10.cell? ⟨w1.heap.size, 0, none⟩ = some (.slice (some ⟨g, 0, none⟩) o.length c1) := (cell_blk hgb8).trans hc2; have hg8 : g ≠ w1.heap.size := fun he => LW.Its.disj ST.out.i 1 0 _ _ (by decide) rfl rfl g ((Kd.S_R (ST.out.own 1 rfl)).1 g (by simp [Value.ownBlock])) he; have hg8' := hg8.symm; have Q := Zh (And.intro q1 (And.intro q2 (And.intro q3 q4))); clear q1 q2 q3 q4 hgb hgb8 hc2 hl2 hy0 hy1 hy2 hfz hgl)
            obtain ⟨q1, q2, q3, q4⟩ := Q.out
            rw [List.length_append] at q1 q4
            have hST := HBK.out (.slice A3 ((rd_T74 o i).f2.length + l2.length) c3) w10 ((rd_T74 o i).f2 ++ l2) (fun ok hok => Kd.R_mono (Kd.R_tight rfl q1) (fun k hk => hok k hk.symm)) q2 q3 q4
            clear q1 q2 q3 q4 Q HBK hcg hfg hc8 hg8 hg8' HNG HFU HRR
            obtain ⟨p', hp'⟩ : ∃ p', p' = o.set i.toNat (⟨(rd_T74 o i).f0, (rd_T74 o i).f1, (rd_T74 o i).f2 ++ l2⟩ : S74) := ⟨_, rfl⟩
            have hpl : p'.length = o.length := by rw [hp', List.length_set]
            rw [← hp'] at hST
            replace ST := Zh hST
            have HA7 := Zh (show impl_isDisk.f k p' = some t2 by rw [hp']; exact HA6.out)
            have H3 := Zh (show (if t2 = true then some (p', true) else (impl_copyDisk.f k l0_0).bind fun o => some (o, false)) = some (r1, r2) by rw [hp']; exact H.out)
            clear hST hp' HA6 H
            generalize w10.setCell ⟨g, i.toNat * 3 + 2, none⟩ (.slice A3 ((rd_T74 o i).f2.length + l2.length) c3) = w11 at ST ⊢
            have hcall := impl_isDisk.calls k (some ⟨g, 0, none⟩) c1 p' t2 w11 (ST.out.reads 1 rfl).2.2 (by have := (ST.out.reads 1 rfl).2.1; omega) HA7.out
            rw [hpl] at hcall
            clear hpl
            refine hcall.mono ?_
            rintro e w12 ⟨rfl, hb⟩
            replace ST := Zh (ST.out.step hb)
            clear hb hcall
            have h := H3.out
            clear H3
            by_cases ct2 : t2 = true
            · subst ct2
              rw [if_pos rfl] at h
              obtain ⟨rfl, rfl⟩ := Prod.mk.inj (Option.some.inj h)
              clear h
              have hc2 := ST.out.cell 0 rfl 0 (u := .slice (some ⟨g, 0, none⟩) o.length c1) rfl
              have hl2 := ST.out.lt 0 rfl
              have hc3 := ST.out.cell 2 rfl 0 (u := .slice none 0 0) rfl
              have hl3 := ST.out.lt 2 rfl
              have hf3 := ST.out.frozen 2 rfl 0
              go_wp2_with fail
              replace ST := Zh (ST.out.set 2 rfl 0 (.slice (some ⟨g, 0, none⟩) o.length c1))
              refine bodyPost_ret (results_ct rfl _ _ (w.heap.size + 1) 29 #[.slice (some ⟨g, 0, none⟩) o.length c1] (0, 0) _ rfl (ST.out.blk 2 rfl) Tryd.underlying29 rfl (by kernel_rfl)) rfl ?_
              exact ⟨_, rfl, Kd.S_mono (ST.out.own 1 rfl) (fun _ _ => trivial), ST.out.b⟩
            rw [if_neg ct2] at h
            obtain rfl : t2 = false := by simpa using ct2
            replace h := Option.bind_eq_some_iff.mp h
            obtain ⟨o2, HAo, h⟩ := h
            obtain ⟨rfl, rfl⟩ := Prod.mk.inj (Option.some.inj h)
            clear h ct2
            replace HAo := Zh HAo
            have hc1 := ST.out.cell 3 rfl 0 (u := .slice A0_0 l0_0.length c0_0) rfl
            have hl1 := ST.out.lt 3 rfl
            go_wp2_with fail
            with_reducible refine (impl_copyDisk.calls k _ _ l0_0 o2 _ (Kd.C_below HR.out ST.out.b) HC.out HAo.out).mono ?_
            rintro e w13 ⟨v9, rfl, ho, hb⟩
            obtain ⟨A9, c9, rfl⟩ := Kd.S_slice ho
            replace ST := Zh (ST.out.row hb ho)
            clear hb ho hc1 hl1
            have hc3 := ST.out.cell 3 rfl 0 (u := .slice none 0 0) rfl
            have hl3 := ST.out.lt 3 rfl
            have hf3 := ST.out.frozen 3 rfl 0
            go_wp2
            replace ST := Zh (ST.out.set 3 rfl 0 (.slice A9 o2.length c9))
            refine bodyPost_ret (results_ct rfl _ _ (w.heap.size + 1) 29 #[.slice A9 o2.length c9] (0, 0) _ rfl (ST.out.blk 3 rfl) Tryd.underlying29 rfl (by kernel_rfl)) rfl ?_
            exact ⟨_, rfl, Kd.S_mono (ST.out.own 0 rfl) (fun _ _ => trivial), ST.out.b⟩
          rw [if_neg cs] at h; exact absurd h (by simp)
        rw [if_neg cl] at h; exact absurd h (by simp)
      rw [if_neg ci] at h; exact absurd h (by simp)
    rw [if_neg cn] at h
    obtain rfl : n = false := by simpa using cn
    clear cn
    obtain ⟨rfl, rfl⟩ := Prod.mk.inj (Option.some.inj h)
    clear h
    have hc2 := ST.out.cell 0 rfl 0 (u := .slice A1 o.length c1) rfl
    have hl2 := ST.out.lt 0 rfl
    have hc3 := ST.out.cell 2 rfl 0 (u := .slice none 0 0) rfl
    have hl3 := ST.out.lt 2 rfl
    have hf3 := ST.out.frozen 2 rfl 0
    go_wp2_with fail
    replace ST := Zh (ST.out.set 2 rfl 0 (.slice A1 o.length c1))
    refine bodyPost_ret (results_ct rfl _ _ (w.heap.size + 1) 29 #[.slice A1 o.length c1] (0, 0) _ rfl (ST.out.blk 2 rfl) Tryd.underlying29 rfl (by kernel_rfl)) rfl ?_
    exact ⟨_, rfl, Kd.S_mono (ST.out.own 1 rfl) (fun _ _ => trivial), ST.out.b⟩
  rw [if_neg ct] at h
  obtain rfl : t = false := by simpa using ct
  clear ct
  obtain ⟨rfl, rfl⟩ := Prod.mk.inj (Option.some.inj h)
  clear h
  have hc2 := ST.out.cell 0 rfl 0 (u := .slice A1 o.length c1) rfl
  have hl2 := ST.out.lt 0 rfl
  have hc3 := ST.out.cell 2 rfl 0 (u := .slice none 0 0) rfl
  have hl3 := ST.out.lt 2 rfl
  have hf3 := ST.out.frozen 2 rfl 0
  go_wp2_with fail
  replace ST := Zh (ST.out.set 2 rfl 0 (.slice A1 o.length c1))
  refine bodyPost_ret (results_ct rfl _ _ (w.heap.size + 1) 29 #[.slice A1 o.length c1] (0, 0) _ rfl (ST.out.blk 2 rfl) Tryd.underlying29 rfl (by kernel_rfl)) rfl ?_
  exact ⟨_, rfl, Kd.S_mono (ST.out.own 1 rfl) (fun _ _ => trivial), ST.out.b⟩
def impl_AppendFile.f (k : Nat) (l0_0 : List S74) (a1 : ByteArray) (a2 : List Int) : Option (List S74 × Bool) := impl_appendFile.f k l0_0 a1 a2
set_option maxHeartbeats 8000000 in
theorem impl_AppendFile.calls (k : Nat) (A0_0 : Option Addr) (c0_0 : Nat) (l0_0 : List S74) (a1 : ByteArray) (A2 : Option Addr) (c2 : Nat) (l2 : List Int) (r1 : List S74) (r2 : Bool) (w : World) (hr0_0 : Kd.C k74 w A0_0 l0_0.length l0_0) (hc0_0 : l0_0.length ≤ c0_0) (hr2 : Kd.C (Kd.int .u8) w A2 l2.length l2) (hc2 : l2.length ≤ c2) (h : impl_AppendFile.f k l0_0 a1 l2 = some (r1, r2)) :
    Calls Tryd.prog 39 #[.agg #[.slice A0_0 l0_0.length c0_0], .string a1, .slice A2 l2.length c2] w fun e w' => ∃ v0_ : Value, e = .returned (.tuple #[.agg #[v0_], .bool r2]) ∧ Kd.S k74 74 w' w.heap.size (fun _ => True) v0_ r1 ∧ Below w.heap.size w w' := by
  have HR := Zh hr0_0
  have HC := Zh hc0_0
  have HR2 := Zh hr2
  have HC2 := Zh hc2
  have HA := Zh (show impl_appendFile.f k l0_0 a1 l2 = some (r1, r2) from h)
  clear hr0_0 hc0_0 hr2 hc2 h
  have ST := Zh (LW.St.start w)
  go_enter Tryd.func39, Tryd.ntmps39
  go_wp2_with fail
  replace ST := Zh (ST.out.alloc #[.slice A0_0 l0_0.length c0_0] 29 (g := w.heap.size) rfl)
  replace ST := Zh (ST.out.alloc #[.slice none 0 0] 29 (g := w.heap.size + 1) (by simp))
  with_reducible refine (impl_appendFile.calls k _ _ l0_0 a1 _ _ l2 r1 r2 _ (Kd.C_below HR.out ST.out.b) HC.out (Kd.C_below HR2.out ST.out.b) HC2.out HA.out).mono ?_
  rintro e w1 ⟨v1, rfl, ho, hb⟩
  obtain ⟨A1, c1, rfl⟩ := Kd.S_slice ho
  replace ST := Zh (ST.out.row hb ho)
  clear hb ho
  have hc1 := ST.out.cell 1 rfl 0 (u := .slice none 0 0) rfl
  have hl1 := ST.out.lt 1 rfl
  have hf1 := ST.out.frozen 1 rfl 0
  go_wp2
  replace ST := Zh (ST.out.set 1 rfl 0 (.slice A1 r1.length c1))
  refine bodyPost_ret (results_ct rfl _ _ (w.heap.size + 1) 29 #[.slice A1 r1.length c1] (0, 0) _ rfl (ST.out.blk 1 rfl) Tryd.underlying29 rfl (by kernel_rfl)) rfl ?_
  exact ⟨_, rfl, Kd.S_mono (ST.out.own 0 rfl) (fun _ _ => trivial), ST.out.b⟩
end Go.Proofs.YtmgeffgcihfpcaaDoor.F

namespace Go.Proofs.YtmgeffgcihfpcaaDoor.F
open Go.RowKit Go.Proofs.YtmgeffgcihfpcaaDoorW.PrintWords Go.Proofs.YtmgeffgcihfpcaaDoorW.PrintWords.Kd Go.Proofs.YtmgeffgcihfpcaaDoorW.PrintMore.Kd Go.Proofs.YtmgeffgcihfpcaaDoorW.PrintLast Go.Proofs.YtmgeffgcihfpcaaDoorW.PrintMore
attribute [local go_sem] max2_int min2_int max_two min_two max_three min_three max_four min_four   -- for this text's walks alone
set_option linter.unusedVariables false
set_option linter.unusedSimpArgs false
def laws_szByteS.f (l0 : List Int) (a1 : Int) : Option (Int) := if (wrap64 (a1 - (l0.length : Int))) < 0 then (some (-1)) else (some (wrap64 (a1 - (l0.length : Int))))
set_option maxHeartbeats 8000000 in
set_option maxRecDepth 100000 in
theorem laws_szByteS.calls (A0 : Option Addr) (c0 : Nat) (l0 : List Int) (a1 : Int) (r : Int) (w : World) (hr0 : Kd.C (Kd.int .u8) w A0 l0.length l0) (hc0 : l0.length ≤ c0) (h : laws_szByteS.f l0 a1 = some r) :
  Calls Tryd.prog 98 #[.slice A0 l0.length c0, .int .i64 a1] w fun e w' => e = .returned (.int .i64 r) ∧ Drawn0 w w' := by
 have HR0 := Zh hr0
 have HC0 := Zh hc0
 clear hr0 hc0
 have H : (if (wrap64 (a1 - (l0.length : Int))) < 0 then (some (-1)) else (some (wrap64 (a1 - (l0.length : Int))))) = some r := h
 clear h
 by_cases c3 : (wrap64 (a1 - (l0.length : Int))) < 0
 ·
  rw [if_pos c3] at H
  have c3b0 : decide ((wrap64 (a1 - (l0.length : Int))) < 0) = true := decide_eq_true c3
  clear c3
  obtain rfl := Option.some.inj H
  go_enter Tryd.func98, Tryd.ntmps98
  go_wp2
  go_ret
  exact ⟨by first | rfl | (simp; done) | (simp [*]; done), by repeat (first | exact Drawn0.refl _ | apply Drawn0.step)⟩
 rw [if_neg c3] at H
 have c3b0 : decide ((wrap64 (a1 - (l0.length : Int))) < 0) = false := decide_eq_false c3
 clear c3
 obtain rfl := Option.some.inj H
 go_enter Tryd.func98, Tryd.ntmps98
 go_wp2
 go_ret
 exact ⟨by first | rfl | (simp; done) | (simp [*]; done), by repeat (first | exact Drawn0.refl _ | apply Drawn0.step)⟩
def laws_szFile.f (a0_0 : ByteArray) (l0_1 : List Int) (l0_2 : List Int) (a1 : Int) : Option (Int) := if (wrap64 (a1 - (a0_0.size : Int))) < 0 then (some (-1)) else ((laws_szByteS.f l0_1 (wrap64 (a1 - (a0_0.size : Int)))).bind fun t102 => (if t102 < 0 then (some (-1)) else ((laws_szByteS.f l0_2 t102).bind fun t103 => (if t103 < 0 then (some (-1)) else (some t103)))))
set_option maxHeartbeats 8000000 in
set_option maxRecDepth 100000 in
theorem laws_szFile.calls (a0_0 : ByteArray) (A0_1 : Option Addr) (c0_1 : Nat) (l0_1 : List Int) (A0_2 : Option Addr) (c0_2 : Nat) (l0_2 : List Int) (a1 : Int) (r : Int) (w : World) (hr0_1 : Kd.C (Kd.int .u8) w A0_1 l0_1.length l0_1) (hc0_1 : l0_1.length ≤ c0_1) (hr0_2 : Kd.C (Kd.int .u8) w A0_2 l0_2.length l0_2) (hc0_2 : l0_2.length ≤ c0_2) (h : laws_szFile.f a0_0 l0_1 l0_2 a1 = some r) :
  Calls Tryd.prog 89 #[.agg #[.string a0_0, .slice A0_1 l0_1.length c0_1, .slice A0_2 l0_2.length c0_2], .int .i64 a1] w fun e w' => e = .returned (.int .i64 r) ∧ Below w.heap.size w w' := by
 have hu101 := Tryd.underlying101
 have HR0_1 := Zh hr0_1
 have HC0_1 := Zh hc0_1
 clear hr0_1 hc0_1
 have HR0_2 := Zh hr0_2
 have HC0_2 := Zh hc0_2
 clear hr0_2 hc0_2
 have HB := Zh (Below.refl w.heap.size w)
 have H : (if (wrap64 (a1 - (a0_0.size : Int))) < 0 then (some (-1)) else ((laws_szByteS.f l0_1 (wrap64 (a1 - (a0_0.size : Int)))).bind fun t102 => (if t102 < 0 then (some (-1)) else ((laws_szByteS.f l0_2 t102).bind fun t103 => (if t103 < 0 then (some (-1)) else (some t103)))))) = some r := h
 clear h
 by_cases c3 : (wrap64 (a1 - (a0_0.size : Int))) < 0
 ·
  rw [if_pos c3] at H
  have c3b0 : decide ((wrap64 (a1 - (a0_0.size : Int))) < 0) = true := decide_eq_true c3
  clear c3
  obtain rfl := Option.some.inj H
  go_enter Tryd.func89, Tryd.ntmps89
  go_wp2_with (first | ((with_reducible refine gate_dst (N := 2) rfl ?_); refine box_event ?hg (N := 2) ?hd (cs := #[.string a0_0, .slice A0_1 l0_1.length c0_1, .slice A0_2 l0_2.length c0_2]) (t := 101) ?hr ?_; (case hd => rfl); (case hg => rfl); (case hr => first | (go_simp; done) | (go_simp; rfl)); intro gb101 hg w4 hbox hb; have n0_ := Zh (Zl Zs hb); have n1_ := Zh (hbox); have n2_ := Zh ((by rw [hg]; exact (below_size Zs) : w.heap.size ≤ gb101)); have n3_ := Zh ((by rw [hg]; exact (below_size Zs) : w.heap.size ≤ gb101)); clear HB; have HB := n0_; have BK101 := n1_; have GW101 := n2_; have GE101 := n3_; clear n0_ n1_ n2_ n3_; clear hb hbox hg; have hcz5_0 : w4.cell? ⟨gb101, 0, none⟩ = some (.string a0_0) := (blk_cell BK101.out 0).trans rfl; have hcz5_1 : w4.cell? ⟨gb101, 1, none⟩ = some (.slice A0_1 l0_1.length c0_1) := (blk_cell BK101.out 1).trans rfl; have hcz5_2 : w4.cell? ⟨gb101, 2, none⟩ = some (.slice A0_2 l0_2.length c0_2) := (blk_cell BK101.out 2).trans rfl; have hfz5_0 := Zn BK101.out 0; have hfz5_1 := Zn BK101.out 1; have hfz5_2 := Zn BK101.out 2))
  go_ret
  exact ⟨by first | rfl | (simp [errW_none, errW_some] <;> rfl) | (simp [*, errW_none, errW_some] <;> rfl), by repeat (first | (with_reducible first | exact HB.out | apply Zf | apply Zd | apply Ze | refine Zg ?_ GE101.out) | exact HB.out)⟩
 rw [if_neg c3] at H
 have c3b0 : decide ((wrap64 (a1 - (a0_0.size : Int))) < 0) = false := decide_eq_false c3
 clear c3
 replace H := Option.bind_eq_some_iff.mp H
 obtain ⟨t102, A60, H⟩ := H
 replace H : (if t102 < 0 then (some (-1)) else ((laws_szByteS.f l0_2 t102).bind fun t103 => (if t103 < 0 then (some (-1)) else (some t103)))) = some r := H
 have A6 := Zh A60
 clear A60
 by_cases c7 : t102 < 0
 ·
  rw [if_pos c7] at H
  have c7b0 : decide (t102 < 0) = true := decide_eq_true c7
  clear c7
  obtain rfl := Option.some.inj H
  go_enter Tryd.func89, Tryd.ntmps89
  go_wp2_with (first | ((with_reducible refine gate_dst (N := 2) rfl ?_); refine box_event ?hg (N := 2) ?hd (cs := #[.string a0_0, .slice A0_1 l0_1.length c0_1, .slice A0_2 l0_2.length c0_2]) (t := 101) ?hr ?_; (case hd => rfl); (case hg => rfl); (case hr => first | (go_simp; done) | (go_simp; rfl)); intro gb101 hg w8 hbox hb; have n0_ := Zh (Zl Zs hb); have n1_ := Zh (hbox); have n2_ := Zh ((by rw [hg]; exact (below_size Zs) : w.heap.size ≤ gb101)); have n3_ := Zh ((by rw [hg]; exact (below_size Zs) : w.heap.size ≤ gb101)); clear HB; have HB := n0_; have BK101 := n1_; have GW101 := n2_; have GE101 := n3_; clear n0_ n1_ n2_ n3_; clear hb hbox hg; have hcz9_0 : w8.cell? ⟨gb101, 0, none⟩ = some (.string a0_0) := (blk_cell BK101.out 0).trans rfl; have hcz9_1 : w8.cell? ⟨gb101, 1, none⟩ = some (.slice A0_1 l0_1.length c0_1) := (blk_cell BK101.out 1).trans rfl; have hcz9_2 : w8.cell? ⟨gb101, 2, none⟩ = some (.slice A0_2 l0_2.length c0_2) := (blk_cell BK101.out 2).trans rfl; have hfz9_0 := Zn BK101.out 0; have hfz9_1 := Zn BK101.out 1; have hfz9_2 := Zn BK101.out 2) | ((with_reducible refine gate_callee (f := 98) rfl ?_); refine goesL_ (some 15) rfl rfl Tryd.func98 (by kernel_rfl) rfl #[.slice A0_1 l0_1.length c0_1, .int .i64 (wrap64 (a1 - (a0_0.size : Int)))] rfl (by (try simp only [List.map_toArray, List.map_cons, List.map_nil]); first | done | rfl | (simp only [List.length_drop, List.length_take]; rfl)) ?_; (with_reducible refine (laws_szByteS.calls _ _ l0_1 (wrap64 (a1 - (a0_0.size : Int))) t102 _ ?side1 ?side2 A6.out).mono ?_); (case side1 => repeat (first | exact (C_below HR0_1.out HB.out) | (with_reducible refine C_alloc ?_ _) | (with_reducible refine C_drewN ?_ _) | (with_reducible refine C_drew ?_))); (case side2 => exact HC0_1.out); rintro e w' ⟨rfl, ⟨nd, rfl⟩⟩; refine ⟨_, rfl, ?_⟩))
  go_ret
  exact ⟨by first | rfl | (simp [errW_none, errW_some] <;> rfl) | (simp [*, errW_none, errW_some] <;> rfl), by repeat (first | (with_reducible first | exact HB.out | apply Zf | apply Zd | apply Ze | refine Zg ?_ GE101.out) | exact HB.out)⟩
 rw [if_neg c7] at H
 have c7b0 : decide (t102 < 0) = false := decide_eq_false c7
 clear c7
 replace H := Option.bind_eq_some_iff.mp H
 obtain ⟨t103, A100, H⟩ := H
 replace H : (if t103 < 0 then (some (-1)) else (some t103)) = some r := H
 have A10 := Zh A100
 clear A100
 by_cases c11 : t103 < 0
 ·
  rw [if_pos c11] at H
  have c11b0 : decide (t103 < 0) = true := decide_eq_true c11
  clear c11
  obtain rfl := Option.some.inj H
  go_enter Tryd.func89, Tryd.ntmps89
  go_wp2_with (first | ((with_reducible refine gate_dst (N := 2) rfl ?_); refine box_event ?hg (N := 2) ?hd (cs := #[.string a0_0, .slice A0_1 l0_1.length c0_1, .slice A0_2 l0_2.length c0_2]) (t := 101) ?hr ?_; (case hd => rfl); (case hg => rfl); (case hr => first | (go_simp; done) | (go_simp; rfl)); intro gb101 hg w12 hbox hb; have n0_ := Zh (Zl Zs hb); have n1_ := Zh (hbox); have n2_ := Zh ((by rw [hg]; exact (below_size Zs) : w.heap.size ≤ gb101)); have n3_ := Zh ((by rw [hg]; exact (below_size Zs) : w.heap.size ≤ gb101)); clear HB; have HB := n0_; have BK101 := n1_; have GW101 := n2_; have GE101 := n3_; clear n0_ n1_ n2_ n3_; clear hb hbox hg; have hcz13_0 : w12.cell? ⟨gb101, 0, none⟩ = some (.string a0_0) := (blk_cell BK101.out 0).trans rfl; have hcz13_1 : w12.cell? ⟨gb101, 1, none⟩ = some (.slice A0_1 l0_1.length c0_1) := (blk_cell BK101.out 1).trans rfl; have hcz13_2 : w12.cell? ⟨gb101, 2, none⟩ = some (.slice A0_2 l0_2.length c0_2) := (blk_cell BK101.out 2).trans rfl; have hfz13_0 := Zn BK101.out 0; have hfz13_1 := Zn BK101.out 1; have hfz13_2 := Zn BK101.out 2) | ((with_reducible refine gate_callee (f := 98) rfl ?_); refine goesL_ (some 15) rfl rfl Tryd.func98 (by kernel_rfl) rfl #[.slice A0_1 l0_1.length c0_1, .int .i64 (wrap64 (a1 - (a0_0.size : Int)))] rfl (by (try simp only [List.map_toArray, List.map_cons, List.map_nil]); first | done | rfl | (simp only [List.length_drop, List.length_take]; rfl)) ?_; (with_reducible refine (laws_szByteS.calls _ _ l0_1 (wrap64 (a1 - (a0_0.size : Int))) t102 _ ?side1 ?side2 A6.out).mono ?_); (case side1 => repeat (first | exact (C_below HR0_1.out HB.out) | (with_reducible refine C_alloc ?_ _) | (with_reducible refine C_drewN ?_ _) | (with_reducible refine C_drew ?_))); (case side2 => exact HC0_1.out); rintro e w' ⟨rfl, ⟨nd, rfl⟩⟩; refine ⟨_, rfl, ?_⟩) | ((with_reducible refine gate_callee (f := 98) rfl ?_); refine goesL_ (some 21) rfl rfl Tryd.func98 (by kernel_rfl) rfl #[.slice A0_2 l0_2.length c0_2, .int .i64 t102] rfl (by (try simp only [List.map_toArray, List.map_cons, List.map_nil]); first | done | rfl | (simp only [List.length_drop, List.length_take]; rfl)) ?_; (with_reducible refine (laws_szByteS.calls _ _ l0_2 t102 t103 _ ?side1 ?side2 A10.out).mono ?_); (case side1 => repeat (first | exact (C_below HR0_2.out Zs) | (with_reducible refine C_alloc ?_ _) | (with_reducible refine C_drewN ?_ _) | (with_reducible refine C_drew ?_))); (case side2 => exact HC0_2.out); rintro e w' ⟨rfl, ⟨nd, rfl⟩⟩; refine ⟨_, rfl, ?_⟩))
  go_ret
  exact ⟨by first | rfl | (simp [errW_none, errW_some] <;> rfl) | (simp [*, errW_none, errW_some] <;> rfl), by repeat (first | (with_reducible first | exact HB.out | apply Zf | apply Zd | apply Ze | refine Zg ?_ GE101.out) | exact HB.out)⟩
 rw [if_neg c11] at H
 have c11b0 : decide (t103 < 0) = false := decide_eq_false c11
 clear c11
 obtain rfl := Option.some.inj H
 go_enter Tryd.func89, Tryd.ntmps89
 go_wp2_with (first | ((with_reducible refine gate_dst (N := 2) rfl ?_); refine box_event ?hg (N := 2) ?hd (cs := #[.string a0_0, .slice A0_1 l0_1.length c0_1, .slice A0_2 l0_2.length c0_2]) (t := 101) ?hr ?_; (case hd => rfl); (case hg => rfl); (case hr => first | (go_simp; done) | (go_simp; rfl)); intro gb101 hg w14 hbox hb; have n0_ := Zh (Zl Zs hb); have n1_ := Zh (hbox); have n2_ := Zh ((by rw [hg]; exact (below_size Zs) : w.heap.size ≤ gb101)); have n3_ := Zh ((by rw [hg]; exact (below_size Zs) : w.heap.size ≤ gb101)); clear HB; have HB := n0_; have BK101 := n1_; have GW101 := n2_; have GE101 := n3_; clear n0_ n1_ n2_ n3_; clear hb hbox hg; have hcz15_0 : w14.cell? ⟨gb101, 0, none⟩ = some (.string a0_0) := (blk_cell BK101.out 0).trans rfl; have hcz15_1 : w14.cell? ⟨gb101, 1, none⟩ = some (.slice A0_1 l0_1.length c0_1) := (blk_cell BK101.out 1).trans rfl; have hcz15_2 : w14.cell? ⟨gb101, 2, none⟩ = some (.slice A0_2 l0_2.length c0_2) := (blk_cell BK101.out 2).trans rfl; have hfz15_0 := Zn BK101.out 0; have hfz15_1 := Zn BK101.out 1; have hfz15_2 := Zn BK101.out 2) | ((with_reducible refine gate_callee (f := 98) rfl ?_); refine goesL_ (some 15) rfl rfl Tryd.func98 (by kernel_rfl) rfl #[.slice A0_1 l0_1.length c0_1, .int .i64 (wrap64 (a1 - (a0_0.size : Int)))] rfl (by (try simp only [List.map_toArray, List.map_cons, List.map_nil]); first | done | rfl | (simp only [List.length_drop, List.length_take]; rfl)) ?_; (with_reducible refine (laws_szByteS.calls _ _ l0_1 (wrap64 (a1 - (a0_0.size : Int))) t102 _ ?side1 ?side2 A6.out).mono ?_); (case side1 => repeat (first | exact (C_below HR0_1.out HB.out) | (with_reducible refine C_alloc ?_ _) | (with_reducible refine C_drewN ?_ _) | (with_reducible refine C_drew ?_))); (case side2 => exact HC0_1.out); rintro e w' ⟨rfl, ⟨nd, rfl⟩⟩; refine ⟨_, rfl, ?_⟩) | ((with_reducible refine gate_callee (f := 98) rfl ?_); refine goesL_ (some 21) rfl rfl Tryd.func98 (by kernel_rfl) rfl #[.slice A0_2 l0_2.length c0_2, .int .i64 t102] rfl (by (try simp only [List.map_toArray, List.map_cons, List.map_nil]); first | done | rfl | (simp only [List.length_drop, List.length_take]; rfl)) ?_; (with_reducible refine (laws_szByteS.calls _ _ l0_2 t102 t103 _ ?side1 ?side2 A10.out).mono ?_); (case side1 => repeat (first | exact (C_below HR0_2.out Zs) | (with_reducible refine C_alloc ?_ _) | (with_reducible refine C_drewN ?_ _) | (with_reducible refine C_drew ?_))); (case side2 => exact HC0_2.out); rintro e w' ⟨rfl, ⟨nd, rfl⟩⟩; refine ⟨_, rfl, ?_⟩))
 go_ret
 exact ⟨by first | rfl | (simp [errW_none, errW_some] <;> rfl) | (simp [*, errW_none, errW_some] <;> rfl), by repeat (first | (with_reducible first | exact HB.out | apply Zf | apply Zd | apply Ze | refine Zg ?_ GE101.out) | exact HB.out)⟩
def laws_szFileS.l0 : Nat → List (S101) → Int → Int → Option (Int)
 | 0, _, _, _ => none
 | k + 1, x0, x1, x5 => if x5 < (x0.length : Int) then (if 0 ≤ x5 then ((laws_szFile.f ((rd_T101 x0 x5).f0) ((rd_T101 x0 x5).f1) ((rd_T101 x0 x5).f2) x1).bind fun t105 => (if t105 < 0 then (some (-1)) else (laws_szFileS.l0 k x0 t105 (wrap64 (x5 + 1))))) else (none)) else (some x1)
def laws_szFileS.f (k : Nat) (l0 : List (S101)) (a1 : Int) : Option (Int) := if (wrap64 (a1 - (l0.length : Int))) < 0 then (some (-1)) else (laws_szFileS.l0 k l0 (wrap64 (a1 - (l0.length : Int))) 0)
set_option maxHeartbeats 8000000 in
set_option maxRecDepth 100000 in
theorem laws_szFileS.calls (k : Nat) (A0 : Option Addr) (c0 : Nat) (l0 : List (S101)) (a1 : Int) (r : Int) (w : World) (hr0 : Kd.C k101 w A0 l0.length l0) (hc0 : l0.length ≤ c0) (h : laws_szFileS.f k l0 a1 = some r) :
  Calls Tryd.prog 56 #[.slice A0 l0.length c0, .int .i64 a1] w fun e w' => e = .returned (.int .i64 r) ∧ Below w.heap.size w w' := by
 have hu101 := Tryd.underlying101
 have HR0 := Zh hr0
 have HC0 := Zh hc0
 clear hr0 hc0
 have HB := Zh (Below.refl w.heap.size w)
 have H : (if (wrap64 (a1 - (l0.length : Int))) < 0 then (some (-1)) else (laws_szFileS.l0 k l0 (wrap64 (a1 - (l0.length : Int))) 0)) = some r := h
 clear h
 by_cases c3 : (wrap64 (a1 - (l0.length : Int))) < 0
 ·
  rw [if_pos c3] at H
  have c3b0 : decide ((wrap64 (a1 - (l0.length : Int))) < 0) = true := decide_eq_true c3
  clear c3
  obtain rfl := Option.some.inj H
  go_enter Tryd.func56, Tryd.ntmps56
  go_wp2
  go_ret
  exact ⟨by first | rfl | (simp [errW_none, errW_some] <;> rfl) | (simp [*, errW_none, errW_some] <;> rfl), by repeat (first | (with_reducible first | exact HB.out | apply Zf | apply Zd | apply Ze) | exact HB.out)⟩
 rw [if_neg c3] at H
 have c3b0 : decide ((wrap64 (a1 - (l0.length : Int))) < 0) = false := decide_eq_false c3
 clear c3
 have H' := Zh H
 clear H
 go_enter Tryd.func56, Tryd.ntmps56
 go_wp2
 go_loopg [1, 5] k (fun kq v1 v5 w' => ∃ (x1_1 : Int) (x5_1 : Int), v1 = .int .i64 x1_1 ∧ v5 = .int .i64 x5_1 ∧ Aside0 (laws_szFileS.l0 kq l0 x1_1 x5_1 = some r) ∧ Aside0 (kq ≤ k) ∧ Aside0 (Below w.heap.size w w'))
 case atStart => exact ⟨(wrap64 (a1 - (l0.length : Int))), (0), (by first | rfl | (simp; done) | (simp [*]; done)), (by first | rfl | (simp; done) | (simp [*]; done)), H', ⟨Nat.le_refl _⟩, ⟨by repeat (first | (with_reducible first | exact HB.out | apply Zf | apply Zd | apply Ze) | exact HB.out)⟩⟩
 case round =>
  clear H'
  try clear p2
  try clear c3
  try clear c3b0
  obtain ⟨x1_1, x5_1, rfl, rfl, HA, HK1, HB⟩ := hrel
  cases gk with
  | zero => exact absurd HA.out (by simp [laws_szFileS.l0])
  | succ k1 =>
   have H := HA.out
   clear HA
   simp only [laws_szFileS.l0] at H
   by_cases c4 : x5_1 < (l0.length : Int)
   ·
    rw [if_pos c4] at H
    have c4b0 : decide (x5_1 < (l0.length : Int)) = true := decide_eq_true c4
    clear c4
    by_cases c5 : 0 ≤ x5_1
    ·
     rw [if_pos c5] at H
     have c5b0 : decide (0 ≤ x5_1) = true := decide_eq_true c5
     clear c5
     replace H := Option.bind_eq_some_iff.mp H
     obtain ⟨t105, A60, H⟩ := H
     replace H : (if t105 < 0 then (some (-1)) else (laws_szFileS.l0 k1 l0 t105 (wrap64 (x5_1 + 1)))) = some r := H
     have A6 := Zh A60
     clear A60
     by_cases c7 : t105 < 0
     ·
      rw [if_pos c7] at H
      have c7b0 : decide (t105 < 0) = true := decide_eq_true c7
      clear c7
      obtain rfl := Option.some.inj H
      have p104 : 0 ≤ (x5_1 : Int) := Zo
      have q104 : x5_1 < (l0.length : Int) := Zo
      obtain ⟨ad104, A104_1, c104_1, A104_2, c104_2, e104, hx104_0, hx104_1, hx104_2, hl104_1, hi104_1, hl104_2, hi104_2⟩ := at_T101 HR0.out x5_1 p104 q104
      cases e104
      replace hx104_0 := Zc HB.out hx104_0
      replace hx104_1 := Zc HB.out hx104_1
      replace hx104_2 := Zc HB.out hx104_2
      have HR104_1 := Zh hi104_1
      have HC104_1 := Zh hl104_1
      clear hi104_1 hl104_1
      have HR104_2 := Zh hi104_2
      have HC104_2 := Zh hl104_2
      clear hi104_2 hl104_2
      replace p104 := eq_true p104
      replace q104 := eq_true q104
      go_wp2_with (first | ((with_reducible refine gate_callee (f := 89) rfl ?_); refine goesL_ (some 23) rfl rfl Tryd.func89 (by kernel_rfl) rfl #[.agg #[.string ((rd_T101 l0 x5_1).f0), .slice A104_1 ((rd_T101 l0 x5_1).f1).length c104_1, .slice A104_2 ((rd_T101 l0 x5_1).f2).length c104_2], .int .i64 x1_1] rfl (by (try simp only [List.map_toArray, List.map_cons, List.map_nil]); first | done | rfl | (simp only [List.length_drop, List.length_take]; rfl)) ?_; (with_reducible refine (laws_szFile.calls ((rd_T101 l0 x5_1).f0) _ _ ((rd_T101 l0 x5_1).f1) _ _ ((rd_T101 l0 x5_1).f2) x1_1 t105 _ ?side1 ?side2 ?side3 ?side4 A6.out).mono ?_); (case side1 => repeat (first | exact (C_below HR104_1.out HB.out) | (with_reducible refine C_alloc ?_ _) | (with_reducible refine C_drewN ?_ _) | (with_reducible refine C_drew ?_))); (case side2 => exact HC104_1.out); (case side3 => repeat (first | exact (C_below HR104_2.out HB.out) | (with_reducible refine C_alloc ?_ _) | (with_reducible refine C_drewN ?_ _) | (with_reducible refine C_drew ?_))); (case side4 => exact HC104_2.out); rintro e w8 ⟨rfl, hb⟩; refine ⟨_, rfl, ?_⟩; have n0_ := Zh (Zl Zs hb); clear HB; have HB := n0_; clear n0_; (try clear hb); (try clear hb2); (try clear hk); (try clear hi)))
      go_ret
      exact ⟨by first | rfl | (simp [errW_none, errW_some] <;> rfl) | (simp [*, errW_none, errW_some] <;> rfl), by repeat (first | (with_reducible first | exact HB.out | apply Zf | apply Zd | apply Ze) | exact HB.out)⟩
     rw [if_neg c7] at H
     have c7b0 : decide (t105 < 0) = false := decide_eq_false c7
     clear c7
     have H' := Zh H
     clear H
     have p104 : 0 ≤ (x5_1 : Int) := Zo
     have q104 : x5_1 < (l0.length : Int) := Zo
     obtain ⟨ad104, A104_1, c104_1, A104_2, c104_2, e104, hx104_0, hx104_1, hx104_2, hl104_1, hi104_1, hl104_2, hi104_2⟩ := at_T101 HR0.out x5_1 p104 q104
     cases e104
     replace hx104_0 := Zc HB.out hx104_0
     replace hx104_1 := Zc HB.out hx104_1
     replace hx104_2 := Zc HB.out hx104_2
     have HR104_1 := Zh hi104_1
     have HC104_1 := Zh hl104_1
     clear hi104_1 hl104_1
     have HR104_2 := Zh hi104_2
     have HC104_2 := Zh hl104_2
     clear hi104_2 hl104_2
     replace p104 := eq_true p104
     replace q104 := eq_true q104
     go_wp2_with (first | ((with_reducible refine gate_callee (f := 89) rfl ?_); refine goesL_ (some 23) rfl rfl Tryd.func89 (by kernel_rfl) rfl #[.agg #[.string ((rd_T101 l0 x5_1).f0), .slice A104_1 ((rd_T101 l0 x5_1).f1).length c104_1, .slice A104_2 ((rd_T101 l0 x5_1).f2).length c104_2], .int .i64 x1_1] rfl (by (try simp only [List.map_toArray, List.map_cons, List.map_nil]); first | done | rfl | (simp only [List.length_drop, List.length_take]; rfl)) ?_; (with_reducible refine (laws_szFile.calls ((rd_T101 l0 x5_1).f0) _ _ ((rd_T101 l0 x5_1).f1) _ _ ((rd_T101 l0 x5_1).f2) x1_1 t105 _ ?side1 ?side2 ?side3 ?side4 A6.out).mono ?_); (case side1 => repeat (first | exact (C_below HR104_1.out HB.out) | (with_reducible refine C_alloc ?_ _) | (with_reducible refine C_drewN ?_ _) | (with_reducible refine C_drew ?_))); (case side2 => exact HC104_1.out); (case side3 => repeat (first | exact (C_below HR104_2.out HB.out) | (with_reducible refine C_alloc ?_ _) | (with_reducible refine C_drewN ?_ _) | (with_reducible refine C_drew ?_))); (case side4 => exact HC104_2.out); rintro e w9 ⟨rfl, hb⟩; refine ⟨_, rfl, ?_⟩; have n0_ := Zh (Zl Zs hb); clear HB; have HB := n0_; clear n0_; (try clear hb); (try clear hb2); (try clear hk); (try clear hi)))
     go_roundg k1
     case measure => have := HK1.out; omega
     case rel => exact ⟨(t105), (wrap64 (x5_1 + 1)), (by first | rfl | (simp; done) | (simp [*]; done)), (by first | rfl | (simp; done) | (simp [*]; done)), H', ⟨by have := HK1.out; omega⟩, ⟨by repeat (first | (with_reducible first | exact HB.out | apply Zf | apply Zd | apply Ze) | exact HB.out)⟩⟩
    rw [if_neg c5] at H
    exact absurd H (by simp)
   rw [if_neg c4] at H
   have c4b0 : decide (x5_1 < (l0.length : Int)) = false := decide_eq_false c4
   clear c4
   obtain rfl := Option.some.inj H
   go_wp2
   go_ret
   exact ⟨by first | rfl | (simp [errW_none, errW_some] <;> rfl) | (simp [*, errW_none, errW_some] <;> rfl), by repeat (first | (with_reducible first | exact HB.out | apply Zf | apply Zd | apply Ze) | exact HB.out)⟩
def laws_szDisk.f (k : Nat) (l0_0 : List (S101)) (a1 : Int) : Option (Int) := (laws_szFileS.f k l0_0 a1).bind fun t107 => (if t107 < 0 then (some (-1)) else (some t107))
set_option maxHeartbeats 8000000 in
set_option maxRecDepth 100000 in
theorem laws_szDisk.calls (k : Nat) (A0_0 : Option Addr) (c0_0 : Nat) (l0_0 : List (S101)) (a1 : Int) (r : Int) (w : World) (hr0_0 : Kd.C k101 w A0_0 l0_0.length l0_0) (hc0_0 : l0_0.length ≤ c0_0) (h : laws_szDisk.f k l0_0 a1 = some r) :
  Calls Tryd.prog 14 #[.agg #[.slice A0_0 l0_0.length c0_0], .int .i64 a1] w fun e w' => e = .returned (.int .i64 r) ∧ Below w.heap.size w w' := by
 have hu24 := Tryd.underlying24
 have HR0_0 := Zh hr0_0
 have HC0_0 := Zh hc0_0
 clear hr0_0 hc0_0
 have HB := Zh (Below.refl w.heap.size w)
 have H : ((laws_szFileS.f k l0_0 a1).bind fun t107 => (if t107 < 0 then (some (-1)) else (some t107))) = some r := h
 clear h
 replace H := Option.bind_eq_some_iff.mp H
 obtain ⟨t107, A30, H⟩ := H
 replace H : (if t107 < 0 then (some (-1)) else (some t107)) = some r := H
 have A3 := Zh A30
 clear A30
 by_cases c4 : t107 < 0
 ·
  rw [if_pos c4] at H
  have c4b0 : decide (t107 < 0) = true := decide_eq_true c4
  clear c4
  obtain rfl := Option.some.inj H
  go_enter Tryd.func14, Tryd.ntmps14
  go_wp2_with (first | ((with_reducible refine gate_dst (N := 2) rfl ?_); refine box_event ?hg (N := 2) ?hd (cs := #[.slice A0_0 l0_0.length c0_0]) (t := 24) ?hr ?_; (case hd => rfl); (case hg => rfl); (case hr => first | (go_simp; done) | (go_simp; rfl)); intro gb106 hg w5 hbox hb; have n0_ := Zh (Zl Zs hb); have n1_ := Zh (hbox); have n2_ := Zh ((by rw [hg]; exact (below_size Zs) : w.heap.size ≤ gb106)); have n3_ := Zh ((by rw [hg]; exact (below_size Zs) : w.heap.size ≤ gb106)); clear HB; have HB := n0_; have BK106 := n1_; have GW106 := n2_; have GE106 := n3_; clear n0_ n1_ n2_ n3_; clear hb hbox hg; have hcz6_0 : w5.cell? ⟨gb106, 0, none⟩ = some (.slice A0_0 l0_0.length c0_0) := (blk_cell BK106.out 0).trans rfl; have hfz6_0 := Zn BK106.out 0) | ((with_reducible refine gate_callee (f := 56) rfl ?_); refine goesL_ (some 8) rfl rfl Tryd.func56 (by kernel_rfl) rfl #[.slice A0_0 l0_0.length c0_0, .int .i64 a1] rfl (by (try simp only [List.map_toArray, List.map_cons, List.map_nil]); first | done | rfl | (simp only [List.length_drop, List.length_take]; rfl)) ?_; (with_reducible refine (laws_szFileS.calls k _ _ l0_0 a1 t107 _ ?side1 ?side2 A3.out).mono ?_); (case side1 => repeat (first | exact (C_below HR0_0.out HB.out) | (with_reducible refine C_alloc ?_ _) | (with_reducible refine C_drewN ?_ _) | (with_reducible refine C_drew ?_))); (case side2 => exact HC0_0.out); rintro e w7 ⟨rfl, hb⟩; refine ⟨_, rfl, ?_⟩; have n0_ := Zh (Zm (g := gb106) (o := .cells #[.slice A0_0 l0_0.length c0_0] 24 (0, 0)) Zk hb); have n1_ := Zh (Zl Zs hb); clear BK106; clear HB; have BK106 := n0_; have HB := n1_; clear n0_ n1_; (try clear hb); (try clear hb2); (try clear hk); (try clear hi)))
  go_ret
  exact ⟨by first | rfl | (simp [errW_none, errW_some] <;> rfl) | (simp [*, errW_none, errW_some] <;> rfl), by repeat (first | (with_reducible first | exact HB.out | apply Zf | apply Zd | apply Ze | refine Zg ?_ GE106.out) | exact HB.out)⟩
 rw [if_neg c4] at H
 have c4b0 : decide (t107 < 0) = false := decide_eq_false c4
 clear c4
 obtain rfl := Option.some.inj H
 go_enter Tryd.func14, Tryd.ntmps14
 go_wp2_with (first | ((with_reducible refine gate_dst (N := 2) rfl ?_); refine box_event ?hg (N := 2) ?hd (cs := #[.slice A0_0 l0_0.length c0_0]) (t := 24) ?hr ?_; (case hd => rfl); (case hg => rfl); (case hr => first | (go_simp; done) | (go_simp; rfl)); intro gb106 hg w8 hbox hb; have n0_ := Zh (Zl Zs hb); have n1_ := Zh (hbox); have n2_ := Zh ((by rw [hg]; exact (below_size Zs) : w.heap.size ≤ gb106)); have n3_ := Zh ((by rw [hg]; exact (below_size Zs) : w.heap.size ≤ gb106)); clear HB; have HB := n0_; have BK106 := n1_; have GW106 := n2_; have GE106 := n3_; clear n0_ n1_ n2_ n3_; clear hb hbox hg; have hcz9_0 : w8.cell? ⟨gb106, 0, none⟩ = some (.slice A0_0 l0_0.length c0_0) := (blk_cell BK106.out 0).trans rfl; have hfz9_0 := Zn BK106.out 0) | ((with_reducible refine gate_callee (f := 56) rfl ?_); refine goesL_ (some 8) rfl rfl Tryd.func56 (by kernel_rfl) rfl #[.slice A0_0 l0_0.length c0_0, .int .i64 a1] rfl (by (try simp only [List.map_toArray, List.map_cons, List.map_nil]); first | done | rfl | (simp only [List.length_drop, List.length_take]; rfl)) ?_; (with_reducible refine (laws_szFileS.calls k _ _ l0_0 a1 t107 _ ?side1 ?side2 A3.out).mono ?_); (case side1 => repeat (first | exact (C_below HR0_0.out HB.out) | (with_reducible refine C_alloc ?_ _) | (with_reducible refine C_drewN ?_ _) | (with_reducible refine C_drew ?_))); (case side2 => exact HC0_0.out); rintro e w10 ⟨rfl, hb⟩; refine ⟨_, rfl, ?_⟩; have n0_ := Zh (Zm (g := gb106) (o := .cells #[.slice A0_0 l0_0.length c0_0] 24 (0, 0)) Zk hb); have n1_ := Zh (Zl Zs hb); clear BK106; clear HB; have BK106 := n0_; have HB := n1_; clear n0_ n1_; (try clear hb); (try clear hb2); (try clear hk); (try clear hi)))
 go_ret
 exact ⟨by first | rfl | (simp [errW_none, errW_some] <;> rfl) | (simp [*, errW_none, errW_some] <;> rfl), by repeat (first | (with_reducible first | exact HB.out | apply Zf | apply Zd | apply Ze | refine Zg ?_ GE106.out) | exact HB.out)⟩
def laws_toByteS.l0 : Nat → List Int → List Int → Int → Option (List Int)
 | 0, _, _, _ => none
 | k + 1, x0, x3, x4 => if x4 < (x0.length : Int) then (if 0 ≤ x4 then (if x4 < (x3.length : Int) then (laws_toByteS.l0 k x0 (x3.set (x4 : Int).toNat (rd x0 x4)) (wrap64 (x4 + 1))) else (none)) else (none)) else (some x3)
def laws_toByteS.f (k : Nat) (l0 : List Int) : Option (List Int) := if 0 ≤ (l0.length : Int) then (if ((l0.length : Int) : Int).toNat ≤ 281474976710656 then (laws_toByteS.l0 k l0 (List.replicate ((l0.length : Int) : Int).toNat 0) 0) else (none)) else (none)
set_option maxHeartbeats 8000000 in
set_option maxRecDepth 100000 in
theorem laws_toByteS.calls (k : Nat) (A0 : Option Addr) (c0 : Nat) (l0 : List Int) (r : List Int) (w : World) (hr0 : Kd.C (Kd.int .u8) w A0 l0.length l0) (hc0 : l0.length ≤ c0) (h : laws_toByteS.f k l0 = some r) :
  Calls Tryd.prog 38 #[.slice A0 l0.length c0] w fun e w' => ∃ v0_ : Value, e = .returned (v0_) ∧ Kd.R (Kd.int .u8) 5 w' w.heap.size (fun _ => True) v0_ r ∧ Below w.heap.size w w' := by
 have HR0 := Zh hr0
 have HC0 := Zh hc0
 clear hr0 hc0
 have HB := Zh (Below.refl w.heap.size w)
 have H : (if 0 ≤ (l0.length : Int) then (if ((l0.length : Int) : Int).toNat ≤ 281474976710656 then (laws_toByteS.l0 k l0 (List.replicate ((l0.length : Int) : Int).toNat 0) 0) else (none)) else (none)) = some r := h
 clear h
 by_cases c2 : 0 ≤ (l0.length : Int)
 ·
  rw [if_pos c2] at H
  have c2b0 := eq_true c2
  have c2b1 : decide (0 ≤ (l0.length : Int)) = true := decide_eq_true c2
  clear c2
  by_cases c3 : ((l0.length : Int) : Int).toNat ≤ 281474976710656
  ·
   rw [if_pos c3] at H
   have c3b0 := eq_true c3
   have c3b1 : decide (((l0.length : Int) : Int).toNat ≤ 281474976710656) = true := decide_eq_true c3
   clear c3
   obtain ⟨y114, hy114⟩ : ∃ y_ : List Int, y_ = (List.replicate ((l0.length : Int) : Int).toNat 0) := ⟨_, rfl⟩
   replace H : (laws_toByteS.l0 k l0 y114 0) = some r := by first | (rw [hy114]; with_reducible exact H) | (have H2_ := (Option.bind_some _ _).symm.trans H; rw [hy114]; with_reducible exact H2_) | (have H2_ := (Option.bind_some _ _).symm.trans H; with_reducible exact H2_) | with_reducible exact H | (rw [hy114]; exact H) | exact H
   have Ny114 := Zh hy114
   clear hy114
   have H' := Zh H
   clear H
   go_enter Tryd.func38, Tryd.ntmps38
   go_wp2_with (first | ((with_reducible refine gate_dst (N := 7) rfl ?_); refine R_make (Kd.int .u8) _ 5 rfl (N := 7) rfl 33 _ _ rfl (l0.length : Int) rfl rfl Tryd.underlying33 (.int .u8 0) 1 info5 rfl (by decide) (by omega) 0 (ok := fun _ => True) (okp := fun _ => True) rfl (fun _ hk => hk) trivial (Zo) (Nat.le_trans (Nat.mul_le_mul_right _ (Zo : (l0.length : Int).toNat ≤ 281474976710656)) (by omega)) (Below.refl _ _) (Nat.le_refl _) ?_; intro v115 w4 ho5 hb hg_ hnew_; clear hg_ hnew_; (first | rw [← Ny114.out] at ho5 | (simp only [Int.reduceToNat] at ho5; rw [← Ny114.out] at ho5)); have n0_ := Zh (R_lower ho5 (below_size Zs)); have n1_ := Zh (Zl Zs hb); clear HB; have HO116 := n0_; have HB := n1_; clear n0_ n1_; clear hb ho5))
   go_loopg [4] k (fun kq v4 w' => ∃ (x3_1 : List Int) (x4_1 : Int), v4 = .int .i64 x4_1 ∧ Aside0 (laws_toByteS.l0 kq l0 x3_1 x4_1 = some r) ∧ Aside0 (kq ≤ k) ∧ Aside0 (Kd.R (Kd.int .u8) 5 w' w.heap.size (fun _ => True) v115 x3_1) ∧ Aside0 (Below w.heap.size w w'))
   case atStart => exact ⟨(y114), (0), (by first | rfl | (simp; done) | (simp [*]; done)), H', ⟨Nat.le_refl _⟩, ⟨by (with_reducible repeat (first | apply R_alloc | apply R_drewN | apply R_drew)); exact HO116.out⟩, ⟨by repeat (first | (with_reducible first | exact HB.out | apply Zf | apply Zd | apply Ze) | exact HB.out)⟩⟩
   case round =>
    clear H'
    try clear c2
    try clear c2b0
    try clear c2b1
    try clear p2
    try clear c3
    try clear c3b0
    try clear c3b1
    obtain ⟨x3_1, x4_1, rfl, HA, HK1, HO_3, HB⟩ := hrel
    cases gk with
    | zero => exact absurd HA.out (by simp [laws_toByteS.l0])
    | succ k1 =>
     have H := HA.out
     clear HA
     simp only [laws_toByteS.l0] at H
     by_cases c6 : x4_1 < (l0.length : Int)
     ·
      rw [if_pos c6] at H
      have c6b0 : decide (x4_1 < (l0.length : Int)) = true := decide_eq_true c6
      clear c6
      by_cases c7 : 0 ≤ x4_1
      ·
       rw [if_pos c7] at H
       have c7b0 : decide (0 ≤ x4_1) = true := decide_eq_true c7
       clear c7
       by_cases c8 : x4_1 < (x3_1.length : Int)
       ·
        rw [if_pos c8] at H
        have c8b0 : decide (x4_1 < (x3_1.length : Int)) = true := decide_eq_true c8
        clear c8
        obtain ⟨y118, hy118⟩ : ∃ y_ : List Int, y_ = (x3_1.set (x4_1 : Int).toNat (rd l0 x4_1)) := ⟨_, rfl⟩
        replace H : (laws_toByteS.l0 k1 l0 y118 (wrap64 (x4_1 + 1))) = some r := by first | (rw [hy118]; with_reducible exact H) | (have H2_ := (Option.bind_some _ _).symm.trans H; rw [hy118]; with_reducible exact H2_) | (have H2_ := (Option.bind_some _ _).symm.trans H; with_reducible exact H2_) | with_reducible exact H | (rw [hy118]; exact H) | exact H
        have Ny118 := Zh hy118
        clear hy118
        have H' := Zh H
        clear H
        have p117 : 0 ≤ (x4_1 : Int) := Zo
        have q117 : x4_1 < (l0.length : Int) := Zo
        obtain ⟨ad117, e117, hx117_0⟩ := Kd.at_int HR0.out x4_1 p117 q117
        cases e117
        replace hx117_0 := Zc HB.out hx117_0
        replace p117 := eq_true p117
        replace q117 := eq_true q117
        have p9 : 0 ≤ (x4_1 : Int) := Zo
        have q9 : (x4_1 : Int) < ((x3_1.length : Int) : Int) := Zo
        obtain ⟨go9, co9, eo9, gb9, gl9, cl9, HG9⟩ := R_form HO_3.out (by omega)
        (first | cases eo9 | (injection eo9 with ea_ en_ ec_; (first | subst ea_ | (injection ea_ with ea_; subst ea_)); subst ec_; clear en_))
        have GB9 := Zh gb9
        have GG9 := Zh HG9
        clear gb9 gl9 HG9
        obtain ⟨hx9_0, hf9_0⟩ := R_celln 0 HO_3.out (x4_1 : Int) p9 q9
        replace p9 := eq_true p9
        replace q9 := eq_true q9
        have HP10 := R_putg HO_3.out (x4_1 : Int) (rd l0 x4_1)
        go_wp2_with (first | ((with_reducible refine gate_store (t := 5) (p := 20) rfl ?_); refine store_event (t := 5) (p := 20) (v := ?vo_w11) (w1 := (wr.setCell ⟨go9, (x4_1 : Int).toNat, none⟩ (.int .u8 (rd l0 x4_1)))) ?hg ?ho ?hn ?hr ?_; (case ho => rfl); (case hg => rfl); (case hn => rfl); (case hr => first | (go_simp; done) | (go_simp; rfl)); intro w11 hw; have hg : wr.grownBy w11 (some go9) := (by rw [hw]; exact HP10.2); have hp_ : Kd.R (Kd.int .u8) 5 w11 w.heap.size (fun _ => True) (.slice (some ⟨go9, 0, none⟩) x3_1.length co9) y118 := (by rw [hw, Ny118.out]; exact HP10.1); clear HP10; have n0_ := Zh (hp_); have n1_ := Zh ((by rw [hw]; exact Zg (HB.out) GB9.out : Below w.heap.size w w11)); clear HO_3; clear HB; have HO_3 := n0_; have HB := n1_; clear n0_ n1_; clear hg hw hp_))
        go_roundg k1
        case measure => have := HK1.out; omega
        case rel => exact ⟨(y118), (wrap64 (x4_1 + 1)), (by first | rfl | (simp; done) | (simp [*]; done)), H', ⟨by have := HK1.out; omega⟩, ⟨by (with_reducible repeat (first | apply R_alloc | apply R_drewN | apply R_drew)); exact HO_3.out⟩, ⟨by repeat (first | (with_reducible first | exact HB.out | apply Zf | apply Zd | apply Ze) | exact HB.out)⟩⟩
       rw [if_neg c8] at H
       exact absurd H (by simp)
      rw [if_neg c7] at H
      exact absurd H (by simp)
     rw [if_neg c6] at H
     have c6b0 : decide (x4_1 < (l0.length : Int)) = false := decide_eq_false c6
     clear c6
     obtain rfl := Option.some.inj H
     go_wp2
     go_ret
     exact ⟨_, by first | rfl | (simp [errW_none, errW_some] <;> rfl) | (simp [*, errW_none, errW_some] <;> rfl), by (with_reducible repeat (first | apply R_alloc | apply R_drewN | apply R_drew)); exact HO_3.out, by repeat (first | (with_reducible first | exact HB.out | apply Zf | apply Zd | apply Ze) | exact HB.out)⟩
  rw [if_neg c3] at H
  exact absurd H (by simp)
 rw [if_neg c2] at H
 exact absurd H (by simp)
def laws_toFile.f (k : Nat) (a0_0 : ByteArray) (l0_1 : List Int) (l0_2 : List Int) : Option (ByteArray × List Int × List Int) := (laws_toByteS.f k l0_1).bind fun t122 => ((laws_toByteS.f k l0_2).bind fun t125 => (some (a0_0, t122, t125)))
set_option maxHeartbeats 8000000 in
set_option maxRecDepth 100000 in
theorem laws_toFile.calls (k : Nat) (a0_0 : ByteArray) (A0_1 : Option Addr) (c0_1 : Nat) (l0_1 : List Int) (A0_2 : Option Addr) (c0_2 : Nat) (l0_2 : List Int) (r1 : ByteArray) (r2 : List Int) (r3 : List Int) (w : World) (hr0_1 : Kd.C (Kd.int .u8) w A0_1 l0_1.length l0_1) (hc0_1 : l0_1.length ≤ c0_1) (hr0_2 : Kd.C (Kd.int .u8) w A0_2 l0_2.length l0_2) (hc0_2 : l0_2.length ≤ c0_2) (h : laws_toFile.f k a0_0 l0_1 l0_2 = some (r1, r2, r3)) :
  Calls Tryd.prog 90 #[.agg #[.string a0_0, .slice A0_1 l0_1.length c0_1, .slice A0_2 l0_2.length c0_2]] w fun e w' => ∃ v1_ v2_ : Value, e = .returned (.agg #[.string r1, v1_, v2_]) ∧ Kd.R (Kd.int .u8) 5 w' w.heap.size (fun k_ => some k_ ≠ (v2_ : Value).ownBlock) v1_ r2 ∧ Kd.R (Kd.int .u8) 5 w' w.heap.size (fun k_ => some k_ ≠ (v1_ : Value).ownBlock) v2_ r3 ∧ Below w.heap.size w w' := by
 have hu101 := Tryd.underlying101
 have hu74 := Tryd.underlying74
 have HR0_1 := Zh hr0_1
 have HC0_1 := Zh hc0_1
 clear hr0_1 hc0_1
 have HR0_2 := Zh hr0_2
 have HC0_2 := Zh hc0_2
 clear hr0_2 hc0_2
 have HB := Zh (Below.refl w.heap.size w)
 have H : ((laws_toByteS.f k l0_1).bind fun t122 => ((laws_toByteS.f k l0_2).bind fun t125 => (some (a0_0, t122, t125)))) = some (r1, r2, r3) := h
 clear h
 replace H := Option.bind_eq_some_iff.mp H
 obtain ⟨t122, A20, H⟩ := H
 replace H : ((laws_toByteS.f k l0_2).bind fun t125 => (some (a0_0, t122, t125))) = some (r1, r2, r3) := H
 have A2 := Zh A20
 clear A20
 replace H := Option.bind_eq_some_iff.mp H
 obtain ⟨t125, A30, H⟩ := H
 replace H : (some (a0_0, t122, t125)) = some (r1, r2, r3) := H
 have A3 := Zh A30
 clear A30
 simp only [Option.some.injEq, Prod.mk.injEq] at H
 obtain ⟨rfl, rfl, rfl⟩ := H
 go_enter Tryd.func90, Tryd.ntmps90
 go_wp2_with (first | ((with_reducible refine gate_dst (N := 1) rfl ?_); refine box_event ?hg (N := 1) ?hd (cs := #[.string a0_0, .slice A0_1 l0_1.length c0_1, .slice A0_2 l0_2.length c0_2]) (t := 101) ?hr ?_; (case hd => rfl); (case hg => rfl); (case hr => first | (go_simp; done) | (go_simp; rfl)); intro gb119 hg w4 hbox hb; have n0_ := Zh (Zl Zs hb); have n1_ := Zh (hbox); have n2_ := Zh ((by rw [hg]; exact (below_size Zs) : w.heap.size ≤ gb119)); have n3_ := Zh ((by rw [hg]; exact (below_size Zs) : w.heap.size ≤ gb119)); clear HB; have HB := n0_; have BK119 := n1_; have GW119 := n2_; have GE119 := n3_; clear n0_ n1_ n2_ n3_; clear hb hbox hg) | ((with_reducible refine gate_dst (N := 2) rfl ?_); refine box_event ?hg (N := 2) ?hd (cs := #[.string (⟨#[]⟩ : ByteArray), .slice none 0 0, .slice none 0 0]) (t := 74) ?hr ?_; (case hd => rfl); (case hg => rfl); (case hr => first | (go_simp; done) | (go_simp; rfl)); intro gb120 hg w5 hbox hb; have n0_ := Zh (Zm (g := gb119) (o := .cells #[.string a0_0, .slice A0_1 l0_1.length c0_1, .slice A0_2 l0_2.length c0_2] 101 (0, 0)) Zk hb); have n1_ := Zh (Zl Zs hb); have n2_ := Zh (hbox); have n3_ := Zh ((by rw [hg]; exact (below_size Zs) : w.heap.size ≤ gb120)); have n4_ := Zh ((by rw [hg]; exact (below_size Zs) : w.heap.size ≤ gb120)); have n5_ := Zh ((by rw [hg]; exact Nat.ne_of_lt (blk_lt (g := gb119) (o := .cells #[.string a0_0, .slice A0_1 l0_1.length c0_1, .slice A0_2 l0_2.length c0_2] 101 (0, 0)) Zk) : gb119 ≠ gb120)); have n6_ := Zh ((by rw [hg]; exact Nat.ne_of_gt (blk_lt (g := gb119) (o := .cells #[.string a0_0, .slice A0_1 l0_1.length c0_1, .slice A0_2 l0_2.length c0_2] 101 (0, 0)) Zk) : gb120 ≠ gb119)); clear BK119; clear HB; have BK119 := n0_; have HB := n1_; have BK120 := n2_; have GW120 := n3_; have GE120 := n4_; have NB119_120 := n5_; have NB120_119 := n6_; clear n0_ n1_ n2_ n3_ n4_ n5_ n6_; clear hb hbox hg) | ((with_reducible refine gate_dst (N := 3) rfl ?_); refine box_event ?hg (N := 3) ?hd (cs := #[.string (⟨#[]⟩ : ByteArray), .slice none 0 0, .slice none 0 0]) (t := 74) ?hr ?_; (case hd => rfl); (case hg => rfl); (case hr => first | (go_simp; done) | (go_simp; rfl)); intro gb121 hg w6 hbox hb; have n0_ := Zh (Zm (g := gb119) (o := .cells #[.string a0_0, .slice A0_1 l0_1.length c0_1, .slice A0_2 l0_2.length c0_2] 101 (0, 0)) Zk hb); have n1_ := Zh (Zm (g := gb120) (o := .cells #[.string (⟨#[]⟩ : ByteArray), .slice none 0 0, .slice none 0 0] 74 (0, 0)) Zk hb); have n2_ := Zh (Zl Zs hb); have n3_ := Zh (hbox); have n4_ := Zh ((by rw [hg]; exact (below_size Zs) : w.heap.size ≤ gb121)); have n5_ := Zh ((by rw [hg]; exact (below_size Zs) : w.heap.size ≤ gb121)); have n6_ := Zh ((by rw [hg]; exact Nat.ne_of_lt (blk_lt (g := gb119) (o := .cells #[.string a0_0, .slice A0_1 l0_1.length c0_1, .slice A0_2 l0_2.length c0_2] 101 (0, 0)) Zk) : gb119 ≠ gb121)); have n7_ := Zh ((by rw [hg]; exact Nat.ne_of_gt (blk_lt (g := gb119) (o := .cells #[.string a0_0, .slice A0_1 l0_1.length c0_1, .slice A0_2 l0_2.length c0_2] 101 (0, 0)) Zk) : gb121 ≠ gb119)); have n8_ := Zh ((by rw [hg]; exact Nat.ne_of_lt (blk_lt (g := gb120) (o := .cells #[.string (⟨#[]⟩ : ByteArray), .slice none 0 0, .slice none 0 0] 74 (0, 0)) Zk) : gb120 ≠ gb121)); have n9_ := Zh ((by rw [hg]; exact Nat.ne_of_gt (blk_lt (g := gb120) (o := .cells #[.string (⟨#[]⟩ : ByteArray), .slice none 0 0, .slice none 0 0] 74 (0, 0)) Zk) : gb121 ≠ gb120)); clear BK119; clear BK120; clear HB; have BK119 := n0_; have BK120 := n1_; have HB := n2_; have BK121 := n3_; have GW121 := n4_; have GE121 := n5_; have NB119_121 := n6_; have NB121_119 := n7_; have NB120_121 := n8_; have NB121_120 := n9_; clear n0_ n1_ n2_ n3_ n4_ n5_ n6_ n7_ n8_ n9_; clear hb hbox hg; have hnb7 := NB119_120.out; have hnc7 := NB120_119.out; have hnb8 := NB119_121.out; have hnc8 := NB121_119.out; have hcz9_0 : w6.cell? ⟨gb119, 0, none⟩ = some (.string a0_0) := (blk_cell BK119.out 0).trans rfl; have hcz9_1 : w6.cell? ⟨gb119, 1, none⟩ = some (.slice A0_1 l0_1.length c0_1) := (blk_cell BK119.out 1).trans rfl; have hcz9_2 : w6.cell? ⟨gb119, 2, none⟩ = some (.slice A0_2 l0_2.length c0_2) := (blk_cell BK119.out 2).trans rfl; have hfz9_0 := Zn BK119.out 0; have hfz9_1 := Zn BK119.out 1; have hfz9_2 := Zn BK119.out 2; have hnb10 := NB121_120.out; have hnc10 := NB120_121.out; have hcz11_0 : w6.cell? ⟨gb121, 0, none⟩ = some (.string (⟨#[]⟩ : ByteArray)) := (blk_cell BK121.out 0).trans rfl; have hcz11_1 : w6.cell? ⟨gb121, 1, none⟩ = some (.slice none 0 0) := (blk_cell BK121.out 1).trans rfl; have hcz11_2 : w6.cell? ⟨gb121, 2, none⟩ = some (.slice none 0 0) := (blk_cell BK121.out 2).trans rfl; have hfz11_0 := Zn BK121.out 0; have hfz11_1 := Zn BK121.out 1; have hfz11_2 := Zn BK121.out 2) | ((with_reducible refine gate_callee (f := 38) rfl ?_); refine goesL_ (some 9) rfl rfl Tryd.func38 (by kernel_rfl) rfl #[.slice A0_1 l0_1.length c0_1] rfl (by (try simp only [List.map_toArray, List.map_cons, List.map_nil]); first | done | rfl | (simp only [List.length_drop, List.length_take]; rfl)) ?_; (with_reducible refine (laws_toByteS.calls k _ _ l0_1 t122 _ ?side1 ?side2 A2.out).mono ?_); (case side1 => exact C_below HR0_1.out Zs); (case side2 => exact HC0_1.out); rintro e w12 ⟨v123, rfl, ho0, hb⟩; refine ⟨_, rfl, ?_⟩; have n0_ := Zh (R_lower ho0 (below_size Zs)); have n1_ := Zh (Zm (g := gb119) (o := .cells #[.string a0_0, .slice A0_1 l0_1.length c0_1, .slice A0_2 l0_2.length c0_2] 101 (0, 0)) (by (with_reducible repeat (first | refine Za ?_ _ | refine Zb ?_ | refine blk_alloc ?_ _)); refine Zp ?_ NB119_121.out _; (with_reducible repeat (first | refine Za ?_ _ | refine Zb ?_ | refine blk_alloc ?_ _)); exact BK119.out) hb); have n2_ := Zh (Zm (g := gb120) (o := .cells #[.string (⟨#[]⟩ : ByteArray), .slice none 0 0, .slice none 0 0] 74 (0, 0)) (by (with_reducible repeat (first | refine Za ?_ _ | refine Zb ?_ | refine blk_alloc ?_ _)); refine Zp ?_ NB120_121.out _; (with_reducible repeat (first | refine Za ?_ _ | refine Zb ?_ | refine blk_alloc ?_ _)); exact BK120.out) hb); have n3_ := Zh (Zm (g := gb121) (o := .cells #[.string a0_0, .slice none 0 0, .slice none 0 0] 74 (0, 0)) (by (with_reducible repeat (first | refine Za ?_ _ | refine Zb ?_ | refine blk_alloc ?_ _)); refine blk_put (cs := #[.string (⟨#[]⟩ : ByteArray), .slice none 0 0, .slice none 0 0]) ?_ 0 _ rfl; (with_reducible repeat (first | refine Za ?_ _ | refine Zb ?_ | refine blk_alloc ?_ _)); exact BK121.out) hb); have n4_ := Zh (Zl Zs hb); clear BK119; clear BK120; clear BK121; clear HB; have HO124 := n0_; have BK119 := n1_; have BK120 := n2_; have BK121 := n3_; have HB := n4_; clear n0_ n1_ n2_ n3_ n4_; (try clear hb); (try clear hb2); (try clear hk); (try clear hi); (try clear ho0); obtain ⟨Ao13, co13, eo13⟩ := R_slice HO124.out; subst eo13; have hcz14_0 : w12.cell? ⟨gb121, 0, none⟩ = some (.string a0_0) := (blk_cell BK121.out 0).trans rfl; have hcz14_1 : w12.cell? ⟨gb121, 1, none⟩ = some (.slice none 0 0) := (blk_cell BK121.out 1).trans rfl; have hcz14_2 : w12.cell? ⟨gb121, 2, none⟩ = some (.slice none 0 0) := (blk_cell BK121.out 2).trans rfl; have hfz14_0 := Zn BK121.out 0; have hfz14_1 := Zn BK121.out 1; have hfz14_2 := Zn BK121.out 2; have hcz15_0 : w12.cell? ⟨gb119, 0, none⟩ = some (.string a0_0) := (blk_cell BK119.out 0).trans rfl; have hcz15_1 : w12.cell? ⟨gb119, 1, none⟩ = some (.slice A0_1 l0_1.length c0_1) := (blk_cell BK119.out 1).trans rfl; have hcz15_2 : w12.cell? ⟨gb119, 2, none⟩ = some (.slice A0_2 l0_2.length c0_2) := (blk_cell BK119.out 2).trans rfl; have hfz15_0 := Zn BK119.out 0; have hfz15_1 := Zn BK119.out 1; have hfz15_2 := Zn BK119.out 2) | ((with_reducible refine gate_callee (f := 38) rfl ?_); refine goesL_ (some 13) rfl rfl Tryd.func38 (by kernel_rfl) rfl #[.slice A0_2 l0_2.length c0_2] rfl (by (try simp only [List.map_toArray, List.map_cons, List.map_nil]); first | done | rfl | (simp only [List.length_drop, List.length_take]; rfl)) ?_; (with_reducible refine (laws_toByteS.calls k _ _ l0_2 t125 _ ?side1 ?side2 A3.out).mono ?_); (case side1 => exact C_below HR0_2.out Zs); (case side2 => exact HC0_2.out); rintro e w16 ⟨v126, rfl, ho0, hb⟩; refine ⟨_, rfl, ?_⟩; have n0_ := Zh (R_elder' (by (with_reducible repeat (first | apply R_alloc | apply R_drewN | apply R_drew)); exact (R_mono (R_far (p := ⟨gb121, 1, none⟩) (R_types HO124.out BK121.out (by decide)) (fun _ hk => hk.2) (.slice Ao13 t122.length co13)) (fun _ h_ => h_.1))) (R_base ho0) hb); have n1_ := Zh (R_lower (R_new' ho0 (R_lt (by (with_reducible repeat (first | apply R_alloc | apply R_drewN | apply R_drew)); exact (R_mono (R_far (p := ⟨gb121, 1, none⟩) (R_types HO124.out BK121.out (by decide)) (fun _ hk => hk.2) (.slice Ao13 t122.length co13)) (fun _ h_ => h_.1))))) (below_size Zs)); have n2_ := Zh (Zm (g := gb119) (o := .cells #[.string a0_0, .slice A0_1 l0_1.length c0_1, .slice A0_2 l0_2.length c0_2] 101 (0, 0)) (by (with_reducible repeat (first | refine Za ?_ _ | refine Zb ?_ | refine blk_alloc ?_ _)); refine Zp ?_ NB119_121.out _; (with_reducible repeat (first | refine Za ?_ _ | refine Zb ?_ | refine blk_alloc ?_ _)); exact BK119.out) hb); have n3_ := Zh (Zm (g := gb120) (o := .cells #[.string (⟨#[]⟩ : ByteArray), .slice none 0 0, .slice none 0 0] 74 (0, 0)) (by (with_reducible repeat (first | refine Za ?_ _ | refine Zb ?_ | refine blk_alloc ?_ _)); refine Zp ?_ NB120_121.out _; (with_reducible repeat (first | refine Za ?_ _ | refine Zb ?_ | refine blk_alloc ?_ _)); exact BK120.out) hb); have n4_ := Zh (Zm (g := gb121) (o := .cells #[.string a0_0, .slice Ao13 t122.length co13, .slice none 0 0] 74 (0, 0)) (by (with_reducible repeat (first | refine Za ?_ _ | refine Zb ?_ | refine blk_alloc ?_ _)); refine blk_put (cs := #[.string a0_0, .slice none 0 0, .slice none 0 0]) ?_ 1 _ rfl; (with_reducible repeat (first | refine Za ?_ _ | refine Zb ?_ | refine blk_alloc ?_ _)); exact BK121.out) hb); have n5_ := Zh (Zl Zs hb); clear HO124; clear BK119; clear BK120; clear BK121; clear HB; have HO124 := n0_; have HO127 := n1_; have BK119 := n2_; have BK120 := n3_; have BK121 := n4_; have HB := n5_; clear n0_ n1_ n2_ n3_ n4_ n5_; (try clear hb); (try clear hb2); (try clear hk); (try clear hi); (try clear ho0); obtain ⟨Ao17, co17, eo17⟩ := R_slice HO127.out; subst eo17; have hcz18_0 : w16.cell? ⟨gb121, 0, none⟩ = some (.string a0_0) := (blk_cell BK121.out 0).trans rfl; have hcz18_1 : w16.cell? ⟨gb121, 1, none⟩ = some (.slice Ao13 t122.length co13) := (blk_cell BK121.out 1).trans rfl; have hcz18_2 : w16.cell? ⟨gb121, 2, none⟩ = some (.slice none 0 0) := (blk_cell BK121.out 2).trans rfl; have hfz18_0 := Zn BK121.out 0; have hfz18_1 := Zn BK121.out 1; have hfz18_2 := Zn BK121.out 2; have hcz19_0 : w16.cell? ⟨gb120, 0, none⟩ = some (.string (⟨#[]⟩ : ByteArray)) := (blk_cell BK120.out 0).trans rfl; have hcz19_1 : w16.cell? ⟨gb120, 1, none⟩ = some (.slice none 0 0) := (blk_cell BK120.out 1).trans rfl; have hcz19_2 : w16.cell? ⟨gb120, 2, none⟩ = some (.slice none 0 0) := (blk_cell BK120.out 2).trans rfl; have hfz19_0 := Zn BK120.out 0; have hfz19_1 := Zn BK120.out 1; have hfz19_2 := Zn BK120.out 2))
 refine bodyPost_ret (results_cell_row rfl _ _ gb120 74 #[.string a0_0, .slice Ao13 t122.length co13, .slice Ao17 t125.length co17] (0, 0) _ rfl (by (with_reducible repeat (first | refine Za ?_ _ | refine Zb ?_ | refine blk_alloc ?_ _)); refine blk_put (cs := #[.string a0_0, .slice Ao13 t122.length co13, .slice none 0 0]) ?_ 2 _ rfl; (with_reducible repeat (first | refine Za ?_ _ | refine Zb ?_ | refine blk_alloc ?_ _)); refine blk_put (cs := #[.string a0_0, .slice none 0 0, .slice none 0 0]) ?_ 1 _ rfl; (with_reducible repeat (first | refine Za ?_ _ | refine Zb ?_ | refine blk_alloc ?_ _)); refine blk_put (cs := #[.string (⟨#[]⟩ : ByteArray), .slice none 0 0, .slice none 0 0]) ?_ 0 _ rfl; (with_reducible repeat (first | refine Za ?_ _ | refine Zb ?_ | refine blk_alloc ?_ _)); refine Zp ?_ NB120_121.out _; (with_reducible repeat (first | refine Za ?_ _ | refine Zb ?_ | refine blk_alloc ?_ _)); exact BK120.out) Tryd.underlying74 rfl (by kernel_rfl)) rfl ?_
 exact ⟨_, _, by first | rfl | (simp [errW_none, errW_some] <;> rfl) | (simp [*, errW_none, errW_some] <;> rfl), by (with_reducible repeat (first | apply R_alloc | apply R_drewN | apply R_drew)); exact R_mono (R_far (p := ⟨gb120, 2, none⟩) (R_far (p := ⟨gb120, 1, none⟩) (R_far (p := ⟨gb120, 0, none⟩) (R_far (p := ⟨gb121, 2, none⟩) (R_types (R_types HO124.out BK121.out (by decide)) BK120.out (by decide)) (fun _ hk => hk.1.2) (.slice Ao17 t125.length co17)) (fun _ hk => hk.2) (.string a0_0)) (fun _ hk => hk.2) (.slice Ao13 t122.length co13)) (fun _ hk => hk.2) (.slice Ao17 t125.length co17)) (fun _ hk => hk.1.1.2), by (with_reducible repeat (first | apply R_alloc | apply R_drewN | apply R_drew)); exact R_mono (R_far (p := ⟨gb120, 2, none⟩) (R_far (p := ⟨gb120, 1, none⟩) (R_far (p := ⟨gb120, 0, none⟩) (R_far (p := ⟨gb121, 2, none⟩) (R_types (R_types HO127.out BK121.out (by decide)) BK120.out (by decide)) (fun _ hk => hk.1.2) (.slice Ao17 t125.length co17)) (fun _ hk => hk.2) (.string a0_0)) (fun _ hk => hk.2) (.slice Ao13 t122.length co13)) (fun _ hk => hk.2) (.slice Ao17 t125.length co17)) (fun _ hk => hk.1.1.2), by repeat (first | (with_reducible first | exact HB.out | apply Zf | apply Zd | apply Ze | refine Zg ?_ GE119.out | refine Zg ?_ GE120.out | refine Zg ?_ GE121.out) | exact HB.out)⟩
def laws_toFileS.l0 : Nat → List (S101) → List (S74) → Int → Option ((List (S74)))
 | 0, _, _, _ => none
 | k + 1, x0, x3, x4 => if x4 < (x0.length : Int) then (if 0 ≤ x4 then ((laws_toFile.f k ((rd_T101 x0 x4).f0) ((rd_T101 x0 x4).f1) ((rd_T101 x0 x4).f2)).bind fun bt132 => (if x4 < (x3.length : Int) then (laws_toFileS.l0 k x0 (x3.set (x4 : Int).toNat (⟨bt132.1, bt132.2.1, bt132.2.2⟩ : S74)) (wrap64 (x4 + 1))) else (none))) else (none)) else (some x3)
def laws_toFileS.f (k : Nat) (l0 : List (S101)) : Option ((List (S74))) := if 0 ≤ (l0.length : Int) then (if ((l0.length : Int) : Int).toNat ≤ 4398046511104 then (laws_toFileS.l0 k l0 (List.replicate ((l0.length : Int) : Int).toNat z74) 0) else (none)) else (none)
set_option maxHeartbeats 8000000 in
set_option maxRecDepth 100000 in
theorem laws_toFileS.calls (k : Nat) (A0 : Option Addr) (c0 : Nat) (l0 : List (S101)) (r : List (S74)) (w : World) (hr0 : Kd.C k101 w A0 l0.length l0) (hc0 : l0.length ≤ c0) (h : laws_toFileS.f k l0 = some r) :
  Calls Tryd.prog 58 #[.slice A0 l0.length c0] w fun e w' => ∃ v0_ : Value, e = .returned (v0_) ∧ Kd.S k74 74 w' w.heap.size (fun _ => True) v0_ r ∧ Below w.heap.size w w' := by
 have hu101 := Tryd.underlying101
 have hu74 := Tryd.underlying74
 have HR0 := Zh hr0
 have HC0 := Zh hc0
 clear hr0 hc0
 have HB := Zh (Below.refl w.heap.size w)
 have H : (if 0 ≤ (l0.length : Int) then (if ((l0.length : Int) : Int).toNat ≤ 4398046511104 then (laws_toFileS.l0 k l0 (List.replicate ((l0.length : Int) : Int).toNat z74) 0) else (none)) else (none)) = some r := h
 clear h
 by_cases c2 : 0 ≤ (l0.length : Int)
 ·
  rw [if_pos c2] at H
  have c2b0 := eq_true c2
  have c2b1 : decide (0 ≤ (l0.length : Int)) = true := decide_eq_true c2
  clear c2
  by_cases c3 : ((l0.length : Int) : Int).toNat ≤ 4398046511104
  ·
   rw [if_pos c3] at H
   have c3b0 := eq_true c3
   have c3b1 : decide (((l0.length : Int) : Int).toNat ≤ 4398046511104) = true := decide_eq_true c3
   clear c3
   obtain ⟨y128, hy128⟩ : ∃ y_ : List (S74), y_ = (List.replicate ((l0.length : Int) : Int).toNat z74) := ⟨_, rfl⟩
   replace H : (laws_toFileS.l0 k l0 y128 0) = some r := by first | (rw [hy128]; with_reducible exact H) | (have H2_ := (Option.bind_some _ _).symm.trans H; rw [hy128]; with_reducible exact H2_) | (have H2_ := (Option.bind_some _ _).symm.trans H; with_reducible exact H2_) | with_reducible exact H | (rw [hy128]; exact H) | exact H
   have Ny128 := Zh hy128
   clear hy128
   have H' := Zh H
   clear H
   go_enter Tryd.func58, Tryd.ntmps58
   go_wp2_with (first | ((with_reducible refine gate_dst (N := 7) rfl ?_); refine S_make k74 _ 74 rfl (N := 7) rfl 27 _ _ rfl (l0.length : Int) rfl rfl Tryd.underlying27 (.agg #[(.string ⟨#[]⟩), (.slice none 0 0), (.slice none 0 0)]) 64 info74 rfl (by decide) (by omega) z74 (ok := fun _ => True) (okp := fun _ => True) (k74_mkM _ _ _ z74 (R_nil _ _ _ _ _) (R_nil _ _ _ _ _) AP.ne_nil) (fun _ hk => hk) trivial (Zo) (Nat.le_trans (Nat.mul_le_mul_right _ (Zo : (l0.length : Int).toNat ≤ 4398046511104)) (by omega)) (Below.refl _ _) (Nat.le_refl _) ?_; intro v129 w4 ho5 hb hg_ hnew_; clear hg_ hnew_; (first | rw [← Ny128.out] at ho5 | (simp only [Int.reduceToNat] at ho5; rw [← Ny128.out] at ho5)); have n0_ := Zh (S_lower ho5 (below_size Zs)); have n1_ := Zh (Zl Zs hb); clear HB; have HO130 := n0_; have HB := n1_; clear n0_ n1_; clear hb ho5))
   go_loopg [4] k (fun kq v4 w' => ∃ (x3_1 : List (S74)) (x4_1 : Int), v4 = .int .i64 x4_1 ∧ Aside0 (laws_toFileS.l0 kq l0 x3_1 x4_1 = some r) ∧ Aside0 (kq ≤ k) ∧ Aside0 (Kd.S k74 74 w' w.heap.size (fun _ => True) v129 x3_1) ∧ Aside0 (Below w.heap.size w w'))
   case atStart => exact ⟨(y128), (0), (by first | rfl | (simp; done) | (simp [*]; done)), H', ⟨Nat.le_refl _⟩, ⟨by (with_reducible repeat (first | apply S_alloc | apply S_drewN | apply S_drew)); exact HO130.out⟩, ⟨by repeat (first | (with_reducible first | exact HB.out | apply Zf | apply Zd | apply Ze) | exact HB.out)⟩⟩
   case round =>
    clear H'
    try clear c2
    try clear c2b0
    try clear c2b1
    try clear p2
    try clear c3
    try clear c3b0
    try clear c3b1
    try clear c5
    obtain ⟨x3_1, x4_1, rfl, HA, HK1, HO_3, HB⟩ := hrel
    cases gk with
    | zero => exact absurd HA.out (by simp [laws_toFileS.l0])
    | succ k1 =>
     have H := HA.out
     clear HA
     simp only [laws_toFileS.l0] at H
     by_cases c6 : x4_1 < (l0.length : Int)
     ·
      rw [if_pos c6] at H
      have c6b0 : decide (x4_1 < (l0.length : Int)) = true := decide_eq_true c6
      clear c6
      by_cases c7 : 0 ≤ x4_1
      ·
       rw [if_pos c7] at H
       have c7b0 : decide (0 ≤ x4_1) = true := decide_eq_true c7
       clear c7
       replace H := Option.bind_eq_some_iff.mp H
       obtain ⟨⟨t132, t133, t136⟩, A80, H⟩ := H
       replace H : (if x4_1 < (x3_1.length : Int) then (laws_toFileS.l0 k1 l0 (x3_1.set (x4_1 : Int).toNat (⟨t132, t133, t136⟩ : S74)) (wrap64 (x4_1 + 1))) else (none)) = some r := H
       have A8 := Zh A80
       clear A80
       by_cases c9 : x4_1 < (x3_1.length : Int)
       ·
        rw [if_pos c9] at H
        have c9b0 : decide (x4_1 < (x3_1.length : Int)) = true := decide_eq_true c9
        clear c9
        obtain ⟨y139, hy139⟩ : ∃ y_ : List (S74), y_ = (x3_1.set (x4_1 : Int).toNat (⟨t132, t133, t136⟩ : S74)) := ⟨_, rfl⟩
        replace H : (laws_toFileS.l0 k1 l0 y139 (wrap64 (x4_1 + 1))) = some r := by first | (rw [hy139]; with_reducible exact H) | (have H2_ := (Option.bind_some _ _).symm.trans H; rw [hy139]; with_reducible exact H2_) | (have H2_ := (Option.bind_some _ _).symm.trans H; with_reducible exact H2_) | with_reducible exact H | (rw [hy139]; exact H) | exact H
        have Ny139 := Zh hy139
        clear hy139
        have H' := Zh H
        clear H
        have p131 : 0 ≤ (x4_1 : Int) := Zo
        have q131 : x4_1 < (l0.length : Int) := Zo
        obtain ⟨ad131, A131_1, c131_1, A131_2, c131_2, e131, hx131_0, hx131_1, hx131_2, hl131_1, hi131_1, hl131_2, hi131_2⟩ := at_T101 HR0.out x4_1 p131 q131
        cases e131
        replace hx131_0 := Zc HB.out hx131_0
        replace hx131_1 := Zc HB.out hx131_1
        replace hx131_2 := Zc HB.out hx131_2
        have HR131_1 := Zh hi131_1
        have HC131_1 := Zh hl131_1
        clear hi131_1 hl131_1
        have HR131_2 := Zh hi131_2
        have HC131_2 := Zh hl131_2
        clear hi131_2 hl131_2
        replace p131 := eq_true p131
        replace q131 := eq_true q131
        go_wp2_with (first | ((with_reducible refine gate_callee (f := 90) rfl ?_); refine goesL_ (some 20) rfl rfl Tryd.func90 (by kernel_rfl) rfl #[.agg #[.string ((rd_T101 l0 x4_1).f0), .slice A131_1 ((rd_T101 l0 x4_1).f1).length c131_1, .slice A131_2 ((rd_T101 l0 x4_1).f2).length c131_2]] rfl (by (try simp only [List.map_toArray, List.map_cons, List.map_nil]); first | done | rfl | (simp only [List.length_drop, List.length_take]; rfl)) ?_; (with_reducible refine (laws_toFile.calls k1 ((rd_T101 l0 x4_1).f0) _ _ ((rd_T101 l0 x4_1).f1) _ _ ((rd_T101 l0 x4_1).f2) t132 t133 t136 _ ?side1 ?side2 ?side3 ?side4 A8.out).mono ?_); (case side1 => repeat (first | exact (C_below HR131_1.out HB.out) | (with_reducible refine C_alloc ?_ _) | (with_reducible refine C_drewN ?_ _) | (with_reducible refine C_drew ?_))); (case side2 => exact HC131_1.out); (case side3 => repeat (first | exact (C_below HR131_2.out HB.out) | (with_reducible refine C_alloc ?_ _) | (with_reducible refine C_drewN ?_ _) | (with_reducible refine C_drew ?_))); (case side4 => exact HC131_2.out); rintro e w11 ⟨v134, v137, rfl, ho0, ho1, hb⟩; refine ⟨_, rfl, ?_⟩; have n0_ := Zh (S_mono (S_told (S_told (S_old (by (with_reducible repeat (first | apply S_alloc | apply S_drewN | apply S_drew)); exact HO_3.out) hb) (R_base ho0)) (R_base ho1)) (fun _ h_ => h_.1)); have n1_ := Zh (R_lower ho0 (below_size Zs)); have n2_ := Zh (R_lower ho1 (below_size Zs)); have n3_ := Zh (Zl Zs hb); clear HO_3; clear HB; have HO_3 := n0_; have HO135 := n1_; have HO138 := n2_; have HB := n3_; clear n0_ n1_ n2_ n3_; (try clear hb); (try clear hb2); (try clear hk); (try clear hi); (try clear ho0); (try clear ho1); have p10 : 0 ≤ (x4_1 : Int) := Zo; have q10 : (x4_1 : Int) < ((x3_1.length : Int) : Int) := Zo; obtain ⟨go10, co10, eo10, gb10, gl10, cl10, HG10⟩ := S_form HO_3.out (by omega); (first | cases eo10 | (injection eo10 with ea_ en_ ec_; (first | subst ea_ | (injection ea_ with ea_; subst ea_)); subst ec_; clear en_)); have GB10 := Zh gb10; have GG10 := Zh HG10; clear gb10 gl10 HG10; obtain ⟨_, ce10, hcl10, hM10, hcc10, hfr10, _, _⟩ := S_elem HO_3.out z74 (x4_1 : Int) p10 q10; obtain ⟨ve10_1, ve10_2, rfl, ge10_1, ge10_2⟩ := k74_openM hM10; have hx10_0 : w11.cell? ⟨go10, (x4_1 : Int).toNat * 3, none⟩ = some (.string ((rd_T74 x3_1 x4_1).f0)) := hcc10 0 _ rfl; have hx10_1 : w11.cell? ⟨go10, (x4_1 : Int).toNat * 3 + 1, none⟩ = some (ve10_1) := hcc10 1 _ rfl; have hx10_2 : w11.cell? ⟨go10, (x4_1 : Int).toNat * 3 + 2, none⟩ = some (ve10_2) := hcc10 2 _ rfl; have hf10_0 : w11.frozen? ⟨go10, (x4_1 : Int).toNat * 3, none⟩ = false := hfr10 0; have hf10_1 : w11.frozen? ⟨go10, (x4_1 : Int).toNat * 3 + 1, none⟩ = false := hfr10 1; have hf10_2 : w11.frozen? ⟨go10, (x4_1 : Int).toNat * 3 + 2, none⟩ = false := hfr10 2; clear hcl10 hcc10 hfr10; (try clear hM10); replace p10 := eq_true p10; replace q10 := eq_true q10; obtain ⟨Ao14, co14, eo14⟩ := R_slice HO135.out; subst eo14; obtain ⟨Ao15, co15, eo15⟩ := R_slice HO138.out; subst eo15; have n_ := Zh (S_mono (ok' := (fun k_ => some k_ ≠ (.slice Ao14 t133.length co14 : Value).ownBlock ∧ some k_ ≠ (.slice Ao15 t136.length co15 : Value).ownBlock)) HO_3.out (fun k_ hk => ⟨hk.1.2, hk.2⟩)); clear HO_3; have HO_3 := n_; clear n_; have HX12 := Zh (show Kd.S k74 74 w11 w.heap.size (fun k_ => ((fun _ => True)) k_ ∧ ¬ ((fun k_ => some k_ = (.slice Ao14 t133.length co14 : Value).ownBlock ∨ some k_ = (.slice Ao15 t136.length co15 : Value).ownBlock)) k_) (.slice (some ⟨go10, 0, none⟩) x3_1.length co10) x3_1 from (by (with_reducible repeat (first | apply S_alloc | apply S_drewN | apply S_drew)); exact S_mono HO_3.out (fun k_ hk => ⟨trivial, fun e_ => e_.elim (fun h_ => hk.1 h_) (fun h_ => hk.2 h_)⟩))); obtain ⟨oki12, ce12, hcl12, hM12, hcc12, hfr12, hoki12, hH12⟩ := S_elem HX12.out z74 (x4_1 : Int) (Zo) (by have h_ : (x4_1 : Int) < ((x3_1.length : Int) : Int) := Zo; first | exact h_ | (have e_ := (S_reads' HO_3.out).1; omega) | simpa using h_); obtain ⟨ve12_1, ve12_2, rfl, ge12_1, ge12_2⟩ := k74_openM hM12; have HP12 := S_seg hH12 (Zo) (by have h_ : (x4_1 : Int) < ((x3_1.length : Int) : Int) := Zo; first | exact h_ | (have e_ := (S_reads' HO_3.out).1; omega) | simpa using h_) (seg := [.string t132, .slice Ao14 t133.length co14, .slice Ao15 t136.length co15]) (j := 0) (show 3 ≤ 3 from by decide) (x' := (⟨t132, t133, t136⟩ : S74)) (k74_mkM _ _ _ (⟨t132, t133, t136⟩ : S74) (R_mono (R_tight rfl (R_mono (ok' := fun k_ => ((fun _ => True)) k_ ∧ k_ ≠ go10) (R_apart' (HO135.out) (S_typed HO_3.out) (by decide)) (fun k_ hk => ⟨trivial, fun e_ => (hk.2) (by rw [e_]; rfl)⟩))) (fun _ h_ => Or.inr (Or.inl h_))) (R_mono (R_tight rfl (R_mono (ok' := fun k_ => ((fun _ => True)) k_ ∧ k_ ≠ go10) (R_apart' (HO138.out) (S_typed HO_3.out) (by decide)) (fun k_ hk => ⟨trivial, fun e_ => (hk.2) (by rw [e_]; rfl)⟩))) (fun _ h_ => Or.inr (Or.inr (h_)))) (AP.ne_of (HO135.out) (HO138.out) (by first | exact .inl (fun k_ hk_ => by first | exact hk_ | exact hk_.1 | exact hk_.2 | exact hk_.1.1 | exact hk_.1.2 | exact hk_.2.1 | exact hk_.2.2) | exact .inr (fun k_ hk_ => by first | exact hk_ | exact hk_.1 | exact hk_.2 | exact hk_.1.1 | exact hk_.1.2 | exact hk_.2.1 | exact hk_.2.2)))) (fun _ hk => hk) (fun k_ hk_ => hk_.elim (fun h_ => ((R_mono (ok' := fun k_ => ((fun _ => True)) k_ ∧ k_ ≠ go10) (R_apart' (HO135.out) (S_typed HO_3.out) (by decide)) (fun k_ hk => ⟨trivial, fun e_ => (hk.2) (by rw [e_]; rfl)⟩))).1 k_ h_.symm) (fun h_ => ((R_mono (ok' := fun k_ => ((fun _ => True)) k_ ∧ k_ ≠ go10) (R_apart' (HO138.out) (S_typed HO_3.out) (by decide)) (fun k_ hk => ⟨trivial, fun e_ => (hk.2) (by rw [e_]; rfl)⟩))).1 k_ h_.symm)); have hx12_0 := hcc12 0 _ rfl; (try simp only [show (k74).sz = 3 from rfl, Nat.mul_one, Nat.add_zero] at hx12_0); have hf12_0 := hfr12 0; (try simp only [show (k74).sz = 3 from rfl, Nat.mul_one, Nat.add_zero] at hf12_0); have hx12_1 := hcc12 1 _ rfl; (try simp only [show (k74).sz = 3 from rfl, Nat.mul_one, Nat.add_zero] at hx12_1); have hf12_1 := hfr12 1; (try simp only [show (k74).sz = 3 from rfl, Nat.mul_one, Nat.add_zero] at hf12_1); have hx12_2 := hcc12 2 _ rfl; (try simp only [show (k74).sz = 3 from rfl, Nat.mul_one, Nat.add_zero] at hx12_2); have hf12_2 := hfr12 2; (try simp only [show (k74).sz = 3 from rfl, Nat.mul_one, Nat.add_zero] at hf12_2); clear hcl12 hcc12 hfr12; (try clear hM12); (try clear hoki12); (try clear hH12)) | ((with_reducible refine gate_store (t := 74) (p := 21) rfl ?_); refine store_event (t := 74) (p := 21) (v := ?vo_w13) (w1 := (((w11.setCell ⟨go10, (x4_1 : Int).toNat * 3, none⟩ (.string t132)).setCell ⟨go10, (x4_1 : Int).toNat * 3 + 1, none⟩ (.slice Ao14 t133.length co14)).setCell ⟨go10, (x4_1 : Int).toNat * 3 + 2, none⟩ (.slice Ao15 t136.length co15))) ?hg ?ho ?hn ?hr ?_; (case ho => rfl); (case hg => rfl); (case hn => rfl); (case hr => first | (go_simp; done) | (go_simp; rfl)); intro w13 hw; have hg : w11.grownBy w13 (some go10) := (by rw [hw]; exact HP12.2); have hp_ : Kd.S k74 74 w13 w.heap.size (fun _ => True) (.slice (some ⟨go10, 0, none⟩) x3_1.length co10) y139 := (by rw [hw, Ny139.out]; exact HP12.1); clear HP12; have n0_ := Zh (hp_); have n1_ := Zh ((by rw [hw]; exact Zg (Zg (Zg (HB.out) GB10.out) GB10.out) GB10.out : Below w.heap.size w w13)); clear HO_3; clear HB; clear HO135; clear HO138; have HO_3 := n0_; have HB := n1_; clear n0_ n1_; clear hg hw hp_))
        go_roundg k1
        case measure => have := HK1.out; omega
        case rel => exact ⟨(y139), (wrap64 (x4_1 + 1)), (by first | rfl | (simp; done) | (simp [*]; done)), H', ⟨by have := HK1.out; omega⟩, ⟨by (with_reducible repeat (first | apply S_alloc | apply S_drewN | apply S_drew)); exact HO_3.out⟩, ⟨by repeat (first | (with_reducible first | exact HB.out | apply Zf | apply Zd | apply Ze) | exact HB.out)⟩⟩
       rw [if_neg c9] at H
       exact absurd H (by simp)
      rw [if_neg c7] at H
      exact absurd H (by simp)
     rw [if_neg c6] at H
     have c6b0 : decide (x4_1 < (l0.length : Int)) = false := decide_eq_false c6
     clear c6
     obtain rfl := Option.some.inj H
     go_wp2
     go_ret
     exact ⟨_, by first | rfl | (simp [errW_none, errW_some] <;> rfl) | (simp [*, errW_none, errW_some] <;> rfl), by (with_reducible repeat (first | apply S_alloc | apply S_drewN | apply S_drew)); exact HO_3.out, by repeat (first | (with_reducible first | exact HB.out | apply Zf | apply Zd | apply Ze) | exact HB.out)⟩
  rw [if_neg c3] at H
  exact absurd H (by simp)
 rw [if_neg c2] at H
 exact absurd H (by simp)
def laws_toDisk.f (k : Nat) (l0_0 : List (S101)) : Option ((List (S74))) := (laws_toFileS.f k l0_0).bind fun t143 => (some t143)
set_option maxHeartbeats 8000000 in
set_option maxRecDepth 100000 in
theorem laws_toDisk.calls (k : Nat) (A0_0 : Option Addr) (c0_0 : Nat) (l0_0 : List (S101)) (r : List (S74)) (w : World) (hr0_0 : Kd.C k101 w A0_0 l0_0.length l0_0) (hc0_0 : l0_0.length ≤ c0_0) (h : laws_toDisk.f k l0_0 = some r) :
  Calls Tryd.prog 16 #[.agg #[.slice A0_0 l0_0.length c0_0]] w fun e w' => ∃ v0_ : Value, e = .returned (.agg #[v0_]) ∧ Kd.S k74 74 w' w.heap.size (fun _ => True) v0_ r ∧ Below w.heap.size w w' := by
 have hu24 := Tryd.underlying24
 have hu29 := Tryd.underlying29
 have HR0_0 := Zh hr0_0
 have HC0_0 := Zh hc0_0
 clear hr0_0 hc0_0
 have HB := Zh (Below.refl w.heap.size w)
 have H : ((laws_toFileS.f k l0_0).bind fun t143 => (some t143)) = some r := h
 clear h
 replace H := Option.bind_eq_some_iff.mp H
 obtain ⟨t143, A20, H⟩ := H
 replace H : (some t143) = some r := H
 have A2 := Zh A20
 clear A20
 obtain rfl := Option.some.inj H
 go_enter Tryd.func16, Tryd.ntmps16
 go_wp2_with (first | ((with_reducible refine gate_dst (N := 1) rfl ?_); refine box_event ?hg (N := 1) ?hd (cs := #[.slice A0_0 l0_0.length c0_0]) (t := 24) ?hr ?_; (case hd => rfl); (case hg => rfl); (case hr => first | (go_simp; done) | (go_simp; rfl)); intro gb140 hg w3 hbox hb; have n0_ := Zh (Zl Zs hb); have n1_ := Zh (hbox); have n2_ := Zh ((by rw [hg]; exact (below_size Zs) : w.heap.size ≤ gb140)); have n3_ := Zh ((by rw [hg]; exact (below_size Zs) : w.heap.size ≤ gb140)); clear HB; have HB := n0_; have BK140 := n1_; have GW140 := n2_; have GE140 := n3_; clear n0_ n1_ n2_ n3_; clear hb hbox hg) | ((with_reducible refine gate_dst (N := 2) rfl ?_); refine box_event ?hg (N := 2) ?hd (cs := #[.slice none 0 0]) (t := 29) ?hr ?_; (case hd => rfl); (case hg => rfl); (case hr => first | (go_simp; done) | (go_simp; rfl)); intro gb141 hg w4 hbox hb; have n0_ := Zh (Zm (g := gb140) (o := .cells #[.slice A0_0 l0_0.length c0_0] 24 (0, 0)) Zk hb); have n1_ := Zh (Zl Zs hb); have n2_ := Zh (hbox); have n3_ := Zh ((by rw [hg]; exact (below_size Zs) : w.heap.size ≤ gb141)); have n4_ := Zh ((by rw [hg]; exact (below_size Zs) : w.heap.size ≤ gb141)); have n5_ := Zh ((by rw [hg]; exact Nat.ne_of_lt (blk_lt (g := gb140) (o := .cells #[.slice A0_0 l0_0.length c0_0] 24 (0, 0)) Zk) : gb140 ≠ gb141)); have n6_ := Zh ((by rw [hg]; exact Nat.ne_of_gt (blk_lt (g := gb140) (o := .cells #[.slice A0_0 l0_0.length c0_0] 24 (0, 0)) Zk) : gb141 ≠ gb140)); clear BK140; clear HB; have BK140 := n0_; have HB := n1_; have BK141 := n2_; have GW141 := n3_; have GE141 := n4_; have NB140_141 := n5_; have NB141_140 := n6_; clear n0_ n1_ n2_ n3_ n4_ n5_ n6_; clear hb hbox hg) | ((with_reducible refine gate_dst (N := 3) rfl ?_); refine box_event ?hg (N := 3) ?hd (cs := #[.slice none 0 0]) (t := 29) ?hr ?_; (case hd => rfl); (case hg => rfl); (case hr => first | (go_simp; done) | (go_simp; rfl)); intro gb142 hg w5 hbox hb; have n0_ := Zh (Zm (g := gb140) (o := .cells #[.slice A0_0 l0_0.length c0_0] 24 (0, 0)) Zk hb); have n1_ := Zh (Zm (g := gb141) (o := .cells #[.slice none 0 0] 29 (0, 0)) Zk hb); have n2_ := Zh (Zl Zs hb); have n3_ := Zh (hbox); have n4_ := Zh ((by rw [hg]; exact (below_size Zs) : w.heap.size ≤ gb142)); have n5_ := Zh ((by rw [hg]; exact (below_size Zs) : w.heap.size ≤ gb142)); have n6_ := Zh ((by rw [hg]; exact Nat.ne_of_lt (blk_lt (g := gb140) (o := .cells #[.slice A0_0 l0_0.length c0_0] 24 (0, 0)) Zk) : gb140 ≠ gb142)); have n7_ := Zh ((by rw [hg]; exact Nat.ne_of_gt (blk_lt (g := gb140) (o := .cells #[.slice A0_0 l0_0.length c0_0] 24 (0, 0)) Zk) : gb142 ≠ gb140)); have n8_ := Zh ((by rw [hg]; exact Nat.ne_of_lt (blk_lt (g := gb141) (o := .cells #[.slice none 0 0] 29 (0, 0)) Zk) : gb141 ≠ gb142)); have n9_ := Zh ((by rw [hg]; exact Nat.ne_of_gt (blk_lt (g := gb141) (o := .cells #[.slice none 0 0] 29 (0, 0)) Zk) : gb142 ≠ gb141)); clear BK140; clear BK141; clear HB; have BK140 := n0_; have BK141 := n1_; have HB := n2_; have BK142 := n3_; have GW142 := n4_; have GE142 := n5_; have NB140_142 := n6_; have NB142_140 := n7_; have NB141_142 := n8_; have NB142_141 := n9_; clear n0_ n1_ n2_ n3_ n4_ n5_ n6_ n7_ n8_ n9_; clear hb hbox hg; have hnb6 := NB140_141.out; have hnc6 := NB141_140.out; have hnb7 := NB140_142.out; have hnc7 := NB142_140.out; have hcz8_0 : w5.cell? ⟨gb140, 0, none⟩ = some (.slice A0_0 l0_0.length c0_0) := (blk_cell BK140.out 0).trans rfl; have hfz8_0 := Zn BK140.out 0) | ((with_reducible refine gate_callee (f := 58) rfl ?_); refine goesL_ (some 6) rfl rfl Tryd.func58 (by kernel_rfl) rfl #[.slice A0_0 l0_0.length c0_0] rfl (by (try simp only [List.map_toArray, List.map_cons, List.map_nil]); first | done | rfl | (simp only [List.length_drop, List.length_take]; rfl)) ?_; (with_reducible refine (laws_toFileS.calls k _ _ l0_0 t143 _ ?side1 ?side2 A2.out).mono ?_); (case side1 => repeat (first | exact (C_below HR0_0.out HB.out) | (with_reducible refine C_alloc ?_ _) | (with_reducible refine C_drewN ?_ _) | (with_reducible refine C_drew ?_))); (case side2 => exact HC0_0.out); rintro e w9 ⟨v144, rfl, ho0, hb⟩; refine ⟨_, rfl, ?_⟩; have n0_ := Zh (S_lower ho0 (below_size Zs)); have n1_ := Zh (Zm (g := gb140) (o := .cells #[.slice A0_0 l0_0.length c0_0] 24 (0, 0)) Zk hb); have n2_ := Zh (Zm (g := gb141) (o := .cells #[.slice none 0 0] 29 (0, 0)) Zk hb); have n3_ := Zh (Zm (g := gb142) (o := .cells #[.slice none 0 0] 29 (0, 0)) Zk hb); have n4_ := Zh (Zl Zs hb); clear BK140; clear BK141; clear BK142; clear HB; have HO145 := n0_; have BK140 := n1_; have BK141 := n2_; have BK142 := n3_; have HB := n4_; clear n0_ n1_ n2_ n3_ n4_; (try clear hb); (try clear hb2); (try clear hk); (try clear hi); (try clear ho0); obtain ⟨Ao10, co10, eo10⟩ := S_slice HO145.out; subst eo10; have hnb11 := NB142_141.out; have hnc11 := NB141_142.out; have hcz12_0 : w9.cell? ⟨gb142, 0, none⟩ = some (.slice none 0 0) := (blk_cell BK142.out 0).trans rfl; have hfz12_0 := Zn BK142.out 0; have hcz13_0 : w9.cell? ⟨gb141, 0, none⟩ = some (.slice none 0 0) := (blk_cell BK141.out 0).trans rfl; have hfz13_0 := Zn BK141.out 0))
 refine bodyPost_ret (results_cell_row rfl _ _ gb141 29 #[.slice Ao10 t143.length co10] (0, 0) _ rfl (by (with_reducible repeat (first | refine Za ?_ _ | refine Zb ?_ | refine blk_alloc ?_ _)); refine blk_put (cs := #[.slice none 0 0]) ?_ 0 _ rfl; (with_reducible repeat (first | refine Za ?_ _ | refine Zb ?_ | refine blk_alloc ?_ _)); refine Zp ?_ NB141_142.out _; (with_reducible repeat (first | refine Za ?_ _ | refine Zb ?_ | refine blk_alloc ?_ _)); exact BK141.out) Tryd.underlying29 rfl (by kernel_rfl)) rfl ?_
 exact ⟨_, by first | rfl | (simp [errW_none, errW_some] <;> rfl) | (simp [*, errW_none, errW_some] <;> rfl), by (with_reducible repeat (first | apply S_alloc | apply S_drewN | apply S_drew)); exact S_mono (S_far (p := ⟨gb141, 0, none⟩) (S_far (p := ⟨gb142, 0, none⟩) (S_types (S_types HO145.out BK142.out (by decide)) BK141.out (by decide)) (fun _ hk => hk.1.2) (.slice Ao10 t143.length co10)) (fun _ hk => hk.2) (.slice Ao10 t143.length co10)) (fun _ hk => trivial), by repeat (first | (with_reducible first | exact HB.out | apply Zf | apply Zd | apply Ze | refine Zg ?_ GE140.out | refine Zg ?_ GE141.out | refine Zg ?_ GE142.out) | exact HB.out)⟩
def laws_eqByteS.l0 : Nat → List Int → List Int → Int → Option (Bool)
 | 0, _, _, _ => none
 | k + 1, x0, x1, x5 => if x5 < (x0.length : Int) then (if 0 ≤ x5 then (if x5 < (x1.length : Int) then (if (rd x0 x5) = (rd x1 x5) then (laws_eqByteS.l0 k x0 x1 (wrap64 (x5 + 1))) else (some false)) else (none)) else (none)) else (some true)
def laws_eqByteS.f (k : Nat) (l0 : List Int) (l1 : List Int) : Option (Bool) := if (l0.length : Int) = (l1.length : Int) then (laws_eqByteS.l0 k l0 l1 0) else (some false)
set_option maxHeartbeats 8000000 in
set_option maxRecDepth 100000 in
theorem laws_eqByteS.calls (k : Nat) (A0 : Option Addr) (c0 : Nat) (l0 : List Int) (A1 : Option Addr) (c1 : Nat) (l1 : List Int) (r : Bool) (w : World) (hr0 : Kd.C (Kd.int .u8) w A0 l0.length l0) (hc0 : l0.length ≤ c0) (hr1 : Kd.C (Kd.int .u8) w A1 l1.length l1) (hc1 : l1.length ≤ c1) (h : laws_eqByteS.f k l0 l1 = some r) :
  Calls Tryd.prog 21 #[.slice A0 l0.length c0, .slice A1 l1.length c1] w fun e w' => e = .returned (.bool r) ∧ Drawn0 w w' := by
 have HR0 := Zh hr0
 have HC0 := Zh hc0
 clear hr0 hc0
 have HR1 := Zh hr1
 have HC1 := Zh hc1
 clear hr1 hc1
 have H : (if (l0.length : Int) = (l1.length : Int) then (laws_eqByteS.l0 k l0 l1 0) else (some false)) = some r := h
 clear h
 by_cases c3 : (l0.length : Int) = (l1.length : Int)
 ·
  rw [if_pos c3] at H
  have c3b0 : ((l0.length : Int) == (l1.length : Int)) = true := beq_iff_eq.mpr c3
  have c3b1 : ((l0.length : Int) != (l1.length : Int)) = false := bne_eq_false_iff_eq.mpr c3
  have c3b2 : (l0.length == l1.length) = true := by first | simpa using c3 | (simp at c3 ⊢; omega)
  clear c3
  have H' := Zh H
  clear H
  go_enter Tryd.func21, Tryd.ntmps21
  go_wp2
  repeat (go_quiet (fail); try go_wp2)
  go_loopg [5] k (fun kq v5 w' => ∃ (x5_1 : Int), v5 = .int .i64 x5_1 ∧ Aside0 (laws_eqByteS.l0 kq l0 l1 x5_1 = some r) ∧ Aside0 (kq ≤ k) ∧ Drawn0 w w')
  case atStart => exact ⟨(0), (by first | rfl | (simp; done) | (simp [*]; done)), H', ⟨Nat.le_refl _⟩, by repeat (first | exact Drawn0.refl _ | apply Drawn0.step)⟩
  case round =>
   clear H'
   try clear c1
   try clear c2
   try clear p2
   try clear c3
   try clear c3b0
   try clear c3b1
   try clear c3b2
   obtain ⟨x5_1, rfl, HA, HK1, ⟨m1, rfl⟩⟩ := hrel
   cases gk with
   | zero => exact absurd HA.out (by simp [laws_eqByteS.l0])
   | succ k1 =>
    have H := HA.out
    clear HA
    simp only [laws_eqByteS.l0] at H
    by_cases c4 : x5_1 < (l0.length : Int)
    ·
     rw [if_pos c4] at H
     have c4b0 : decide (x5_1 < (l0.length : Int)) = true := decide_eq_true c4
     clear c4
     by_cases c5 : 0 ≤ x5_1
     ·
      rw [if_pos c5] at H
      have c5b0 : decide (0 ≤ x5_1) = true := decide_eq_true c5
      clear c5
      by_cases c6 : x5_1 < (l1.length : Int)
      ·
       rw [if_pos c6] at H
       have c6b0 : decide (x5_1 < (l1.length : Int)) = true := decide_eq_true c6
       clear c6
       by_cases c7 : (rd l0 x5_1) = (rd l1 x5_1)
       ·
        rw [if_pos c7] at H
        have c7b0 : ((rd l0 x5_1) == (rd l1 x5_1)) = true := beq_iff_eq.mpr c7
        have c7b1 : ((rd l0 x5_1) != (rd l1 x5_1)) = false := bne_eq_false_iff_eq.mpr c7
        clear c7
        have H' := Zh H
        clear H
        have p155 : 0 ≤ (x5_1 : Int) := Zo
        have q155 : x5_1 < (l0.length : Int) := Zo
        obtain ⟨ad155, e155, hx155_0⟩ := Kd.at_int HR0.out x5_1 p155 q155
        cases e155
        replace p155 := eq_true p155
        replace q155 := eq_true q155
        have p156 : 0 ≤ (x5_1 : Int) := Zo
        have q156 : x5_1 < (l1.length : Int) := Zo
        obtain ⟨ad156, e156, hx156_0⟩ := Kd.at_int HR1.out x5_1 p156 q156
        cases e156
        replace p156 := eq_true p156
        replace q156 := eq_true q156
        go_wp2
        repeat (go_quiet (fail); try go_wp2)
        go_roundg k1
        case measure => have := HK1.out; omega
        case rel => exact ⟨(wrap64 (x5_1 + 1)), (by first | rfl | (simp; done) | (simp [*]; done)), H', ⟨by have := HK1.out; omega⟩, by repeat (first | exact Drawn0.refl _ | apply Drawn0.step)⟩
       rw [if_neg c7] at H
       have c7b0 : ((rd l0 x5_1) == (rd l1 x5_1)) = false := beq_eq_false_iff_ne.mpr c7
       have c7b1 : ((rd l0 x5_1) != (rd l1 x5_1)) = true := bne_iff_ne.mpr c7
       obtain rfl := Option.some.inj H
       have p155 : 0 ≤ (x5_1 : Int) := Zo
       have q155 : x5_1 < (l0.length : Int) := Zo
       obtain ⟨ad155, e155, hx155_0⟩ := Kd.at_int HR0.out x5_1 p155 q155
       cases e155
       replace p155 := eq_true p155
       replace q155 := eq_true q155
       have p156 : 0 ≤ (x5_1 : Int) := Zo
       have q156 : x5_1 < (l1.length : Int) := Zo
       obtain ⟨ad156, e156, hx156_0⟩ := Kd.at_int HR1.out x5_1 p156 q156
       cases e156
       replace p156 := eq_true p156
       replace q156 := eq_true q156
       go_wp2
       repeat (go_quiet (fail); try go_wp2)
       go_ret
       exact ⟨by first | rfl | (simp; done) | (simp [*]; done), by repeat (first | exact Drawn0.refl _ | apply Drawn0.step)⟩
      rw [if_neg c6] at H
      exact absurd H (by simp)
     rw [if_neg c5] at H
     exact absurd H (by simp)
    rw [if_neg c4] at H
    have c4b0 : decide (x5_1 < (l0.length : Int)) = false := decide_eq_false c4
    clear c4
    obtain rfl := Option.some.inj H
    go_wp2
    repeat (go_quiet (fail); try go_wp2)
    go_ret
    exact ⟨by first | rfl | (simp; done) | (simp [*]; done), by repeat (first | exact Drawn0.refl _ | apply Drawn0.step)⟩
 rw [if_neg c3] at H
 have c3b0 : ((l0.length : Int) == (l1.length : Int)) = false := beq_eq_false_iff_ne.mpr c3
 have c3b1 : ((l0.length : Int) != (l1.length : Int)) = true := bne_iff_ne.mpr c3
 have c3b2 : (l0.length == l1.length) = false := by first | simpa using c3 | (simp at c3 ⊢; omega)
 obtain rfl := Option.some.inj H
 go_enter Tryd.func21, Tryd.ntmps21
 go_wp2
 repeat (go_quiet (fail); try go_wp2)
 go_ret
 exact ⟨by first | rfl | (simp; done) | (simp [*]; done), by repeat (first | exact Drawn0.refl _ | apply Drawn0.step)⟩
end Go.Proofs.YtmgeffgcihfpcaaDoor.F
