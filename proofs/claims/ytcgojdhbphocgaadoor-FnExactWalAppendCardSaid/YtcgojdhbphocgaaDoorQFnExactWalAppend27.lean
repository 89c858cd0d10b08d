/- Merged texts below the law FnExactWalAppend: Go functions as Lean functions, their contracts, and plain lemmas. -/
import Derived.Test.YtcgojdhbphocgaaDoorQFnExactWalAppend23
import Derived.Test.YtcgojdhbphocgaaDoorQFnExactWalAppend24
import Derived.Shelf.Abstract
import Derived.Shelf.Strings.SlTrimAscii
import Derived.Test.YtcgojdhbphocgaaDoorVFnExactWalAppendF
namespace Go.Proofs.YtcgojdhbphocgaaDoor.LW
open Go.RowKit Go.Proofs.YtcgojdhbphocgaaDoorW.PrintWords Go.Proofs.YtcgojdhbphocgaaDoorW.PrintLast Go.Proofs.YtcgojdhbphocgaaDoorW.PrintMore
set_option linter.unusedVariables false
set_option linter.unusedSimpArgs false
theorem St.grow {w0 w w1 : World} {l : List It} {i : It} (h : St w0 w l) (q : Nat) (hq : l[q]? = some i) (i' : It) (hF : ∀ k, i'.F k → i.F k ∨ (w.heap.size ≤ k ∧ k < w1.heap.size)) (hP : i'.P w1) (hB : Below w0.heap.size w0 w1) (hk : Kept w w1 i.F) : St w0 w1 (l.set q i') := by
  have hql : q < l.length := (List.getElem?_eq_some_iff.1 hq).1
  have hI := h.i.all i (List.mem_of_getElem? hq)
  have look : ∀ (m : Nat) (x : It), (l.set q i')[m]? = some x → (m = q ∧ x = i') ∨ (m ≠ q ∧ l[m]? = some x) := by
    intro m x hm
    by_cases e : m = q
    · subst e
      rw [List.getElem?_set_self hql] at hm
      exact .inl ⟨rfl, (Option.some.inj hm).symm⟩
    rw [List.getElem?_set_ne (Ne.symm e)] at hm
    exact .inr ⟨e, hm⟩
  refine ⟨hB, Its.of (fun m x hm => ?_) (fun m m' x y hlt hm hm' k hx hy => ?_)⟩
  · rcases look m x hm with ⟨_, rfl⟩ | ⟨e, hm⟩
    · refine ⟨fun k hkx => ?_, hP⟩
      rcases hF k hkx with h2 | h2
      · exact ⟨(hI.2 k h2).1, Nat.lt_of_lt_of_le (hI.2 k h2).2 hk.1⟩
      exact ⟨Nat.le_trans h.b.size h2.1, h2.2⟩
    have hX := h.i.all x (List.mem_of_getElem? hm)
    exact ⟨fun k hkx => ⟨(hX.2 k hkx).1, Nat.lt_of_lt_of_le (hX.2 k hkx).2 hk.1⟩, x.mv w w1 (fun k hkx => hk.2 k (hX.2 k hkx).2 (fun hi => Its.disj h.i m q x i e hm hq k hkx hi)) hX.1⟩
  rcases look m x hm with ⟨e, hxe⟩ | ⟨e, hm2⟩
  · rcases look m' y hm' with ⟨e', _⟩ | ⟨e', hm3⟩
    · omega
    rw [hxe] at hx
    rcases hF k hx with h2 | h2
    · exact Its.disj h.i m' q y i e' hm3 hq k hy h2
    have := ((h.i.all y (List.mem_of_getElem? hm3)).2 k hy).2
    omega
  rcases look m' y hm' with ⟨e', hye⟩ | ⟨e', hm3⟩
  · rw [hye] at hy
    rcases hF k hy with h2 | h2
    · exact Its.disj h.i m q x i e hm2 hq k hx h2
    have := ((h.i.all x (List.mem_of_getElem? hm2)).2 k hx).2
    omega
  exact Its.disj h.i m m' x y (by omega) hm2 hm3 k hx hy
end Go.Proofs.YtcgojdhbphocgaaDoor.LW
namespace Go.Proofs.YtcgojdhbphocgaaDoor.F
open Go.RowKit Go.Proofs.YtcgojdhbphocgaaDoorW.PrintWords Go.Proofs.YtcgojdhbphocgaaDoorW.PrintLast Go.Proofs.YtcgojdhbphocgaaDoorW.PrintMore
open Go.Proofs.YtcgojdhbphocgaaDoor
set_option linter.unusedVariables false
set_option linter.unusedSimpArgs false
theorem lendLoose {w0 w : World} {l : List LW.It} {g n c : Nat} {xs : List S55} {F : Nat → Prop} (h : LW.St w0 w l) (q : Nat) (hq : l[q]? = some (LW.row k55 55 w0.heap.size (.slice (some ⟨g, 0, none⟩) n c) xs F)) (i : Int) (h0 : 0 ≤ i) (h1 : i < n) :
    ∃ (u1 u2 : Value) (ok2 : Nat → Prop), w.cell? ⟨g, i.toNat * 3, none⟩ = some (.string (rd_T55 xs i).f0) ∧ w.cell? ⟨g, i.toNat * 3 + 1, none⟩ = some u1 ∧ w.cell? ⟨g, i.toNat * 3 + 2, none⟩ = some u2 ∧ w.frozen? ⟨g, i.toNat * 3 + 2, none⟩ = false ∧ Kd.R (Kd.int .u8) 5 w w0.heap.size ok2 u2 (rd_T55 xs i).f2 ∧ (∀ k, ok2 k → k ≠ g) ∧ (∀ k, u2.ownBlock = some k → F k) ∧
      ∀ (v1 : Value) (w1 : World) (zs : List Int), (∀ ok : Nat → Prop, (∀ k, v1.ownBlock = some k → ok k) → Kd.R (Kd.int .u8) 5 w1 w0.heap.size ok v1 zs) → Below w0.heap.size w0 w1 → w.grownBy w1 u2.ownBlock → (v1.ownBlock = u2.ownBlock ∨ ∃ b, v1.ownBlock = some b ∧ w.heap.size ≤ b) →
        LW.St w0 (w1.setCell ⟨g, i.toNat * 3 + 2, none⟩ v1) (l.set q (LW.row k55 55 w0.heap.size (.slice (some ⟨g, 0, none⟩) n c) (xs.set i.toNat ⟨(rd_T55 xs i).f0, (rd_T55 xs i).f1, zs⟩) (fun k => F k ∨ (w.heap.size ≤ k ∧ k < w1.heap.size)))) := by
  have hS := h.own q hq
  have hFg : F g := (Kd.S_R hS).1 g (by simp [Value.ownBlock])
  have hbg := (h.i.all _ (List.mem_of_getElem? hq)).2 g hFg
  obtain ⟨oki, cs, hcl, hM, hcc, hfr, hoki, hH⟩ := Kd.S_elem (Kd.S_mono hS (fun k hk => (.inl hk : F k ∨ w.heap.size ≤ k))) z55 i h0 h1
  obtain ⟨pp, u1, u2, rfl, hA1, hA2⟩ := k55_openA hM
  refine ⟨u1, u2, fun k => oki k ∧ ¬ pp k, hcc 0 _ rfl, hcc 1 _ rfl, hcc 2 _ rfl, hfr 2, hA2, fun k hk => (hoki k hk.1).2, fun k hk => ((hoki k (hA2.1 k hk).1).1).elim id (fun a => absurd (Kd.R_lt hA2 k hk) (by omega)), fun v1 w1 zs hR hB hg hat => ?_⟩
  have hu2 : ∀ k, u2.ownBlock = some k → oki k := fun k hk => (hA2.1 k hk).1
  have H1 := Kd.H_grown (Kd.H_widen hH) hg (fun k hk => .inl (hu2 k hk))
  have hR1 : Kd.R (Kd.int .u8) 5 w1 w0.heap.size (fun k => oki k ∨ w.heap.size ≤ k) u1 (xs.getD i.toNat z55).f1 := Kd.R_mono (Kd.R_step hA1 (fun k hk hlt => hg.block k hlt (fun he => (hA2.1 k he.symm).2 hk.2))) (fun k hk => .inl hk.1)
  have hR2 := hR (fun k => oki k ∨ w.heap.size ≤ k) (fun k hk => by
    rcases hat with e | ⟨b, e, hb⟩
    · exact .inl (hu2 k (e ▸ hk))
    rw [e] at hk
    injection hk with hk
    exact .inr (hk ▸ hb))
  have hne : ∀ k, some k = u1.ownBlock → ¬ some k = v1.ownBlock := fun k a b => by
    rcases hat with e | ⟨b', e, hb⟩
    · rw [e] at b
      exact (hA2.1 k b.symm).2 (hA1.1 k a.symm).2
    rw [e] at b
    injection b with b
    have := Kd.R_lt hA1 k a.symm
    omega
  have hM1 := k55_mkM w1 w0.heap.size (fun k => oki k ∨ w.heap.size ≤ k) (⟨(xs.getD i.toNat z55).f0, (xs.getD i.toNat z55).f1, zs⟩ : S55) hR1 hR2 hne
  have hP := Kd.S_seg (okg := fun _ => False) (seg := [v1]) (j := 2) (x' := (⟨(xs.getD i.toNat z55).f0, (xs.getD i.toNat z55).f1, zs⟩ : S55)) (Kd.H_mono H1 (fun k hk => (⟨hk, fun hf => hf⟩ : (F k ∨ w.heap.size ≤ k) ∧ ¬ False))) h0 h1 (show 2 + 1 ≤ 3 by decide) hM1 (fun k hk => hk.elim (fun a => .inl (.inl a)) (fun a => .inl (.inr ⟨.inr a, a⟩))) (fun k hk => hk.elim)
  have hPS : Kd.S k55 55 (w1.setCell ⟨g, i.toNat * 3 + 2, none⟩ v1) w0.heap.size (fun k => F k ∨ w.heap.size ≤ k) (.slice (some ⟨g, 0, none⟩) n c) (xs.set i.toNat ⟨(xs.getD i.toNat z55).f0, (xs.getD i.toNat z55).f1, zs⟩) := hP.1
  refine h.grow q hq (LW.row k55 55 w0.heap.size (.slice (some ⟨g, 0, none⟩) n c) (xs.set i.toNat ⟨(xs.getD i.toNat z55).f0, (xs.getD i.toNat z55).f1, zs⟩) (fun k => F k ∨ (w.heap.size ≤ k ∧ k < w1.heap.size))) (fun k hk => ?_) (Kd.S_mono (Kd.S_bound hPS) (fun k hk => ?_)) (Zg hB hbg.1) ⟨?_, fun k hk hn => ?_⟩
  · rw [LW.setCell_size]; exact hk
  · have h2 := hk.2.2.1
    rw [LW.setCell_size] at h2
    exact hk.1.elim .inl (fun a => .inr ⟨a, h2⟩)
  · rw [LW.setCell_size]; exact hg.size
  rw [Below.heap_setCell _ _ _ k (fun he => hn (by rw [he]; exact hFg))]
  exact hg.block k hk (fun he => hn (by
    have := hu2 k he.symm
    rcases (hoki k this).1 with a | a
    · exact a
    omega))
end Go.Proofs.YtcgojdhbphocgaaDoor.F

namespace Go.Proofs.YtcgojdhbphocgaaDoor.F
open Go.RowKit Go.Proofs.YtcgojdhbphocgaaDoorW.PrintWords Go.Proofs.YtcgojdhbphocgaaDoorW.PrintLast Go.Proofs.YtcgojdhbphocgaaDoorW.PrintMore
set_option linter.unusedVariables false
set_option linter.unusedSimpArgs false
def PredF (g : Nat) (lb : Array Value) (p : ByteArray → Bool) (w : World) : Prop := ∀ w1 : World, Below w.heap.size w w1 → ∀ (s : ByteArray) (v1 v2 : Value), Calls Tryd.prog g (#[.agg #[.string s, v1, v2]] ++ lb) w1 fun e w' => e = .returned (.bool (p s)) ∧ Below w1.heap.size w1 w'
def idxF (p : ByteArray → Bool) : List S55 → Int → Int
  | [], _ => -1
  | x :: t, i => if p x.f0 = true then i else idxF p t (i + 1)
set_option maxHeartbeats 4000000 in
theorem indexFile.calls (g : Nat) (lb : Array Value) (p : ByteArray → Bool) (eg : ∀ args w, (callFunc g args).run Tryd.prog w = .ok (.enter g args) w) (A : Option Addr) (c : Nat) (l : List S55) (w : World) (hr : Kd.C k55 w A l.length l) (hl : l.length ≤ 9223372036854775807) (hp : PredF g lb p w) :
    Calls Tryd.prog 102 #[.slice A l.length c, .func (.func g) #[] lb] w fun e w' => e = .returned (.int .i64 (idxF p l 0)) ∧ Below w.heap.size w w' := by
  have HR0 := Zh hr
  clear hr
  have HP := Zh hp
  clear hp
  have hu55 := Tryd.underlying55
  go_enter Tryd.func102, Tryd.ntmps102
  go_wp2
  go_loopg [5, 8] l.length (fun gg _ v8 w' => ∃ kk : Nat, kk ≤ l.length ∧ l.length - kk ≤ gg ∧ v8 = .int .i64 kk ∧ Aside0 (Below w.heap.size w w') ∧ Aside0 (idxF p (l.drop kk) kk = idxF p l 0))
  case atStart => exact ⟨0, Nat.zero_le _, by omega, rfl, ⟨Below.refl _ _⟩, ⟨rfl⟩⟩
  case round =>
    obtain ⟨kk, hkk, hg, rfl, HB, HA⟩ := hrel
    by_cases hlt : kk < l.length
    · have hltz : (kk : Int) < (l.length : Int) := by omega
      obtain ⟨ad, A1, c1, A2, c2, e, hx0, hx1, hx2, _, _, _, _⟩ := at_T55 HR0.out (kk : Int) (by omega) (by omega)
      cases e
      replace hx0 := (HB.out.cell (Zi w _ hx0)).trans hx0
      replace hx1 := (HB.out.cell (Zi w _ hx1)).trans hx1
      replace hx2 := (HB.out.cell (Zi w _ hx2)).trans hx2
      rw [Int.toNat_natCast] at hx0 hx1 hx2
      have hrd : rd_T55 l (kk : Int) = l[kk] := by simp [rd_T55, List.getD_eq_getElem?_getD, List.getElem?_eq_getElem hlt]
      have hA := HA.out
      rw [List.drop_eq_getElem_cons hlt] at hA
      rw [hrd] at hx0 hx1 hx2
      clear HA hrd
      generalize l[kk] = y at hx0 hx1 hx2 hA
      have hcall := HP.out wr HB.out y.f0 (.slice A1 y.f1.length c1) (.slice A2 y.f2.length c2)
      cases hq : p y.f0 with
      | true =>
        simp only [idxF, hq, if_true] at hA
        rw [hq] at hcall
        have HA := Zh hA
        clear hA
        go_wp2_with (go_at_fn g; refine hcall.mono ?_; rintro e w' ⟨rfl, hb⟩; replace HB := Zh (Zl HB.out hb); clear hb)
        go_ret
        exact ⟨by rw [← HA.out]; rfl, HB.out⟩
      | false =>
        simp only [idxF, hq, Bool.false_eq_true, if_false] at hA
        rw [hq] at hcall
        have HA := Zh hA
        clear hA
        go_wp2_with (go_at_fn g; refine hcall.mono ?_; rintro e w' ⟨rfl, hb⟩; replace HB := Zh (Zl HB.out hb); clear hb)
        go_roundg (l.length - (kk + 1))
        case measure => omega
        case rel => exact ⟨kk + 1, by omega, by omega, by go_num, HB, ⟨by have := HA.out; simpa using this⟩⟩
    have hltz : ¬ (kk : Int) < (l.length : Int) := by omega
    have : kk = l.length := by omega
    subst this
    go_wp2
    go_ret
    refine ⟨?_, HB.out⟩
    rw [← HA.out, List.drop_length]
    rfl
set_option maxHeartbeats 4000000 in
theorem fileOf1.pred (B : Nat) (name : ByteArray) (w : World) (hb : w.cell? ⟨B, 0, none⟩ = some (.string name)) : PredF 103 #[.pointer (some ⟨B, 0, none⟩)] (fun s => s.toList == name.toList) w := by
  intro w1 hB s v1 v2
  have hlt := Nat.lt_of_lt_of_le (Zi w _ hb) hB.size
  have hx := (hB.cell (Zi w _ hb)).trans hb
  clear hb hB
  have hu55 := Tryd.underlying55
  have hlt2 : B < w1.heap.size := hlt
  clear hlt
  go_enter Tryd.func103, Tryd.ntmps103
  go_wp2
  go_ret
  exact ⟨rfl, Zf (Below.refl _ _) _⟩
def impl_fileOf.f (l0_0 : List S55) (a1 : ByteArray) : Option Int := if l0_0.length ≤ 9223372036854775807 then some (idxF (fun s => s.toList == a1.toList) l0_0 0) else none
set_option maxHeartbeats 4000000 in
theorem impl_fileOf.calls (A0_0 : Option Addr) (c0_0 : Nat) (l0_0 : List S55) (a1 : ByteArray) (r : Int) (w : World) (hr0_0 : Kd.C k55 w A0_0 l0_0.length l0_0) (hc0_0 : l0_0.length ≤ c0_0) (h : impl_fileOf.f l0_0 a1 = some r) :
    Calls Tryd.prog 74 #[.agg #[.slice A0_0 l0_0.length c0_0], .string a1] w fun e w' => e = .returned (.int .i64 r) ∧ Below w.heap.size w w' := by
  unfold impl_fileOf.f at h
  split at h
  · rename_i hl
    have h := Option.some.inj h
    subst h
    have HR := Zh hr0_0
    have HL := Zh hl
    clear hr0_0 hl
    have e6 : ∀ args w, (callFunc 102 args).run Tryd.prog w = .ok (.enter 102 args) w := enters_of Tryd.func102 (by kernel_rfl) rfl
    have e7 : ∀ args w, (callFunc 103 args).run Tryd.prog w = .ok (.enter 103 args) w := enters_of Tryd.func103 (by kernel_rfl) rfl
    have hmf : ∀ (fn : Fn) (first cap : Array Value) (w : World), (Instr.makeFunc fn first cap).run Tryd.prog w = .ok (.func fn first cap) w := fun _ _ _ _ => rfl
    have hcall := indexFile.calls 103 #[.pointer (some ⟨w.heap.size + 1, 0, none⟩)] (fun s => s.toList == a1.toList) e7 A0_0 c0_0 l0_0 ((w.alloc (.cells #[.slice A0_0 l0_0.length c0_0] 28)).alloc (.cells #[.string a1] 9)) (Kd.C_alloc (Kd.C_alloc HR.out _) _) HL.out (fileOf1.pred _ _ _ (by simp))
    go_enter Tryd.func74, Tryd.ntmps74
    go_wp2_with (go_at_fn 102; refine hcall.mono ?_; rintro e w' ⟨rfl, hb⟩)
    go_ret
    exact ⟨rfl, Zl (Zf (Zf (Below.refl _ _) _) _) hb⟩
  cases h
end Go.Proofs.YtcgojdhbphocgaaDoor.F

namespace Go.Proofs.YtcgojdhbphocgaaDoor.F
open Go.Proofs.YtcgojdhbphocgaaDoor
open Go.RowKit Go.Proofs.YtcgojdhbphocgaaDoorW.PrintWords Go.Proofs.YtcgojdhbphocgaaDoorW.PrintWords.Kd Go.Proofs.YtcgojdhbphocgaaDoorW.PrintMore.Kd Go.Proofs.YtcgojdhbphocgaaDoorW.PrintLast Go.Proofs.YtcgojdhbphocgaaDoorW.PrintMore
attribute [local go_sem] max2_int min2_int max_two min_two max_three min_three max_four min_four   -- for this text's walks alone
set_option linter.unusedVariables false
set_option linter.unusedSimpArgs false
def impl_copyDisk.l0 : Nat → List (S55) → Int → Int → List (S55) → Option ((List (S55)))
 | 0, _, _, _, _ => none
 | k + 1, x8, x9, x10, x233000 => if x10 < x9 then (if 0 ≤ x10 then (if x10 < (x8.length : Int) then ((some (([] : List Int) : List Int)).bind fun y235 => (if y235.length + ((rd_T55 x8 x10).f1).length < 140737488355328 then ((some (([] : List Int) : List Int)).bind fun y241 => (if y241.length + ((rd_T55 x8 x10).f2).length < 140737488355328 then (if x233000.length < 2199023255552 then (impl_copyDisk.l0 k x8 x9 (wrap64 (x10 + 1)) (x233000 ++ [(⟨(rd_T55 x8 x10).f0, (y235 ++ ((rd_T55 x8 x10).f1)), (y241 ++ ((rd_T55 x8 x10).f2))⟩ : S55)])) else (none)) else (none))) else (none))) else (none)) else (none)) else (some x233000)
def impl_copyDisk.f (k : Nat) (l0_0 : List (S55)) : Option ((List (S55))) := impl_copyDisk.l0 k l0_0 (l0_0.length : Int) 0 ([] : List (S55))
def impl_copyDisk.T5 : Bool × List (List Nat × List Nat) := (true, [([], []), ([0], [0]), ([], []), ([2], [2]), ([], []), ([], []), ([5], [5]), ([4, 6], [4, 6]), ([], []), ([], []), ([9], [9]), ([8, 10, 7], [8, 10]), ([3, 7, 11], [3, 7, 11]), ([12], [12]), ([1, 13, 11], [1, 13]), ([0, 1, 2, 3, 4, 5, 6, 7, 8, 9, 10, 11, 12, 13, 14], []), ([15, 14, 14, 0, 1, 2, 3, 4, 5, 6, 7, 8, 9, 10, 11, 12, 13, 14], [14, 15])])
def impl_copyDisk.B5 : List Nat := [0, 1, 0, 4, 0, 0, 32, 112, 0, 0, 512, 2032, 4092, 8188, 16383, 32767, 65535]
theorem impl_copyDisk.tab5 : rtab .any (opsOf Tryd.f56 5) = impl_copyDisk.T5 := by kernel_rfl
theorem impl_copyDisk.bits5 : waitsOk impl_copyDisk.T5.2 impl_copyDisk.B5 = true := by kernel_rfl
set_option maxHeartbeats 8000000 in
set_option maxRecDepth 100000 in
theorem impl_copyDisk.calls (k : Nat) (A0_0 : Option Addr) (c0_0 : Nat) (l0_0 : List (S55)) (r : List (S55)) (w : World) (hr0_0 : Kd.C k55 w A0_0 l0_0.length l0_0) (hc0_0 : l0_0.length ≤ c0_0) (h : impl_copyDisk.f k l0_0 = some r) :
  Calls Tryd.prog 56 #[.agg #[.slice A0_0 l0_0.length c0_0]] w fun e w' => ∃ v0_ : Value, e = .returned (.agg #[v0_]) ∧ Kd.S k55 55 w' w.heap.size (fun _ => True) v0_ r ∧ Below w.heap.size w w' := by
 have hu28 := Tryd.underlying28
 have hu55 := Tryd.underlying55
 have HR0_0 := Zh hr0_0
 have HC0_0 := Zh hc0_0
 clear hr0_0 hc0_0
 have HB := Zh (Below.refl w.heap.size w)
 have H : (impl_copyDisk.l0 k l0_0 (l0_0.length : Int) 0 ([] : List (S55))) = some r := h
 clear h
 have H' := Zh H
 clear H
 go_enter Tryd.func56, Tryd.ntmps56
 go_wp2_with (first | ((with_reducible refine gate_dst (N := 1) rfl ?_); refine box_event ?hg (N := 1) ?hd (cs := #[.slice A0_0 l0_0.length c0_0]) (t := 28) ?hr ?_; (case hd => rfl); (case hg => rfl); (case hr => first | (go_simp; done) | (go_simp; rfl)); intro gb230 hg w2 hbox hb; have n0_ := Zh (Zl Zs hb); have n1_ := Zh (hbox); have n2_ := Zh ((by rw [hg]; exact (below_size Zs) : w.heap.size ≤ gb230)); have n3_ := Zh ((by rw [hg]; exact (below_size Zs) : w.heap.size ≤ gb230)); clear HB; have HB := n0_; have BK230 := n1_; have GW230 := n2_; have GE230 := n3_; clear n0_ n1_ n2_ n3_; clear hb hbox hg) | ((with_reducible refine gate_dst (N := 2) rfl ?_); refine box_event ?hg (N := 2) ?hd (cs := #[.slice none 0 0]) (t := 28) ?hr ?_; (case hd => rfl); (case hg => rfl); (case hr => first | (go_simp; done) | (go_simp; rfl)); intro gb231 hg w3 hbox hb; have n0_ := Zh (Zm (g := gb230) (o := .cells #[.slice A0_0 l0_0.length c0_0] 28 (0, 0)) Zk hb); have n1_ := Zh (Zl Zs hb); have n2_ := Zh (hbox); have n3_ := Zh ((by rw [hg]; exact (below_size Zs) : w.heap.size ≤ gb231)); have n4_ := Zh ((by rw [hg]; exact (below_size Zs) : w.heap.size ≤ gb231)); have n5_ := Zh ((by rw [hg]; exact Nat.ne_of_lt (blk_lt (g := gb230) (o := .cells #[.slice A0_0 l0_0.length c0_0] 28 (0, 0)) Zk) : gb230 ≠ gb231)); have n6_ := Zh ((by rw [hg]; exact Nat.ne_of_gt (blk_lt (g := gb230) (o := .cells #[.slice A0_0 l0_0.length c0_0] 28 (0, 0)) Zk) : gb231 ≠ gb230)); clear BK230; clear HB; have BK230 := n0_; have HB := n1_; have BK231 := n2_; have GW231 := n3_; have GE231 := n4_; have NB230_231 := n5_; have NB231_230 := n6_; clear n0_ n1_ n2_ n3_ n4_ n5_ n6_; clear hb hbox hg) | ((with_reducible refine gate_dst (N := 3) rfl ?_); refine box_event ?hg (N := 3) ?hd (cs := #[.slice none 0 0]) (t := 28) ?hr ?_; (case hd => rfl); (case hg => rfl); (case hr => first | (go_simp; done) | (go_simp; rfl)); intro gb232 hg w4 hbox hb; have n0_ := Zh (Zm (g := gb230) (o := .cells #[.slice A0_0 l0_0.length c0_0] 28 (0, 0)) Zk hb); have n1_ := Zh (Zm (g := gb231) (o := .cells #[.slice none 0 0] 28 (0, 0)) Zk hb); have n2_ := Zh (Zl Zs hb); have n3_ := Zh (hbox); have n4_ := Zh ((by rw [hg]; exact (below_size Zs) : w.heap.size ≤ gb232)); have n5_ := Zh ((by rw [hg]; exact (below_size Zs) : w.heap.size ≤ gb232)); have n6_ := Zh ((by rw [hg]; exact Nat.ne_of_lt (blk_lt (g := gb230) (o := .cells #[.slice A0_0 l0_0.length c0_0] 28 (0, 0)) Zk) : gb230 ≠ gb232)); have n7_ := Zh ((by rw [hg]; exact Nat.ne_of_gt (blk_lt (g := gb230) (o := .cells #[.slice A0_0 l0_0.length c0_0] 28 (0, 0)) Zk) : gb232 ≠ gb230)); have n8_ := Zh ((by rw [hg]; exact Nat.ne_of_lt (blk_lt (g := gb231) (o := .cells #[.slice none 0 0] 28 (0, 0)) Zk) : gb231 ≠ gb232)); have n9_ := Zh ((by rw [hg]; exact Nat.ne_of_gt (blk_lt (g := gb231) (o := .cells #[.slice none 0 0] 28 (0, 0)) Zk) : gb232 ≠ gb231)); clear BK230; clear BK231; clear HB; have BK230 := n0_; have BK231 := n1_; have HB := n2_; have BK232 := n3_; have GW232 := n4_; have GE232 := n5_; have NB230_232 := n6_; have NB232_230 := n7_; have NB231_232 := n8_; have NB232_231 := n9_; clear n0_ n1_ n2_ n3_ n4_ n5_ n6_ n7_ n8_ n9_; clear hb hbox hg; have hnb5 := NB232_230.out; have hnc5 := NB230_232.out; have hnb6 := NB232_231.out; have hnc6 := NB231_232.out; have hcz7_0 : w4.cell? ⟨gb232, 0, none⟩ = some (.slice none 0 0) := (blk_cell BK232.out 0).trans rfl; have hfz7_0 := Zn BK232.out 0; have hnb8 := NB230_231.out; have hnc8 := NB231_230.out; have hcz9_0 : w4.cell? ⟨gb230, 0, none⟩ = some (.slice A0_0 l0_0.length c0_0) := (blk_cell BK230.out 0).trans rfl; have hfz9_0 := Zn BK230.out 0))
 go_loopg [10] k (fun kq v10 w' => ∃ (x10_1 : Int) (x233000_1 : List (S55)) (u233000 : Value), v10 = .int .i64 x10_1 ∧ Aside0 (impl_copyDisk.l0 kq l0_0 (l0_0.length : Int) x10_1 x233000_1 = some r) ∧ Aside0 (kq ≤ k) ∧ Aside0 (Kd.S k55 55 w' w.heap.size (fun _ => True) u233000 x233000_1) ∧ Aside0 (w'.heap[gb230]? = some (.cells #[(.slice A0_0 l0_0.length c0_0)] 28 (0, 0))) ∧ Aside0 (w'.heap[gb231]? = some (.cells #[(.slice none 0 0)] 28 (0, 0))) ∧ Aside0 (w'.heap[gb232]? = some (.cells #[u233000] 28 (0, 0))) ∧ Aside0 (Below w.heap.size w w'))
 case atStart => exact ⟨(0), (([] : List (S55))), (.slice none 0 0), (by first | rfl | (simp; done) | (simp [*]; done)), H', ⟨Nat.le_refl _⟩, ⟨by first | exact S_nil _ _ _ _ _ | exact N_nil _ _ _ _ _ | exact V_nil _ _ _ _ _ | exact Q_nil _ _ _ _ _ | exact R_nil _ _ _ _ _⟩, ⟨by (with_reducible repeat (first | refine Za ?_ _ | refine Zb ?_ | refine blk_alloc ?_ _)); refine Zp ?_ NB230_232.out _; (with_reducible repeat (first | refine Za ?_ _ | refine Zb ?_ | refine blk_alloc ?_ _)); exact BK230.out⟩, ⟨by (with_reducible repeat (first | refine Za ?_ _ | refine Zb ?_ | refine blk_alloc ?_ _)); refine Zp ?_ NB231_232.out _; (with_reducible repeat (first | refine Za ?_ _ | refine Zb ?_ | refine blk_alloc ?_ _)); exact BK231.out⟩, ⟨by (with_reducible repeat (first | refine Za ?_ _ | refine Zb ?_ | refine blk_alloc ?_ _)); refine blk_put (cs := #[.slice none 0 0]) ?_ 0 _ rfl; (with_reducible repeat (first | refine Za ?_ _ | refine Zb ?_ | refine blk_alloc ?_ _)); exact BK232.out⟩, ⟨by repeat (first | (with_reducible first | exact HB.out | apply Zf | apply Zd | apply Ze | refine Zg ?_ GE230.out | refine Zg ?_ GE231.out | refine Zg ?_ GE232.out) | exact HB.out)⟩⟩
 case round =>
  clear H'
  try clear p2
  try clear c5
  try clear c6
  try clear c8
  try clear hcz7_0
  try clear hcz9_0
  try clear hfz7_0
  try clear hfz9_0
  obtain ⟨x10_1, x233000_1, u233000, rfl, HA, HK1, HO_233000, BK230, BK231, BK232, HB⟩ := hrel
  cases gk with
  | zero => exact absurd HA.out (by simp [impl_copyDisk.l0])
  | succ k1 =>
   have H := HA.out
   clear HA
   simp only [impl_copyDisk.l0] at H
   by_cases c10 : x10_1 < (l0_0.length : Int)
   ·
    rw [if_pos c10] at H
    have c10b0 : decide (x10_1 < (l0_0.length : Int)) = true := decide_eq_true c10
    clear c10
    by_cases c11 : 0 ≤ x10_1
    ·
     rw [if_pos c11] at H
     have c11b0 : decide (0 ≤ x10_1) = true := decide_eq_true c11
     clear c11
     by_cases c12 : x10_1 < (l0_0.length : Int)
     ·
      rw [if_pos c12] at H
      have c12b0 : decide (x10_1 < (l0_0.length : Int)) = true := decide_eq_true c12
      clear c12
      obtain ⟨y235, hy235⟩ : ∃ y_ : List Int, y_ = (([] : List Int)) := ⟨_, rfl⟩
      replace H : (if y235.length + ((rd_T55 l0_0 x10_1).f1).length < 140737488355328 then ((some (([] : List Int) : List Int)).bind fun y241 => (if y241.length + ((rd_T55 l0_0 x10_1).f2).length < 140737488355328 then (if x233000_1.length < 2199023255552 then (impl_copyDisk.l0 k1 l0_0 (l0_0.length : Int) (wrap64 (x10_1 + 1)) (x233000_1 ++ [(⟨(rd_T55 l0_0 x10_1).f0, (y235 ++ ((rd_T55 l0_0 x10_1).f1)), (y241 ++ ((rd_T55 l0_0 x10_1).f2))⟩ : S55)])) else (none)) else (none))) else (none)) = some r := by first | (rw [hy235]; with_reducible exact H) | (have H2_ := (Option.bind_some _ _).symm.trans H; rw [hy235]; with_reducible exact H2_) | (have H2_ := (Option.bind_some _ _).symm.trans H; with_reducible exact H2_) | with_reducible exact H | (rw [hy235]; exact H) | exact H
      have Ny235 := Zh hy235
      clear hy235
      by_cases c13 : y235.length + ((rd_T55 l0_0 x10_1).f1).length < 140737488355328
      ·
       rw [if_pos c13] at H
       have LMc13 := Zh c13
       clear c13
       obtain ⟨y238, hy238⟩ : ∃ y_ : List Int, y_ = (y235 ++ ((rd_T55 l0_0 x10_1).f1)) := ⟨_, rfl⟩
       replace H : ((some (([] : List Int) : List Int)).bind fun y241 => (if y241.length + ((rd_T55 l0_0 x10_1).f2).length < 140737488355328 then (if x233000_1.length < 2199023255552 then (impl_copyDisk.l0 k1 l0_0 (l0_0.length : Int) (wrap64 (x10_1 + 1)) (x233000_1 ++ [(⟨(rd_T55 l0_0 x10_1).f0, y238, (y241 ++ ((rd_T55 l0_0 x10_1).f2))⟩ : S55)])) else (none)) else (none))) = some r := by first | (rw [hy238]; with_reducible exact H) | (have H2_ := (Option.bind_some _ _).symm.trans H; rw [hy238]; with_reducible exact H2_) | (have H2_ := (Option.bind_some _ _).symm.trans H; with_reducible exact H2_) | with_reducible exact H | (rw [hy238]; exact H) | exact H
       have Ny238 := Zh hy238
       clear hy238
       obtain ⟨y241, hy241⟩ : ∃ y_ : List Int, y_ = (([] : List Int)) := ⟨_, rfl⟩
       replace H : (if y241.length + ((rd_T55 l0_0 x10_1).f2).length < 140737488355328 then (if x233000_1.length < 2199023255552 then (impl_copyDisk.l0 k1 l0_0 (l0_0.length : Int) (wrap64 (x10_1 + 1)) (x233000_1 ++ [(⟨(rd_T55 l0_0 x10_1).f0, y238, (y241 ++ ((rd_T55 l0_0 x10_1).f2))⟩ : S55)])) else (none)) else (none)) = some r := by first | (rw [hy241]; with_reducible exact H) | (have H2_ := (Option.bind_some _ _).symm.trans H; rw [hy241]; with_reducible exact H2_) | (have H2_ := (Option.bind_some _ _).symm.trans H; with_reducible exact H2_) | with_reducible exact H | (rw [hy241]; exact H) | exact H
       have Ny241 := Zh hy241
       clear hy241
       by_cases c14 : y241.length + ((rd_T55 l0_0 x10_1).f2).length < 140737488355328
       ·
        rw [if_pos c14] at H
        have LMc14 := Zh c14
        clear c14
        obtain ⟨y244, hy244⟩ : ∃ y_ : List Int, y_ = (y241 ++ ((rd_T55 l0_0 x10_1).f2)) := ⟨_, rfl⟩
        replace H : (if x233000_1.length < 2199023255552 then (impl_copyDisk.l0 k1 l0_0 (l0_0.length : Int) (wrap64 (x10_1 + 1)) (x233000_1 ++ [(⟨(rd_T55 l0_0 x10_1).f0, y238, y244⟩ : S55)])) else (none)) = some r := by first | (rw [hy244]; with_reducible exact H) | (have H2_ := (Option.bind_some _ _).symm.trans H; rw [hy244]; with_reducible exact H2_) | (have H2_ := (Option.bind_some _ _).symm.trans H; with_reducible exact H2_) | with_reducible exact H | (rw [hy244]; exact H) | exact H
        have Ny244 := Zh hy244
        clear hy244
        by_cases c15 : x233000_1.length < 2199023255552
        ·
         rw [if_pos c15] at H
         have LMc15 := Zh c15
         clear c15
         obtain ⟨y247, hy247⟩ : ∃ y_ : List (S55), y_ = (x233000_1 ++ [(⟨(rd_T55 l0_0 x10_1).f0, y238, y244⟩ : S55)]) := ⟨_, rfl⟩
         replace H : (impl_copyDisk.l0 k1 l0_0 (l0_0.length : Int) (wrap64 (x10_1 + 1)) y247) = some r := by first | (rw [hy247]; with_reducible exact H) | (have H2_ := (Option.bind_some _ _).symm.trans H; rw [hy247]; with_reducible exact H2_) | (have H2_ := (Option.bind_some _ _).symm.trans H; with_reducible exact H2_) | with_reducible exact H | (rw [hy247]; exact H) | exact H
         have Ny247 := Zh hy247
         clear hy247
         have H' := Zh H
         clear H
         have p233 : 0 ≤ (x10_1 : Int) := Zo
         have q233 : x10_1 < (l0_0.length : Int) := Zo
         obtain ⟨ad233, A233_1, c233_1, A233_2, c233_2, e233, hx233_0, hx233_1, hx233_2, hl233_1, hi233_1, hl233_2, hi233_2⟩ := at_T55 HR0_0.out x10_1 p233 q233
         cases e233
         replace hx233_0 := Zc HB.out hx233_0
         replace hx233_1 := Zc HB.out hx233_1
         replace hx233_2 := Zc HB.out hx233_2
         have HR233_1 := Zh hi233_1
         have HC233_1 := Zh hl233_1
         clear hi233_1 hl233_1
         have HR233_2 := Zh hi233_2
         have HC233_2 := Zh hl233_2
         clear hi233_2 hl233_2
         replace p233 := eq_true p233
         replace q233 := eq_true q233
         try go_wp2_with (first | ((with_reducible refine gate_dst (N := 5) rfl ?_); refine box_event ?hg (N := 5) ?hd (cs := #[.string (⟨#[]⟩ : ByteArray), .slice none 0 0, .slice none 0 0]) (t := 55) ?hr ?_; (case hd => rfl); (case hg => rfl); (case hr => first | (go_simp; done) | (go_simp; rfl)); intro gb234 hg w16 hbox hb; have n0_ := Zh (S_below (S_elderB (by (with_reducible repeat (first | apply S_alloc | apply S_drewN | apply S_drew)); exact HO_233000.out) gb234 (Nat.le_of_eq hg.symm)) hb); have n1_ := Zh (Zm (g := gb230) (o := .cells #[.slice (some ad233) l0_0.length c0_0] 28 (0, 0)) Zk hb); have n2_ := Zh (Zm (g := gb231) (o := .cells #[.slice none 0 0] 28 (0, 0)) Zk hb); have n3_ := Zh (Zm (g := gb232) (o := .cells #[u233000] 28 (0, 0)) Zk hb); have n4_ := Zh (Zl Zs hb); have n5_ := Zh (hbox); have n6_ := Zh ((by rw [hg]; exact (below_size Zs) : w.heap.size ≤ gb234)); have n7_ := Zh ((by rw [hg]; exact (below_size Zs) : w.heap.size ≤ gb234)); have n8_ := Zh ((by rw [hg]; exact Nat.ne_of_lt (blk_lt (g := gb230) (o := .cells #[.slice (some ad233) l0_0.length c0_0] 28 (0, 0)) Zk) : gb230 ≠ gb234)); have n9_ := Zh ((by rw [hg]; exact Nat.ne_of_gt (blk_lt (g := gb230) (o := .cells #[.slice (some ad233) l0_0.length c0_0] 28 (0, 0)) Zk) : gb234 ≠ gb230)); have n10_ := Zh ((by rw [hg]; exact Nat.ne_of_lt (blk_lt (g := gb231) (o := .cells #[.slice none 0 0] 28 (0, 0)) Zk) : gb231 ≠ gb234)); have n11_ := Zh ((by rw [hg]; exact Nat.ne_of_gt (blk_lt (g := gb231) (o := .cells #[.slice none 0 0] 28 (0, 0)) Zk) : gb234 ≠ gb231)); have n12_ := Zh ((by rw [hg]; exact Nat.ne_of_lt (blk_lt (g := gb232) (o := .cells #[u233000] 28 (0, 0)) Zk) : gb232 ≠ gb234)); have n13_ := Zh ((by rw [hg]; exact Nat.ne_of_gt (blk_lt (g := gb232) (o := .cells #[u233000] 28 (0, 0)) Zk) : gb234 ≠ gb232)); clear HO_233000; clear BK230; clear BK231; clear BK232; clear HB; have HO_233000 := n0_; have BK230 := n1_; have BK231 := n2_; have BK232 := n3_; have HB := n4_; have BK234 := n5_; have GW234 := n6_; have GE234 := n7_; have NB230_234 := n8_; have NB234_230 := n9_; have NB231_234 := n10_; have NB234_231 := n11_; have NB232_234 := n12_; have NB234_232 := n13_; clear n0_ n1_ n2_ n3_ n4_ n5_ n6_ n7_ n8_ n9_ n10_ n11_ n12_ n13_; clear hb hbox hg; have hnb17 := NB234_230.out; have hnc17 := NB230_234.out; have hnb18 := NB234_231.out; have hnc18 := NB231_234.out; have hnb19 := NB234_232.out; have hnc19 := NB232_234.out; have hcz20_0 : w16.cell? ⟨gb234, 0, none⟩ = some (.string (⟨#[]⟩ : ByteArray)) := (blk_cell BK234.out 0).trans rfl; have hcz20_1 : w16.cell? ⟨gb234, 1, none⟩ = some (.slice none 0 0) := (blk_cell BK234.out 1).trans rfl; have hcz20_2 : w16.cell? ⟨gb234, 2, none⟩ = some (.slice none 0 0) := (blk_cell BK234.out 2).trans rfl; have hfz20_0 := Zn BK234.out 0; have hfz20_1 := Zn BK234.out 1; have hfz20_2 := Zn BK234.out 2; obtain ⟨Ao21, co21, eo21⟩ := S_slice HO_233000.out; subst eo21))
         have n0_ : Aside0 (Kd.S k55 55 (((w16.setCell ⟨gb234, 0, none⟩ (.string ((rd_T55 l0_0 x10_1).f0))).setCell ⟨gb234, 1, none⟩ (.slice A233_1 ((rd_T55 l0_0 x10_1).f1).length c233_1)).setCell ⟨gb234, 2, none⟩ (.slice A233_2 ((rd_T55 l0_0 x10_1).f2).length c233_2)) w.heap.size (fun k_ => k_ ≠ gb234) (.slice Ao21 x233000_1.length co21) x233000_1) := ⟨by (with_reducible repeat (first | apply S_alloc | apply S_drewN | apply S_drew)); exact S_mono (S_far (p := ⟨gb234, 2, none⟩) (S_far (p := ⟨gb234, 1, none⟩) (S_far (p := ⟨gb234, 0, none⟩) (S_mono HO_233000.out (fun k_ hk => (⟨hk, hk.2⟩ : _ ∧ k_ ≠ gb234))) (fun _ hk => hk.2) (.string ((rd_T55 l0_0 x10_1).f0))) (fun _ hk => hk.2) (.slice A233_1 ((rd_T55 l0_0 x10_1).f1).length c233_1)) (fun _ hk => hk.2) (.slice A233_2 ((rd_T55 l0_0 x10_1).f2).length c233_2)) (fun _ hk => hk.1.2)⟩
         have n1_ : Aside0 ((((w16.setCell ⟨gb234, 0, none⟩ (.string ((rd_T55 l0_0 x10_1).f0))).setCell ⟨gb234, 1, none⟩ (.slice A233_1 ((rd_T55 l0_0 x10_1).f1).length c233_1)).setCell ⟨gb234, 2, none⟩ (.slice A233_2 ((rd_T55 l0_0 x10_1).f2).length c233_2)).heap[gb230]? = some (.cells #[.slice (some ad233) l0_0.length c0_0] 28 (0, 0))) := ⟨by (with_reducible repeat (first | refine Za ?_ _ | refine Zb ?_ | refine blk_alloc ?_ _)); refine Zp ?_ NB230_234.out _; (with_reducible repeat (first | refine Za ?_ _ | refine Zb ?_ | refine blk_alloc ?_ _)); refine Zp ?_ NB230_234.out _; (with_reducible repeat (first | refine Za ?_ _ | refine Zb ?_ | refine blk_alloc ?_ _)); refine Zp ?_ NB230_234.out _; (with_reducible repeat (first | refine Za ?_ _ | refine Zb ?_ | refine blk_alloc ?_ _)); exact BK230.out⟩
         have n2_ : Aside0 ((((w16.setCell ⟨gb234, 0, none⟩ (.string ((rd_T55 l0_0 x10_1).f0))).setCell ⟨gb234, 1, none⟩ (.slice A233_1 ((rd_T55 l0_0 x10_1).f1).length c233_1)).setCell ⟨gb234, 2, none⟩ (.slice A233_2 ((rd_T55 l0_0 x10_1).f2).length c233_2)).heap[gb231]? = some (.cells #[.slice none 0 0] 28 (0, 0))) := ⟨by (with_reducible repeat (first | refine Za ?_ _ | refine Zb ?_ | refine blk_alloc ?_ _)); refine Zp ?_ NB231_234.out _; (with_reducible repeat (first | refine Za ?_ _ | refine Zb ?_ | refine blk_alloc ?_ _)); refine Zp ?_ NB231_234.out _; (with_reducible repeat (first | refine Za ?_ _ | refine Zb ?_ | refine blk_alloc ?_ _)); refine Zp ?_ NB231_234.out _; (with_reducible repeat (first | refine Za ?_ _ | refine Zb ?_ | refine blk_alloc ?_ _)); exact BK231.out⟩
         have n3_ : Aside0 ((((w16.setCell ⟨gb234, 0, none⟩ (.string ((rd_T55 l0_0 x10_1).f0))).setCell ⟨gb234, 1, none⟩ (.slice A233_1 ((rd_T55 l0_0 x10_1).f1).length c233_1)).setCell ⟨gb234, 2, none⟩ (.slice A233_2 ((rd_T55 l0_0 x10_1).f2).length c233_2)).heap[gb232]? = some (.cells #[.slice Ao21 x233000_1.length co21] 28 (0, 0))) := ⟨by (with_reducible repeat (first | refine Za ?_ _ | refine Zb ?_ | refine blk_alloc ?_ _)); refine Zp ?_ NB232_234.out _; (with_reducible repeat (first | refine Za ?_ _ | refine Zb ?_ | refine blk_alloc ?_ _)); refine Zp ?_ NB232_234.out _; (with_reducible repeat (first | refine Za ?_ _ | refine Zb ?_ | refine blk_alloc ?_ _)); refine Zp ?_ NB232_234.out _; (with_reducible repeat (first | refine Za ?_ _ | refine Zb ?_ | refine blk_alloc ?_ _)); exact BK232.out⟩
         have n4_ : Aside0 ((((w16.setCell ⟨gb234, 0, none⟩ (.string ((rd_T55 l0_0 x10_1).f0))).setCell ⟨gb234, 1, none⟩ (.slice A233_1 ((rd_T55 l0_0 x10_1).f1).length c233_1)).setCell ⟨gb234, 2, none⟩ (.slice A233_2 ((rd_T55 l0_0 x10_1).f2).length c233_2)).heap[gb234]? = some (.cells #[.string ((rd_T55 l0_0 x10_1).f0), .slice A233_1 ((rd_T55 l0_0 x10_1).f1).length c233_1, .slice A233_2 ((rd_T55 l0_0 x10_1).f2).length c233_2] 55 (0, 0))) := ⟨by (with_reducible repeat (first | refine Za ?_ _ | refine Zb ?_ | refine blk_alloc ?_ _)); refine blk_put (cs := #[.string ((rd_T55 l0_0 x10_1).f0), .slice A233_1 ((rd_T55 l0_0 x10_1).f1).length c233_1, .slice none 0 0]) ?_ 2 _ rfl; (with_reducible repeat (first | refine Za ?_ _ | refine Zb ?_ | refine blk_alloc ?_ _)); refine blk_put (cs := #[.string ((rd_T55 l0_0 x10_1).f0), .slice none 0 0, .slice none 0 0]) ?_ 1 _ rfl; (with_reducible repeat (first | refine Za ?_ _ | refine Zb ?_ | refine blk_alloc ?_ _)); refine blk_put (cs := #[.string (⟨#[]⟩ : ByteArray), .slice none 0 0, .slice none 0 0]) ?_ 0 _ rfl; (with_reducible repeat (first | refine Za ?_ _ | refine Zb ?_ | refine blk_alloc ?_ _)); exact BK234.out⟩
         have n5_ : Aside0 (Below w.heap.size w (((w16.setCell ⟨gb234, 0, none⟩ (.string ((rd_T55 l0_0 x10_1).f0))).setCell ⟨gb234, 1, none⟩ (.slice A233_1 ((rd_T55 l0_0 x10_1).f1).length c233_1)).setCell ⟨gb234, 2, none⟩ (.slice A233_2 ((rd_T55 l0_0 x10_1).f2).length c233_2))) := ⟨by repeat (first | (with_reducible first | exact HB.out | apply Zf | apply Zd | apply Ze | refine Zg ?_ GE230.out | refine Zg ?_ GE231.out | refine Zg ?_ GE232.out | refine Zg ?_ GE234.out) | exact HB.out)⟩
         (try clear HO_233000)
         (try clear BK230)
         (try clear BK231)
         (try clear BK232)
         (try clear BK234)
         (try clear HB)
         generalize (((w16.setCell ⟨gb234, 0, none⟩ (.string ((rd_T55 l0_0 x10_1).f0))).setCell ⟨gb234, 1, none⟩ (.slice A233_1 ((rd_T55 l0_0 x10_1).f1).length c233_1)).setCell ⟨gb234, 2, none⟩ (.slice A233_2 ((rd_T55 l0_0 x10_1).f2).length c233_2)) = w22 at n0_ n1_ n2_ n3_ n4_ n5_ ⊢
         have HO_233000 := n0_
         have BK230 := n1_
         have BK231 := n2_
         have BK232 := n3_
         have BK234 := n4_
         have HB := n5_
         clear n0_ n1_ n2_ n3_ n4_ n5_
         have n0_ := Zh (S_drew HO_233000.out)
         have n1_ := Zh (Zb BK230.out)
         have n2_ := Zh (Zb BK231.out)
         have n3_ := Zh (Zb BK232.out)
         have n4_ := Zh (Zb BK234.out)
         have n5_ := Zh (Ze HB.out)
         clear HO_233000
         clear BK230
         clear BK231
         clear BK232
         clear BK234
         clear HB
         have HO_233000 := n0_
         have BK230 := n1_
         have BK231 := n2_
         have BK232 := n3_
         have BK234 := n4_
         have HB := n5_
         clear n0_ n1_ n2_ n3_ n4_ n5_
         refine start_ (n := 17) (S := fun w' => w'.cell? ⟨gb232, 0, none⟩ = some (.slice Ao21 x233000_1.length co21) ∧ w'.cell? ⟨gb234, 0, none⟩ = some (.string ((rd_T55 l0_0 x10_1).f0)) ∧ w'.cell? ⟨gb234, 1, none⟩ = some (.slice A233_1 ((rd_T55 l0_0 x10_1).f1).length c233_1) ∧ w'.cell? ⟨gb234, 2, none⟩ = some (.slice A233_2 ((rd_T55 l0_0 x10_1).f2).length c233_2)) (ds := [16]) #[false, false, false, false, false, false, false, false, false, false, false, false, false, false, false, false, false] (by kernel_rfl) rfl rfl ⟨(blk_cell BK232.out 0).trans rfl, (blk_cell BK234.out 0).trans rfl, (blk_cell BK234.out 1).trans rfl, (blk_cell BK234.out 2).trans rfl⟩ (fun hHeld => ?_); refine with_tabW impl_copyDisk.tab5 impl_copyDisk.bits5 (fun HT_ HW_ => ?_)
         generalize w22.drew = w23 at HO_233000 BK230 BK231 BK232 BK234 HB hHeld ⊢
         refine SQ.pu 0 14 HT_ ?_
         refine SQ.pu 2 16 HT_ ?_
         refine SQ.pu 5 19 HT_ ?_
         refine SQ.pu 9 23 HT_ ?_
         refine SQ.tk 1 15 HT_ HW_ hHeld ?_
         refine SQ.tk 3 17 HT_ HW_ hHeld ?_
         refine SQ.tk 6 20 HT_ HW_ hHeld ?_
         refine SQ.tk 10 24 HT_ HW_ hHeld ?_
         refine join_ (σ := Value × Value × Value) 6 #[true, true, true, true, true, true, true, true, true, true, true, false, false, false, false, false, false] (fun s_ => [(18, s_.1), (21, s_.2.1), (22, s_.2.2)]) (fun s_ w' => (w'.cell? ⟨gb232, 0, none⟩ = some (.slice Ao21 x233000_1.length co21) ∧ w'.cell? ⟨gb234, 0, none⟩ = some (.string ((rd_T55 l0_0 x10_1).f0)) ∧ w'.cell? ⟨gb234, 1, none⟩ = some (.slice A233_1 ((rd_T55 l0_0 x10_1).f1).length c233_1) ∧ w'.cell? ⟨gb234, 2, none⟩ = some (.slice A233_2 ((rd_T55 l0_0 x10_1).f2).length c233_2)) ∧ (Kd.R (Kd.int .u8) 5 w' w.heap.size (fun k_ => some k_ ≠ (s_.2.2 : Value).ownBlock) s_.2.1 y238) ∧ (Kd.R (Kd.int .u8) 5 w' w.heap.size (fun k_ => some k_ ≠ (s_.2.1 : Value).ownBlock) s_.2.2 y241) ∧ (Kd.S k55 55 w' w.heap.size (fun k_ => some k_ ≠ (s_.2.1 : Value).ownBlock ∧ some k_ ≠ (s_.2.2 : Value).ownBlock ∧ k_ ≠ gb234) (.slice Ao21 x233000_1.length co21) x233000_1) ∧ (w'.heap[gb230]? = some (.cells #[.slice (some ad233) l0_0.length c0_0] 28 (0, 0))) ∧ (w'.heap[gb231]? = some (.cells #[.slice none 0 0] 28 (0, 0))) ∧ (w'.heap[gb232]? = some (.cells #[.slice Ao21 x233000_1.length co21] 28 (0, 0))) ∧ (w'.heap[gb234]? = some (.cells #[.string ((rd_T55 l0_0 x10_1).f0), .slice A233_1 ((rd_T55 l0_0 x10_1).f1).length c233_1, .slice A233_2 ((rd_T55 l0_0 x10_1).f2).length c233_2] 55 (0, 0))) ∧ (Below w.heap.size w w')) ?_ ?_
         rotate_left
         ·
          intro hCont
          refine two_ (i := 4) (j := 8) (Ni := some 18) (Nj := some 22) #[true, true, true, true, true, true, true, false, false, true, true, false, false, false, false, false, false] #[true, true, true, true, false, true, true, false, true, true, true, false, false, false, false, false, false] rfl rfl rfl rfl (two_of HT_.out (by kernel_rfl)) (by decide) (by decide) (fun K hK => ?_) (fun K hK => ?_)
          ·
           skip
           refine R_lit_step (Kd.int .u8) _ 5 ?hg (N := 18) ?hd (xs := ([] : List Int)) (inner := []) (ok := fun _ => True) (okp := fun _ => True) ?hr ?hp (fun _ hk => hk) trivial (Below.refl _ _) (Nat.le_refl _) (by simp) ?_; (case hd => rfl); (case hg => rfl); (case hr => first | (go_simp; done) | (go_simp; rfl)); (case hp => exact (Reps.none _ _))
           intro v236 w24 ho25 hb hg_ hnew_
           clear hg_ hnew_
           (first | rw [← Ny235.out] at ho25 | (simp only [Int.reduceToNat] at ho25; rw [← Ny235.out] at ho25))
           have n0_ := Zh (S_elder' (by (with_reducible repeat (first | apply S_alloc | apply S_drewN | apply S_drew)); exact HO_233000.out) (R_base ho25) hb)
           have n1_ := Zh (R_lower ho25 (below_size Zs))
           have n2_ := Zh (Zm (g := gb230) (o := .cells #[.slice (some ad233) l0_0.length c0_0] 28 (0, 0)) Zk hb)
           have n3_ := Zh (Zm (g := gb231) (o := .cells #[.slice none 0 0] 28 (0, 0)) Zk hb)
           have n4_ := Zh (Zm (g := gb232) (o := .cells #[.slice Ao21 x233000_1.length co21] 28 (0, 0)) Zk hb)
           have n5_ := Zh (Zm (g := gb234) (o := .cells #[.string ((rd_T55 l0_0 x10_1).f0), .slice A233_1 ((rd_T55 l0_0 x10_1).f1).length c233_1, .slice A233_2 ((rd_T55 l0_0 x10_1).f2).length c233_2] 55 (0, 0)) Zk hb)
           have n6_ := Zh (Zl Zs hb)
           clear HO_233000
           clear BK230
           clear BK231
           clear BK232
           clear BK234
           clear HB
           have HO_233000 := n0_
           have HO237 := n1_
           have BK230 := n2_
           have BK231 := n3_
           have BK232 := n4_
           have BK234 := n5_
           have HB := n6_
           clear n0_ n1_ n2_ n3_ n4_ n5_ n6_
           clear hb ho25
           refine hK.out _ _ ⟨(blk_cell BK232.out 0).trans rfl, (blk_cell BK234.out 0).trans rfl, (blk_cell BK234.out 1).trans rfl, (blk_cell BK234.out 2).trans rfl⟩ (fun hHeld => ?_)
           clear hK K
           refine norm_ (a' := ?_) ?_ ?_
           rotate_left
           ·
            show Act.put _ (some 18) _ = _
            simp only [Act.put, List.setIfInBounds_toArray, List.set_cons_zero, List.set_cons_succ, i64_w, i32_w]
            rfl
           refine two_ (i := 7) (j := 8) (Ni := some 21) (Nj := some 22) #[true, true, true, true, true, true, true, true, false, true, true, false, false, false, false, false, false] #[true, true, true, true, true, true, true, false, true, true, true, false, false, false, false, false, false] rfl rfl rfl rfl (two_of HT_.out (by kernel_rfl)) (by decide) (by decide) (fun K hK => ?_) (fun K hK => ?_)
           ·
            skip
            refine R_append_rows_step (Kd.int .u8) (w0 := w) w.heap.size (by rfl) (.tmp 18) (.tmp 20) 41 5 (.int .u8 0) 1 rfl Tryd.underlying41 info5 rfl (by decide) (by omega) v236 y235 ((rd_T55 l0_0 x10_1).f1) _ _ _ (fun _ => True) (fun _ => False) rfl rfl ?aO ?aR (fun _ _ h => h) (fun _ h => h.elim) ?aF ?aB ?aS ?aL ?_
            (case aR => repeat (first | exact (C_below HR233_1.out HB.out) | (with_reducible refine C_alloc ?_ _) | (with_reducible refine C_drewN ?_ _) | (with_reducible refine C_drew ?_)))
            (case aB => exact Zs)
            (case aF => exact (fun _ _ => trivial))
            (case aO => exact (by (with_reducible repeat (first | apply R_alloc | apply R_drewN | apply R_drew)); exact HO237.out))
            (case aS => exact (below_size Zs))
            (case aL => have := LMc13.out; omega)
            intro v239 w26 ho hb hg hat
            rw [← Ny238.out] at ho
            have n0_ := Zh (S_after (ok := (fun k_ => k_ ≠ gb234)) (by (with_reducible repeat (first | apply S_alloc | apply S_drewN | apply S_drew)); exact HO_233000.out) hg hat)
            have n1_ := Zh (blk_grown (g := gb230) (o := .cells #[.slice (some ad233) l0_0.length c0_0] 28 (0, 0)) Zk hg (R_ne HO237.out BK230.out (by decide)))
            have n2_ := Zh (blk_grown (g := gb231) (o := .cells #[.slice none 0 0] 28 (0, 0)) Zk hg (R_ne HO237.out BK231.out (by decide)))
            have n3_ := Zh (blk_grown (g := gb232) (o := .cells #[.slice Ao21 x233000_1.length co21] 28 (0, 0)) Zk hg (R_ne HO237.out BK232.out (by decide)))
            have n4_ := Zh (blk_grown (g := gb234) (o := .cells #[.string ((rd_T55 l0_0 x10_1).f0), .slice A233_1 ((rd_T55 l0_0 x10_1).f1).length c233_1, .slice A233_2 ((rd_T55 l0_0 x10_1).f2).length c233_2] 55 (0, 0)) Zk hg (R_ne HO237.out BK234.out (by decide)))
            have n5_ := Zh (hb)
            have n6_ := Zh (ho)
            clear HO_233000
            clear BK230
            clear BK231
            clear BK232
            clear BK234
            clear HB
            clear HO237
            have HO_233000 := n0_
            have BK230 := n1_
            have BK231 := n2_
            have BK232 := n3_
            have BK234 := n4_
            have HB := n5_
            have HO240 := n6_
            clear n0_ n1_ n2_ n3_ n4_ n5_ n6_
            clear ho hb hg hat
            refine hK.out _ _ ⟨(blk_cell BK232.out 0).trans rfl, (blk_cell BK234.out 0).trans rfl, (blk_cell BK234.out 1).trans rfl, (blk_cell BK234.out 2).trans rfl⟩ (fun hHeld => ?_)
            clear hK K
            refine norm_ (a' := ?_) ?_ ?_
            rotate_left
            ·
             show Act.put _ (some 21) _ = _
             simp only [Act.put, List.setIfInBounds_toArray, List.set_cons_zero, List.set_cons_succ, i64_w, i32_w]
             rfl
            refine one_ (i := 8) (N := some 22) #[true, true, true, true, true, true, true, true, true, true, true, false, false, false, false, false, false] rfl rfl (one_of HT_.out (by kernel_rfl)) (by decide) (fun K hK => ?_)
            refine R_lit_step (Kd.int .u8) _ 5 ?hg (N := 22) ?hd (xs := ([] : List Int)) (inner := []) (ok := fun _ => True) (okp := fun _ => True) ?hr ?hp (fun _ hk => hk) trivial (Below.refl _ _) (Nat.le_refl _) (by simp) ?_; (case hd => rfl); (case hg => rfl); (case hr => first | (go_simp; done) | (go_simp; rfl)); (case hp => exact (Reps.none _ _))
            intro v242 w27 ho28 hb hg_ hnew_
            clear hg_ hnew_
            (first | rw [← Ny241.out] at ho28 | (simp only [Int.reduceToNat] at ho28; rw [← Ny241.out] at ho28))
            have n0_ := Zh (S_elder' (by (with_reducible repeat (first | apply S_alloc | apply S_drewN | apply S_drew)); exact HO_233000.out) (R_base ho28) hb)
            have n1_ := Zh (R_elder' (by (with_reducible repeat (first | apply R_alloc | apply R_drewN | apply R_drew)); exact HO240.out) (R_base ho28) hb)
            have n2_ := Zh (R_lower (R_new' ho28 (R_lt (by (with_reducible repeat (first | apply R_alloc | apply R_drewN | apply R_drew)); exact HO240.out))) (below_size Zs))
            have n3_ := Zh (Zm (g := gb230) (o := .cells #[.slice (some ad233) l0_0.length c0_0] 28 (0, 0)) Zk hb)
            have n4_ := Zh (Zm (g := gb231) (o := .cells #[.slice none 0 0] 28 (0, 0)) Zk hb)
            have n5_ := Zh (Zm (g := gb232) (o := .cells #[.slice Ao21 x233000_1.length co21] 28 (0, 0)) Zk hb)
            have n6_ := Zh (Zm (g := gb234) (o := .cells #[.string ((rd_T55 l0_0 x10_1).f0), .slice A233_1 ((rd_T55 l0_0 x10_1).f1).length c233_1, .slice A233_2 ((rd_T55 l0_0 x10_1).f2).length c233_2] 55 (0, 0)) Zk hb)
            have n7_ := Zh (Zl Zs hb)
            clear HO_233000
            clear HO240
            clear BK230
            clear BK231
            clear BK232
            clear BK234
            clear HB
            have HO_233000 := n0_
            have HO240 := n1_
            have HO243 := n2_
            have BK230 := n3_
            have BK231 := n4_
            have BK232 := n5_
            have BK234 := n6_
            have HB := n7_
            clear n0_ n1_ n2_ n3_ n4_ n5_ n6_ n7_
            clear hb ho28
            refine hK.out _ _ ⟨(blk_cell BK232.out 0).trans rfl, (blk_cell BK234.out 0).trans rfl, (blk_cell BK234.out 1).trans rfl, (blk_cell BK234.out 2).trans rfl⟩ (fun hHeld => ?_)
            clear hK K
            refine norm_ (a' := ?_) ?_ ?_
            rotate_left
            ·
             show Act.put _ (some 22) _ = _
             simp only [Act.put, List.setIfInBounds_toArray, List.set_cons_zero, List.set_cons_succ, i64_w, i32_w]
             rfl
            exact norm_ (by simp only [putAll, Act.put, List.setIfInBounds_toArray, List.set_cons_zero, List.set_cons_succ]) (hCont (v236, v239, v242) _ ⟨hHeld, (by (with_reducible repeat (first | apply R_alloc | apply R_drewN | apply R_drew)); exact R_mono HO240.out (fun _ hk => hk.2)), (by (with_reducible repeat (first | apply R_alloc | apply R_drewN | apply R_drew)); exact R_mono HO243.out (fun _ hk => hk.2)), (by (with_reducible repeat (first | apply S_alloc | apply S_drewN | apply S_drew)); exact S_mono HO_233000.out (fun _ hk => ⟨hk.1.2, ⟨hk.2, hk.1.1⟩⟩)), Zk, Zk, Zk, Zk, Zs⟩)
           skip
           refine R_lit_step (Kd.int .u8) _ 5 ?hg (N := 22) ?hd (xs := ([] : List Int)) (inner := []) (ok := fun _ => True) (okp := fun _ => True) ?hr ?hp (fun _ hk => hk) trivial (Below.refl _ _) (Nat.le_refl _) (by simp) ?_; (case hd => rfl); (case hg => rfl); (case hr => first | (go_simp; done) | (go_simp; rfl)); (case hp => exact (Reps.none _ _))
           intro v242 w26 ho27 hb hg_ hnew_
           clear hg_ hnew_
           (first | rw [← Ny241.out] at ho27 | (simp only [Int.reduceToNat] at ho27; rw [← Ny241.out] at ho27))
           have n0_ := Zh (S_elder' (by (with_reducible repeat (first | apply S_alloc | apply S_drewN | apply S_drew)); exact HO_233000.out) (R_base ho27) hb)
           have n1_ := Zh (R_elder' (by (with_reducible repeat (first | apply R_alloc | apply R_drewN | apply R_drew)); exact HO237.out) (R_base ho27) hb)
           have n2_ := Zh (R_lower (R_new' ho27 (R_lt (by (with_reducible repeat (first | apply R_alloc | apply R_drewN | apply R_drew)); exact HO237.out))) (below_size Zs))
           have n3_ := Zh (Zm (g := gb230) (o := .cells #[.slice (some ad233) l0_0.length c0_0] 28 (0, 0)) Zk hb)
           have n4_ := Zh (Zm (g := gb231) (o := .cells #[.slice none 0 0] 28 (0, 0)) Zk hb)
           have n5_ := Zh (Zm (g := gb232) (o := .cells #[.slice Ao21 x233000_1.length co21] 28 (0, 0)) Zk hb)
           have n6_ := Zh (Zm (g := gb234) (o := .cells #[.string ((rd_T55 l0_0 x10_1).f0), .slice A233_1 ((rd_T55 l0_0 x10_1).f1).length c233_1, .slice A233_2 ((rd_T55 l0_0 x10_1).f2).length c233_2] 55 (0, 0)) Zk hb)
           have n7_ := Zh (Zl Zs hb)
           clear HO_233000
           clear HO237
           clear BK230
           clear BK231
           clear BK232
           clear BK234
           clear HB
           have HO_233000 := n0_
           have HO237 := n1_
           have HO243 := n2_
           have BK230 := n3_
           have BK231 := n4_
           have BK232 := n5_
           have BK234 := n6_
           have HB := n7_
           clear n0_ n1_ n2_ n3_ n4_ n5_ n6_ n7_
           clear hb ho27
           refine hK.out _ _ ⟨(blk_cell BK232.out 0).trans rfl, (blk_cell BK234.out 0).trans rfl, (blk_cell BK234.out 1).trans rfl, (blk_cell BK234.out 2).trans rfl⟩ (fun hHeld => ?_)
           clear hK K
           refine norm_ (a' := ?_) ?_ ?_
           rotate_left
           ·
            show Act.put _ (some 22) _ = _
            simp only [Act.put, List.setIfInBounds_toArray, List.set_cons_zero, List.set_cons_succ, i64_w, i32_w]
            rfl
           refine one_ (i := 7) (N := some 21) #[true, true, true, true, true, true, true, true, true, true, true, false, false, false, false, false, false] rfl rfl (one_of HT_.out (by kernel_rfl)) (by decide) (fun K hK => ?_)
           refine R_append_rows_step (Kd.int .u8) (w0 := w) w.heap.size (by rfl) (.tmp 18) (.tmp 20) 41 5 (.int .u8 0) 1 rfl Tryd.underlying41 info5 rfl (by decide) (by omega) v236 y235 ((rd_T55 l0_0 x10_1).f1) _ _ _ (fun k_ => some k_ ≠ (v242 : Value).ownBlock) (fun _ => False) rfl rfl ?aO ?aR (fun _ _ h => h) (fun _ h => h.elim) ?aF ?aB ?aS ?aL ?_
           (case aR => repeat (first | exact (C_below HR233_1.out HB.out) | (with_reducible refine C_alloc ?_ _) | (with_reducible refine C_drewN ?_ _) | (with_reducible refine C_drew ?_)))
           (case aB => exact Zs)
           (case aF => exact (fun k_ hk => Kd.fresh' (R_lt (by (with_reducible repeat (first | apply R_alloc | apply R_drewN | apply R_drew)); exact HO243.out)) k_ hk))
           (case aO => exact (by (with_reducible repeat (first | apply R_alloc | apply R_drewN | apply R_drew)); exact R_mono HO237.out (fun _ hk => hk.2)))
           (case aS => exact (below_size Zs))
           (case aL => have := LMc13.out; omega)
           intro v239 w28 ho hb hg hat
           rw [← Ny238.out] at ho
           have n0_ := Zh (S_after (ok := (fun k_ => some k_ ≠ (v242 : Value).ownBlock ∧ k_ ≠ gb234)) (by (with_reducible repeat (first | apply S_alloc | apply S_drewN | apply S_drew)); exact S_mono HO_233000.out (fun _ hk => ⟨⟨hk.2, hk.1.1⟩, hk.1.2⟩)) hg hat)
           have n1_ := Zh (blk_grown (g := gb230) (o := .cells #[.slice (some ad233) l0_0.length c0_0] 28 (0, 0)) Zk hg (R_ne HO237.out BK230.out (by decide)))
           have n2_ := Zh (blk_grown (g := gb231) (o := .cells #[.slice none 0 0] 28 (0, 0)) Zk hg (R_ne HO237.out BK231.out (by decide)))
           have n3_ := Zh (blk_grown (g := gb232) (o := .cells #[.slice Ao21 x233000_1.length co21] 28 (0, 0)) Zk hg (R_ne HO237.out BK232.out (by decide)))
           have n4_ := Zh (blk_grown (g := gb234) (o := .cells #[.string ((rd_T55 l0_0 x10_1).f0), .slice A233_1 ((rd_T55 l0_0 x10_1).f1).length c233_1, .slice A233_2 ((rd_T55 l0_0 x10_1).f2).length c233_2] 55 (0, 0)) Zk hg (R_ne HO237.out BK234.out (by decide)))
           have n5_ := Zh (R_after (ok := (fun _ => True)) (by (with_reducible repeat (first | apply R_alloc | apply R_drewN | apply R_drew)); exact HO243.out) hg hat)
           have n6_ := Zh (hb)
           have n7_ := Zh (ho)
           clear HO_233000
           clear BK230
           clear BK231
           clear BK232
           clear BK234
           clear HO243
           clear HB
           clear HO237
           have HO_233000 := n0_
           have BK230 := n1_
           have BK231 := n2_
           have BK232 := n3_
           have BK234 := n4_
           have HO243 := n5_
           have HB := n6_
           have HO240 := n7_
           clear n0_ n1_ n2_ n3_ n4_ n5_ n6_ n7_
           clear ho hb hg hat
           refine hK.out _ _ ⟨(blk_cell BK232.out 0).trans rfl, (blk_cell BK234.out 0).trans rfl, (blk_cell BK234.out 1).trans rfl, (blk_cell BK234.out 2).trans rfl⟩ (fun hHeld => ?_)
           clear hK K
           refine norm_ (a' := ?_) ?_ ?_
           rotate_left
           ·
            show Act.put _ (some 21) _ = _
            simp only [Act.put, List.setIfInBounds_toArray, List.set_cons_zero, List.set_cons_succ, i64_w, i32_w]
            rfl
           exact norm_ (by simp only [putAll, Act.put, List.setIfInBounds_toArray, List.set_cons_zero, List.set_cons_succ]) (hCont (v236, v239, v242) _ ⟨hHeld, (by (with_reducible repeat (first | apply R_alloc | apply R_drewN | apply R_drew)); exact HO240.out), (by (with_reducible repeat (first | apply R_alloc | apply R_drewN | apply R_drew)); exact R_mono HO243.out (fun _ hk => hk.2)), (by (with_reducible repeat (first | apply S_alloc | apply S_drewN | apply S_drew)); exact S_mono HO_233000.out (fun _ hk => ⟨hk.2, ⟨hk.1.1, hk.1.2⟩⟩)), Zk, Zk, Zk, Zk, Zs⟩)
          skip
          refine R_lit_step (Kd.int .u8) _ 5 ?hg (N := 22) ?hd (xs := ([] : List Int)) (inner := []) (ok := fun _ => True) (okp := fun _ => True) ?hr ?hp (fun _ hk => hk) trivial (Below.refl _ _) (Nat.le_refl _) (by simp) ?_; (case hd => rfl); (case hg => rfl); (case hr => first | (go_simp; done) | (go_simp; rfl)); (case hp => exact (Reps.none _ _))
          intro v242 w24 ho25 hb hg_ hnew_
          clear hg_ hnew_
          (first | rw [← Ny241.out] at ho25 | (simp only [Int.reduceToNat] at ho25; rw [← Ny241.out] at ho25))
          have n0_ := Zh (S_elder' (by (with_reducible repeat (first | apply S_alloc | apply S_drewN | apply S_drew)); exact HO_233000.out) (R_base ho25) hb)
          have n1_ := Zh (R_lower ho25 (below_size Zs))
          have n2_ := Zh (Zm (g := gb230) (o := .cells #[.slice (some ad233) l0_0.length c0_0] 28 (0, 0)) Zk hb)
          have n3_ := Zh (Zm (g := gb231) (o := .cells #[.slice none 0 0] 28 (0, 0)) Zk hb)
          have n4_ := Zh (Zm (g := gb232) (o := .cells #[.slice Ao21 x233000_1.length co21] 28 (0, 0)) Zk hb)
          have n5_ := Zh (Zm (g := gb234) (o := .cells #[.string ((rd_T55 l0_0 x10_1).f0), .slice A233_1 ((rd_T55 l0_0 x10_1).f1).length c233_1, .slice A233_2 ((rd_T55 l0_0 x10_1).f2).length c233_2] 55 (0, 0)) Zk hb)
          have n6_ := Zh (Zl Zs hb)
          clear HO_233000
          clear BK230
          clear BK231
          clear BK232
          clear BK234
          clear HB
          have HO_233000 := n0_
          have HO243 := n1_
          have BK230 := n2_
          have BK231 := n3_
          have BK232 := n4_
          have BK234 := n5_
          have HB := n6_
          clear n0_ n1_ n2_ n3_ n4_ n5_ n6_
          clear hb ho25
          refine hK.out _ _ ⟨(blk_cell BK232.out 0).trans rfl, (blk_cell BK234.out 0).trans rfl, (blk_cell BK234.out 1).trans rfl, (blk_cell BK234.out 2).trans rfl⟩ (fun hHeld => ?_)
          clear hK K
          refine norm_ (a' := ?_) ?_ ?_
          rotate_left
          ·
           show Act.put _ (some 22) _ = _
           simp only [Act.put, List.setIfInBounds_toArray, List.set_cons_zero, List.set_cons_succ, i64_w, i32_w]
           rfl
          refine one_ (i := 4) (N := some 18) #[true, true, true, true, true, true, true, false, true, true, true, false, false, false, false, false, false] rfl rfl (one_of HT_.out (by kernel_rfl)) (by decide) (fun K hK => ?_)
          refine R_lit_step (Kd.int .u8) _ 5 ?hg (N := 18) ?hd (xs := ([] : List Int)) (inner := []) (ok := fun _ => True) (okp := fun _ => True) ?hr ?hp (fun _ hk => hk) trivial (Below.refl _ _) (Nat.le_refl _) (by simp) ?_; (case hd => rfl); (case hg => rfl); (case hr => first | (go_simp; done) | (go_simp; rfl)); (case hp => exact (Reps.none _ _))
          intro v236 w26 ho27 hb hg_ hnew_
          clear hg_ hnew_
          (first | rw [← Ny235.out] at ho27 | (simp only [Int.reduceToNat] at ho27; rw [← Ny235.out] at ho27))
          have n0_ := Zh (S_elder' (by (with_reducible repeat (first | apply S_alloc | apply S_drewN | apply S_drew)); exact HO_233000.out) (R_base ho27) hb)
          have n1_ := Zh (R_elder' (by (with_reducible repeat (first | apply R_alloc | apply R_drewN | apply R_drew)); exact HO243.out) (R_base ho27) hb)
          have n2_ := Zh (R_lower (R_new' ho27 (R_lt (by (with_reducible repeat (first | apply R_alloc | apply R_drewN | apply R_drew)); exact HO243.out))) (below_size Zs))
          have n3_ := Zh (Zm (g := gb230) (o := .cells #[.slice (some ad233) l0_0.length c0_0] 28 (0, 0)) Zk hb)
          have n4_ := Zh (Zm (g := gb231) (o := .cells #[.slice none 0 0] 28 (0, 0)) Zk hb)
          have n5_ := Zh (Zm (g := gb232) (o := .cells #[.slice Ao21 x233000_1.length co21] 28 (0, 0)) Zk hb)
          have n6_ := Zh (Zm (g := gb234) (o := .cells #[.string ((rd_T55 l0_0 x10_1).f0), .slice A233_1 ((rd_T55 l0_0 x10_1).f1).length c233_1, .slice A233_2 ((rd_T55 l0_0 x10_1).f2).length c233_2] 55 (0, 0)) Zk hb)
          have n7_ := Zh (Zl Zs hb)
          clear HO_233000
          clear HO243
          clear BK230
          clear BK231
          clear BK232
          clear BK234
          clear HB
          have HO_233000 := n0_
          have HO243 := n1_
          have HO237 := n2_
          have BK230 := n3_
          have BK231 := n4_
          have BK232 := n5_
          have BK234 := n6_
          have HB := n7_
          clear n0_ n1_ n2_ n3_ n4_ n5_ n6_ n7_
          clear hb ho27
          refine hK.out _ _ ⟨(blk_cell BK232.out 0).trans rfl, (blk_cell BK234.out 0).trans rfl, (blk_cell BK234.out 1).trans rfl, (blk_cell BK234.out 2).trans rfl⟩ (fun hHeld => ?_)
          clear hK K
          refine norm_ (a' := ?_) ?_ ?_
          rotate_left
          ·
           show Act.put _ (some 18) _ = _
           simp only [Act.put, List.setIfInBounds_toArray, List.set_cons_zero, List.set_cons_succ, i64_w, i32_w]
           rfl
          refine one_ (i := 7) (N := some 21) #[true, true, true, true, true, true, true, true, true, true, true, false, false, false, false, false, false] rfl rfl (one_of HT_.out (by kernel_rfl)) (by decide) (fun K hK => ?_)
          refine R_append_rows_step (Kd.int .u8) (w0 := w) w.heap.size (by rfl) (.tmp 18) (.tmp 20) 41 5 (.int .u8 0) 1 rfl Tryd.underlying41 info5 rfl (by decide) (by omega) v236 y235 ((rd_T55 l0_0 x10_1).f1) _ _ _ (fun k_ => some k_ ≠ (v242 : Value).ownBlock) (fun _ => False) rfl rfl ?aO ?aR (fun _ _ h => h) (fun _ h => h.elim) ?aF ?aB ?aS ?aL ?_
          (case aR => repeat (first | exact (C_below HR233_1.out HB.out) | (with_reducible refine C_alloc ?_ _) | (with_reducible refine C_drewN ?_ _) | (with_reducible refine C_drew ?_)))
          (case aB => exact Zs)
          (case aF => exact (fun k_ hk => Kd.fresh' (R_lt (by (with_reducible repeat (first | apply R_alloc | apply R_drewN | apply R_drew)); exact HO243.out)) k_ hk))
          (case aO => exact (by (with_reducible repeat (first | apply R_alloc | apply R_drewN | apply R_drew)); exact R_mono HO237.out (fun _ hk => hk.2)))
          (case aS => exact (below_size Zs))
          (case aL => have := LMc13.out; omega)
          intro v239 w28 ho hb hg hat
          rw [← Ny238.out] at ho
          have n0_ := Zh (S_after (ok := (fun k_ => some k_ ≠ (v242 : Value).ownBlock ∧ k_ ≠ gb234)) (by (with_reducible repeat (first | apply S_alloc | apply S_drewN | apply S_drew)); exact S_mono HO_233000.out (fun _ hk => ⟨⟨hk.1.2, hk.1.1⟩, hk.2⟩)) hg hat)
          have n1_ := Zh (blk_grown (g := gb230) (o := .cells #[.slice (some ad233) l0_0.length c0_0] 28 (0, 0)) Zk hg (R_ne HO237.out BK230.out (by decide)))
          have n2_ := Zh (blk_grown (g := gb231) (o := .cells #[.slice none 0 0] 28 (0, 0)) Zk hg (R_ne HO237.out BK231.out (by decide)))
          have n3_ := Zh (blk_grown (g := gb232) (o := .cells #[.slice Ao21 x233000_1.length co21] 28 (0, 0)) Zk hg (R_ne HO237.out BK232.out (by decide)))
          have n4_ := Zh (blk_grown (g := gb234) (o := .cells #[.string ((rd_T55 l0_0 x10_1).f0), .slice A233_1 ((rd_T55 l0_0 x10_1).f1).length c233_1, .slice A233_2 ((rd_T55 l0_0 x10_1).f2).length c233_2] 55 (0, 0)) Zk hg (R_ne HO237.out BK234.out (by decide)))
          have n5_ := Zh (R_after (ok := (fun _ => True)) (by (with_reducible repeat (first | apply R_alloc | apply R_drewN | apply R_drew)); exact HO243.out) hg hat)
          have n6_ := Zh (hb)
          have n7_ := Zh (ho)
          clear HO_233000
          clear BK230
          clear BK231
          clear BK232
          clear BK234
          clear HO243
          clear HB
          clear HO237
          have HO_233000 := n0_
          have BK230 := n1_
          have BK231 := n2_
          have BK232 := n3_
          have BK234 := n4_
          have HO243 := n5_
          have HB := n6_
          have HO240 := n7_
          clear n0_ n1_ n2_ n3_ n4_ n5_ n6_ n7_
          clear ho hb hg hat
          refine hK.out _ _ ⟨(blk_cell BK232.out 0).trans rfl, (blk_cell BK234.out 0).trans rfl, (blk_cell BK234.out 1).trans rfl, (blk_cell BK234.out 2).trans rfl⟩ (fun hHeld => ?_)
          clear hK K
          refine norm_ (a' := ?_) ?_ ?_
          rotate_left
          ·
           show Act.put _ (some 21) _ = _
           simp only [Act.put, List.setIfInBounds_toArray, List.set_cons_zero, List.set_cons_succ, i64_w, i32_w]
           rfl
          exact norm_ (by simp only [putAll, Act.put, List.setIfInBounds_toArray, List.set_cons_zero, List.set_cons_succ]) (hCont (v236, v239, v242) _ ⟨hHeld, (by (with_reducible repeat (first | apply R_alloc | apply R_drewN | apply R_drew)); exact HO240.out), (by (with_reducible repeat (first | apply R_alloc | apply R_drewN | apply R_drew)); exact R_mono HO243.out (fun _ hk => hk.2)), (by (with_reducible repeat (first | apply S_alloc | apply S_drewN | apply S_drew)); exact S_mono HO_233000.out (fun _ hk => ⟨hk.2, ⟨hk.1.1, hk.1.2⟩⟩)), Zk, Zk, Zk, Zk, Zs⟩)
         rintro ⟨v236, v239, v242⟩ w29 ⟨hS_, h0_, h1_, h2_, h3_, h4_, h5_, h6_, h7_⟩
         have n0_ : Aside0 (Kd.R (Kd.int .u8) 5 w29 w.heap.size (fun k_ => some k_ ≠ (v242 : Value).ownBlock) v239 y238) := ⟨h0_⟩
         have n1_ : Aside0 (Kd.R (Kd.int .u8) 5 w29 w.heap.size (fun k_ => some k_ ≠ (v239 : Value).ownBlock) v242 y241) := ⟨h1_⟩
         have n2_ : Aside0 (Kd.S k55 55 w29 w.heap.size (fun k_ => some k_ ≠ (v239 : Value).ownBlock ∧ some k_ ≠ (v242 : Value).ownBlock ∧ k_ ≠ gb234) (.slice Ao21 x233000_1.length co21) x233000_1) := ⟨h2_⟩
         have n3_ : Aside0 (w29.heap[gb230]? = some (.cells #[.slice (some ad233) l0_0.length c0_0] 28 (0, 0))) := ⟨h3_⟩
         have n4_ : Aside0 (w29.heap[gb231]? = some (.cells #[.slice none 0 0] 28 (0, 0))) := ⟨h4_⟩
         have n5_ : Aside0 (w29.heap[gb232]? = some (.cells #[.slice Ao21 x233000_1.length co21] 28 (0, 0))) := ⟨h5_⟩
         have n6_ : Aside0 (w29.heap[gb234]? = some (.cells #[.string ((rd_T55 l0_0 x10_1).f0), .slice A233_1 ((rd_T55 l0_0 x10_1).f1).length c233_1, .slice A233_2 ((rd_T55 l0_0 x10_1).f2).length c233_2] 55 (0, 0))) := ⟨h6_⟩
         have n7_ : Aside0 (Below w.heap.size w w29) := ⟨h7_⟩
         clear HO_233000
         clear BK230
         clear BK231
         clear BK232
         clear BK234
         clear HB
         clear h0_ h1_ h2_ h3_ h4_ h5_ h6_ h7_
         have HO240 := n0_
         have HO243 := n1_
         have HO_233000 := n2_
         have BK230 := n3_
         have BK231 := n4_
         have BK232 := n5_
         have BK234 := n6_
         have HB := n7_
         clear n0_ n1_ n2_ n3_ n4_ n5_ n6_ n7_
         have hHeld : w29.cell? ⟨gb232, 0, none⟩ = some (.slice Ao21 x233000_1.length co21) ∧ w29.cell? ⟨gb234, 0, none⟩ = some (.string ((rd_T55 l0_0 x10_1).f0)) ∧ w29.cell? ⟨gb234, 1, none⟩ = some (.slice A233_1 ((rd_T55 l0_0 x10_1).f1).length c233_1) ∧ w29.cell? ⟨gb234, 2, none⟩ = some (.slice A233_2 ((rd_T55 l0_0 x10_1).f2).length c233_2) := hS_
         refine norm_ (a' := ?_) ?_ ?_
         rotate_left
         ·
          simp only [putAll, Act.put, List.setIfInBounds_toArray, List.set_cons_zero, List.set_cons_succ]
          rfl
         refine one_ (i := 11) (N := some 25) #[true, true, true, true, true, true, true, true, true, true, true, true, false, false, false, false, false] rfl rfl (one_of HT_.out (by kernel_rfl)) (by decide) (fun K hK => ?_)
         refine R_append_rows_step (Kd.int .u8) (w0 := w) w.heap.size (by rfl) (.tmp 22) (.tmp 24) 41 5 (.int .u8 0) 1 rfl Tryd.underlying41 info5 rfl (by decide) (by omega) v242 y241 ((rd_T55 l0_0 x10_1).f2) _ _ _ (fun k_ => some k_ ≠ (v239 : Value).ownBlock) (fun _ => False) rfl rfl ?aO ?aR (fun _ _ h => h) (fun _ h => h.elim) ?aF ?aB ?aS ?aL ?_
         (case aR => repeat (first | exact (C_below HR233_2.out HB.out) | (with_reducible refine C_alloc ?_ _) | (with_reducible refine C_drewN ?_ _) | (with_reducible refine C_drew ?_)))
         (case aB => exact Zs)
         (case aF => exact (fun k_ hk => Kd.fresh' (R_lt (by (with_reducible repeat (first | apply R_alloc | apply R_drewN | apply R_drew)); exact HO240.out)) k_ hk))
         (case aO => exact (by (with_reducible repeat (first | apply R_alloc | apply R_drewN | apply R_drew)); exact HO243.out))
         (case aS => exact (below_size Zs))
         (case aL => have := LMc14.out; omega)
         intro v245 w30 ho hb hg hat
         rw [← Ny244.out] at ho
         have n0_ := Zh (S_after (ok := (fun k_ => some k_ ≠ (v239 : Value).ownBlock ∧ k_ ≠ gb234)) (by (with_reducible repeat (first | apply S_alloc | apply S_drewN | apply S_drew)); exact S_mono HO_233000.out (fun _ hk => ⟨⟨hk.1, hk.2.2⟩, hk.2.1⟩)) hg hat)
         have n1_ := Zh (blk_grown (g := gb230) (o := .cells #[.slice (some ad233) l0_0.length c0_0] 28 (0, 0)) Zk hg (R_ne HO243.out BK230.out (by decide)))
         have n2_ := Zh (blk_grown (g := gb231) (o := .cells #[.slice none 0 0] 28 (0, 0)) Zk hg (R_ne HO243.out BK231.out (by decide)))
         have n3_ := Zh (blk_grown (g := gb232) (o := .cells #[.slice Ao21 x233000_1.length co21] 28 (0, 0)) Zk hg (R_ne HO243.out BK232.out (by decide)))
         have n4_ := Zh (blk_grown (g := gb234) (o := .cells #[.string ((rd_T55 l0_0 x10_1).f0), .slice A233_1 ((rd_T55 l0_0 x10_1).f1).length c233_1, .slice A233_2 ((rd_T55 l0_0 x10_1).f2).length c233_2] 55 (0, 0)) Zk hg (R_ne HO243.out BK234.out (by decide)))
         have n5_ := Zh (R_after (ok := (fun _ => True)) (by (with_reducible repeat (first | apply R_alloc | apply R_drewN | apply R_drew)); exact R_mono HO240.out (fun _ hk => ⟨trivial, hk⟩)) hg hat)
         have n6_ := Zh (hb)
         have n7_ := Zh (ho)
         clear HO_233000
         clear BK230
         clear BK231
         clear BK232
         clear BK234
         clear HO240
         clear HB
         clear HO243
         have HO_233000 := n0_
         have BK230 := n1_
         have BK231 := n2_
         have BK232 := n3_
         have BK234 := n4_
         have HO240 := n5_
         have HB := n6_
         have HO246 := n7_
         clear n0_ n1_ n2_ n3_ n4_ n5_ n6_ n7_
         clear ho hb hg hat
         obtain ⟨Ao31, co31, eo31⟩ := R_slice HO246.out
         (first | subst eo31 | (injection eo31 with f1_ f2_ f3_; have f4_ := f1_.symm; have f5_ := f3_.symm; clear f1_ f2_ f3_; subst f4_; subst f5_))
         obtain ⟨Ao32, co32, eo32⟩ := R_slice HO240.out
         (first | subst eo32 | (injection eo32 with f1_ f2_ f3_; have f4_ := f1_.symm; have f5_ := f3_.symm; clear f1_ f2_ f3_; subst f4_; subst f5_))
         refine hK.out _ _ ⟨(blk_cell BK232.out 0).trans rfl, (blk_cell BK234.out 0).trans rfl, (blk_cell BK234.out 1).trans rfl, (blk_cell BK234.out 2).trans rfl⟩ (fun hHeld => ?_)
         clear hK K
         refine norm_ (a' := ?_) ?_ ?_
         rotate_left
         ·
          show Act.put _ (some 25) _ = _
          simp only [Act.put, List.setIfInBounds_toArray, List.set_cons_zero, List.set_cons_succ, i64_w, i32_w]
          rfl
         refine SQ.pu 12 26 HT_ ?_
         refine one_ (i := 13) (N := some 27) #[true, true, true, true, true, true, true, true, true, true, true, true, true, true, false, false, false] rfl rfl (one_of HT_.out (by kernel_rfl)) (by decide) (fun K hK => ?_)
         refine value_ (w1 := ?_) (v := ?_) (by rfl) rfl ?_ ?_
         rotate_left 2
         ·
          go_simp
          constructor
          ·
           rfl
          rfl
         refine hK.out _ _ ⟨(blk_cell (blk_alloc BK232.out _) 0).trans rfl, (blk_cell (blk_alloc BK234.out _) 0).trans rfl, (blk_cell (blk_alloc BK234.out _) 1).trans rfl, (blk_cell (blk_alloc BK234.out _) 2).trans rfl⟩ (fun hHeld => ?_)
         clear hK K
         refine norm_ (a' := ?_) ?_ ?_
         rotate_left
         ·
          show Act.put _ (some 27) _ = _
          simp only [Act.put, List.setIfInBounds_toArray, List.set_cons_zero, List.set_cons_succ, i64_w, i32_w]
          rfl
         refine one_ (i := 14) (N := some 28) #[true, true, true, true, true, true, true, true, true, true, true, true, true, true, true, false, false] rfl rfl (one_of HT_.out (by kernel_rfl)) (by decide) (fun K hK => ?_)
         refine S_append_step k55 (w0 := w) w.heap.size (by rfl) (.tmp 15) (.tmp 27) 26 55 (.agg #[(.string ⟨#[]⟩), (.slice none 0 0), (.slice none 0 0)]) 64 rfl Tryd.underlying26 info55 rfl (by decide) (by omega) (.slice Ao21 x233000_1.length co21) x233000_1 (⟨(rd_T55 l0_0 x10_1).f0, y238, y244⟩ : S55) [.string ((rd_T55 l0_0 x10_1).f0), .slice Ao32 y238.length co32, .slice Ao31 y244.length co31] (fun k_ => k_ ≠ gb234) (fun k_ => some k_ = (.slice Ao32 y238.length co32 : Value).ownBlock ∨ some k_ = (.slice Ao31 y244.length co31 : Value).ownBlock) rfl rfl ?aP (fun k_ hk_ => hk_.elim (fun h_ => ((R_mono (ok' := fun k_ => ((fun k_ => k_ ≠ gb234)) k_ ∧ some k_ ≠ (.slice Ao21 x233000_1.length co21 : Value).ownBlock) (R_types (R_apart' (HO240.out) (S_typed HO_233000.out) (by decide)) BK234.out (by decide)) (fun k_ hk => ⟨hk.2, hk.1.2⟩))).1 k_ h_.symm) (fun h_ => ((R_mono (ok' := fun k_ => ((fun k_ => k_ ≠ gb234)) k_ ∧ some k_ ≠ (.slice Ao21 x233000_1.length co21 : Value).ownBlock) (R_types (R_apart' (HO246.out) (S_typed HO_233000.out) (by decide)) BK234.out (by decide)) (fun k_ hk => ⟨hk.2, hk.1.2⟩))).1 k_ h_.symm)) ?aF ?aO ?aB ?aS ?aL ?_
         (case aP => exact k55_mkM _ _ _ (⟨(rd_T55 l0_0 x10_1).f0, y238, y244⟩ : S55) (R_mono (R_tight rfl (R_mono (ok' := fun k_ => ((fun k_ => k_ ≠ gb234)) k_ ∧ some k_ ≠ (.slice Ao21 x233000_1.length co21 : Value).ownBlock) (R_types (R_apart' (HO240.out) (S_typed HO_233000.out) (by decide)) BK234.out (by decide)) (fun k_ hk => ⟨hk.2, hk.1.2⟩))) (fun _ h_ => Or.inl h_)) (R_mono (R_tight rfl (R_mono (ok' := fun k_ => ((fun k_ => k_ ≠ gb234)) k_ ∧ some k_ ≠ (.slice Ao21 x233000_1.length co21 : Value).ownBlock) (R_types (R_apart' (HO246.out) (S_typed HO_233000.out) (by decide)) BK234.out (by decide)) (fun k_ hk => ⟨hk.2, hk.1.2⟩))) (fun _ h_ => Or.inr (h_))) (AP.ne_of (HO240.out) (HO246.out) (by first | exact .inl (fun k_ hk_ => by first | exact hk_ | exact hk_.1 | exact hk_.2 | exact hk_.1.1 | exact hk_.1.2 | exact hk_.2.1 | exact hk_.2.2) | exact .inr (fun k_ hk_ => by first | exact hk_ | exact hk_.1 | exact hk_.2 | exact hk_.1.1 | exact hk_.1.2 | exact hk_.2.1 | exact hk_.2.2))))
         (case aB => exact Zs)
         (case aF => exact (fun k_ hk => Kd.freshB (g := gb234) (o := .cells #[.string ((rd_T55 l0_0 x10_1).f0), .slice A233_1 ((rd_T55 l0_0 x10_1).f1).length c233_1, .slice A233_2 ((rd_T55 l0_0 x10_1).f2).length c233_2] 55 (0, 0)) Zk k_ hk))
         (case aO => exact (by (with_reducible repeat (first | apply S_alloc | apply S_drewN | apply S_drew)); exact S_mono HO_233000.out (fun k_ hk => ⟨hk.1.2, fun e_ => e_.elim (fun h_ => hk.1.1 h_) (fun h_ => hk.2 h_)⟩)))
         (case aS => exact (below_size Zs))
         (case aL => have := LMc15.out; omega)
         intro v248 w33 ho hb hg hat
         rw [← Ny247.out] at ho
         have n0_ := Zh (blk_grown (g := gb230) (o := .cells #[.slice (some ad233) l0_0.length c0_0] 28 (0, 0)) Zk hg (S_ne HO_233000.out BK230.out (by decide)))
         have n1_ := Zh (blk_grown (g := gb231) (o := .cells #[.slice none 0 0] 28 (0, 0)) Zk hg (S_ne HO_233000.out BK231.out (by decide)))
         have n2_ := Zh (blk_grown (g := gb232) (o := .cells #[.slice Ao21 x233000_1.length co21] 28 (0, 0)) Zk hg (S_ne HO_233000.out BK232.out (by decide)))
         have n3_ := Zh (blk_grown (g := gb234) (o := .cells #[.string ((rd_T55 l0_0 x10_1).f0), .slice A233_1 ((rd_T55 l0_0 x10_1).f1).length c233_1, .slice A233_2 ((rd_T55 l0_0 x10_1).f2).length c233_2] 55 (0, 0)) Zk hg (S_away HO_233000.out (fun _ hk => hk.1.2)))
         have n4_ := Zh (hb)
         have n5_ := Zh (ho)
         clear BK230
         clear BK231
         clear BK232
         clear BK234
         clear HB
         clear HO_233000
         clear HO240
         clear HO246
         have BK230 := n0_
         have BK231 := n1_
         have BK232 := n2_
         have BK234 := n3_
         have HB := n4_
         have HO249 := n5_
         clear n0_ n1_ n2_ n3_ n4_ n5_
         clear ho hb hg hat
         obtain ⟨Ao34, co34, eo34⟩ := S_slice HO249.out
         (first | subst eo34 | (injection eo34 with f1_ f2_ f3_; have f4_ := f1_.symm; have f5_ := f3_.symm; clear f1_ f2_ f3_; subst f4_; subst f5_))
         refine hK.out _ _ ⟨(blk_cell BK232.out 0).trans rfl, (blk_cell BK234.out 0).trans rfl, (blk_cell BK234.out 1).trans rfl, (blk_cell BK234.out 2).trans rfl⟩ (fun hHeld => ?_)
         clear hK K
         refine norm_ (a' := ?_) ?_ ?_
         rotate_left
         ·
          show Act.put _ (some 28) _ = _
          simp only [Act.put, List.setIfInBounds_toArray, List.set_cons_zero, List.set_cons_succ, i64_w, i32_w]
          rfl
         refine SQ.pu 15 29 HT_ ?_
         refine last_ (i := 16) (N := none) #[true, true, true, true, true, true, true, true, true, true, true, true, true, true, true, true, true] rfl rfl (one_of HT_.out (by kernel_rfl)) (by decide) (fun K hK => ?_)
         have hs35 : w33.cell? ⟨gb232, 0, none⟩ = some (.slice Ao21 x233000_1.length co21) := (blk_cell BK232.out 0).trans rfl
         have hfs35 := Zn BK232.out 0
         have hns35_0 := NB230_232.out
         have hns35_1 := NB231_232.out
         have hns35_3 := NB234_232.out
         have hms35_0 := NB232_230.out
         have hms35_1 := NB232_231.out
         have hms35_3 := NB232_234.out
         refine skip_ (w1 := ?_) (by rfl) rfl ?_ ?_
         rotate_left
         ·
          go_simp
          rfl
         refine hK.out _ _ ?_
         clear hK K
         refine done_ (done_of HT_.out (by kernel_rfl)) ?_
         try go_wp2
         go_roundg k1
         case measure => have := HK1.out; omega
         case rel => exact ⟨(wrap64 (x10_1 + 1)), (y247), (.slice Ao34 y247.length co34), (by first | rfl | (simp; done) | (simp [*]; done)), H', ⟨by have := HK1.out; omega⟩, ⟨by (with_reducible repeat (first | apply S_alloc | apply S_drewN | apply S_drew)); exact S_mono (S_far (p := ⟨gb232, 0, none⟩) (S_types HO249.out BK232.out (by decide)) (fun _ hk => hk.2) (.slice Ao34 y247.length co34)) (fun _ hk => trivial)⟩, ⟨by (with_reducible repeat (first | refine Za ?_ _ | refine Zb ?_ | refine blk_alloc ?_ _)); refine Zp ?_ NB230_232.out _; (with_reducible repeat (first | refine Za ?_ _ | refine Zb ?_ | refine blk_alloc ?_ _)); exact BK230.out⟩, ⟨by (with_reducible repeat (first | refine Za ?_ _ | refine Zb ?_ | refine blk_alloc ?_ _)); refine Zp ?_ NB231_232.out _; (with_reducible repeat (first | refine Za ?_ _ | refine Zb ?_ | refine blk_alloc ?_ _)); exact BK231.out⟩, ⟨by (with_reducible repeat (first | refine Za ?_ _ | refine Zb ?_ | refine blk_alloc ?_ _)); refine blk_put (cs := #[.slice Ao21 x233000_1.length co21]) ?_ 0 _ rfl; (with_reducible repeat (first | refine Za ?_ _ | refine Zb ?_ | refine blk_alloc ?_ _)); exact BK232.out⟩, ⟨by repeat (first | (with_reducible first | exact HB.out | apply Zf | apply Zd | apply Ze | refine Zg ?_ GE230.out | refine Zg ?_ GE231.out | refine Zg ?_ GE232.out | refine Zg ?_ GE234.out) | exact HB.out)⟩⟩
        rw [if_neg c15] at H
        exact absurd H (by simp)
       rw [if_neg c14] at H
       exact absurd H (by simp)
      rw [if_neg c13] at H
      exact absurd H (by simp)
     rw [if_neg c12] at H
     exact absurd H (by simp)
    rw [if_neg c11] at H
    exact absurd H (by simp)
   rw [if_neg c10] at H
   have c10b0 : decide (x10_1 < (l0_0.length : Int)) = false := decide_eq_false c10
   clear c10
   obtain rfl := Option.some.inj H
   have hnb36 := NB232_230.out
   have hnc36 := NB230_232.out
   have hnb37 := NB232_231.out
   have hnc37 := NB231_232.out
   have hcz38_0 : wr.cell? ⟨gb232, 0, none⟩ = some (u233000) := (blk_cell BK232.out 0).trans rfl
   have hfz38_0 := Zn BK232.out 0
   obtain ⟨Ao39, co39, eo39⟩ := S_slice HO_233000.out
   subst eo39
   have hnb40 := NB231_230.out
   have hnc40 := NB230_231.out
   have hcz41_0 : wr.cell? ⟨gb231, 0, none⟩ = some (.slice none 0 0) := (blk_cell BK231.out 0).trans rfl
   have hfz41_0 := Zn BK231.out 0
   go_wp2
   refine bodyPost_ret (results_cell_row rfl _ _ gb231 28 #[.slice Ao39 x233000_1.length co39] (0, 0) _ rfl (by (with_reducible repeat (first | refine Za ?_ _ | refine Zb ?_ | refine blk_alloc ?_ _)); refine blk_put (cs := #[.slice none 0 0]) ?_ 0 _ rfl; (with_reducible repeat (first | refine Za ?_ _ | refine Zb ?_ | refine blk_alloc ?_ _)); exact BK231.out) Tryd.underlying28 rfl (by kernel_rfl)) rfl ?_
   exact ⟨_, by first | rfl | (simp [errW_none, errW_some] <;> rfl) | (simp [*, errW_none, errW_some] <;> rfl), by (with_reducible repeat (first | apply S_alloc | apply S_drewN | apply S_drew)); exact S_mono (S_far (p := ⟨gb231, 0, none⟩) (S_types HO_233000.out BK231.out (by decide)) (fun _ hk => hk.2) (.slice Ao39 x233000_1.length co39)) (fun _ hk => trivial), by repeat (first | (with_reducible first | exact HB.out | apply Zf | apply Zd | apply Ze | refine Zg ?_ GE230.out | refine Zg ?_ GE231.out | refine Zg ?_ GE232.out) | exact HB.out)⟩
end Go.Proofs.YtcgojdhbphocgaaDoor.F

namespace Go.Proofs.YtcgojdhbphocgaaDoor.F
open Go.RowKit Go.Proofs.YtcgojdhbphocgaaDoorW.PrintWords Go.Proofs.YtcgojdhbphocgaaDoorW.PrintLast Go.Proofs.YtcgojdhbphocgaaDoorW.PrintMore
set_option linter.unusedVariables false
def lays160_ren : Go.Shelf.Ren := ⟨fun | 160 => 107 | 232 => 110 | 231 => 109 | 227 => 111 | 234 => 113 | 233 => 112 | 236 => 115 | 235 => 114 | 228 => 118 | 271 => 121 | 151 => 120 | 197 => 119 | 120 => 125 | 152 => 124 | 260 => 123 | 137 => 127 | 119 => 128 | 224 => 129 | 225 => 130 | 217 => 131 | 266 => 132 | n => n, fun | 9 => 9 | 4 => 4 | 3 => 3 | 5 => 5 | 117 => 113 | 116 => 112 | 0 => 0 | 124 => 116 | 21 => 21 | 105 => 119 | 46 => 107 | 119 => 124 | 139 => 127 | 138 => 126 | n => n, fun | 3 => 1 | 4 => 2 | n => n⟩
theorem lays160 : Go.Proofs.Lays.n160 Tryd.prog lays160_ren where
  mixed := by kernel_rfl
  f119 := Tryd.func128.trans (congrArg some (by kernel_rfl))
  f120 := Tryd.func125.trans (congrArg some (by kernel_rfl))
  f137 := Tryd.func127.trans (congrArg some (by kernel_rfl))
  f151 := Tryd.func120.trans (congrArg some (by kernel_rfl))
  f152 := Tryd.func124.trans (congrArg some (by kernel_rfl))
  f160 := Tryd.func107.trans (congrArg some (by kernel_rfl))
  f197 := Tryd.func119.trans (congrArg some (by kernel_rfl))
  f217 := Tryd.func131.trans (congrArg some (by kernel_rfl))
  f224 := Tryd.func129.trans (congrArg some (by kernel_rfl))
  f225 := Tryd.func130.trans (congrArg some (by kernel_rfl))
  f227 := Tryd.func111.trans (congrArg some (by kernel_rfl))
  f228 := Tryd.func118.trans (congrArg some (by kernel_rfl))
  f231 := Tryd.func109.trans (congrArg some (by kernel_rfl))
  f232 := Tryd.func110.trans (congrArg some (by kernel_rfl))
  f233 := Tryd.func112.trans (congrArg some (by kernel_rfl))
  f234 := Tryd.func113.trans (congrArg some (by kernel_rfl))
  f235 := Tryd.func114.trans (congrArg some (by kernel_rfl))
  f236 := Tryd.func115.trans (congrArg some (by kernel_rfl))
  f260 := Tryd.func123.trans (congrArg some (by kernel_rfl))
  f266 := Tryd.func132.trans (congrArg some (by kernel_rfl))
  f271 := Tryd.func121.trans (congrArg some (by kernel_rfl))
  t0 := Tryd.underlying0
  a0 := Tryd.isAgg0
  z0 := Tryd.sizeOf0
  v0 := Tryd.zeroValue0
  t3 := Tryd.underlying3
  a3 := Tryd.isAgg3
  z3 := Tryd.sizeOf3
  v3 := Tryd.zeroValue3
  t4 := Tryd.underlying4
  a4 := Tryd.isAgg4
  z4 := Tryd.sizeOf4
  v4 := Tryd.zeroValue4
  t5 := Tryd.underlying5
  a5 := Tryd.isAgg5
  z5 := Tryd.sizeOf5
  v5 := Tryd.zeroValue5
  t9 := Tryd.underlying9
  a9 := Tryd.isAgg9
  z9 := Tryd.sizeOf9
  v9 := Tryd.zeroValue9
  t21 := Tryd.underlying21
  a21 := Tryd.isAgg21
  z21 := Tryd.sizeOf21
  v21 := Tryd.zeroValue21
  t46 := Tryd.underlying107
  a46 := Tryd.isAgg107
  z46 := Tryd.sizeOf107
  v46 := Tryd.zeroValue107
  t105 := Tryd.underlying119
  a105 := Tryd.isAgg119
  z105 := Tryd.sizeOf119
  v105 := Tryd.zeroValue119
  t116 := Tryd.underlying112
  a116 := Tryd.isAgg112
  z116 := Tryd.sizeOf112
  t117 := Tryd.underlying113
  a117 := Tryd.isAgg113
  z117 := Tryd.sizeOf113
  v117 := Tryd.zeroValue113
  t119 := Tryd.underlying124
  a119 := Tryd.isAgg124
  z119 := Tryd.sizeOf124
  t124 := Tryd.underlying116
  a124 := Tryd.isAgg116
  z124 := Tryd.sizeOf116
  v124 := Tryd.zeroValue116
  t138 := Tryd.underlying126
  a138 := Tryd.isAgg126
  z138 := Tryd.sizeOf126
  v138 := Tryd.zeroValue126
  t139 := Tryd.underlying127
  a139 := Tryd.isAgg127
  z139 := Tryd.sizeOf127
  v139 := Tryd.zeroValue127
  g3 := by kernel_rfl
  g4 := by kernel_rfl
def trimF.f (s c : ByteArray) : Option ByteArray := if s.size ≤ 9223372036854775807 ∧ c.size < 4294967281 ∧ c.data.toList.all (fun b => decide (b.toNat < 128)) = true then some ⟨(Go.Lib.trimS s.data.toList c.data.toList).toArray⟩ else none
theorem trimF.calls (a0 a1 : ByteArray) (r : ByteArray) (w : World) (h : trimF.f a0 a1 = some r) :
    Calls Tryd.prog 107 #[.string a0, .string a1] w fun e w' => e = .returned (.string r) ∧ Below w.heap.size w w' := by
  unfold trimF.f at h
  split at h
  · rename_i hc
    have h := Option.some.inj h
    subst h
    exact Any.strings_Trim_laid lays160 (by kernel_rfl) a0 a1 w hc.1 hc.2.1 (ascii_of_all hc.2.2)
  cases h
end Go.Proofs.YtcgojdhbphocgaaDoor.F

namespace Go.Proofs.YtcgojdhbphocgaaDoor.F
open Go.RowKit Go.Proofs.YtcgojdhbphocgaaDoorW.PrintWords Go.Proofs.YtcgojdhbphocgaaDoorW.PrintWords.Kd Go.Proofs.YtcgojdhbphocgaaDoorW.PrintMore.Kd Go.Proofs.YtcgojdhbphocgaaDoorW.PrintLast Go.Proofs.YtcgojdhbphocgaaDoorW.PrintMore
attribute [local go_sem] max2_int min2_int max_two min_two max_three min_three max_four min_four   -- for this text's walks alone
set_option linter.unusedVariables false
set_option linter.unusedSimpArgs false
def impl_isFileName.f (a0 : ByteArray) : Option (Bool) := if (a0.size : Int) ≥ 1 then (if (a0.size : Int) ≤ 12 then ((trimF.f a0 (⟨#[97, 98, 99, 100, 101, 102, 103, 104, 105, 106, 107, 108, 109, 110, 111, 112, 113, 114, 115, 116, 117, 118, 119, 120, 121, 122, 48, 49, 50, 51, 52, 53, 54, 55, 56, 57]⟩ : ByteArray)).bind fun t251 => (some (t251.toList == ([] : List UInt8)))) else (some false)) else (some false)
set_option maxHeartbeats 8000000 in
set_option maxRecDepth 100000 in
theorem impl_isFileName.calls (a0 : ByteArray) (r : Bool) (w : World) (h : impl_isFileName.f a0 = some r) :
  Calls Tryd.prog 93 #[.string a0] w fun e w' => e = .returned (.bool r) ∧ Below w.heap.size w w' := by
 have HB := Zh (Below.refl w.heap.size w)
 have H : (if (a0.size : Int) ≥ 1 then (if (a0.size : Int) ≤ 12 then ((trimF.f a0 (⟨#[97, 98, 99, 100, 101, 102, 103, 104, 105, 106, 107, 108, 109, 110, 111, 112, 113, 114, 115, 116, 117, 118, 119, 120, 121, 122, 48, 49, 50, 51, 52, 53, 54, 55, 56, 57]⟩ : ByteArray)).bind fun t251 => (some (t251.toList == ([] : List UInt8)))) else (some false)) else (some false)) = some r := h
 clear h
 by_cases c2 : (a0.size : Int) ≥ 1
 ·
  rw [if_pos c2] at H
  have c2b0 : decide (1 ≤ (a0.size : Int)) = true := decide_eq_true c2
  have c2b1 : decide (1 ≤ a0.size) = true := decide_eq_true (by omega)
  clear c2
  by_cases c3 : (a0.size : Int) ≤ 12
  ·
   rw [if_pos c3] at H
   have c3b0 : decide ((a0.size : Int) ≤ 12) = true := decide_eq_true c3
   have c3b1 : decide (a0.size ≤ 12) = true := decide_eq_true (by omega)
   clear c3
   replace H := Option.bind_eq_some_iff.mp H
   obtain ⟨t251, A40, H⟩ := H
   replace H : (some (t251.toList == ([] : List UInt8))) = some r := H
   have A4 := Zh A40
   clear A40
   obtain rfl := Option.some.inj H
   go_enter Tryd.func93, Tryd.ntmps93
   go_wp2_with (first | (go_at_call 107; (with_reducible refine (trimF.calls a0 (⟨#[97, 98, 99, 100, 101, 102, 103, 104, 105, 106, 107, 108, 109, 110, 111, 112, 113, 114, 115, 116, 117, 118, 119, 120, 121, 122, 48, 49, 50, 51, 52, 53, 54, 55, 56, 57]⟩ : ByteArray) t251 _ A4.out).mono ?_); rintro e w5 ⟨rfl, hb⟩; have n0_ := Zh (Zl Zs hb); clear HB; have HB := n0_; clear n0_; (try clear hb); (try clear hb2); (try clear hk); (try clear hi)))
   go_ret
   exact ⟨by first | rfl | (simp [errW_none, errW_some] <;> rfl) | (simp [*, errW_none, errW_some] <;> rfl), by repeat (first | (with_reducible first | exact HB.out | apply Zf | apply Zd | apply Ze) | exact HB.out)⟩
  rw [if_neg c3] at H
  have c3b0 : decide ((a0.size : Int) ≤ 12) = false := decide_eq_false c3
  have c3b1 : decide (a0.size ≤ 12) = false := decide_eq_false (by omega)
  clear c3
  obtain rfl := Option.some.inj H
  go_enter Tryd.func93, Tryd.ntmps93
  go_wp2
  go_ret
  exact ⟨by first | rfl | (simp [errW_none, errW_some] <;> rfl) | (simp [*, errW_none, errW_some] <;> rfl), by repeat (first | (with_reducible first | exact HB.out | apply Zf | apply Zd | apply Ze) | exact HB.out)⟩
 rw [if_neg c2] at H
 have c2b0 : decide (1 ≤ (a0.size : Int)) = false := decide_eq_false c2
 have c2b1 : decide (1 ≤ a0.size) = false := decide_eq_false (by omega)
 clear c2
 obtain rfl := Option.some.inj H
 go_enter Tryd.func93, Tryd.ntmps93
 go_wp2
 go_ret
 exact ⟨by first | rfl | (simp [errW_none, errW_some] <;> rfl) | (simp [*, errW_none, errW_some] <;> rfl), by repeat (first | (with_reducible first | exact HB.out | apply Zf | apply Zd | apply Ze) | exact HB.out)⟩
end Go.Proofs.YtcgojdhbphocgaaDoor.F

namespace Go.Proofs.YtcgojdhbphocgaaDoor.F
open Go.Proofs.YtcgojdhbphocgaaDoor
open Go.RowKit Go.Proofs.YtcgojdhbphocgaaDoorW.PrintWords Go.Proofs.YtcgojdhbphocgaaDoorW.PrintWords.Kd Go.Proofs.YtcgojdhbphocgaaDoorW.PrintMore.Kd Go.Proofs.YtcgojdhbphocgaaDoorW.PrintLast Go.Proofs.YtcgojdhbphocgaaDoorW.PrintMore
attribute [local go_sem] max2_int min2_int max_two min_two max_three min_three max_four min_four   -- for this text's walks alone
set_option linter.unusedVariables false
set_option linter.unusedSimpArgs false
def impl_isDisk.l0 : Nat → List (S55) → Int → Int → List (S55) → Option (Bool)
 | 0, _, _, _, _ => none
 | k + 1, x6, x7, x8, x253000 => if x8 < x7 then (if 0 ≤ x8 then (if x8 < (x6.length : Int) then ((impl_isFileName.f ((rd_T55 x6 x8).f0)).bind fun t255 => (if t255 = true then (if (wrap64 ((((rd_T55 x6 x8).f1).length : Int) + (((rd_T55 x6 x8).f2).length : Int))) > 20000 then (some false) else (if x8 > 0 then (if 0 ≤ (wrap64 (x8 - 1)) then (if (wrap64 (x8 - 1)) < (x253000.length : Int) then (if ((Op.bytesLess (((rd_T55 x253000 (wrap64 (x8 - 1))).f0).toList) (((rd_T55 x6 x8).f0).toList)) = true) then (impl_isDisk.l0 k x6 x7 (wrap64 (x8 + 1)) x253000) else (some false)) else (none)) else (none)) else (impl_isDisk.l0 k x6 x7 (wrap64 (x8 + 1)) x253000))) else (some false))) else (none)) else (none)) else (some (decide ((x253000.length : Int) ≤ 8)))
def impl_isDisk.f (k : Nat) (l0_0 : List (S55)) : Option (Bool) := impl_isDisk.l0 k l0_0 (l0_0.length : Int) 0 l0_0
def impl_isDisk.T4 : Bool × List (List Nat × List Nat) := (true, [([], []), ([0], [0]), ([1], [1]), ([2], [2]), ([3, 2], [3]), ([4], [4]), ([5, 4], [4, 5]), ([6, 4], [4, 6]), ([4], [4]), ([8, 4], [4, 8]), ([9, 4], [4, 9]), ([7, 10, 4], [4, 7, 10]), ([11, 4], [4, 11]), ([4, 12], [4, 12]), ([13, 4], [13]), ([14], [14]), ([15, 14], [14, 15]), ([16, 14, 14], [14, 16]), ([17], [17]), ([18, 17], [17, 18]), ([17], [17]), ([20, 17], [17, 20]), ([19, 21, 17], [17, 19, 21]), ([22, 17], [17, 22]), ([23, 17], [17, 23]), ([17], [17]), ([25, 17], [17, 25]), ([24, 26, 17], [17, 24, 26]), ([17, 27, 14], [14, 17, 27]), ([14, 28], [14, 28])])
def impl_isDisk.B4 : List Nat := [0, 1, 3, 7, 15, 31, 63, 127, 31, 287, 799, 2047, 4095, 8191, 16383, 32767, 65535, 131071, 262143, 524287, 262143, 1310719, 4194303, 8388607, 16777215, 262143, 33816575, 134217727, 268435455, 536870911]
theorem impl_isDisk.tab4 : rtab .any (opsOf Tryd.f72 4) = impl_isDisk.T4 := by kernel_rfl
theorem impl_isDisk.bits4 : waitsOk impl_isDisk.T4.2 impl_isDisk.B4 = true := by kernel_rfl
set_option maxHeartbeats 8000000 in
set_option maxRecDepth 100000 in
theorem impl_isDisk.calls (k : Nat) (A0_0 : Option Addr) (c0_0 : Nat) (l0_0 : List (S55)) (r : Bool) (w : World) (hr0_0 : Kd.C k55 w A0_0 l0_0.length l0_0) (hc0_0 : l0_0.length ≤ c0_0) (h : impl_isDisk.f k l0_0 = some r) :
  Calls Tryd.prog 72 #[.agg #[.slice A0_0 l0_0.length c0_0]] w fun e w' => e = .returned (.bool r) ∧ Below w.heap.size w w' := by
 have hu28 := Tryd.underlying28
 have hu55 := Tryd.underlying55
 have HR0_0 := Zh hr0_0
 have HC0_0 := Zh hc0_0
 clear hr0_0 hc0_0
 have HB := Zh (Below.refl w.heap.size w)
 have H : (impl_isDisk.l0 k l0_0 (l0_0.length : Int) 0 l0_0) = some r := h
 clear h
 have H' := Zh H
 clear H
 go_enter Tryd.func72, Tryd.ntmps72
 go_wp2_with (first | ((with_reducible refine gate_dst (N := 1) rfl ?_); (try (refine gate_guard (by rfl) ?_; dsimp only)); refine box_event ?hg (N := 1) ?hd (cs := #[.slice A0_0 l0_0.length c0_0]) (t := 28) ?hr ?_; (case hd => rfl); (case hg => rfl); (case hr => first | (go_simp; done) | (go_simp; rfl)); intro gb252 hg w2 hbox hb; have n0_ := Zh (Zl Zs hb); have n1_ := Zh (hbox); have n2_ := Zh ((by rw [hg]; exact (below_size Zs) : w.heap.size ≤ gb252)); have n3_ := Zh ((by rw [hg]; exact (below_size Zs) : w.heap.size ≤ gb252)); clear HB; have HB := n0_; have BK252 := n1_; have GW252 := n2_; have GE252 := n3_; clear n0_ n1_ n2_ n3_; clear hb hbox hg; have hcz3_0 : w2.cell? ⟨gb252, 0, none⟩ = some (.slice A0_0 l0_0.length c0_0) := (blk_cell BK252.out 0).trans rfl; have hfz3_0 := Zn BK252.out 0))
 go_loopg [8] k (fun kq v8 w' => ∃ (x8_1 : Int), v8 = .int .i64 x8_1 ∧ Aside0 (impl_isDisk.l0 kq l0_0 (l0_0.length : Int) x8_1 l0_0 = some r) ∧ Aside0 (kq ≤ k) ∧ Aside0 (w'.heap[gb252]? = some (.cells #[(.slice A0_0 l0_0.length c0_0)] 28 (0, 0))) ∧ Aside0 (Below w.heap.size w w'))
 case atStart => exact ⟨(0), (by first | rfl | (simp; done) | (simp [*]; done)), H', ⟨Nat.le_refl _⟩, ⟨by (with_reducible repeat (first | refine Za ?_ _ | refine Zb ?_ | refine blk_alloc ?_ _)); exact BK252.out⟩, ⟨by repeat (first | (with_reducible first | exact HB.out | apply Zf | apply Zd | apply Ze | refine Zg ?_ GE252.out) | exact HB.out)⟩⟩
 case round =>
  clear H'
  try clear p2
  try clear hcz3_0
  try clear hfz3_0
  obtain ⟨x8_1, rfl, HA, HK1, BK252, HB⟩ := hrel
  cases gk with
  | zero => exact absurd HA.out (by simp [impl_isDisk.l0])
  | succ k1 =>
   have H := HA.out
   clear HA
   simp only [impl_isDisk.l0] at H
   by_cases c4 : x8_1 < (l0_0.length : Int)
   ·
    rw [if_pos c4] at H
    have c4b0 : decide (x8_1 < (l0_0.length : Int)) = true := decide_eq_true c4
    clear c4
    by_cases c5 : 0 ≤ x8_1
    ·
     rw [if_pos c5] at H
     have c5b0 : decide (0 ≤ x8_1) = true := decide_eq_true c5
     clear c5
     by_cases c6 : x8_1 < (l0_0.length : Int)
     ·
      rw [if_pos c6] at H
      have c6b0 : decide (x8_1 < (l0_0.length : Int)) = true := decide_eq_true c6
      clear c6
      replace H := Option.bind_eq_some_iff.mp H
      obtain ⟨t255, A70, H⟩ := H
      replace H : (if t255 = true then (if (wrap64 ((((rd_T55 l0_0 x8_1).f1).length : Int) + (((rd_T55 l0_0 x8_1).f2).length : Int))) > 20000 then (some false) else (if x8_1 > 0 then (if 0 ≤ (wrap64 (x8_1 - 1)) then (if (wrap64 (x8_1 - 1)) < (l0_0.length : Int) then (if ((Op.bytesLess (((rd_T55 l0_0 (wrap64 (x8_1 - 1))).f0).toList) (((rd_T55 l0_0 x8_1).f0).toList)) = true) then (impl_isDisk.l0 k1 l0_0 (l0_0.length : Int) (wrap64 (x8_1 + 1)) l0_0) else (some false)) else (none)) else (none)) else (impl_isDisk.l0 k1 l0_0 (l0_0.length : Int) (wrap64 (x8_1 + 1)) l0_0))) else (some false)) = some r := H
      have A7 := Zh A70
      clear A70
      by_cases c8 : t255 = true
      ·
       subst c8
       have H1 : (if (wrap64 ((((rd_T55 l0_0 x8_1).f1).length : Int) + (((rd_T55 l0_0 x8_1).f2).length : Int))) > 20000 then (some false) else (if x8_1 > 0 then (if 0 ≤ (wrap64 (x8_1 - 1)) then (if (wrap64 (x8_1 - 1)) < (l0_0.length : Int) then (if ((Op.bytesLess (((rd_T55 l0_0 (wrap64 (x8_1 - 1))).f0).toList) (((rd_T55 l0_0 x8_1).f0).toList)) = true) then (impl_isDisk.l0 k1 l0_0 (l0_0.length : Int) (wrap64 (x8_1 + 1)) l0_0) else (some false)) else (none)) else (none)) else (impl_isDisk.l0 k1 l0_0 (l0_0.length : Int) (wrap64 (x8_1 + 1)) l0_0))) = some r := by rw [if_pos rfl] at H; exact H
       clear H
       have H := H1
       clear H1
       by_cases c9 : (wrap64 ((((rd_T55 l0_0 x8_1).f1).length : Int) + (((rd_T55 l0_0 x8_1).f2).length : Int))) > 20000
       ·
        rw [if_pos c9] at H
        have c9b0 : decide (20000 < (wrap64 ((((rd_T55 l0_0 x8_1).f1).length : Int) + (((rd_T55 l0_0 x8_1).f2).length : Int)))) = true := decide_eq_true c9
        clear c9
        obtain rfl := Option.some.inj H
        have p253 : 0 ≤ (x8_1 : Int) := Zo
        have q253 : x8_1 < (l0_0.length : Int) := Zo
        obtain ⟨ad253, A253_1, c253_1, A253_2, c253_2, e253, hx253_0, hx253_1, hx253_2, hl253_1, hi253_1, hl253_2, hi253_2⟩ := at_T55 HR0_0.out x8_1 p253 q253
        cases e253
        replace hx253_0 := Zc HB.out hx253_0
        replace hx253_1 := Zc HB.out hx253_1
        replace hx253_2 := Zc HB.out hx253_2
        have HR253_1 := Zh hi253_1
        have HC253_1 := Zh hl253_1
        clear hi253_1 hl253_1
        have HR253_2 := Zh hi253_2
        have HC253_2 := Zh hl253_2
        clear hi253_2 hl253_2
        replace p253 := eq_true p253
        replace q253 := eq_true q253
        try go_wp2_with (first | ((with_reducible refine gate_dst (N := 4) rfl ?_); (try (refine gate_guard (by rfl) ?_; dsimp only)); refine box_event ?hg (N := 4) ?hd (cs := #[.string (⟨#[]⟩ : ByteArray), .slice none 0 0, .slice none 0 0]) (t := 55) ?hr ?_; (case hd => rfl); (case hg => rfl); (case hr => first | (go_simp; done) | (go_simp; rfl)); intro gb254 hg w10 hbox hb; have n0_ := Zh (Zm (g := gb252) (o := .cells #[.slice (some ad253) l0_0.length c0_0] 28 (0, 0)) Zk hb); have n1_ := Zh (Zl Zs hb); have n2_ := Zh (hbox); have n3_ := Zh ((by rw [hg]; exact (below_size Zs) : w.heap.size ≤ gb254)); have n4_ := Zh ((by rw [hg]; exact (below_size Zs) : w.heap.size ≤ gb254)); have n5_ := Zh ((by rw [hg]; exact Nat.ne_of_lt (blk_lt (g := gb252) (o := .cells #[.slice (some ad253) l0_0.length c0_0] 28 (0, 0)) Zk) : gb252 ≠ gb254)); have n6_ := Zh ((by rw [hg]; exact Nat.ne_of_gt (blk_lt (g := gb252) (o := .cells #[.slice (some ad253) l0_0.length c0_0] 28 (0, 0)) Zk) : gb254 ≠ gb252)); clear BK252; clear HB; have BK252 := n0_; have HB := n1_; have BK254 := n2_; have GW254 := n3_; have GE254 := n4_; have NB252_254 := n5_; have NB254_252 := n6_; clear n0_ n1_ n2_ n3_ n4_ n5_ n6_; clear hb hbox hg; have hnb11 := NB254_252.out; have hnc11 := NB252_254.out; have hcz12_0 : w10.cell? ⟨gb254, 0, none⟩ = some (.string (⟨#[]⟩ : ByteArray)) := (blk_cell BK254.out 0).trans rfl; have hcz12_1 : w10.cell? ⟨gb254, 1, none⟩ = some (.slice none 0 0) := (blk_cell BK254.out 1).trans rfl; have hcz12_2 : w10.cell? ⟨gb254, 2, none⟩ = some (.slice none 0 0) := (blk_cell BK254.out 2).trans rfl; have hfz12_0 := Zn BK254.out 0; have hfz12_1 := Zn BK254.out 1; have hfz12_2 := Zn BK254.out 2))
        have n0_ : Aside0 ((((w10.setCell ⟨gb254, 0, none⟩ (.string ((rd_T55 l0_0 x8_1).f0))).setCell ⟨gb254, 1, none⟩ (.slice A253_1 ((rd_T55 l0_0 x8_1).f1).length c253_1)).setCell ⟨gb254, 2, none⟩ (.slice A253_2 ((rd_T55 l0_0 x8_1).f2).length c253_2)).heap[gb252]? = some (.cells #[.slice (some ad253) l0_0.length c0_0] 28 (0, 0))) := ⟨by (with_reducible repeat (first | refine Za ?_ _ | refine Zb ?_ | refine blk_alloc ?_ _)); refine Zp ?_ NB252_254.out _; (with_reducible repeat (first | refine Za ?_ _ | refine Zb ?_ | refine blk_alloc ?_ _)); refine Zp ?_ NB252_254.out _; (with_reducible repeat (first | refine Za ?_ _ | refine Zb ?_ | refine blk_alloc ?_ _)); refine Zp ?_ NB252_254.out _; (with_reducible repeat (first | refine Za ?_ _ | refine Zb ?_ | refine blk_alloc ?_ _)); exact BK252.out⟩
        have n1_ : Aside0 ((((w10.setCell ⟨gb254, 0, none⟩ (.string ((rd_T55 l0_0 x8_1).f0))).setCell ⟨gb254, 1, none⟩ (.slice A253_1 ((rd_T55 l0_0 x8_1).f1).length c253_1)).setCell ⟨gb254, 2, none⟩ (.slice A253_2 ((rd_T55 l0_0 x8_1).f2).length c253_2)).heap[gb254]? = some (.cells #[.string ((rd_T55 l0_0 x8_1).f0), .slice A253_1 ((rd_T55 l0_0 x8_1).f1).length c253_1, .slice A253_2 ((rd_T55 l0_0 x8_1).f2).length c253_2] 55 (0, 0))) := ⟨by (with_reducible repeat (first | refine Za ?_ _ | refine Zb ?_ | refine blk_alloc ?_ _)); refine blk_put (cs := #[.string ((rd_T55 l0_0 x8_1).f0), .slice A253_1 ((rd_T55 l0_0 x8_1).f1).length c253_1, .slice none 0 0]) ?_ 2 _ rfl; (with_reducible repeat (first | refine Za ?_ _ | refine Zb ?_ | refine blk_alloc ?_ _)); refine blk_put (cs := #[.string ((rd_T55 l0_0 x8_1).f0), .slice none 0 0, .slice none 0 0]) ?_ 1 _ rfl; (with_reducible repeat (first | refine Za ?_ _ | refine Zb ?_ | refine blk_alloc ?_ _)); refine blk_put (cs := #[.string (⟨#[]⟩ : ByteArray), .slice none 0 0, .slice none 0 0]) ?_ 0 _ rfl; (with_reducible repeat (first | refine Za ?_ _ | refine Zb ?_ | refine blk_alloc ?_ _)); exact BK254.out⟩
        have n2_ : Aside0 (Below w.heap.size w (((w10.setCell ⟨gb254, 0, none⟩ (.string ((rd_T55 l0_0 x8_1).f0))).setCell ⟨gb254, 1, none⟩ (.slice A253_1 ((rd_T55 l0_0 x8_1).f1).length c253_1)).setCell ⟨gb254, 2, none⟩ (.slice A253_2 ((rd_T55 l0_0 x8_1).f2).length c253_2))) := ⟨by repeat (first | (with_reducible first | exact HB.out | apply Zf | apply Zd | apply Ze | refine Zg ?_ GE252.out | refine Zg ?_ GE254.out) | exact HB.out)⟩
        (try clear BK252)
        (try clear BK254)
        (try clear HB)
        generalize (((w10.setCell ⟨gb254, 0, none⟩ (.string ((rd_T55 l0_0 x8_1).f0))).setCell ⟨gb254, 1, none⟩ (.slice A253_1 ((rd_T55 l0_0 x8_1).f1).length c253_1)).setCell ⟨gb254, 2, none⟩ (.slice A253_2 ((rd_T55 l0_0 x8_1).f2).length c253_2)) = w13 at n0_ n1_ n2_ ⊢
        have BK252 := n0_
        have BK254 := n1_
        have HB := n2_
        clear n0_ n1_ n2_
        have n0_ := Zh (Zb BK252.out)
        have n1_ := Zh (Zb BK254.out)
        have n2_ := Zh (Ze HB.out)
        clear BK252
        clear BK254
        clear HB
        have BK252 := n0_
        have BK254 := n1_
        have HB := n2_
        clear n0_ n1_ n2_
        refine start_ (n := 30) (S := fun w' => w'.cell? ⟨gb254, 0, none⟩ = some (.string ((rd_T55 l0_0 x8_1).f0)) ∧ w'.cell? ⟨gb254, 1, none⟩ = some (.slice A253_1 ((rd_T55 l0_0 x8_1).f1).length c253_1) ∧ w'.cell? ⟨gb254, 2, none⟩ = some (.slice A253_2 ((rd_T55 l0_0 x8_1).f2).length c253_2)) (ds := []) #[false, false, false, false, false, false, false, false, false, false, false, false, false, false, false, false, false, false, false, false, false, false, false, false, false, false, false, false, false, false] (by kernel_rfl) rfl rfl ⟨(blk_cell BK254.out 0).trans rfl, (blk_cell BK254.out 1).trans rfl, (blk_cell BK254.out 2).trans rfl⟩ (fun hHeld => ?_); refine with_tabW impl_isDisk.tab4 impl_isDisk.bits4 (fun HT_ HW_ => ?_)
        generalize w13.drew = w14 at BK252 BK254 HB hHeld ⊢
        refine SQ.pu 0 13 HT_ ?_
        refine SQ.tk 1 14 HT_ HW_ hHeld ?_
        refine one_ (i := 2) (N := some 15) #[true, true, true, false, false, false, false, false, false, false, false, false, false, false, false, false, false, false, false, false, false, false, false, false, false, false, false, false, false, false] rfl rfl (one_of HT_.out (by kernel_rfl)) (by decide) (fun K hK => ?_)
        refine goes_ Tryd.func93 (by kernel_rfl) rfl #[.string ((rd_T55 l0_0 x8_1).f0)] (by rfl) rfl rfl (by (try simp only [List.map_toArray, List.map_cons, List.map_nil]); first | done | rfl | (simp only [List.length_drop, List.length_take]; rfl)) ?_
        with_reducible refine (impl_isFileName.calls ((rd_T55 l0_0 x8_1).f0) true _ A7.out).mono ?_
        rintro e w15 ⟨rfl, hb⟩
        refine ⟨_, rfl, ?_⟩
        have n0_ := Zh (Zm (g := gb252) (o := .cells #[.slice (some ad253) l0_0.length c0_0] 28 (0, 0)) Zk hb)
        have n1_ := Zh (Zm (g := gb254) (o := .cells #[.string ((rd_T55 l0_0 x8_1).f0), .slice A253_1 ((rd_T55 l0_0 x8_1).f1).length c253_1, .slice A253_2 ((rd_T55 l0_0 x8_1).f2).length c253_2] 55 (0, 0)) Zk hb)
        have n2_ := Zh (Zl Zs hb)
        clear BK252
        clear BK254
        clear HB
        have BK252 := n0_
        have BK254 := n1_
        have HB := n2_
        clear n0_ n1_ n2_
        (try clear hb)
        (try clear hb2)
        (try clear hk)
        (try clear hi)
        refine hK.out _ _ ⟨(blk_cell BK254.out 0).trans rfl, (blk_cell BK254.out 1).trans rfl, (blk_cell BK254.out 2).trans rfl⟩ (fun hHeld => ?_)
        clear hK K
        refine norm_ (a' := ?_) ?_ ?_
        rotate_left
        ·
         show Act.put _ (some 15) _ = _
         simp only [Act.put, List.setIfInBounds_toArray, List.set_cons_zero, List.set_cons_succ, i64_w, i32_w]
         rfl
        refine SQ.pu 3 16 HT_ ?_
        refine SQ.pu 4 17 HT_ ?_
        refine SQ.pu 5 18 HT_ ?_
        refine SQ.pu 8 21 HT_ ?_
        refine SQ.tk 6 19 HT_ HW_ hHeld ?_
        refine SQ.pu 7 20 HT_ ?_
        refine SQ.tk 9 22 HT_ HW_ hHeld ?_
        refine SQ.pu 10 23 HT_ ?_
        refine SQ.pu 11 24 HT_ ?_
        refine SQ.pu 12 25 HT_ ?_
        refine SQ.pu 13 26 HT_ ?_
        refine SQ.pu 14 27 HT_ ?_
        refine SQ.of 15 28 HT_ ?_
        refine SQ.of 16 29 HT_ ?_
        refine SQ.of 17 30 HT_ ?_
        refine SQ.of 18 31 HT_ ?_
        refine SQ.of 19 32 HT_ ?_
        refine SQ.of 20 33 HT_ ?_
        refine SQ.of 21 34 HT_ ?_
        refine SQ.of 22 35 HT_ ?_
        refine SQ.of 23 36 HT_ ?_
        refine SQ.of 24 37 HT_ ?_
        refine SQ.of 25 38 HT_ ?_
        refine SQ.of 26 39 HT_ ?_
        refine SQ.of 27 40 HT_ ?_
        refine SQ.of 28 41 HT_ ?_
        refine SQ.pu 29 42 HT_ ?_
        refine done_ (done_of HT_.out (by kernel_rfl)) ?_
        try go_wp2
        go_ret
        exact ⟨by first | rfl | (simp [errW_none, errW_some] <;> rfl) | (simp [*, errW_none, errW_some] <;> rfl), by repeat (first | (with_reducible first | exact HB.out | apply Zf | apply Zd | apply Ze | refine Zg ?_ GE252.out | refine Zg ?_ GE254.out) | exact HB.out)⟩
       rw [if_neg c9] at H
       have c9b0 : decide (20000 < (wrap64 ((((rd_T55 l0_0 x8_1).f1).length : Int) + (((rd_T55 l0_0 x8_1).f2).length : Int)))) = false := decide_eq_false c9
       clear c9
       by_cases c16 : x8_1 > 0
       ·
        rw [if_pos c16] at H
        have c16b0 : decide (0 < x8_1) = true := decide_eq_true c16
        clear c16
        obtain ⟨ji17, hji17⟩ : ∃ j_ : Int, (wrap64 (x8_1 - 1)) = j_ := ⟨_, rfl⟩
        replace H : (if 0 ≤ (ji17) then (if (ji17) < (l0_0.length : Int) then (if ((Op.bytesLess (((rd_T55 l0_0 (ji17)).f0).toList) (((rd_T55 l0_0 x8_1).f0).toList)) = true) then (impl_isDisk.l0 k1 l0_0 (l0_0.length : Int) (wrap64 (x8_1 + 1)) l0_0) else (some false)) else (none)) else (none)) = some r := by first | (rw [hji17] at H; exact H) | (simp only [hji17] at H ⊢; exact H)
        (try rw [hji17] at A7)
        have hji17w : (IntKind.i64.wrap (x8_1 - 1)) = ji17 := (i64_w _).trans hji17
        by_cases c18 : 0 ≤ (ji17)
        ·
         rw [if_pos c18] at H
         have c18b0 : decide (0 ≤ (ji17)) = true := decide_eq_true c18
         clear c18
         by_cases c19 : (ji17) < (l0_0.length : Int)
         ·
          rw [if_pos c19] at H
          have c19b0 : decide ((ji17) < (l0_0.length : Int)) = true := decide_eq_true c19
          clear c19
          by_cases c20 : ((Op.bytesLess (((rd_T55 l0_0 (ji17)).f0).toList) (((rd_T55 l0_0 x8_1).f0).toList)) = true)
          ·
           rw [if_pos c20] at H
           have c20b0 : (Op.bytesLess (((rd_T55 l0_0 (ji17)).f0).toList) (((rd_T55 l0_0 x8_1).f0).toList)) = true := c20
           clear c20
           have H' := Zh H
           clear H
           have p253 : 0 ≤ (x8_1 : Int) := Zo
           have q253 : x8_1 < (l0_0.length : Int) := Zo
           obtain ⟨ad253, A253_1, c253_1, A253_2, c253_2, e253, hx253_0, hx253_1, hx253_2, hl253_1, hi253_1, hl253_2, hi253_2⟩ := at_T55 HR0_0.out x8_1 p253 q253
           cases e253
           replace hx253_0 := Zc HB.out hx253_0
           replace hx253_1 := Zc HB.out hx253_1
           replace hx253_2 := Zc HB.out hx253_2
           have HR253_1 := Zh hi253_1
           have HC253_1 := Zh hl253_1
           clear hi253_1 hl253_1
           have HR253_2 := Zh hi253_2
           have HC253_2 := Zh hl253_2
           clear hi253_2 hl253_2
           replace p253 := eq_true p253
           replace q253 := eq_true q253
           try go_wp2_with (first | ((with_reducible refine gate_dst (N := 4) rfl ?_); (try (refine gate_guard (by rfl) ?_; dsimp only)); refine box_event ?hg (N := 4) ?hd (cs := #[.string (⟨#[]⟩ : ByteArray), .slice none 0 0, .slice none 0 0]) (t := 55) ?hr ?_; (case hd => rfl); (case hg => rfl); (case hr => first | (go_simp; done) | (go_simp; rfl)); intro gb254 hg w21 hbox hb; have n0_ := Zh (Zm (g := gb252) (o := .cells #[.slice (some ad253) l0_0.length c0_0] 28 (0, 0)) Zk hb); have n1_ := Zh (Zl Zs hb); have n2_ := Zh (hbox); have n3_ := Zh ((by rw [hg]; exact (below_size Zs) : w.heap.size ≤ gb254)); have n4_ := Zh ((by rw [hg]; exact (below_size Zs) : w.heap.size ≤ gb254)); have n5_ := Zh ((by rw [hg]; exact Nat.ne_of_lt (blk_lt (g := gb252) (o := .cells #[.slice (some ad253) l0_0.length c0_0] 28 (0, 0)) Zk) : gb252 ≠ gb254)); have n6_ := Zh ((by rw [hg]; exact Nat.ne_of_gt (blk_lt (g := gb252) (o := .cells #[.slice (some ad253) l0_0.length c0_0] 28 (0, 0)) Zk) : gb254 ≠ gb252)); clear BK252; clear HB; have BK252 := n0_; have HB := n1_; have BK254 := n2_; have GW254 := n3_; have GE254 := n4_; have NB252_254 := n5_; have NB254_252 := n6_; clear n0_ n1_ n2_ n3_ n4_ n5_ n6_; clear hb hbox hg; have hnb22 := NB254_252.out; have hnc22 := NB252_254.out; have hcz23_0 : w21.cell? ⟨gb254, 0, none⟩ = some (.string (⟨#[]⟩ : ByteArray)) := (blk_cell BK254.out 0).trans rfl; have hcz23_1 : w21.cell? ⟨gb254, 1, none⟩ = some (.slice none 0 0) := (blk_cell BK254.out 1).trans rfl; have hcz23_2 : w21.cell? ⟨gb254, 2, none⟩ = some (.slice none 0 0) := (blk_cell BK254.out 2).trans rfl; have hfz23_0 := Zn BK254.out 0; have hfz23_1 := Zn BK254.out 1; have hfz23_2 := Zn BK254.out 2))
           have n0_ : Aside0 ((((w21.setCell ⟨gb254, 0, none⟩ (.string ((rd_T55 l0_0 x8_1).f0))).setCell ⟨gb254, 1, none⟩ (.slice A253_1 ((rd_T55 l0_0 x8_1).f1).length c253_1)).setCell ⟨gb254, 2, none⟩ (.slice A253_2 ((rd_T55 l0_0 x8_1).f2).length c253_2)).heap[gb252]? = some (.cells #[.slice (some ad253) l0_0.length c0_0] 28 (0, 0))) := ⟨by (with_reducible repeat (first | refine Za ?_ _ | refine Zb ?_ | refine blk_alloc ?_ _)); refine Zp ?_ NB252_254.out _; (with_reducible repeat (first | refine Za ?_ _ | refine Zb ?_ | refine blk_alloc ?_ _)); refine Zp ?_ NB252_254.out _; (with_reducible repeat (first | refine Za ?_ _ | refine Zb ?_ | refine blk_alloc ?_ _)); refine Zp ?_ NB252_254.out _; (with_reducible repeat (first | refine Za ?_ _ | refine Zb ?_ | refine blk_alloc ?_ _)); exact BK252.out⟩
           have n1_ : Aside0 ((((w21.setCell ⟨gb254, 0, none⟩ (.string ((rd_T55 l0_0 x8_1).f0))).setCell ⟨gb254, 1, none⟩ (.slice A253_1 ((rd_T55 l0_0 x8_1).f1).length c253_1)).setCell ⟨gb254, 2, none⟩ (.slice A253_2 ((rd_T55 l0_0 x8_1).f2).length c253_2)).heap[gb254]? = some (.cells #[.string ((rd_T55 l0_0 x8_1).f0), .slice A253_1 ((rd_T55 l0_0 x8_1).f1).length c253_1, .slice A253_2 ((rd_T55 l0_0 x8_1).f2).length c253_2] 55 (0, 0))) := ⟨by (with_reducible repeat (first | refine Za ?_ _ | refine Zb ?_ | refine blk_alloc ?_ _)); refine blk_put (cs := #[.string ((rd_T55 l0_0 x8_1).f0), .slice A253_1 ((rd_T55 l0_0 x8_1).f1).length c253_1, .slice none 0 0]) ?_ 2 _ rfl; (with_reducible repeat (first | refine Za ?_ _ | refine Zb ?_ | refine blk_alloc ?_ _)); refine blk_put (cs := #[.string ((rd_T55 l0_0 x8_1).f0), .slice none 0 0, .slice none 0 0]) ?_ 1 _ rfl; (with_reducible repeat (first | refine Za ?_ _ | refine Zb ?_ | refine blk_alloc ?_ _)); refine blk_put (cs := #[.string (⟨#[]⟩ : ByteArray), .slice none 0 0, .slice none 0 0]) ?_ 0 _ rfl; (with_reducible repeat (first | refine Za ?_ _ | refine Zb ?_ | refine blk_alloc ?_ _)); exact BK254.out⟩
           have n2_ : Aside0 (Below w.heap.size w (((w21.setCell ⟨gb254, 0, none⟩ (.string ((rd_T55 l0_0 x8_1).f0))).setCell ⟨gb254, 1, none⟩ (.slice A253_1 ((rd_T55 l0_0 x8_1).f1).length c253_1)).setCell ⟨gb254, 2, none⟩ (.slice A253_2 ((rd_T55 l0_0 x8_1).f2).length c253_2))) := ⟨by repeat (first | (with_reducible first | exact HB.out | apply Zf | apply Zd | apply Ze | refine Zg ?_ GE252.out | refine Zg ?_ GE254.out) | exact HB.out)⟩
           (try clear BK252)
           (try clear BK254)
           (try clear HB)
           generalize (((w21.setCell ⟨gb254, 0, none⟩ (.string ((rd_T55 l0_0 x8_1).f0))).setCell ⟨gb254, 1, none⟩ (.slice A253_1 ((rd_T55 l0_0 x8_1).f1).length c253_1)).setCell ⟨gb254, 2, none⟩ (.slice A253_2 ((rd_T55 l0_0 x8_1).f2).length c253_2)) = w24 at n0_ n1_ n2_ ⊢
           have BK252 := n0_
           have BK254 := n1_
           have HB := n2_
           clear n0_ n1_ n2_
           have n0_ := Zh (Zb BK252.out)
           have n1_ := Zh (Zb BK254.out)
           have n2_ := Zh (Ze HB.out)
           clear BK252
           clear BK254
           clear HB
           have BK252 := n0_
           have BK254 := n1_
           have HB := n2_
           clear n0_ n1_ n2_
           have p256 : 0 ≤ ((ji17) : Int) := Zo
           have q256 : (ji17) < (l0_0.length : Int) := Zo
           obtain ⟨ad256, A256_1, c256_1, A256_2, c256_2, e256, hx256_0, hx256_1, hx256_2, hl256_1, hi256_1, hl256_2, hi256_2⟩ := at_T55 HR0_0.out (ji17) p256 q256
           have hw256_2 := hx256_2
           have hw256_1 := hx256_1
           have hw256_0 := hx256_0
           obtain rfl : ad253 = ad256 := (by injection e256)
           replace hx256_0 := Zc HB.out hx256_0
           replace hx256_1 := Zc HB.out hx256_1
           replace hx256_2 := Zc HB.out hx256_2
           have HR256_1 := Zh hi256_1
           have HC256_1 := Zh hl256_1
           clear hi256_1 hl256_1
           have HR256_2 := Zh hi256_2
           have HC256_2 := Zh hl256_2
           clear hi256_2 hl256_2
           replace p256 := eq_true p256
           replace q256 := eq_true q256
           refine start_ (n := 30) (S := fun w' => w'.cell? ⟨gb254, 0, none⟩ = some (.string ((rd_T55 l0_0 x8_1).f0)) ∧ w'.cell? ⟨gb254, 1, none⟩ = some (.slice A253_1 ((rd_T55 l0_0 x8_1).f1).length c253_1) ∧ w'.cell? ⟨gb254, 2, none⟩ = some (.slice A253_2 ((rd_T55 l0_0 x8_1).f2).length c253_2) ∧ w'.cell? ⟨gb252, 0, none⟩ = some (.slice (some ad253) l0_0.length c0_0) ∧ w'.cell? (ad253.add (((ji17)).toNat * 3)) = some (.string ((rd_T55 l0_0 (ji17)).f0)) ∧ w'.cell? ⟨(ad253.add (((ji17)).toNat * 3)).block, (ad253.add (((ji17)).toNat * 3)).off + 1, none⟩ = some (.slice A256_1 ((rd_T55 l0_0 (ji17)).f1).length c256_1) ∧ w'.cell? ⟨(ad253.add (((ji17)).toNat * 3)).block, (ad253.add (((ji17)).toNat * 3)).off + 2, none⟩ = some (.slice A256_2 ((rd_T55 l0_0 (ji17)).f2).length c256_2)) (ds := []) #[false, false, false, false, false, false, false, false, false, false, false, false, false, false, false, false, false, false, false, false, false, false, false, false, false, false, false, false, false, false] (by kernel_rfl) rfl rfl ⟨(blk_cell BK254.out 0).trans rfl, (blk_cell BK254.out 1).trans rfl, (blk_cell BK254.out 2).trans rfl, (blk_cell BK252.out 0).trans rfl, ((HB.out.cell (Zi w _ hw256_0)).trans hw256_0), ((HB.out.cell (Zi w _ hw256_1)).trans hw256_1), ((HB.out.cell (Zi w _ hw256_2)).trans hw256_2)⟩ (fun hHeld => ?_); refine with_tabW impl_isDisk.tab4 impl_isDisk.bits4 (fun HT_ HW_ => ?_)
           generalize w24.drew = w25 at BK252 BK254 HB HR256_1 HR256_2 hx256_0 hx256_1 hx256_2 hHeld ⊢
           refine SQ.pu 0 13 HT_ ?_
           refine SQ.tk 1 14 HT_ HW_ hHeld ?_
           refine one_ (i := 2) (N := some 15) #[true, true, true, false, false, false, false, false, false, false, false, false, false, false, false, false, false, false, false, false, false, false, false, false, false, false, false, false, false, false] rfl rfl (one_of HT_.out (by kernel_rfl)) (by decide) (fun K hK => ?_)
           refine goes_ Tryd.func93 (by kernel_rfl) rfl #[.string ((rd_T55 l0_0 x8_1).f0)] (by rfl) rfl rfl (by (try simp only [List.map_toArray, List.map_cons, List.map_nil]); first | done | rfl | (simp only [List.length_drop, List.length_take]; rfl)) ?_
           with_reducible refine (impl_isFileName.calls ((rd_T55 l0_0 x8_1).f0) true _ A7.out).mono ?_
           rintro e w26 ⟨rfl, hb⟩
           refine ⟨_, rfl, ?_⟩
           have n0_ := Zh (Zm (g := gb252) (o := .cells #[.slice (some ad253) l0_0.length c0_0] 28 (0, 0)) Zk hb)
           have n1_ := Zh (Zm (g := gb254) (o := .cells #[.string ((rd_T55 l0_0 x8_1).f0), .slice A253_1 ((rd_T55 l0_0 x8_1).f1).length c253_1, .slice A253_2 ((rd_T55 l0_0 x8_1).f2).length c253_2] 55 (0, 0)) Zk hb)
           have n2_ := Zh (Zl Zs hb)
           clear BK252
           clear BK254
           clear HB
           have BK252 := n0_
           have BK254 := n1_
           have HB := n2_
           clear n0_ n1_ n2_
           (try clear hb)
           (try clear hb2)
           (try clear hk)
           (try clear hi)
           refine hK.out _ _ ⟨(blk_cell BK254.out 0).trans rfl, (blk_cell BK254.out 1).trans rfl, (blk_cell BK254.out 2).trans rfl, (blk_cell BK252.out 0).trans rfl, ((HB.out.cell (Zi w _ hw256_0)).trans hw256_0), ((HB.out.cell (Zi w _ hw256_1)).trans hw256_1), ((HB.out.cell (Zi w _ hw256_2)).trans hw256_2)⟩ (fun hHeld => ?_)
           clear hK K
           refine norm_ (a' := ?_) ?_ ?_
           rotate_left
           ·
            show Act.put _ (some 15) _ = _
            simp only [Act.put, List.setIfInBounds_toArray, List.set_cons_zero, List.set_cons_succ, i64_w, i32_w]
            rfl
           refine SQ.pu 3 16 HT_ ?_
           refine SQ.pu 4 17 HT_ ?_
           refine SQ.pu 5 18 HT_ ?_
           refine SQ.pu 8 21 HT_ ?_
           refine SQ.tk 6 19 HT_ HW_ hHeld ?_
           refine SQ.pu 7 20 HT_ ?_
           refine SQ.tk 9 22 HT_ HW_ hHeld ?_
           refine SQ.pu 10 23 HT_ ?_
           refine SQ.pu 11 24 HT_ ?_
           refine SQ.pu 12 25 HT_ ?_
           refine SQ.pu 13 26 HT_ ?_
           refine SQ.pu 14 27 HT_ ?_
           refine SQ.pu 15 28 HT_ ?_
           refine SQ.pu 16 29 HT_ ?_
           refine SQ.pu 17 30 HT_ ?_
           refine SQ.pu 18 31 HT_ ?_
           refine SQ.pu 20 33 HT_ ?_
           refine SQ.pu 21 34 HT_ ?_
           refine SQ.pu 25 38 HT_ ?_
           refine SQ.tk 19 32 HT_ HW_ hHeld ?_
           refine SQ.pu 22 35 HT_ ?_
           refine SQ.pu 23 36 HT_ ?_
           refine SQ.tk 24 37 HT_ HW_ hHeld ?_
           refine SQ.tk 26 39 HT_ HW_ hHeld ?_
           refine SQ.pu 27 40 HT_ ?_
           refine SQ.pu 28 41 HT_ ?_
           refine SQ.pu 29 42 HT_ ?_
           refine done_ (done_of HT_.out (by kernel_rfl)) ?_
           try go_wp2
           go_roundg k1
           case measure => have := HK1.out; omega
           case rel => exact ⟨(wrap64 (x8_1 + 1)), (by first | rfl | (simp; done) | (simp [*]; done)), H', ⟨by have := HK1.out; omega⟩, ⟨by (with_reducible repeat (first | refine Za ?_ _ | refine Zb ?_ | refine blk_alloc ?_ _)); exact BK252.out⟩, ⟨by repeat (first | (with_reducible first | exact HB.out | apply Zf | apply Zd | apply Ze | refine Zg ?_ GE252.out | refine Zg ?_ GE254.out) | exact HB.out)⟩⟩
          rw [if_neg c20] at H
          have c20b0 : (Op.bytesLess (((rd_T55 l0_0 (ji17)).f0).toList) (((rd_T55 l0_0 x8_1).f0).toList)) = false := by simpa using c20
          clear c20
          obtain rfl := Option.some.inj H
          have p253 : 0 ≤ (x8_1 : Int) := Zo
          have q253 : x8_1 < (l0_0.length : Int) := Zo
          obtain ⟨ad253, A253_1, c253_1, A253_2, c253_2, e253, hx253_0, hx253_1, hx253_2, hl253_1, hi253_1, hl253_2, hi253_2⟩ := at_T55 HR0_0.out x8_1 p253 q253
          cases e253
          replace hx253_0 := Zc HB.out hx253_0
          replace hx253_1 := Zc HB.out hx253_1
          replace hx253_2 := Zc HB.out hx253_2
          have HR253_1 := Zh hi253_1
          have HC253_1 := Zh hl253_1
          clear hi253_1 hl253_1
          have HR253_2 := Zh hi253_2
          have HC253_2 := Zh hl253_2
          clear hi253_2 hl253_2
          replace p253 := eq_true p253
          replace q253 := eq_true q253
          try go_wp2_with (first | ((with_reducible refine gate_dst (N := 4) rfl ?_); (try (refine gate_guard (by rfl) ?_; dsimp only)); refine box_event ?hg (N := 4) ?hd (cs := #[.string (⟨#[]⟩ : ByteArray), .slice none 0 0, .slice none 0 0]) (t := 55) ?hr ?_; (case hd => rfl); (case hg => rfl); (case hr => first | (go_simp; done) | (go_simp; rfl)); intro gb254 hg w27 hbox hb; have n0_ := Zh (Zm (g := gb252) (o := .cells #[.slice (some ad253) l0_0.length c0_0] 28 (0, 0)) Zk hb); have n1_ := Zh (Zl Zs hb); have n2_ := Zh (hbox); have n3_ := Zh ((by rw [hg]; exact (below_size Zs) : w.heap.size ≤ gb254)); have n4_ := Zh ((by rw [hg]; exact (below_size Zs) : w.heap.size ≤ gb254)); have n5_ := Zh ((by rw [hg]; exact Nat.ne_of_lt (blk_lt (g := gb252) (o := .cells #[.slice (some ad253) l0_0.length c0_0] 28 (0, 0)) Zk) : gb252 ≠ gb254)); have n6_ := Zh ((by rw [hg]; exact Nat.ne_of_gt (blk_lt (g := gb252) (o := .cells #[.slice (some ad253) l0_0.length c0_0] 28 (0, 0)) Zk) : gb254 ≠ gb252)); clear BK252; clear HB; have BK252 := n0_; have HB := n1_; have BK254 := n2_; have GW254 := n3_; have GE254 := n4_; have NB252_254 := n5_; have NB254_252 := n6_; clear n0_ n1_ n2_ n3_ n4_ n5_ n6_; clear hb hbox hg; have hnb28 := NB254_252.out; have hnc28 := NB252_254.out; have hcz29_0 : w27.cell? ⟨gb254, 0, none⟩ = some (.string (⟨#[]⟩ : ByteArray)) := (blk_cell BK254.out 0).trans rfl; have hcz29_1 : w27.cell? ⟨gb254, 1, none⟩ = some (.slice none 0 0) := (blk_cell BK254.out 1).trans rfl; have hcz29_2 : w27.cell? ⟨gb254, 2, none⟩ = some (.slice none 0 0) := (blk_cell BK254.out 2).trans rfl; have hfz29_0 := Zn BK254.out 0; have hfz29_1 := Zn BK254.out 1; have hfz29_2 := Zn BK254.out 2))
          have n0_ : Aside0 ((((w27.setCell ⟨gb254, 0, none⟩ (.string ((rd_T55 l0_0 x8_1).f0))).setCell ⟨gb254, 1, none⟩ (.slice A253_1 ((rd_T55 l0_0 x8_1).f1).length c253_1)).setCell ⟨gb254, 2, none⟩ (.slice A253_2 ((rd_T55 l0_0 x8_1).f2).length c253_2)).heap[gb252]? = some (.cells #[.slice (some ad253) l0_0.length c0_0] 28 (0, 0))) := ⟨by (with_reducible repeat (first | refine Za ?_ _ | refine Zb ?_ | refine blk_alloc ?_ _)); refine Zp ?_ NB252_254.out _; (with_reducible repeat (first | refine Za ?_ _ | refine Zb ?_ | refine blk_alloc ?_ _)); refine Zp ?_ NB252_254.out _; (with_reducible repeat (first | refine Za ?_ _ | refine Zb ?_ | refine blk_alloc ?_ _)); refine Zp ?_ NB252_254.out _; (with_reducible repeat (first | refine Za ?_ _ | refine Zb ?_ | refine blk_alloc ?_ _)); exact BK252.out⟩
          have n1_ : Aside0 ((((w27.setCell ⟨gb254, 0, none⟩ (.string ((rd_T55 l0_0 x8_1).f0))).setCell ⟨gb254, 1, none⟩ (.slice A253_1 ((rd_T55 l0_0 x8_1).f1).length c253_1)).setCell ⟨gb254, 2, none⟩ (.slice A253_2 ((rd_T55 l0_0 x8_1).f2).length c253_2)).heap[gb254]? = some (.cells #[.string ((rd_T55 l0_0 x8_1).f0), .slice A253_1 ((rd_T55 l0_0 x8_1).f1).length c253_1, .slice A253_2 ((rd_T55 l0_0 x8_1).f2).length c253_2] 55 (0, 0))) := ⟨by (with_reducible repeat (first | refine Za ?_ _ | refine Zb ?_ | refine blk_alloc ?_ _)); refine blk_put (cs := #[.string ((rd_T55 l0_0 x8_1).f0), .slice A253_1 ((rd_T55 l0_0 x8_1).f1).length c253_1, .slice none 0 0]) ?_ 2 _ rfl; (with_reducible repeat (first | refine Za ?_ _ | refine Zb ?_ | refine blk_alloc ?_ _)); refine blk_put (cs := #[.string ((rd_T55 l0_0 x8_1).f0), .slice none 0 0, .slice none 0 0]) ?_ 1 _ rfl; (with_reducible repeat (first | refine Za ?_ _ | refine Zb ?_ | refine blk_alloc ?_ _)); refine blk_put (cs := #[.string (⟨#[]⟩ : ByteArray), .slice none 0 0, .slice none 0 0]) ?_ 0 _ rfl; (with_reducible repeat (first | refine Za ?_ _ | refine Zb ?_ | refine blk_alloc ?_ _)); exact BK254.out⟩
          have n2_ : Aside0 (Below w.heap.size w (((w27.setCell ⟨gb254, 0, none⟩ (.string ((rd_T55 l0_0 x8_1).f0))).setCell ⟨gb254, 1, none⟩ (.slice A253_1 ((rd_T55 l0_0 x8_1).f1).length c253_1)).setCell ⟨gb254, 2, none⟩ (.slice A253_2 ((rd_T55 l0_0 x8_1).f2).length c253_2))) := ⟨by repeat (first | (with_reducible first | exact HB.out | apply Zf | apply Zd | apply Ze | refine Zg ?_ GE252.out | refine Zg ?_ GE254.out) | exact HB.out)⟩
          (try clear BK252)
          (try clear BK254)
          (try clear HB)
          generalize (((w27.setCell ⟨gb254, 0, none⟩ (.string ((rd_T55 l0_0 x8_1).f0))).setCell ⟨gb254, 1, none⟩ (.slice A253_1 ((rd_T55 l0_0 x8_1).f1).length c253_1)).setCell ⟨gb254, 2, none⟩ (.slice A253_2 ((rd_T55 l0_0 x8_1).f2).length c253_2)) = w30 at n0_ n1_ n2_ ⊢
          have BK252 := n0_
          have BK254 := n1_
          have HB := n2_
          clear n0_ n1_ n2_
          have n0_ := Zh (Zb BK252.out)
          have n1_ := Zh (Zb BK254.out)
          have n2_ := Zh (Ze HB.out)
          clear BK252
          clear BK254
          clear HB
          have BK252 := n0_
          have BK254 := n1_
          have HB := n2_
          clear n0_ n1_ n2_
          have p256 : 0 ≤ ((ji17) : Int) := Zo
          have q256 : (ji17) < (l0_0.length : Int) := Zo
          obtain ⟨ad256, A256_1, c256_1, A256_2, c256_2, e256, hx256_0, hx256_1, hx256_2, hl256_1, hi256_1, hl256_2, hi256_2⟩ := at_T55 HR0_0.out (ji17) p256 q256
          have hw256_2 := hx256_2
          have hw256_1 := hx256_1
          have hw256_0 := hx256_0
          obtain rfl : ad253 = ad256 := (by injection e256)
          replace hx256_0 := Zc HB.out hx256_0
          replace hx256_1 := Zc HB.out hx256_1
          replace hx256_2 := Zc HB.out hx256_2
          have HR256_1 := Zh hi256_1
          have HC256_1 := Zh hl256_1
          clear hi256_1 hl256_1
          have HR256_2 := Zh hi256_2
          have HC256_2 := Zh hl256_2
          clear hi256_2 hl256_2
          replace p256 := eq_true p256
          replace q256 := eq_true q256
          refine start_ (n := 30) (S := fun w' => w'.cell? ⟨gb254, 0, none⟩ = some (.string ((rd_T55 l0_0 x8_1).f0)) ∧ w'.cell? ⟨gb254, 1, none⟩ = some (.slice A253_1 ((rd_T55 l0_0 x8_1).f1).length c253_1) ∧ w'.cell? ⟨gb254, 2, none⟩ = some (.slice A253_2 ((rd_T55 l0_0 x8_1).f2).length c253_2) ∧ w'.cell? ⟨gb252, 0, none⟩ = some (.slice (some ad253) l0_0.length c0_0) ∧ w'.cell? (ad253.add (((ji17)).toNat * 3)) = some (.string ((rd_T55 l0_0 (ji17)).f0)) ∧ w'.cell? ⟨(ad253.add (((ji17)).toNat * 3)).block, (ad253.add (((ji17)).toNat * 3)).off + 1, none⟩ = some (.slice A256_1 ((rd_T55 l0_0 (ji17)).f1).length c256_1) ∧ w'.cell? ⟨(ad253.add (((ji17)).toNat * 3)).block, (ad253.add (((ji17)).toNat * 3)).off + 2, none⟩ = some (.slice A256_2 ((rd_T55 l0_0 (ji17)).f2).length c256_2)) (ds := []) #[false, false, false, false, false, false, false, false, false, false, false, false, false, false, false, false, false, false, false, false, false, false, false, false, false, false, false, false, false, false] (by kernel_rfl) rfl rfl ⟨(blk_cell BK254.out 0).trans rfl, (blk_cell BK254.out 1).trans rfl, (blk_cell BK254.out 2).trans rfl, (blk_cell BK252.out 0).trans rfl, ((HB.out.cell (Zi w _ hw256_0)).trans hw256_0), ((HB.out.cell (Zi w _ hw256_1)).trans hw256_1), ((HB.out.cell (Zi w _ hw256_2)).trans hw256_2)⟩ (fun hHeld => ?_); refine with_tabW impl_isDisk.tab4 impl_isDisk.bits4 (fun HT_ HW_ => ?_)
          generalize w30.drew = w31 at BK252 BK254 HB HR256_1 HR256_2 hx256_0 hx256_1 hx256_2 hHeld ⊢
          refine SQ.pu 0 13 HT_ ?_
          refine SQ.tk 1 14 HT_ HW_ hHeld ?_
          refine one_ (i := 2) (N := some 15) #[true, true, true, false, false, false, false, false, false, false, false, false, false, false, false, false, false, false, false, false, false, false, false, false, false, false, false, false, false, false] rfl rfl (one_of HT_.out (by kernel_rfl)) (by decide) (fun K hK => ?_)
          refine goes_ Tryd.func93 (by kernel_rfl) rfl #[.string ((rd_T55 l0_0 x8_1).f0)] (by rfl) rfl rfl (by (try simp only [List.map_toArray, List.map_cons, List.map_nil]); first | done | rfl | (simp only [List.length_drop, List.length_take]; rfl)) ?_
          with_reducible refine (impl_isFileName.calls ((rd_T55 l0_0 x8_1).f0) true _ A7.out).mono ?_
          rintro e w32 ⟨rfl, hb⟩
          refine ⟨_, rfl, ?_⟩
          have n0_ := Zh (Zm (g := gb252) (o := .cells #[.slice (some ad253) l0_0.length c0_0] 28 (0, 0)) Zk hb)
          have n1_ := Zh (Zm (g := gb254) (o := .cells #[.string ((rd_T55 l0_0 x8_1).f0), .slice A253_1 ((rd_T55 l0_0 x8_1).f1).length c253_1, .slice A253_2 ((rd_T55 l0_0 x8_1).f2).length c253_2] 55 (0, 0)) Zk hb)
          have n2_ := Zh (Zl Zs hb)
          clear BK252
          clear BK254
          clear HB
          have BK252 := n0_
          have BK254 := n1_
          have HB := n2_
          clear n0_ n1_ n2_
          (try clear hb)
          (try clear hb2)
          (try clear hk)
          (try clear hi)
          refine hK.out _ _ ⟨(blk_cell BK254.out 0).trans rfl, (blk_cell BK254.out 1).trans rfl, (blk_cell BK254.out 2).trans rfl, (blk_cell BK252.out 0).trans rfl, ((HB.out.cell (Zi w _ hw256_0)).trans hw256_0), ((HB.out.cell (Zi w _ hw256_1)).trans hw256_1), ((HB.out.cell (Zi w _ hw256_2)).trans hw256_2)⟩ (fun hHeld => ?_)
          clear hK K
          refine norm_ (a' := ?_) ?_ ?_
          rotate_left
          ·
           show Act.put _ (some 15) _ = _
           simp only [Act.put, List.setIfInBounds_toArray, List.set_cons_zero, List.set_cons_succ, i64_w, i32_w]
           rfl
          refine SQ.pu 3 16 HT_ ?_
          refine SQ.pu 4 17 HT_ ?_
          refine SQ.pu 5 18 HT_ ?_
          refine SQ.pu 8 21 HT_ ?_
          refine SQ.tk 6 19 HT_ HW_ hHeld ?_
          refine SQ.pu 7 20 HT_ ?_
          refine SQ.tk 9 22 HT_ HW_ hHeld ?_
          refine SQ.pu 10 23 HT_ ?_
          refine SQ.pu 11 24 HT_ ?_
          refine SQ.pu 12 25 HT_ ?_
          refine SQ.pu 13 26 HT_ ?_
          refine SQ.pu 14 27 HT_ ?_
          refine SQ.pu 15 28 HT_ ?_
          refine SQ.pu 16 29 HT_ ?_
          refine SQ.pu 17 30 HT_ ?_
          refine SQ.pu 18 31 HT_ ?_
          refine SQ.pu 20 33 HT_ ?_
          refine SQ.pu 21 34 HT_ ?_
          refine SQ.pu 25 38 HT_ ?_
          refine SQ.tk 19 32 HT_ HW_ hHeld ?_
          refine SQ.pu 22 35 HT_ ?_
          refine SQ.pu 23 36 HT_ ?_
          refine SQ.tk 24 37 HT_ HW_ hHeld ?_
          refine SQ.tk 26 39 HT_ HW_ hHeld ?_
          refine SQ.pu 27 40 HT_ ?_
          refine SQ.pu 28 41 HT_ ?_
          refine SQ.pu 29 42 HT_ ?_
          refine done_ (done_of HT_.out (by kernel_rfl)) ?_
          try go_wp2
          go_ret
          exact ⟨by first | rfl | (simp [errW_none, errW_some] <;> rfl) | (simp only [← hji17]; first | rfl | (simp [errW_none, errW_some] <;> rfl)) | (simp [*, errW_none, errW_some] <;> rfl), by repeat (first | (with_reducible first | exact HB.out | apply Zf | apply Zd | apply Ze | refine Zg ?_ GE252.out | refine Zg ?_ GE254.out) | exact HB.out)⟩
         rw [if_neg c19] at H
         exact absurd H (by simp)
        rw [if_neg c18] at H
        exact absurd H (by simp)
       rw [if_neg c16] at H
       have c16b0 : decide (0 < x8_1) = false := decide_eq_false c16
       clear c16
       have H' := Zh H
       clear H
       have p253 : 0 ≤ (x8_1 : Int) := Zo
       have q253 : x8_1 < (l0_0.length : Int) := Zo
       obtain ⟨ad253, A253_1, c253_1, A253_2, c253_2, e253, hx253_0, hx253_1, hx253_2, hl253_1, hi253_1, hl253_2, hi253_2⟩ := at_T55 HR0_0.out x8_1 p253 q253
       cases e253
       replace hx253_0 := Zc HB.out hx253_0
       replace hx253_1 := Zc HB.out hx253_1
       replace hx253_2 := Zc HB.out hx253_2
       have HR253_1 := Zh hi253_1
       have HC253_1 := Zh hl253_1
       clear hi253_1 hl253_1
       have HR253_2 := Zh hi253_2
       have HC253_2 := Zh hl253_2
       clear hi253_2 hl253_2
       replace p253 := eq_true p253
       replace q253 := eq_true q253
       try go_wp2_with (first | ((with_reducible refine gate_dst (N := 4) rfl ?_); (try (refine gate_guard (by rfl) ?_; dsimp only)); refine box_event ?hg (N := 4) ?hd (cs := #[.string (⟨#[]⟩ : ByteArray), .slice none 0 0, .slice none 0 0]) (t := 55) ?hr ?_; (case hd => rfl); (case hg => rfl); (case hr => first | (go_simp; done) | (go_simp; rfl)); intro gb254 hg w33 hbox hb; have n0_ := Zh (Zm (g := gb252) (o := .cells #[.slice (some ad253) l0_0.length c0_0] 28 (0, 0)) Zk hb); have n1_ := Zh (Zl Zs hb); have n2_ := Zh (hbox); have n3_ := Zh ((by rw [hg]; exact (below_size Zs) : w.heap.size ≤ gb254)); have n4_ := Zh ((by rw [hg]; exact (below_size Zs) : w.heap.size ≤ gb254)); have n5_ := Zh ((by rw [hg]; exact Nat.ne_of_lt (blk_lt (g := gb252) (o := .cells #[.slice (some ad253) l0_0.length c0_0] 28 (0, 0)) Zk) : gb252 ≠ gb254)); have n6_ := Zh ((by rw [hg]; exact Nat.ne_of_gt (blk_lt (g := gb252) (o := .cells #[.slice (some ad253) l0_0.length c0_0] 28 (0, 0)) Zk) : gb254 ≠ gb252)); clear BK252; clear HB; have BK252 := n0_; have HB := n1_; have BK254 := n2_; have GW254 := n3_; have GE254 := n4_; have NB252_254 := n5_; have NB254_252 := n6_; clear n0_ n1_ n2_ n3_ n4_ n5_ n6_; clear hb hbox hg; have hnb34 := NB254_252.out; have hnc34 := NB252_254.out; have hcz35_0 : w33.cell? ⟨gb254, 0, none⟩ = some (.string (⟨#[]⟩ : ByteArray)) := (blk_cell BK254.out 0).trans rfl; have hcz35_1 : w33.cell? ⟨gb254, 1, none⟩ = some (.slice none 0 0) := (blk_cell BK254.out 1).trans rfl; have hcz35_2 : w33.cell? ⟨gb254, 2, none⟩ = some (.slice none 0 0) := (blk_cell BK254.out 2).trans rfl; have hfz35_0 := Zn BK254.out 0; have hfz35_1 := Zn BK254.out 1; have hfz35_2 := Zn BK254.out 2))
       have n0_ : Aside0 ((((w33.setCell ⟨gb254, 0, none⟩ (.string ((rd_T55 l0_0 x8_1).f0))).setCell ⟨gb254, 1, none⟩ (.slice A253_1 ((rd_T55 l0_0 x8_1).f1).length c253_1)).setCell ⟨gb254, 2, none⟩ (.slice A253_2 ((rd_T55 l0_0 x8_1).f2).length c253_2)).heap[gb252]? = some (.cells #[.slice (some ad253) l0_0.length c0_0] 28 (0, 0))) := ⟨by (with_reducible repeat (first | refine Za ?_ _ | refine Zb ?_ | refine blk_alloc ?_ _)); refine Zp ?_ NB252_254.out _; (with_reducible repeat (first | refine Za ?_ _ | refine Zb ?_ | refine blk_alloc ?_ _)); refine Zp ?_ NB252_254.out _; (with_reducible repeat (first | refine Za ?_ _ | refine Zb ?_ | refine blk_alloc ?_ _)); refine Zp ?_ NB252_254.out _; (with_reducible repeat (first | refine Za ?_ _ | refine Zb ?_ | refine blk_alloc ?_ _)); exact BK252.out⟩
       have n1_ : Aside0 ((((w33.setCell ⟨gb254, 0, none⟩ (.string ((rd_T55 l0_0 x8_1).f0))).setCell ⟨gb254, 1, none⟩ (.slice A253_1 ((rd_T55 l0_0 x8_1).f1).length c253_1)).setCell ⟨gb254, 2, none⟩ (.slice A253_2 ((rd_T55 l0_0 x8_1).f2).length c253_2)).heap[gb254]? = some (.cells #[.string ((rd_T55 l0_0 x8_1).f0), .slice A253_1 ((rd_T55 l0_0 x8_1).f1).length c253_1, .slice A253_2 ((rd_T55 l0_0 x8_1).f2).length c253_2] 55 (0, 0))) := ⟨by (with_reducible repeat (first | refine Za ?_ _ | refine Zb ?_ | refine blk_alloc ?_ _)); refine blk_put (cs := #[.string ((rd_T55 l0_0 x8_1).f0), .slice A253_1 ((rd_T55 l0_0 x8_1).f1).length c253_1, .slice none 0 0]) ?_ 2 _ rfl; (with_reducible repeat (first | refine Za ?_ _ | refine Zb ?_ | refine blk_alloc ?_ _)); refine blk_put (cs := #[.string ((rd_T55 l0_0 x8_1).f0), .slice none 0 0, .slice none 0 0]) ?_ 1 _ rfl; (with_reducible repeat (first | refine Za ?_ _ | refine Zb ?_ | refine blk_alloc ?_ _)); refine blk_put (cs := #[.string (⟨#[]⟩ : ByteArray), .slice none 0 0, .slice none 0 0]) ?_ 0 _ rfl; (with_reducible repeat (first | refine Za ?_ _ | refine Zb ?_ | refine blk_alloc ?_ _)); exact BK254.out⟩
       have n2_ : Aside0 (Below w.heap.size w (((w33.setCell ⟨gb254, 0, none⟩ (.string ((rd_T55 l0_0 x8_1).f0))).setCell ⟨gb254, 1, none⟩ (.slice A253_1 ((rd_T55 l0_0 x8_1).f1).length c253_1)).setCell ⟨gb254, 2, none⟩ (.slice A253_2 ((rd_T55 l0_0 x8_1).f2).length c253_2))) := ⟨by repeat (first | (with_reducible first | exact HB.out | apply Zf | apply Zd | apply Ze | refine Zg ?_ GE252.out | refine Zg ?_ GE254.out) | exact HB.out)⟩
       (try clear BK252)
       (try clear BK254)
       (try clear HB)
       generalize (((w33.setCell ⟨gb254, 0, none⟩ (.string ((rd_T55 l0_0 x8_1).f0))).setCell ⟨gb254, 1, none⟩ (.slice A253_1 ((rd_T55 l0_0 x8_1).f1).length c253_1)).setCell ⟨gb254, 2, none⟩ (.slice A253_2 ((rd_T55 l0_0 x8_1).f2).length c253_2)) = w36 at n0_ n1_ n2_ ⊢
       have BK252 := n0_
       have BK254 := n1_
       have HB := n2_
       clear n0_ n1_ n2_
       have n0_ := Zh (Zb BK252.out)
       have n1_ := Zh (Zb BK254.out)
       have n2_ := Zh (Ze HB.out)
       clear BK252
       clear BK254
       clear HB
       have BK252 := n0_
       have BK254 := n1_
       have HB := n2_
       clear n0_ n1_ n2_
       refine start_ (n := 30) (S := fun w' => w'.cell? ⟨gb254, 0, none⟩ = some (.string ((rd_T55 l0_0 x8_1).f0)) ∧ w'.cell? ⟨gb254, 1, none⟩ = some (.slice A253_1 ((rd_T55 l0_0 x8_1).f1).length c253_1) ∧ w'.cell? ⟨gb254, 2, none⟩ = some (.slice A253_2 ((rd_T55 l0_0 x8_1).f2).length c253_2)) (ds := []) #[false, false, false, false, false, false, false, false, false, false, false, false, false, false, false, false, false, false, false, false, false, false, false, false, false, false, false, false, false, false] (by kernel_rfl) rfl rfl ⟨(blk_cell BK254.out 0).trans rfl, (blk_cell BK254.out 1).trans rfl, (blk_cell BK254.out 2).trans rfl⟩ (fun hHeld => ?_); refine with_tabW impl_isDisk.tab4 impl_isDisk.bits4 (fun HT_ HW_ => ?_)
       generalize w36.drew = w37 at BK252 BK254 HB hHeld ⊢
       refine SQ.pu 0 13 HT_ ?_
       refine SQ.tk 1 14 HT_ HW_ hHeld ?_
       refine one_ (i := 2) (N := some 15) #[true, true, true, false, false, false, false, false, false, false, false, false, false, false, false, false, false, false, false, false, false, false, false, false, false, false, false, false, false, false] rfl rfl (one_of HT_.out (by kernel_rfl)) (by decide) (fun K hK => ?_)
       refine goes_ Tryd.func93 (by kernel_rfl) rfl #[.string ((rd_T55 l0_0 x8_1).f0)] (by rfl) rfl rfl (by (try simp only [List.map_toArray, List.map_cons, List.map_nil]); first | done | rfl | (simp only [List.length_drop, List.length_take]; rfl)) ?_
       with_reducible refine (impl_isFileName.calls ((rd_T55 l0_0 x8_1).f0) true _ A7.out).mono ?_
       rintro e w38 ⟨rfl, hb⟩
       refine ⟨_, rfl, ?_⟩
       have n0_ := Zh (Zm (g := gb252) (o := .cells #[.slice (some ad253) l0_0.length c0_0] 28 (0, 0)) Zk hb)
       have n1_ := Zh (Zm (g := gb254) (o := .cells #[.string ((rd_T55 l0_0 x8_1).f0), .slice A253_1 ((rd_T55 l0_0 x8_1).f1).length c253_1, .slice A253_2 ((rd_T55 l0_0 x8_1).f2).length c253_2] 55 (0, 0)) Zk hb)
       have n2_ := Zh (Zl Zs hb)
       clear BK252
       clear BK254
       clear HB
       have BK252 := n0_
       have BK254 := n1_
       have HB := n2_
       clear n0_ n1_ n2_
       (try clear hb)
       (try clear hb2)
       (try clear hk)
       (try clear hi)
       refine hK.out _ _ ⟨(blk_cell BK254.out 0).trans rfl, (blk_cell BK254.out 1).trans rfl, (blk_cell BK254.out 2).trans rfl⟩ (fun hHeld => ?_)
       clear hK K
       refine norm_ (a' := ?_) ?_ ?_
       rotate_left
       ·
        show Act.put _ (some 15) _ = _
        simp only [Act.put, List.setIfInBounds_toArray, List.set_cons_zero, List.set_cons_succ, i64_w, i32_w]
        rfl
       refine SQ.pu 3 16 HT_ ?_
       refine SQ.pu 4 17 HT_ ?_
       refine SQ.pu 5 18 HT_ ?_
       refine SQ.pu 8 21 HT_ ?_
       refine SQ.tk 6 19 HT_ HW_ hHeld ?_
       refine SQ.pu 7 20 HT_ ?_
       refine SQ.tk 9 22 HT_ HW_ hHeld ?_
       refine SQ.pu 10 23 HT_ ?_
       refine SQ.pu 11 24 HT_ ?_
       refine SQ.pu 12 25 HT_ ?_
       refine SQ.pu 13 26 HT_ ?_
       refine SQ.pu 14 27 HT_ ?_
       refine SQ.pu 15 28 HT_ ?_
       refine SQ.pu 16 29 HT_ ?_
       refine SQ.pu 17 30 HT_ ?_
       refine SQ.of 18 31 HT_ ?_
       refine SQ.of 19 32 HT_ ?_
       refine SQ.of 20 33 HT_ ?_
       refine SQ.of 21 34 HT_ ?_
       refine SQ.of 22 35 HT_ ?_
       refine SQ.of 23 36 HT_ ?_
       refine SQ.of 24 37 HT_ ?_
       refine SQ.of 25 38 HT_ ?_
       refine SQ.of 26 39 HT_ ?_
       refine SQ.of 27 40 HT_ ?_
       refine SQ.pu 28 41 HT_ ?_
       refine SQ.pu 29 42 HT_ ?_
       refine done_ (done_of HT_.out (by kernel_rfl)) ?_
       try go_wp2
       go_roundg k1
       case measure => have := HK1.out; omega
       case rel => exact ⟨(wrap64 (x8_1 + 1)), (by first | rfl | (simp; done) | (simp [*]; done)), H', ⟨by have := HK1.out; omega⟩, ⟨by (with_reducible repeat (first | refine Za ?_ _ | refine Zb ?_ | refine blk_alloc ?_ _)); exact BK252.out⟩, ⟨by repeat (first | (with_reducible first | exact HB.out | apply Zf | apply Zd | apply Ze | refine Zg ?_ GE252.out | refine Zg ?_ GE254.out) | exact HB.out)⟩⟩
      replace c8 := Bool.eq_false_iff.mpr c8
      subst c8
      have H1 : (some false) = some r := by rw [if_neg (show ¬ (false = true) by decide)] at H; exact H
      clear H
      have H := H1
      clear H1
      obtain rfl := Option.some.inj H
      have p253 : 0 ≤ (x8_1 : Int) := Zo
      have q253 : x8_1 < (l0_0.length : Int) := Zo
      obtain ⟨ad253, A253_1, c253_1, A253_2, c253_2, e253, hx253_0, hx253_1, hx253_2, hl253_1, hi253_1, hl253_2, hi253_2⟩ := at_T55 HR0_0.out x8_1 p253 q253
      cases e253
      replace hx253_0 := Zc HB.out hx253_0
      replace hx253_1 := Zc HB.out hx253_1
      replace hx253_2 := Zc HB.out hx253_2
      have HR253_1 := Zh hi253_1
      have HC253_1 := Zh hl253_1
      clear hi253_1 hl253_1
      have HR253_2 := Zh hi253_2
      have HC253_2 := Zh hl253_2
      clear hi253_2 hl253_2
      replace p253 := eq_true p253
      replace q253 := eq_true q253
      try go_wp2_with (first | ((with_reducible refine gate_dst (N := 4) rfl ?_); (try (refine gate_guard (by rfl) ?_; dsimp only)); refine box_event ?hg (N := 4) ?hd (cs := #[.string (⟨#[]⟩ : ByteArray), .slice none 0 0, .slice none 0 0]) (t := 55) ?hr ?_; (case hd => rfl); (case hg => rfl); (case hr => first | (go_simp; done) | (go_simp; rfl)); intro gb254 hg w39 hbox hb; have n0_ := Zh (Zm (g := gb252) (o := .cells #[.slice (some ad253) l0_0.length c0_0] 28 (0, 0)) Zk hb); have n1_ := Zh (Zl Zs hb); have n2_ := Zh (hbox); have n3_ := Zh ((by rw [hg]; exact (below_size Zs) : w.heap.size ≤ gb254)); have n4_ := Zh ((by rw [hg]; exact (below_size Zs) : w.heap.size ≤ gb254)); have n5_ := Zh ((by rw [hg]; exact Nat.ne_of_lt (blk_lt (g := gb252) (o := .cells #[.slice (some ad253) l0_0.length c0_0] 28 (0, 0)) Zk) : gb252 ≠ gb254)); have n6_ := Zh ((by rw [hg]; exact Nat.ne_of_gt (blk_lt (g := gb252) (o := .cells #[.slice (some ad253) l0_0.length c0_0] 28 (0, 0)) Zk) : gb254 ≠ gb252)); clear BK252; clear HB; have BK252 := n0_; have HB := n1_; have BK254 := n2_; have GW254 := n3_; have GE254 := n4_; have NB252_254 := n5_; have NB254_252 := n6_; clear n0_ n1_ n2_ n3_ n4_ n5_ n6_; clear hb hbox hg; have hnb40 := NB254_252.out; have hnc40 := NB252_254.out; have hcz41_0 : w39.cell? ⟨gb254, 0, none⟩ = some (.string (⟨#[]⟩ : ByteArray)) := (blk_cell BK254.out 0).trans rfl; have hcz41_1 : w39.cell? ⟨gb254, 1, none⟩ = some (.slice none 0 0) := (blk_cell BK254.out 1).trans rfl; have hcz41_2 : w39.cell? ⟨gb254, 2, none⟩ = some (.slice none 0 0) := (blk_cell BK254.out 2).trans rfl; have hfz41_0 := Zn BK254.out 0; have hfz41_1 := Zn BK254.out 1; have hfz41_2 := Zn BK254.out 2))
      have n0_ : Aside0 ((((w39.setCell ⟨gb254, 0, none⟩ (.string ((rd_T55 l0_0 x8_1).f0))).setCell ⟨gb254, 1, none⟩ (.slice A253_1 ((rd_T55 l0_0 x8_1).f1).length c253_1)).setCell ⟨gb254, 2, none⟩ (.slice A253_2 ((rd_T55 l0_0 x8_1).f2).length c253_2)).heap[gb252]? = some (.cells #[.slice (some ad253) l0_0.length c0_0] 28 (0, 0))) := ⟨by (with_reducible repeat (first | refine Za ?_ _ | refine Zb ?_ | refine blk_alloc ?_ _)); refine Zp ?_ NB252_254.out _; (with_reducible repeat (first | refine Za ?_ _ | refine Zb ?_ | refine blk_alloc ?_ _)); refine Zp ?_ NB252_254.out _; (with_reducible repeat (first | refine Za ?_ _ | refine Zb ?_ | refine blk_alloc ?_ _)); refine Zp ?_ NB252_254.out _; (with_reducible repeat (first | refine Za ?_ _ | refine Zb ?_ | refine blk_alloc ?_ _)); exact BK252.out⟩
      have n1_ : Aside0 ((((w39.setCell ⟨gb254, 0, none⟩ (.string ((rd_T55 l0_0 x8_1).f0))).setCell ⟨gb254, 1, none⟩ (.slice A253_1 ((rd_T55 l0_0 x8_1).f1).length c253_1)).setCell ⟨gb254, 2, none⟩ (.slice A253_2 ((rd_T55 l0_0 x8_1).f2).length c253_2)).heap[gb254]? = some (.cells #[.string ((rd_T55 l0_0 x8_1).f0), .slice A253_1 ((rd_T55 l0_0 x8_1).f1).length c253_1, .slice A253_2 ((rd_T55 l0_0 x8_1).f2).length c253_2] 55 (0, 0))) := ⟨by (with_reducible repeat (first | refine Za ?_ _ | refine Zb ?_ | refine blk_alloc ?_ _)); refine blk_put (cs := #[.string ((rd_T55 l0_0 x8_1).f0), .slice A253_1 ((rd_T55 l0_0 x8_1).f1).length c253_1, .slice none 0 0]) ?_ 2 _ rfl; (with_reducible repeat (first | refine Za ?_ _ | refine Zb ?_ | refine blk_alloc ?_ _)); refine blk_put (cs := #[.string ((rd_T55 l0_0 x8_1).f0), .slice none 0 0, .slice none 0 0]) ?_ 1 _ rfl; (with_reducible repeat (first | refine Za ?_ _ | refine Zb ?_ | refine blk_alloc ?_ _)); refine blk_put (cs := #[.string (⟨#[]⟩ : ByteArray), .slice none 0 0, .slice none 0 0]) ?_ 0 _ rfl; (with_reducible repeat (first | refine Za ?_ _ | refine Zb ?_ | refine blk_alloc ?_ _)); exact BK254.out⟩
      have n2_ : Aside0 (Below w.heap.size w (((w39.setCell ⟨gb254, 0, none⟩ (.string ((rd_T55 l0_0 x8_1).f0))).setCell ⟨gb254, 1, none⟩ (.slice A253_1 ((rd_T55 l0_0 x8_1).f1).length c253_1)).setCell ⟨gb254, 2, none⟩ (.slice A253_2 ((rd_T55 l0_0 x8_1).f2).length c253_2))) := ⟨by repeat (first | (with_reducible first | exact HB.out | apply Zf | apply Zd | apply Ze | refine Zg ?_ GE252.out | refine Zg ?_ GE254.out) | exact HB.out)⟩
      (try clear BK252)
      (try clear BK254)
      (try clear HB)
      generalize (((w39.setCell ⟨gb254, 0, none⟩ (.string ((rd_T55 l0_0 x8_1).f0))).setCell ⟨gb254, 1, none⟩ (.slice A253_1 ((rd_T55 l0_0 x8_1).f1).length c253_1)).setCell ⟨gb254, 2, none⟩ (.slice A253_2 ((rd_T55 l0_0 x8_1).f2).length c253_2)) = w42 at n0_ n1_ n2_ ⊢
      have BK252 := n0_
      have BK254 := n1_
      have HB := n2_
      clear n0_ n1_ n2_
      have n0_ := Zh (Zb BK252.out)
      have n1_ := Zh (Zb BK254.out)
      have n2_ := Zh (Ze HB.out)
      clear BK252
      clear BK254
      clear HB
      have BK252 := n0_
      have BK254 := n1_
      have HB := n2_
      clear n0_ n1_ n2_
      refine start_ (n := 30) (S := fun w' => w'.cell? ⟨gb254, 0, none⟩ = some (.string ((rd_T55 l0_0 x8_1).f0)) ∧ w'.cell? ⟨gb254, 1, none⟩ = some (.slice A253_1 ((rd_T55 l0_0 x8_1).f1).length c253_1) ∧ w'.cell? ⟨gb254, 2, none⟩ = some (.slice A253_2 ((rd_T55 l0_0 x8_1).f2).length c253_2)) (ds := []) #[false, false, false, false, false, false, false, false, false, false, false, false, false, false, false, false, false, false, false, false, false, false, false, false, false, false, false, false, false, false] (by kernel_rfl) rfl rfl ⟨(blk_cell BK254.out 0).trans rfl, (blk_cell BK254.out 1).trans rfl, (blk_cell BK254.out 2).trans rfl⟩ (fun hHeld => ?_); refine with_tabW impl_isDisk.tab4 impl_isDisk.bits4 (fun HT_ HW_ => ?_)
      generalize w42.drew = w43 at BK252 BK254 HB hHeld ⊢
      refine SQ.pu 0 13 HT_ ?_
      refine SQ.tk 1 14 HT_ HW_ hHeld ?_
      refine one_ (i := 2) (N := some 15) #[true, true, true, false, false, false, false, false, false, false, false, false, false, false, false, false, false, false, false, false, false, false, false, false, false, false, false, false, false, false] rfl rfl (one_of HT_.out (by kernel_rfl)) (by decide) (fun K hK => ?_)
      refine goes_ Tryd.func93 (by kernel_rfl) rfl #[.string ((rd_T55 l0_0 x8_1).f0)] (by rfl) rfl rfl (by (try simp only [List.map_toArray, List.map_cons, List.map_nil]); first | done | rfl | (simp only [List.length_drop, List.length_take]; rfl)) ?_
      with_reducible refine (impl_isFileName.calls ((rd_T55 l0_0 x8_1).f0) false _ A7.out).mono ?_
      rintro e w44 ⟨rfl, hb⟩
      refine ⟨_, rfl, ?_⟩
      have n0_ := Zh (Zm (g := gb252) (o := .cells #[.slice (some ad253) l0_0.length c0_0] 28 (0, 0)) Zk hb)
      have n1_ := Zh (Zm (g := gb254) (o := .cells #[.string ((rd_T55 l0_0 x8_1).f0), .slice A253_1 ((rd_T55 l0_0 x8_1).f1).length c253_1, .slice A253_2 ((rd_T55 l0_0 x8_1).f2).length c253_2] 55 (0, 0)) Zk hb)
      have n2_ := Zh (Zl Zs hb)
      clear BK252
      clear BK254
      clear HB
      have BK252 := n0_
      have BK254 := n1_
      have HB := n2_
      clear n0_ n1_ n2_
      (try clear hb)
      (try clear hb2)
      (try clear hk)
      (try clear hi)
      refine hK.out _ _ ⟨(blk_cell BK254.out 0).trans rfl, (blk_cell BK254.out 1).trans rfl, (blk_cell BK254.out 2).trans rfl⟩ (fun hHeld => ?_)
      clear hK K
      refine norm_ (a' := ?_) ?_ ?_
      rotate_left
      ·
       show Act.put _ (some 15) _ = _
       simp only [Act.put, List.setIfInBounds_toArray, List.set_cons_zero, List.set_cons_succ, i64_w, i32_w]
       rfl
      refine SQ.pu 3 16 HT_ ?_
      refine SQ.pu 4 17 HT_ ?_
      refine SQ.of 5 18 HT_ ?_
      refine SQ.of 6 19 HT_ ?_
      refine SQ.of 7 20 HT_ ?_
      refine SQ.of 8 21 HT_ ?_
      refine SQ.of 9 22 HT_ ?_
      refine SQ.of 10 23 HT_ ?_
      refine SQ.of 11 24 HT_ ?_
      refine SQ.of 12 25 HT_ ?_
      refine SQ.pu 13 26 HT_ ?_
      refine SQ.pu 14 27 HT_ ?_
      refine SQ.of 15 28 HT_ ?_
      refine SQ.of 16 29 HT_ ?_
      refine SQ.of 17 30 HT_ ?_
      refine SQ.of 18 31 HT_ ?_
      refine SQ.of 19 32 HT_ ?_
      refine SQ.of 20 33 HT_ ?_
      refine SQ.of 21 34 HT_ ?_
      refine SQ.of 22 35 HT_ ?_
      refine SQ.of 23 36 HT_ ?_
      refine SQ.of 24 37 HT_ ?_
      refine SQ.of 25 38 HT_ ?_
      refine SQ.of 26 39 HT_ ?_
      refine SQ.of 27 40 HT_ ?_
      refine SQ.of 28 41 HT_ ?_
      refine SQ.pu 29 42 HT_ ?_
      refine done_ (done_of HT_.out (by kernel_rfl)) ?_
      try go_wp2
      go_ret
      exact ⟨by first | rfl | (simp [errW_none, errW_some] <;> rfl) | (simp [*, errW_none, errW_some] <;> rfl), by repeat (first | (with_reducible first | exact HB.out | apply Zf | apply Zd | apply Ze | refine Zg ?_ GE252.out | refine Zg ?_ GE254.out) | exact HB.out)⟩
     rw [if_neg c6] at H
     exact absurd H (by simp)
    rw [if_neg c5] at H
    exact absurd H (by simp)
   rw [if_neg c4] at H
   have c4b0 : decide (x8_1 < (l0_0.length : Int)) = false := decide_eq_false c4
   clear c4
   obtain rfl := Option.some.inj H
   have hcz45_0 : wr.cell? ⟨gb252, 0, none⟩ = some (.slice A0_0 l0_0.length c0_0) := (blk_cell BK252.out 0).trans rfl
   have hfz45_0 := Zn BK252.out 0
   go_wp2
   go_ret
   exact ⟨by first | rfl | (simp [errW_none, errW_some] <;> rfl) | (simp [*, errW_none, errW_some] <;> rfl), by repeat (first | (with_reducible first | exact HB.out | apply Zf | apply Zd | apply Ze | refine Zg ?_ GE252.out) | exact HB.out)⟩
end Go.Proofs.YtcgojdhbphocgaaDoor.F

namespace Go.Proofs.YtcgojdhbphocgaaDoor.F
open Go.RowKit Go.Proofs.YtcgojdhbphocgaaDoorW.PrintWords Go.Proofs.YtcgojdhbphocgaaDoorW.PrintLast Go.Proofs.YtcgojdhbphocgaaDoorW.PrintMore
open Go.Proofs.YtcgojdhbphocgaaDoor
set_option linter.unusedVariables false
set_option linter.unusedSimpArgs false
def impl_appendFile.fin (k : Nat) (l0_0 p : List S55) (a1 : ByteArray) (d : List Int) : Option (List S55 × Bool) := (impl_fileOf.f p a1).bind fun i => if 0 ≤ i then (if i < (p.length : Int) then (if (rd_T55 p i).f2.length + d.length ≤ 140737488355328 then (impl_isDisk.f k (p.set i.toNat ⟨(rd_T55 p i).f0, (rd_T55 p i).f1, (rd_T55 p i).f2 ++ d⟩)).bind fun t => if t = true then some (p.set i.toNat ⟨(rd_T55 p i).f0, (rd_T55 p i).f1, (rd_T55 p i).f2 ++ d⟩, true) else (impl_copyDisk.f k l0_0).bind fun o => some (o, false) else none) else none) else none
def impl_appendFile.f (k : Nat) (l0_0 : List S55) (a1 : ByteArray) (d : List Int) : Option (List S55 × Bool) := (impl_copyDisk.f k l0_0).bind fun o => (impl_isDisk.f k l0_0).bind fun t => if t = true then (impl_isFileName.f a1).bind fun n => if n = true then (impl_fileOf.f o a1).bind fun j => if j < 0 then (if (o.length + 1) * 64 ≤ 140737488355328 then impl_appendFile.fin k l0_0 (insM o ⟨a1, [], []⟩) a1 d else none) else impl_appendFile.fin k l0_0 o a1 d else some (o, false) else some (o, false)
theorem cell_blk {w w1 : World} {g o : Nat} (h : w1.heap[g]? = w.heap[g]?) : w1.cell? ⟨g, o, none⟩ = w.cell? ⟨g, o, none⟩ := by
  simp only [World.cell?, h]
theorem frozen_blk {w w1 : World} {g o : Nat} (h : w1.heap[g]? = w.heap[g]?) : w1.frozen? ⟨g, o, none⟩ = w.frozen? ⟨g, o, none⟩ := by
  simp only [World.frozen?, h]
theorem blk_lt_of {w : World} {g o : Nat} {v : Value} (h : w.cell? ⟨g, o, none⟩ = some v) : g < w.heap.size := Zi w _ h
set_option maxHeartbeats 8000000 in
set_option maxRecDepth 100000 in
theorem impl_appendFile.calls (k : Nat) (A0_0 : Option Addr) (c0_0 : Nat) (l0_0 : List S55) (a1 : ByteArray) (A2 : Option Addr) (c2 : Nat) (l2 : List Int) (r1 : List S55) (r2 : Bool) (w : World) (hr0_0 : Kd.C k55 w A0_0 l0_0.length l0_0) (hc0_0 : l0_0.length ≤ c0_0) (hr2 : Kd.C (Kd.int .u8) w A2 l2.length l2) (hc2 : l2.length ≤ c2) (h : impl_appendFile.f k l0_0 a1 l2 = some (r1, r2)) :
    Calls Tryd.prog 61 #[.agg #[.slice A0_0 l0_0.length c0_0], .string a1, .slice A2 l2.length c2] w fun e w' => ∃ v0_ : Value, e = .returned (.tuple #[.agg #[v0_], .bool r2]) ∧ Kd.S k55 55 w' w.heap.size (fun _ => True) v0_ r1 ∧ Below w.heap.size w w' := by
  have HR := Zh hr0_0
  have HC := Zh hc0_0
  have HR2 := Zh hr2
  have HC2 := Zh hc2
  clear hr0_0 hc0_0 hr2 hc2
  have ST := Zh (LW.St.start w)
  have hu28 := Tryd.underlying28
  have hu55 := Tryd.underlying55
  unfold impl_appendFile.f at h
  replace h := Option.bind_eq_some_iff.mp h
  obtain ⟨o, HA1, h⟩ := h
  replace h := Option.bind_eq_some_iff.mp h
  obtain ⟨t, HA2, h⟩ := h
  replace HA1 := Zh HA1
  replace HA2 := Zh HA2
  have H := Zh h
  clear h
  go_enter Tryd.func61, Tryd.ntmps61
  go_wp2_with fail
  replace ST := Zh (ST.out.alloc #[.slice A0_0 l0_0.length c0_0] 28 (g := w.heap.size) rfl)
  replace ST := Zh (ST.out.alloc #[.slice none 0 0] 28 (g := w.heap.size + 1) (by simp))
  with_reducible refine (impl_copyDisk.calls k _ _ l0_0 o _ (Kd.C_below HR.out ST.out.b) HC.out HA1.out).mono ?_
  rintro e w1 ⟨v1, rfl, ho, hb⟩
  obtain ⟨A1, c1, rfl⟩ := Kd.S_slice ho
  replace ST := Zh (ST.out.row hb ho)
  clear hb ho
  have hc1 := ST.out.cell 2 rfl 0 (u := .slice A0_0 l0_0.length c0_0) rfl
  have hl1 := ST.out.lt 2 rfl
  go_wp2_with fail
  replace ST := Zh (ST.out.alloc #[.slice A1 o.length c1] 28 (g := w1.heap.size) rfl)
  with_reducible refine (impl_isDisk.calls k _ _ l0_0 t _ (Kd.C_below HR.out ST.out.b) HC.out HA2.out).mono ?_
  rintro e w3 ⟨rfl, hb⟩
  replace ST := Zh (ST.out.step hb)
  clear hb hc1 hl1
  have h := H.out
  clear H
  by_cases ct : t = true
  · subst ct
    rw [if_pos rfl] at h
    replace h := Option.bind_eq_some_iff.mp h
    obtain ⟨n, HA3, h⟩ := h
    replace HA3 := Zh HA3
    have H := Zh h
    clear h
    go_wp2_with fail
    with_reducible refine (impl_isFileName.calls a1 n _ HA3.out).mono ?_
    rintro e w4 ⟨rfl, hb⟩
    replace ST := Zh (ST.out.step hb)
    clear hb
    have h := H.out
    clear H
    by_cases cn : n = true
    · subst cn
      rw [if_pos rfl] at h
      replace h := Option.bind_eq_some_iff.mp h
      obtain ⟨j, HA4, h⟩ := h
      replace HA4 := Zh HA4
      have H := Zh h
      clear h
      have hc2 := ST.out.cell 0 rfl 0 (u := .slice A1 o.length c1) rfl
      have hl2 := ST.out.lt 0 rfl
      go_wp2_with fail
      with_reducible refine (impl_fileOf.calls _ _ o a1 j _ (ST.out.reads 1 rfl).2.2 (ST.out.reads 1 rfl).2.1 HA4.out).mono ?_
      rintro e w5 ⟨rfl, hb⟩
      replace ST := Zh (ST.out.step hb)
      clear hb hc2 hl2
      have hc2 := ST.out.cell 0 rfl 0 (u := .slice A1 o.length c1) rfl
      have hl2 := ST.out.lt 0 rfl
      have hf2 := ST.out.frozen 0 rfl 0
      have h := H.out
      clear H
      by_cases cj : j < 0
      · rw [if_pos cj] at h
        have cjb : decide (j < 0) = true := decide_eq_true cj
        clear cj
        by_cases cq : (o.length + 1) * 64 ≤ 140737488355328
        · rw [if_pos cq] at h
          have HCQ := Zh cq
          have H := Zh h
          clear h cq
          go_wp2_with fail
          refine (impl_withFile.calls _ (fun _ => False) _ o ⟨a1, [], []⟩ (.slice none 0 0) (.slice none 0 0) w _ ST.out.b (ST.out.own 1 rfl) HCQ.out (k55_mkM _ _ _ (⟨a1, [], []⟩ : S55) (Kd.R_nil _ _ _ _ _) (Kd.R_nil _ _ _ _ _) AP.nil_ne) (fun k hk => hk.elim)).mono ?_
          rintro e w6 ⟨v', rfl, hS, hB6, hK6⟩
          obtain ⟨A6, c6, hv6⟩ := Kd.S_slice hS
          obtain ⟨q, hq⟩ : ∃ q, q = insM o ⟨a1, [], []⟩ := ⟨_, rfl⟩
          rw [← hq] at hS hv6
          subst hv6
          have hST := ST.out.grow 1 rfl (LW.row k55 55 w.heap.size (.slice A6 q.length c6) q _) (fun k hk => by
            rcases hk with a | a | a
            · exact .inl a
            · exact a.elim
            exact .inr a) hS hB6 hK6
          replace ST := Zh hST
          have H2 := Zh (show impl_appendFile.fin k l0_0 q a1 l2 = some (r1, r2) by rw [hq]; exact H.out)
          clear hST hS hB6 hK6 hq hc2 hl2 hf2 H
          have hc2 := ST.out.cell 0 rfl 0 (u := .slice A1 o.length c1) rfl
          have hl2 := ST.out.lt 0 rfl
          have hf2 := ST.out.frozen 0 rfl 0
          go_upto_region 6 with (fail)
          replace ST := Zh (ST.out.set 0 rfl 0 (.slice A6 q.length c6))
          generalize w6.setCell ⟨w1.heap.size, 0, none⟩ (.slice A6 q.length c6) = wY at ST ⊢
          have h := H2.out
          clear H2
          unfold impl_appendFile.fin at h
          replace h := Option.bind_eq_some_iff.mp h
          obtain ⟨i, HA5, h⟩ := h
          replace HA5 := Zh HA5
          by_cases ci : 0 ≤ i
          · rw [if_pos ci] at h
            by_cases cl : i < (q.length : Int)
            · rw [if_pos cl] at h
              by_cases cs : (rd_T55 q i).f2.length + l2.length ≤ 140737488355328
              · rw [if_pos cs] at h
                replace h := Option.bind_eq_some_iff.mp h
                obtain ⟨t2, HA6, h⟩ := h
                replace HA6 := Zh HA6
                have H := Zh h
                have HI0 := Zh ci
                have HIL := Zh cl
                have HSZ := Zh cs
                clear h cs hc2 hl2 hf2
                have p0 := eq_true ci
                have p1 := eq_true cl
                clear ci cl
                obtain ⟨g, cg, hv, _, _, _⟩ := Kd.S_form (ST.out.own 1 rfl) (by have := HI0.out; have := HIL.out; omega)
                injection hv with hv1 hv2 hv3
                subst hv1
                clear hv2 hv3
                replace ST := Zh ST.out.drew
                refine start_ (n := 7) (S := fun w' => w'.cell? ⟨w1.heap.size, 0, none⟩ = some (.slice (some ⟨g, 0, none⟩) q.length c6)) (ds := []) #[false, false, false, false, false, false, false] (by kernel_rfl) rfl rfl (ST.out.cell 0 rfl 0 rfl) (fun hHeld => ?_)
                generalize wY.drew = w8 at ST hHeld ⊢
                refine pure_ (i := 0) (N := some 29) (v := ?_) (a' := ?_) #[true, false, false, false, false, false, false] rfl rfl (by kernel_rfl) (fun _ _ _ h => h) (Or.inl ⟨by rfl, ?_⟩) ?_ ?_
                rotate_left
                · intro w'
                  go_simp
                  with_reducible rfl
                rotate_left
                · simp only [Act.put, List.setIfInBounds_toArray, List.set_cons_zero, List.set_cons_succ, i64_w, i32_w]
                  rfl
                refine pure_ (i := 3) (N := some 32) (v := ?_) (a' := ?_) #[true, false, false, true, false, false, false] rfl rfl (by kernel_rfl) (fun _ _ _ h => h) (Or.inl ⟨by rfl, ?_⟩) ?_ ?_
                rotate_left
                · intro w'
                  go_simp
                  with_reducible rfl
                rotate_left
                · simp only [Act.put, List.setIfInBounds_toArray, List.set_cons_zero, List.set_cons_succ, i64_w, i32_w]
                  rfl
                refine take_ (i := 1) (N := some 30) (v := ?_) (a' := ?_) #[true, true, false, true, false, false, false] rfl rfl (by kernel_rfl) (fun _ _ _ h => h) (Or.inl ⟨by rfl, ?_⟩) hHeld ?_ ?_
                rotate_left
                · rintro w' s0
                  go_simp
                  with_reducible rfl
                rotate_left
                · simp only [Act.put, List.setIfInBounds_toArray, List.set_cons_zero, List.set_cons_succ, i64_w, i32_w]
                  rfl
                refine take_ (i := 2) (N := some 31) (v := ?_) (a' := ?_) #[true, true, true, true, false, false, false] rfl rfl (by kernel_rfl) (fun _ _ _ h => h) (Or.inl ⟨by rfl, ?_⟩) hHeld ?_ ?_
                rotate_left
                · rintro w' s0
                  go_simp
                  with_reducible rfl
                rotate_left
                · simp only [Act.put, List.setIfInBounds_toArray, List.set_cons_zero, List.set_cons_succ, i64_w, i32_w]
                  rfl
                refine one_ (i := 4) (N := some 33) #[true, true, true, true, true, false, false] rfl rfl (by kernel_rfl) (by decide) (fun K hK => ?_)
                refine goes_ Tryd.func74 (by kernel_rfl) rfl #[.agg #[.slice (some ⟨g, 0, none⟩) q.length c6], .string a1] (by rfl) rfl rfl (by (try simp only [List.map_toArray, List.map_cons, List.map_nil]); first | done | rfl) ?_
                with_reducible refine (impl_fileOf.calls _ _ q a1 i _ (ST.out.reads 1 rfl).2.2 (ST.out.reads 1 rfl).2.1 HA5.out).mono ?_
                rintro e w9 ⟨rfl, hb⟩
                refine ⟨_, rfl, ?_⟩
                replace ST := Zh (ST.out.step hb)
                clear hb
                refine hK.out _ _ (ST.out.cell 0 rfl 0 rfl) (fun hHeld => ?_)
                clear hK K
                refine norm_ (a' := ?_) ?_ ?_
                rotate_left
                · show Act.put _ (some 33) _ = _
                  simp only [Act.put, List.setIfInBounds_toArray, List.set_cons_zero, List.set_cons_succ, i64_w, i32_w]
                  rfl
                refine pure_ (i := 5) (N := some 34) (v := ?_) (a' := ?_) #[true, true, true, true, true, true, false] rfl rfl (by kernel_rfl) (fun _ _ _ h => h) (Or.inl ⟨by rfl, ?_⟩) ?_ ?_
                rotate_left
                · intro w'
                  go_simp
                  with_reducible rfl
                rotate_left
                · simp only [Act.put, List.setIfInBounds_toArray, List.set_cons_zero, List.set_cons_succ, i64_w, i32_w]
                  rfl
                refine pure_ (i := 6) (N := some 9) (v := ?_) (a' := ?_) #[true, true, true, true, true, true, true] rfl rfl (by kernel_rfl) (fun _ _ _ h => h) (Or.inl ⟨by rfl, ?_⟩) ?_ ?_
                rotate_left
                · intro w'
                  go_simp
                  with_reducible rfl
                rotate_left
                · simp only [Act.put, List.setIfInBounds_toArray, List.set_cons_zero, List.set_cons_succ, i64_w, i32_w]
                  rfl
                refine done_ (by kernel_rfl) ?_
                clear hHeld
                obtain ⟨u1, u2, ok2, hy0, hy1, hy2, hfz, hR2, hng, hFu, back⟩ := lendLoose ST.out 1 rfl i HI0.out HIL.out
                obtain ⟨B2, d2, rfl⟩ := Kd.R_slice hR2
                have HBK := Zh back
                have HRR := Zh hR2
                have hgl := blk_lt_of hy2
                have hc2 := ST.out.cell 0 rfl 0 (u := .slice (some ⟨g, 0, none⟩) q.length c6) rfl
                have hl2 := ST.out.lt 0 rfl
                have HNG := Zh hng
                have HFU := Zh hFu
                clear back hR2 hng hFu p0 p1
                go_wp2_with (at_builtin; refine Kd.R_append_rows (Kd.int .u8) (w0 := w) w.heap.size rfl _ _ 41 5 (.int .u8 0) 1 rfl Tryd.underlying41 info5 rfl (by decide) (by omega) _ (rd_T55 q i).f2 l2 _ _ _ (fun k => ok2 k ∨ w9.heap.size ≤ k) (fun _ => False) rfl rfl (Kd.R_mono HRR.out (fun k hk => .inl hk)) (Kd.C_below HR2.out ST.out.b) (fun _ _ h => h) (fun _ h => h.elim) (fun k hk => .inr hk) ST.out.b ST.out.b.size (by have := HSZ.out; omega) ?_; intro v1 w10 q1 q2 q3 q4; obtain ⟨A3, c3, rfl⟩ := Kd.R_slice q1; have hgb := q3.block g hgl (fun he => HNG.out g (HRR.out.1 g he.symm) rfl); have hgb8 := q3.block _ hl2 (fun he => LW.Its.disj ST.out.i 1 0 _ _ (by decide) rfl rfl _ (HFU.out _ he.symm) rfl); have hcg : w10.cell? ⟨g, i.toNat * 3 + 2, none⟩ = some (.slice B2 (rd_T55 q i).f2.length d2) := (cell_blk hgb).trans hy2; have hfg : w10.frozen? ⟨g, i.toNat * 3 + 2, none⟩ = false := (frozen_blk hgb).trans hfz; have hc8 : w10.cell? ⟨w1.heap.size, 0, none⟩ = some (.slice (some ⟨g, 0, none⟩) q.length c6) := (cell_blk hgb8).trans hc2; have hg8 : g ≠ w1.heap.size := fun he => LW.Its.disj ST.out.i 1 0 _ _ (by decide) rfl rfl g ((Kd.S_R (ST.out.own 1 rfl)).1 g (by simp [Value.ownBlock])) he; have hg8' := hg8.symm; have Q := Zh (And.intro q1 (And.intro q2 (And.intro q3 q4))); clear q1 q2 q3 q4 hgb hgb8 hc2 hl2 hy0 hy1 hy2 hfz hgl)
                obtain ⟨q1, q2, q3, q4⟩ := Q.out
                rw [List.length_append] at q1 q4
                have hST := HBK.out (.slice A3 ((rd_T55 q i).f2.length + l2.length) c3) w10 ((rd_T55 q i).f2 ++ l2) (fun ok hok => Kd.R_mono (Kd.R_tight rfl q1) (fun k hk => hok k hk.symm)) q2 q3 q4
                clear q1 q2 q3 q4 Q HBK hcg hfg hc8 hg8 hg8' HNG HFU HRR
                obtain ⟨p', hp'⟩ : ∃ p', p' = q.set i.toNat (⟨(rd_T55 q i).f0, (rd_T55 q i).f1, (rd_T55 q i).f2 ++ l2⟩ : S55) := ⟨_, rfl⟩
                have hpl : p'.length = q.length := by rw [hp', List.length_set]
                rw [← hp'] at hST
                replace ST := Zh hST
                have HA7 := Zh (show impl_isDisk.f k p' = some t2 by rw [hp']; exact HA6.out)
                have H3 := Zh (show (if t2 = true then some (p', true) else (impl_copyDisk.f k l0_0).bind fun o => some (o, false)) = some (r1, r2) by rw [hp']; exact H.out)
                clear hST hp' HA6 H
                generalize w10.setCell ⟨g, i.toNat * 3 + 2, none⟩ (.slice A3 ((rd_T55 q i).f2.length + l2.length) c3) = w11 at ST ⊢
                have hcall := impl_isDisk.calls k (some ⟨g, 0, none⟩) c6 p' t2 w11 (ST.out.reads 1 rfl).2.2 (by have := (ST.out.reads 1 rfl).2.1; omega) HA7.out
                rw [hpl] at hcall
                clear hpl
                refine hcall.mono ?_
                rintro e w12 ⟨rfl, hb⟩
                replace ST := Zh (ST.out.step hb)
                clear hb hcall
                have h := H3.out
                clear H3
                by_cases ct2 : t2 = true
                · subst ct2
                  rw [if_pos rfl] at h
                  obtain ⟨rfl, rfl⟩ := Prod.mk.inj (Option.some.inj h)
                  clear h
                  have hc2 := ST.out.cell 0 rfl 0 (u := .slice (some ⟨g, 0, none⟩) q.length c6) rfl
                  have hl2 := ST.out.lt 0 rfl
                  have hc3 := ST.out.cell 2 rfl 0 (u := .slice none 0 0) rfl
                  have hl3 := ST.out.lt 2 rfl
                  have hf3 := ST.out.frozen 2 rfl 0
                  go_wp2_with fail
                  replace ST := Zh (ST.out.set 2 rfl 0 (.slice (some ⟨g, 0, none⟩) q.length c6))
                  refine bodyPost_ret (results_ct rfl _ _ (w.heap.size + 1) 28 #[.slice (some ⟨g, 0, none⟩) q.length c6] (0, 0) _ rfl (ST.out.blk 2 rfl) Tryd.underlying28 rfl (by kernel_rfl)) rfl ?_
                  exact ⟨_, rfl, Kd.S_mono (ST.out.own 1 rfl) (fun _ _ => trivial), ST.out.b⟩
                rw [if_neg ct2] at h
                obtain rfl : t2 = false := by simpa using ct2
                replace h := Option.bind_eq_some_iff.mp h
                obtain ⟨o2, HAo, h⟩ := h
                obtain ⟨rfl, rfl⟩ := Prod.mk.inj (Option.some.inj h)
                clear h ct2
                replace HAo := Zh HAo
                have hc1 := ST.out.cell 3 rfl 0 (u := .slice A0_0 l0_0.length c0_0) rfl
                have hl1 := ST.out.lt 3 rfl
                go_wp2_with fail
                with_reducible refine (impl_copyDisk.calls k _ _ l0_0 o2 _ (Kd.C_below HR.out ST.out.b) HC.out HAo.out).mono ?_
                rintro e w13 ⟨v9, rfl, ho, hb⟩
                obtain ⟨A9, c9, rfl⟩ := Kd.S_slice ho
                replace ST := Zh (ST.out.row hb ho)
                clear hb ho hc1 hl1
                have hc3 := ST.out.cell 3 rfl 0 (u := .slice none 0 0) rfl
                have hl3 := ST.out.lt 3 rfl
                have hf3 := ST.out.frozen 3 rfl 0
                go_wp2
                replace ST := Zh (ST.out.set 3 rfl 0 (.slice A9 o2.length c9))
                refine bodyPost_ret (results_ct rfl _ _ (w.heap.size + 1) 28 #[.slice A9 o2.length c9] (0, 0) _ rfl (ST.out.blk 3 rfl) Tryd.underlying28 rfl (by kernel_rfl)) rfl ?_
                exact ⟨_, rfl, Kd.S_mono (ST.out.own 0 rfl) (fun _ _ => trivial), ST.out.b⟩
              rw [if_neg cs] at h; exact absurd h (by simp)
            rw [if_neg cl] at h; exact absurd h (by simp)
          rw [if_neg ci] at h; exact absurd h (by simp)
        rw [if_neg cq] at h; exact absurd h (by simp)
      rw [if_neg cj] at h
      have cjb : decide (j < 0) = false := decide_eq_false cj
      clear cj
      have H2 := Zh h
      clear h
      go_upto_region 6 with (fail)
      generalize hY : w5 = wY at ST hc2 hl2 hf2 ⊢
      clear hY
      have h := H2.out
      clear H2
      unfold impl_appendFile.fin at h
      replace h := Option.bind_eq_some_iff.mp h
      obtain ⟨i, HA5, h⟩ := h
      replace HA5 := Zh HA5
      by_cases ci : 0 ≤ i
      · rw [if_pos ci] at h
        by_cases cl : i < (o.length : Int)
        · rw [if_pos cl] at h
          by_cases cs : (rd_T55 o i).f2.length + l2.length ≤ 140737488355328
          · rw [if_pos cs] at h
            replace h := Option.bind_eq_some_iff.mp h
            obtain ⟨t2, HA6, h⟩ := h
            replace HA6 := Zh HA6
            have H := Zh h
            have HI0 := Zh ci
            have HIL := Zh cl
            have HSZ := Zh cs
            clear h cs hc2 hl2 hf2
            have p0 := eq_true ci
            have p1 := eq_true cl
            clear ci cl
            obtain ⟨g, cg, hv, _, _, _⟩ := Kd.S_form (ST.out.own 1 rfl) (by have := HI0.out; have := HIL.out; omega)
            injection hv with hv1 hv2 hv3
            subst hv1
            clear hv2 hv3
            replace ST := Zh ST.out.drew
            refine start_ (n := 7) (S := fun w' => w'.cell? ⟨w1.heap.size, 0, none⟩ = some (.slice (some ⟨g, 0, none⟩) o.length c1)) (ds := []) #[false, false, false, false, false, false, false] (by kernel_rfl) rfl rfl (ST.out.cell 0 rfl 0 rfl) (fun hHeld => ?_)
            generalize wY.drew = w8 at ST hHeld ⊢
            refine pure_ (i := 0) (N := some 29) (v := ?_) (a' := ?_) #[true, false, false, false, false, false, false] rfl rfl (by kernel_rfl) (fun _ _ _ h => h) (Or.inl ⟨by rfl, ?_⟩) ?_ ?_
            rotate_left
            · intro w'
              go_simp
              with_reducible rfl
            rotate_left
            · simp only [Act.put, List.setIfInBounds_toArray, List.set_cons_zero, List.set_cons_succ, i64_w, i32_w]
              rfl
            refine pure_ (i := 3) (N := some 32) (v := ?_) (a' := ?_) #[true, false, false, true, false, false, false] rfl rfl (by kernel_rfl) (fun _ _ _ h => h) (Or.inl ⟨by rfl, ?_⟩) ?_ ?_
            rotate_left
            · intro w'
              go_simp
              with_reducible rfl
            rotate_left
            · simp only [Act.put, List.setIfInBounds_toArray, List.set_cons_zero, List.set_cons_succ, i64_w, i32_w]
              rfl
            refine take_ (i := 1) (N := some 30) (v := ?_) (a' := ?_) #[true, true, false, true, false, false, false] rfl rfl (by kernel_rfl) (fun _ _ _ h => h) (Or.inl ⟨by rfl, ?_⟩) hHeld ?_ ?_
            rotate_left
            · rintro w' s0
              go_simp
              with_reducible rfl
            rotate_left
            · simp only [Act.put, List.setIfInBounds_toArray, List.set_cons_zero, List.set_cons_succ, i64_w, i32_w]
              rfl
            refine take_ (i := 2) (N := some 31) (v := ?_) (a' := ?_) #[true, true, true, true, false, false, false] rfl rfl (by kernel_rfl) (fun _ _ _ h => h) (Or.inl ⟨by rfl, ?_⟩) hHeld ?_ ?_
            rotate_left
            · rintro w' s0
              go_simp
              with_reducible rfl
            rotate_left
            · simp only [Act.put, List.setIfInBounds_toArray, List.set_cons_zero, List.set_cons_succ, i64_w, i32_w]
              rfl
            refine one_ (i := 4) (N := some 33) #[true, true, true, true, true, false, false] rfl rfl (by kernel_rfl) (by decide) (fun K hK => ?_)
            refine goes_ Tryd.func74 (by kernel_rfl) rfl #[.agg #[.slice (some ⟨g, 0, none⟩) o.length c1], .string a1] (by rfl) rfl rfl (by (try simp only [List.map_toArray, List.map_cons, List.map_nil]); first | done | rfl) ?_
            with_reducible refine (impl_fileOf.calls _ _ o a1 i _ (ST.out.reads 1 rfl).2.2 (ST.out.reads 1 rfl).2.1 HA5.out).mono ?_
            rintro e w9 ⟨rfl, hb⟩
            refine ⟨_, rfl, ?_⟩
            replace ST := Zh (ST.out.step hb)
            clear hb
            refine hK.out _ _ (ST.out.cell 0 rfl 0 rfl) (fun hHeld => ?_)
            clear hK K
            refine norm_ (a' := ?_) ?_ ?_
            rotate_left
            · show Act.put _ (some 33) _ = _
              simp only [Act.put, List.setIfInBounds_toArray, List.set_cons_zero, List.set_cons_succ, i64_w, i32_w]
              rfl
            refine pure_ (i := 5) (N := some 34) (v := ?_) (a' := ?_) #[true, true, true, true, true, true, false] rfl rfl (by kernel_rfl) (fun _ _ _ h => h) (Or.inl ⟨by rfl, ?_⟩) ?_ ?_
            rotate_left
            · intro w'
              go_simp
              with_reducible rfl
            rotate_left
            · simp only [Act.put, List.setIfInBounds_toArray, List.set_cons_zero, List.set_cons_succ, i64_w, i32_w]
              rfl
            refine pure_ (i := 6) (N := some 9) (v := ?_) (a' := ?_) #[true, true, true, true, true, true, true] rfl rfl (by kernel_rfl) (fun _ _ _ h => h) (Or.inl ⟨by rfl, ?_⟩) ?_ ?_
            rotate_left
            · intro w'
              go_simp
              with_reducible rfl
            rotate_left
            · simp only [Act.put, List.setIfInBounds_toArray, List.set_cons_zero, List.set_cons_succ, i64_w, i32_w]
              rfl
            refine done_ (by kernel_rfl) ?_
            clear hHeld
            obtain ⟨u1, u2, ok2, hy0, hy1, hy2, hfz, hR2, hng, hFu, back⟩ := lendLoose ST.out 1 rfl i HI0.out HIL.out
            obtain ⟨B2, d2, rfl⟩ := Kd.R_slice hR2
            have HBK := Zh back
            have HRR := Zh hR2
            have hgl := blk_lt_of hy2
            have hc2 := ST.out.cell 0 rfl 0 (u := .slice (some ⟨g, 0, none⟩) o.length c1) rfl
            have hl2 := ST.out.lt 0 rfl
            have HNG := Zh hng
            have HFU := Zh hFu
            clear back hR2 hng hFu p0 p1
            go_wp2_with (at_builtin; refine Kd.R_append_rows (Kd.int .u8) (w0 := w) w.heap.size rfl _ _ 41 5 (.int .u8 0) 1 rfl Tryd.underlying41 info5 rfl (by decide) (by omega) _ (rd_T55 o i).f2 l2 _ _ _ (fun k => ok2 k ∨ w9.heap.size ≤ k) (fun _ => False) rfl rfl (Kd.R_mono HRR.out (fun k hk => .inl hk)) (Kd.C_below HR2.out ST.out.b) (fun _ _ h => h) (fun _ h => h.elim) (fun k hk => .inr hk) ST.out.b ST.out.b.size (by have := HSZ.out; omega) ?_; intro v1 w10 q1 q2 q3 q4; obtain ⟨A3, c3, rfl⟩ := Kd.R_slice q1; have hgb := q3.block g hgl (fun he => HNG.out g (HRR.out.1 g he.symm) rfl); have hgb8 := q3.block _ hl2 (fun he => LW.Its.disj ST.out.i 1 0 _ _ (by decide) rfl rfl _ (HFU.out _ he.symm) rfl); have hcg : w10.cell? ⟨g, i.toNat * 3 + 2, none⟩ = some (.slice B2 (rd_T55 o i).f2.length d2) := (cell_blk hgb).trans hy2; have hfg : w10.frozen? ⟨g, i.toNat * 3 + 2, none⟩ = false := (frozen_blk hgb).trans hfz; have hc8 : w10.cell? ⟨w1.heap.size, 0, none⟩ = some (.slice (some ⟨g, 0, none⟩) o.length c1) := (cell_blk hgb8).trans hc2; have hg8 : g ≠ w1.heap.size := fun he => LW.Its.disj ST.out.i 1 0 _ _ (by decide) rfl rfl g ((Kd.S_R (ST.out.own 1 rfl)).1 g (by simp [Value.ownBlock])) he; have hg8' := hg8.symm; have Q := Zh (And.intro q1 (And.intro q2 (And.intro q3 q4))); clear q1 q2 q3 q4 hgb hgb8 hc2 hl2 hy0 hy1 hy2 hfz hgl)
            obtain ⟨q1, q2, q3, q4⟩ := Q.out
            rw [List.length_append] at q1 q4
            have hST := HBK.out (.slice A3 ((rd_T55 o i).f2.length + l2.length) c3) w10 ((rd_T55 o i).f2 ++ l2) (fun ok hok => Kd.R_mono (Kd.R_tight rfl q1) (fun k hk => hok k hk.symm)) q2 q3 q4
            clear q1 q2 q3 q4 Q HBK hcg hfg hc8 hg8 hg8' HNG HFU HRR
            obtain ⟨p', hp'⟩ : ∃ p', p' = o.set i.toNat (⟨(rd_T55 o i).f0, (rd_T55 o i).f1, (rd_T55 o i).f2 ++ l2⟩ : S55) := ⟨_, rfl⟩
            have hpl : p'.length = o.length := by rw [hp', List.length_set]
            rw [← hp'] at hST
            replace ST := Zh hST
            have HA7 := Zh (show impl_isDisk.f k p' = some t2 by rw [hp']; exact HA6.out)
            have H3 := Zh (show (if t2 = true then some (p', true) else (impl_copyDisk.f k l0_0).bind fun o => some (o, false)) = some (r1, r2) by rw [hp']; exact H.out)
            clear hST hp' HA6 H
            generalize w10.setCell ⟨g, i.toNat * 3 + 2, none⟩ (.slice A3 ((rd_T55 o i).f2.length + l2.length) c3) = w11 at ST ⊢
            have hcall := impl_isDisk.calls k (some ⟨g, 0, none⟩) c1 p' t2 w11 (ST.out.reads 1 rfl).2.2 (by have := (ST.out.reads 1 rfl).2.1; omega) HA7.out
            rw [hpl] at hcall
            clear hpl
            refine hcall.mono ?_
            rintro e w12 ⟨rfl, hb⟩
            replace ST := Zh (ST.out.step hb)
            clear hb hcall
            have h := H3.out
            clear H3
            by_cases ct2 : t2 = true
            · subst ct2
              rw [if_pos rfl] at h
              obtain ⟨rfl, rfl⟩ := Prod.mk.inj (Option.some.inj h)
              clear h
              have hc2 := ST.out.cell 0 rfl 0 (u := .slice (some ⟨g, 0, none⟩) o.length c1) rfl
              have hl2 := ST.out.lt 0 rfl
              have hc3 := ST.out.cell 2 rfl 0 (u := .slice none 0 0) rfl
              have hl3 := ST.out.lt 2 rfl
              have hf3 := ST.out.frozen 2 rfl 0
              go_wp2_with fail
              replace ST := Zh (ST.out.set 2 rfl 0 (.slice (some ⟨g, 0, none⟩) o.length c1))
              refine bodyPost_ret (results_ct rfl _ _ (w.heap.size + 1) 28 #[.slice (some ⟨g, 0, none⟩) o.length c1] (0, 0) _ rfl (ST.out.blk 2 rfl) Tryd.underlying28 rfl (by kernel_rfl)) rfl ?_
              exact ⟨_, rfl, Kd.S_mono (ST.out.own 1 rfl) (fun _ _ => trivial), ST.out.b⟩
            rw [if_neg ct2] at h
            obtain rfl : t2 = false := by simpa using ct2
            replace h := Option.bind_eq_some_iff.mp h
            obtain ⟨o2, HAo, h⟩ := h
            obtain ⟨rfl, rfl⟩ := Prod.mk.inj (Option.some.inj h)
            clear h ct2
            replace HAo := Zh HAo
            have hc1 := ST.out.cell 3 rfl 0 (u := .slice A0_0 l0_0.length c0_0) rfl
            have hl1 := ST.out.lt 3 rfl
            go_wp2_with fail
            with_reducible refine (impl_copyDisk.calls k _ _ l0_0 o2 _ (Kd.C_below HR.out ST.out.b) HC.out HAo.out).mono ?_
            rintro e w13 ⟨v9, rfl, ho, hb⟩
            obtain ⟨A9, c9, rfl⟩ := Kd.S_slice ho
            replace ST := Zh (ST.out.row hb ho)
            clear hb ho hc1 hl1
            have hc3 := ST.out.cell 3 rfl 0 (u := .slice none 0 0) rfl
            have hl3 := ST.out.lt 3 rfl
            have hf3 := ST.out.frozen 3 rfl 0
            go_wp2
            replace ST := Zh (ST.out.set 3 rfl 0 (.slice A9 o2.length c9))
            refine bodyPost_ret (results_ct rfl _ _ (w.heap.size + 1) 28 #[.slice A9 o2.length c9] (0, 0) _ rfl (ST.out.blk 3 rfl) Tryd.underlying28 rfl (by kernel_rfl)) rfl ?_
            exact ⟨_, rfl, Kd.S_mono (ST.out.own 0 rfl) (fun _ _ => trivial), ST.out.b⟩
          rw [if_neg cs] at h; exact absurd h (by simp)
        rw [if_neg cl] at h; exact absurd h (by simp)
      rw [if_neg ci] at h; exact absurd h (by simp)
    rw [if_neg cn] at h
    obtain rfl : n = false := by simpa using cn
    clear cn
    obtain ⟨rfl, rfl⟩ := Prod.mk.inj (Option.some.inj h)
    clear h
    have hc2 := ST.out.cell 0 rfl 0 (u := .slice A1 o.length c1) rfl
    have hl2 := ST.out.lt 0 rfl
    have hc3 := ST.out.cell 2 rfl 0 (u := .slice none 0 0) rfl
    have hl3 := ST.out.lt 2 rfl
    have hf3 := ST.out.frozen 2 rfl 0
    go_wp2_with fail
    replace ST := Zh (ST.out.set 2 rfl 0 (.slice A1 o.length c1))
    refine bodyPost_ret (results_ct rfl _ _ (w.heap.size + 1) 28 #[.slice A1 o.length c1] (0, 0) _ rfl (ST.out.blk 2 rfl) Tryd.underlying28 rfl (by kernel_rfl)) rfl ?_
    exact ⟨_, rfl, Kd.S_mono (ST.out.own 1 rfl) (fun _ _ => trivial), ST.out.b⟩
  rw [if_neg ct] at h
  obtain rfl : t = false := by simpa using ct
  clear ct
  obtain ⟨rfl, rfl⟩ := Prod.mk.inj (Option.some.inj h)
  clear h
  have hc2 := ST.out.cell 0 rfl 0 (u := .slice A1 o.length c1) rfl
  have hl2 := ST.out.lt 0 rfl
  have hc3 := ST.out.cell 2 rfl 0 (u := .slice none 0 0) rfl
  have hl3 := ST.out.lt 2 rfl
  have hf3 := ST.out.frozen 2 rfl 0
  go_wp2_with fail
  replace ST := Zh (ST.out.set 2 rfl 0 (.slice A1 o.length c1))
  refine bodyPost_ret (results_ct rfl _ _ (w.heap.size + 1) 28 #[.slice A1 o.length c1] (0, 0) _ rfl (ST.out.blk 2 rfl) Tryd.underlying28 rfl (by kernel_rfl)) rfl ?_
  exact ⟨_, rfl, Kd.S_mono (ST.out.own 1 rfl) (fun _ _ => trivial), ST.out.b⟩
end Go.Proofs.YtcgojdhbphocgaaDoor.F
