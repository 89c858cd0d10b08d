/- Merged texts below the law FnWal: Go functions as Lean functions, their contracts, and plain lemmas. -/
import Derived.Test.YtcgojdhbphocgaaDoorVFnWalL
import Derived.Test.YtcgojdhbphocgaaDoorQFnWal36
import Derived.Test.YtcgojdhbphocgaaDoorQFnWal32
import Derived.Test.YtcgojdhbphocgaaDoorQFnWal25
namespace Go.Proofs.YtcgojdhbphocgaaDoor.WD
set_option linter.unusedVariables false
set_option linter.unusedSimpArgs false
open Go.RowKit Go.Proofs.YtcgojdhbphocgaaDoor.F Go.Proofs.YtcgojdhbphocgaaDoor.PK Go.Proofs.YtcgojdhbphocgaaDoorW.PrintWords Go.Proofs.YtcgojdhbphocgaaDoorW.PrintLast Go.Proofs.YtcgojdhbphocgaaDoorW.PrintMore
open Go.Proofs.YtcgojdhbphocgaaDoor.DK Go.Proofs.YtcgojdhbphocgaaDoor.GT Go.Proofs.YtcgojdhbphocgaaDoor.BY Go.Proofs.YtcgojdhbphocgaaDoor.FR Go.Proofs.YtcgojdhbphocgaaDoor.SC Go.Proofs.YtcgojdhbphocgaaDoor.WL Go.Proofs.YtcgojdhbphocgaaDoor.DR
theorem dOnce (b : List Int) (i h n : Int) (hi : At b i) (hb : b.length ≤ 1048576) : ∃ x i' h', spec_l01Once.f b i h n = some (x, i', h') ∧ At b i' := by
  obtain ⟨x, i', h', e, _, _, _, g⟩ := dBelow b i h n hi hb
  exact ⟨_, i', h', by unfold spec_l01Once.f; rw [e]; rfl, g⟩
theorem dText (b : List Int) (i h : Int) (l : List ByteArray) (hi : At b i) (hb : b.length ≤ 1048576) (hl : 0 < l.length) : ∃ x i' h', spec_l01PickText.f b i h l = some (x, i', h') ∧ x ∈ l ∧ At b i' := by
  obtain ⟨x, i', h', e, h0, h1, _, h2⟩ := dBelow b i h (l.length : Int) hi hb
  unfold spec_l01PickText.f
  have hx := h1 (by omega)
  simp only [e, Option.bind_some, if_pos h0, if_pos hx]
  refine ⟨_, _, _, rfl, ?_, h2⟩
  have hn : x.toNat < l.length := by omega
  have : rdOf ByteArray.empty l x = l[x.toNat] := by
    have := getD_nat l ByteArray.empty x.toNat hn
    rw [Int.toNat_of_nonneg h0] at this
    exact this
  rw [this]
  exact List.getElem_mem hn
theorem inv_bd {l : List S55} {P : List (List Int)} (h : Inv l P) : l.length ≤ 8 ∧ wfD l ∧ wfB l := by
  have h8 := (disk_each h.d).1
  refine ⟨h8, fun y hy => ?_, h.b⟩
  obtain ⟨h1, h2⟩ := (disk_each h.d).2 y hy
  unfold nameM at h1
  rw [Bool.and_eq_true, decide_eq_true_iff] at h1
  omega
theorem dPay (c : List Int) (hc : c.length ≤ 1048576) (i h : Int) (hi : At c i) : ∃ b i1 h1 q i2 h2, spec_l01Below.f c i h 5 = some (b, i1, h1) ∧ Ev (fun k => spec_l01DrawBytes.f k c i1 h1 (wrap64 (1 + b))) (q, i2, h2) ∧ okQ q ∧ At c i2 := by
  obtain ⟨b, i1, h1, e1, b0, b1, _, g1⟩ := dBelow c i h 5 hi hc
  have b1 := b1 (by omega)
  obtain ⟨q, i2, h2, e2, q1, q2, g2⟩ := dBytes c (wrap64 (1 + b)) hc (by rw [w64 (by omega) (by omega)]; omega) (by rw [w64 (by omega) (by omega)]; omega) i1 h1 g1
  rw [w64 (by omega) (by omega)] at q1
  exact ⟨b, i1, h1, q, i2, h2, e1, e2, ⟨by omega, by omega, fun x hx => by have := q2 x hx; omega⟩, g2⟩
theorem dWalL (c : List Int) (hc : c.length ≤ 1048576) : ∀ (n : Nat) (i h : Int) (d : List S55) (P : List (List Int)), At c i → Inv d P → P.length + n ≤ 50 →
    ∃ d' P' i' h', Ev (fun k => spec_l04DrawWal.l0 k (n : Int) c i h d) (d', i', h') ∧ Inv d' P' ∧ P'.length ≤ P.length + n ∧ At c i' := by
  intro n
  induction n with
  | zero =>
    intro i h d P hi hI hn
    refine ⟨d, P, i, h, EvS ?_, hI, by omega, hi⟩
    simp only [spec_l04DrawWal.l0, if_neg (show ¬ ((0 : Nat) : Int) > 0 by omega)]
    exact EvN
  | succ n ih =>
    intro i h d P hi hI hn
    obtain ⟨x, i1, h1, e1, g1⟩ := dOnce c i h 4 hi hc
    obtain ⟨b, i2, h2, q, i3, h3, e2, e3, hq, g3⟩ := dPay c hc i1 h1 g1
    have hw : wrap64 (((n + 1 : Nat) : Int) - 1) = (n : Int) := by rw [w64 (by omega) (by omega)]; omega
    cases x with
    | true =>
      have hS := inv_sync hI
      obtain ⟨b1, b2, _⟩ := inv_bd hI
      obtain ⟨s1, s2, _⟩ := inv_bd hS
      have eS : Ev (fun k => spec_WalSync.f k d) (syncM d logS) := by
        unfold spec_WalSync.f
        exact (EvB (spec_sync d logS (by omega) b2)).2 EvN
      obtain ⟨d2, a1, a2, _⟩ := inv_append hS hq (by omega)
      have eA := spec_wap (syncM d logS).1 q (by omega) s2 (by have := hq.2.1; omega)
      rw [a1] at eA
      obtain ⟨d', P', i', h', r1, r2, r3, r4⟩ := ih i3 h3 d2 (P ++ [q]) g3 a2 (by rw [List.length_append, List.length_singleton]; omega)
      rw [List.length_append, List.length_singleton] at r3
      refine ⟨d', P', i', h', EvS ?_, r2, by omega, r4⟩
      simp only [spec_l04DrawWal.l0, if_pos (show ((n + 1 : Nat) : Int) > 0 by omega), e1, e2, Option.bind_some, if_true, EvB eS, EvB e3, EvB eA, hw]
      exact r1
    | false =>
      obtain ⟨b1, b2, _⟩ := inv_bd hI
      obtain ⟨d2, a1, a2, _⟩ := inv_append hI hq (by omega)
      have eA := spec_wap d q (by omega) b2 (by have := hq.2.1; omega)
      rw [a1] at eA
      obtain ⟨d', P', i', h', r1, r2, r3, r4⟩ := ih i3 h3 d2 (P ++ [q]) g3 a2 (by rw [List.length_append, List.length_singleton]; omega)
      rw [List.length_append, List.length_singleton] at r3
      refine ⟨d', P', i', h', EvS ?_, r2, by omega, r4⟩
      simp only [spec_l04DrawWal.l0, if_pos (show ((n + 1 : Nat) : Int) > 0 by omega), e1, e2, Option.bind_some, Bool.false_eq_true, if_false, EvB e3, EvB eA, hw]
      exact r1
theorem inv_nil : Inv [] [] := ⟨by decide +kernel, fun y hy => (by cases hy), fun y hy => (by cases hy), by decide, .inl ⟨rfl, rfl, by decide⟩⟩
theorem dWal0 (c : List Int) (hc : c.length ≤ 1048576) (i h : Int) (d : List S55) (hi : At c i) (hI : Inv d []) : ∃ d' P' i' h', Ev (fun k => spec_l04DrawWal.j0 k c c i h d) (d', i', h') ∧ Inv d' P' ∧ P'.length ≤ 8 ∧ At c i' := by
  obtain ⟨t, e1, t1, t2⟩ := dSize c 9 hc (by decide)
  obtain ⟨n, i1, h1, e2, n0, n1, _, g1⟩ := dBelow c i h t hi hc
  have n1 := n1 (by omega)
  obtain ⟨m, rfl⟩ := Int.eq_ofNat_of_zero_le n0
  obtain ⟨d', P', i', h', r1, r2, r3, r4⟩ := dWalL c hc m i1 h1 d [] g1 hI (by simp only [List.length_nil]; omega)
  refine ⟨d', P', i', h', EvS ?_, r2, by simp only [List.length_nil] at r3; omega, r4⟩
  simp only [spec_l04DrawWal.j0, e1, e2, Option.bind_some]
  exact r1
theorem dWal (c : List Int) (hc : c.length ≤ 1048576) (i h : Int) (hi : At c i) : ∃ d' P' i' h', Ev (fun k => spec_l04DrawWal.f k c i h c) (d', i', h') ∧ Inv d' P' ∧ P'.length ≤ 8 ∧ At c i' := by
  unfold spec_l04DrawWal.f
  obtain ⟨x, i1, h1, e1, g1⟩ := dOnce c i h 3 hi hc
  cases x with
  | true =>
    obtain ⟨a, i2, h2, e2, ha, g2⟩ := dText c i1 h1 [(⟨#[109, 97, 110]⟩ : ByteArray), (⟨#[110, 0x65, 119]⟩ : ByteArray), (⟨#[97]⟩ : ByteArray)] g1 hc (by decide)
    obtain ⟨q, i3, h3, e3, q1, q2, g3⟩ := dBytes c 3 hc (by decide) (by decide) i2 h2 g2
    have hn : nameM a = true ∧ a ≠ logS := by
      simp only [List.mem_cons, List.not_mem_nil, or_false] at ha
      rcases ha with rfl | rfl | rfl <;> exact ⟨by decide +kernel, by decide +kernel⟩
    have hs : a.size ≤ 9223372036854775807 := by
      have := hn.1
      unfold nameM at this
      rw [Bool.and_eq_true, decide_eq_true_iff] at this
      omega
    obtain ⟨a1, a2⟩ := app_none (d := q) inv_nil.d (show getM [] a = none from rfl) hn.1 (by decide) (by omega)
    have eA := spec_app [] a q (by decide) (fun y hy => by cases hy) hs (by omega)
    rw [a1] at eA
    have hn1 := GT.put_len (l := []) (f := ⟨a, [], q⟩)
    have hI : Inv (putM [] ⟨a, [], q⟩) [] := ⟨a2, put_byt inv_nil.b ⟨fun x hx => (by cases hx), fun x hx => by have := q2 x hx; omega⟩, fun y hy => (by cases hy), Nat.le_trans hn1 (by decide), .inl ⟨by rw [put_other (f := ⟨a, [], q⟩) inv_nil.d (fun e => hn.2 e.symm)]; rfl, rfl, Nat.le_refl _⟩⟩
    obtain ⟨d', P', i', h', r1, r2, r3, r4⟩ := dWal0 c hc i3 h3 _ g3 hI
    refine ⟨d', P', i', h', ?_, r2, r3, r4⟩
    simp only [e1, e2, Option.bind_some, if_true, EvB e3, EvB eA]
    exact r1
  | false =>
    obtain ⟨d', P', i', h', r1, r2, r3, r4⟩ := dWal0 c hc i1 h1 _ g1 inv_nil
    refine ⟨d', P', i', h', ?_, r2, r3, r4⟩
    simp only [e1, Option.bind_some, Bool.false_eq_true, if_false]
    exact r1
theorem dListL (c : List Int) (hc : c.length ≤ 1048576) (d : List S55) : ∀ (n : Nat) (i h : Int) (L : List (List Int)), At c i → (∀ q ∈ L, okQ q) → L.length + n ≤ 50 →
    ∃ L' kp, Ev (fun k => spec_DrawRightWal.l0 k L (n : Int) c i h d) (d, L', kp) ∧ (∀ q ∈ L', okQ q) ∧ L'.length ≤ L.length + n := by
  intro n
  induction n with
  | zero =>
    intro i h L hi hL hn
    obtain ⟨b, i1, h1, e1, b0, b1, _, g1⟩ := dBelow c i h 60 hi hc
    refine ⟨L, b, EvS ?_, hL, by omega⟩
    simp only [spec_DrawRightWal.l0, if_neg (show ¬ ((0 : Nat) : Int) > 0 by omega), e1, Option.bind_some]
    exact EvN
  | succ n ih =>
    intro i h L hi hL hn
    obtain ⟨b, i2, h2, q, i3, h3, e2, e3, hq, g3⟩ := dPay c hc i h hi
    have hw : wrap64 (((n + 1 : Nat) : Int) - 1) = (n : Int) := by rw [w64 (by omega) (by omega)]; omega
    obtain ⟨L', kp, r1, r2, r3⟩ := ih i3 h3 (L ++ [q]) g3 (fun x hx => (List.mem_append.1 hx).elim (hL x) (fun z => by rw [List.mem_singleton.1 z]; exact hq)) (by rw [List.length_append, List.length_singleton]; omega)
    rw [List.length_append, List.length_singleton] at r3
    refine ⟨L', kp, EvS ?_, r2, by omega⟩
    simp only [spec_DrawRightWal.l0, if_pos (show ((n + 1 : Nat) : Int) > 0 by omega), e2, Option.bind_some, EvB e3, eq_true (show L.length < 5864062014805 by omega), if_true, hw]
    exact r1
theorem dRight (c : List Int) (hc : c.length ≤ 1048576) : ∃ d L kp P, Ev (fun k => spec_DrawRightWal.f k c) (d, L, kp) ∧ Inv d P ∧ P.length ≤ 8 ∧ (∀ q ∈ L, okQ q) ∧ L.length ≤ 5 := by
  obtain ⟨h, e0⟩ := dNew c hc
  obtain ⟨d, P, i1, h1, e1, r1, r2, g1⟩ := dWal c hc 0 h ⟨by omega, by omega⟩
  obtain ⟨n, i2, h2, e2, n0, n1, _, g2⟩ := dBelow c i1 h1 5 g1 hc
  have n1 := n1 (by omega)
  obtain ⟨m, rfl⟩ := Int.eq_ofNat_of_zero_le n0
  obtain ⟨L, kp, e3, r3, r4⟩ := dListL c hc d m i2 h2 [] g2 (fun y hy => by cases hy) (by simp only [List.length_nil]; omega)
  refine ⟨d, L, kp, P, ?_, r1, r2, r3, by simp only [List.length_nil] at r4; omega⟩
  unfold spec_DrawRightWal.f
  refine (EvB e0).2 ?_
  refine (EvB e1).2 ?_
  simp only [e2, Option.bind_some]
  exact e3
end Go.Proofs.YtcgojdhbphocgaaDoor.WD
