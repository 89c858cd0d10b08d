/- The Go law FnExactDecodeAll answers true at every input: the last of the merged texts, with the row. -/
import Derived.Test.YtgdebfaoohjikaaQFnExactDecodeAll3
import Derived.Test.YtgdebfaoohjikaaQFnExactDecodeAll1
import Derived.Test.YtgdebfaoohjikaaQFnExactDecodeAll2
import Derived.Deep.Slices
import Derived.ChangeSame
import Derived.WideShapes
import Derived.Test.YtgdebfaoohjikaaRows
import Derived.WalkKit
import Derived.ProofKit
import Derived.OpenShut
import Derived.ShutString
import Derived.ChangeOld
import Derived.Below
import Derived.SizedLaws
import Derived.Test.YtgdebfaoohjikaaWSized
namespace Go.Proofs.Ytgdebfaoohjikaa.VI
set_option linter.unusedVariables false
set_option linter.unusedSimpArgs false
open Go.RowKit Go.Proofs.Ytgdebfaoohjikaa.F Go.Proofs.Ytgdebfaoohjikaa.PK Go.Proofs.YtgdebfaoohjikaaW.PrintWords Go.Proofs.YtgdebfaoohjikaaW.PrintLast Go.Proofs.YtgdebfaoohjikaaW.PrintMore
theorem or128 (x : Int) (h0 : 0 ≤ x) : Go.bits .or .u8 (x % 256) 128 = x % 128 + 128 := by
  have hm : 0 ≤ x % 256 := by omega
  have hlt : x % 256 < 256 := by omega
  have e : x % 128 = (x % 256) % 128 := by omega
  rw [e]
  generalize x % 256 = y at hm hlt
  obtain ⟨n, rfl⟩ := Int.eq_ofNat_of_zero_le hm
  rw [u8_or _ _ hm hlt (by omega) (by omega), Int.toNat_natCast]
  have h2 : ∀ m : Fin 256, ((m.val ||| (128 : Int).toNat : Nat) : Int) = (m.val : Int) % 128 + 128 := by decide +kernel
  exact h2 ⟨n, by omega⟩
theorem impl_put (n : Nat) : ∀ (x : Int) (acc : List Int), 0 ≤ x → x < 128 ^ (n + 1) → acc.length + n < 140737488355328 → Ev (fun k => impl_putVar.l0 k x acc) (acc ++ pv n x) := by
  induction n with
  | zero =>
    intro x acc h0 h1 hl
    rw [pow7] at h1
    have : (128 : Int) ^ 0 = 1 := rfl
    refine EvS ?_
    simp only [impl_putVar.l0, if_neg (show ¬ x ≥ 128 by omega), if_pos (show acc.length < 140737488355328 by omega), show x % 256 = x by omega]
    exact EvN
  | succ n ih =>
    intro x acc h0 h1 hl
    rw [pow7] at h1
    refine EvS ?_
    unfold pv
    by_cases h : x < 128
    · simp only [impl_putVar.l0, if_neg (show ¬ x ≥ 128 by omega), if_pos (show acc.length < 140737488355328 by omega), show x % 256 = x by omega, if_pos h]
      exact EvN
    · simp only [impl_putVar.l0, if_pos (show x ≥ 128 by omega), if_pos (show acc.length < 140737488355328 by omega), or128 x h0, if_neg h]
      have := ih (x / 128) (acc ++ [x % 128 + 128]) (by omega) (by omega) (by rw [List.length_append, List.length_singleton]; omega)
      rw [List.append_assoc] at this
      exact this
theorem spec_put (n : Nat) : ∀ (x : Int) (acc : List Int), 0 ≤ x → x < 18446744073709551616 → x < 128 ^ (n + 1) → acc.length + n < 140737488355328 → Ev (fun k => spec_PutVar.l0 k x acc) (acc ++ pv n x) := by
  induction n with
  | zero =>
    intro x acc h0 hx h1 hl
    rw [pow7] at h1
    have : (128 : Int) ^ 0 = 1 := rfl
    refine EvS ?_
    simp only [spec_PutVar.l0, if_neg (show ¬ x > 127 by omega), if_pos (show acc.length < 140737488355328 by omega), show x % 256 = x by omega]
    exact EvN
  | succ n ih =>
    intro x acc h0 hx h1 hl
    rw [pow7] at h1
    refine EvS ?_
    unfold pv
    by_cases h : x < 128
    · simp only [spec_PutVar.l0, if_neg (show ¬ x > 127 by omega), if_pos (show acc.length < 140737488355328 by omega), show x % 256 = x by omega, if_pos h]
      exact EvN
    · have e1 : IntKind.u64.wrap (Int.tdiv x 128) = x / 128 := by rw [Int.tdiv_eq_ediv_of_nonneg h0, wu64 (by omega) (by omega)]
      have e2 : IntKind.u64.wrap (128 + Int.tmod x 128) % 256 = x % 128 + 128 := by rw [Int.tmod_eq_emod_of_nonneg h0, wu64 (by omega) (by omega)]; omega
      simp only [spec_PutVar.l0, if_pos (show x > 127 by omega), if_pos (show acc.length < 140737488355328 by omega), e1, e2, if_neg h]
      have := ih (x / 128) (acc ++ [x % 128 + 128]) (by omega) (by omega) (by omega) (by rw [List.length_append, List.length_singleton]; omega)
      rw [List.append_assoc] at this
      exact this
theorem impl_putV (x : Int) (h0 : 0 ≤ x) (h1 : x < 18446744073709551616) : Ev (fun k => impl_putVar.f k x) (pv 9 x) := by
  have h := impl_put 9 x [] h0 (by rw [p70]; omega) (by show 0 + 9 < _; omega)
  rw [List.nil_append] at h
  unfold impl_putVar.f
  exact h
theorem impl_putVar (x : Int) (h0 : 0 ≤ x) (h1 : x < 18446744073709551616) : Ev (fun k => impl_PutVar.f k x) (pv 9 x) := by
  unfold impl_PutVar.f
  simp only [EvB (impl_putV x h0 h1)]
  exact EvN
theorem spec_putVar (x : Int) (h0 : 0 ≤ x) (h1 : x < 18446744073709551616) : Ev (fun k => spec_PutVar.f k x) (pv 9 x) := by
  have h := spec_put 9 x [] h0 h1 (by rw [p70]; omega) (by show 0 + 9 < _; omega)
  rw [List.nil_append] at h
  unfold spec_PutVar.f
  exact h
theorem wfu64 {x : Int} (h : (Lit.int .u64 x).wf = true) : 0 ≤ x ∧ x < 18446744073709551616 := by
  simp only [Lit.wf, Bool.and_eq_true, decide_eq_true_eq] at h
  have h1 : IntKind.u64.min = 0 := by decide
  have h2 : IntKind.u64.max = 18446744073709551615 := by decide
  omega
end Go.Proofs.Ytgdebfaoohjikaa.VI

namespace Go.Proofs.Ytgdebfaoohjikaa.BY
set_option linter.unusedVariables false
set_option linter.unusedSimpArgs false
open Go.RowKit Go.Proofs.Ytgdebfaoohjikaa.F Go.Proofs.Ytgdebfaoohjikaa.PK Go.Proofs.YtgdebfaoohjikaaW.PrintWords Go.Proofs.YtgdebfaoohjikaaW.PrintLast Go.Proofs.YtgdebfaoohjikaaW.PrintMore
theorem l01Same (x y : List Int) (hx : x.length ≤ 9223372036854775807) : Ev (fun k => spec_l01Same.f k x y) (decide (x = y)) := by
  unfold spec_l01Same.f
  by_cases hl : x.length = y.length
  · simp only [if_pos (show (x.length : Int) = (y.length : Int) by omega)]
    have key := up0 (P := fun i => Ev (fun k => spec_l01Same.l0 k x y i) (decide (x.drop i.toNat = y.drop i.toNat))) x.length
      (EvS (by
        simp only [spec_l01Same.l0, Int.lt_irrefl, if_false, Int.toNat_natCast, List.drop_length]
        rw [hl, List.drop_length]
        simp only [decide_true]
        exact EvN))
      (fun i hi ih => EvS (by
        have hiy : i < y.length := by omega
        simp only [spec_l01Same.l0, if_pos (show (i : Int) < (x.length : Int) by omega), if_pos (show 0 ≤ (i : Int) by omega), if_pos (show (i : Int) < (y.length : Int) by omega), nxt i _ hi hx, Int.toNat_natCast, rd_at x i hi, rd_at y i hiy, drop_at x i hi, drop_at y i hiy]
        by_cases he : x[i] = y[i]
        · simp only [he, if_true, List.cons.injEq, true_and]
          rw [Int.toNat_natCast] at ih
          exact ih
        · simp only [if_neg he, List.cons.injEq, he, false_and, decide_false]
          exact EvN))
    exact key
  · simp only [if_neg (show ¬ (x.length : Int) = (y.length : Int) by omega)]
    rw [decide_eq_false (fun h => hl (by rw [h]))]
    exact EvN
end Go.Proofs.Ytgdebfaoohjikaa.BY

namespace Go.Proofs.Ytgdebfaoohjikaa.F
open Go.RowKit Go.Proofs.YtgdebfaoohjikaaW.PrintWords Go.Proofs.YtgdebfaoohjikaaW.PrintLast Go.Proofs.YtgdebfaoohjikaaW.PrintMore
attribute [local go_sem] max2_int min2_int max_two min_two max_three min_three max_four min_four   -- for this text's walks alone
set_option linter.unusedVariables false
set_option linter.unusedSimpArgs false

/-! ### impl_GetVar: function 20 -/
def impl_GetVar.f (k : Nat) (l0 : List Int) (a1 : Int) : Option (Int × Int × Bool) := if (l0.length : Int) > 4000 then (some (0, 0, false)) else (if a1 < 0 then (some (0, 0, false)) else (if a1 ≥ (l0.length : Int) then (some (0, 0, false)) else ((impl_getVar.f k l0 a1).bind fun bt157 => (some (bt157.1, bt157.2.1, bt157.2.2)))))
theorem impl_GetVar.mono : ∀ a0 a1 k, LeO (impl_GetVar.f k a0 a1) (impl_GetVar.f (k + 1) a0 a1) := by
  intro a0 a1 k
  unfold impl_GetVar.f
  repeat' first
      | (with_reducible exact impl_getVar.mono _ _ _)
      | (with_reducible exact LeO.refl _)
      | (with_reducible exact LeO.none _)
      | (with_reducible refine LeO.ite ?_ ?_)
      | (with_reducible refine LeO.bind ?_ (fun _ => ?_))
      | exact impl_getVar.mono _ _ _
      | exact LeO.none _
      | refine LeO.ite ?_ ?_
      | refine LeO.bind ?_ (fun _ => ?_)
set_option maxHeartbeats 8000000 in
set_option maxRecDepth 100000 in
theorem impl_GetVar.calls (k : Nat) (A0 : Option Addr) (c0 : Nat) (l0 : List Int) (a1 : Int) (r1 : Int) (r2 : Int) (r3 : Bool) (w : World) (hr0 : Kd.C (Kd.int .u8) w A0 l0.length l0) (hc0 : l0.length ≤ c0) (h : impl_GetVar.f k l0 a1 = some (r1, r2, r3)) :
    Calls Try.prog 20 #[.slice A0 l0.length c0, .int .i64 a1] w fun e w' => e = .returned (.tuple #[.int .u64 r1, .int .i64 r2, .bool r3]) ∧ Drawn0 w w' := by
  have HR0 := Aside0.mk hr0
  have HC0 := Aside0.mk hc0
  clear hr0 hc0
  have H : (if (l0.length : Int) > 4000 then (some (0, 0, false)) else (if a1 < 0 then (some (0, 0, false)) else (if a1 ≥ (l0.length : Int) then (some (0, 0, false)) else ((impl_getVar.f k l0 a1).bind fun bt157 => (some (bt157.1, bt157.2.1, bt157.2.2)))))) = some (r1, r2, r3) := h
  clear h
  by_cases c3 : (l0.length : Int) > 4000
  · rw [if_pos c3] at H
    have c3b0 : decide (4000 < (l0.length : Int)) = true := decide_eq_true c3
    have c3b1 : decide (4000 < l0.length) = true := decide_eq_true (by omega)
    clear c3
    simp only [Option.some.injEq, Prod.mk.injEq] at H
    obtain ⟨rfl, rfl, rfl⟩ := H
    go_enter Try.func20, Try.ntmps20
    go_wp2
    go_ret3
    exact ⟨by first | rfl | (simp; done) | (simp [*]; done), by repeat (first | exact Drawn0.refl _ | apply Drawn0.step)⟩
  · rw [if_neg c3] at H
    have c3b0 : decide (4000 < (l0.length : Int)) = false := decide_eq_false c3
    have c3b1 : decide (4000 < l0.length) = false := decide_eq_false (by omega)
    clear c3
    by_cases c4 : a1 < 0
    · rw [if_pos c4] at H
      have c4b0 : decide (a1 < 0) = true := decide_eq_true c4
      clear c4
      simp only [Option.some.injEq, Prod.mk.injEq] at H
      obtain ⟨rfl, rfl, rfl⟩ := H
      go_enter Try.func20, Try.ntmps20
      go_wp2
      go_ret3
      exact ⟨by first | rfl | (simp; done) | (simp [*]; done), by repeat (first | exact Drawn0.refl _ | apply Drawn0.step)⟩
    · rw [if_neg c4] at H
      have c4b0 : decide (a1 < 0) = false := decide_eq_false c4
      clear c4
      by_cases c5 : a1 ≥ (l0.length : Int)
      · rw [if_pos c5] at H
        have c5b0 : decide ((l0.length : Int) ≤ a1) = true := decide_eq_true c5
        clear c5
        simp only [Option.some.injEq, Prod.mk.injEq] at H
        obtain ⟨rfl, rfl, rfl⟩ := H
        go_enter Try.func20, Try.ntmps20
        go_wp2
        go_ret3
        exact ⟨by first | rfl | (simp; done) | (simp [*]; done), by repeat (first | exact Drawn0.refl _ | apply Drawn0.step)⟩
      · rw [if_neg c5] at H
        have c5b0 : decide ((l0.length : Int) ≤ a1) = false := decide_eq_false c5
        clear c5
        replace H := Option.bind_eq_some_iff.mp H
        obtain ⟨⟨t157, t158, t159⟩, A60, H⟩ := H
        replace H : (some (t157, t158, t159)) = some (r1, r2, r3) := H
        have A6 := Aside0.mk A60
        clear A60
        simp only [Option.some.injEq, Prod.mk.injEq] at H
        obtain ⟨rfl, rfl, rfl⟩ := H
        go_enter Try.func20, Try.ntmps20
        go_wp2_with (first | ((with_reducible refine gate_callee (f := 51) rfl ?_); refine goesL_ (some 22) rfl rfl Try.func51 (by kernel_rfl) rfl #[.slice A0 l0.length c0, .int .i64 a1] rfl (by (try simp only [List.map_toArray, List.map_cons, List.map_nil]); first | done | rfl | (simp only [List.length_drop, List.length_take]; rfl)) ?_; (with_reducible refine (impl_getVar.calls k _ _ l0 a1 t157 t158 t159 _ ?side1 ?side2 A6.out).mono ?_); (case side1 => repeat (first | exact HR0.out | (with_reducible refine Kd.C_alloc ?_ _) | (with_reducible refine Kd.C_drewN ?_ _) | (with_reducible refine Kd.C_drew ?_))); (case side2 => exact HC0.out); rintro e w' ⟨rfl, ⟨nd, rfl⟩⟩; refine ⟨_, rfl, ?_⟩))
        go_ret3
        exact ⟨by first | rfl | (simp; done) | (simp [*]; done), by repeat (first | exact Drawn0.refl _ | apply Drawn0.step)⟩

end Go.Proofs.Ytgdebfaoohjikaa.F

namespace Go.Proofs.Ytgdebfaoohjikaa.VI
set_option linter.unusedVariables false
set_option linter.unusedSimpArgs false
open Go.RowKit Go.Proofs.Ytgdebfaoohjikaa.F Go.Proofs.Ytgdebfaoohjikaa.PK Go.Proofs.YtgdebfaoohjikaaW.PrintWords Go.Proofs.YtgdebfaoohjikaaW.PrintLast Go.Proofs.YtgdebfaoohjikaaW.PrintMore
open Go.Proofs.Ytgdebfaoohjikaa.BY
def tell (at_ : Int) : Option (Int × Nat) → Int × Int × Bool
  | none => (0, 0, false)
  | some (v, n) => (v, at_ + n, true)
def U8s (l : List Int) : Prop := ∀ b ∈ l, 0 ≤ b ∧ b ≤ 255
theorem wf8s {l : List Int} (h : ∀ x ∈ l, (Lit.int .u8 x).wf = true) : U8s l := fun b hb => by
  have := h b hb
  simp only [Lit.wf, Bool.and_eq_true, decide_eq_true_eq] at this
  have h1 : IntKind.u8.min = 0 := by decide
  have h2 : IntKind.u8.max = 255 := by decide
  omega
theorem and127 (b : Int) (h0 : 0 ≤ b) (h1 : b ≤ 255) : Go.bits .and .u8 b 127 = b % 128 := by
  obtain ⟨n, rfl⟩ := Int.eq_ofNat_of_zero_le h0
  rw [u8_and _ _ h0 (by omega) (by omega) (by omega), Int.toNat_natCast]
  have h2 : ∀ m : Fin 256, ((m.val &&& (127 : Int).toNat : Nat) : Int) = (m.val : Int) % 128 := by decide +kernel
  exact h2 ⟨n, by omega⟩
theorem pow2_7 (k : Nat) : (2 : Int) ^ (7 * k) = 128 ^ k := by
  rw [Int.pow_mul]
  rfl
/-- The number so far and seven bits more. -/
theorem or_shl (x b : Int) (k : Nat) (hx0 : 0 ≤ x) (hx : x < 128 ^ k) (hb0 : 0 ≤ b) (hb : b ≤ 127) (hk : k ≤ 9) (h9 : k = 9 → b ≤ 1) :
    Go.bits .or .u64 x (shl .u64 (IntKind.u64.wrap b) (7 * k)) = x + 128 ^ k * b := by
  have hp := pow7_pos k
  have hle : (128 : Int) ^ k ≤ 128 ^ 9 := by exact_mod_cast Nat.pow_le_pow_right (by omega) hk
  have hbig : 128 ^ k * b + 128 ^ k ≤ 18446744073709551616 := by
    by_cases h : k = 9
    · subst h
      have := h9 rfl
      rw [p63]
      omega
    · have h8 : (128 : Int) ^ k ≤ 128 ^ 8 := by exact_mod_cast Nat.pow_le_pow_right (by omega) (by omega)
      have p8 : (128 : Int) ^ 8 = 72057594037927936 := by decide
      have h3 : (128 : Int) ^ k * b ≤ 72057594037927936 * 127 := Int.mul_le_mul (by omega) hb hb0 (by omega)
      omega
  have hm0 : 0 ≤ 128 ^ k * b := Int.mul_nonneg (by omega) hb0
  have e : shl .u64 (IntKind.u64.wrap b) (7 * k) = 128 ^ k * b := by
    unfold shl
    rw [wu64 hb0 (by omega), show min (7 * (k : Int)).toNat IntKind.u64.bits = 7 * k by show min _ 64 = _; omega, pow2_7, Int.mul_comm, wu64 hm0 (by omega)]
  rw [e]
  obtain ⟨m, rfl⟩ := Int.eq_ofNat_of_zero_le hx0
  obtain ⟨c, rfl⟩ := Int.eq_ofNat_of_zero_le hb0
  have ec : (128 : Int) ^ k * (c : Int) = ((2 ^ (7 * k) * c : Nat) : Int) := by
    rw [show (2 : Nat) ^ (7 * k) = 128 ^ k by rw [Nat.pow_mul]]
    push_cast
    rfl
  have hm : m < 2 ^ (7 * k) := by
    rw [show (2 : Nat) ^ (7 * k) = 128 ^ k by rw [Nat.pow_mul]]
    exact_mod_cast hx
  rw [ec] at hbig ⊢
  rw [u64_or_nat m (2 ^ (7 * k) * c) (by omega) (by omega), Nat.or_comm, ← Nat.two_pow_add_eq_or_of_lt hm]
  push_cast
  omega
theorem impl_get (l : List Int) (a : Nat) (hu : U8s l) (hl : l.length ≤ 4000) (ha : a ≤ l.length) : ∀ (d k : Nat), d + k = 10 → ∀ x, 0 ≤ x → x < 128 ^ k →
    Ev (fun n => impl_getVar.l0 n l a x k) (tell a ((gv k (l.drop (a + k))).map fun p => (x + 128 ^ k * p.1, k + p.2))) := by
  intro d
  induction d with
  | zero =>
    intro k hk x h0 h1
    have hg : gv k (l.drop (a + k)) = none := by
      cases l.drop (a + k) with
      | nil => rfl
      | cons b r => unfold gv; rw [if_pos (by omega)]
    rw [hg]
    refine EvS ?_
    simp only [impl_getVar.l0, if_neg (show ¬ (k : Int) < 10 by omega)]
    refine EvS ?_
    simp only [impl_getVar.j1, Bool.false_eq_true, if_false]
    exact EvN
  | succ d ih =>
    intro k hk x h0 h1
    have hw : wrap64 ((a : Int) + k) = ((a + k : Nat) : Int) := by rw [w64 (by omega) (by omega)]; omega
    refine EvS ?_
    simp only [impl_getVar.l0, if_pos (show (k : Int) < 10 by omega), hw]
    by_cases hin : a + k < l.length
    · have hb := hu _ (List.getElem_mem hin)
      have hk9 : (k : Int) = 9 ↔ k = 9 := by omega
      have hw7 : wrap64 (7 * (k : Int)) = 7 * (k : Int) := w64 (by omega) (by omega)
      rw [drop_at l (a + k) hin, decide_eq_true (show ((a + k : Nat) : Int) < (l.length : Int) by omega)]
      have hih := fun x' (e0 : 0 ≤ x') (e1 : x' < 128 ^ (k + 1)) => ih (k + 1) (by omega) x' e0 e1
      have hb0 : 0 ≤ l[a + k] % 128 := by omega
      have hlt : l[a + k] % 128 ≤ 127 := by omega
      have hx' : x + 128 ^ k * (l[a + k] % 128) < 128 ^ (k + 1) := by
        rw [pow7]
        have : (128 : Int) ^ k * (l[a + k] % 128) ≤ 128 ^ k * 127 := Int.mul_le_mul_of_nonneg_left hlt (by omega)
        omega
      have hx0' : 0 ≤ x + 128 ^ k * (l[a + k] % 128) := by
        have : 0 ≤ (128 : Int) ^ k * (l[a + k] % 128) := Int.mul_nonneg (by have := pow7_pos k; omega) hb0
        omega
      refine EvS ?_
      simp only [impl_getVar.j1, if_true, if_pos (show 0 ≤ ((a + k : Nat) : Int) by omega), hw, if_pos (show ((a + k : Nat) : Int) < (l.length : Int) by omega), rd_at l (a + k) hin]
      have J2 : ∀ q : Bool, (q = decide (k = 9 ∧ l[a + k] > 1)) → Ev (fun n => impl_getVar.j2 n l a x k l[a + k] q) (tell a ((gv k (l[a + k] :: l.drop (a + k + 1))).map fun p => (x + 128 ^ k * p.1, k + p.2))) := by
        intro q hq
        refine EvS ?_
        unfold gv
        rw [if_neg (show ¬ 10 ≤ k by omega)]
        by_cases h9 : k = 9 ∧ l[a + k] > 1
        · rw [decide_eq_true h9] at hq
          subst hq
          simp only [impl_getVar.j2, if_true, if_pos h9]
          exact EvN
        · rw [decide_eq_false h9] at hq
          subst hq
          have hor := or_shl x (l[a + k] % 128) k h0 h1 hb0 hlt (by omega) (fun h => by
            have : l[a + k] ≤ 1 := by
              by_cases h2 : l[a + k] > 1
              · exact absurd ⟨h, h2⟩ h9
              · omega
            omega)
          simp only [impl_getVar.j2, Bool.false_eq_true, if_false, if_neg h9, hw7, if_pos (show 0 ≤ 7 * (k : Int) by omega), and127 _ hb.1 hb.2, hor, hw]
          by_cases h128 : l[a + k] ≥ 128
          · simp only [if_pos h128, w64 (show -9223372036854775808 ≤ (k : Int) + 1 by omega) (show (k : Int) + 1 ≤ 9223372036854775807 by omega)]
            have h3 := hih _ hx0' hx'
            rw [show a + (k + 1) = a + k + 1 by omega] at h3
            have ecast : ((k + 1 : Nat) : Int) = (k : Int) + 1 := by omega
            rw [ecast] at h3
            cases hg : gv (k + 1) (l.drop (a + k + 1)) with
            | none => rw [hg] at h3; exact h3
            | some p =>
              rw [hg] at h3
              simp only [Option.map_some] at h3 ⊢
              have e1 : x + 128 ^ k * (l[a + k] % 128) + 128 ^ (k + 1) * p.1 = x + 128 ^ k * (l[a + k] % 128 + 128 * p.1) := by
                rw [pow7, Int.mul_add, show (128 : Int) * 128 ^ k * p.1 = 128 ^ k * (128 * p.1) by rw [Int.mul_comm 128, Int.mul_assoc]]
                omega
              rw [e1, show k + 1 + p.2 = k + (p.2 + 1) by omega] at h3
              exact h3
          · simp only [if_neg h128]
            have e7 : wrap64 (((a + k : Nat) : Int) + 1) = (a : Int) + ((k + 1 : Nat) : Int) := by rw [w64 (by omega) (by omega)]; omega
            have em : l[a + k] % 128 = l[a + k] := by omega
            by_cases hz : l[a + k] = 0
            · by_cases hkp : 0 < k
              · simp only [if_pos hz, if_pos (show (k : Int) > 0 by omega), if_pos (show l[a + k] = 0 ∧ 0 < k from ⟨hz, hkp⟩)]
                exact EvN
              · simp only [if_pos hz, if_neg (show ¬ (k : Int) > 0 by omega), if_neg (show ¬ (l[a + k] = 0 ∧ 0 < k) from fun h => hkp h.2), e7, em]
                exact EvN
            · simp only [if_neg hz, if_neg (show ¬ (l[a + k] = 0 ∧ 0 < k) from fun h => hz h.1), e7, em]
              exact EvN
      by_cases h9 : (k : Int) = 9
      · simp only [if_pos h9]
        refine J2 _ ?_
        simp [hk9.1 h9]
      · simp only [if_neg h9]
        refine J2 _ ?_
        rw [decide_eq_false (fun h => h9 (hk9.2 h.1))]
    · rw [List.drop_eq_nil_of_le (by omega), decide_eq_false (show ¬ ((a + k : Nat) : Int) < (l.length : Int) by omega)]
      refine EvS ?_
      simp only [impl_getVar.j1, Bool.false_eq_true, if_false]
      exact EvN
theorem impl_getV (l : List Int) (a : Nat) (hu : U8s l) (hl : l.length ≤ 4000) (ha : a ≤ l.length) : Ev (fun n => impl_getVar.f n l a) (tell a (gv 0 (l.drop a))) := by
  have h := impl_get l a hu hl ha 10 0 rfl 0 (Int.le_refl _) (by show (0 : Int) < 1; omega)
  have e : ((gv 0 (l.drop (a + 0))).map fun p => ((0 : Int) + 128 ^ 0 * p.1, 0 + p.2)) = gv 0 (l.drop a) := by
    rw [Nat.add_zero]
    cases gv 0 (l.drop a) with
    | none => rfl
    | some p =>
      have : (128 : Int) ^ 0 = 1 := rfl
      simp only [Option.map_some, this, Int.one_mul, Int.zero_add, Nat.zero_add]
  rw [e] at h
  unfold impl_getVar.f
  exact h
/-- The answer at any arguments. -/
def getM (l : List Int) (a : Int) : Int × Int × Bool := if (l.length : Int) > 4000 ∨ a < 0 ∨ a ≥ (l.length : Int) then (0, 0, false) else tell a (gv 0 (l.drop a.toNat))
theorem impl_getVar (l : List Int) (a : Int) (hu : U8s l) : Ev (fun n => impl_GetVar.f n l a) (getM l a) := by
  unfold impl_GetVar.f getM
  by_cases h1 : (l.length : Int) > 4000
  · simp only [if_pos h1, h1, true_or, if_true]; exact EvN
  · by_cases h2 : a < 0
    · simp only [if_neg h1, if_pos h2, h2, true_or, or_true, if_true]; exact EvN
    · by_cases h3 : a ≥ (l.length : Int)
      · simp only [if_neg h1, if_neg h2, if_pos h3, h3, or_true, if_true]; exact EvN
      · obtain ⟨n, rfl⟩ := Int.eq_ofNat_of_zero_le (show 0 ≤ a by omega)
        simp only [if_neg h1, if_neg h2, if_neg h3, h1, h2, h3, or_false, if_false, EvB (impl_getV l n hu (by omega) (by omega)), Int.toNat_natCast]
        exact EvN
end Go.Proofs.Ytgdebfaoohjikaa.VI

namespace Go.Proofs.Ytgdebfaoohjikaa.VI
set_option linter.unusedVariables false
set_option linter.unusedSimpArgs false
open Go.RowKit Go.Proofs.Ytgdebfaoohjikaa.F Go.Proofs.Ytgdebfaoohjikaa.PK Go.Proofs.YtgdebfaoohjikaaW.PrintWords Go.Proofs.YtgdebfaoohjikaaW.PrintLast Go.Proofs.YtgdebfaoohjikaaW.PrintMore
open Go.Proofs.Ytgdebfaoohjikaa.BY
theorem spec_end (l : List Int) (a : Int) (hl : l.length ≤ 4000) (R : Int × Int × Bool) : ∀ (hs : List Int) (i : Nat) (tl : List Int), l.drop i = hs ++ tl → i ≤ l.length → (∀ b ∈ hs, 128 ≤ b) → (∀ c r, tl = c :: r → c ≤ 127) →
    Ev (fun k => spec_GetVar.j2 k l a ((i + hs.length : Nat) : Int)) R → Ev (fun k => spec_GetVar.l0 k l a i) R := by
  intro hs
  induction hs with
  | nil =>
    intro i tl hd hi _ ht h
    refine EvS ?_
    by_cases hin : i < l.length
    · rw [drop_at l i hin] at hd
      have := ht l[i] _ hd.symm
      simp only [spec_GetVar.l0, if_pos (show (i : Int) < (l.length : Int) by omega), if_pos (show 0 ≤ (i : Int) by omega), rd_at l i hin, if_neg (show ¬ l[i] > 127 by omega)]
      exact h
    · simp only [spec_GetVar.l0, if_neg (show ¬ (i : Int) < (l.length : Int) by omega)]
      exact h
  | cons b r ih =>
    intro i tl hd hi hb ht h
    have hin : i < l.length := by
      rcases Nat.lt_or_ge i l.length with h | h
      · exact h
      · rw [List.drop_eq_nil_of_le h] at hd
        cases hd
    rw [drop_at l i hin] at hd
    injection hd with hd1 hd2
    have hbb := hb b (List.mem_cons_self ..)
    refine EvS ?_
    simp only [spec_GetVar.l0, if_pos (show (i : Int) < (l.length : Int) by omega), if_pos (show 0 ≤ (i : Int) by omega), rd_at l i hin, hd1, if_pos (show b > 127 by omega), nxt i _ hin (by omega)]
    refine ih (i + 1) tl hd2 (by omega) (fun b' hb' => hb b' (List.mem_cons_of_mem _ hb')) ht ?_
    rw [show i + 1 + r.length = i + (b :: r).length by simp only [List.length_cons]; omega]
    exact h
theorem dec_drop (bs : List Int) (j : Nat) (h : j < bs.length) : dec (bs.drop j) = bs[j] % 128 + 128 * dec (bs.drop (j + 1)) := by rw [drop_at bs j h]; rfl
theorem spec_back (l : List Int) (a : Nat) (e : Int) (hl : l.length ≤ 4000) (bs : List Int) (hu : U8s bs) (hbs : ∀ j (h : j < bs.length), ∃ h' : a + j < l.length, l[a + j] = bs[j]) (R : Int × Int × Bool)
    (h : Ev (fun k => spec_GetVar.l1 k l a e (dec bs % 18446744073709551616) ((a : Int) - 1)) R) :
    ∀ j, j ≤ bs.length → Ev (fun k => spec_GetVar.l1 k l a e (dec (bs.drop j) % 18446744073709551616) ((a : Int) + j - 1)) R := by
  intro j
  induction j with
  | zero =>
    intro _
    rw [show (a : Int) + ((0 : Nat) : Int) - 1 = (a : Int) - 1 by omega]
    exact h
  | succ j ih =>
    intro hj
    have hjl : j < bs.length := by omega
    obtain ⟨hin, he⟩ := hbs j hjl
    have hb := hu _ (List.getElem_mem hjl)
    have ei : (a : Int) + ((j + 1 : Nat) : Int) - 1 = ((a + j : Nat) : Int) := by omega
    rw [ei]
    refine EvS ?_
    have e1 : Int.tmod (IntKind.u64.wrap bs[j]) 128 = bs[j] % 128 := by rw [wu64 hb.1 (by omega), Int.tmod_eq_emod_of_nonneg hb.1]
    have e2 : IntKind.u64.wrap (IntKind.u64.wrap (dec (bs.drop (j + 1)) % 18446744073709551616 * 128) + bs[j] % 128) = dec (bs.drop j) % 18446744073709551616 := by
      rw [IntKind.wrap_u64, IntKind.wrap_u64, dec_drop bs j hjl]
      omega
    simp only [spec_GetVar.l1, if_pos (show ((a + j : Nat) : Int) ≥ (a : Int) by omega), if_pos (show 0 ≤ ((a + j : Nat) : Int) by omega), if_pos (show ((a + j : Nat) : Int) < (l.length : Int) by omega), rd_at l (a + j) hin, he, e1, e2, w64 (show -9223372036854775808 ≤ ((a + j : Nat) : Int) - 1 by omega) (show ((a + j : Nat) : Int) - 1 ≤ 9223372036854775807 by omega)]
    have := ih (by omega)
    rw [show (a : Int) + (j : Int) - 1 = ((a + j : Nat) : Int) - 1 by omega] at this
    exact this
theorem spec_getV (l : List Int) (a : Nat) (hu : U8s l) (hl : l.length ≤ 4000) (ha : a ≤ l.length) : Ev (fun n => spec_GetVar.l0 n l a a) (tell a (gv 0 (l.drop a))) := by
  obtain ⟨hs, tl, hd, hb, ht⟩ := split_lead (l.drop a)
  have hlen : hs.length + tl.length = l.length - a := by rw [← List.length_append, ← hd, List.length_drop]
  have hu' : U8s (l.drop a) := fun b h => hu b (List.mem_of_mem_drop h)
  have hbb : ∀ b ∈ hs, 128 ≤ b ∧ b ≤ 255 := fun b h => ⟨hb b h, (hu' b (by rw [hd]; exact List.mem_append_left _ h)).2⟩
  refine spec_end l a hl _ hs a tl hd ha hb ht ?_
  rw [hd]
  refine EvS ?_
  cases tl with
  | nil =>
    simp only [List.length_nil, Nat.add_zero] at hlen
    rw [List.append_nil, gv_all hs 0 hb]
    simp only [spec_GetVar.j2, if_pos (show ((a + hs.length : Nat) : Int) = (l.length : Int) by omega)]
    refine EvS ?_
    simp only [spec_GetVar.j3, if_true]
    exact EvN
  | cons c tl =>
    simp only [List.length_cons] at hlen
    have hc1 := ht c tl rfl
    have hc0 : 0 ≤ c := (hu' c (by rw [hd]; simp)).1
    simp only [spec_GetVar.j2, if_neg (show ¬ ((a + hs.length : Nat) : Int) = (l.length : Int) by omega), w64 (show -9223372036854775808 ≤ ((a + hs.length : Nat) : Int) - a by omega) (show ((a + hs.length : Nat) : Int) - a ≤ 9223372036854775807 by omega)]
    refine EvS ?_
    by_cases h9 : hs.length ≤ 9
    · rw [decide_eq_false (show ¬ ((a + hs.length : Nat) : Int) - a > 9 by omega)]
      simp only [spec_GetVar.j3, Bool.false_eq_true, if_false]
      have hbs : ∀ j (h : j < (hs ++ [c]).length), ∃ h' : a + j < l.length, l[a + j] = (hs ++ [c])[j] := by
        intro j h
        have hj : j < hs.length + 1 := by simpa using h
        refine ⟨by omega, ?_⟩
        have e1 : (l.drop a)[j]? = some l[a + j] := by rw [List.getElem?_drop, List.getElem?_eq_getElem (by omega)]
        have e2 : (hs ++ c :: tl)[j]? = (hs ++ [c])[j]? := by
          rw [show hs ++ c :: tl = (hs ++ [c]) ++ tl by simp]
          exact List.getElem?_append_left (by simpa using hj)
        rw [hd, e2, List.getElem?_eq_getElem h] at e1
        exact (Option.some.inj e1).symm
      have hub : U8s (hs ++ [c]) := fun b h => by
        rcases List.mem_append.1 h with h | h
        · have := hbb b h; omega
        · rw [List.mem_singleton.1 h]; omega
      have hseg : (l.take (a + hs.length + 1)).drop a = hs ++ [c] := by
        rw [List.drop_take, hd, show a + hs.length + 1 - a = hs.length + 1 by omega, show hs ++ c :: tl = (hs ++ [c]) ++ tl by simp]
        rw [List.take_left' (by simp)]
      have h := spec_back l a ((a + hs.length : Nat) : Int) hl (hs ++ [c]) hub hbs (tell a (gv 0 (hs ++ c :: tl))) (by
        refine EvS ?_
        have hm0 : 0 ≤ dec (hs ++ [c]) % 18446744073709551616 := Int.emod_nonneg _ (by omega)
        have hm1 : dec (hs ++ [c]) % 18446744073709551616 < 18446744073709551616 := Int.emod_lt_of_pos _ (by omega)
        have ew : wrap64 (((a + hs.length : Nat) : Int) + 1) = ((a + hs.length + 1 : Nat) : Int) := by rw [w64 (by omega) (by omega)]; omega
        have hsame := l01Same (pv 9 (dec (hs ++ [c]) % 18446744073709551616)) (hs ++ [c]) (by have := pv_le 9 (dec (hs ++ [c]) % 18446744073709551616); omega)
        simp only [spec_GetVar.l1, if_neg (show ¬ (a : Int) - 1 ≥ (a : Int) by omega), EvB (spec_putVar _ hm0 hm1), if_pos (show 0 ≤ (a : Int) by omega), ew, if_pos (show (a : Int) ≤ ((a + hs.length + 1 : Nat) : Int) by omega), if_pos (show ((a + hs.length + 1 : Nat) : Int) ≤ (l.length : Int) by omega), Int.toNat_natCast, hseg, EvB hsame]
        rw [gv_lead hs 0 c tl hbb hc0 hc1 (by omega)]
        simp only [Nat.zero_add]
        have hiff := pv_iff hs c hbb hc0 hc1 h9
        by_cases hcan : (hs.length = 9 ∧ c > 1) ∨ (c = 0 ∧ 0 < hs.length)
        · rw [if_pos hcan, decide_eq_false (fun h => (hiff.1 h) hcan)]
          simp only [Bool.false_eq_true, if_false]
          exact EvN
        · have heq := hiff.2 hcan
          rw [if_neg hcan, decide_eq_true heq]
          have hval : dec (hs ++ [c]) % 18446744073709551616 = dec (hs ++ [c]) := by
            have := dec_pv 9 (dec (hs ++ [c]) % 18446744073709551616) hm0 (by rw [p70]; omega)
            rw [heq] at this
            exact this.symm
          simp only [if_true]
          rw [hval]
          have e9 : (a : Int) + ((hs.length + 1 : Nat) : Int) = ((a + hs.length + 1 : Nat) : Int) := by omega
          unfold tell
          simp only [e9]
          exact EvN) (hs.length + 1) (by simp)
      have ed : (hs ++ [c]).drop (hs.length + 1) = [] := List.drop_eq_nil_of_le (by simp)
      rw [ed, show (a : Int) + ((hs.length + 1 : Nat) : Int) - 1 = ((a + hs.length : Nat) : Int) by omega] at h
      exact h
    · rw [decide_eq_true (show ((a + hs.length : Nat) : Int) - a > 9 by omega), gv_long hs 0 (c :: tl) hb (by omega)]
      simp only [spec_GetVar.j3, if_true]
      exact EvN
theorem spec_In (x lo hi : Int) : spec_l01In.f x lo hi = some (decide (lo ≤ x ∧ x ≤ hi)) := by
  unfold spec_l01In.f
  by_cases h : lo ≤ x <;> simp [h]
theorem spec_getVar (l : List Int) (a : Int) (hu : U8s l) : Ev (fun n => spec_GetVar.f n l a) (getM l a) := by
  unfold spec_GetVar.f getM
  by_cases h1 : (l.length : Int) > 4000
  · simp only [if_pos h1, h1, true_or, if_true]
    refine EvS ?_
    simp only [spec_GetVar.j0, if_true]
    exact EvN
  · simp only [if_neg h1, spec_In, Option.bind_some, w64 (show -9223372036854775808 ≤ (l.length : Int) - 1 by omega) (show (l.length : Int) - 1 ≤ 9223372036854775807 by omega)]
    refine EvS ?_
    by_cases h2 : 0 ≤ a ∧ a ≤ (l.length : Int) - 1
    · rw [decide_eq_true h2, if_neg (by omega)]
      obtain ⟨n, rfl⟩ := Int.eq_ofNat_of_zero_le h2.1
      simp only [spec_GetVar.j0, Bool.not_true, Bool.false_eq_true, if_false, Int.toNat_natCast]
      exact spec_getV l n hu (by omega) (by omega)
    · rw [decide_eq_false h2, if_pos (by omega)]
      simp only [spec_GetVar.j0, Bool.not_false, if_true]
      exact EvN
end Go.Proofs.Ytgdebfaoohjikaa.VI

namespace Go.Proofs.Ytgdebfaoohjikaa.F
open Go.RowKit Go.Proofs.YtgdebfaoohjikaaW.PrintWords Go.Proofs.YtgdebfaoohjikaaW.PrintLast Go.Proofs.YtgdebfaoohjikaaW.PrintMore
attribute [local go_sem] max2_int min2_int max_two min_two max_three min_three max_four min_four   -- for this text's walks alone
set_option linter.unusedVariables false
set_option linter.unusedSimpArgs false

/-! ### laws_szUint64S: function 52 -/
def laws_szUint64S.f (l0 : List Int) (a1 : Int) : Option (Int) := if (wrap64 (a1 - (l0.length : Int))) < 0 then (some (-1)) else (some (wrap64 (a1 - (l0.length : Int))))
set_option maxHeartbeats 8000000 in
set_option maxRecDepth 100000 in
theorem laws_szUint64S.calls (A0 : Option Addr) (c0 : Nat) (l0 : List Int) (a1 : Int) (r : Int) (w : World) (hr0 : Kd.C (Kd.int .u64) w A0 l0.length l0) (hc0 : l0.length ≤ c0) (h : laws_szUint64S.f l0 a1 = some r) :
    Calls Try.prog 52 #[.slice A0 l0.length c0, .int .i64 a1] w fun e w' => e = .returned (.int .i64 r) ∧ Drawn0 w w' := by
  have HR0 := Aside0.mk hr0
  have HC0 := Aside0.mk hc0
  clear hr0 hc0
  have H : (if (wrap64 (a1 - (l0.length : Int))) < 0 then (some (-1)) else (some (wrap64 (a1 - (l0.length : Int))))) = some r := h
  clear h
  by_cases c3 : (wrap64 (a1 - (l0.length : Int))) < 0
  · rw [if_pos c3] at H
    have c3b0 : decide ((wrap64 (a1 - (l0.length : Int))) < 0) = true := decide_eq_true c3
    clear c3
    obtain rfl := Option.some.inj H
    go_enter Try.func52, Try.ntmps52
    go_wp2
    go_ret
    exact ⟨by first | rfl | (simp; done) | (simp [*]; done), by repeat (first | exact Drawn0.refl _ | apply Drawn0.step)⟩
  · rw [if_neg c3] at H
    have c3b0 : decide ((wrap64 (a1 - (l0.length : Int))) < 0) = false := decide_eq_false c3
    clear c3
    obtain rfl := Option.some.inj H
    go_enter Try.func52, Try.ntmps52
    go_wp2
    go_ret
    exact ⟨by first | rfl | (simp; done) | (simp [*]; done), by repeat (first | exact Drawn0.refl _ | apply Drawn0.step)⟩

end Go.Proofs.Ytgdebfaoohjikaa.F

namespace Go.Proofs.Ytgdebfaoohjikaa.F
open Go.RowKit Go.Proofs.YtgdebfaoohjikaaW.PrintWords Go.Proofs.YtgdebfaoohjikaaW.PrintLast Go.Proofs.YtgdebfaoohjikaaW.PrintMore
attribute [local go_sem] max2_int min2_int max_two min_two max_three min_three max_four min_four   -- for this text's walks alone
set_option linter.unusedVariables false
set_option linter.unusedSimpArgs false

/-! ### laws_szStringS: function 53 -/
def laws_szStringS.l0 : Nat → List ByteArray → Int → Int → Option (Int)
  | 0, _, _, _ => none
  | k + 1, x0, x1, x5 => if x5 < (x0.length : Int) then (if 0 ≤ x5 then (if (wrap64 (x1 - ((rdOf ByteArray.empty x0 x5).size : Int))) < 0 then (some (-1)) else (laws_szStringS.l0 k x0 (wrap64 (x1 - ((rdOf ByteArray.empty x0 x5).size : Int))) (wrap64 (x5 + 1)))) else (none)) else (some x1)
def laws_szStringS.f (k : Nat) (l0 : List ByteArray) (a1 : Int) : Option (Int) := if (wrap64 (a1 - (l0.length : Int))) < 0 then (some (-1)) else (laws_szStringS.l0 k l0 (wrap64 (a1 - (l0.length : Int))) 0)
theorem laws_szStringS.mono_l : ∀ k, (∀ y0 y1 y2, LeO (laws_szStringS.l0 k y0 y1 y2) (laws_szStringS.l0 (k + 1) y0 y1 y2))
  | 0 => fun _ _ _ r h => by simp [laws_szStringS.l0] at h
  | k + 1 => by
    have ih0 := laws_szStringS.mono_l k
    · intro y0 y1 y2
      unfold laws_szStringS.l0
      repeat' first
      | (with_reducible exact ih0 _ _ _)
      | (with_reducible exact LeO.refl _)
      | (with_reducible exact LeO.none _)
      | (with_reducible refine LeO.ite ?_ ?_)
      | (with_reducible refine LeO.bind ?_ (fun _ => ?_))
      | exact ih0 _ _ _
      | exact LeO.none _
      | refine LeO.ite ?_ ?_
      | refine LeO.bind ?_ (fun _ => ?_)
theorem laws_szStringS.mono : ∀ a0 a1 k, LeO (laws_szStringS.f k a0 a1) (laws_szStringS.f (k + 1) a0 a1) := by
  intro a0 a1 k
  have ih0 := laws_szStringS.mono_l k
  unfold laws_szStringS.f
  repeat' first
      | (with_reducible exact ih0 _ _ _)
      | (with_reducible exact LeO.refl _)
      | (with_reducible exact LeO.none _)
      | (with_reducible refine LeO.ite ?_ ?_)
      | (with_reducible refine LeO.bind ?_ (fun _ => ?_))
      | exact ih0 _ _ _
      | exact LeO.none _
      | refine LeO.ite ?_ ?_
      | refine LeO.bind ?_ (fun _ => ?_)
set_option maxHeartbeats 8000000 in
set_option maxRecDepth 100000 in
theorem laws_szStringS.calls (k : Nat) (A0 : Option Addr) (c0 : Nat) (l0 : List ByteArray) (a1 : Int) (r : Int) (w : World) (hr0 : Kd.C Kd.string w A0 l0.length l0) (hc0 : l0.length ≤ c0) (h : laws_szStringS.f k l0 a1 = some r) :
    Calls Try.prog 53 #[.slice A0 l0.length c0, .int .i64 a1] w fun e w' => e = .returned (.int .i64 r) ∧ Drawn0 w w' := by
  have HR0 := Aside0.mk hr0
  have HC0 := Aside0.mk hc0
  clear hr0 hc0
  have H : (if (wrap64 (a1 - (l0.length : Int))) < 0 then (some (-1)) else (laws_szStringS.l0 k l0 (wrap64 (a1 - (l0.length : Int))) 0)) = some r := h
  clear h
  by_cases c3 : (wrap64 (a1 - (l0.length : Int))) < 0
  · rw [if_pos c3] at H
    have c3b0 : decide ((wrap64 (a1 - (l0.length : Int))) < 0) = true := decide_eq_true c3
    clear c3
    obtain rfl := Option.some.inj H
    go_enter Try.func53, Try.ntmps53
    go_wp2
    go_ret
    exact ⟨by first | rfl | (simp; done) | (simp [*]; done), by repeat (first | exact Drawn0.refl _ | apply Drawn0.step)⟩
  · rw [if_neg c3] at H
    have c3b0 : decide ((wrap64 (a1 - (l0.length : Int))) < 0) = false := decide_eq_false c3
    clear c3
    have H' := Aside0.mk H
    clear H
    go_enter Try.func53, Try.ntmps53
    go_wp2
    go_loopg [1, 5] k (fun kq v1 v5 w' => ∃ (x1_1 : Int) (x5_1 : Int), v1 = .int .i64 x1_1 ∧ v5 = .int .i64 x5_1 ∧ Aside0 (laws_szStringS.l0 kq l0 x1_1 x5_1 = some r) ∧ Aside0 (kq ≤ k) ∧ Drawn0 w w')
    case atStart => exact ⟨(wrap64 (a1 - (l0.length : Int))), (0), (by first | rfl | (simp; done) | (simp [*]; done)), (by first | rfl | (simp; done) | (simp [*]; done)), H', ⟨Nat.le_refl _⟩, by repeat (first | exact Drawn0.refl _ | apply Drawn0.step)⟩
    case round =>
      clear H'
      try clear p2
      try clear c3
      try clear c3b0
      obtain ⟨x1_1, x5_1, rfl, rfl, HA, HK1, ⟨m1, rfl⟩⟩ := hrel
      cases gk with
      | zero => exact absurd HA.out (by simp [laws_szStringS.l0])
      | succ k1 =>
        have H := HA.out
        clear HA
        simp only [laws_szStringS.l0] at H
        by_cases c4 : x5_1 < (l0.length : Int)
        · rw [if_pos c4] at H
          have c4b0 : decide (x5_1 < (l0.length : Int)) = true := decide_eq_true c4
          clear c4
          by_cases c5 : 0 ≤ x5_1
          · rw [if_pos c5] at H
            have c5b0 : decide (0 ≤ x5_1) = true := decide_eq_true c5
            clear c5
            by_cases c6 : (wrap64 (x1_1 - ((rdOf ByteArray.empty l0 x5_1).size : Int))) < 0
            · rw [if_pos c6] at H
              have c6b0 : decide ((wrap64 (x1_1 - ((rdOf ByteArray.empty l0 x5_1).size : Int))) < 0) = true := decide_eq_true c6
              clear c6
              obtain rfl := Option.some.inj H
              have p220 : 0 ≤ (x5_1 : Int) := of_decide_eq_true (by first | (with_reducible assumption) | assumption)
              have q220 : x5_1 < (l0.length : Int) := of_decide_eq_true (by first | (with_reducible assumption) | assumption)
              obtain ⟨ad220, e220, hx220_0⟩ := Kd.at_string HR0.out x5_1 p220 q220
              cases e220
              replace p220 := eq_true p220
              replace q220 := eq_true q220
              go_wp2
              go_ret
              exact ⟨by first | rfl | (simp; done) | (simp [*]; done), by repeat (first | exact Drawn0.refl _ | apply Drawn0.step)⟩
            · rw [if_neg c6] at H
              have c6b0 : decide ((wrap64 (x1_1 - ((rdOf ByteArray.empty l0 x5_1).size : Int))) < 0) = false := decide_eq_false c6
              clear c6
              have H' := Aside0.mk H
              clear H
              have p220 : 0 ≤ (x5_1 : Int) := of_decide_eq_true (by first | (with_reducible assumption) | assumption)
              have q220 : x5_1 < (l0.length : Int) := of_decide_eq_true (by first | (with_reducible assumption) | assumption)
              obtain ⟨ad220, e220, hx220_0⟩ := Kd.at_string HR0.out x5_1 p220 q220
              cases e220
              replace p220 := eq_true p220
              replace q220 := eq_true q220
              go_wp2
              go_roundg k1
              case measure => have := HK1.out; omega
              case rel => exact ⟨(wrap64 (x1_1 - ((rdOf ByteArray.empty l0 x5_1).size : Int))), (wrap64 (x5_1 + 1)), (by first | rfl | (simp; done) | (simp [*]; done)), (by first | rfl | (simp; done) | (simp [*]; done)), H', ⟨by have := HK1.out; omega⟩, by repeat (first | exact Drawn0.refl _ | apply Drawn0.step)⟩
          · rw [if_neg c5] at H
            exact absurd H (by simp)
        · rw [if_neg c4] at H
          have c4b0 : decide (x5_1 < (l0.length : Int)) = false := decide_eq_false c4
          clear c4
          obtain rfl := Option.some.inj H
          go_wp2
          go_ret
          exact ⟨by first | rfl | (simp; done) | (simp [*]; done), by repeat (first | exact Drawn0.refl _ | apply Drawn0.step)⟩

end Go.Proofs.Ytgdebfaoohjikaa.F

namespace Go.Proofs.Ytgdebfaoohjikaa.F
open Go.RowKit Go.Proofs.YtgdebfaoohjikaaW.PrintWords Go.Proofs.YtgdebfaoohjikaaW.PrintLast Go.Proofs.YtgdebfaoohjikaaW.PrintMore
attribute [local go_sem] max2_int min2_int max_two min_two max_three min_three max_four min_four   -- for this text's walks alone
set_option linter.unusedVariables false
set_option linter.unusedSimpArgs false

/-! ### laws_szRecord: function 24 -/
def laws_szRecord.f (k : Nat) (a0_0 : Int) (l0_1 : List Int) (l0_2 : List ByteArray) (a1 : Int) : Option (Int) := (laws_szUint64S.f l0_1 a1).bind fun t222 => (if t222 < 0 then (some (-1)) else ((laws_szStringS.f k l0_2 t222).bind fun t223 => (if t223 < 0 then (some (-1)) else (some t223))))
theorem laws_szRecord.mono : ∀ a0 a1 a2 a3 k, LeO (laws_szRecord.f k a0 a1 a2 a3) (laws_szRecord.f (k + 1) a0 a1 a2 a3) := by
  intro a0 a1 a2 a3 k
  unfold laws_szRecord.f
  repeat' first
      | (with_reducible exact laws_szStringS.mono _ _ _)
      | (with_reducible exact LeO.refl _)
      | (with_reducible exact LeO.none _)
      | (with_reducible refine LeO.ite ?_ ?_)
      | (with_reducible refine LeO.bind ?_ (fun _ => ?_))
      | exact laws_szStringS.mono _ _ _
      | exact LeO.none _
      | refine LeO.ite ?_ ?_
      | refine LeO.bind ?_ (fun _ => ?_)
set_option maxHeartbeats 8000000 in
set_option maxRecDepth 100000 in
theorem laws_szRecord.calls (k : Nat) (a0_0 : Int) (A0_1 : Option Addr) (c0_1 : Nat) (l0_1 : List Int) (A0_2 : Option Addr) (c0_2 : Nat) (l0_2 : List ByteArray) (a1 : Int) (r : Int) (w : World) (hr0_1 : Kd.C (Kd.int .u64) w A0_1 l0_1.length l0_1) (hc0_1 : l0_1.length ≤ c0_1) (hr0_2 : Kd.C Kd.string w A0_2 l0_2.length l0_2) (hc0_2 : l0_2.length ≤ c0_2) (h : laws_szRecord.f k a0_0 l0_1 l0_2 a1 = some r) :
    Calls Try.prog 24 #[.agg #[.int .i64 a0_0, .slice A0_1 l0_1.length c0_1, .slice A0_2 l0_2.length c0_2], .int .i64 a1] w fun e w' => e = .returned (.int .i64 r) ∧ Below w.heap.size w w' := by
  have hu39 := Try.underlying39
  have HR0_1 := Aside0.mk hr0_1
  have HC0_1 := Aside0.mk hc0_1
  clear hr0_1 hc0_1
  have HR0_2 := Aside0.mk hr0_2
  have HC0_2 := Aside0.mk hc0_2
  clear hr0_2 hc0_2
  have HB := Aside0.mk (Below.refl w.heap.size w)
  have H : ((laws_szUint64S.f l0_1 a1).bind fun t222 => (if t222 < 0 then (some (-1)) else ((laws_szStringS.f k l0_2 t222).bind fun t223 => (if t223 < 0 then (some (-1)) else (some t223))))) = some r := h
  clear h
  replace H := Option.bind_eq_some_iff.mp H
  obtain ⟨t222, A30, H⟩ := H
  replace H : (if t222 < 0 then (some (-1)) else ((laws_szStringS.f k l0_2 t222).bind fun t223 => (if t223 < 0 then (some (-1)) else (some t223)))) = some r := H
  have A3 := Aside0.mk A30
  clear A30
  by_cases c4 : t222 < 0
  · rw [if_pos c4] at H
    have c4b0 : decide (t222 < 0) = true := decide_eq_true c4
    clear c4
    obtain rfl := Option.some.inj H
    go_enter Try.func24, Try.ntmps24
    go_wp2_with (first | ((with_reducible refine gate_dst (N := 2) rfl ?_); refine box_event ?hg (N := 2) ?hd (cs := #[.int .i64 a0_0, .slice A0_1 l0_1.length c0_1, .slice A0_2 l0_2.length c0_2]) (t := 39) ?hr ?_; (case hd => rfl); (case hg => rfl); (case hr => first | (go_simp; done) | (go_simp; rfl)); intro gb221 hg w5 hbox hb; have n0_ := Aside0.mk (below_step (by repeat (first | (with_reducible first | exact HB.out | apply below_alloc | apply pw_below_drewN | apply below_drew1) | exact HB.out)) hb); have n1_ := Aside0.mk (hbox); have n2_ := Aside0.mk ((by rw [hg]; exact (below_size (by repeat (first | (with_reducible first | exact HB.out | apply below_alloc | apply pw_below_drewN | apply below_drew1) | exact HB.out))) : w.heap.size ≤ gb221)); have n3_ := Aside0.mk ((by rw [hg]; exact (below_size (by repeat (first | (with_reducible first | exact HB.out | apply below_alloc | apply pw_below_drewN | apply below_drew1) | exact HB.out))) : w.heap.size ≤ gb221)); clear HB; have HB := n0_; have BK221 := n1_; have GW221 := n2_; have GE221 := n3_; clear n0_ n1_ n2_ n3_; clear hb hbox hg; have hcz6_0 : w5.cell? ⟨gb221, 0, none⟩ = some (.int .i64 a0_0) := (blk_cell BK221.out 0).trans rfl; have hcz6_1 : w5.cell? ⟨gb221, 1, none⟩ = some (.slice A0_1 l0_1.length c0_1) := (blk_cell BK221.out 1).trans rfl; have hcz6_2 : w5.cell? ⟨gb221, 2, none⟩ = some (.slice A0_2 l0_2.length c0_2) := (blk_cell BK221.out 2).trans rfl; have hfz6_0 := blk_frozen BK221.out 0; have hfz6_1 := blk_frozen BK221.out 1; have hfz6_2 := blk_frozen BK221.out 2) | ((with_reducible refine gate_callee (f := 52) rfl ?_); refine goesL_ (some 8) rfl rfl Try.func52 (by kernel_rfl) rfl #[.slice A0_1 l0_1.length c0_1, .int .i64 a1] rfl (by (try simp only [List.map_toArray, List.map_cons, List.map_nil]); first | done | rfl | (simp only [List.length_drop, List.length_take]; rfl)) ?_; (with_reducible refine (laws_szUint64S.calls _ _ l0_1 a1 t222 _ ?side1 ?side2 A3.out).mono ?_); (case side1 => repeat (first | exact (Kd.C_below HR0_1.out HB.out) | (with_reducible refine Kd.C_alloc ?_ _) | (with_reducible refine Kd.C_drewN ?_ _) | (with_reducible refine Kd.C_drew ?_))); (case side2 => exact HC0_1.out); rintro e w' ⟨rfl, ⟨nd, rfl⟩⟩; refine ⟨_, rfl, ?_⟩))
    go_ret
    exact ⟨by first | rfl | (simp [errW_none, errW_some] <;> rfl) | (simp [*, errW_none, errW_some] <;> rfl), by repeat (first | (with_reducible first | exact HB.out | apply below_alloc | apply pw_below_drewN | apply below_drew1 | refine below_set ?_ GE221.out) | exact HB.out)⟩
  · rw [if_neg c4] at H
    have c4b0 : decide (t222 < 0) = false := decide_eq_false c4
    clear c4
    replace H := Option.bind_eq_some_iff.mp H
    obtain ⟨t223, A70, H⟩ := H
    replace H : (if t223 < 0 then (some (-1)) else (some t223)) = some r := H
    have A7 := Aside0.mk A70
    clear A70
    by_cases c8 : t223 < 0
    · rw [if_pos c8] at H
      have c8b0 : decide (t223 < 0) = true := decide_eq_true c8
      clear c8
      obtain rfl := Option.some.inj H
      go_enter Try.func24, Try.ntmps24
      go_wp2_with (first | ((with_reducible refine gate_dst (N := 2) rfl ?_); refine box_event ?hg (N := 2) ?hd (cs := #[.int .i64 a0_0, .slice A0_1 l0_1.length c0_1, .slice A0_2 l0_2.length c0_2]) (t := 39) ?hr ?_; (case hd => rfl); (case hg => rfl); (case hr => first | (go_simp; done) | (go_simp; rfl)); intro gb221 hg w9 hbox hb; have n0_ := Aside0.mk (below_step (by repeat (first | (with_reducible first | exact HB.out | apply below_alloc | apply pw_below_drewN | apply below_drew1) | exact HB.out)) hb); have n1_ := Aside0.mk (hbox); have n2_ := Aside0.mk ((by rw [hg]; exact (below_size (by repeat (first | (with_reducible first | exact HB.out | apply below_alloc | apply pw_below_drewN | apply below_drew1) | exact HB.out))) : w.heap.size ≤ gb221)); have n3_ := Aside0.mk ((by rw [hg]; exact (below_size (by repeat (first | (with_reducible first | exact HB.out | apply below_alloc | apply pw_below_drewN | apply below_drew1) | exact HB.out))) : w.heap.size ≤ gb221)); clear HB; have HB := n0_; have BK221 := n1_; have GW221 := n2_; have GE221 := n3_; clear n0_ n1_ n2_ n3_; clear hb hbox hg; have hcz10_0 : w9.cell? ⟨gb221, 0, none⟩ = some (.int .i64 a0_0) := (blk_cell BK221.out 0).trans rfl; have hcz10_1 : w9.cell? ⟨gb221, 1, none⟩ = some (.slice A0_1 l0_1.length c0_1) := (blk_cell BK221.out 1).trans rfl; have hcz10_2 : w9.cell? ⟨gb221, 2, none⟩ = some (.slice A0_2 l0_2.length c0_2) := (blk_cell BK221.out 2).trans rfl; have hfz10_0 := blk_frozen BK221.out 0; have hfz10_1 := blk_frozen BK221.out 1; have hfz10_2 := blk_frozen BK221.out 2) | ((with_reducible refine gate_callee (f := 52) rfl ?_); refine goesL_ (some 8) rfl rfl Try.func52 (by kernel_rfl) rfl #[.slice A0_1 l0_1.length c0_1, .int .i64 a1] rfl (by (try simp only [List.map_toArray, List.map_cons, List.map_nil]); first | done | rfl | (simp only [List.length_drop, List.length_take]; rfl)) ?_; (with_reducible refine (laws_szUint64S.calls _ _ l0_1 a1 t222 _ ?side1 ?side2 A3.out).mono ?_); (case side1 => repeat (first | exact (Kd.C_below HR0_1.out HB.out) | (with_reducible refine Kd.C_alloc ?_ _) | (with_reducible refine Kd.C_drewN ?_ _) | (with_reducible refine Kd.C_drew ?_))); (case side2 => exact HC0_1.out); rintro e w' ⟨rfl, ⟨nd, rfl⟩⟩; refine ⟨_, rfl, ?_⟩) | ((with_reducible refine gate_callee (f := 53) rfl ?_); refine goesL_ (some 14) rfl rfl Try.func53 (by kernel_rfl) rfl #[.slice A0_2 l0_2.length c0_2, .int .i64 t222] rfl (by (try simp only [List.map_toArray, List.map_cons, List.map_nil]); first | done | rfl | (simp only [List.length_drop, List.length_take]; rfl)) ?_; (with_reducible refine (laws_szStringS.calls k _ _ l0_2 t222 t223 _ ?side1 ?side2 A7.out).mono ?_); (case side1 => repeat (first | exact (Kd.C_below HR0_2.out (by repeat (first | (with_reducible first | exact HB.out | apply below_alloc | apply pw_below_drewN | apply below_drew1 | refine below_set ?_ GE221.out) | exact HB.out))) | (with_reducible refine Kd.C_alloc ?_ _) | (with_reducible refine Kd.C_drewN ?_ _) | (with_reducible refine Kd.C_drew ?_))); (case side2 => exact HC0_2.out); rintro e w' ⟨rfl, ⟨nd, rfl⟩⟩; refine ⟨_, rfl, ?_⟩))
      go_ret
      exact ⟨by first | rfl | (simp [errW_none, errW_some] <;> rfl) | (simp [*, errW_none, errW_some] <;> rfl), by repeat (first | (with_reducible first | exact HB.out | apply below_alloc | apply pw_below_drewN | apply below_drew1 | refine below_set ?_ GE221.out) | exact HB.out)⟩
    · rw [if_neg c8] at H
      have c8b0 : decide (t223 < 0) = false := decide_eq_false c8
      clear c8
      obtain rfl := Option.some.inj H
      go_enter Try.func24, Try.ntmps24
      go_wp2_with (first | ((with_reducible refine gate_dst (N := 2) rfl ?_); refine box_event ?hg (N := 2) ?hd (cs := #[.int .i64 a0_0, .slice A0_1 l0_1.length c0_1, .slice A0_2 l0_2.length c0_2]) (t := 39) ?hr ?_; (case hd => rfl); (case hg => rfl); (case hr => first | (go_simp; done) | (go_simp; rfl)); intro gb221 hg w11 hbox hb; have n0_ := Aside0.mk (below_step (by repeat (first | (with_reducible first | exact HB.out | apply below_alloc | apply pw_below_drewN | apply below_drew1) | exact HB.out)) hb); have n1_ := Aside0.mk (hbox); have n2_ := Aside0.mk ((by rw [hg]; exact (below_size (by repeat (first | (with_reducible first | exact HB.out | apply below_alloc | apply pw_below_drewN | apply below_drew1) | exact HB.out))) : w.heap.size ≤ gb221)); have n3_ := Aside0.mk ((by rw [hg]; exact (below_size (by repeat (first | (with_reducible first | exact HB.out | apply below_alloc | apply pw_below_drewN | apply below_drew1) | exact HB.out))) : w.heap.size ≤ gb221)); clear HB; have HB := n0_; have BK221 := n1_; have GW221 := n2_; have GE221 := n3_; clear n0_ n1_ n2_ n3_; clear hb hbox hg; have hcz12_0 : w11.cell? ⟨gb221, 0, none⟩ = some (.int .i64 a0_0) := (blk_cell BK221.out 0).trans rfl; have hcz12_1 : w11.cell? ⟨gb221, 1, none⟩ = some (.slice A0_1 l0_1.length c0_1) := (blk_cell BK221.out 1).trans rfl; have hcz12_2 : w11.cell? ⟨gb221, 2, none⟩ = some (.slice A0_2 l0_2.length c0_2) := (blk_cell BK221.out 2).trans rfl; have hfz12_0 := blk_frozen BK221.out 0; have hfz12_1 := blk_frozen BK221.out 1; have hfz12_2 := blk_frozen BK221.out 2) | ((with_reducible refine gate_callee (f := 52) rfl ?_); refine goesL_ (some 8) rfl rfl Try.func52 (by kernel_rfl) rfl #[.slice A0_1 l0_1.length c0_1, .int .i64 a1] rfl (by (try simp only [List.map_toArray, List.map_cons, List.map_nil]); first | done | rfl | (simp only [List.length_drop, List.length_take]; rfl)) ?_; (with_reducible refine (laws_szUint64S.calls _ _ l0_1 a1 t222 _ ?side1 ?side2 A3.out).mono ?_); (case side1 => repeat (first | exact (Kd.C_below HR0_1.out HB.out) | (with_reducible refine Kd.C_alloc ?_ _) | (with_reducible refine Kd.C_drewN ?_ _) | (with_reducible refine Kd.C_drew ?_))); (case side2 => exact HC0_1.out); rintro e w' ⟨rfl, ⟨nd, rfl⟩⟩; refine ⟨_, rfl, ?_⟩) | ((with_reducible refine gate_callee (f := 53) rfl ?_); refine goesL_ (some 14) rfl rfl Try.func53 (by kernel_rfl) rfl #[.slice A0_2 l0_2.length c0_2, .int .i64 t222] rfl (by (try simp only [List.map_toArray, List.map_cons, List.map_nil]); first | done | rfl | (simp only [List.length_drop, List.length_take]; rfl)) ?_; (with_reducible refine (laws_szStringS.calls k _ _ l0_2 t222 t223 _ ?side1 ?side2 A7.out).mono ?_); (case side1 => repeat (first | exact (Kd.C_below HR0_2.out (by repeat (first | (with_reducible first | exact HB.out | apply below_alloc | apply pw_below_drewN | apply below_drew1 | refine below_set ?_ GE221.out) | exact HB.out))) | (with_reducible refine Kd.C_alloc ?_ _) | (with_reducible refine Kd.C_drewN ?_ _) | (with_reducible refine Kd.C_drew ?_))); (case side2 => exact HC0_2.out); rintro e w' ⟨rfl, ⟨nd, rfl⟩⟩; refine ⟨_, rfl, ?_⟩))
      go_ret
      exact ⟨by first | rfl | (simp [errW_none, errW_some] <;> rfl) | (simp [*, errW_none, errW_some] <;> rfl), by repeat (first | (with_reducible first | exact HB.out | apply below_alloc | apply pw_below_drewN | apply below_drew1 | refine below_set ?_ GE221.out) | exact HB.out)⟩

end Go.Proofs.Ytgdebfaoohjikaa.F

namespace Go.Proofs.Ytgdebfaoohjikaa.F
open Go.RowKit Go.Proofs.YtgdebfaoohjikaaW.PrintWords Go.Proofs.YtgdebfaoohjikaaW.PrintLast Go.Proofs.YtgdebfaoohjikaaW.PrintMore
attribute [local go_sem] max2_int min2_int max_two min_two max_three min_three max_four min_four   -- for this text's walks alone
set_option linter.unusedVariables false
set_option linter.unusedSimpArgs false

/-! ### laws_toUint64S: function 54 -/
def laws_toUint64S.l0 : Nat → List Int → List Int → Int → Option (List Int)
  | 0, _, _, _ => none
  | k + 1, x0, x3, x4 => if x4 < (x0.length : Int) then (if 0 ≤ x4 then (if x4 < (x3.length : Int) then (laws_toUint64S.l0 k x0 (x3.set (x4 : Int).toNat (rd x0 x4)) (wrap64 (x4 + 1))) else (none)) else (none)) else (some x3)
def laws_toUint64S.f (k : Nat) (l0 : List Int) : Option (List Int) := if 0 ≤ (l0.length : Int) then (if ((l0.length : Int) : Int).toNat ≤ 35184372088832 then (laws_toUint64S.l0 k l0 (List.replicate ((l0.length : Int) : Int).toNat 0) 0) else (none)) else (none)
theorem laws_toUint64S.mono_l : ∀ k, (∀ y0 y1 y2, LeO (laws_toUint64S.l0 k y0 y1 y2) (laws_toUint64S.l0 (k + 1) y0 y1 y2))
  | 0 => fun _ _ _ r h => by simp [laws_toUint64S.l0] at h
  | k + 1 => by
    have ih0 := laws_toUint64S.mono_l k
    · intro y0 y1 y2
      unfold laws_toUint64S.l0
      repeat' first
      | (with_reducible exact ih0 _ _ _)
      | (with_reducible exact LeO.refl _)
      | (with_reducible exact LeO.none _)
      | (with_reducible refine LeO.ite ?_ ?_)
      | (with_reducible refine LeO.bind ?_ (fun _ => ?_))
      | exact ih0 _ _ _
      | exact LeO.none _
      | refine LeO.ite ?_ ?_
      | refine LeO.bind ?_ (fun _ => ?_)
theorem laws_toUint64S.mono : ∀ a0 k, LeO (laws_toUint64S.f k a0) (laws_toUint64S.f (k + 1) a0) := by
  intro a0 k
  have ih0 := laws_toUint64S.mono_l k
  unfold laws_toUint64S.f
  repeat' first
      | (with_reducible exact ih0 _ _ _)
      | (with_reducible exact LeO.refl _)
      | (with_reducible exact LeO.none _)
      | (with_reducible refine LeO.ite ?_ ?_)
      | (with_reducible refine LeO.bind ?_ (fun _ => ?_))
      | exact ih0 _ _ _
      | exact LeO.none _
      | refine LeO.ite ?_ ?_
      | refine LeO.bind ?_ (fun _ => ?_)
set_option maxHeartbeats 8000000 in
set_option maxRecDepth 100000 in
theorem laws_toUint64S.calls (k : Nat) (A0 : Option Addr) (c0 : Nat) (l0 : List Int) (r : List Int) (w : World) (hr0 : Kd.C (Kd.int .u64) w A0 l0.length l0) (hc0 : l0.length ≤ c0) (h : laws_toUint64S.f k l0 = some r) :
    Calls Try.prog 54 #[.slice A0 l0.length c0] w fun e w' => ∃ v0_ : Value, e = .returned (v0_) ∧ Kd.R (Kd.int .u64) 23 w' w.heap.size (fun _ => True) v0_ r ∧ Below w.heap.size w w' := by
  have HR0 := Aside0.mk hr0
  have HC0 := Aside0.mk hc0
  clear hr0 hc0
  have HB := Aside0.mk (Below.refl w.heap.size w)
  have H : (if 0 ≤ (l0.length : Int) then (if ((l0.length : Int) : Int).toNat ≤ 35184372088832 then (laws_toUint64S.l0 k l0 (List.replicate ((l0.length : Int) : Int).toNat 0) 0) else (none)) else (none)) = some r := h
  clear h
  by_cases c2 : 0 ≤ (l0.length : Int)
  · rw [if_pos c2] at H
    have c2b0 := eq_true c2
    have c2b1 : decide (0 ≤ (l0.length : Int)) = true := decide_eq_true c2
    clear c2
    by_cases c3 : ((l0.length : Int) : Int).toNat ≤ 35184372088832
    · rw [if_pos c3] at H
      have c3b0 := eq_true c3
      have c3b1 : decide (((l0.length : Int) : Int).toNat ≤ 35184372088832) = true := decide_eq_true c3
      clear c3
      obtain ⟨y227, hy227⟩ : ∃ y_ : List Int, y_ = (List.replicate ((l0.length : Int) : Int).toNat 0) := ⟨_, rfl⟩
      replace H : (laws_toUint64S.l0 k l0 y227 0) = some r := by first | (rw [hy227]; with_reducible exact H) | (have H2_ := (Option.bind_some _ _).symm.trans H; rw [hy227]; with_reducible exact H2_) | (have H2_ := (Option.bind_some _ _).symm.trans H; with_reducible exact H2_) | with_reducible exact H | (rw [hy227]; exact H) | exact H
      have Ny227 := Aside0.mk hy227
      clear hy227
      have H' := Aside0.mk H
      clear H
      go_enter Try.func54, Try.ntmps54
      go_wp2_with (first | ((with_reducible refine gate_dst (N := 7) rfl ?_); refine Kd.R_make (Kd.int .u64) _ 23 rfl (N := 7) rfl 36 _ _ rfl (l0.length : Int) rfl rfl Try.underlying36 (.int .u64 0) 8 info23 rfl (by decide) (by omega) 0 (ok := fun _ => True) (okp := fun _ => True) rfl (fun _ hk => hk) trivial (of_decide_eq_true (by first | (with_reducible assumption) | assumption)) (Nat.le_trans (Nat.mul_le_mul_right _ (of_decide_eq_true (by first | (with_reducible assumption) | assumption) : (l0.length : Int).toNat ≤ 35184372088832)) (by omega)) (Below.refl _ _) (Nat.le_refl _) ?_; intro v228 w4 ho5 hb hg_ hnew_; clear hg_ hnew_; (first | rw [← Ny227.out] at ho5 | (simp only [Int.reduceToNat] at ho5; rw [← Ny227.out] at ho5)); have n0_ := Aside0.mk (Kd.R_lower ho5 (below_size (by repeat (first | (with_reducible first | exact HB.out | apply below_alloc | apply pw_below_drewN | apply below_drew1) | exact HB.out)))); have n1_ := Aside0.mk (below_step (by repeat (first | (with_reducible first | exact HB.out | apply below_alloc | apply pw_below_drewN | apply below_drew1) | exact HB.out)) hb); clear HB; have HO229 := n0_; have HB := n1_; clear n0_ n1_; clear hb ho5))
      go_loopg [4] k (fun kq v4 w' => ∃ (x3_1 : List Int) (x4_1 : Int), v4 = .int .i64 x4_1 ∧ Aside0 (laws_toUint64S.l0 kq l0 x3_1 x4_1 = some r) ∧ Aside0 (kq ≤ k) ∧ Aside0 (Kd.R (Kd.int .u64) 23 w' w.heap.size (fun _ => True) v228 x3_1) ∧ Aside0 (Below w.heap.size w w'))
      case atStart => exact ⟨(y227), (0), (by first | rfl | (simp; done) | (simp [*]; done)), H', ⟨Nat.le_refl _⟩, ⟨by (with_reducible repeat (first | apply Kd.R_alloc | apply Kd.R_drewN | apply Kd.R_drew)); exact HO229.out⟩, ⟨by repeat (first | (with_reducible first | exact HB.out | apply below_alloc | apply pw_below_drewN | apply below_drew1) | exact HB.out)⟩⟩
      case round =>
        clear H'
        try clear c2
        try clear c2b0
        try clear c2b1
        try clear p2
        try clear c3
        try clear c3b0
        try clear c3b1
        try clear c5
        obtain ⟨x3_1, x4_1, rfl, HA, HK1, HO_3, HB⟩ := hrel
        cases gk with
        | zero => exact absurd HA.out (by simp [laws_toUint64S.l0])
        | succ k1 =>
          have H := HA.out
          clear HA
          simp only [laws_toUint64S.l0] at H
          by_cases c6 : x4_1 < (l0.length : Int)
          · rw [if_pos c6] at H
            have c6b0 : decide (x4_1 < (l0.length : Int)) = true := decide_eq_true c6
            clear c6
            by_cases c7 : 0 ≤ x4_1
            · rw [if_pos c7] at H
              have c7b0 : decide (0 ≤ x4_1) = true := decide_eq_true c7
              clear c7
              by_cases c8 : x4_1 < (x3_1.length : Int)
              · rw [if_pos c8] at H
                have c8b0 : decide (x4_1 < (x3_1.length : Int)) = true := decide_eq_true c8
                clear c8
                obtain ⟨y231, hy231⟩ : ∃ y_ : List Int, y_ = (x3_1.set (x4_1 : Int).toNat (rd l0 x4_1)) := ⟨_, rfl⟩
                replace H : (laws_toUint64S.l0 k1 l0 y231 (wrap64 (x4_1 + 1))) = some r := by first | (rw [hy231]; with_reducible exact H) | (have H2_ := (Option.bind_some _ _).symm.trans H; rw [hy231]; with_reducible exact H2_) | (have H2_ := (Option.bind_some _ _).symm.trans H; with_reducible exact H2_) | with_reducible exact H | (rw [hy231]; exact H) | exact H
                have Ny231 := Aside0.mk hy231
                clear hy231
                have H' := Aside0.mk H
                clear H
                have p230 : 0 ≤ (x4_1 : Int) := of_decide_eq_true (by first | (with_reducible assumption) | assumption)
                have q230 : x4_1 < (l0.length : Int) := of_decide_eq_true (by first | (with_reducible assumption) | assumption)
                obtain ⟨ad230, e230, hx230_0⟩ := Kd.at_int HR0.out x4_1 p230 q230
                cases e230
                replace hx230_0 := (HB.out.cell (World.block_lt_of_cell? w _ hx230_0)).trans hx230_0
                replace p230 := eq_true p230
                replace q230 := eq_true q230
                have p9 : 0 ≤ (x4_1 : Int) := of_decide_eq_true (by first | (with_reducible assumption) | assumption)
                have q9 : (x4_1 : Int) < ((x3_1.length : Int) : Int) := of_decide_eq_true (by first | (with_reducible assumption) | assumption)
                obtain ⟨go9, co9, eo9, gb9, gl9, cl9, HG9⟩ := Kd.R_form HO_3.out (by omega)
                (first | cases eo9 | (injection eo9 with ea_ en_ ec_; (first | subst ea_ | (injection ea_ with ea_; subst ea_)); subst ec_; clear en_))
                have GB9 := Aside0.mk gb9
                have GG9 := Aside0.mk HG9
                clear gb9 gl9 HG9
                obtain ⟨hx9_0, hf9_0⟩ := Kd.R_celln 0 HO_3.out (x4_1 : Int) p9 q9
                replace p9 := eq_true p9
                replace q9 := eq_true q9
                have HP10 := Kd.R_putg HO_3.out (x4_1 : Int) (rd l0 x4_1)
                go_wp2_with (first | ((with_reducible refine gate_store (t := 23) (p := 20) rfl ?_); refine store_event (t := 23) (p := 20) (v := ?vo_w11) (w1 := (wr.setCell ⟨go9, (x4_1 : Int).toNat, none⟩ (.int .u64 (rd l0 x4_1)))) ?hg ?ho ?hn ?hr ?_; (case ho => rfl); (case hg => rfl); (case hn => rfl); (case hr => first | (go_simp; done) | (go_simp; rfl)); intro w11 hw; have hg : wr.grownBy w11 (some go9) := (by rw [hw]; exact HP10.2); have hp_ : Kd.R (Kd.int .u64) 23 w11 w.heap.size (fun _ => True) (.slice (some ⟨go9, 0, none⟩) x3_1.length co9) y231 := (by rw [hw, Ny231.out]; exact HP10.1); clear HP10; have n0_ := Aside0.mk (hp_); have n1_ := Aside0.mk ((by rw [hw]; exact below_set (HB.out) GB9.out : Below w.heap.size w w11)); clear HO_3; clear HB; have HO_3 := n0_; have HB := n1_; clear n0_ n1_; clear hg hw hp_))
                go_roundg k1
                case measure => have := HK1.out; omega
                case rel => exact ⟨(y231), (wrap64 (x4_1 + 1)), (by first | rfl | (simp; done) | (simp [*]; done)), H', ⟨by have := HK1.out; omega⟩, ⟨by (with_reducible repeat (first | apply Kd.R_alloc | apply Kd.R_drewN | apply Kd.R_drew)); exact HO_3.out⟩, ⟨by repeat (first | (with_reducible first | exact HB.out | apply below_alloc | apply pw_below_drewN | apply below_drew1) | exact HB.out)⟩⟩
              · rw [if_neg c8] at H
                exact absurd H (by simp)
            · rw [if_neg c7] at H
              exact absurd H (by simp)
          · rw [if_neg c6] at H
            have c6b0 : decide (x4_1 < (l0.length : Int)) = false := decide_eq_false c6
            clear c6
            obtain rfl := Option.some.inj H
            go_wp2
            go_ret
            exact ⟨_, by first | rfl | (simp [errW_none, errW_some] <;> rfl) | (simp [*, errW_none, errW_some] <;> rfl), by (with_reducible repeat (first | apply Kd.R_alloc | apply Kd.R_drewN | apply Kd.R_drew)); exact HO_3.out, by repeat (first | (with_reducible first | exact HB.out | apply below_alloc | apply pw_below_drewN | apply below_drew1) | exact HB.out)⟩
    · rw [if_neg c3] at H
      exact absurd H (by simp)
  · rw [if_neg c2] at H
    exact absurd H (by simp)

end Go.Proofs.Ytgdebfaoohjikaa.F

namespace Go.Proofs.Ytgdebfaoohjikaa.F
open Go.RowKit Go.Proofs.YtgdebfaoohjikaaW.PrintWords Go.Proofs.YtgdebfaoohjikaaW.PrintLast Go.Proofs.YtgdebfaoohjikaaW.PrintMore
attribute [local go_sem] max2_int min2_int max_two min_two max_three min_three max_four min_four   -- for this text's walks alone
set_option linter.unusedVariables false
set_option linter.unusedSimpArgs false

/-! ### laws_toStringS: function 55 -/
def laws_toStringS.l0 : Nat → List ByteArray → List ByteArray → Int → Option (List ByteArray)
  | 0, _, _, _ => none
  | k + 1, x0, x3, x4 => if x4 < (x0.length : Int) then (if 0 ≤ x4 then (if x4 < (x3.length : Int) then (laws_toStringS.l0 k x0 (x3.set (x4 : Int).toNat (rdOf ByteArray.empty x0 x4)) (wrap64 (x4 + 1))) else (none)) else (none)) else (some x3)
def laws_toStringS.f (k : Nat) (l0 : List ByteArray) : Option (List ByteArray) := if 0 ≤ (l0.length : Int) then (if ((l0.length : Int) : Int).toNat ≤ 17592186044416 then (laws_toStringS.l0 k l0 (List.replicate ((l0.length : Int) : Int).toNat (⟨#[]⟩ : ByteArray)) 0) else (none)) else (none)
theorem laws_toStringS.mono_l : ∀ k, (∀ y0 y1 y2, LeO (laws_toStringS.l0 k y0 y1 y2) (laws_toStringS.l0 (k + 1) y0 y1 y2))
  | 0 => fun _ _ _ r h => by simp [laws_toStringS.l0] at h
  | k + 1 => by
    have ih0 := laws_toStringS.mono_l k
    · intro y0 y1 y2
      unfold laws_toStringS.l0
      repeat' first
      | (with_reducible exact ih0 _ _ _)
      | (with_reducible exact LeO.refl _)
      | (with_reducible exact LeO.none _)
      | (with_reducible refine LeO.ite ?_ ?_)
      | (with_reducible refine LeO.bind ?_ (fun _ => ?_))
      | exact ih0 _ _ _
      | exact LeO.none _
      | refine LeO.ite ?_ ?_
      | refine LeO.bind ?_ (fun _ => ?_)
theorem laws_toStringS.mono : ∀ a0 k, LeO (laws_toStringS.f k a0) (laws_toStringS.f (k + 1) a0) := by
  intro a0 k
  have ih0 := laws_toStringS.mono_l k
  unfold laws_toStringS.f
  repeat' first
      | (with_reducible exact ih0 _ _ _)
      | (with_reducible exact LeO.refl _)
      | (with_reducible exact LeO.none _)
      | (with_reducible refine LeO.ite ?_ ?_)
      | (with_reducible refine LeO.bind ?_ (fun _ => ?_))
      | exact ih0 _ _ _
      | exact LeO.none _
      | refine LeO.ite ?_ ?_
      | refine LeO.bind ?_ (fun _ => ?_)
set_option maxHeartbeats 8000000 in
set_option maxRecDepth 100000 in
theorem laws_toStringS.calls (k : Nat) (A0 : Option Addr) (c0 : Nat) (l0 : List ByteArray) (r : List ByteArray) (w : World) (hr0 : Kd.C Kd.string w A0 l0.length l0) (hc0 : l0.length ≤ c0) (h : laws_toStringS.f k l0 = some r) :
    Calls Try.prog 55 #[.slice A0 l0.length c0] w fun e w' => ∃ v0_ : Value, e = .returned (v0_) ∧ Kd.R Kd.string 9 w' w.heap.size (fun _ => True) v0_ r ∧ Below w.heap.size w w' := by
  have HR0 := Aside0.mk hr0
  have HC0 := Aside0.mk hc0
  clear hr0 hc0
  have HB := Aside0.mk (Below.refl w.heap.size w)
  have H : (if 0 ≤ (l0.length : Int) then (if ((l0.length : Int) : Int).toNat ≤ 17592186044416 then (laws_toStringS.l0 k l0 (List.replicate ((l0.length : Int) : Int).toNat (⟨#[]⟩ : ByteArray)) 0) else (none)) else (none)) = some r := h
  clear h
  by_cases c2 : 0 ≤ (l0.length : Int)
  · rw [if_pos c2] at H
    have c2b0 := eq_true c2
    have c2b1 : decide (0 ≤ (l0.length : Int)) = true := decide_eq_true c2
    clear c2
    by_cases c3 : ((l0.length : Int) : Int).toNat ≤ 17592186044416
    · rw [if_pos c3] at H
      have c3b0 := eq_true c3
      have c3b1 : decide (((l0.length : Int) : Int).toNat ≤ 17592186044416) = true := decide_eq_true c3
      clear c3
      obtain ⟨y232, hy232⟩ : ∃ y_ : List ByteArray, y_ = (List.replicate ((l0.length : Int) : Int).toNat (⟨#[]⟩ : ByteArray)) := ⟨_, rfl⟩
      replace H : (laws_toStringS.l0 k l0 y232 0) = some r := by first | (rw [hy232]; with_reducible exact H) | (have H2_ := (Option.bind_some _ _).symm.trans H; rw [hy232]; with_reducible exact H2_) | (have H2_ := (Option.bind_some _ _).symm.trans H; with_reducible exact H2_) | with_reducible exact H | (rw [hy232]; exact H) | exact H
      have Ny232 := Aside0.mk hy232
      clear hy232
      have H' := Aside0.mk H
      clear H
      go_enter Try.func55, Try.ntmps55
      go_wp2_with (first | ((with_reducible refine gate_dst (N := 7) rfl ?_); refine Kd.R_make Kd.string _ 9 rfl (N := 7) rfl 37 _ _ rfl (l0.length : Int) rfl rfl Try.underlying37 (.string ⟨#[]⟩) 16 info9 rfl (by decide) (by omega) (⟨#[]⟩ : ByteArray) (ok := fun _ => True) (okp := fun _ => True) rfl (fun _ hk => hk) trivial (of_decide_eq_true (by first | (with_reducible assumption) | assumption)) (Nat.le_trans (Nat.mul_le_mul_right _ (of_decide_eq_true (by first | (with_reducible assumption) | assumption) : (l0.length : Int).toNat ≤ 17592186044416)) (by omega)) (Below.refl _ _) (Nat.le_refl _) ?_; intro v233 w4 ho5 hb hg_ hnew_; clear hg_ hnew_; (first | rw [← Ny232.out] at ho5 | (simp only [Int.reduceToNat] at ho5; rw [← Ny232.out] at ho5)); have n0_ := Aside0.mk (Kd.R_lower ho5 (below_size (by repeat (first | (with_reducible first | exact HB.out | apply below_alloc | apply pw_below_drewN | apply below_drew1) | exact HB.out)))); have n1_ := Aside0.mk (below_step (by repeat (first | (with_reducible first | exact HB.out | apply below_alloc | apply pw_below_drewN | apply below_drew1) | exact HB.out)) hb); clear HB; have HO234 := n0_; have HB := n1_; clear n0_ n1_; clear hb ho5))
      go_loopg [4] k (fun kq v4 w' => ∃ (x3_1 : List ByteArray) (x4_1 : Int), v4 = .int .i64 x4_1 ∧ Aside0 (laws_toStringS.l0 kq l0 x3_1 x4_1 = some r) ∧ Aside0 (kq ≤ k) ∧ Aside0 (Kd.R Kd.string 9 w' w.heap.size (fun _ => True) v233 x3_1) ∧ Aside0 (Below w.heap.size w w'))
      case atStart => exact ⟨(y232), (0), (by first | rfl | (simp; done) | (simp [*]; done)), H', ⟨Nat.le_refl _⟩, ⟨by (with_reducible repeat (first | apply Kd.R_alloc | apply Kd.R_drewN | apply Kd.R_drew)); exact HO234.out⟩, ⟨by repeat (first | (with_reducible first | exact HB.out | apply below_alloc | apply pw_below_drewN | apply below_drew1) | exact HB.out)⟩⟩
      case round =>
        clear H'
        try clear c2
        try clear c2b0
        try clear c2b1
        try clear p2
        try clear c3
        try clear c3b0
        try clear c3b1
        try clear c5
        obtain ⟨x3_1, x4_1, rfl, HA, HK1, HO_3, HB⟩ := hrel
        cases gk with
        | zero => exact absurd HA.out (by simp [laws_toStringS.l0])
        | succ k1 =>
          have H := HA.out
          clear HA
          simp only [laws_toStringS.l0] at H
          by_cases c6 : x4_1 < (l0.length : Int)
          · rw [if_pos c6] at H
            have c6b0 : decide (x4_1 < (l0.length : Int)) = true := decide_eq_true c6
            clear c6
            by_cases c7 : 0 ≤ x4_1
            · rw [if_pos c7] at H
              have c7b0 : decide (0 ≤ x4_1) = true := decide_eq_true c7
              clear c7
              by_cases c8 : x4_1 < (x3_1.length : Int)
              · rw [if_pos c8] at H
                have c8b0 : decide (x4_1 < (x3_1.length : Int)) = true := decide_eq_true c8
                clear c8
                obtain ⟨y236, hy236⟩ : ∃ y_ : List ByteArray, y_ = (x3_1.set (x4_1 : Int).toNat (rdOf ByteArray.empty l0 x4_1)) := ⟨_, rfl⟩
                replace H : (laws_toStringS.l0 k1 l0 y236 (wrap64 (x4_1 + 1))) = some r := by first | (rw [hy236]; with_reducible exact H) | (have H2_ := (Option.bind_some _ _).symm.trans H; rw [hy236]; with_reducible exact H2_) | (have H2_ := (Option.bind_some _ _).symm.trans H; with_reducible exact H2_) | with_reducible exact H | (rw [hy236]; exact H) | exact H
                have Ny236 := Aside0.mk hy236
                clear hy236
                have H' := Aside0.mk H
                clear H
                have p235 : 0 ≤ (x4_1 : Int) := of_decide_eq_true (by first | (with_reducible assumption) | assumption)
                have q235 : x4_1 < (l0.length : Int) := of_decide_eq_true (by first | (with_reducible assumption) | assumption)
                obtain ⟨ad235, e235, hx235_0⟩ := Kd.at_string HR0.out x4_1 p235 q235
                cases e235
                replace hx235_0 := (HB.out.cell (World.block_lt_of_cell? w _ hx235_0)).trans hx235_0
                replace p235 := eq_true p235
                replace q235 := eq_true q235
                have p9 : 0 ≤ (x4_1 : Int) := of_decide_eq_true (by first | (with_reducible assumption) | assumption)
                have q9 : (x4_1 : Int) < ((x3_1.length : Int) : Int) := of_decide_eq_true (by first | (with_reducible assumption) | assumption)
                obtain ⟨go9, co9, eo9, gb9, gl9, cl9, HG9⟩ := Kd.R_form HO_3.out (by omega)
                (first | cases eo9 | (injection eo9 with ea_ en_ ec_; (first | subst ea_ | (injection ea_ with ea_; subst ea_)); subst ec_; clear en_))
                have GB9 := Aside0.mk gb9
                have GG9 := Aside0.mk HG9
                clear gb9 gl9 HG9
                obtain ⟨hx9_0, hf9_0⟩ := Kd.R_celln (⟨#[]⟩ : ByteArray) HO_3.out (x4_1 : Int) p9 q9
                replace p9 := eq_true p9
                replace q9 := eq_true q9
                have HP10 := Kd.R_putg HO_3.out (x4_1 : Int) (rdOf ByteArray.empty l0 x4_1)
                go_wp2_with (first | ((with_reducible refine gate_store (t := 9) (p := 20) rfl ?_); refine store_event (t := 9) (p := 20) (v := ?vo_w11) (w1 := (wr.setCell ⟨go9, (x4_1 : Int).toNat, none⟩ (.string (rdOf ByteArray.empty l0 x4_1)))) ?hg ?ho ?hn ?hr ?_; (case ho => rfl); (case hg => rfl); (case hn => rfl); (case hr => first | (go_simp; done) | (go_simp; rfl)); intro w11 hw; have hg : wr.grownBy w11 (some go9) := (by rw [hw]; exact HP10.2); have hp_ : Kd.R Kd.string 9 w11 w.heap.size (fun _ => True) (.slice (some ⟨go9, 0, none⟩) x3_1.length co9) y236 := (by rw [hw, Ny236.out]; exact HP10.1); clear HP10; have n0_ := Aside0.mk (hp_); have n1_ := Aside0.mk ((by rw [hw]; exact below_set (HB.out) GB9.out : Below w.heap.size w w11)); clear HO_3; clear HB; have HO_3 := n0_; have HB := n1_; clear n0_ n1_; clear hg hw hp_))
                go_roundg k1
                case measure => have := HK1.out; omega
                case rel => exact ⟨(y236), (wrap64 (x4_1 + 1)), (by first | rfl | (simp; done) | (simp [*]; done)), H', ⟨by have := HK1.out; omega⟩, ⟨by (with_reducible repeat (first | apply Kd.R_alloc | apply Kd.R_drewN | apply Kd.R_drew)); exact HO_3.out⟩, ⟨by repeat (first | (with_reducible first | exact HB.out | apply below_alloc | apply pw_below_drewN | apply below_drew1) | exact HB.out)⟩⟩
              · rw [if_neg c8] at H
                exact absurd H (by simp)
            · rw [if_neg c7] at H
              exact absurd H (by simp)
          · rw [if_neg c6] at H
            have c6b0 : decide (x4_1 < (l0.length : Int)) = false := decide_eq_false c6
            clear c6
            obtain rfl := Option.some.inj H
            go_wp2
            go_ret
            exact ⟨_, by first | rfl | (simp [errW_none, errW_some] <;> rfl) | (simp [*, errW_none, errW_some] <;> rfl), by (with_reducible repeat (first | apply Kd.R_alloc | apply Kd.R_drewN | apply Kd.R_drew)); exact HO_3.out, by repeat (first | (with_reducible first | exact HB.out | apply below_alloc | apply pw_below_drewN | apply below_drew1) | exact HB.out)⟩
    · rw [if_neg c3] at H
      exact absurd H (by simp)
  · rw [if_neg c2] at H
    exact absurd H (by simp)

end Go.Proofs.Ytgdebfaoohjikaa.F

namespace Go.Proofs.Ytgdebfaoohjikaa.F
open Go.RowKit Go.Proofs.YtgdebfaoohjikaaW.PrintWords Go.Proofs.YtgdebfaoohjikaaW.PrintLast Go.Proofs.YtgdebfaoohjikaaW.PrintMore
attribute [local go_sem] max2_int min2_int max_two min_two max_three min_three max_four min_four   -- for this text's walks alone
set_option linter.unusedVariables false
set_option linter.unusedSimpArgs false

/-! ### laws_toRecord: function 26 -/
def laws_toRecord.f (k : Nat) (a0_0 : Int) (l0_1 : List Int) (l0_2 : List ByteArray) : Option (Int × List Int × List ByteArray) := (laws_toUint64S.f k l0_1).bind fun t240 => ((laws_toStringS.f k l0_2).bind fun t243 => (some (a0_0, t240, t243)))
theorem laws_toRecord.mono : ∀ a0 a1 a2 k, LeO (laws_toRecord.f k a0 a1 a2) (laws_toRecord.f (k + 1) a0 a1 a2) := by
  intro a0 a1 a2 k
  unfold laws_toRecord.f
  repeat' first
      | (with_reducible exact laws_toStringS.mono _ _)
      | (with_reducible exact laws_toUint64S.mono _ _)
      | (with_reducible exact LeO.refl _)
      | (with_reducible exact LeO.none _)
      | (with_reducible refine LeO.ite ?_ ?_)
      | (with_reducible refine LeO.bind ?_ (fun _ => ?_))
      | exact laws_toStringS.mono _ _
      | exact laws_toUint64S.mono _ _
      | exact LeO.none _
      | refine LeO.ite ?_ ?_
      | refine LeO.bind ?_ (fun _ => ?_)
set_option maxHeartbeats 8000000 in
set_option maxRecDepth 100000 in
theorem laws_toRecord.calls (k : Nat) (a0_0 : Int) (A0_1 : Option Addr) (c0_1 : Nat) (l0_1 : List Int) (A0_2 : Option Addr) (c0_2 : Nat) (l0_2 : List ByteArray) (r1 : Int) (r2 : List Int) (r3 : List ByteArray) (w : World) (hr0_1 : Kd.C (Kd.int .u64) w A0_1 l0_1.length l0_1) (hc0_1 : l0_1.length ≤ c0_1) (hr0_2 : Kd.C Kd.string w A0_2 l0_2.length l0_2) (hc0_2 : l0_2.length ≤ c0_2) (h : laws_toRecord.f k a0_0 l0_1 l0_2 = some (r1, r2, r3)) :
    Calls Try.prog 26 #[.agg #[.int .i64 a0_0, .slice A0_1 l0_1.length c0_1, .slice A0_2 l0_2.length c0_2]] w fun e w' => ∃ v1_ v2_ : Value, e = .returned (.agg #[.int .i64 r1, v1_, v2_]) ∧ Kd.R (Kd.int .u64) 23 w' w.heap.size (fun _ => True) v1_ r2 ∧ Kd.R Kd.string 9 w' w.heap.size (fun _ => True) v2_ r3 ∧ Below w.heap.size w w' := by
  have hu39 := Try.underlying39
  have hu42 := Try.underlying42
  have HR0_1 := Aside0.mk hr0_1
  have HC0_1 := Aside0.mk hc0_1
  clear hr0_1 hc0_1
  have HR0_2 := Aside0.mk hr0_2
  have HC0_2 := Aside0.mk hc0_2
  clear hr0_2 hc0_2
  have HB := Aside0.mk (Below.refl w.heap.size w)
  have H : ((laws_toUint64S.f k l0_1).bind fun t240 => ((laws_toStringS.f k l0_2).bind fun t243 => (some (a0_0, t240, t243)))) = some (r1, r2, r3) := h
  clear h
  replace H := Option.bind_eq_some_iff.mp H
  obtain ⟨t240, A20, H⟩ := H
  replace H : ((laws_toStringS.f k l0_2).bind fun t243 => (some (a0_0, t240, t243))) = some (r1, r2, r3) := H
  have A2 := Aside0.mk A20
  clear A20
  replace H := Option.bind_eq_some_iff.mp H
  obtain ⟨t243, A30, H⟩ := H
  replace H : (some (a0_0, t240, t243)) = some (r1, r2, r3) := H
  have A3 := Aside0.mk A30
  clear A30
  simp only [Option.some.injEq, Prod.mk.injEq] at H
  obtain ⟨rfl, rfl, rfl⟩ := H
  go_enter Try.func26, Try.ntmps26
  go_wp2_with (first | ((with_reducible refine gate_dst (N := 1) rfl ?_); refine box_event ?hg (N := 1) ?hd (cs := #[.int .i64 a0_0, .slice A0_1 l0_1.length c0_1, .slice A0_2 l0_2.length c0_2]) (t := 39) ?hr ?_; (case hd => rfl); (case hg => rfl); (case hr => first | (go_simp; done) | (go_simp; rfl)); intro gb237 hg w4 hbox hb; have n0_ := Aside0.mk (below_step (by repeat (first | (with_reducible first | exact HB.out | apply below_alloc | apply pw_below_drewN | apply below_drew1) | exact HB.out)) hb); have n1_ := Aside0.mk (hbox); have n2_ := Aside0.mk ((by rw [hg]; exact (below_size (by repeat (first | (with_reducible first | exact HB.out | apply below_alloc | apply pw_below_drewN | apply below_drew1) | exact HB.out))) : w.heap.size ≤ gb237)); have n3_ := Aside0.mk ((by rw [hg]; exact (below_size (by repeat (first | (with_reducible first | exact HB.out | apply below_alloc | apply pw_below_drewN | apply below_drew1) | exact HB.out))) : w.heap.size ≤ gb237)); clear HB; have HB := n0_; have BK237 := n1_; have GW237 := n2_; have GE237 := n3_; clear n0_ n1_ n2_ n3_; clear hb hbox hg) | ((with_reducible refine gate_dst (N := 2) rfl ?_); refine box_event ?hg (N := 2) ?hd (cs := #[.int .i64 0, .slice none 0 0, .slice none 0 0]) (t := 42) ?hr ?_; (case hd => rfl); (case hg => rfl); (case hr => first | (go_simp; done) | (go_simp; rfl)); intro gb238 hg w5 hbox hb; have n0_ := Aside0.mk (blk_below (g := gb237) (o := .cells #[.int .i64 a0_0, .slice A0_1 l0_1.length c0_1, .slice A0_2 l0_2.length c0_2] 39 (0, 0)) (by (with_reducible repeat (first | refine blk_drewN ?_ _ | refine blk_drew ?_ | refine blk_alloc ?_ _)); exact BK237.out) hb); have n1_ := Aside0.mk (below_step (by repeat (first | (with_reducible first | exact HB.out | apply below_alloc | apply pw_below_drewN | apply below_drew1 | refine below_set ?_ GE237.out) | exact HB.out)) hb); have n2_ := Aside0.mk (hbox); have n3_ := Aside0.mk ((by rw [hg]; exact (below_size (by repeat (first | (with_reducible first | exact HB.out | apply below_alloc | apply pw_below_drewN | apply below_drew1 | refine below_set ?_ GE237.out) | exact HB.out))) : w.heap.size ≤ gb238)); have n4_ := Aside0.mk ((by rw [hg]; exact (below_size (by repeat (first | (with_reducible first | exact HB.out | apply below_alloc | apply pw_below_drewN | apply below_drew1 | refine below_set ?_ GE237.out) | exact HB.out))) : w.heap.size ≤ gb238)); have n5_ := Aside0.mk ((by rw [hg]; exact Nat.ne_of_lt (blk_lt (g := gb237) (o := .cells #[.int .i64 a0_0, .slice A0_1 l0_1.length c0_1, .slice A0_2 l0_2.length c0_2] 39 (0, 0)) (by (with_reducible repeat (first | refine blk_drewN ?_ _ | refine blk_drew ?_ | refine blk_alloc ?_ _)); exact BK237.out)) : gb237 ≠ gb238)); have n6_ := Aside0.mk ((by rw [hg]; exact Nat.ne_of_gt (blk_lt (g := gb237) (o := .cells #[.int .i64 a0_0, .slice A0_1 l0_1.length c0_1, .slice A0_2 l0_2.length c0_2] 39 (0, 0)) (by (with_reducible repeat (first | refine blk_drewN ?_ _ | refine blk_drew ?_ | refine blk_alloc ?_ _)); exact BK237.out)) : gb238 ≠ gb237)); clear BK237; clear HB; have BK237 := n0_; have HB := n1_; have BK238 := n2_; have GW238 := n3_; have GE238 := n4_; have NB237_238 := n5_; have NB238_237 := n6_; clear n0_ n1_ n2_ n3_ n4_ n5_ n6_; clear hb hbox hg) | ((with_reducible refine gate_dst (N := 3) rfl ?_); refine box_event ?hg (N := 3) ?hd (cs := #[.int .i64 0, .slice none 0 0, .slice none 0 0]) (t := 42) ?hr ?_; (case hd => rfl); (case hg => rfl); (case hr => first | (go_simp; done) | (go_simp; rfl)); intro gb239 hg w6 hbox hb; have n0_ := Aside0.mk (blk_below (g := gb237) (o := .cells #[.int .i64 a0_0, .slice A0_1 l0_1.length c0_1, .slice A0_2 l0_2.length c0_2] 39 (0, 0)) (by (with_reducible repeat (first | refine blk_drewN ?_ _ | refine blk_drew ?_ | refine blk_alloc ?_ _)); exact BK237.out) hb); have n1_ := Aside0.mk (blk_below (g := gb238) (o := .cells #[.int .i64 0, .slice none 0 0, .slice none 0 0] 42 (0, 0)) (by (with_reducible repeat (first | refine blk_drewN ?_ _ | refine blk_drew ?_ | refine blk_alloc ?_ _)); exact BK238.out) hb); have n2_ := Aside0.mk (below_step (by repeat (first | (with_reducible first | exact HB.out | apply below_alloc | apply pw_below_drewN | apply below_drew1 | refine below_set ?_ GE237.out | refine below_set ?_ GE238.out) | exact HB.out)) hb); have n3_ := Aside0.mk (hbox); have n4_ := Aside0.mk ((by rw [hg]; exact (below_size (by repeat (first | (with_reducible first | exact HB.out | apply below_alloc | apply pw_below_drewN | apply below_drew1 | refine below_set ?_ GE237.out | refine below_set ?_ GE238.out) | exact HB.out))) : w.heap.size ≤ gb239)); have n5_ := Aside0.mk ((by rw [hg]; exact (below_size (by repeat (first | (with_reducible first | exact HB.out | apply below_alloc | apply pw_below_drewN | apply below_drew1 | refine below_set ?_ GE237.out | refine below_set ?_ GE238.out) | exact HB.out))) : w.heap.size ≤ gb239)); have n6_ := Aside0.mk ((by rw [hg]; exact Nat.ne_of_lt (blk_lt (g := gb237) (o := .cells #[.int .i64 a0_0, .slice A0_1 l0_1.length c0_1, .slice A0_2 l0_2.length c0_2] 39 (0, 0)) (by (with_reducible repeat (first | refine blk_drewN ?_ _ | refine blk_drew ?_ | refine blk_alloc ?_ _)); exact BK237.out)) : gb237 ≠ gb239)); have n7_ := Aside0.mk ((by rw [hg]; exact Nat.ne_of_gt (blk_lt (g := gb237) (o := .cells #[.int .i64 a0_0, .slice A0_1 l0_1.length c0_1, .slice A0_2 l0_2.length c0_2] 39 (0, 0)) (by (with_reducible repeat (first | refine blk_drewN ?_ _ | refine blk_drew ?_ | refine blk_alloc ?_ _)); exact BK237.out)) : gb239 ≠ gb237)); have n8_ := Aside0.mk ((by rw [hg]; exact Nat.ne_of_lt (blk_lt (g := gb238) (o := .cells #[.int .i64 0, .slice none 0 0, .slice none 0 0] 42 (0, 0)) (by (with_reducible repeat (first | refine blk_drewN ?_ _ | refine blk_drew ?_ | refine blk_alloc ?_ _)); exact BK238.out)) : gb238 ≠ gb239)); have n9_ := Aside0.mk ((by rw [hg]; exact Nat.ne_of_gt (blk_lt (g := gb238) (o := .cells #[.int .i64 0, .slice none 0 0, .slice none 0 0] 42 (0, 0)) (by (with_reducible repeat (first | refine blk_drewN ?_ _ | refine blk_drew ?_ | refine blk_alloc ?_ _)); exact BK238.out)) : gb239 ≠ gb238)); clear BK237; clear BK238; clear HB; have BK237 := n0_; have BK238 := n1_; have HB := n2_; have BK239 := n3_; have GW239 := n4_; have GE239 := n5_; have NB237_239 := n6_; have NB239_237 := n7_; have NB238_239 := n8_; have NB239_238 := n9_; clear n0_ n1_ n2_ n3_ n4_ n5_ n6_ n7_ n8_ n9_; clear hb hbox hg; have hnb7 := NB237_238.out; have hnc7 := NB238_237.out; have hnb8 := NB237_239.out; have hnc8 := NB239_237.out; have hcz9_0 : w6.cell? ⟨gb237, 0, none⟩ = some (.int .i64 a0_0) := (blk_cell BK237.out 0).trans rfl; have hcz9_1 : w6.cell? ⟨gb237, 1, none⟩ = some (.slice A0_1 l0_1.length c0_1) := (blk_cell BK237.out 1).trans rfl; have hcz9_2 : w6.cell? ⟨gb237, 2, none⟩ = some (.slice A0_2 l0_2.length c0_2) := (blk_cell BK237.out 2).trans rfl; have hfz9_0 := blk_frozen BK237.out 0; have hfz9_1 := blk_frozen BK237.out 1; have hfz9_2 := blk_frozen BK237.out 2; have hnb10 := NB239_238.out; have hnc10 := NB238_239.out; have hcz11_0 : w6.cell? ⟨gb239, 0, none⟩ = some (.int .i64 0) := (blk_cell BK239.out 0).trans rfl; have hcz11_1 : w6.cell? ⟨gb239, 1, none⟩ = some (.slice none 0 0) := (blk_cell BK239.out 1).trans rfl; have hcz11_2 : w6.cell? ⟨gb239, 2, none⟩ = some (.slice none 0 0) := (blk_cell BK239.out 2).trans rfl; have hfz11_0 := blk_frozen BK239.out 0; have hfz11_1 := blk_frozen BK239.out 1; have hfz11_2 := blk_frozen BK239.out 2) | ((with_reducible refine gate_callee (f := 54) rfl ?_); refine goesL_ (some 9) rfl rfl Try.func54 (by kernel_rfl) rfl #[.slice A0_1 l0_1.length c0_1] rfl (by (try simp only [List.map_toArray, List.map_cons, List.map_nil]); first | done | rfl | (simp only [List.length_drop, List.length_take]; rfl)) ?_; (with_reducible refine (laws_toUint64S.calls k _ _ l0_1 t240 _ ?side1 ?side2 A2.out).mono ?_); (case side1 => exact Kd.C_below HR0_1.out (by repeat (first | (with_reducible first | exact HB.out | apply below_alloc | apply pw_below_drewN | apply below_drew1 | refine below_set ?_ GE237.out | refine below_set ?_ GE238.out | refine below_set ?_ GE239.out) | exact HB.out))); (case side2 => exact HC0_1.out); rintro e w12 ⟨v241, rfl, ho0, hb⟩; refine ⟨_, rfl, ?_⟩; have n0_ := Aside0.mk (Kd.R_lower ho0 (below_size (by repeat (first | (with_reducible first | exact HB.out | apply below_alloc | apply pw_below_drewN | apply below_drew1 | refine below_set ?_ GE237.out | refine below_set ?_ GE238.out | refine below_set ?_ GE239.out) | exact HB.out)))); have n1_ := Aside0.mk (blk_below (g := gb237) (o := .cells #[.int .i64 a0_0, .slice A0_1 l0_1.length c0_1, .slice A0_2 l0_2.length c0_2] 39 (0, 0)) (by (with_reducible repeat (first | refine blk_drewN ?_ _ | refine blk_drew ?_ | refine blk_alloc ?_ _)); refine blk_far ?_ NB237_239.out _; (with_reducible repeat (first | refine blk_drewN ?_ _ | refine blk_drew ?_ | refine blk_alloc ?_ _)); exact BK237.out) hb); have n2_ := Aside0.mk (blk_below (g := gb238) (o := .cells #[.int .i64 0, .slice none 0 0, .slice none 0 0] 42 (0, 0)) (by (with_reducible repeat (first | refine blk_drewN ?_ _ | refine blk_drew ?_ | refine blk_alloc ?_ _)); refine blk_far ?_ NB238_239.out _; (with_reducible repeat (first | refine blk_drewN ?_ _ | refine blk_drew ?_ | refine blk_alloc ?_ _)); exact BK238.out) hb); have n3_ := Aside0.mk (blk_below (g := gb239) (o := .cells #[.int .i64 a0_0, .slice none 0 0, .slice none 0 0] 42 (0, 0)) (by (with_reducible repeat (first | refine blk_drewN ?_ _ | refine blk_drew ?_ | refine blk_alloc ?_ _)); refine blk_put (cs := #[.int .i64 0, .slice none 0 0, .slice none 0 0]) ?_ 0 _ rfl; (with_reducible repeat (first | refine blk_drewN ?_ _ | refine blk_drew ?_ | refine blk_alloc ?_ _)); exact BK239.out) hb); have n4_ := Aside0.mk (below_step (by repeat (first | (with_reducible first | exact HB.out | apply below_alloc | apply pw_below_drewN | apply below_drew1 | refine below_set ?_ GE237.out | refine below_set ?_ GE238.out | refine below_set ?_ GE239.out) | exact HB.out)) hb); clear BK237; clear BK238; clear BK239; clear HB; have HO242 := n0_; have BK237 := n1_; have BK238 := n2_; have BK239 := n3_; have HB := n4_; clear n0_ n1_ n2_ n3_ n4_; (try clear hb); (try clear hb2); (try clear hk); (try clear hi); (try clear ho0); obtain ⟨Ao13, co13, eo13⟩ := Kd.R_slice HO242.out; subst eo13; have hcz14_0 : w12.cell? ⟨gb239, 0, none⟩ = some (.int .i64 a0_0) := (blk_cell BK239.out 0).trans rfl; have hcz14_1 : w12.cell? ⟨gb239, 1, none⟩ = some (.slice none 0 0) := (blk_cell BK239.out 1).trans rfl; have hcz14_2 : w12.cell? ⟨gb239, 2, none⟩ = some (.slice none 0 0) := (blk_cell BK239.out 2).trans rfl; have hfz14_0 := blk_frozen BK239.out 0; have hfz14_1 := blk_frozen BK239.out 1; have hfz14_2 := blk_frozen BK239.out 2; have hcz15_0 : w12.cell? ⟨gb237, 0, none⟩ = some (.int .i64 a0_0) := (blk_cell BK237.out 0).trans rfl; have hcz15_1 : w12.cell? ⟨gb237, 1, none⟩ = some (.slice A0_1 l0_1.length c0_1) := (blk_cell BK237.out 1).trans rfl; have hcz15_2 : w12.cell? ⟨gb237, 2, none⟩ = some (.slice A0_2 l0_2.length c0_2) := (blk_cell BK237.out 2).trans rfl; have hfz15_0 := blk_frozen BK237.out 0; have hfz15_1 := blk_frozen BK237.out 1; have hfz15_2 := blk_frozen BK237.out 2) | ((with_reducible refine gate_callee (f := 55) rfl ?_); refine goesL_ (some 13) rfl rfl Try.func55 (by kernel_rfl) rfl #[.slice A0_2 l0_2.length c0_2] rfl (by (try simp only [List.map_toArray, List.map_cons, List.map_nil]); first | done | rfl | (simp only [List.length_drop, List.length_take]; rfl)) ?_; (with_reducible refine (laws_toStringS.calls k _ _ l0_2 t243 _ ?side1 ?side2 A3.out).mono ?_); (case side1 => exact Kd.C_below HR0_2.out (by repeat (first | (with_reducible first | exact HB.out | apply below_alloc | apply pw_below_drewN | apply below_drew1 | refine below_set ?_ GE237.out | refine below_set ?_ GE238.out | refine below_set ?_ GE239.out) | exact HB.out))); (case side2 => exact HC0_2.out); rintro e w16 ⟨v244, rfl, ho0, hb⟩; refine ⟨_, rfl, ?_⟩; have n0_ := Aside0.mk (Kd.R_below (by (with_reducible repeat (first | apply Kd.R_alloc | apply Kd.R_drewN | apply Kd.R_drew)); exact (Kd.R_mono (Kd.R_far (p := ⟨gb239, 1, none⟩) (Kd.R_types HO242.out BK239.out (by decide)) (fun _ hk => hk.2) (.slice Ao13 t240.length co13)) (fun _ h_ => h_.1))) hb); have n1_ := Aside0.mk (Kd.R_lower ho0 (below_size (by repeat (first | (with_reducible first | exact HB.out | apply below_alloc | apply pw_below_drewN | apply below_drew1 | refine below_set ?_ GE237.out | refine below_set ?_ GE238.out | refine below_set ?_ GE239.out) | exact HB.out)))); have n2_ := Aside0.mk (blk_below (g := gb237) (o := .cells #[.int .i64 a0_0, .slice A0_1 l0_1.length c0_1, .slice A0_2 l0_2.length c0_2] 39 (0, 0)) (by (with_reducible repeat (first | refine blk_drewN ?_ _ | refine blk_drew ?_ | refine blk_alloc ?_ _)); refine blk_far ?_ NB237_239.out _; (with_reducible repeat (first | refine blk_drewN ?_ _ | refine blk_drew ?_ | refine blk_alloc ?_ _)); exact BK237.out) hb); have n3_ := Aside0.mk (blk_below (g := gb238) (o := .cells #[.int .i64 0, .slice none 0 0, .slice none 0 0] 42 (0, 0)) (by (with_reducible repeat (first | refine blk_drewN ?_ _ | refine blk_drew ?_ | refine blk_alloc ?_ _)); refine blk_far ?_ NB238_239.out _; (with_reducible repeat (first | refine blk_drewN ?_ _ | refine blk_drew ?_ | refine blk_alloc ?_ _)); exact BK238.out) hb); have n4_ := Aside0.mk (blk_below (g := gb239) (o := .cells #[.int .i64 a0_0, .slice Ao13 t240.length co13, .slice none 0 0] 42 (0, 0)) (by (with_reducible repeat (first | refine blk_drewN ?_ _ | refine blk_drew ?_ | refine blk_alloc ?_ _)); refine blk_put (cs := #[.int .i64 a0_0, .slice none 0 0, .slice none 0 0]) ?_ 1 _ rfl; (with_reducible repeat (first | refine blk_drewN ?_ _ | refine blk_drew ?_ | refine blk_alloc ?_ _)); exact BK239.out) hb); have n5_ := Aside0.mk (below_step (by repeat (first | (with_reducible first | exact HB.out | apply below_alloc | apply pw_below_drewN | apply below_drew1 | refine below_set ?_ GE237.out | refine below_set ?_ GE238.out | refine below_set ?_ GE239.out) | exact HB.out)) hb); clear HO242; clear BK237; clear BK238; clear BK239; clear HB; have HO242 := n0_; have HO245 := n1_; have BK237 := n2_; have BK238 := n3_; have BK239 := n4_; have HB := n5_; clear n0_ n1_ n2_ n3_ n4_ n5_; (try clear hb); (try clear hb2); (try clear hk); (try clear hi); (try clear ho0); obtain ⟨Ao17, co17, eo17⟩ := Kd.R_slice HO245.out; subst eo17; have hcz18_0 : w16.cell? ⟨gb239, 0, none⟩ = some (.int .i64 a0_0) := (blk_cell BK239.out 0).trans rfl; have hcz18_1 : w16.cell? ⟨gb239, 1, none⟩ = some (.slice Ao13 t240.length co13) := (blk_cell BK239.out 1).trans rfl; have hcz18_2 : w16.cell? ⟨gb239, 2, none⟩ = some (.slice none 0 0) := (blk_cell BK239.out 2).trans rfl; have hfz18_0 := blk_frozen BK239.out 0; have hfz18_1 := blk_frozen BK239.out 1; have hfz18_2 := blk_frozen BK239.out 2; have hcz19_0 : w16.cell? ⟨gb238, 0, none⟩ = some (.int .i64 0) := (blk_cell BK238.out 0).trans rfl; have hcz19_1 : w16.cell? ⟨gb238, 1, none⟩ = some (.slice none 0 0) := (blk_cell BK238.out 1).trans rfl; have hcz19_2 : w16.cell? ⟨gb238, 2, none⟩ = some (.slice none 0 0) := (blk_cell BK238.out 2).trans rfl; have hfz19_0 := blk_frozen BK238.out 0; have hfz19_1 := blk_frozen BK238.out 1; have hfz19_2 := blk_frozen BK238.out 2))
  refine bodyPost_ret (results_cell_row rfl _ _ gb238 42 #[.int .i64 a0_0, .slice Ao13 t240.length co13, .slice Ao17 t243.length co17] (0, 0) _ rfl (by (with_reducible repeat (first | refine blk_drewN ?_ _ | refine blk_drew ?_ | refine blk_alloc ?_ _)); refine blk_put (cs := #[.int .i64 a0_0, .slice Ao13 t240.length co13, .slice none 0 0]) ?_ 2 _ rfl; (with_reducible repeat (first | refine blk_drewN ?_ _ | refine blk_drew ?_ | refine blk_alloc ?_ _)); refine blk_put (cs := #[.int .i64 a0_0, .slice none 0 0, .slice none 0 0]) ?_ 1 _ rfl; (with_reducible repeat (first | refine blk_drewN ?_ _ | refine blk_drew ?_ | refine blk_alloc ?_ _)); refine blk_put (cs := #[.int .i64 0, .slice none 0 0, .slice none 0 0]) ?_ 0 _ rfl; (with_reducible repeat (first | refine blk_drewN ?_ _ | refine blk_drew ?_ | refine blk_alloc ?_ _)); refine blk_far ?_ NB238_239.out _; (with_reducible repeat (first | refine blk_drewN ?_ _ | refine blk_drew ?_ | refine blk_alloc ?_ _)); exact BK238.out) Try.underlying42 rfl (by kernel_rfl)) rfl ?_
  exact ⟨_, _, by first | rfl | (simp [errW_none, errW_some] <;> rfl) | (simp [*, errW_none, errW_some] <;> rfl), by (with_reducible repeat (first | apply Kd.R_alloc | apply Kd.R_drewN | apply Kd.R_drew)); exact Kd.R_mono (Kd.R_far (p := ⟨gb238, 2, none⟩) (Kd.R_far (p := ⟨gb238, 1, none⟩) (Kd.R_far (p := ⟨gb238, 0, none⟩) (Kd.R_far (p := ⟨gb239, 2, none⟩) (Kd.R_types (Kd.R_types HO242.out BK239.out (by decide)) BK238.out (by decide)) (fun _ hk => hk.1.2) (.slice Ao17 t243.length co17)) (fun _ hk => hk.2) (.int .i64 a0_0)) (fun _ hk => hk.2) (.slice Ao13 t240.length co13)) (fun _ hk => hk.2) (.slice Ao17 t243.length co17)) (fun _ hk => trivial), by (with_reducible repeat (first | apply Kd.R_alloc | apply Kd.R_drewN | apply Kd.R_drew)); exact Kd.R_mono (Kd.R_far (p := ⟨gb238, 2, none⟩) (Kd.R_far (p := ⟨gb238, 1, none⟩) (Kd.R_far (p := ⟨gb238, 0, none⟩) (Kd.R_far (p := ⟨gb239, 2, none⟩) (Kd.R_types (Kd.R_types HO245.out BK239.out (by decide)) BK238.out (by decide)) (fun _ hk => hk.1.2) (.slice Ao17 t243.length co17)) (fun _ hk => hk.2) (.int .i64 a0_0)) (fun _ hk => hk.2) (.slice Ao13 t240.length co13)) (fun _ hk => hk.2) (.slice Ao17 t243.length co17)) (fun _ hk => trivial), by repeat (first | (with_reducible first | exact HB.out | apply below_alloc | apply pw_below_drewN | apply below_drew1 | refine below_set ?_ GE237.out | refine below_set ?_ GE238.out | refine below_set ?_ GE239.out) | exact HB.out)⟩

end Go.Proofs.Ytgdebfaoohjikaa.F

namespace Go.Proofs.Ytgdebfaoohjikaa.KR
set_option linter.unusedVariables false
set_option linter.unusedSimpArgs false
open Go.RowKit Go.Proofs.Ytgdebfaoohjikaa.F Go.Proofs.Ytgdebfaoohjikaa.PK Go.Proofs.YtgdebfaoohjikaaW.PrintWords Go.Proofs.YtgdebfaoohjikaaW.PrintLast Go.Proofs.YtgdebfaoohjikaaW.PrintMore
theorem rd_at (l : List Int) (i : Nat) (h : i < l.length) : rd l (i : Int) = l[i] := getD_nat l _ i h
theorem nxt (i n : Nat) (h : i < n) (hn : n ≤ 9223372036854775807) : wrap64 ((i : Int) + 1) = ((i + 1 : Nat) : Int) := by rw [w64 (by omega) (by omega)]; omega
theorem rs_at (l : List ByteArray) (i : Nat) (h : i < l.length) : rdOf ByteArray.empty l (i : Int) = l[i] := getD_nat l _ i h
theorem toUint64S (l : List Int) (hl : l.length ≤ 1048576) : Ev (fun k => laws_toUint64S.f k l) l := by
  have key := up (P := fun i => ∀ x : List Int, x.length = l.length → (∀ j : Nat, (j : Int) < i → x[j]? = l[j]?) → Ev (fun k => laws_toUint64S.l0 k l x i) l) l.length
      (fun x h0 h1 => by
        have : x = l := List.ext_getElem? fun j => by
          by_cases hj : j < l.length
          · exact h1 j (by omega)
          · rw [List.getElem?_eq_none (by omega), List.getElem?_eq_none (by omega)]
        subst this
        exact EvS (by simp only [laws_toUint64S.l0, Int.lt_irrefl, if_false]; exact EvN))
      (fun i hi ih x h0 h1 => by
        refine EvS ?_
        simp only [laws_toUint64S.l0, rd_at l i hi, Option.bind_some, h0, Int.toNat_natCast, if_pos (show (i : Int) < (l.length : Int) by omega), if_pos (show 0 ≤ (i : Int) by omega), nxt i _ hi (by omega)]
        refine ih _ (by simpa using h0) fun j hj => ?_
        by_cases hji : j = i
        · subst hji
          rw [List.getElem?_set_self (by omega)]
          simp [List.getElem?_eq_getElem hi]
        · rw [List.getElem?_set_ne (by omega)]
          exact h1 j (by omega))
  have := key 0 (Nat.zero_le _) (List.replicate l.length 0) (by simp) (fun j hj => absurd hj (by omega))
  unfold laws_toUint64S.f
  have hS : (l.length ≤ 35184372088832) = True := eq_true (by omega)
  simp only [Int.toNat_natCast, if_pos (show 0 ≤ (l.length : Int) by omega), hS, if_true]
  exact this
theorem eqUint64S (x : List Int) (hx : x.length ≤ 9223372036854775807) : Ev (fun k => laws_eqUint64S.f k x x) true := by
  have key := up (P := fun i => Ev (fun k => laws_eqUint64S.l0 k x x i) true) x.length
    (EvS (by simp only [laws_eqUint64S.l0, Int.lt_irrefl, if_false]; exact EvN))
    (fun i hi ih => EvS (by simp only [laws_eqUint64S.l0, if_true, Option.bind_some, if_pos (show (i : Int) < (x.length : Int) by omega), if_pos (show 0 ≤ (i : Int) by omega), nxt i _ hi hx]; exact ih))
  have := key 0 (Nat.zero_le _)
  unfold laws_eqUint64S.f
  simp only [if_true]
  exact this
theorem toStringS (l : List ByteArray) (hl : l.length ≤ 1048576) : Ev (fun k => laws_toStringS.f k l) l := by
  have key := up (P := fun i => ∀ x : List ByteArray, x.length = l.length → (∀ j : Nat, (j : Int) < i → x[j]? = l[j]?) → Ev (fun k => laws_toStringS.l0 k l x i) l) l.length
      (fun x h0 h1 => by
        have : x = l := List.ext_getElem? fun j => by
          by_cases hj : j < l.length
          · exact h1 j (by omega)
          · rw [List.getElem?_eq_none (by omega), List.getElem?_eq_none (by omega)]
        subst this
        exact EvS (by simp only [laws_toStringS.l0, Int.lt_irrefl, if_false]; exact EvN))
      (fun i hi ih x h0 h1 => by
        refine EvS ?_
        simp only [laws_toStringS.l0, rs_at l i hi, Option.bind_some, h0, Int.toNat_natCast, if_pos (show (i : Int) < (l.length : Int) by omega), if_pos (show 0 ≤ (i : Int) by omega), nxt i _ hi (by omega)]
        refine ih _ (by simpa using h0) fun j hj => ?_
        by_cases hji : j = i
        · subst hji
          rw [List.getElem?_set_self (by omega)]
          simp [List.getElem?_eq_getElem hi]
        · rw [List.getElem?_set_ne (by omega)]
          exact h1 j (by omega))
  have := key 0 (Nat.zero_le _) (List.replicate l.length (⟨#[]⟩ : ByteArray)) (by simp) (fun j hj => absurd hj (by omega))
  unfold laws_toStringS.f
  have hS : (l.length ≤ 17592186044416) = True := eq_true (by omega)
  simp only [Int.toNat_natCast, if_pos (show 0 ≤ (l.length : Int) by omega), hS, if_true]
  exact this
theorem eqStringS (x : List ByteArray) (hx : x.length ≤ 9223372036854775807) : Ev (fun k => laws_eqStringS.f k x x) true := by
  have key := up (P := fun i => Ev (fun k => laws_eqStringS.l0 k x x i) true) x.length
    (EvS (by simp only [laws_eqStringS.l0, Int.lt_irrefl, if_false]; exact EvN))
    (fun i hi ih => EvS (by simp only [laws_eqStringS.l0, if_true, Option.bind_some, if_pos (show (i : Int) < (x.length : Int) by omega), if_pos (show 0 ≤ (i : Int) by omega), nxt i _ hi hx]; exact ih))
  have := key 0 (Nat.zero_le _)
  unfold laws_eqStringS.f
  simp only [if_true]
  exact this
theorem szUint64S (l : List Int) (c : Int) (h0 : 0 ≤ c) (h1 : c ≤ 1048576) (hl : l.length ≤ 9223372036854775807) : ∃ t, laws_szUint64S.f l c = some t ∧ t ≤ c ∧ (0 ≤ t → (l.length : Int) ≤ c) := by
  unfold laws_szUint64S.f
  rw [w64 (by omega) (by omega)]
  split
  · exact ⟨_, rfl, by omega, by omega⟩
  · exact ⟨_, rfl, by omega, by omega⟩
theorem szStringS (l : List ByteArray) (c : Int) (h0 : 0 ≤ c) (h1 : c ≤ 1048576) (hl : l.length ≤ 9223372036854775807) (hs : ∀ y ∈ l, y.size ≤ 9223372036854775807) : ∃ t, Ev (fun k => laws_szStringS.f k l c) t ∧ t ≤ c ∧ (0 ≤ t → (l.length : Int) ≤ c) := by
  by_cases h : (c - (l.length : Int)) < 0
  · refine ⟨-1, ?_, by omega, by omega⟩
    unfold laws_szStringS.f
    rw [w64 (by omega) (by omega)]
    simp only [if_pos h]
    exact EvN
  · have key := up (P := fun i => ∀ x, 0 ≤ x → x ≤ 1048576 → ∃ t, Ev (fun k => laws_szStringS.l0 k l x i) t ∧ t ≤ x) l.length
      (fun x g0 g1 => ⟨x, EvS (by simp only [laws_szStringS.l0, Int.lt_irrefl, if_false]; exact EvN), Int.le_refl _⟩)
      (fun i hi ih x g0 g1 => by
        have hz := hs _ (List.getElem_mem hi)
        by_cases h2 : x - (l[i].size : Int) < 0
        · refine ⟨-1, EvS ?_, by omega⟩
          simp only [laws_szStringS.l0, rs_at l i hi, w64 (show -9223372036854775808 ≤ x - (l[i].size : Int) by omega) (show x - (l[i].size : Int) ≤ 9223372036854775807 by omega), if_pos h2, if_pos (show (i : Int) < (l.length : Int) by omega), if_pos (show 0 ≤ (i : Int) by omega)]
          exact EvN
        · obtain ⟨t', h3, h4⟩ := ih (x - (l[i].size : Int)) (by omega) (by omega)
          refine ⟨t', EvS ?_, by omega⟩
          simp only [laws_szStringS.l0, rs_at l i hi, w64 (show -9223372036854775808 ≤ x - (l[i].size : Int) by omega) (show x - (l[i].size : Int) ≤ 9223372036854775807 by omega), if_neg h2, if_pos (show (i : Int) < (l.length : Int) by omega), if_pos (show 0 ≤ (i : Int) by omega), nxt i _ hi hl]
          exact h3)
    obtain ⟨t, h2, h3⟩ := key 0 (Nat.zero_le _) (c - (l.length : Int)) (by omega) (by omega)
    refine ⟨t, ?_, by omega, by omega⟩
    unfold laws_szStringS.f
    rw [w64 (by omega) (by omega)]
    simp only [if_neg h]
    exact h2
theorem szRecord (a : Int) (n : List Int) (s : List ByteArray) (c : Int) (h0 : 0 ≤ c) (h1 : c ≤ 1048576) (hn : n.length ≤ 9223372036854775807) (hl : s.length ≤ 9223372036854775807) (hs : ∀ y ∈ s, y.size ≤ 9223372036854775807) : ∃ t, Ev (fun k => laws_szRecord.f k a n s c) t ∧ t ≤ c ∧ (0 ≤ t → n.length ≤ 1048576 ∧ s.length ≤ 1048576) := by
  obtain ⟨t, e, a1, a2⟩ := szUint64S n c h0 h1 hn
  unfold laws_szRecord.f
  by_cases g : t < 0
  · exact ⟨-1, by simp only [e, Option.bind_some, if_pos g]; exact EvN, by omega, by omega⟩
  obtain ⟨t1, e1, b1, b2⟩ := szStringS s t (by omega) (by omega) hl hs
  by_cases g1 : t1 < 0
  · exact ⟨-1, by simp only [e, Option.bind_some, if_neg g, EvB e1, if_pos g1]; exact EvN, by omega, by omega⟩
  · exact ⟨t1, by simp only [e, Option.bind_some, if_neg g, EvB e1, if_neg g1]; exact EvN, by omega, by omega⟩
theorem toRecord (a : Int) (n : List Int) (s : List ByteArray) (hn : n.length ≤ 1048576) (hs : s.length ≤ 1048576) : Ev (fun k => laws_toRecord.f k a n s) (a, n, s) := by
  unfold laws_toRecord.f
  simp only [EvB (toUint64S n hn), EvB (toStringS s hs)]
  exact EvN
theorem eqRecord (a : Int) (n : List Int) (s : List ByteArray) (hn : n.length ≤ 9223372036854775807) (hs : s.length ≤ 9223372036854775807) : Ev (fun k => laws_eqRecord.f k a n s a n s) true := by
  unfold laws_eqRecord.f
  simp only [EvB (eqUint64S n hn), EvB (eqStringS s hs), if_true]
  exact EvN
def longM (s : List ByteArray) : Bool := s.any fun x => decide ((x.size : Int) > 40)
def okRec (a : Int) (n : List Int) (s : List ByteArray) : Bool := decide (0 ≤ a ∧ a ≤ 250 ∧ n.length ≤ 24 ∧ s.length ≤ 6) && !longM s
theorem okRec_bd {a : Int} {n : List Int} {s : List ByteArray} (h : okRec a n s = true) : 0 ≤ a ∧ a ≤ 250 ∧ n.length ≤ 24 ∧ s.length ≤ 6 := by
  simp only [okRec, Bool.and_eq_true, decide_eq_true_eq] at h
  exact h.1
theorem spec_rec (a : Int) (n : List Int) (s : List ByteArray) (hs : s.length ≤ 9223372036854775807) : Ev (fun k => spec_RecordOk.f k a n s) (okRec a n s) := by
  have key := up0 (P := fun i => Ev (fun k => spec_RecordOk.l0 k i a n s) (decide (0 ≤ a ∧ a ≤ 250 ∧ n.length ≤ 24 ∧ s.length ≤ 6) && !longM (s.drop i.toNat))) s.length
    (EvS (by
      simp only [spec_RecordOk.l0, spec_l01In.f, Int.lt_irrefl, if_false, Int.toNat_natCast, List.drop_length, longM, List.any_nil, Bool.not_false, Bool.and_true]
      by_cases h1 : 0 ≤ a
      · by_cases h2 : a ≤ 250
        · by_cases h3 : (n.length : Int) ≤ 24
          · simp only [if_pos h1, decide_eq_true h2, Option.bind_some, if_true, if_pos h3]
            rw [show decide ((s.length : Int) ≤ 6) = decide (0 ≤ a ∧ a ≤ 250 ∧ n.length ≤ 24 ∧ s.length ≤ 6) from decide_eq_decide.2 (by omega)]
            exact EvN
          · simp only [if_pos h1, decide_eq_true h2, Option.bind_some, if_true, if_neg h3, decide_eq_false (show ¬ (0 ≤ a ∧ a ≤ 250 ∧ n.length ≤ 24 ∧ s.length ≤ 6) by omega)]; exact EvN
        · simp only [if_pos h1, decide_eq_false h2, Option.bind_some, Bool.false_eq_true, if_false, decide_eq_false (show ¬ (0 ≤ a ∧ a ≤ 250 ∧ n.length ≤ 24 ∧ s.length ≤ 6) by omega)]; exact EvN
      · simp only [if_neg h1, Option.bind_some, Bool.false_eq_true, if_false, decide_eq_false (show ¬ (0 ≤ a ∧ a ≤ 250 ∧ n.length ≤ 24 ∧ s.length ≤ 6) by omega)]; exact EvN))
    (fun i hi ih => EvS (by
      rw [Int.toNat_natCast] at *
      rw [drop_at s i hi]
      simp only [spec_RecordOk.l0, if_pos (show (i : Int) < (s.length : Int) by omega), if_pos (show 0 ≤ (i : Int) by omega), rs_at s i hi, nxt i _ hi hs, longM, List.any_cons]
      by_cases h1 : (s[i].size : Int) > 40
      · simp only [if_pos h1, decide_eq_true h1, Bool.true_or, Bool.not_true, Bool.and_false]; exact EvN
      · simp only [if_neg h1, decide_eq_false h1, Bool.false_or]; exact ih))
  exact key
theorem impl_rec (a : Int) (n : List Int) (s : List ByteArray) (hs : s.length ≤ 9223372036854775807) : impl_isRecord.f a n s = some (okRec a n s) := by
  unfold impl_isRecord.f okRec
  by_cases h1 : a ≥ 0
  · by_cases h2 : a ≤ 250
    · by_cases h3 : (n.length : Int) ≤ 24
      · by_cases h4 : (s.length : Int) ≤ 6
        · simp only [if_pos h1, if_pos h2, if_pos h3, if_pos h4, impl_isRecord_long.f, if_pos hs, Option.bind_some, decide_eq_true (show (0 ≤ a ∧ a ≤ 250 ∧ n.length ≤ 24 ∧ s.length ≤ 6) by omega), Bool.true_and]
          rfl
        · simp only [if_pos h1, if_pos h2, if_pos h3, if_neg h4, decide_eq_false (show ¬ (0 ≤ a ∧ a ≤ 250 ∧ n.length ≤ 24 ∧ s.length ≤ 6) by omega), Bool.false_and]
      · simp only [if_pos h1, if_pos h2, if_neg h3, decide_eq_false (show ¬ (0 ≤ a ∧ a ≤ 250 ∧ n.length ≤ 24 ∧ s.length ≤ 6) by omega), Bool.false_and]
    · simp only [if_pos h1, if_neg h2, decide_eq_false (show ¬ (0 ≤ a ∧ a ≤ 250 ∧ n.length ≤ 24 ∧ s.length ≤ 6) by omega), Bool.false_and]
  · simp only [if_neg h1, decide_eq_false (show ¬ (0 ≤ a ∧ a ≤ 250 ∧ n.length ≤ 24 ∧ s.length ≤ 6) by omega), Bool.false_and]
end Go.Proofs.Ytgdebfaoohjikaa.KR

namespace Go.Proofs.Ytgdebfaoohjikaa.DE
set_option linter.unusedVariables false
set_option linter.unusedSimpArgs false
open Go.RowKit Go.Proofs.Ytgdebfaoohjikaa.F Go.Proofs.Ytgdebfaoohjikaa.PK Go.Proofs.Ytgdebfaoohjikaa.VI Go.Proofs.YtgdebfaoohjikaaW.PrintWords Go.Proofs.YtgdebfaoohjikaaW.PrintLast Go.Proofs.YtgdebfaoohjikaaW.PrintMore
open Go.Proofs.Ytgdebfaoohjikaa.KR (okRec longM okRec_bd spec_rec impl_rec)
theorem gv_len : ∀ (l : List Int) (k : Nat) (p : Int × Nat), gv k l = some p → 1 ≤ p.2 ∧ p.2 ≤ l.length := by
  intro l
  induction l with
  | nil => intro k p h; cases h
  | cons b r ih =>
    intro k p h
    unfold gv at h
    split at h
    · cases h
    split at h
    · cases h
    split at h
    · cases hg : gv (k + 1) r with
      | none => rw [hg] at h; cases h
      | some q =>
        rw [hg] at h
        have e := Option.some.inj h
        have := ih _ _ hg
        rw [← e]
        simp only [List.length_cons]
        omega
    split at h
    · cases h
    · have e := Option.some.inj h
      rw [← e]
      simp only [List.length_cons]
      omega
theorem lt8 (n : Nat) (h : n ≤ 255) : n < 8796093022208 := by omega
theorem lt9 (n : Nat) (h : n ≤ 255) : n < 17592186044416 := by omega
abbrev Rec := Int × List Int × List ByteArray × Bool
def noRec : Rec := (0, [], [], false)
def numsM (l : List Int) : Nat → Nat → List Int → Option (Nat × List Int)
  | 0, a, acc => some (a, acc)
  | n + 1, a, acc => match gv 0 (l.drop a) with
    | none => none
    | some p => numsM l n (a + p.2) (acc ++ [p.1])
def wordsM (l : List Int) : Nat → Nat → List ByteArray → Option (Nat × List ByteArray)
  | 0, a, acc => some (a, acc)
  | n + 1, a, acc => if l.length ≤ a then none else if l.length < a + 1 + (rd l a).toNat then none else wordsM l n (a + 1 + (rd l a).toNat) (acc ++ [strOfNums ((l.take (a + 1 + (rd l a).toNat)).drop (a + 1))])
def finW (l : List Int) (kd : Int) (ns : List Int) : Option (Nat × List ByteArray) → Rec
  | none => noRec
  | some (a, ws) => if a = l.length ∧ okRec kd ns ws = true then (kd, ns, ws, true) else noRec
def finN (l : List Int) (kd : Int) : Option (Nat × List Int) → Rec
  | none => noRec
  | some (a, ns) => if l.length ≤ a then noRec else finW l kd ns (wordsM l (rd l a).toNat (a + 1) [])
def decM (l : List Int) : Rec := if l.length < 3 ∨ 4000 < l.length ∨ rd l 1 > 24 then noRec else finN l (rd l 0) (numsM l (rd l 1).toNat 2 [])
theorem rdb {l : List Int} (hu : U8s l) (i : Nat) (hi : i < l.length) : 0 ≤ rd l (i : Int) ∧ rd l (i : Int) ≤ 255 := by
  have e : rd l (i : Int) = l[i] := getD_nat l _ i hi
  rw [e]
  exact hu _ (List.getElem_mem hi)
theorem specWords (l : List Int) (hu : U8s l) (hl : l.length ≤ 4000) (kd : Int) (ns : List Int) (W : Nat) (hW : W ≤ 255) : ∀ (n i : Nat), i + n = W → ∀ (a : Nat) (acc : List ByteArray), a ≤ l.length → acc.length ≤ i →
    Ev (fun k => spec_Decode.l1 k l a W i kd ns acc) (finW l kd ns (wordsM l n a acc)) := by
  intro n
  induction n with
  | zero =>
    intro i hi a acc ha hacc
    refine EvS ?_
    have : i = W := by omega
    subst this
    simp only [spec_Decode.l1, Int.lt_irrefl, if_false, wordsM, finW]
    by_cases h : (a : Int) = (l.length : Int)
    · simp only [if_pos h, EvB (spec_rec kd ns acc (by omega))]
      simp only [show a = l.length by omega, true_and]
      by_cases h2 : okRec kd ns acc = true
      · simp only [if_pos h2]; exact EvN
      · simp only [if_neg h2]; exact EvN
    · simp only [if_neg h, show ¬ a = l.length by omega, false_and, if_false]; exact EvN
  | succ n ih =>
    intro i hi a acc ha hacc
    have hS : (acc.length < 8796093022208) = True := eq_true (lt8 _ (Nat.le_trans hacc (by omega)))
    refine EvS ?_
    simp only [spec_Decode.l1, if_pos (show (i : Int) < (W : Int) by omega), wordsM]
    by_cases h1 : l.length ≤ a
    · simp only [if_pos (show (a : Int) ≥ (l.length : Int) by omega), if_pos h1, finW]; exact EvN
    have hb := rdb hu a (by omega)
    have e1 : wrap64 (rd l (a : Int)) = rd l (a : Int) := w64 (by omega) (by omega)
    have e2 : wrap64 (wrap64 ((l.length : Int) - (a : Int)) - 1) = (l.length : Int) - a - 1 := by rw [w64 (x := (l.length : Int) - (a : Int)) (by omega) (by omega), w64 (by omega) (by omega)]
    have e3 : wrap64 ((a : Int) + 1) = ((a + 1 : Nat) : Int) := by rw [w64 (by omega) (by omega)]; omega
    have e4 : wrap64 (((a + 1 : Nat) : Int) + rd l (a : Int)) = ((a + 1 + (rd l (a : Int)).toNat : Nat) : Int) := by rw [w64 (by omega) (by omega)]; omega
    have e5 : wrap64 ((i : Int) + 1) = ((i + 1 : Nat) : Int) := by rw [w64 (by omega) (by omega)]; omega
    simp only [if_neg (show ¬ (a : Int) ≥ (l.length : Int) by omega), if_neg h1, if_pos (show 0 ≤ (a : Int) by omega), if_pos (show (a : Int) < (l.length : Int) by omega), e1, e2, e3, e4, e5, hS, if_true]
    by_cases h2 : l.length < a + 1 + (rd l (a : Int)).toNat
    · simp only [if_pos (show rd l (a : Int) > (l.length : Int) - a - 1 by omega), if_pos h2, finW]; exact EvN
    · simp only [if_neg (show ¬ rd l (a : Int) > (l.length : Int) - a - 1 by omega), if_neg h2, if_pos (show 0 ≤ ((a + 1 : Nat) : Int) by omega), if_pos (show ((a + 1 : Nat) : Int) ≤ ((a + 1 + (rd l (a : Int)).toNat : Nat) : Int) by omega), if_pos (show ((a + 1 + (rd l (a : Int)).toNat : Nat) : Int) ≤ (l.length : Int) by omega), Int.toNat_natCast]
      exact ih (i + 1) (by omega) _ _ (by omega) (by simp; omega)
theorem implWords (l : List Int) (hu : U8s l) (hl : l.length ≤ 4000) (kd : Int) (ns : List Int) (W : Nat) (hW : W ≤ 255) : ∀ (n i : Nat), i + n = W → ∀ (a : Nat) (acc : List ByteArray), a ≤ l.length → acc.length ≤ i →
    Ev (fun k => impl_decode.l1 k l a W i kd ns acc) (finW l kd ns (wordsM l n a acc)) := by
  intro n
  induction n with
  | zero =>
    intro i hi a acc ha hacc
    refine EvS ?_
    have : i = W := by omega
    subst this
    simp only [impl_decode.l1, Int.lt_irrefl, if_false, wordsM, finW]
    by_cases h : (a : Int) = (l.length : Int)
    · simp only [if_pos h, impl_rec kd ns acc (by omega), Option.bind_some, show a = l.length by omega, true_and]
      by_cases h2 : okRec kd ns acc = true
      · simp only [if_pos h2]; exact EvN
      · simp only [if_neg h2]; exact EvN
    · simp only [if_neg h, show ¬ a = l.length by omega, false_and, if_false]; exact EvN
  | succ n ih =>
    intro i hi a acc ha hacc
    have hS : (acc.length < 8796093022208) = True := eq_true (lt8 _ (Nat.le_trans hacc (by omega)))
    refine EvS ?_
    simp only [impl_decode.l1, if_pos (show (i : Int) < (W : Int) by omega), wordsM]
    by_cases h1 : l.length ≤ a
    · simp only [if_pos (show (a : Int) ≥ (l.length : Int) by omega), if_pos h1, finW]; exact EvN
    have hb := rdb hu a (by omega)
    have e1 : wrap64 (rd l (a : Int)) = rd l (a : Int) := w64 (by omega) (by omega)
    have e3 : wrap64 ((a : Int) + 1) = ((a + 1 : Nat) : Int) := by rw [w64 (by omega) (by omega)]; omega
    have e4 : wrap64 (((a + 1 : Nat) : Int) + rd l (a : Int)) = ((a + 1 + (rd l (a : Int)).toNat : Nat) : Int) := by rw [w64 (by omega) (by omega)]; omega
    have e5 : wrap64 ((i : Int) + 1) = ((i + 1 : Nat) : Int) := by rw [w64 (by omega) (by omega)]; omega
    simp only [if_neg (show ¬ (a : Int) ≥ (l.length : Int) by omega), if_neg h1, if_pos (show 0 ≤ (a : Int) by omega), if_pos (show (a : Int) < (l.length : Int) by omega), e1, e3, e4, e5, hS, if_true]
    by_cases h2 : l.length < a + 1 + (rd l (a : Int)).toNat
    · simp only [if_pos (show ((a + 1 + (rd l (a : Int)).toNat : Nat) : Int) > (l.length : Int) by omega), if_pos h2, finW]; exact EvN
    · simp only [if_neg (show ¬ ((a + 1 + (rd l (a : Int)).toNat : Nat) : Int) > (l.length : Int) by omega), if_neg h2, if_pos (show 0 ≤ ((a + 1 : Nat) : Int) by omega), if_pos (show ((a + 1 : Nat) : Int) ≤ ((a + 1 + (rd l (a : Int)).toNat : Nat) : Int) by omega), if_pos (show ((a + 1 + (rd l (a : Int)).toNat : Nat) : Int) ≤ (l.length : Int) by omega), Int.toNat_natCast]
      exact ih (i + 1) (by omega) _ _ (by omega) (by simp; omega)
theorem specNums (l : List Int) (hu : U8s l) (h2 : 2 ≤ l.length) (hl : l.length ≤ 4000) (kd : Int) (C : Nat) (hC : C ≤ 24) (hrd : rd l 1 = C) : ∀ (n i : Nat), i + n = C → ∀ (a : Nat) (acc : List Int), a ≤ l.length → acc.length ≤ i →
    Ev (fun k => spec_Decode.l0 k l a i kd acc) (finN l kd (numsM l n a acc)) := by
  have eC : wrap64 (rd l 1) = (C : Int) := by rw [hrd]; exact w64 (by omega) (by omega)
  intro n
  induction n with
  | zero =>
    intro i hi a acc ha hacc
    refine EvS ?_
    have : i = C := by omega
    subst this
    simp only [spec_Decode.l0, if_pos (show (1 : Int) < (l.length : Int) by omega), eC, Int.lt_irrefl, if_false, numsM, finN]
    by_cases h1 : l.length ≤ a
    · simp only [if_pos (show (a : Int) ≥ (l.length : Int) by omega), if_pos h1]; exact EvN
    have hb := rdb hu a (by omega)
    have e1 : wrap64 (rd l (a : Int)) = ((rd l (a : Int)).toNat : Int) := by rw [w64 (by omega) (by omega)]; omega
    have e3 : wrap64 ((a : Int) + 1) = ((a + 1 : Nat) : Int) := by rw [w64 (by omega) (by omega)]; omega
    simp only [if_neg (show ¬ (a : Int) ≥ (l.length : Int) by omega), if_neg h1, if_pos (show 0 ≤ (a : Int) by omega), if_pos (show (a : Int) < (l.length : Int) by omega), e1, e3]
    exact specWords l hu hl kd acc _ (by omega) _ 0 (by omega) _ [] (by omega) (by simp)
  | succ n ih =>
    intro i hi a acc ha hacc
    refine EvS ?_
    have e5 : wrap64 ((i : Int) + 1) = ((i + 1 : Nat) : Int) := by rw [w64 (by omega) (by omega)]; omega
    have hS : (acc.length < 17592186044416) = True := eq_true (lt9 _ (show acc.length ≤ 255 by omega))
    have hg : Ev (fun k => spec_GetVar.f k l a) (tell a (gv 0 (l.drop a))) := by
      have := spec_getVar l a hu
      unfold getM at this
      by_cases hz : (a : Int) ≥ (l.length : Int)
      · rw [if_pos (by omega)] at this
        rw [List.drop_eq_nil_of_le (by omega)]
        exact this
      · rw [if_neg (by omega), Int.toNat_natCast] at this
        exact this
    simp only [spec_Decode.l0, if_pos (show (1 : Int) < (l.length : Int) by omega), eC, if_pos (show (i : Int) < (C : Int) by omega), EvB hg, numsM]
    cases hq : gv 0 (l.drop a) with
    | none => simp only [tell, Bool.false_eq_true, if_false, finN]; exact EvN
    | some p =>
      have hp := gv_len _ _ _ hq
      rw [List.length_drop] at hp
      obtain ⟨v, m⟩ := p
      simp only [tell, if_true, hS, e5]
      have := ih (i + 1) (by omega) (a + m) (acc ++ [v]) (by simp only at hp; omega) (by simp; omega)
      rw [show ((a + m : Nat) : Int) = (a : Int) + (m : Int) by omega] at this
      exact this
theorem implNums (l : List Int) (hu : U8s l) (hl : l.length ≤ 4000) (kd : Int) (C : Nat) (hC : C ≤ 24) : ∀ (n i : Nat), i + n = C → ∀ (a : Nat) (acc : List Int), a ≤ l.length → acc.length ≤ i →
    Ev (fun k => impl_decode.l0 k l a C i kd acc) (finN l kd (numsM l n a acc)) := by
  intro n
  induction n with
  | zero =>
    intro i hi a acc ha hacc
    refine EvS ?_
    have : i = C := by omega
    subst this
    simp only [impl_decode.l0, Int.lt_irrefl, if_false, numsM, finN]
    by_cases h1 : l.length ≤ a
    · simp only [if_pos (show (a : Int) ≥ (l.length : Int) by omega), if_pos h1]; exact EvN
    have hb := rdb hu a (by omega)
    have e1 : wrap64 (rd l (a : Int)) = ((rd l (a : Int)).toNat : Int) := by rw [w64 (by omega) (by omega)]; omega
    have e3 : wrap64 ((a : Int) + 1) = ((a + 1 : Nat) : Int) := by rw [w64 (by omega) (by omega)]; omega
    simp only [if_neg (show ¬ (a : Int) ≥ (l.length : Int) by omega), if_neg h1, if_pos (show 0 ≤ (a : Int) by omega), if_pos (show (a : Int) < (l.length : Int) by omega), e1, e3]
    exact implWords l hu hl kd acc _ (by omega) _ 0 (by omega) _ [] (by omega) (by simp)
  | succ n ih =>
    intro i hi a acc ha hacc
    refine EvS ?_
    have e5 : ((i : Int) + 1) % 256 = ((i + 1 : Nat) : Int) := by omega
    have hS : (acc.length < 17592186044416) = True := eq_true (lt9 _ (show acc.length ≤ 255 by omega))
    simp only [impl_decode.l0, if_pos (show (i : Int) < (C : Int) by omega), EvB (impl_getV l a hu hl ha), numsM]
    cases hq : gv 0 (l.drop a) with
    | none => simp only [tell, Bool.false_eq_true, if_false, finN]; exact EvN
    | some p =>
      have hp := gv_len _ _ _ hq
      rw [List.length_drop] at hp
      obtain ⟨v, m⟩ := p
      simp only [tell, if_true, hS, e5]
      have := ih (i + 1) (by omega) (a + m) (acc ++ [v]) (by simp only at hp; omega) (by simp; omega)
      rw [show ((a + m : Nat) : Int) = (a : Int) + (m : Int) by omega] at this
      exact this
theorem spec_dec (l : List Int) (hu : U8s l) : Ev (fun k => spec_Decode.f k l) (decM l) := by
  have J1 : Ev (fun k => spec_Decode.j0 k l true) noRec := EvS (by simp only [spec_Decode.j0, if_true]; exact EvN)
  unfold spec_Decode.f decM
  by_cases h1 : (l.length : Int) < 3
  · simp only [if_pos h1, if_pos (show l.length < 3 ∨ 4000 < l.length ∨ rd l 1 > 24 by omega)]; exact J1
  by_cases h2 : (l.length : Int) > 4000
  · simp only [if_neg h1, if_pos h2, if_pos (show l.length < 3 ∨ 4000 < l.length ∨ rd l 1 > 24 by omega)]; exact J1
  have hb := rdb hu 1 (by omega)
  have hb0 := rdb hu 0 (by omega)
  have c1 : ((1 : Nat) : Int) = 1 := rfl
  have c0 : ((0 : Nat) : Int) = 0 := rfl
  rw [c1] at hb
  rw [c0] at hb0
  have e1 : wrap64 (rd l 1) = rd l 1 := w64 (by omega) (by omega)
  have e0 : wrap64 (rd l 0) = rd l 0 := w64 (by omega) (by omega)
  simp only [if_neg h1, if_neg h2, if_pos (show (1 : Int) < (l.length : Int) by omega), e1]
  by_cases h3 : rd l 1 > 24
  · simp only [decide_eq_true h3, if_pos (show l.length < 3 ∨ 4000 < l.length ∨ rd l 1 > 24 by omega)]; exact J1
  simp only [decide_eq_false h3, if_neg (show ¬ (l.length < 3 ∨ 4000 < l.length ∨ rd l 1 > 24) by omega)]
  refine EvS ?_
  simp only [spec_Decode.j0, Bool.false_eq_true, if_false, if_pos (show (0 : Int) < (l.length : Int) by omega), e0]
  exact specNums l hu (by omega) (by omega) (rd l 0) (rd l 1).toNat (by omega) (by omega) (rd l 1).toNat 0 (by omega) 2 [] (by omega) (by simp)
theorem impl_dec (l : List Int) (hu : U8s l) : Ev (fun k => impl_decode.f k l) (decM l) := by
  have J1 : Ev (fun k => impl_decode.j0 k l true) noRec := EvS (by simp only [impl_decode.j0, if_true]; exact EvN)
  unfold impl_decode.f decM
  by_cases h1 : (l.length : Int) < 3
  · simp only [if_pos h1, if_pos (show l.length < 3 ∨ 4000 < l.length ∨ rd l 1 > 24 by omega)]; exact J1
  by_cases h2 : (l.length : Int) > 4000
  · simp only [if_neg h1, if_pos h2, if_pos (show l.length < 3 ∨ 4000 < l.length ∨ rd l 1 > 24 by omega)]; exact J1
  have hb := rdb hu 1 (by omega)
  have hb0 := rdb hu 0 (by omega)
  have c1 : ((1 : Nat) : Int) = 1 := rfl
  have c0 : ((0 : Nat) : Int) = 0 := rfl
  rw [c1] at hb
  rw [c0] at hb0
  have e0 : wrap64 (rd l 0) = rd l 0 := w64 (by omega) (by omega)
  simp only [if_neg h1, if_neg h2, if_pos (show (1 : Int) < (l.length : Int) by omega)]
  by_cases h3 : rd l 1 > 24
  · simp only [decide_eq_true h3, if_pos (show l.length < 3 ∨ 4000 < l.length ∨ rd l 1 > 24 by omega)]; exact J1
  simp only [decide_eq_false h3, if_neg (show ¬ (l.length < 3 ∨ 4000 < l.length ∨ rd l 1 > 24) by omega)]
  refine EvS ?_
  simp only [impl_decode.j0, Bool.false_eq_true, if_false, if_pos (show (0 : Int) < (l.length : Int) by omega), if_pos (show (1 : Int) < (l.length : Int) by omega), e0]
  have := implNums l hu (by omega) (rd l 0) (rd l 1).toNat (by omega) (rd l 1).toNat 0 (by omega) 2 [] (by omega) (by simp)
  rw [Int.toNat_of_nonneg hb.1] at this
  exact this
theorem nums_len (l : List Int) : ∀ n a acc r, numsM l n a acc = some r → r.2.length = acc.length + n := by
  intro n
  induction n with
  | zero => intro a acc r h; have := Option.some.inj h; rw [← this]; rfl
  | succ n ih =>
    intro a acc r h
    unfold numsM at h
    split at h
    · cases h
    · have := ih _ _ _ h
      rw [this]
      simp only [List.length_append, List.length_singleton]
      omega
theorem finW_bd (l : List Int) (kd : Int) (ns : List Int) (o : Option (Nat × List ByteArray)) : (finW l kd ns o).2.1.length ≤ 24 ∧ (finW l kd ns o).2.2.1.length ≤ 6 := by
  have h0 : (noRec.2.1.length ≤ 24 ∧ noRec.2.2.1.length ≤ 6) := ⟨by simp [noRec], by simp [noRec]⟩
  cases o with
  | none => exact h0
  | some q =>
    obtain ⟨a, ws⟩ := q
    simp only [finW]
    by_cases h : a = l.length ∧ okRec kd ns ws = true
    · rw [if_pos h]
      have := okRec_bd h.2
      exact ⟨this.2.2.1, this.2.2.2⟩
    · rw [if_neg h]; exact h0
theorem dec_bd (l : List Int) : (decM l).2.1.length ≤ 24 ∧ (decM l).2.2.1.length ≤ 6 := by
  have h0 : (noRec.2.1.length ≤ 24 ∧ noRec.2.2.1.length ≤ 6) := ⟨by simp [noRec], by simp [noRec]⟩
  unfold decM
  by_cases h : l.length < 3 ∨ 4000 < l.length ∨ rd l 1 > 24
  · rw [if_pos h]; exact h0
  · rw [if_neg h]
    cases numsM l (rd l 1).toNat 2 [] with
    | none => exact h0
    | some p =>
      obtain ⟨a, ns⟩ := p
      simp only [finN]
      by_cases h2 : l.length ≤ a
      · rw [if_pos h2]; exact h0
      · rw [if_neg h2]; exact finW_bd _ _ _ _
end Go.Proofs.Ytgdebfaoohjikaa.DE

namespace Go.Proofs.Ytgdebfaoohjikaa.DE
set_option linter.unusedVariables false
set_option linter.unusedSimpArgs false
open Go.RowKit Go.Proofs.Ytgdebfaoohjikaa.F Go.Proofs.Ytgdebfaoohjikaa.PK Go.Proofs.Ytgdebfaoohjikaa.VI Go.Proofs.YtgdebfaoohjikaaW.PrintWords Go.Proofs.YtgdebfaoohjikaaW.PrintLast Go.Proofs.YtgdebfaoohjikaaW.PrintMore
theorem gv_bd : ∀ (l : List Int) (k : Nat) (p : Int × Nat), U8s l → gv k l = some p → 0 ≤ p.1 ∧ 128 ^ k * (p.1 + 1) ≤ 18446744073709551616 := by
  intro l
  induction l with
  | nil => intro k p _ h; cases h
  | cons b r ih =>
    intro k p hu h
    have hb := hu b (by simp)
    unfold gv at h
    split at h
    · cases h
    rename_i h10
    split at h
    · cases h
    rename_i h9
    have hp := pow7_pos k
    split at h
    · rename_i h128
      cases hg : gv (k + 1) r with
      | none => rw [hg] at h; cases h
      | some q =>
        rw [hg] at h
        have e := Option.some.inj h
        have := ih _ _ (fun b hb => hu b (List.mem_cons_of_mem _ hb)) hg
        rw [← e]
        dsimp only
        refine ⟨by omega, ?_⟩
        refine Int.le_trans ?_ this.2
        rw [pow7, show (128 : Int) * 128 ^ k * (q.1 + 1) = 128 ^ k * (128 * (q.1 + 1)) by rw [Int.mul_comm 128, Int.mul_assoc]]
        exact Int.mul_le_mul_of_nonneg_left (by omega) (by omega)
    split at h
    · cases h
    · have e := Option.some.inj h
      rw [← e]
      dsimp only
      refine ⟨hb.1, ?_⟩
      by_cases hk : k = 9
      · subst hk
        rw [p63]
        omega
      · have h8 : (128 : Int) ^ k ≤ 128 ^ 8 := by exact_mod_cast Nat.pow_le_pow_right (by omega) (by omega)
        have p8 : (128 : Int) ^ 8 = 72057594037927936 := by decide
        have h3 : (128 : Int) ^ k * (b + 1) ≤ 72057594037927936 * 128 := Int.mul_le_mul (by omega) (by omega) (by omega) (by omega)
        omega
theorem gv_lt {l : List Int} {p : Int × Nat} (hu : U8s l) (h : gv 0 l = some p) : 0 ≤ p.1 ∧ p.1 < 18446744073709551616 := by
  have := gv_bd l 0 p hu h
  rw [Int.pow_zero, Int.one_mul] at this
  omega
theorem u8_drop {l : List Int} (hu : U8s l) (i : Nat) : U8s (l.drop i) := fun b hb => hu b (List.mem_of_mem_drop hb)
theorem u8_cut {l : List Int} (hu : U8s l) (i j : Nat) : U8s ((l.take i).drop j) := fun b hb => hu b (List.mem_of_mem_take (List.mem_of_mem_drop hb))
def noAll : List S42 × Bool := ([], false)
def allM (l : List Int) : Nat → Nat → List S42 → List S42 × Bool
  | 0, _, _ => noAll
  | f + 1, a, acc => if a < l.length then (match gv 0 (l.drop a) with
    | none => noAll
    | some p => if p.1 > (l.length : Int) - (a + p.2 : Nat) ∨ acc.length = 100 then noAll else
      if (decM ((l.take (a + p.2 + p.1.toNat)).drop (a + p.2))).2.2.2 = true then allM l f (a + p.2 + p.1.toNat) (acc ++ [(⟨(decM ((l.take (a + p.2 + p.1.toNat)).drop (a + p.2))).1, (decM ((l.take (a + p.2 + p.1.toNat)).drop (a + p.2))).2.1, (decM ((l.take (a + p.2 + p.1.toNat)).drop (a + p.2))).2.2.1⟩ : S42)]) else noAll) else (acc, true)
theorem lt100 (n : Nat) (h : n ≤ 100) : n < 2513169434916 := by omega
theorem specAll (l : List Int) (hu : U8s l) (hl : l.length ≤ 4000) : ∀ (f a : Nat) (acc : List S42), a ≤ l.length → l.length - a < f → acc.length ≤ 100 → Ev (fun k => spec_DecodeAll.l0 k l acc a) (allM l f a acc) := by
  intro f
  induction f with
  | zero => intro a acc _ h; omega
  | succ f ih =>
    intro a acc ha hf hacc
    refine EvS ?_
    unfold allM
    by_cases h : a < l.length
    · rw [if_pos h]
      simp only [spec_DecodeAll.l0, if_pos (show (a : Int) < (l.length : Int) by omega)]
      have hg : Ev (fun k => spec_GetVar.f k l a) (tell a (gv 0 (l.drop a))) := by
        have := spec_getVar l a hu
        unfold getM at this
        rw [if_neg (by omega), Int.toNat_natCast] at this
        exact this
      simp only [EvB hg]
      cases hq : gv 0 (l.drop a) with
      | none =>
        simp only [tell, Bool.false_eq_true, if_false]
        refine EvS ?_
        simp only [spec_DecodeAll.j1, if_true]
        exact EvN
      | some p =>
        have hp := gv_len _ _ _ hq
        have hv := gv_lt (u8_drop hu a) hq
        rw [List.length_drop] at hp
        obtain ⟨v, m⟩ := p
        simp only at hp hv
        have e1 : IntKind.u64.wrap (wrap64 ((l.length : Int) - ((a : Int) + (m : Int)))) = (l.length : Int) - (a + m : Nat) := by rw [w64 (by omega) (by omega), wu64 (by omega) (by omega)]; omega
        simp only [tell, if_true, e1]
        by_cases h1 : v > (l.length : Int) - (a + m : Nat)
        · simp only [if_pos h1, h1, true_or, if_true]
          refine EvS ?_
          simp only [spec_DecodeAll.j1, if_true]
          exact EvN
        · simp only [if_neg h1, h1, false_or]
          by_cases h2 : acc.length = 100
          · simp only [h2, if_true]
            refine EvS ?_
            simp only [spec_DecodeAll.j1, show (((100 : Nat) : Int) == 100) = true from rfl, if_true]
            exact EvN
          · have h2b : ((acc.length : Int) == 100) = false := by rw [beq_eq_false_iff_ne]; omega
            simp only [h2, if_false, h2b]
            refine EvS ?_
            have e2 : wrap64 v = v := w64 (by omega) (by omega)
            have e3 : wrap64 (((a : Int) + (m : Int)) + v) = ((a + m + v.toNat : Nat) : Int) := by rw [w64 (by omega) (by omega)]; omega
            have e4 : (a : Int) + (m : Int) = ((a + m : Nat) : Int) := by omega
            simp only [spec_DecodeAll.j1, Bool.false_eq_true, if_false, e2, e3, if_pos (show 0 ≤ (a : Int) + (m : Int) by omega), if_pos (show (a : Int) + (m : Int) ≤ ((a + m + v.toNat : Nat) : Int) by omega), if_pos (show ((a + m + v.toNat : Nat) : Int) ≤ (l.length : Int) by omega)]
            simp only [e4, Int.toNat_natCast]
            simp only [EvB (spec_dec _ (u8_cut hu (a + m + v.toNat) (a + m)))]
            generalize decM ((l.take (a + m + v.toNat)).drop (a + m)) = r
            by_cases h3 : r.2.2.2 = true
            · have hS : (acc.length < 2513169434916) = True := eq_true (lt100 _ hacc)
              simp only [if_pos h3, hS, if_true]
              exact ih _ _ (by omega) (by omega) (by simp; omega)
            · simp only [if_neg h3]
              exact EvN
    · rw [if_neg h]
      simp only [spec_DecodeAll.l0, if_neg (show ¬ (a : Int) < (l.length : Int) by omega)]
      exact EvN
theorem implAll (l : List Int) (hu : U8s l) (hl : l.length ≤ 4000) : ∀ (f a : Nat) (acc : List S42), a ≤ l.length → l.length - a < f → acc.length ≤ 100 → Ev (fun k => impl_DecodeAll.l0 k l acc a) (allM l f a acc) := by
  intro f
  induction f with
  | zero => intro a acc _ h; omega
  | succ f ih =>
    intro a acc ha hf hacc
    refine EvS ?_
    unfold allM
    by_cases h : a < l.length
    · rw [if_pos h]
      simp only [impl_DecodeAll.l0, if_pos (show (a : Int) < (l.length : Int) by omega)]
      have hg := impl_getV l a hu hl ha
      simp only [EvB hg]
      cases hq : gv 0 (l.drop a) with
      | none =>
        simp only [tell, Bool.false_eq_true, if_false]
        refine EvS ?_
        simp only [impl_DecodeAll.j1, if_true]
        exact EvN
      | some p =>
        have hp := gv_len _ _ _ hq
        have hv := gv_lt (u8_drop hu a) hq
        rw [List.length_drop] at hp
        obtain ⟨v, m⟩ := p
        simp only at hp hv
        have e1 : IntKind.u64.wrap (wrap64 ((l.length : Int) - ((a : Int) + (m : Int)))) = (l.length : Int) - (a + m : Nat) := by rw [w64 (by omega) (by omega), wu64 (by omega) (by omega)]; omega
        simp only [tell, if_true, e1]
        by_cases h1 : v > (l.length : Int) - (a + m : Nat)
        · simp only [if_pos h1, h1, true_or, if_true]
          refine EvS ?_
          simp only [impl_DecodeAll.j1, if_true]
          exact EvN
        · simp only [if_neg h1, h1, false_or]
          by_cases h2 : acc.length = 100
          · simp only [h2, if_true]
            refine EvS ?_
            simp only [impl_DecodeAll.j1, show (((100 : Nat) : Int) == 100) = true from rfl, if_true]
            exact EvN
          · have h2b : ((acc.length : Int) == 100) = false := by rw [beq_eq_false_iff_ne]; omega
            simp only [h2, if_false, h2b]
            refine EvS ?_
            have e2 : wrap64 v = v := w64 (by omega) (by omega)
            have e3 : wrap64 (((a : Int) + (m : Int)) + v) = ((a + m + v.toNat : Nat) : Int) := by rw [w64 (by omega) (by omega)]; omega
            have e4 : (a : Int) + (m : Int) = ((a + m : Nat) : Int) := by omega
            simp only [impl_DecodeAll.j1, Bool.false_eq_true, if_false, e2, e3, if_pos (show 0 ≤ (a : Int) + (m : Int) by omega), if_pos (show (a : Int) + (m : Int) ≤ ((a + m + v.toNat : Nat) : Int) by omega), if_pos (show ((a + m + v.toNat : Nat) : Int) ≤ (l.length : Int) by omega)]
            simp only [e4, Int.toNat_natCast]
            simp only [EvB (impl_dec _ (u8_cut hu (a + m + v.toNat) (a + m)))]
            generalize decM ((l.take (a + m + v.toNat)).drop (a + m)) = r
            by_cases h3 : r.2.2.2 = true
            · have hS : (acc.length < 2513169434916) = True := eq_true (lt100 _ hacc)
              simp only [if_pos h3, hS, if_true]
              exact ih _ _ (by omega) (by omega) (by simp; omega)
            · simp only [if_neg h3]
              exact EvN
    · rw [if_neg h]
      simp only [impl_DecodeAll.l0, if_neg (show ¬ (a : Int) < (l.length : Int) by omega)]
      exact EvN
def decAllM (l : List Int) : List S42 × Bool := if l.length > 4000 then noAll else allM l (l.length + 1) 0 []
theorem spec_decAll (l : List Int) (hu : U8s l) : Ev (fun k => spec_DecodeAll.f k l) (decAllM l) := by
  unfold spec_DecodeAll.f decAllM
  by_cases h : l.length > 4000
  · simp only [if_pos (show (l.length : Int) > 4000 by omega), if_pos h]
    exact EvN
  · simp only [if_neg (show ¬ (l.length : Int) > 4000 by omega), if_neg h]
    exact specAll l hu (by omega) _ 0 [] (by omega) (by omega) (by simp)
theorem impl_decAll (l : List Int) (hu : U8s l) : Ev (fun k => impl_DecodeAll.f k l) (decAllM l) := by
  unfold impl_DecodeAll.f decAllM
  by_cases h : l.length > 4000
  · simp only [if_pos (show (l.length : Int) > 4000 by omega), if_pos h]
    exact EvN
  · simp only [if_neg (show ¬ (l.length : Int) > 4000 by omega), if_neg h]
    exact implAll l hu (by omega) _ 0 [] (by omega) (by omega) (by simp)
theorem all_bd (l : List Int) : ∀ f a acc, acc.length ≤ 100 → (∀ y ∈ acc, y.f1.length ≤ 24 ∧ y.f2.length ≤ 6) → (allM l f a acc).1.length ≤ 100 ∧ ∀ y ∈ (allM l f a acc).1, y.f1.length ≤ 24 ∧ y.f2.length ≤ 6 := by
  have h0 : noAll.1.length ≤ 100 ∧ ∀ y ∈ noAll.1, y.f1.length ≤ 24 ∧ y.f2.length ≤ 6 := ⟨by simp [noAll], by simp [noAll]⟩
  intro f
  induction f with
  | zero => intro a acc _ _; exact h0
  | succ f ih =>
    intro a acc h1 h2
    unfold allM
    by_cases h : a < l.length
    · rw [if_pos h]
      cases gv 0 (l.drop a) with
      | none => exact h0
      | some p =>
        dsimp only
        have hb := dec_bd ((l.take (a + p.2 + p.1.toNat)).drop (a + p.2))
        generalize decM ((l.take (a + p.2 + p.1.toNat)).drop (a + p.2)) = r at hb ⊢
        by_cases h3 : p.1 > (l.length : Int) - (a + p.2 : Nat) ∨ acc.length = 100
        · rw [if_pos h3]; exact h0
        · rw [if_neg h3]
          by_cases h4 : r.2.2.2 = true
          · rw [if_pos h4]
            refine ih _ _ (by simp; omega) (fun y hy => ?_)
            rcases List.mem_append.1 hy with hy | hy
            · exact h2 y hy
            · rw [List.mem_singleton.1 hy]; exact hb
          · rw [if_neg h4]; exact h0
    · rw [if_neg h]; exact ⟨h1, h2⟩
theorem decAll_bd (l : List Int) : (decAllM l).1.length ≤ 100 ∧ ∀ y ∈ (decAllM l).1, y.f1.length ≤ 24 ∧ y.f2.length ≤ 6 := by
  unfold decAllM
  by_cases h : l.length > 4000
  · rw [if_pos h]; exact ⟨by simp [noAll], by simp [noAll]⟩
  · rw [if_neg h]; exact all_bd l _ _ _ (by simp) (by simp)
end Go.Proofs.Ytgdebfaoohjikaa.DE

namespace Go.Proofs.Ytgdebfaoohjikaa.F
open Go.RowKit Go.Proofs.YtgdebfaoohjikaaW.PrintWords Go.Proofs.YtgdebfaoohjikaaW.PrintLast Go.Proofs.YtgdebfaoohjikaaW.PrintMore
attribute [local go_sem] max2_int min2_int max_two min_two max_three min_three max_four min_four   -- for this text's walks alone
set_option linter.unusedVariables false
set_option linter.unusedSimpArgs false

/-! ### laws_heldByteS: function 17 -/
def laws_heldByteS.l0 : Nat → List Int → Int → Int → Option (Int)
  | 0, _, _, _ => none
  | k + 1, x0, x1, x5 => if x5 < (x0.length : Int) then (if 0 ≤ x5 then (if (rd x0 x5) = ((x1) % 256) then (laws_heldByteS.l0 k x0 (wrap64 (x1 + 1)) (wrap64 (x5 + 1))) else (some (-1))) else (none)) else (some x1)
def laws_heldByteS.f (k : Nat) (l0 : List Int) (a1 : Int) : Option (Int) := laws_heldByteS.l0 k l0 a1 0
theorem laws_heldByteS.mono_l : ∀ k, (∀ y0 y1 y2, LeO (laws_heldByteS.l0 k y0 y1 y2) (laws_heldByteS.l0 (k + 1) y0 y1 y2))
  | 0 => fun _ _ _ r h => by simp [laws_heldByteS.l0] at h
  | k + 1 => by
    have ih0 := laws_heldByteS.mono_l k
    · intro y0 y1 y2
      unfold laws_heldByteS.l0
      repeat' first
      | (with_reducible exact ih0 _ _ _)
      | (with_reducible exact LeO.refl _)
      | (with_reducible exact LeO.none _)
      | (with_reducible refine LeO.ite ?_ ?_)
      | (with_reducible refine LeO.bind ?_ (fun _ => ?_))
      | exact ih0 _ _ _
      | exact LeO.none _
      | refine LeO.ite ?_ ?_
      | refine LeO.bind ?_ (fun _ => ?_)
theorem laws_heldByteS.mono : ∀ a0 a1 k, LeO (laws_heldByteS.f k a0 a1) (laws_heldByteS.f (k + 1) a0 a1) := by
  intro a0 a1 k
  have ih0 := laws_heldByteS.mono_l k
  unfold laws_heldByteS.f
  repeat' first
      | (with_reducible exact ih0 _ _ _)
      | (with_reducible exact LeO.refl _)
      | (with_reducible exact LeO.none _)
      | (with_reducible refine LeO.ite ?_ ?_)
      | (with_reducible refine LeO.bind ?_ (fun _ => ?_))
      | exact ih0 _ _ _
      | exact LeO.none _
      | refine LeO.ite ?_ ?_
      | refine LeO.bind ?_ (fun _ => ?_)
set_option maxHeartbeats 8000000 in
set_option maxRecDepth 100000 in
theorem laws_heldByteS.calls (k : Nat) (A0 : Option Addr) (c0 : Nat) (l0 : List Int) (a1 : Int) (r : Int) (w : World) (hr0 : Kd.C (Kd.int .u8) w A0 l0.length l0) (hc0 : l0.length ≤ c0) (h : laws_heldByteS.f k l0 a1 = some r) :
    Calls Try.prog 17 #[.slice A0 l0.length c0, .int .i64 a1] w fun e w' => e = .returned (.int .i64 r) ∧ Drawn0 w w' := by
  have HR0 := Aside0.mk hr0
  have HC0 := Aside0.mk hc0
  clear hr0 hc0
  have H : (laws_heldByteS.l0 k l0 a1 0) = some r := h
  clear h
  have H' := Aside0.mk H
  clear H
  go_enter Try.func17, Try.ntmps17
  go_wp2
  go_loopg [1, 5] k (fun kq v1 v5 w' => ∃ (x1_1 : Int) (x5_1 : Int), v1 = .int .i64 x1_1 ∧ v5 = .int .i64 x5_1 ∧ Aside0 (laws_heldByteS.l0 kq l0 x1_1 x5_1 = some r) ∧ Aside0 (kq ≤ k) ∧ Drawn0 w w')
  case atStart => exact ⟨(a1), (0), (by first | rfl | (simp; done) | (simp [*]; done)), (by first | rfl | (simp; done) | (simp [*]; done)), H', ⟨Nat.le_refl _⟩, by repeat (first | exact Drawn0.refl _ | apply Drawn0.step)⟩
  case round =>
    clear H'
    try clear c1
    try clear p2
    obtain ⟨x1_1, x5_1, rfl, rfl, HA, HK1, ⟨m1, rfl⟩⟩ := hrel
    cases gk with
    | zero => exact absurd HA.out (by simp [laws_heldByteS.l0])
    | succ k1 =>
      have H := HA.out
      clear HA
      simp only [laws_heldByteS.l0] at H
      by_cases c3 : x5_1 < (l0.length : Int)
      · rw [if_pos c3] at H
        have c3b0 : decide (x5_1 < (l0.length : Int)) = true := decide_eq_true c3
        clear c3
        by_cases c4 : 0 ≤ x5_1
        · rw [if_pos c4] at H
          have c4b0 : decide (0 ≤ x5_1) = true := decide_eq_true c4
          clear c4
          by_cases c5 : (rd l0 x5_1) = ((x1_1) % 256)
          · rw [if_pos c5] at H
            have c5b0 : ((rd l0 x5_1) == ((x1_1) % 256)) = true := beq_iff_eq.mpr c5
            have c5b1 : ((rd l0 x5_1) != ((x1_1) % 256)) = false := bne_eq_false_iff_eq.mpr c5
            clear c5
            have H' := Aside0.mk H
            clear H
            have p125 : 0 ≤ (x5_1 : Int) := of_decide_eq_true (by first | (with_reducible assumption) | assumption)
            have q125 : x5_1 < (l0.length : Int) := of_decide_eq_true (by first | (with_reducible assumption) | assumption)
            obtain ⟨ad125, e125, hx125_0⟩ := Kd.at_int HR0.out x5_1 p125 q125
            cases e125
            replace p125 := eq_true p125
            replace q125 := eq_true q125
            go_wp2
            go_roundg k1
            case measure => have := HK1.out; omega
            case rel => exact ⟨(wrap64 (x1_1 + 1)), (wrap64 (x5_1 + 1)), (by first | rfl | (simp; done) | (simp [*]; done)), (by first | rfl | (simp; done) | (simp [*]; done)), H', ⟨by have := HK1.out; omega⟩, by repeat (first | exact Drawn0.refl _ | apply Drawn0.step)⟩
          · rw [if_neg c5] at H
            have c5b0 : ((rd l0 x5_1) == ((x1_1) % 256)) = false := beq_eq_false_iff_ne.mpr c5
            have c5b1 : ((rd l0 x5_1) != ((x1_1) % 256)) = true := bne_iff_ne.mpr c5
            obtain rfl := Option.some.inj H
            have p125 : 0 ≤ (x5_1 : Int) := of_decide_eq_true (by first | (with_reducible assumption) | assumption)
            have q125 : x5_1 < (l0.length : Int) := of_decide_eq_true (by first | (with_reducible assumption) | assumption)
            obtain ⟨ad125, e125, hx125_0⟩ := Kd.at_int HR0.out x5_1 p125 q125
            cases e125
            replace p125 := eq_true p125
            replace q125 := eq_true q125
            go_wp2
            go_ret
            exact ⟨by first | rfl | (simp; done) | (simp [*]; done), by repeat (first | exact Drawn0.refl _ | apply Drawn0.step)⟩
        · rw [if_neg c4] at H
          exact absurd H (by simp)
      · rw [if_neg c3] at H
        have c3b0 : decide (x5_1 < (l0.length : Int)) = false := decide_eq_false c3
        clear c3
        obtain rfl := Option.some.inj H
        go_wp2
        go_ret
        exact ⟨by first | rfl | (simp; done) | (simp [*]; done), by repeat (first | exact Drawn0.refl _ | apply Drawn0.step)⟩

end Go.Proofs.Ytgdebfaoohjikaa.F

namespace Go.Proofs.Ytgdebfaoohjikaa.BY
set_option linter.unusedVariables false
set_option linter.unusedSimpArgs false
open Go.RowKit Go.Proofs.Ytgdebfaoohjikaa.F Go.Proofs.Ytgdebfaoohjikaa.PK Go.Proofs.YtgdebfaoohjikaaW.PrintWords Go.Proofs.YtgdebfaoohjikaaW.PrintLast
theorem markByteS (l : List Int) (hl : l.length ≤ 9000000000000000000) (a : Int) (ha : 0 ≤ a) (hla : a + l.length ≤ 9223372036854775807) : ∃ (m : Int) (l' : List Int), Ev (fun k => laws_markByteS.f k l a) (m, l') ∧ m = a + l.length ∧ l'.length = l.length ∧ Ev (fun k => laws_heldByteS.f k l' a) m := by
  have key : ∀ (d i : Nat), d + i = l.length → ∀ (x : List Int) (b : Int), x.length = l.length → b = a + i → ∃ l', Ev (fun k => laws_markByteS.l0 k x b i) (a + l.length, l') ∧ l'.length = l.length ∧ (∀ j, j < i → l'[j]? = x[j]?) ∧ Ev (fun k => laws_heldByteS.l0 k l' b i) (a + l.length) := by
    intro d
    induction d with
    | zero =>
      intro i hi x b hx hb
      have hi : i = l.length := by omega
      subst hi
      subst hb
      exact ⟨x, EvS (by simp only [laws_markByteS.l0, hx, Int.lt_irrefl, if_false]; exact EvN), hx, fun _ _ => rfl, EvS (by simp only [laws_heldByteS.l0, hx, Int.lt_irrefl, if_false]; exact EvN)⟩
    | succ d ih =>
      intro i hi x b hx hb
      have hw : wrap64 (b + 1) = b + 1 := w64 (by omega) (by omega)
      obtain ⟨l', h1, h2, h3, h4⟩ := ih (i + 1) (by omega) (x.set i (b % 256)) (b + 1) (by simpa using hx) (by omega)
      have hli : i < l'.length := by omega
      have he : l'[i] = b % 256 := by
        have := h3 i (by omega)
        rw [List.getElem?_set_self (by omega), List.getElem?_eq_getElem hli] at this
        exact Option.some.inj this
      refine ⟨l', EvS ?_, h2, fun j hj => ?_, EvS ?_⟩
      · simp only [laws_markByteS.l0, if_pos (show (i : Int) < (x.length : Int) by omega), if_pos (show 0 ≤ (i : Int) by omega), hw, Int.toNat_natCast, nxt i l.length (by omega) (by omega)]
        exact h1
      · rw [h3 j (by omega), List.getElem?_set_ne (by omega)]
      · simp only [laws_heldByteS.l0, if_pos (show (i : Int) < (l'.length : Int) by omega), if_pos (show 0 ≤ (i : Int) by omega), hw, rd_at l' i hli, he, if_true, nxt i l.length (by omega) (by omega)]
        exact h4
  obtain ⟨l', h1, h2, _, h4⟩ := key l.length 0 (by omega) l a rfl (by omega)
  exact ⟨_, l', h1, rfl, h2, h4⟩
end Go.Proofs.Ytgdebfaoohjikaa.BY

namespace Go.Proofs.Ytgdebfaoohjikaa.MT
set_option linter.unusedVariables false
set_option linter.unusedSimpArgs false
open Go.RowKit Go.Proofs.Ytgdebfaoohjikaa.F Go.Proofs.Ytgdebfaoohjikaa.PK Go.Proofs.YtgdebfaoohjikaaW.PrintWords Go.Proofs.YtgdebfaoohjikaaW.PrintLast
theorem strOf1 (x : Int) : (strOfNums [x]).size = 1 := rfl
theorem markText (x : Int) (h : x ≤ 9223372036854775807) : ∃ s, Ev (fun k => laws_markText.f k x) s := by
  have key : ∀ (d : Nat) (x : Int) (s : ByteArray), x < 10 ^ d → s.size + d ≤ 30 → ∃ r, Ev (fun k => laws_markText.l0 k x s) r := by
    intro d
    induction d with
    | zero =>
      intro x s hx hs
      have hS : (1 + s.size ≤ 9223372036854775807) = True := eq_true (by omega)
      refine ⟨(⟨#[109]⟩ : ByteArray) ++ s, EvS ?_⟩
      simp only [laws_markText.l0, if_neg (show ¬ x > 0 by simp at hx; omega), hS, if_true]
      exact EvN
    | succ d ih =>
      intro x s hx hs
      have hS : (1 + s.size ≤ 9223372036854775807) = True := eq_true (by omega)
      by_cases h0 : x > 0
      · have h10 : (10 : Int) ^ (d + 1) = 10 * 10 ^ d := by rw [Int.pow_succ, Int.mul_comm]
        have hq : Int.tdiv x 10 = x / 10 := Int.tdiv_eq_ediv_of_nonneg (by omega)
        obtain ⟨r, hr⟩ := ih (wrap64 (x / 10)) (strOfNums [(wrap64 (48 + (Int.tmod x 10))) % 256] ++ s) (by unfold wrap64; omega) (by rw [ByteArray.size_append, strOf1]; omega)
        refine ⟨r, EvS ?_⟩
        simp only [laws_markText.l0, if_pos h0, Option.bind_some, strOf1, hS, if_true, hq]
        exact hr
      · refine ⟨(⟨#[109]⟩ : ByteArray) ++ s, EvS ?_⟩
        simp only [laws_markText.l0, if_neg h0, hS, if_true]
        exact EvN
  by_cases h0 : x ≤ 0
  · exact ⟨⟨#[109, 48]⟩, by unfold laws_markText.f; simp only [if_pos h0]; exact EvN⟩
  · have h19 : (10 : Int) ^ 19 = 10000000000000000000 := by decide
    obtain ⟨r, hr⟩ := key 19 x ⟨#[]⟩ (by omega) (show 0 + 19 ≤ 30 by omega)
    exact ⟨r, by unfold laws_markText.f; simp only [if_neg h0]; exact hr⟩
end Go.Proofs.Ytgdebfaoohjikaa.MT

namespace Go.Proofs.Ytgdebfaoohjikaa.F
open Go.RowKit Go.Proofs.YtgdebfaoohjikaaW.PrintWords Go.Proofs.YtgdebfaoohjikaaW.PrintLast Go.Proofs.YtgdebfaoohjikaaW.PrintMore
attribute [local go_sem] max2_int min2_int max_two min_two max_three min_three max_four min_four   -- for this text's walks alone
set_option linter.unusedVariables false
set_option linter.unusedSimpArgs false

/-! ### laws_markRecord: function 31 -/
def laws_markRecord.f (k : Nat) (a0_0 : Int) (l0_1 : List Int) (l0_2 : List ByteArray) (a1 : Int) : Option (Int × List Int × List ByteArray) := (laws_markUint64S.f k l0_1 a1).bind fun bt352 => ((laws_markStringS.f k l0_2 bt352.1).bind fun bt354 => (some (bt354.1, bt352.2, bt354.2)))
theorem laws_markRecord.mono : ∀ a0 a1 a2 a3 k, LeO (laws_markRecord.f k a0 a1 a2 a3) (laws_markRecord.f (k + 1) a0 a1 a2 a3) := by
  intro a0 a1 a2 a3 k
  unfold laws_markRecord.f
  repeat' first
      | (with_reducible exact laws_markStringS.mono _ _ _)
      | (with_reducible exact laws_markUint64S.mono _ _ _)
      | (with_reducible exact LeO.refl _)
      | (with_reducible exact LeO.none _)
      | (with_reducible refine LeO.ite ?_ ?_)
      | (with_reducible refine LeO.bind ?_ (fun _ => ?_))
      | exact laws_markStringS.mono _ _ _
      | exact laws_markUint64S.mono _ _ _
      | exact LeO.none _
      | refine LeO.ite ?_ ?_
      | refine LeO.bind ?_ (fun _ => ?_)
set_option maxHeartbeats 8000000 in
set_option maxRecDepth 100000 in
theorem laws_markRecord.calls (k : Nat) (a0_0 : Int) (P0_1_ : Nat → Prop) (u9000_ : Value) (l0_1 : List Int) (P0_2_ : Nat → Prop) (u9001_ : Value) (l0_2 : List ByteArray) (a1 : Int) (r1 : Int) (r2 : List Int) (r3 : List ByteArray) (w0 w : World) (hB : Below w0.heap.size w0 w) (ho0_1 : Kd.R (Kd.int .u64) 23 w w0.heap.size P0_1_ u9000_ l0_1) (ho0_2 : Kd.R Kd.string 9 w w0.heap.size P0_2_ u9001_ l0_2) (h : laws_markRecord.f k a0_0 l0_1 l0_2 a1 = some (r1, r2, r3)) :
    Calls Try.prog 31 #[.agg #[.int .i64 a0_0, u9000_, u9001_], .int .i64 a1] w fun e w' => e = .returned (.int .i64 r1) ∧ Kd.R (Kd.int .u64) 23 w' w0.heap.size (fun k_ => ((P0_1_ k_ ∨ P0_2_ k_) ∨ w.heap.size ≤ k_)) u9000_ r2 ∧ Kd.R Kd.string 9 w' w0.heap.size (fun k_ => ((P0_1_ k_ ∨ P0_2_ k_) ∨ w.heap.size ≤ k_)) u9001_ r3 ∧ Below w0.heap.size w0 w' ∧ Kept w w' (fun k_ => P0_1_ k_ ∨ P0_2_ k_) := by
  have hu42 := Try.underlying42
  have HO0_1 := Aside0.mk (show Kd.R (Kd.int .u64) 23 w w0.heap.size (fun k_ => ((P0_1_ k_ ∨ P0_2_ k_) ∨ w.heap.size ≤ k_)) u9000_ l0_1 from Kd.R_mono ho0_1 (fun k_ hk => (.inl (.inl hk))))
  have HO0_2 := Aside0.mk (show Kd.R Kd.string 9 w w0.heap.size (fun k_ => ((P0_1_ k_ ∨ P0_2_ k_) ∨ w.heap.size ≤ k_)) u9001_ l0_2 from Kd.R_mono ho0_2 (fun k_ hk => (.inl (.inr hk))))
  have HK := Aside0.mk (Kept.refl w (fun k_ => P0_1_ k_ ∨ P0_2_ k_))
  have HW0 := Aside0.mk hB.size
  have HB := Aside0.mk hB
  clear hB
  have H : ((laws_markUint64S.f k l0_1 a1).bind fun bt352 => ((laws_markStringS.f k l0_2 bt352.1).bind fun bt354 => (some (bt354.1, bt352.2, bt354.2)))) = some (r1, r2, r3) := h
  clear h
  replace H := Option.bind_eq_some_iff.mp H
  obtain ⟨⟨t352, t353⟩, A30, H⟩ := H
  replace H : ((laws_markStringS.f k l0_2 t352).bind fun bt354 => (some (bt354.1, t353, bt354.2))) = some (r1, r2, r3) := H
  have A3 := Aside0.mk A30
  clear A30
  replace H := Option.bind_eq_some_iff.mp H
  obtain ⟨⟨t354, t355⟩, A40, H⟩ := H
  replace H : (some (t354, t353, t355)) = some (r1, r2, r3) := H
  have A4 := Aside0.mk A40
  clear A40
  simp only [Option.some.injEq, Prod.mk.injEq] at H
  obtain ⟨rfl, rfl, rfl⟩ := H
  obtain ⟨Ao5, co5, eo5⟩ := Kd.R_slice HO0_1.out
  subst eo5
  obtain ⟨Ao6, co6, eo6⟩ := Kd.R_slice HO0_2.out
  subst eo6
  go_enter Try.func31, Try.ntmps31
  go_wp2_with (first | ((with_reducible refine gate_dst (N := 2) rfl ?_); refine box_event ?hg (N := 2) ?hd (cs := #[.int .i64 a0_0, .slice Ao5 l0_1.length co5, .slice Ao6 l0_2.length co6]) (t := 42) ?hr ?_; (case hd => rfl); (case hg => rfl); (case hr => first | (go_simp; done) | (go_simp; rfl)); intro gb351 hg w7 hbox hb; have n0_ := Aside0.mk (Kd.R_below (by (with_reducible repeat (first | apply Kd.R_alloc | apply Kd.R_drewN | apply Kd.R_drew)); exact HO0_1.out) hb); have n1_ := Aside0.mk (Kd.R_below (by (with_reducible repeat (first | apply Kd.R_alloc | apply Kd.R_drewN | apply Kd.R_drew)); exact HO0_2.out) hb); have n2_ := Aside0.mk (Kept.below (S := (fun k_ => P0_1_ k_ ∨ P0_2_ k_)) (by repeat (first | (with_reducible first | exact HK.out | apply Kept.alloc | apply Kept.drewN | apply Kept.drew) | exact HK.out)) hb); have n3_ := Aside0.mk (below_step (by repeat (first | (with_reducible first | exact HB.out | apply below_alloc | apply pw_below_drewN | apply below_drew1) | exact HB.out)) hb); have n4_ := Aside0.mk (hbox); have n5_ := Aside0.mk ((by rw [hg]; exact (by first | exact HK.out.1 | exact (show Kept w _ (fun k_ => P0_1_ k_ ∨ P0_2_ k_) from by repeat (first | (with_reducible first | exact HK.out | apply Kept.alloc | apply Kept.drewN | apply Kept.drew) | exact HK.out)).1) : w.heap.size ≤ gb351)); have n6_ := Aside0.mk ((by rw [hg]; exact (below_size (by repeat (first | (with_reducible first | exact HB.out | apply below_alloc | apply pw_below_drewN | apply below_drew1) | exact HB.out))) : w0.heap.size ≤ gb351)); clear HO0_1; clear HO0_2; clear HK; clear HB; have HO0_1 := n0_; have HO0_2 := n1_; have HK := n2_; have HB := n3_; have BK351 := n4_; have GW351 := n5_; have GE351 := n6_; clear n0_ n1_ n2_ n3_ n4_ n5_ n6_; clear hb hbox hg; have hcz8_0 : w7.cell? ⟨gb351, 0, none⟩ = some (.int .i64 a0_0) := (blk_cell BK351.out 0).trans rfl; have hcz8_1 : w7.cell? ⟨gb351, 1, none⟩ = some (.slice Ao5 l0_1.length co5) := (blk_cell BK351.out 1).trans rfl; have hcz8_2 : w7.cell? ⟨gb351, 2, none⟩ = some (.slice Ao6 l0_2.length co6) := (blk_cell BK351.out 2).trans rfl; have hfz8_0 := blk_frozen BK351.out 0; have hfz8_1 := blk_frozen BK351.out 1; have hfz8_2 := blk_frozen BK351.out 2) | ((with_reducible refine gate_callee (f := 61) rfl ?_); refine goesL_ (some 8) rfl rfl Try.func61 (by kernel_rfl) rfl #[.slice Ao5 l0_1.length co5, .int .i64 a1] rfl (by (try simp only [List.map_toArray, List.map_cons, List.map_nil]); first | done | rfl | (simp only [List.length_drop, List.length_take]; rfl)) ?_; (with_reducible refine (laws_markUint64S.calls k (fun k_ => some k_ = (.slice Ao5 l0_1.length co5 : Value).ownBlock) (.slice Ao5 l0_1.length co5) l0_1 a1 t352 t353 w0 _ ?side1 ?side2 A3.out).mono ?_); (case side1 => repeat (first | (with_reducible first | exact HB.out | apply below_alloc | apply pw_below_drewN | apply below_drew1 | refine below_set ?_ GE351.out) | exact HB.out)); (case side2 => exact Kd.R_tight rfl HO0_1.out); rintro e w9 ⟨rfl, hy0, hb, hkp⟩; refine ⟨_, rfl, ?_⟩; have n0_ := Aside0.mk (Kd.R_reok rfl hy0 (fun k_ e_ => HO0_1.out.1 k_ e_)); have n1_ := Aside0.mk (Kd.R_mono (ok' := fun k_ => ((P0_1_ k_ ∨ P0_2_ k_) ∨ w.heap.size ≤ k_)) (Kd.R_keptB ((Kd.R_apart' HO0_2.out (Kd.R_typed HO0_1.out) (by decide))) hkp (fun k_ hk_ hs_ => (hk_.2) hs_)) (fun k_ hk_ => hk_.1.1)); have n2_ := Aside0.mk (blk_kept (by (with_reducible repeat (first | refine blk_drewN ?_ _ | refine blk_drew ?_ | refine blk_alloc ?_ _)); exact BK351.out) hkp (fun hs_ => (fun e_ => (Kd.R_ne HO0_1.out BK351.out (by decide)) e_) hs_)); have n3_ := Aside0.mk (Kept.then_ (S := (fun k_ => P0_1_ k_ ∨ P0_2_ k_)) (by repeat (first | (with_reducible first | exact HK.out | apply Kept.alloc | apply Kept.drewN | apply Kept.drew | refine Kept.setCell ?_ (.inr GW351.out) _) | exact HK.out)) hkp (fun k_ hs_ => (fun e_ => (HO0_1.out.1 k_ e_.symm)) hs_)); have n4_ := Aside0.mk (hb); clear HO0_1; clear HO0_2; clear BK351; clear HK; clear HB; have HO0_1 := n0_; have HO0_2 := n1_; have BK351 := n2_; have HK := n3_; have HB := n4_; clear n0_ n1_ n2_ n3_ n4_; (try clear hb); (try clear hkp); (try clear hy0); have hcz10_0 : w9.cell? ⟨gb351, 0, none⟩ = some (.int .i64 a0_0) := (blk_cell BK351.out 0).trans rfl; have hcz10_1 : w9.cell? ⟨gb351, 1, none⟩ = some (.slice Ao5 l0_1.length co5) := (blk_cell BK351.out 1).trans rfl; have hcz10_2 : w9.cell? ⟨gb351, 2, none⟩ = some (.slice Ao6 l0_2.length co6) := (blk_cell BK351.out 2).trans rfl; have hfz10_0 := blk_frozen BK351.out 0; have hfz10_1 := blk_frozen BK351.out 1; have hfz10_2 := blk_frozen BK351.out 2) | ((with_reducible refine gate_callee (f := 62) rfl ?_); refine goesL_ (some 12) rfl rfl Try.func62 (by kernel_rfl) rfl #[.slice Ao6 l0_2.length co6, .int .i64 t352] rfl (by (try simp only [List.map_toArray, List.map_cons, List.map_nil]); first | done | rfl | (simp only [List.length_drop, List.length_take]; rfl)) ?_; (with_reducible refine (laws_markStringS.calls k (fun k_ => some k_ = (.slice Ao6 l0_2.length co6 : Value).ownBlock) (.slice Ao6 l0_2.length co6) l0_2 t352 t354 t355 w0 _ ?side1 ?side2 A4.out).mono ?_); (case side1 => repeat (first | (with_reducible first | exact HB.out | apply below_alloc | apply pw_below_drewN | apply below_drew1 | refine below_set ?_ GE351.out) | exact HB.out)); (case side2 => exact Kd.R_tight rfl HO0_2.out); rintro e w11 ⟨rfl, hy0, hb, hkp⟩; refine ⟨_, rfl, ?_⟩; have n0_ := Aside0.mk (Kd.R_mono (ok' := fun k_ => ((P0_1_ k_ ∨ P0_2_ k_) ∨ w.heap.size ≤ k_)) (Kd.R_keptB ((Kd.R_apart' HO0_1.out (Kd.R_typed HO0_2.out) (by decide))) hkp (fun k_ hk_ hs_ => (hk_.2) hs_)) (fun k_ hk_ => hk_.1.1)); have n1_ := Aside0.mk (Kd.R_reok rfl hy0 (fun k_ e_ => HO0_2.out.1 k_ e_)); have n2_ := Aside0.mk (blk_kept (by (with_reducible repeat (first | refine blk_drewN ?_ _ | refine blk_drew ?_ | refine blk_alloc ?_ _)); exact BK351.out) hkp (fun hs_ => (fun e_ => (Kd.R_ne HO0_2.out BK351.out (by decide)) e_) hs_)); have n3_ := Aside0.mk (Kept.then_ (S := (fun k_ => P0_1_ k_ ∨ P0_2_ k_)) (by repeat (first | (with_reducible first | exact HK.out | apply Kept.alloc | apply Kept.drewN | apply Kept.drew | refine Kept.setCell ?_ (.inr GW351.out) _) | exact HK.out)) hkp (fun k_ hs_ => (fun e_ => (HO0_2.out.1 k_ e_.symm)) hs_)); have n4_ := Aside0.mk (hb); clear HO0_1; clear HO0_2; clear BK351; clear HK; clear HB; have HO0_1 := n0_; have HO0_2 := n1_; have BK351 := n2_; have HK := n3_; have HB := n4_; clear n0_ n1_ n2_ n3_ n4_; (try clear hb); (try clear hkp); (try clear hy0)))
  go_ret
  exact ⟨by first | rfl | (simp [errW_none, errW_some] <;> rfl) | (simp [*, errW_none, errW_some] <;> rfl), by (with_reducible repeat (first | apply Kd.R_alloc | apply Kd.R_drewN | apply Kd.R_drew)); exact HO0_1.out, by (with_reducible repeat (first | apply Kd.R_alloc | apply Kd.R_drewN | apply Kd.R_drew)); exact HO0_2.out, by repeat (first | (with_reducible first | exact HB.out | apply below_alloc | apply pw_below_drewN | apply below_drew1 | refine below_set ?_ GE351.out) | exact HB.out), by repeat (first | (with_reducible first | exact HK.out | apply Kept.alloc | apply Kept.drewN | apply Kept.drew | refine Kept.setCell ?_ (.inr GW351.out) _) | exact HK.out)⟩

end Go.Proofs.Ytgdebfaoohjikaa.F

namespace Go.Proofs.Ytgdebfaoohjikaa.F
open Go.RowKit Go.Proofs.YtgdebfaoohjikaaW.PrintWords Go.Proofs.YtgdebfaoohjikaaW.PrintLast Go.Proofs.YtgdebfaoohjikaaW.PrintMore
attribute [local go_sem] max2_int min2_int max_two min_two max_three min_three max_four min_four   -- for this text's walks alone
set_option linter.unusedVariables false
set_option linter.unusedSimpArgs false

/-! ### laws_heldRecord: function 34 -/
def laws_heldRecord.f (k : Nat) (a0_0 : Int) (l0_1 : List Int) (l0_2 : List ByteArray) (a1 : Int) : Option (Int) := (laws_heldUint64S.f k l0_1 a1).bind fun t416 => (if t416 < 0 then (some (-1)) else ((laws_heldStringS.f k l0_2 t416).bind fun t417 => (if t417 < 0 then (some (-1)) else (some t417))))
theorem laws_heldRecord.mono : ∀ a0 a1 a2 a3 k, LeO (laws_heldRecord.f k a0 a1 a2 a3) (laws_heldRecord.f (k + 1) a0 a1 a2 a3) := by
  intro a0 a1 a2 a3 k
  unfold laws_heldRecord.f
  repeat' first
      | (with_reducible exact laws_heldStringS.mono _ _ _)
      | (with_reducible exact laws_heldUint64S.mono _ _ _)
      | (with_reducible exact LeO.refl _)
      | (with_reducible exact LeO.none _)
      | (with_reducible refine LeO.ite ?_ ?_)
      | (with_reducible refine LeO.bind ?_ (fun _ => ?_))
      | exact laws_heldStringS.mono _ _ _
      | exact laws_heldUint64S.mono _ _ _
      | exact LeO.none _
      | refine LeO.ite ?_ ?_
      | refine LeO.bind ?_ (fun _ => ?_)
set_option maxHeartbeats 8000000 in
set_option maxRecDepth 100000 in
theorem laws_heldRecord.calls (k : Nat) (a0_0 : Int) (A0_1 : Option Addr) (c0_1 : Nat) (l0_1 : List Int) (A0_2 : Option Addr) (c0_2 : Nat) (l0_2 : List ByteArray) (a1 : Int) (r : Int) (w : World) (hr0_1 : Kd.C (Kd.int .u64) w A0_1 l0_1.length l0_1) (hc0_1 : l0_1.length ≤ c0_1) (hr0_2 : Kd.C Kd.string w A0_2 l0_2.length l0_2) (hc0_2 : l0_2.length ≤ c0_2) (h : laws_heldRecord.f k a0_0 l0_1 l0_2 a1 = some r) :
    Calls Try.prog 34 #[.agg #[.int .i64 a0_0, .slice A0_1 l0_1.length c0_1, .slice A0_2 l0_2.length c0_2], .int .i64 a1] w fun e w' => e = .returned (.int .i64 r) ∧ Below w.heap.size w w' := by
  have hu42 := Try.underlying42
  have HR0_1 := Aside0.mk hr0_1
  have HC0_1 := Aside0.mk hc0_1
  clear hr0_1 hc0_1
  have HR0_2 := Aside0.mk hr0_2
  have HC0_2 := Aside0.mk hc0_2
  clear hr0_2 hc0_2
  have HB := Aside0.mk (Below.refl w.heap.size w)
  have H : ((laws_heldUint64S.f k l0_1 a1).bind fun t416 => (if t416 < 0 then (some (-1)) else ((laws_heldStringS.f k l0_2 t416).bind fun t417 => (if t417 < 0 then (some (-1)) else (some t417))))) = some r := h
  clear h
  replace H := Option.bind_eq_some_iff.mp H
  obtain ⟨t416, A30, H⟩ := H
  replace H : (if t416 < 0 then (some (-1)) else ((laws_heldStringS.f k l0_2 t416).bind fun t417 => (if t417 < 0 then (some (-1)) else (some t417)))) = some r := H
  have A3 := Aside0.mk A30
  clear A30
  by_cases c4 : t416 < 0
  · rw [if_pos c4] at H
    have c4b0 : decide (t416 < 0) = true := decide_eq_true c4
    clear c4
    obtain rfl := Option.some.inj H
    go_enter Try.func34, Try.ntmps34
    go_wp2_with (first | ((with_reducible refine gate_dst (N := 2) rfl ?_); refine box_event ?hg (N := 2) ?hd (cs := #[.int .i64 a0_0, .slice A0_1 l0_1.length c0_1, .slice A0_2 l0_2.length c0_2]) (t := 42) ?hr ?_; (case hd => rfl); (case hg => rfl); (case hr => first | (go_simp; done) | (go_simp; rfl)); intro gb415 hg w5 hbox hb; have n0_ := Aside0.mk (below_step (by repeat (first | (with_reducible first | exact HB.out | apply below_alloc | apply pw_below_drewN | apply below_drew1) | exact HB.out)) hb); have n1_ := Aside0.mk (hbox); have n2_ := Aside0.mk ((by rw [hg]; exact (below_size (by repeat (first | (with_reducible first | exact HB.out | apply below_alloc | apply pw_below_drewN | apply below_drew1) | exact HB.out))) : w.heap.size ≤ gb415)); have n3_ := Aside0.mk ((by rw [hg]; exact (below_size (by repeat (first | (with_reducible first | exact HB.out | apply below_alloc | apply pw_below_drewN | apply below_drew1) | exact HB.out))) : w.heap.size ≤ gb415)); clear HB; have HB := n0_; have BK415 := n1_; have GW415 := n2_; have GE415 := n3_; clear n0_ n1_ n2_ n3_; clear hb hbox hg; have hcz6_0 : w5.cell? ⟨gb415, 0, none⟩ = some (.int .i64 a0_0) := (blk_cell BK415.out 0).trans rfl; have hcz6_1 : w5.cell? ⟨gb415, 1, none⟩ = some (.slice A0_1 l0_1.length c0_1) := (blk_cell BK415.out 1).trans rfl; have hcz6_2 : w5.cell? ⟨gb415, 2, none⟩ = some (.slice A0_2 l0_2.length c0_2) := (blk_cell BK415.out 2).trans rfl; have hfz6_0 := blk_frozen BK415.out 0; have hfz6_1 := blk_frozen BK415.out 1; have hfz6_2 := blk_frozen BK415.out 2) | ((with_reducible refine gate_callee (f := 64) rfl ?_); refine goesL_ (some 8) rfl rfl Try.func64 (by kernel_rfl) rfl #[.slice A0_1 l0_1.length c0_1, .int .i64 a1] rfl (by (try simp only [List.map_toArray, List.map_cons, List.map_nil]); first | done | rfl | (simp only [List.length_drop, List.length_take]; rfl)) ?_; (with_reducible refine (laws_heldUint64S.calls k _ _ l0_1 a1 t416 _ ?side1 ?side2 A3.out).mono ?_); (case side1 => repeat (first | exact (Kd.C_below HR0_1.out HB.out) | (with_reducible refine Kd.C_alloc ?_ _) | (with_reducible refine Kd.C_drewN ?_ _) | (with_reducible refine Kd.C_drew ?_))); (case side2 => exact HC0_1.out); rintro e w' ⟨rfl, ⟨nd, rfl⟩⟩; refine ⟨_, rfl, ?_⟩))
    go_ret
    exact ⟨by first | rfl | (simp [errW_none, errW_some] <;> rfl) | (simp [*, errW_none, errW_some] <;> rfl), by repeat (first | (with_reducible first | exact HB.out | apply below_alloc | apply pw_below_drewN | apply below_drew1 | refine below_set ?_ GE415.out) | exact HB.out)⟩
  · rw [if_neg c4] at H
    have c4b0 : decide (t416 < 0) = false := decide_eq_false c4
    clear c4
    replace H := Option.bind_eq_some_iff.mp H
    obtain ⟨t417, A70, H⟩ := H
    replace H : (if t417 < 0 then (some (-1)) else (some t417)) = some r := H
    have A7 := Aside0.mk A70
    clear A70
    by_cases c8 : t417 < 0
    · rw [if_pos c8] at H
      have c8b0 : decide (t417 < 0) = true := decide_eq_true c8
      clear c8
      obtain rfl := Option.some.inj H
      go_enter Try.func34, Try.ntmps34
      go_wp2_with (first | ((with_reducible refine gate_dst (N := 2) rfl ?_); refine box_event ?hg (N := 2) ?hd (cs := #[.int .i64 a0_0, .slice A0_1 l0_1.length c0_1, .slice A0_2 l0_2.length c0_2]) (t := 42) ?hr ?_; (case hd => rfl); (case hg => rfl); (case hr => first | (go_simp; done) | (go_simp; rfl)); intro gb415 hg w9 hbox hb; have n0_ := Aside0.mk (below_step (by repeat (first | (with_reducible first | exact HB.out | apply below_alloc | apply pw_below_drewN | apply below_drew1) | exact HB.out)) hb); have n1_ := Aside0.mk (hbox); have n2_ := Aside0.mk ((by rw [hg]; exact (below_size (by repeat (first | (with_reducible first | exact HB.out | apply below_alloc | apply pw_below_drewN | apply below_drew1) | exact HB.out))) : w.heap.size ≤ gb415)); have n3_ := Aside0.mk ((by rw [hg]; exact (below_size (by repeat (first | (with_reducible first | exact HB.out | apply below_alloc | apply pw_below_drewN | apply below_drew1) | exact HB.out))) : w.heap.size ≤ gb415)); clear HB; have HB := n0_; have BK415 := n1_; have GW415 := n2_; have GE415 := n3_; clear n0_ n1_ n2_ n3_; clear hb hbox hg; have hcz10_0 : w9.cell? ⟨gb415, 0, none⟩ = some (.int .i64 a0_0) := (blk_cell BK415.out 0).trans rfl; have hcz10_1 : w9.cell? ⟨gb415, 1, none⟩ = some (.slice A0_1 l0_1.length c0_1) := (blk_cell BK415.out 1).trans rfl; have hcz10_2 : w9.cell? ⟨gb415, 2, none⟩ = some (.slice A0_2 l0_2.length c0_2) := (blk_cell BK415.out 2).trans rfl; have hfz10_0 := blk_frozen BK415.out 0; have hfz10_1 := blk_frozen BK415.out 1; have hfz10_2 := blk_frozen BK415.out 2) | ((with_reducible refine gate_callee (f := 64) rfl ?_); refine goesL_ (some 8) rfl rfl Try.func64 (by kernel_rfl) rfl #[.slice A0_1 l0_1.length c0_1, .int .i64 a1] rfl (by (try simp only [List.map_toArray, List.map_cons, List.map_nil]); first | done | rfl | (simp only [List.length_drop, List.length_take]; rfl)) ?_; (with_reducible refine (laws_heldUint64S.calls k _ _ l0_1 a1 t416 _ ?side1 ?side2 A3.out).mono ?_); (case side1 => repeat (first | exact (Kd.C_below HR0_1.out HB.out) | (with_reducible refine Kd.C_alloc ?_ _) | (with_reducible refine Kd.C_drewN ?_ _) | (with_reducible refine Kd.C_drew ?_))); (case side2 => exact HC0_1.out); rintro e w' ⟨rfl, ⟨nd, rfl⟩⟩; refine ⟨_, rfl, ?_⟩) | ((with_reducible refine gate_callee (f := 65) rfl ?_); refine goesL_ (some 14) rfl rfl Try.func65 (by kernel_rfl) rfl #[.slice A0_2 l0_2.length c0_2, .int .i64 t416] rfl (by (try simp only [List.map_toArray, List.map_cons, List.map_nil]); first | done | rfl | (simp only [List.length_drop, List.length_take]; rfl)) ?_; (with_reducible refine (laws_heldStringS.calls k _ _ l0_2 t416 t417 _ ?side1 ?side2 A7.out).mono ?_); (case side1 => repeat (first | exact (Kd.C_below HR0_2.out (by repeat (first | (with_reducible first | exact HB.out | apply below_alloc | apply pw_below_drewN | apply below_drew1 | refine below_set ?_ GE415.out) | exact HB.out))) | (with_reducible refine Kd.C_alloc ?_ _) | (with_reducible refine Kd.C_drewN ?_ _) | (with_reducible refine Kd.C_drew ?_))); (case side2 => exact HC0_2.out); rintro e w11 ⟨rfl, hb⟩; refine ⟨_, rfl, ?_⟩; have n0_ := Aside0.mk (blk_below (g := gb415) (o := .cells #[.int .i64 a0_0, .slice A0_1 l0_1.length c0_1, .slice A0_2 l0_2.length c0_2] 42 (0, 0)) (by (with_reducible repeat (first | refine blk_drewN ?_ _ | refine blk_drew ?_ | refine blk_alloc ?_ _)); exact BK415.out) hb); have n1_ := Aside0.mk (below_step (by repeat (first | (with_reducible first | exact HB.out | apply below_alloc | apply pw_below_drewN | apply below_drew1 | refine below_set ?_ GE415.out) | exact HB.out)) hb); clear BK415; clear HB; have BK415 := n0_; have HB := n1_; clear n0_ n1_; (try clear hb); (try clear hb2); (try clear hk); (try clear hi)))
      go_ret
      exact ⟨by first | rfl | (simp [errW_none, errW_some] <;> rfl) | (simp [*, errW_none, errW_some] <;> rfl), by repeat (first | (with_reducible first | exact HB.out | apply below_alloc | apply pw_below_drewN | apply below_drew1 | refine below_set ?_ GE415.out) | exact HB.out)⟩
    · rw [if_neg c8] at H
      have c8b0 : decide (t417 < 0) = false := decide_eq_false c8
      clear c8
      obtain rfl := Option.some.inj H
      go_enter Try.func34, Try.ntmps34
      go_wp2_with (first | ((with_reducible refine gate_dst (N := 2) rfl ?_); refine box_event ?hg (N := 2) ?hd (cs := #[.int .i64 a0_0, .slice A0_1 l0_1.length c0_1, .slice A0_2 l0_2.length c0_2]) (t := 42) ?hr ?_; (case hd => rfl); (case hg => rfl); (case hr => first | (go_simp; done) | (go_simp; rfl)); intro gb415 hg w12 hbox hb; have n0_ := Aside0.mk (below_step (by repeat (first | (with_reducible first | exact HB.out | apply below_alloc | apply pw_below_drewN | apply below_drew1) | exact HB.out)) hb); have n1_ := Aside0.mk (hbox); have n2_ := Aside0.mk ((by rw [hg]; exact (below_size (by repeat (first | (with_reducible first | exact HB.out | apply below_alloc | apply pw_below_drewN | apply below_drew1) | exact HB.out))) : w.heap.size ≤ gb415)); have n3_ := Aside0.mk ((by rw [hg]; exact (below_size (by repeat (first | (with_reducible first | exact HB.out | apply below_alloc | apply pw_below_drewN | apply below_drew1) | exact HB.out))) : w.heap.size ≤ gb415)); clear HB; have HB := n0_; have BK415 := n1_; have GW415 := n2_; have GE415 := n3_; clear n0_ n1_ n2_ n3_; clear hb hbox hg; have hcz13_0 : w12.cell? ⟨gb415, 0, none⟩ = some (.int .i64 a0_0) := (blk_cell BK415.out 0).trans rfl; have hcz13_1 : w12.cell? ⟨gb415, 1, none⟩ = some (.slice A0_1 l0_1.length c0_1) := (blk_cell BK415.out 1).trans rfl; have hcz13_2 : w12.cell? ⟨gb415, 2, none⟩ = some (.slice A0_2 l0_2.length c0_2) := (blk_cell BK415.out 2).trans rfl; have hfz13_0 := blk_frozen BK415.out 0; have hfz13_1 := blk_frozen BK415.out 1; have hfz13_2 := blk_frozen BK415.out 2) | ((with_reducible refine gate_callee (f := 64) rfl ?_); refine goesL_ (some 8) rfl rfl Try.func64 (by kernel_rfl) rfl #[.slice A0_1 l0_1.length c0_1, .int .i64 a1] rfl (by (try simp only [List.map_toArray, List.map_cons, List.map_nil]); first | done | rfl | (simp only [List.length_drop, List.length_take]; rfl)) ?_; (with_reducible refine (laws_heldUint64S.calls k _ _ l0_1 a1 t416 _ ?side1 ?side2 A3.out).mono ?_); (case side1 => repeat (first | exact (Kd.C_below HR0_1.out HB.out) | (with_reducible refine Kd.C_alloc ?_ _) | (with_reducible refine Kd.C_drewN ?_ _) | (with_reducible refine Kd.C_drew ?_))); (case side2 => exact HC0_1.out); rintro e w' ⟨rfl, ⟨nd, rfl⟩⟩; refine ⟨_, rfl, ?_⟩) | ((with_reducible refine gate_callee (f := 65) rfl ?_); refine goesL_ (some 14) rfl rfl Try.func65 (by kernel_rfl) rfl #[.slice A0_2 l0_2.length c0_2, .int .i64 t416] rfl (by (try simp only [List.map_toArray, List.map_cons, List.map_nil]); first | done | rfl | (simp only [List.length_drop, List.length_take]; rfl)) ?_; (with_reducible refine (laws_heldStringS.calls k _ _ l0_2 t416 t417 _ ?side1 ?side2 A7.out).mono ?_); (case side1 => repeat (first | exact (Kd.C_below HR0_2.out (by repeat (first | (with_reducible first | exact HB.out | apply below_alloc | apply pw_below_drewN | apply below_drew1 | refine below_set ?_ GE415.out) | exact HB.out))) | (with_reducible refine Kd.C_alloc ?_ _) | (with_reducible refine Kd.C_drewN ?_ _) | (with_reducible refine Kd.C_drew ?_))); (case side2 => exact HC0_2.out); rintro e w14 ⟨rfl, hb⟩; refine ⟨_, rfl, ?_⟩; have n0_ := Aside0.mk (blk_below (g := gb415) (o := .cells #[.int .i64 a0_0, .slice A0_1 l0_1.length c0_1, .slice A0_2 l0_2.length c0_2] 42 (0, 0)) (by (with_reducible repeat (first | refine blk_drewN ?_ _ | refine blk_drew ?_ | refine blk_alloc ?_ _)); exact BK415.out) hb); have n1_ := Aside0.mk (below_step (by repeat (first | (with_reducible first | exact HB.out | apply below_alloc | apply pw_below_drewN | apply below_drew1 | refine below_set ?_ GE415.out) | exact HB.out)) hb); clear BK415; clear HB; have BK415 := n0_; have HB := n1_; clear n0_ n1_; (try clear hb); (try clear hb2); (try clear hk); (try clear hi)))
      go_ret
      exact ⟨by first | rfl | (simp [errW_none, errW_some] <;> rfl) | (simp [*, errW_none, errW_some] <;> rfl), by repeat (first | (with_reducible first | exact HB.out | apply below_alloc | apply pw_below_drewN | apply below_drew1 | refine below_set ?_ GE415.out) | exact HB.out)⟩

end Go.Proofs.Ytgdebfaoohjikaa.F

namespace Go.Proofs.Ytgdebfaoohjikaa.KR
set_option linter.unusedVariables false
set_option linter.unusedSimpArgs false
open Go.RowKit Go.Proofs.Ytgdebfaoohjikaa.F Go.Proofs.Ytgdebfaoohjikaa.PK Go.Proofs.Ytgdebfaoohjikaa.MT Go.Proofs.YtgdebfaoohjikaaW.PrintWords Go.Proofs.YtgdebfaoohjikaaW.PrintLast Go.Proofs.YtgdebfaoohjikaaW.PrintMore
theorem markUint64S (l : List Int) (s : Int) (hl : l.length ≤ 3000000) (h0 : 0 ≤ s) (h1 : s ≤ 1000000000000) : ∃ (m : Int) (l' : List Int), Ev (fun k => laws_markUint64S.f k l s) (m, l') ∧ s ≤ m ∧ m ≤ s + l.length ∧ l'.length = l.length ∧ Ev (fun k => laws_heldUint64S.f k l' s) m := by
  obtain ⟨m, l', h1, h2, h5, hn, _, h3⟩ := marks laws_markUint64S.l0 laws_heldUint64S.l0 1 (by omega) l.length 9223372036854775000
    (fun l a hl => EvS (by simp only [laws_markUint64S.l0, hl, Int.lt_irrefl, if_false]; exact EvN))
    (fun l a hl => EvS (by simp only [laws_heldUint64S.l0, hl, Int.lt_irrefl, if_false]; exact EvN))
    (fun i l1 a hi hl1 h0 hN => by
      have hw1 : wrap64 (a + 1) = a + 1 := w64 (by omega) (by omega)
      have hw2 : IntKind.u64.wrap a = a := by rw [IntKind.wrap_u64]; omega
      refine ⟨a, a + 1, by omega, by omega, fun r hr => EvS ?_, fun l' r hl' he hr => EvS ?_⟩
      · simp only [laws_markUint64S.l0, if_pos (show (i : Int) < (l1.length : Int) by omega), if_pos (show 0 ≤ (i : Int) by omega), hw1, hw2, Int.toNat_natCast, nxt i l.length hi (by omega)]
        exact hr
      · have hli : i < l'.length := by omega
        rw [List.getElem?_eq_getElem hli] at he
        have he := Option.some.inj he
        simp only [laws_heldUint64S.l0, if_pos (show (i : Int) < (l'.length : Int) by omega), if_pos (show 0 ≤ (i : Int) by omega), rd_at l' i hli, he, if_true, hw1, hw2, nxt i l.length hi (by omega)]
        exact hr)
    0 (Nat.zero_le _) l s rfl (by omega) (by omega)
  refine ⟨m, l', ?_, h2, by omega, hn, ?_⟩
  · unfold laws_markUint64S.f
    exact h1
  · unfold laws_heldUint64S.f
    exact h3
theorem markStringS (l : List ByteArray) (s : Int) (hl : l.length ≤ 3000000) (h0 : 0 ≤ s) (h1 : s ≤ 1000000000000) : ∃ (m : Int) (l' : List ByteArray), Ev (fun k => laws_markStringS.f k l s) (m, l') ∧ s ≤ m ∧ m ≤ s + l.length ∧ l'.length = l.length ∧ Ev (fun k => laws_heldStringS.f k l' s) m := by
  obtain ⟨m, l', h1, h2, h5, hn, _, h3⟩ := marks laws_markStringS.l0 laws_heldStringS.l0 1 (by omega) l.length 9223372036854775000
    (fun l a hl => EvS (by simp only [laws_markStringS.l0, hl, Int.lt_irrefl, if_false]; exact EvN))
    (fun l a hl => EvS (by simp only [laws_heldStringS.l0, hl, Int.lt_irrefl, if_false]; exact EvN))
    (fun i l1 a hi hl1 h0 hN => by
      obtain ⟨t, ht⟩ := markText a (by omega)
      have hw1 : wrap64 (a + 1) = a + 1 := w64 (by omega) (by omega)
      refine ⟨t, a + 1, by omega, by omega, fun r hr => EvS ?_, fun l' r hl' he hr => EvS ?_⟩
      · simp only [laws_markStringS.l0, if_pos (show (i : Int) < (l1.length : Int) by omega), if_pos (show 0 ≤ (i : Int) by omega), EvB ht, hw1, Int.toNat_natCast, nxt i l.length hi (by omega)]
        exact hr
      · have hli : i < l'.length := by omega
        rw [List.getElem?_eq_getElem hli] at he
        have he := Option.some.inj he
        simp only [laws_heldStringS.l0, if_pos (show (i : Int) < (l'.length : Int) by omega), if_pos (show 0 ≤ (i : Int) by omega), rs_at l' i hli, he, EvB ht, if_true, hw1, nxt i l.length hi (by omega)]
        exact hr)
    0 (Nat.zero_le _) l s rfl (by omega) (by omega)
  refine ⟨m, l', ?_, h2, by omega, hn, ?_⟩
  · unfold laws_markStringS.f
    exact h1
  · unfold laws_heldStringS.f
    exact h3
theorem markRecord (a : Int) (n : List Int) (w : List ByteArray) (s : Int) (hn : n.length ≤ 2000000) (hw : w.length ≤ 2000000) (h0 : 0 ≤ s) (h1 : s ≤ 500000000000) : ∃ (m : Int) (n' : List Int) (w' : List ByteArray), Ev (fun k => laws_markRecord.f k a n w s) (m, n', w') ∧ s ≤ m ∧ m ≤ s + n.length + w.length ∧ n'.length = n.length ∧ w'.length = w.length ∧ Ev (fun k => laws_heldRecord.f k a n' w' s) m := by
  obtain ⟨b, n', a1, a2, a3, a5, a4⟩ := markUint64S n s (by omega) (by omega) (by omega)
  obtain ⟨c, w', b1, b2, b3, b5, b4⟩ := markStringS w b (by omega) (by omega) (by omega)
  refine ⟨c, n', w', ?_, by omega, by omega, a5, b5, ?_⟩
  · unfold laws_markRecord.f
    simp only [EvB a1, EvB b1]
    exact EvN
  · unfold laws_heldRecord.f
    simp only [EvB a4, EvB b4, if_neg (show ¬ b < 0 by omega), if_neg (show ¬ c < 0 by omega)]
    exact EvN
end Go.Proofs.Ytgdebfaoohjikaa.KR

namespace Go.Proofs.Ytgdebfaoohjikaa.KR
set_option linter.unusedVariables false
set_option linter.unusedSimpArgs false
open Go.RowKit Go.Proofs.Ytgdebfaoohjikaa.F Go.Proofs.Ytgdebfaoohjikaa.PK Go.Proofs.YtgdebfaoohjikaaW.PrintWords Go.Proofs.YtgdebfaoohjikaaW.PrintLast Go.Proofs.YtgdebfaoohjikaaW.PrintMore
theorem rdr (l : List S42) (i : Nat) (h : i < l.length) : rd_T42 l (i : Int) = l[i] := getD_nat l _ i h
theorem eqRecordS (x : List S42) (hx : x.length ≤ 9223372036854775807) (hy : ∀ y ∈ x, y.f1.length ≤ 9223372036854775807 ∧ y.f2.length ≤ 9223372036854775807) : Ev (fun k => laws_eqRecordS.f k x x) true := by
  have key := up (P := fun i => Ev (fun k => laws_eqRecordS.l0 k x x i) true) x.length
    (EvS (by simp only [laws_eqRecordS.l0, Int.lt_irrefl, if_false]; exact EvN))
    (fun i hi ih => EvS (by
      have e := eqRecord x[i].f0 x[i].f1 x[i].f2 (hy _ (List.getElem_mem hi)).1 (hy _ (List.getElem_mem hi)).2
      simp only [laws_eqRecordS.l0, rdr x i hi, if_pos (show (i : Int) < (x.length : Int) by omega), if_pos (show 0 ≤ (i : Int) by omega), EvB e, if_true, nxt i _ hi hx]; exact ih))
  have := key 0 (Nat.zero_le _)
  unfold laws_eqRecordS.f
  simp only [if_true]
  exact this
theorem markRS (B : Nat) (hB : B ≤ 3000000) : ∀ (d i : Nat) (x : List S42) (a : Int), d + i = x.length → x.length ≤ 3000000 → (∀ y ∈ x, 1 + y.f1.length + y.f2.length ≤ B) → 0 ≤ a → a + d * B ≤ 900000000000 →
    ∃ (m : Int) (x' : List S42), Ev (fun k => laws_markRecordS.l0 k x a i) (m, x') ∧ a ≤ m ∧ m ≤ a + d * B ∧ x'.length = x.length ∧ (∀ j, j < i → x'[j]? = x[j]?) ∧ Ev (fun k => laws_heldRecordS.l0 k x' a i) m := by
  intro d
  induction d with
  | zero =>
    intro i x a hi hx hy h0 h1
    have hi : i = x.length := by omega
    subst hi
    exact ⟨a, x, EvS (by simp only [laws_markRecordS.l0, Int.lt_irrefl, if_false]; exact EvN), Int.le_refl _, by omega, rfl, fun _ _ => rfl, EvS (by simp only [laws_heldRecordS.l0, Int.lt_irrefl, if_false]; exact EvN)⟩
  | succ d ih =>
    intro i x a hi hx hy h0 h1
    have hix : i < x.length := by omega
    have hyi := hy _ (List.getElem_mem hix)
    have hq : ((d + 1 : Nat) : Int) * (B : Int) = (d : Int) * (B : Int) + (B : Int) := by rw [Int.natCast_succ, Int.add_mul, Int.one_mul]
    have hdn : (0 : Int) ≤ (d : Int) * (B : Int) := Int.mul_nonneg (by omega) (by omega)
    rw [hq] at h1
    have hw : wrap64 (a + 1) = a + 1 := w64 (by omega) (by omega)
    obtain ⟨b, n', a1, a2, a3, a5, a4⟩ := markUint64S x[i].f1 (a + 1) (by omega) (by omega) (by omega)
    obtain ⟨c, w', b1, b2, b3, b5, b4⟩ := markStringS x[i].f2 b (by omega) (by omega) (by omega)
    obtain ⟨m, x', f1, f2, f3, f4, f5, f6⟩ := ih (i + 1) (x.set i ⟨a, n', w'⟩) c (by simp; omega) (by simpa using hx) (fun y hmem => by
      rcases List.mem_or_eq_of_mem_set hmem with h | rfl
      · exact hy y h
      · simp only [a5, b5]; exact hyi) (by omega) (by omega)
    have hli : i < x'.length := by rw [f4]; simpa using hix
    have he : x'[i] = ⟨a, n', w'⟩ := by
      have := f5 i (by omega)
      rw [List.getElem?_set_self hix, List.getElem?_eq_getElem hli] at this
      exact Option.some.inj this
    refine ⟨m, x', EvS ?_, by omega, by rw [hq]; omega, by simpa using f4, fun j hj => ?_, EvS ?_⟩
    · simp only [laws_markRecordS.l0, if_pos (show (i : Int) < (x.length : Int) by omega), if_pos (show 0 ≤ (i : Int) by omega), rdr x i hix, hw, EvB a1, EvB b1, Int.toNat_natCast, nxt i x.length hix (by omega)]
      exact f1
    · rw [f5 j (by omega), List.getElem?_set_ne (by omega)]
    · simp only [laws_heldRecordS.l0, if_pos (show (i : Int) < (x'.length : Int) by omega), if_pos (show 0 ≤ (i : Int) by omega), rdr x' i hli, he, if_true, hw, EvB a4, EvB b4, if_neg (show ¬ b < 0 by omega), if_neg (show ¬ c < 0 by omega), nxt i x'.length hli (by rw [f4]; simp; omega)]
      exact f6
theorem markRecordS (B : Nat) (x : List S42) (hB : B ≤ 3000000) (hx : x.length ≤ 3000000) (hs : 1 + (x.length : Int) * B ≤ 900000000000) (hy : ∀ y ∈ x, 1 + y.f1.length + y.f2.length ≤ B) : ∃ (m : Int) (x' : List S42), Ev (fun k => laws_markRecordS.f k x 1) (m, x') ∧ 1 ≤ m ∧ Ev (fun k => laws_heldRecordS.f k x' 1) m := by
  obtain ⟨m, x', h1, h2, _, _, _, h3⟩ := markRS B hB x.length 0 x 1 rfl hx hy (by omega) hs
  exact ⟨m, x', h1, h2, h3⟩
end Go.Proofs.Ytgdebfaoohjikaa.KR

namespace Go.Proofs.Ytgdebfaoohjikaa.Pure
set_option linter.unusedVariables false
set_option linter.unusedSimpArgs false
open Go.RowKit Go.Proofs.Ytgdebfaoohjikaa.F Go.Proofs.Ytgdebfaoohjikaa.PK Go.Proofs.YtgdebfaoohjikaaW.PrintWords Go.Proofs.YtgdebfaoohjikaaW.PrintLast
open Go.Proofs.Ytgdebfaoohjikaa.BY Go.Proofs.Ytgdebfaoohjikaa.VI Go.Proofs.Ytgdebfaoohjikaa.KR Go.Proofs.Ytgdebfaoohjikaa.DE
theorem FnExactDecodeAll (l0 : List Int) (hw0 : l0.length ≤ 9223372036854775807 ∧ ∀ y_ ∈ l0, ((Lit.int .u8 y_).wf = true)) : ∃ k, laws_FnExactDecodeAll.f k l0 = some true := by
  have hu := wf8s hw0.2
  refine EvE ?_
  unfold laws_FnExactDecodeAll.f
  by_cases h : (l0.length : Int) > 1048576
  · simp only [if_pos h]; exact EvN
  · have hI := impl_decAll l0 hu
    have hS := spec_decAll l0 hu
    have hb := decAll_bd l0
    generalize decAllM l0 = r at hI hS hb
    obtain ⟨a, q⟩ := r
    simp only at hb
    obtain ⟨m, l', h1, h2, h3, h4⟩ := markByteS l0 (by omega) 1 (by omega) (by omega)
    obtain ⟨m2, a', h5, h6, h7⟩ := markRecordS 100 a (by omega) (by omega) (by omega) (fun y hy => by have := hb.2 y hy; omega)
    have hE := eqRecordS a (by omega) (fun y hy => by have := hb.2 y hy; omega)
    simp only [if_neg h, EvB (toByteS l0 (by omega)), EvB hS, EvB hI, EvB hE, if_true, EvB (eqByteS l0 (by omega)), EvB h1, if_neg (show ¬ m < 0 by omega), EvB h5, EvB h7, if_neg (show ¬ m2 < 0 by omega)]
    exact EvN
end Go.Proofs.Ytgdebfaoohjikaa.Pure

namespace Go.Proofs.Ytgdebfaoohjikaa.Opens
set_option linter.unusedVariables false
set_option linter.unusedSimpArgs false
open Go.RowKit Go.Proofs.YtgdebfaoohjikaaW.PrintWords
/-- What reads at type t is of kind d, and meets ok. -/
def Opens (P : Program) (t : TypeId) {α : Type} (d : Kd α) (ok : α → Prop) : Prop :=
  P.cellsOf t = d.sz ∧ ∀ (H : Type) (enc : TypeId × Value → H) (w : World) (spare : Nat → Bool) (fuel : Nat) (cs : List Value) (x : DataW H × List MemPlace), DataW.trod enc P w 0 spare true fuel t cs = some x → ∃ a : α, d.K w a cs ∧ ok a
variable {P : Program}
theorem opens_int {t : TypeId} {k : IntKind} (ht : P.underlying t = some (.int k)) (hc : P.cellsOf t = 1) : Opens P t (Kd.int k) (fun a => (Lit.int k a).wf = true) :=
  ⟨hc, fun _ _ _ _ _ _ _ h => by
    obtain ⟨n, rfl, _, hw⟩ := DataW.trod_int ht h
    exact ⟨n, rfl, hw⟩⟩
theorem opens_bool {t : TypeId} (ht : P.underlying t = some .bool) (hc : P.cellsOf t = 1) : Opens P t Kd.bool (fun _ => True) :=
  ⟨hc, fun _ _ _ _ _ _ _ h => by
    obtain ⟨n, rfl, _⟩ := DataW.trod_bool ht h
    exact ⟨n, rfl, trivial⟩⟩
theorem opens_string {t : TypeId} (ht : P.underlying t = some .string) (hc : P.cellsOf t = 1) : Opens P t Kd.string (fun a => a.size ≤ 9223372036854775807) :=
  ⟨hc, fun _ _ _ _ _ _ _ h => by
    obtain ⟨n, rfl, _, hw⟩ := DataW.trod_string ht h
    exact ⟨n, rfl, hw⟩⟩
theorem add_add (a : Addr) (i j : Nat) : (a.add i).add j = a.add (i + j) := by
  unfold Addr.add
  by_cases hi : i = 0 <;> by_cases hj : j = 0 <;> simp [hi, hj, Nat.add_assoc]
theorem opens_slice {t e : TypeId} {α : Type} {d : Kd α} {ok : α → Prop} (ht : P.underlying t = some (.slice e)) (hc : P.cellsOf t = 1) (hd : Opens P e d ok) :
    Opens P t (Kd.slice e d) (fun l => l.length ≤ 9223372036854775807 ∧ ∀ a ∈ l, ok a) :=
  ⟨hc, fun H enc w spare fuel cs x h => by
    rcases Deep.open_slice ht h with ⟨rfl, _⟩ | ⟨a, len, cap, m, n, D, Pl, rfl, _, hl, hm, hmm, hxx, hx⟩
    · exact ⟨[], ⟨none, 0, rfl, Nat.le_refl _, rfl, Nat.zero_le _, fun h => absurd h (Nat.lt_irrefl _)⟩, Nat.zero_le _, fun _ h => nomatch h⟩
    · have hlm : len ≤ m := by rw [hmm]; split <;> omega
      have hex : ∀ i, i < len → ∃ b : α, ∃ cs', w.cells? 0 (a.add (i * P.cellsOf e)) (P.cellsOf e) = some cs' ∧ d.K w b cs' ∧ ok b := fun i hi => by
        obtain ⟨cs', h1, h2⟩ := hx i (Nat.lt_of_lt_of_le hi hlm)
        obtain ⟨b, hb⟩ := hd.2 H enc w spare n cs' _ h2
        exact ⟨b, cs', h1, hb.1, hb.2⟩
      have hml : len ≤ 9223372036854775807 := by unfold maxLen at hm; omega
      obtain ⟨l, hll, hat⟩ : ∃ l : List α, l.length = len ∧ ∀ i p, l[i]? = some p → ∃ cs', w.cells? 0 (a.add (i * P.cellsOf e)) (P.cellsOf e) = some cs' ∧ d.K w p cs' ∧ ok p := by
        clear hx hlm hmm hl hm hml hxx h
        induction len with
        | zero => exact ⟨[], rfl, fun i p h => by simp at h⟩
        | succ len ih =>
          obtain ⟨l, hll, hat⟩ := ih (fun i hi => hex i (Nat.lt_succ_of_lt hi))
          obtain ⟨b, hb⟩ := hex len (Nat.lt_succ_self _)
          refine ⟨l ++ [b], by simp [hll], fun i p h => ?_⟩
          rcases Nat.lt_or_ge i l.length with hi | hi
          · rw [List.getElem?_append_left hi] at h
            exact hat i p h
          · rw [List.getElem?_append_right hi] at h
            have hi0 : i - l.length = 0 := by
              rcases Nat.eq_zero_or_pos (i - l.length) with h0 | h0
              · exact h0
              · rw [List.getElem?_eq_none (by simp; omega)] at h
                cases h
            rw [hi0] at h
            have : b = p := by simpa using h
            subst this
            have : i = len := by omega
            subst this
            exact hb
      subst hll
      refine ⟨l, ⟨some a, cap, rfl, hl, rfl, hml, fun _ => ⟨a, rfl, fun j p hj => ?_⟩⟩, hml, fun b hb => ?_⟩
      · obtain ⟨cs', h1, hk, _⟩ := hat j p hj
        obtain ⟨_, hlen, hcell⟩ := World.cells?_some h1
        refine ⟨cs', hlen.trans hd.1, hk, fun i u hu => ?_⟩
        have hi : i < P.cellsOf e := by
          have := (List.getElem?_eq_some_iff.1 hu).1
          omega
        have := hcell i hi
        rw [hu, add_add, hd.1] at this
        exact this
      · obtain ⟨i, hi⟩ := List.getElem?_of_mem hb
        obtain ⟨_, _, _, hok⟩ := hat i b hi
        exact hok⟩
/-- The fields of a struct from an offset on. -/
def OpensF (P : Program) (fs : List Field) (off : Nat) {α : Type} (d : Kd α) (ok : α → Prop) : Prop :=
  ∀ (H : Type) (enc : TypeId × Value → H) (w : World) (spare : Nat → Bool) (n : Nat) (cs : List Value), (∀ f, f ∈ fs → ∃ y, DataW.trod enc P w 0 spare true n f.type ((cs.drop f.offset).take (P.cellsOf f.type)) = some y) → cs.length = off + d.sz → ∃ a : α, d.K w a (cs.drop off) ∧ ok a
theorem opens_last {f : Field} {off : Nat} {α : Type} {d : Kd α} {ok : α → Prop} (ho : f.offset = off) (hd : Opens P f.type d ok) : OpensF P [f] off d ok := fun H enc w spare n cs hf hl => by
  obtain ⟨y, hy⟩ := hf f (List.mem_singleton.2 rfl)
  rw [ho, List.take_of_length_le (by rw [List.length_drop, hl, hd.1]; omega)] at hy
  exact hd.2 H enc w spare n _ y hy
theorem opens_field {f : Field} {fs : List Field} {off : Nat} {α β : Type} {d : Kd α} {d' : Kd β} {ok : α → Prop} {ok' : β → Prop} (ho : f.offset = off) (hd : Opens P f.type d ok) (hr : OpensF P fs (off + d.sz) d' ok') :
    OpensF P (f :: fs) off (Kd.pair d d') (fun p => ok p.1 ∧ ok' p.2) := fun H enc w spare n cs hf hl => by
  obtain ⟨y, hy⟩ := hf f (List.mem_cons_self ..)
  have hz : (Kd.pair d d').sz = d.sz + d'.sz := rfl
  rw [ho, hd.1] at hy
  obtain ⟨a, ha, hoa⟩ := hd.2 H enc w spare n _ y hy
  obtain ⟨b, hb, hob⟩ := hr H enc w spare n cs (fun g hg => hf g (List.mem_cons_of_mem _ hg)) (by omega)
  refine ⟨(a, b), ⟨(cs.drop off).take d.sz, cs.drop (off + d.sz), ?_, ha, hb⟩, hoa, hob⟩
  rw [← List.drop_drop, List.take_append_drop]
theorem opens_struct {t : TypeId} {fs : Array Field} {α : Type} {d : Kd α} {ok : α → Prop} (ht : P.underlying t = some (.struct fs)) (hc : P.cellsOf t = d.sz) (hf : OpensF P fs.toList 0 d ok) : Opens P t d ok :=
  ⟨hc, fun H enc w spare fuel cs x h => by
    obtain ⟨xs, n, _, _, hlen, hxs, hi⟩ := DataW.trod_struct ht h
    have := hf H enc w spare n cs (fun f hm => by
      obtain ⟨i, hi'⟩ := List.getElem?_of_mem hm
      have hq := hi i f (by simpa using hi')
      have hlt : i < xs.length := by
        have := (List.getElem?_eq_some_iff.1 hi').1
        rw [hxs]
        simpa using this
      rw [List.getElem?_eq_getElem hlt] at hq
      exact ⟨_, hq⟩) (by omega)
    simpa using this⟩
/-- The same over another type of values. -/
theorem opens_iso {t : TypeId} {α β : Type} {d : Kd α} {ok : α → Prop} (f : β → α) (g : α → β) (hfg : ∀ a, f (g a) = a) (h : Opens P t d ok) : Opens P t (Kd.iso d f) (fun b => ok (f b)) :=
  ⟨h.1, fun H enc w spare fuel cs x hx => by
    obtain ⟨a, ha, hok⟩ := h.2 H enc w spare fuel cs x hx
    exact ⟨g a, by show d.K w (f (g a)) cs; rw [hfg]; exact ha, by show ok (f (g a)); rw [hfg]; exact hok⟩⟩
theorem opens_imp {t : TypeId} {α : Type} {d : Kd α} {ok ok' : α → Prop} (h : Opens P t d ok) (hi : ∀ a, ok a → ok' a) : Opens P t d ok' :=
  ⟨h.1, fun H enc w spare fuel cs x hx => by
    obtain ⟨a, ha, hok⟩ := h.2 H enc w spare fuel cs x hx
    exact ⟨a, ha, hi a hok⟩⟩
end Go.Proofs.Ytgdebfaoohjikaa.Opens

namespace Go.Proofs.Ytgdebfaoohjikaa.fnExactDecodeAll
open Go.ChangeShapes Go.WideShapes Go.ChangeAt Go.RowKit
open Go.ChangeMaps (open_string shut_string)
open Go.Proofs.Ytgdebfaoohjikaa.Opens Go.Proofs.Ytgdebfaoohjikaa.F Go.Proofs.YtgdebfaoohjikaaW.PrintWords
set_option linter.unusedVariables false
theorem own : ownKnob Try.prog.godebug = none := by kernel_rfl
theorem laidOut : laidOutB Try.prog = true := by kernel_rfl
set_option maxHeartbeats 1000000 in
set_option maxRecDepth 100000 in
theorem lifted (os : Os) (started : os.Started) (H : Type) (enc : TypeId × Value → H) :
    ReturnsInHanded {} Try.checked os 11 .any (Rows.fnExactDecodeAllSpec.pre6 enc Try.prog Try.f11 Rows.fnExactDecodeAllRow.domain false) (Rows.fnExactDecodeAllSpec.post enc Try.prog Try.f11 false true false false) := by
  refine returnsInHanded_of_change_sized (C := Try.checked) own started (by kernel_rfl) Try.func11
    (ChangeSpec.witness6 (enc := enc) (C := Try.checked) false ⟨#[], #[.slice none 0 0], []⟩ 8 (by kernel_rfl) (by kernel_rfl) (by kernel_rfl) (by kernel_rfl)) ?_
  intro W base args ds gs before hval0 hW hcnd hsz0 _
  have hval : ∀ (j : Nat) t v, Try.f11.params[j]? = some t → args[j]? = some v → Value.okWide Try.prog W .any base t v := hval0
  have hW' := hW
  obtain ⟨p, q, hA0, hV, rfl, hfz, hnd⟩ := hW
  have hA : DataW.TrodAll enc Try.prog W 0 (fun _ => true) true Try.f11.params.toList args.toList ds p := hA0
  rw [Try.params11] at hA hval
  obtain ⟨v0, vs0, d0, ds0, p0, q0, hargs, rfl, rfl, h0, r0⟩ := trodAll_cons hA
  obtain ⟨rfl, rfl, rfl⟩ := trodAll_nil r0
  obtain rfl : args = #[v0] := by cases args; simp_all
  obtain ⟨rfl, rfl⟩ := trodVars_none hV
  obtain ⟨a0, len0, cap0, rfl⟩ := okWide_slice Try.underlying24 (hval 0 24 v0 rfl rfl)
  have k0 := h0
  have lt0 : ∀ x ∈ p0, x.block < W.heap.size := by obtain ⟨m, hm⟩ := k0; exact DataW.trod_lt m _ _ _ hm
  obtain ⟨fu0, hf0⟩ := h0
  obtain ⟨l0, ⟨A0, c0, hcs0, hc0, hr0⟩, hw0⟩ := ((opens_slice Try.underlying24 (by kernel_rfl) (opens_int Try.underlying5 (by kernel_rfl)))).2 _ _ _ _ _ _ _ hf0
  simp [Value.cells] at hcs0
  obtain ⟨rfl, rfl, rfl⟩ := hcs0
  clear hA0 hval0 hsz0
  obtain ⟨k, h⟩ := (Pure.FnExactDecodeAll : _) l0 hw0
  refine (laws_FnExactDecodeAll.calls k _ _ l0 true W hr0 hc0 h).mono fun e W' ⟨he, bel⟩ => ?_
  subst he
  exact ⟨_, rfl, _, _, _, [], _, [], hW', trodAll_mk1 (shut_bool Try.underlying4 _), (trodAll_cons_mk (Below.trod laidOut (by kernel_rfl) (of_decide_eq_true (by kernel_rfl)) k0 bel lt0) trodAll_mk0), rfl, bel.frame _, fun h => by cases h⟩
theorem over : Rows.fnExactDecodeAllRow.holds Try.pinned (OpenSpec.ofChange Rows.fnExactDecodeAllSpec) :=
  OpenClaim.holds_of_wide 11 Try.f11 rfl rfl rfl rfl rfl rfl rfl ⟨rfl, rfl, rfl, rfl, rfl⟩ rfl rfl rfl rfl rfl (by kernel_rfl) Try.func11 (by kernel_rfl)
    (of_decide_eq_true (by kernel_rfl)) (by unfold Func.isWrapper; first | (rw [if_pos (by decide +kernel)]; kernel_rfl) | (rw [if_neg (by decide +kernel)]; exact ⟨rfl, rfl⟩))
    (fun os started H enc _ => lifted os started H enc)
theorem proved : Rows.FnExactDecodeAllSaid := over
#print axioms proved
end Go.Proofs.Ytgdebfaoohjikaa.fnExactDecodeAll
namespace Go.Proofs.Ytgdebfaoohjikaa
/-- The row, under a short name, for the claim. -/
theorem fnExactDecodeAll_holds : Rows.FnExactDecodeAllSaid := fnExactDecodeAll.proved
end Go.Proofs.Ytgdebfaoohjikaa
