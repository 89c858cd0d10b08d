/- Merged texts below the law FnAppended: Go functions as Lean functions, their contracts, and plain lemmas. -/
import Derived.Test.YtalbkbmnjpameaaVFnAppendedMore
import Derived.Test.YtalbkbmnjpameaaQFnAppended22
import Derived.Test.YtalbkbmnjpameaaQFnAppended24
import Derived.Test.YtalbkbmnjpameaaQFnAppended25
import Derived.Test.YtalbkbmnjpameaaQFnAppended23
import Derived.Test.YtalbkbmnjpameaaQFnAppended26
namespace Go.Proofs.Ytalbkbmnjpameaa.PK
set_option linter.unusedVariables false
set_option linter.unusedSimpArgs false
open Go.RowKit Go.Proofs.YtalbkbmnjpameaaW.PrintWords
theorem EvS {α : Type} {g : Nat → Option α} {r : α} (h : Ev (fun k => g (k + 1)) r) : Ev g r := by
  obtain ⟨K, h⟩ := h
  refine ⟨K + 1, fun k hk => ?_⟩
  obtain ⟨m, rfl⟩ : ∃ m, k = m + 1 := ⟨k - 1, by omega⟩
  exact h m (by omega)
theorem EvB {α β : Type} {g : Nat → Option α} {f : Nat → α → Option β} {a : α} {r : β} (h : Ev g a) : Ev (fun k => (g k).bind (f k)) r ↔ Ev (fun k => f k a) r := by
  obtain ⟨K, h⟩ := h
  constructor
  · rintro ⟨K', h'⟩
    refine ⟨max K K', fun k hk => ?_⟩
    have h2 : (g k).bind (f k) = some r := h' k (by omega)
    rw [h k (by omega)] at h2
    exact h2
  rintro ⟨K', h'⟩
  refine ⟨max K K', fun k hk => ?_⟩
  show (g k).bind (f k) = some r
  rw [h k (by omega)]
  exact h' k (by omega)
theorem EvN {α : Type} {r : α} : Ev (fun _ => some r) r := ⟨0, fun _ _ => rfl⟩
theorem EvE {α : Type} {g : Nat → Option α} {r : α} (h : Ev g r) : ∃ k, g k = some r := h.rounds
theorem w64 {x : Int} (h : -9223372036854775808 ≤ x) (h' : x ≤ 9223372036854775807) : wrap64 x = x := by
  unfold wrap64
  omega
theorem up {P : Int → Prop} (n : Nat) (base : P n) (step : ∀ i : Nat, i < n → P ((i + 1 : Nat) : Int) → P (i : Int)) : ∀ i : Nat, i ≤ n → P (i : Int) := by
  intro i hi
  obtain ⟨d, hd⟩ : ∃ d, d + i = n := ⟨n - i, by omega⟩
  induction d generalizing i with
  | zero => have : i = n := by omega
            subst this
            exact base
  | succ d ih => exact step i (by omega) (ih (i + 1) (by omega) (by omega))
theorem getD_nat {α : Type} (l : List α) (z : α) (i : Nat) (h : i < l.length) : l.getD ((i : Int).toNat) z = l[i] := by
  simp [List.getD_eq_getElem?_getD, List.getElem?_eq_getElem h]
theorem drop_at {α : Type} (l : List α) (i : Nat) (h : i < l.length) : l.drop i = l[i] :: l.drop (i + 1) := List.drop_eq_getElem_cons h
end Go.Proofs.Ytalbkbmnjpameaa.PK

namespace Go.Proofs.Ytalbkbmnjpameaa.F
open Go.RowKit Go.Proofs.YtalbkbmnjpameaaW.PrintWords Go.Proofs.YtalbkbmnjpameaaW.PrintWords.Kd Go.Proofs.YtalbkbmnjpameaaW.PrintMore.Kd Go.Proofs.YtalbkbmnjpameaaW.PrintLast Go.Proofs.YtalbkbmnjpameaaW.PrintMore
attribute [local go_sem] max2_int min2_int max_two min_two max_three min_three max_four min_four   -- for this text's walks alone
set_option linter.unusedVariables false
set_option linter.unusedSimpArgs false
end Go.Proofs.Ytalbkbmnjpameaa.F

namespace Go.Proofs.Ytalbkbmnjpameaa.RL
set_option linter.unusedVariables false
set_option linter.unusedSimpArgs false
open Go.RowKit Go.Proofs.Ytalbkbmnjpameaa.F Go.Proofs.Ytalbkbmnjpameaa.PK Go.Proofs.YtalbkbmnjpameaaW.PrintWords Go.Proofs.YtalbkbmnjpameaaW.PrintLast
theorem rd54 (l : List S54) (i : Nat) (h : i < l.length) : rd_T54 l (i : Int) = l[i] := getD_nat l _ i h
theorem nxt (i n : Nat) (h : i < n) (hn : n ≤ 9223372036854775807) : wrap64 ((i : Int) + 1) = ((i + 1 : Nat) : Int) := by rw [w64 (by omega) (by omega)]; omega
def okE (e : S54) : Bool := decide (1 ≤ e.f0 ∧ e.f0 ≤ 1000000 ∧ (e.f1.size : Int) ≤ 40)
def okL : Int → List S54 → Bool
  | _, [] => true
  | b, e :: r => okE e && decide (b ≤ e.f0) && okL e.f0 r
def okHead (a b : Int) (n : Nat) : Bool := decide (0 ≤ a ∧ a ≤ 1000000 ∧ 0 ≤ b ∧ b ≤ 1000000 ∧ (a = 0 ↔ b = 0) ∧ n ≤ 60)
def okR (a b : Int) (l : List S54) : Bool := okHead a b l.length && okL b l
theorem specEntry (e : S54) : spec_l05Entry.f e.f0 e.f1 = some (okE e) := by
  unfold spec_l05Entry.f spec_l01In.f okE
  by_cases h1 : 1 ≤ e.f0
  · by_cases h2 : e.f0 ≤ 1000000
    · simp [h1, h2]
    simp [h1, h2]
  simp [h1]
theorem implEntry (e : S54) : impl_isEntry.f e.f0 e.f1 = some (okE e) := by
  unfold impl_isEntry.f okE
  by_cases h1 : 1 ≤ e.f0
  · by_cases h2 : e.f0 ≤ 1000000
    · simp [h2, show e.f0 > 0 by omega, h1]
    simp [h2, show e.f0 > 0 by omega, h1]
  simp [show ¬ e.f0 > 0 by omega, h1]
theorem specLoop (a b' : Int) (l : List S54) (hl : l.length ≤ 9223372036854775807) : ∀ i : Nat, i ≤ l.length → ∀ b, Ev (fun k => spec_RLogOk.l0 k b i a b' l) (okL b (l.drop i)) :=
  up (P := fun i => ∀ b, Ev (fun k => spec_RLogOk.l0 k b i a b' l) (okL b (l.drop i.toNat))) l.length
    (fun b => EvS (by simp only [spec_RLogOk.l0, Int.lt_irrefl, if_false, Int.toNat_natCast, List.drop_length, okL]; exact EvN))
    (fun i hi ih b => EvS (by
      simp only [spec_RLogOk.l0, if_pos (show (i : Int) < (l.length : Int) by omega), if_pos (show 0 ≤ (i : Int) by omega), rd54 l i hi, specEntry, Option.bind_some, nxt i _ hi hl, Int.toNat_natCast, drop_at l i hi, okL]
      cases h : okE l[i] with
      | false => simp only [Bool.false_eq_true, if_false, Bool.false_and]; exact EvN
      | true =>
        by_cases h2 : l[i].f0 < b
        · simp only [if_true, if_pos h2, decide_eq_false (show ¬ b ≤ l[i].f0 by omega), Bool.and_false, Bool.false_and]; exact EvN
        simp only [if_true, if_neg h2, decide_eq_true (show b ≤ l[i].f0 by omega), Bool.and_self, Bool.true_and]; exact ih _))
theorem implLoop (l : List S54) (hl : l.length ≤ 9223372036854775807) : ∀ i : Nat, i ≤ l.length → ∀ b, Ev (fun k => impl_isRLog.l0 k b l (l.length : Int) i) (okL b (l.drop i)) :=
  up (P := fun i => ∀ b, Ev (fun k => impl_isRLog.l0 k b l (l.length : Int) i) (okL b (l.drop i.toNat))) l.length
    (fun b => EvS (by simp only [impl_isRLog.l0, Int.lt_irrefl, if_false, Int.toNat_natCast, List.drop_length, okL]; exact EvN))
    (fun i hi ih b => EvS (by
      simp only [impl_isRLog.l0, if_pos (show (i : Int) < (l.length : Int) by omega), if_pos (show 0 ≤ (i : Int) by omega), rd54 l i hi, implEntry, Option.bind_some, nxt i _ hi hl, Int.toNat_natCast, drop_at l i hi, okL]
      cases h : okE l[i] with
      | false => simp only [Bool.false_eq_true, if_false, Bool.false_and]; exact EvN
      | true =>
        by_cases h2 : l[i].f0 < b
        · simp only [if_true, if_pos h2, decide_eq_false (show ¬ b ≤ l[i].f0 by omega), Bool.and_false, Bool.false_and]; exact EvN
        simp only [if_true, if_neg h2, decide_eq_true (show b ≤ l[i].f0 by omega), Bool.and_self, Bool.true_and]; exact ih _))
theorem specOkJ (a b : Int) (l : List S54) (hl : l.length ≤ 9223372036854775807) (x : Bool) : Ev (fun k => spec_RLogOk.j0 k x a b l) (!x && okL b l) := by
  refine EvS ?_
  cases x with
  | true => simp only [spec_RLogOk.j0, if_true, Bool.not_true, Bool.false_and]; exact EvN
  | false => simp only [spec_RLogOk.j0, Bool.false_eq_true, if_false, Bool.not_false, Bool.true_and]; exact specLoop a b l hl 0 (Nat.zero_le _) b
theorem implOkJ (a b : Int) (l : List S54) (hl : l.length ≤ 9223372036854775807) (x : Bool) : Ev (fun k => impl_isRLog.j0 k x a b l) (!x && okL b l) := by
  refine EvS ?_
  cases x with
  | true => simp only [impl_isRLog.j0, if_true, Bool.not_true, Bool.false_and]; exact EvN
  | false => simp only [impl_isRLog.j0, Bool.false_eq_true, if_false, Bool.not_false, Bool.true_and]; exact implLoop l hl 0 (Nat.zero_le _) b
theorem EvQ {α : Type} {g : Nat → Option α} {r s : α} (h : Ev g r) (e : r = s) : Ev g s := e ▸ h
theorem specIn (x lo hi : Int) : spec_l01In.f x lo hi = some (decide (lo ≤ x ∧ x ≤ hi)) := by
  unfold spec_l01In.f
  by_cases h : lo ≤ x <;> simp [h]
theorem spec_ok (a b : Int) (l : List S54) (hl : l.length ≤ 9223372036854775807) : Ev (fun k => spec_RLogOk.f k a b l) (okR a b l) := by
  unfold spec_RLogOk.f
  simp only [specIn, Option.bind_some, decide_eq_true_eq]
  have J := specOkJ a b l hl
  unfold okR okHead
  by_cases h1 : 0 ≤ a ∧ a ≤ 1000000
  · by_cases h2 : 0 ≤ b ∧ b ≤ 1000000
    · simp only [if_pos h1, if_pos h2]
      cases hx : ((a == 0) != (b == 0)) with
      | true =>
        simp only [if_true]
        refine EvQ (J _) ?_
        have : ¬ (a = 0 ↔ b = 0) := fun e => by rw [bne_iff_ne] at hx; exact hx (Bool.eq_iff_iff.2 (by simpa using e))
        simp [this]
      | false =>
        simp only [Bool.false_eq_true, if_false]
        refine EvQ (J _) ?_
        have : (a = 0 ↔ b = 0) := by rw [bne_eq_false_iff_eq] at hx; simpa using Bool.eq_iff_iff.1 hx
        by_cases h5 : l.length ≤ 60
        · simp [this, h1, h2, h5, show ¬ (60 < (l.length : Int)) by omega]
        simp [this, h1, h2, h5, show (60 < (l.length : Int)) by omega]
    simp only [if_pos h1, if_neg h2]
    exact EvQ (J _) (by simp; omega)
  simp only [if_neg h1]
  exact EvQ (J _) (by simp; omega)
theorem impl_ok (a b : Int) (l : List S54) (hl : l.length ≤ 9223372036854775807) : Ev (fun k => impl_isRLog.f k a b l) (okR a b l) := by
  unfold impl_isRLog.f
  have J := implOkJ a b l hl
  unfold okR okHead
  by_cases h1 : a < 0
  · simp only [if_pos h1]; exact EvQ (J _) (by simp; omega)
  by_cases h2 : a > 1000000
  · simp only [if_neg h1, if_pos h2]; exact EvQ (J _) (by simp; omega)
  by_cases h3 : b < 0
  · simp only [if_neg h1, if_neg h2, if_pos h3]; exact EvQ (J _) (by simp; omega)
  by_cases h4 : b > 1000000
  · simp only [if_neg h1, if_neg h2, if_neg h3, if_pos h4]; exact EvQ (J _) (by simp; omega)
  simp only [if_neg h1, if_neg h2, if_neg h3, if_neg h4]
  cases hx : ((b == 0) != (a == 0)) with
  | true =>
    simp only [if_true]
    refine EvQ (J _) ?_
    have : ¬ (a = 0 ↔ b = 0) := fun e => by rw [bne_iff_ne] at hx; exact hx (Bool.eq_iff_iff.2 (by simpa using e.symm))
    simp [this]
  | false =>
    simp only [Bool.false_eq_true, if_false]
    refine EvQ (J _) ?_
    have : (a = 0 ↔ b = 0) := by rw [bne_eq_false_iff_eq] at hx; simpa using (Bool.eq_iff_iff.1 hx).symm
    have e1 : 0 ≤ a := by omega
    have e2 : a ≤ 1000000 := by omega
    have e3 : 0 ≤ b := by omega
    have e4 : b ≤ 1000000 := by omega
    by_cases h5 : l.length ≤ 60
    · simp [this, e1, e2, e3, e4, h5, show ¬ (60 < (l.length : Int)) by omega]
    simp [this, e1, e2, e3, e4, h5, show (60 < (l.length : Int)) by omega]
theorem okR_bd {a b : Int} {l : List S54} (h : okR a b l = true) : 0 ≤ a ∧ a ≤ 1000000 ∧ 0 ≤ b ∧ b ≤ 1000000 ∧ l.length ≤ 60 := by
  simp only [okR, okHead, Bool.and_eq_true, decide_eq_true_eq] at h
  omega
def lastM (a : Int) (l : List S54) : Int := a + (l.length : Int)
def termM (a b : Int) (l : List S54) (i : Int) : Int := if i = a then b else (rd_T54 l (i - a - 1)).f0
theorem last_eq {a b : Int} {l : List S54} (h : okR a b l = true) : wrap64 (a + (l.length : Int)) = lastM a l := by
  have := okR_bd h
  exact w64 (by omega) (by omega)
theorem spec_last (a b : Int) (l : List S54) (hl : l.length ≤ 9223372036854775807) : Ev (fun k => spec_LastIndex.f k a b l) (if okR a b l = true then lastM a l else -1) := by
  unfold spec_LastIndex.f
  simp only [EvB (spec_ok a b l hl)]
  by_cases h : okR a b l = true
  · simp only [if_pos h, last_eq h]; exact EvN
  simp only [if_neg h]; exact EvN
theorem impl_last (a b : Int) (l : List S54) (hl : l.length ≤ 9223372036854775807) : Ev (fun k => impl_LastIndex.f k a b l) (if okR a b l = true then lastM a l else -1) := by
  unfold impl_LastIndex.f impl_RLog_last.f
  simp only [EvB (impl_ok a b l hl), Option.bind_some]
  by_cases h : okR a b l = true
  · simp only [if_pos h, last_eq h]; exact EvN
  simp only [if_neg h]; exact EvN
def inL (a : Int) (l : List S54) (i : Int) : Prop := a ≤ i ∧ i ≤ lastM a l
instance (a : Int) (l : List S54) (i : Int) : Decidable (inL a l i) := by unfold inL; infer_instance
theorem idx_eq {a b i : Int} {l : List S54} (h : okR a b l = true) (hi : inL a l i) (hn : ¬ i = a) : wrap64 (wrap64 (i - a) - 1) = i - a - 1 ∧ 0 ≤ i - a - 1 ∧ i - a - 1 < (l.length : Int) := by
  have := okR_bd h
  unfold inL lastM at hi
  rw [w64 (x := i - a) (by omega) (by omega), w64 (by omega) (by omega)]
  omega
theorem impl_term {a b i : Int} {l : List S54} (h : okR a b l = true) (hi : inL a l i) : impl_RLog_term.f a b l i = some (termM a b l i) := by
  unfold impl_RLog_term.f termM
  by_cases hn : i = a
  · simp only [if_pos hn]
  obtain ⟨e, h0, h1⟩ := idx_eq h hi hn
  simp only [if_neg hn, e, if_pos h0, if_pos h1]
def termR (a b : Int) (l : List S54) (i : Int) : Int := if okR a b l = true ∧ inL a l i then termM a b l i else -1
theorem spec_term (a b : Int) (l : List S54) (i : Int) (hl : l.length ≤ 9223372036854775807) : Ev (fun k => spec_TermAt.f k a b l i) (termR a b l i) := by
  unfold spec_TermAt.f termR
  simp only [EvB (spec_ok a b l hl)]
  by_cases h : okR a b l = true
  · simp only [if_pos h, specIn, Option.bind_some, last_eq h]
    refine EvS ?_
    by_cases hi : inL a l i
    · simp only [spec_TermAt.j0, h, hi, and_self, if_true, decide_eq_true (show a ≤ i ∧ i ≤ lastM a l from hi), Bool.not_true, Bool.false_eq_true, if_false]
      unfold termM
      by_cases hn : i = a
      · simp only [if_pos hn]; exact EvN
      obtain ⟨e, h0, h1⟩ := idx_eq h hi hn
      simp only [if_neg hn, e, if_pos h0, if_pos h1]; exact EvN
    simp only [spec_TermAt.j0, hi, and_false, if_false, decide_eq_false (show ¬ (a ≤ i ∧ i ≤ lastM a l) from hi), Bool.not_false, if_true]
    exact EvN
  simp only [if_neg h, h, false_and, if_false]
  refine EvS ?_
  simp only [spec_TermAt.j0, if_true]
  exact EvN
theorem impl_termAt (a b : Int) (l : List S54) (i : Int) (hl : l.length ≤ 9223372036854775807) : Ev (fun k => impl_TermAt.f k a b l i) (termR a b l i) := by
  unfold impl_TermAt.f termR impl_RLog_last.f
  simp only [EvB (impl_ok a b l hl), Option.bind_some]
  by_cases h : okR a b l = true
  · simp only [if_pos h, last_eq h]
    by_cases h1 : i < a
    · have hi : ¬ inL a l i := fun hi => by unfold inL at hi; omega
      simp only [if_pos h1, hi, and_false, if_false]; exact EvN
    by_cases h2 : i > lastM a l
    · have hi : ¬ inL a l i := fun hi => by unfold inL at hi; omega
      simp only [if_neg h1, if_pos h2, hi, and_false, if_false]; exact EvN
    have hi : inL a l i := by unfold inL; omega
    simp only [if_neg h1, if_neg h2, impl_term h hi, Option.bind_some, h, hi, and_self, if_true]; exact EvN
  simp only [if_neg h, h, false_and, if_false]; exact EvN
theorem in_last {a b : Int} {l : List S54} (h : okR a b l = true) : inL a l (lastM a l) := by
  unfold inL lastM
  omega
theorem okL_mem : ∀ (l : List S54) (b : Int), okL b l = true → ∀ e ∈ l, okE e = true := by
  intro l
  induction l with
  | nil => intro b _ e he; cases he
  | cons x r ih =>
    intro b h e he
    simp only [okL, Bool.and_eq_true] at h
    cases he with
    | head => exact h.1.1
    | tail _ he => exact ih _ h.2 e he
theorem okR_mem {a b : Int} {l : List S54} (h : okR a b l = true) : ∀ e ∈ l, 1 ≤ e.f0 ∧ e.f0 ≤ 1000000 ∧ (e.f1.size : Int) ≤ 40 := by
  intro e he
  simp only [okR, Bool.and_eq_true] at h
  simpa [okE] using okL_mem l b h.2 e he
theorem term_bd {a b i : Int} {l : List S54} (h : okR a b l = true) (hi : inL a l i) : 0 ≤ termM a b l i ∧ termM a b l i ≤ 1000000 := by
  have hb := okR_bd h
  unfold termM
  by_cases hn : i = a
  · simp only [if_pos hn]; omega
  obtain ⟨_, h0, h1⟩ := idx_eq h hi hn
  simp only [if_neg hn]
  have hj : (i - a - 1).toNat < l.length := by omega
  have e := rd54 l (i - a - 1).toNat hj
  rw [Int.toNat_of_nonneg h0] at e
  rw [e]
  have := okR_mem h _ (List.getElem_mem hj)
  omega
end Go.Proofs.Ytalbkbmnjpameaa.RL

namespace Go.Proofs.Ytalbkbmnjpameaa.F
open Go.RowKit Go.Proofs.YtalbkbmnjpameaaW.PrintWords Go.Proofs.YtalbkbmnjpameaaW.PrintWords.Kd Go.Proofs.YtalbkbmnjpameaaW.PrintMore.Kd Go.Proofs.YtalbkbmnjpameaaW.PrintLast Go.Proofs.YtalbkbmnjpameaaW.PrintMore
attribute [local go_sem] max2_int min2_int max_two min_two max_three min_three max_four min_four   -- for this text's walks alone
set_option linter.unusedVariables false
set_option linter.unusedSimpArgs false
end Go.Proofs.Ytalbkbmnjpameaa.F

namespace Go.Proofs.Ytalbkbmnjpameaa.RL
set_option linter.unusedVariables false
set_option linter.unusedSimpArgs false
open Go.RowKit Go.Proofs.Ytalbkbmnjpameaa.F Go.Proofs.Ytalbkbmnjpameaa.PK Go.Proofs.YtalbkbmnjpameaaW.PrintWords Go.Proofs.YtalbkbmnjpameaaW.PrintLast
def agM (p : Nat → Bool) : Nat → Int
  | 0 => -1
  | n + 1 => if p n = true then (n : Int) else agM p n
theorem agM_skip (p : Nat → Bool) (m : Nat) : ∀ n, m ≤ n → (∀ j, m ≤ j → j < n → p j = false) → agM p n = agM p m := by
  intro n
  induction n with
  | zero => intro h _; have : m = 0 := by omega
            rw [this]
  | succ n ih =>
    intro h hp
    by_cases e : m = n + 1
    · rw [e]
    have := hp n (by omega) (by omega)
    simp only [agM, this, Bool.false_eq_true, if_false]
    exact ih (by omega) fun j h1 h2 => hp j h1 (by omega)
def agP (a b : Int) (l : List S54) (c d : Int) (m : List S54) (i : Nat) : Bool := decide (inL a l i ∧ inL c m i ∧ termM a b l i = termM c d m i)
def agR (a b : Int) (l : List S54) (c d : Int) (m : List S54) : Int := if okR a b l = true ∧ okR c d m = true then agM (agP a b l c d m) ((lastM a l).toNat + 1) else -1
theorem ag_none {a b c d : Int} {l m : List S54} (n : Nat) (h : (n : Int) ≤ a ∨ (n : Int) ≤ c) : agM (agP a b l c d m) n = -1 := by
  rw [agM_skip (agP a b l c d m) 0 n (Nat.zero_le _) fun j _ hj => by
    unfold agP inL
    apply decide_eq_false
    omega]
  rfl
theorem implAg {a b c d : Int} {l m : List S54} (h : okR a b l = true) (h' : okR c d m = true) :
    ∀ n : Nat, (n : Int) ≤ lastM a l + 1 → (n : Int) ≤ lastM c m + 1 → Ev (fun k => impl_Agree.l0 k ((n : Int) - 1) a b l c d m) (agM (agP a b l c d m) n) := by
  intro n
  have hb := okR_bd h
  have hb' := okR_bd h'
  induction n with
  | zero =>
    intro _ _
    refine EvS ?_
    simp only [impl_Agree.l0, if_neg (show ¬ ((0 : Nat) : Int) - 1 ≥ mx a c by unfold mx; split <;> omega), agM]
    exact EvN
  | succ n ih =>
    intro hn hn'
    have e : ((n + 1 : Nat) : Int) - 1 = n := by omega
    rw [e]
    have ih := ih (by omega) (by omega)
    have hL : (n : Int) ≤ 2000000 := by unfold lastM at hn; omega
    refine EvS ?_
    by_cases hc : (n : Int) ≥ mx a c
    · have hc1 : (n : Int) ≥ a ∧ (n : Int) ≥ c := by unfold mx at hc; split at hc <;> omega
      have hin : inL a l n := by unfold inL; omega
      have hi : inL c m n := by unfold inL; omega
      simp only [impl_Agree.l0, if_pos hc, impl_term h hin, impl_term h' hi, Option.bind_some]
      by_cases ht : termM a b l n = termM c d m n
      · simp only [if_pos ht, agM, agP, hin, hi, ht, and_self, decide_true, if_true]
        exact EvN
      simp only [if_neg ht, agM, agP, hin, hi, ht, and_false, decide_false, Bool.false_eq_true, if_false, w64 (show -9223372036854775808 ≤ (n : Int) - 1 by omega) (show (n : Int) - 1 ≤ 9223372036854775807 by omega)]
      exact ih
    have hc1 : (n : Int) + 1 ≤ a ∨ (n : Int) + 1 ≤ c := by unfold mx at hc; split at hc <;> omega
    simp only [impl_Agree.l0, if_neg hc]
    rw [ag_none (n + 1) (by omega)]
    exact EvN
theorem impl_ag (a b : Int) (l : List S54) (c d : Int) (m : List S54) (hl : l.length ≤ 9223372036854775807) (hm : m.length ≤ 9223372036854775807) : Ev (fun k => impl_Agree.f k a b l c d m) (agR a b l c d m) := by
  unfold impl_Agree.f agR
  simp only [EvB (impl_ok a b l hl)]
  by_cases h : okR a b l = true
  · have hb := okR_bd h
    simp only [h, if_true, true_and, EvB (impl_ok c d m hm)]
    by_cases h' : okR c d m = true
    · have hb' := okR_bd h'
      simp only [h', if_true]
      refine EvS ?_
      simp only [impl_Agree.j0, impl_RLog_last.f, Bool.not_true, Bool.false_eq_true, if_false, Option.bind_some, last_eq h, last_eq h']
      have hq : (mn (lastM a l) (lastM c m)) = (((mn (lastM a l) (lastM c m)).toNat + 1 : Nat) : Int) - 1 := by unfold mn lastM; split <;> omega
      have := implAg h h' ((mn (lastM a l) (lastM c m)).toNat + 1) (by unfold mn lastM; split <;> omega) (by unfold mn lastM; split <;> omega)
      rw [← hq] at this
      rw [agM_skip (agP a b l c d m) ((mn (lastM a l) (lastM c m)).toNat + 1) ((lastM a l).toNat + 1) (by unfold mn lastM; split <;> omega) fun j h1 h2 => by
        apply decide_eq_false
        unfold inL
        unfold mn lastM at *
        split at h1 <;> omega]
      exact this
    simp only [Bool.eq_false_iff.2 h', Bool.false_eq_true, if_false]
    refine EvS ?_
    simp only [impl_Agree.j0, Bool.not_false, if_true]
    exact EvN
  simp only [Bool.eq_false_iff.2 h, Bool.false_eq_true, if_false, false_and]
  refine EvS ?_
  simp only [impl_Agree.j0, if_true]
  exact EvN
end Go.Proofs.Ytalbkbmnjpameaa.RL

namespace Go.Proofs.Ytalbkbmnjpameaa.F
open Go.RowKit Go.Proofs.YtalbkbmnjpameaaW.PrintWords Go.Proofs.YtalbkbmnjpameaaW.PrintWords.Kd Go.Proofs.YtalbkbmnjpameaaW.PrintMore.Kd Go.Proofs.YtalbkbmnjpameaaW.PrintLast Go.Proofs.YtalbkbmnjpameaaW.PrintMore
attribute [local go_sem] max2_int min2_int max_two min_two max_three min_three max_four min_four   -- for this text's walks alone
set_option linter.unusedVariables false
set_option linter.unusedSimpArgs false
end Go.Proofs.Ytalbkbmnjpameaa.F

namespace Go.Proofs.Ytalbkbmnjpameaa.RL
set_option linter.unusedVariables false
set_option linter.unusedSimpArgs false
open Go.RowKit Go.Proofs.Ytalbkbmnjpameaa.F Go.Proofs.Ytalbkbmnjpameaa.PK Go.Proofs.YtalbkbmnjpameaaW.PrintWords Go.Proofs.YtalbkbmnjpameaaW.PrintLast
def upM (a b : Int) (l : List S54) (t i : Int) : Bool := okR a b l && (decide (t > termM a b l (lastM a l)) || (decide (t = termM a b l (lastM a l)) && decide (i ≥ lastM a l)))
theorem impl_up (a b : Int) (l : List S54) (t i : Int) (hl : l.length ≤ 9223372036854775807) : Ev (fun k => impl_UpToDate.f k a b l t i) (upM a b l t i) := by
  unfold impl_UpToDate.f upM impl_RLog_last.f
  simp only [EvB (impl_ok a b l hl), Option.bind_some]
  by_cases h : okR a b l = true
  · simp only [h, if_true, last_eq h, impl_term h (in_last h), Option.bind_some, Bool.true_and]
    by_cases h1 : t > termM a b l (lastM a l)
    · simp only [if_pos h1, decide_eq_true h1, Bool.true_or]; exact EvN
    by_cases h2 : t = termM a b l (lastM a l)
    · simp only [if_neg h1, if_pos h2, decide_eq_false h1, decide_eq_true h2, Bool.false_or, Bool.true_and]; exact EvN
    simp only [if_neg h1, if_neg h2, decide_eq_false h1, decide_eq_false h2, Bool.false_or, Bool.false_and]; exact EvN
  simp only [Bool.eq_false_iff.2 h, Bool.false_eq_true, if_false, Bool.false_and]; exact EvN
def tailR (a b : Int) (l : List S54) (i n : Int) : List S54 := if okR a b l = true ∧ a + 1 ≤ i ∧ i ≤ lastM a l ∧ 1 ≤ n then (l.drop (i - a - 1).toNat).take n.toNat else []
theorem impl_tail (a b : Int) (l : List S54) (i n : Int) (hl : l.length ≤ 1000000000) : Ev (fun k => impl_TailOf.f k a b l i n) (tailR a b l i n) := by
  unfold impl_TailOf.f tailR
  simp only [EvB (impl_ok a b l (by omega)), impl_RLog_last.f, Option.bind_some]
  by_cases h : okR a b l = true
  · have hb := okR_bd h
    simp only [if_pos h, last_eq h, h, true_and]
    by_cases h1 : i ≤ a
    · simp only [if_pos h1, if_neg (show ¬ (a + 1 ≤ i ∧ i ≤ lastM a l ∧ 1 ≤ n) by omega)]; exact EvN
    by_cases h2 : i > lastM a l
    · simp only [if_neg h1, if_pos h2, if_neg (show ¬ (a + 1 ≤ i ∧ i ≤ lastM a l ∧ 1 ≤ n) by omega)]; exact EvN
    by_cases h3 : n < 1
    · simp only [if_neg h1, if_neg h2, if_pos h3, if_neg (show ¬ (a + 1 ≤ i ∧ i ≤ lastM a l ∧ 1 ≤ n) by omega)]; exact EvN
    simp only [if_neg h1, if_neg h2, if_neg h3, if_pos (show (a + 1 ≤ i ∧ i ≤ lastM a l ∧ 1 ≤ n) by omega)]
    obtain ⟨e, h0, hx⟩ := idx_eq h (i := i) (show inL a l i by unfold inL; omega) (by omega)
    have hm0 : 0 ≤ mn n ((l.drop (i - a - 1).toNat).length : Int) := by unfold mn; split <;> omega
    have hm1 : mn n ((l.drop (i - a - 1).toNat).length : Int) ≤ ((l.drop (i - a - 1).toNat).length : Int) := by unfold mn; split <;> omega
    have hd : (l.drop (i - a - 1).toNat).length ≤ 60 := by rw [List.length_drop]; omega
    have hS : (([] : List S54).length + ((l.drop (i - a - 1).toNat).take (mn n ((l.drop (i - a - 1).toNat).length : Int)).toNat).length < 5864062014805) = True := eq_true (by simp only [List.length_nil, List.length_take]; omega)
    simp only [impl_RLog_tail.f, e, if_pos h0, if_pos (show i - a - 1 ≤ (l.length : Int) by omega), Option.bind_some, if_pos hm0, if_pos hm1, hS, if_true, List.nil_append]
    have hq : (l.drop (i - a - 1).toNat).take (mn n ((l.drop (i - a - 1).toNat).length : Int)).toNat = (l.drop (i - a - 1).toNat).take n.toNat := by
      unfold mn
      split
      · rw [Int.toNat_natCast, List.take_length, List.take_of_length_le (by omega)]
      rfl
    rw [hq]
    exact EvN
  simp only [if_neg h, h, false_and, if_false]; exact EvN
theorem specTail (a b n : Int) (l : List S54) (hl : l.length ≤ 1000000000) (hn : 1 ≤ n) (s : Nat) :
    ∀ i : Nat, i ≤ l.length → ∀ x : List S54, x.length ≤ i → Ev (fun k => spec_TailOf.l0 k n x i a b l) (x ++ (l.drop i).take (n.toNat - x.length)) :=
  fun i hi x hx => up (P := fun i => ∀ x : List S54, (x.length : Int) ≤ i → Ev (fun k => spec_TailOf.l0 k n x i a b l) (x ++ (l.drop i.toNat).take (n.toNat - x.length))) l.length
    (fun x hx => EvS (by simp only [spec_TailOf.l0, Int.lt_irrefl, if_false, Int.toNat_natCast, List.drop_length, List.take_nil, List.append_nil]; exact EvN))
    (fun i hi ih x hx => EvS (by
      simp only [spec_TailOf.l0, if_pos (show (i : Int) < (l.length : Int) by omega), Int.toNat_natCast]
      by_cases h : (x.length : Int) < n
      · have hS : (x.length < 5864062014805) = True := eq_true (by omega)
        simp only [if_pos h, if_pos (show 0 ≤ (i : Int) by omega), hS, if_true, rd54 l i hi, nxt i _ hi (show l.length ≤ 9223372036854775807 by omega)]
        have := ih (x ++ [l[i]]) (by simp; omega)
        rw [drop_at l i hi, show n.toNat - x.length = (n.toNat - (x ++ [l[i]]).length) + 1 by simp; omega, List.take_succ_cons]
        simpa using this
      simp only [if_neg h, show n.toNat - x.length = 0 by omega, List.take_zero, List.append_nil]
      exact EvN)) i hi x (by omega)
theorem spec_tail (a b : Int) (l : List S54) (i n : Int) (hl : l.length ≤ 1000000000) : Ev (fun k => spec_TailOf.f k a b l i n) (tailR a b l i n) := by
  unfold spec_TailOf.f tailR
  simp only [EvB (spec_ok a b l (by omega))]
  by_cases h : okR a b l = true
  · have hb := okR_bd h
    have hL := spec_last a b l (by omega)
    simp only [h, if_true] at hL
    simp only [h, if_true, EvB hL, specIn, Option.bind_some, true_and, w64 (show -9223372036854775808 ≤ a + 1 by omega) (show a + 1 ≤ 9223372036854775807 by omega)]
    by_cases h1 : a + 1 ≤ i ∧ i ≤ lastM a l
    · simp only [decide_eq_true h1, if_true]
      refine EvS ?_
      by_cases h2 : n < 1
      · simp only [spec_TailOf.j0, decide_eq_true h2, if_true, if_neg (show ¬ (a + 1 ≤ i ∧ i ≤ lastM a l ∧ 1 ≤ n) by omega)]; exact EvN
      obtain ⟨e, h0, hx⟩ := idx_eq h (i := i) (show inL a l i by unfold inL; omega) (by omega)
      simp only [spec_TailOf.j0, decide_eq_false h2, Bool.false_eq_true, if_false, if_pos (show (a + 1 ≤ i ∧ i ≤ lastM a l ∧ 1 ≤ n) by omega), e]
      have := specTail a b n l hl (by omega) 0 (i - a - 1).toNat (by omega) [] (by simp)
      rw [Int.toNat_of_nonneg h0] at this
      simpa using this
    simp only [decide_eq_false h1, Bool.false_eq_true, if_false, if_neg (show ¬ (a + 1 ≤ i ∧ i ≤ lastM a l ∧ 1 ≤ n) by omega)]
    refine EvS ?_
    simp only [spec_TailOf.j0, if_true]
    exact EvN
  simp only [Bool.eq_false_iff.2 h, Bool.false_eq_true, if_false, false_and]
  refine EvS ?_
  simp only [spec_TailOf.j0, if_true]
  exact EvN
end Go.Proofs.Ytalbkbmnjpameaa.RL

namespace Go.Proofs.Ytalbkbmnjpameaa.F
open Go.RowKit Go.Proofs.YtalbkbmnjpameaaW.PrintWords Go.Proofs.YtalbkbmnjpameaaW.PrintWords.Kd Go.Proofs.YtalbkbmnjpameaaW.PrintMore.Kd Go.Proofs.YtalbkbmnjpameaaW.PrintLast Go.Proofs.YtalbkbmnjpameaaW.PrintMore
attribute [local go_sem] max2_int min2_int max_two min_two max_three min_three max_four min_four   -- for this text's walks alone
set_option linter.unusedVariables false
set_option linter.unusedSimpArgs false
end Go.Proofs.Ytalbkbmnjpameaa.F

namespace Go.Proofs.Ytalbkbmnjpameaa.RL
set_option linter.unusedVariables false
set_option linter.unusedSimpArgs false
open Go.RowKit Go.Proofs.Ytalbkbmnjpameaa.F Go.Proofs.Ytalbkbmnjpameaa.PK Go.Proofs.YtalbkbmnjpameaaW.PrintWords Go.Proofs.YtalbkbmnjpameaaW.PrintLast
theorem spec_copy (a b : Int) (l : List S54) (hl : l.length ≤ 1000000000) : Ev (fun k => spec_l05Copy.f k a b l) (a, b, l) := by
  have key := up (P := fun i => ∀ x : List S54, (x.length : Int) = i → x = l.take i.toNat → Ev (fun k => spec_l05Copy.l0 k i a b l a b x) (a, b, l)) l.length
    (fun x hx he => EvS (by
      rw [Int.toNat_natCast, List.take_length] at he
      simp only [spec_l05Copy.l0, Int.lt_irrefl, if_false, he]; exact EvN))
    (fun i hi ih x hx he => EvS (by
      have hS : (x.length < 5864062014805) = True := eq_true (by omega)
      simp only [spec_l05Copy.l0, if_pos (show (i : Int) < (l.length : Int) by omega), if_pos (show 0 ≤ (i : Int) by omega), hS, if_true, rd54 l i hi, nxt i _ hi (show l.length ≤ 9223372036854775807 by omega)]
      refine ih _ (by simp; omega) ?_
      rw [Int.toNat_natCast] at he
      rw [Int.toNat_natCast, he, List.take_add_one, List.getElem?_eq_getElem hi]
      rfl))
  unfold spec_l05Copy.f
  exact key 0 (Nat.zero_le _) [] rfl (by simp)
theorem impl_copy (a b : Int) (l : List S54) (hl : l.length ≤ 1000000000) : impl_copyRLog.f a b l = some (a, b, l) := by
  have hS : (([] : List S54).length + l.length < 5864062014805) = True := eq_true (by simp only [List.length_nil]; omega)
  simp only [impl_copyRLog.f, Option.bind_some, hS, if_true, List.nil_append]
def apG (l : List S54) : Nat → List S54 → List S54
  | _, [] => l
  | s, e :: r => if s < l.length ∧ (rd_T54 l s).f0 = e.f0 then apG l (s + 1) r else l.take s ++ e :: r
theorem apG_len (l : List S54) : ∀ (es : List S54) (s : Nat), (apG l s es).length ≤ l.length + es.length := by
  intro es
  induction es with
  | nil => intro s; simp [apG]
  | cons e r ih =>
    intro s
    unfold apG
    split
    · have := ih (s + 1); simp only [List.length_cons]; omega
    simp only [List.length_append, List.length_take, List.length_cons]; omega
def finA (a b : Int) (l x : List S54) : Int × Int × List S54 × Bool := if okR a b x = true then (a, b, x, true) else (a, b, l, false)
def appR (a b : Int) (l : List S54) (p t : Int) (es : List S54) : Int × Int × List S54 × Bool :=
  if okR a b l = true ∧ inL a l p ∧ termM a b l p = t ∧ es.length ≤ 10 then finA a b l (apG l (p - a).toNat es) else (a, b, l, false)
theorem specFin {a b : Int} {l : List S54} (h : okR a b l = true) (x : List S54) (hx : x.length ≤ 1000) : Ev (fun k => (spec_RLogOk.f k a b x).bind fun t536 => (if t536 = true then ((spec_l05Copy.f k a b x).bind fun bt537 => (some (bt537.1, bt537.2.1, bt537.2.2, true))) else ((spec_l05Copy.f k a b l).bind fun bt542 => (some (bt542.1, bt542.2.1, bt542.2.2, false))))) (finA a b l x) := by
  have hb := okR_bd h
  unfold finA
  simp only [EvB (spec_ok a b x (by omega))]
  by_cases hq : okR a b x = true
  · simp only [if_pos hq, EvB (spec_copy a b x (by omega))]; exact EvN
  simp only [if_neg hq, EvB (spec_copy a b l (by omega))]; exact EvN
theorem implFin {a b : Int} {l : List S54} (h : okR a b l = true) (x : List S54) (hx : x.length ≤ 1000) : Ev (fun k => impl_AppendTo.j2 k a b l a b x) (finA a b l x) := by
  have hb := okR_bd h
  refine EvS ?_
  unfold finA
  simp only [impl_AppendTo.j2, EvB (impl_ok a b x (by omega))]
  by_cases hq : okR a b x = true
  · simp only [if_pos hq]; exact EvN
  simp only [if_neg hq, impl_copy a b l (by omega), Option.bind_some]; exact EvN
section
variable {a b p : Int} {l es : List S54} (h : okR a b l = true) (hi : inL a l p) (he : es.length ≤ 10)
include h hi he
theorem at_eq (i : Nat) (hn : i ≤ es.length) : wrap64 (wrap64 (p + (i : Int)) - a) = (((p - a).toNat + i : Nat) : Int) := by
  have hb := okR_bd h
  unfold inL lastM at hi
  rw [w64 (x := p + (i : Int)) (by omega) (by omega), w64 (by omega) (by omega)]
  omega
theorem specApT : ∀ i : Nat, i ≤ es.length → ∀ x : List S54, x.length = (p - a).toNat + i → Ev (fun k => spec_AppendTo.l0 k p es i a b l a b x) (finA a b l (x ++ es.drop i)) :=
  fun i hn x hx => by
  have hb := okR_bd h
  have hs : (p - a).toNat ≤ 60 := by unfold inL lastM at hi; omega
  exact up (P := fun i => ∀ x : List S54, (x.length : Int) = ((p - a).toNat : Int) + i → Ev (fun k => spec_AppendTo.l0 k p es i a b l a b x) (finA a b l (x ++ es.drop i.toNat))) es.length
    (fun x hx => EvS (by
      simp only [spec_AppendTo.l0, Int.lt_irrefl, if_false, Int.toNat_natCast, List.drop_length, List.append_nil]
      exact specFin h x (by omega)))
    (fun i hn ih x hx => EvS (by
      have e := at_eq h hi he i (by omega)
      have e2 : (((p - a).toNat + i : Nat) : Int) = (x.length : Int) := by omega
      rw [e2] at e
      simp only [spec_AppendTo.l0, if_pos (show (i : Int) < (es.length : Int) by omega), e, Int.lt_irrefl, if_false]
      refine EvS ?_
      have hS : (x.length < 5864062014805) = True := eq_true (by omega)
      simp only [spec_AppendTo.j2, Bool.false_eq_true, if_false, Int.lt_irrefl, if_pos (show 0 ≤ (i : Int) by omega), if_pos (show (i : Int) < (es.length : Int) by omega), hS, if_true, rd54 es i hn, nxt i _ hn (show es.length ≤ 9223372036854775807 by omega)]
      have := ih (x ++ [es[i]]) (by simp; omega)
      rw [Int.toNat_natCast, drop_at es i hn]
      rw [Int.toNat_natCast, List.append_assoc] at this
      exact this)) i hn x (by omega)
theorem specAp : ∀ i : Nat, i ≤ es.length → (p - a).toNat + i ≤ l.length → Ev (fun k => spec_AppendTo.l0 k p es i a b l a b l) (finA a b l (apG l ((p - a).toNat + i) (es.drop i))) :=
  fun i hn hx => by
  have hb := okR_bd h
  exact up (P := fun i => ((p - a).toNat : Int) + i ≤ l.length → Ev (fun k => spec_AppendTo.l0 k p es i a b l a b l) (finA a b l (apG l ((p - a).toNat + i.toNat) (es.drop i.toNat)))) es.length
    (fun hx => EvS (by
      simp only [spec_AppendTo.l0, Int.lt_irrefl, if_false, Int.toNat_natCast, List.drop_length, apG]
      exact specFin h l (by omega)))
    (fun i hn ih hx => EvS (by
      have e := at_eq h hi he i (by omega)
      have T := specApT h hi he (i + 1) hn
      simp only [spec_AppendTo.l0, if_pos (show (i : Int) < (es.length : Int) by omega), e, if_pos (show 0 ≤ (i : Int) by omega), if_pos (show 0 ≤ (((p - a).toNat + i : Nat) : Int) by omega)]
      rw [Int.toNat_natCast, drop_at es i hn]
      have hS : (∀ n : Nat, n ≤ 60 → (n < 5864062014805) = True) := fun n hn => eq_true (by omega)
      by_cases hc : (((p - a).toNat + i : Nat) : Int) < (l.length : Int)
      · simp only [if_pos hc]
        refine EvS ?_
        by_cases hq : (rd_T54 l (((p - a).toNat + i : Nat) : Int)).f0 = es[i].f0
        · simp only [spec_AppendTo.j2, rd54 es i hn, hq, BEq.rfl, if_true, nxt i _ hn (show es.length ≤ 9223372036854775807 by omega), apG, and_true, if_pos (show (p - a).toNat + i < l.length by omega)]
          have := ih (by omega)
          rw [Int.toNat_natCast] at this
          exact this
        simp only [spec_AppendTo.j2, rd54 es i hn, beq_eq_false_iff_ne.2 hq, Bool.false_eq_true, if_false, if_pos hc, if_pos (show 0 ≤ (i : Int) by omega), if_pos (show 0 ≤ (((p - a).toNat + i : Nat) : Int) by omega), if_pos (show (((p - a).toNat + i : Nat) : Int) ≤ (l.length : Int) by omega), Option.bind_some, if_pos (show (i : Int) < (es.length : Int) by omega), Int.toNat_natCast, hS _ (show (l.take ((p - a).toNat + i)).length ≤ 60 by rw [List.length_take]; omega), if_true, nxt i _ hn (show es.length ≤ 9223372036854775807 by omega), apG, hq, and_false]
        have := T (l.take ((p - a).toNat + i) ++ [es[i]]) (by simp; omega)
        rw [List.append_assoc] at this
        exact this
      have e2 : (p - a).toNat + i = l.length := by omega
      simp only [if_neg hc]
      refine EvS ?_
      simp only [spec_AppendTo.j2, rd54 es i hn, Bool.false_eq_true, if_false, if_neg hc, if_pos (show 0 ≤ (i : Int) by omega), if_pos (show (i : Int) < (es.length : Int) by omega), hS _ (show l.length ≤ 60 by omega), if_true, nxt i _ hn (show es.length ≤ 9223372036854775807 by omega), apG, e2, Nat.lt_irrefl, Int.lt_irrefl, false_and, if_false, List.take_length]
      have := T (l ++ [es[i]]) (by simp; omega)
      rw [List.append_assoc] at this
      exact this)) i hn (by omega)
theorem implAp : ∀ i : Nat, i ≤ es.length → (p - a).toNat + i ≤ l.length → Ev (fun k => impl_AppendTo.l0 k p es es (es.length : Int) i a b l a b l) (finA a b l (apG l ((p - a).toNat + i) (es.drop i))) :=
  fun i hn hx => by
  have hb := okR_bd h
  have hp : inL a l p := hi
  unfold inL lastM at hp
  exact up (P := fun i => ((p - a).toNat : Int) + i ≤ l.length → Ev (fun k => impl_AppendTo.l0 k p es es (es.length : Int) i a b l a b l) (finA a b l (apG l ((p - a).toNat + i.toNat) (es.drop i.toNat)))) es.length
    (fun hx => EvS (by
      simp only [impl_AppendTo.l0, Int.lt_irrefl, if_false, Int.toNat_natCast, List.drop_length, apG]
      exact implFin h l (by omega)))
    (fun i hn ih hx => EvS (by
      have e1 : wrap64 (wrap64 (p + 1) + (i : Int)) = p + 1 + i := by rw [w64 (x := p + 1) (by omega) (by omega), w64 (by omega) (by omega)]
      have e3 : wrap64 (wrap64 (p + 1 + (i : Int) - a) - 1) = (((p - a).toNat + i : Nat) : Int) := by
        rw [w64 (x := p + 1 + (i : Int) - a) (by omega) (by omega), w64 (by omega) (by omega)]; omega
      have hS : (∀ n : Nat, n ≤ 70 → (n < 5864062014805) = True) := fun n hn => eq_true (by omega)
      have hlen : (l.take ((p - a).toNat + i)).length + (es.drop i).length ≤ 70 := by rw [List.length_take, List.length_drop]; omega
      simp only [impl_AppendTo.l0, if_pos (show (i : Int) < (es.length : Int) by omega), if_pos (show 0 ≤ (i : Int) by omega), impl_RLog_last.f, Option.bind_some, last_eq h, e1, e3, rd54 es i hn, if_pos (show 0 ≤ (((p - a).toNat + i : Nat) : Int) by omega), if_pos (show (((p - a).toNat + i : Nat) : Int) ≤ (l.length : Int) by omega), if_pos (show (i : Int) ≤ (es.length : Int) by omega), Int.toNat_natCast, hS _ hlen, if_true]
      rw [drop_at es i hn]
      by_cases hc : p + 1 + (i : Int) ≤ lastM a l
      · have hin : inL a l (p + 1 + i) := by unfold inL; omega
        have hc' : (p - a).toNat + i < l.length := by unfold lastM at hc; omega
        have hT : termM a b l (p + 1 + i) = (rd_T54 l (((p - a).toNat + i : Nat) : Int)).f0 := by
          unfold termM
          rw [if_neg (by omega)]
          rw [show p + 1 + (i : Int) - a - 1 = (((p - a).toNat + i : Nat) : Int) by omega]
        simp only [if_pos hc, impl_term h hin, Option.bind_some, hT]
        by_cases hq : (rd_T54 l (((p - a).toNat + i : Nat) : Int)).f0 = es[i].f0
        · simp only [if_pos hq, nxt i _ hn (show es.length ≤ 9223372036854775807 by omega), apG, hq, and_true, if_pos hc']
          have := ih (by omega)
          rw [Int.toNat_natCast] at this
          exact this
        simp only [if_neg hq, apG, hq, and_false, if_false]
        exact implFin h _ (by simp only [List.length_append, List.length_take, List.length_cons, List.length_drop]; omega)
      have hc' : ¬ (p - a).toNat + i < l.length := by unfold lastM at hc; omega
      simp only [if_neg hc, apG, hc', false_and, if_false]
      exact implFin h _ (by simp only [List.length_append, List.length_take, List.length_cons, List.length_drop]; omega))) i hn (by omega)
end
theorem specAppJ (a b p t : Int) (l es : List S54) (hl : l.length ≤ 100000000) (x : Bool) (hx : x = !decide (okR a b l = true ∧ inL a l p ∧ termM a b l p = t ∧ es.length ≤ 10)) : Ev (fun k => spec_AppendTo.j0 k p es x a b l) (appR a b l p t es) := by
  refine EvS ?_
  unfold appR
  by_cases h : okR a b l = true ∧ inL a l p ∧ termM a b l p = t ∧ es.length ≤ 10
  · simp only [hx, decide_eq_true h, Bool.not_true, spec_AppendTo.j0, Bool.false_eq_true, if_false, if_pos h, EvB (spec_copy a b l (by omega))]
    have hi := h.2.1
    unfold inL lastM at hi
    exact specAp h.1 h.2.1 h.2.2.2 0 (Nat.zero_le _) (by omega)
  simp only [hx, decide_eq_false h, Bool.not_false, spec_AppendTo.j0, if_true, EvB (spec_copy a b l (by omega)), if_neg h]
  exact EvN
theorem spec_app (a b : Int) (l : List S54) (p t : Int) (es : List S54) (hl : l.length ≤ 100000000) : Ev (fun k => spec_AppendTo.f k a b l p t es) (appR a b l p t es) := by
  unfold spec_AppendTo.f
  have J := specAppJ a b p t l es hl
  simp only [EvB (spec_ok a b l (by omega))]
  by_cases h : okR a b l = true
  · simp only [h, if_true, EvB (spec_term a b l p (by omega)), termR, true_and]
    simp only [h, true_and] at J
    by_cases hi : inL a l p
    · have hbd := term_bd h hi
      simp only [hi, if_true]
      simp only [hi, true_and] at J
      by_cases hq : termM a b l p = t
      · simp only [hq, if_true, if_neg (show ¬ t < 0 by omega)]
        refine J _ ?_
        simp only [hq, true_and]
        by_cases h10 : es.length ≤ 10
        · simp only [h10, decide_true, decide_eq_false (show ¬ (es.length : Int) > 10 by omega)]; rfl
        simp only [h10, decide_false, decide_eq_true (show (es.length : Int) > 10 by omega)]; rfl
      simp only [hq, if_false]
      exact J _ (by simp only [hq, false_and, decide_false]; rfl)
    simp only [hi, if_false]
    simp only [hi, false_and] at J
    by_cases hq : (-1 : Int) = t
    · simp only [hq, if_true, if_pos (show t < 0 by omega)]
      exact J _ (by simp)
    simp only [hq, if_false]
    exact J _ (by simp)
  simp only [Bool.eq_false_iff.2 h, Bool.false_eq_true, if_false]
  exact J _ (by simp only [h, false_and, decide_false]; rfl)
theorem implAppJ (a b p t : Int) (l es : List S54) (hl : l.length ≤ 100000000) (x : Bool) (hx : x = !decide (okR a b l = true ∧ inL a l p ∧ termM a b l p = t ∧ es.length ≤ 10)) : Ev (fun k => impl_AppendTo.j0 k p es x a b l a b l) (appR a b l p t es) := by
  refine EvS ?_
  unfold appR
  by_cases h : okR a b l = true ∧ inL a l p ∧ termM a b l p = t ∧ es.length ≤ 10
  · simp only [hx, decide_eq_true h, Bool.not_true, impl_AppendTo.j0, Bool.false_eq_true, if_false, if_pos h]
    have hi := h.2.1
    unfold inL lastM at hi
    exact implAp h.1 h.2.1 h.2.2.2 0 (Nat.zero_le _) (by omega)
  simp only [hx, decide_eq_false h, Bool.not_false, impl_AppendTo.j0, if_true, if_neg h]
  exact EvN
theorem impl_app (a b : Int) (l : List S54) (p t : Int) (es : List S54) (hl : l.length ≤ 100000000) : Ev (fun k => impl_AppendTo.f k a b l p t es) (appR a b l p t es) := by
  unfold impl_AppendTo.f impl_RLog_last.f
  have J := implAppJ a b p t l es hl
  simp only [impl_copy a b l (by omega), Option.bind_some, EvB (impl_ok a b l (by omega))]
  by_cases h : okR a b l = true
  · simp only [h, if_true, last_eq h]
    simp only [h, true_and] at J
    by_cases h1 : p < a
    · have hi : ¬ inL a l p := fun hi => by unfold inL at hi; omega
      simp only [if_pos h1]
      exact J _ (by simp [hi])
    by_cases h2 : p > lastM a l
    · have hi : ¬ inL a l p := fun hi => by unfold inL at hi; omega
      simp only [if_neg h1, if_pos h2]
      exact J _ (by simp [hi])
    have hi : inL a l p := by unfold inL; omega
    simp only [if_neg h1, if_neg h2, impl_term h hi, Option.bind_some]
    simp only [hi, true_and] at J
    by_cases hq : termM a b l p = t
    · simp only [hq, if_true]
      refine J _ ?_
      simp only [hq, true_and]
      by_cases h10 : es.length ≤ 10
      · simp only [h10, decide_true, decide_eq_false (show ¬ (es.length : Int) > 10 by omega)]; rfl
      simp only [h10, decide_false, decide_eq_true (show (es.length : Int) > 10 by omega)]; rfl
    simp only [hq, if_false]
    exact J _ (by simp only [hq, false_and, decide_false]; rfl)
  simp only [Bool.eq_false_iff.2 h, Bool.false_eq_true, if_false]
  exact J _ (by simp only [h, false_and, decide_false]; rfl)
end Go.Proofs.Ytalbkbmnjpameaa.RL

namespace Go.Proofs.Ytalbkbmnjpameaa.RL
set_option linter.unusedVariables false
set_option linter.unusedSimpArgs false
open Go.RowKit Go.Proofs.Ytalbkbmnjpameaa.F Go.Proofs.Ytalbkbmnjpameaa.PK Go.Proofs.YtalbkbmnjpameaaW.PrintWords Go.Proofs.YtalbkbmnjpameaaW.PrintLast
theorem rdT (l : List S54) (n : Nat) : (rd_T54 l (n : Int)) = l.getD n (rd_T54 [] 0) := by
  unfold rd_T54
  rw [Int.toNat_natCast]
  rfl
theorem rdT_map (l : List S54) (n : Nat) (h : n < l.length) : l[n]?.map (·.f0) = some (rd_T54 l (n : Int)).f0 := by
  rw [rd54 l n h, List.getElem?_eq_getElem h]; rfl
theorem apG_take (l : List S54) : ∀ (es : List S54) (s : Nat), s ≤ l.length → (apG l s es).take s = l.take s ∧ s + es.length ≤ (apG l s es).length := by
  intro es
  induction es with
  | nil => intro s hs; exact ⟨rfl, hs⟩
  | cons e r ih =>
    intro s hs
    unfold apG
    split
    · rename_i hc
      obtain ⟨h1, h2⟩ := ih (s + 1) (by omega)
      refine ⟨?_, by simp only [List.length_cons]; omega⟩
      have := congrArg (List.take s) h1
      rwa [List.take_take, List.take_take, Nat.min_eq_left (by omega)] at this
    refine ⟨?_, ?_⟩
    · rw [List.take_append_of_le_length (by rw [List.length_take]; omega), List.take_take, Nat.min_self]
    rw [List.length_append, List.length_take, List.length_cons]; omega
theorem apG_terms (l : List S54) : ∀ (es : List S54) (s : Nat), s ≤ l.length → ∀ j, j < es.length → (apG l s es)[s + j]?.map (·.f0) = es[j]?.map (·.f0) := by
  intro es
  induction es with
  | nil => intro s hs j hj; simp at hj
  | cons e r ih =>
    intro s hs j hj
    unfold apG
    split
    · rename_i hc
      cases j with
      | zero =>
        have h1 : ((apG l (s + 1) r).take (s + 1))[s]? = (l.take (s + 1))[s]? := by rw [(apG_take l r (s + 1) (by omega)).1]
        rw [List.getElem?_take_of_lt (by omega), List.getElem?_take_of_lt (by omega)] at h1
        show (apG l (s + 1) r)[s]?.map (·.f0) = some e.f0
        rw [h1, rdT_map l s hc.1, hc.2]
      | succ j =>
        rw [List.getElem?_cons_succ, ← ih (s + 1) (by omega) j (by simpa using hj)]
        congr 2
        omega
    rw [List.getElem?_append_right (by rw [List.length_take]; omega), List.length_take, Nat.min_eq_left hs, Nat.add_sub_cancel_left]
theorem apG_self (x : List S54) : ∀ (es : List S54) (s : Nat), s + es.length ≤ x.length → (∀ j, j < es.length → x[s + j]?.map (·.f0) = es[j]?.map (·.f0)) → apG x s es = x := by
  intro es
  induction es with
  | nil => intro s _ _; rfl
  | cons e r ih =>
    intro s hs h
    simp only [List.length_cons] at hs
    unfold apG
    have h0 := h 0 (by simp)
    rw [Nat.add_zero, rdT_map x s (by omega)] at h0
    rw [if_pos ⟨by omega, by simpa using h0⟩]
    refine ih (s + 1) (by omega) fun j hj => ?_
    have := h (j + 1) (by simpa using hj)
    rw [List.getElem?_cons_succ] at this
    rw [← this]
    congr 2
    omega
theorem term_take {a b p i : Int} {l x : List S54} (h : x.take (p - a).toNat = l.take (p - a).toNat) (h1 : a ≤ i) (h2 : i ≤ p) : termM a b x i = termM a b l i := by
  unfold termM
  by_cases e : i = a
  · rw [if_pos e, if_pos e]
  rw [if_neg e, if_neg e]
  have hn : i - a - 1 = (((i - a - 1).toNat : Nat) : Int) := by omega
  have hk : (x.take (p - a).toNat)[(i - a - 1).toNat]? = (l.take (p - a).toNat)[(i - a - 1).toNat]? := by rw [h]
  rw [List.getElem?_take_of_lt (by omega), List.getElem?_take_of_lt (by omega)] at hk
  rw [hn, rdT, rdT, List.getD_eq_getElem?_getD, List.getD_eq_getElem?_getD, hk]
theorem agM_ge (p : Nat → Bool) (m : Nat) (hp : p m = true) : ∀ n, m < n → (m : Int) ≤ agM p n := by
  intro n
  induction n with
  | zero => intro h; omega
  | succ n ih =>
    intro h
    unfold agM
    split
    · omega
    rename_i hn
    refine ih ?_
    by_cases e : m = n
    · subst e; exact absurd hp hn
    omega
theorem sameE (x : List S54) (hx : x.length ≤ 1000000000) : Ev (fun k => laws_sameEntries.f k x x) true := by
  unfold laws_sameEntries.f
  simp only [if_true]
  exact up (P := fun i => Ev (fun k => laws_sameEntries.l0 k x x i) true) x.length
    (EvS (by simp only [laws_sameEntries.l0, Int.lt_irrefl, if_false]; exact EvN))
    (fun i hi ih => EvS (by
      simp only [laws_sameEntries.l0, if_pos (show (i : Int) < (x.length : Int) by omega), if_pos (show 0 ≤ (i : Int) by omega), beq_self_eq_true, Bool.not_true, Bool.or_self, Bool.false_eq_true, if_false, nxt i _ hi (by omega)]
      exact ih)) 0 (Nat.zero_le _)
theorem sameL (a b : Int) (x : List S54) (hx : x.length ≤ 1000000000) : Ev (fun k => laws_sameLog.f k a b x a b x) true := by
  unfold laws_sameLog.f
  simp only [if_true]
  exact (EvB (sameE x hx)).2 EvN
end Go.Proofs.Ytalbkbmnjpameaa.RL

namespace Go.Proofs.Ytalbkbmnjpameaa.DR
set_option linter.unusedVariables false
set_option linter.unusedSimpArgs false
open Go.RowKit Go.Proofs.Ytalbkbmnjpameaa.F Go.Proofs.Ytalbkbmnjpameaa.PK Go.Proofs.YtalbkbmnjpameaaW.PrintWords Go.Proofs.YtalbkbmnjpameaaW.PrintLast
theorem and255 (x : Int) : 0 ≤ Go.bits .and .i64 x 255 ∧ Go.bits .and .i64 x 255 ≤ 255 := by
  have h : ((BitVec.ofInt IntKind.i64.bits x) &&& (BitVec.ofInt IntKind.i64.bits 255)).toNat ≤ 255 := by
    rw [BitVec.toNat_and]
    exact Nat.le_trans Nat.and_le_right (by decide)
  have e : Go.bits .and .i64 x 255 = (((BitVec.ofInt IntKind.i64.bits x) &&& (BitVec.ofInt IntKind.i64.bits 255)).toNat : Int) := by
    show IntKind.i64.wrap (((BitVec.ofInt IntKind.i64.bits x) &&& (BitVec.ofInt IntKind.i64.bits 255)).toNat : Int) = _
    rw [IntKind.wrap_i64]
    omega
  omega
def At (b : List Int) (i : Int) : Prop := 0 ≤ i ∧ i ≤ (b.length : Int)
theorem dByte (b : List Int) (i h : Int) (hi : At b i) (hb : b.length ≤ 1048576) : ∃ x i' h', spec_l01Byte.f b i h = some (x, i', h') ∧ 0 ≤ x ∧ x ≤ 255 ∧ At b i' := by
  unfold At at *
  unfold spec_l01Byte.f
  by_cases c : i < (b.length : Int)
  · simp only [if_pos c, if_pos hi.1]
    exact ⟨_, _, _, rfl, (and255 _).1, (and255 _).2, by rw [w64 (by omega) (by omega)]; omega⟩
  simp only [if_neg c]
  exact ⟨_, _, _, rfl, (and255 _).1, (and255 _).2, hi⟩
theorem tmod_bd (x n : Int) (hx : 0 ≤ x) (hn : 0 < n) : 0 ≤ Int.tmod x n ∧ Int.tmod x n < n := ⟨Int.tmod_nonneg _ hx, Int.tmod_lt_of_pos _ hn⟩
theorem dBelow (b : List Int) (i h n : Int) (hi : At b i) (hb : b.length ≤ 1048576) : ∃ x i' h', spec_l01Below.f b i h n = some (x, i', h') ∧ 0 ≤ x ∧ (0 < n → x < n) ∧ (n ≤ 0 → x = 0) ∧ At b i' := by
  unfold spec_l01Below.f
  by_cases c : n ≤ 0
  · simp only [if_pos c]
    exact ⟨_, _, _, rfl, by omega, by omega, fun _ => rfl, hi⟩
  simp only [if_neg c]
  by_cases c2 : n ≤ 256
  · obtain ⟨x, i', h', e, h0, h1, h2⟩ := dByte b i h hi hb
    simp only [if_pos c2, e, Option.bind_some, if_neg (show ¬ n = 0 by omega)]
    have := tmod_bd x n h0 (by omega)
    exact ⟨_, _, _, rfl, this.1, fun _ => this.2, by omega, h2⟩
  obtain ⟨x, i1, h1, e1, a0, a1, a2⟩ := dByte b i h hi hb
  obtain ⟨y, i2, h2, e2, b0, b1, b2⟩ := dByte b i1 h1 a2 hb
  obtain ⟨z, i3, h3, e3, c0, c1, c2'⟩ := dByte b i2 h2 b2 hb
  simp only [if_neg c2, e1, e2, e3, Option.bind_some, if_neg (show ¬ n = 0 by omega)]
  have hw : wrap64 (wrap64 (wrap64 (x * 65536) + wrap64 (y * 256)) + z) = x * 65536 + y * 256 + z := by
    rw [w64 (x := x * 65536) (by omega) (by omega), w64 (x := y * 256) (by omega) (by omega), w64 (x := x * 65536 + y * 256) (by omega) (by omega), w64 (by omega) (by omega)]
  rw [hw]
  have := tmod_bd (x * 65536 + y * 256 + z) n (by omega) (by omega)
  exact ⟨_, _, _, rfl, this.1, fun _ => this.2, by omega, c2'⟩
theorem dSize (l : List Int) (m : Int) (hl : l.length ≤ 1048576) (hm : 2 ≤ m) : ∃ t, spec_l01Size.f l m = some t ∧ 2 ≤ t ∧ t ≤ m := by
  unfold spec_l01Size.f
  rw [w64 (x := (l.length : Int) / 16) (by omega) (by omega), w64 (by omega) (by omega)]
  split
  · exact ⟨_, rfl, hm, by omega⟩
  exact ⟨_, rfl, by omega, by omega⟩
theorem dNew (l : List Int) (hl : l.length ≤ 1048576) : ∃ h, Ev (fun k => spec_l01New.f k l) (l, 0, h) := by
  have key := up (P := fun i => ∀ x, ∃ h, Ev (fun k => spec_l01New.l0 k l x i) (l, 0, h)) l.length
    (fun x => ⟨x, EvS (by simp only [spec_l01New.l0, Int.lt_irrefl, if_false]; exact EvN)⟩)
    (fun i hi ih x => by
      by_cases c : (i : Int) < 4000
      · obtain ⟨h, e⟩ := ih (Go.bits .and .i64 (wrap64 ((wrap64 ((wrap64 (x * 149)) + (wrap64 (rd l i)))) + 11)) 1073741823)
        refine ⟨h, EvS ?_⟩
        simp only [spec_l01New.l0, if_pos (show (i : Int) < (l.length : Int) by omega), if_pos c, if_pos (show 0 ≤ (i : Int) by omega), show wrap64 ((i : Int) + 1) = ((i + 1 : Nat) : Int) by rw [w64 (by omega) (by omega)]; omega]
        exact e
      exact ⟨x, EvS (by simp only [spec_l01New.l0, if_pos (show (i : Int) < (l.length : Int) by omega), if_neg c]; exact EvN)⟩)
  unfold spec_l01New.f
  exact key 0 (Nat.zero_le _) _
end Go.Proofs.Ytalbkbmnjpameaa.DR

namespace Go.Proofs.Ytalbkbmnjpameaa.DR
set_option linter.unusedVariables false
set_option linter.unusedSimpArgs false
open Go.RowKit Go.Proofs.Ytalbkbmnjpameaa.F Go.Proofs.Ytalbkbmnjpameaa.PK Go.Proofs.YtalbkbmnjpameaaW.PrintWords Go.Proofs.YtalbkbmnjpameaaW.PrintLast
open Go.Proofs.Ytalbkbmnjpameaa.RL
def lstT : Int → List S54 → Int
  | b, [] => b
  | _, e :: r => lstT e.f0 r
theorem lstT_app : ∀ (l : List S54) (b : Int) (e : S54), lstT b (l ++ [e]) = e.f0 := by
  intro l
  induction l with
  | nil => intro b e; rfl
  | cons x r ih => intro b e; exact ih _ _
theorem okL_app : ∀ (l : List S54) (b : Int) (e : S54), okL b l = true → okE e = true → lstT b l ≤ e.f0 → okL b (l ++ [e]) = true := by
  intro l
  induction l with
  | nil =>
    intro b e _ h1 h2
    have h2 : b ≤ e.f0 := h2
    simp [okL, h1, h2]
  | cons x r ih =>
    intro b e h h1 h2
    simp only [okL, Bool.and_eq_true, List.cons_append] at h ⊢
    exact ⟨h.1, ih _ _ h.2 h1 h2⟩
theorem dOnce (b : List Int) (i h n : Int) (hi : At b i) (hb : b.length ≤ 1048576) : ∃ x i' h', spec_l01Once.f b i h n = some (x, i', h') ∧ At b i' := by
  obtain ⟨x, i', h', e, _, _, _, g⟩ := dBelow b i h n hi hb
  exact ⟨_, i', h', by unfold spec_l01Once.f; rw [e]; rfl, g⟩
theorem dText (b : List Int) (i h : Int) (l : List ByteArray) (hi : At b i) (hb : b.length ≤ 1048576) (hl : 0 < l.length) : ∃ x i' h', spec_l01PickText.f b i h l = some (x, i', h') ∧ x ∈ l ∧ At b i' := by
  obtain ⟨x, i', h', e, h0, h1, _, h2⟩ := dBelow b i h (l.length : Int) hi hb
  unfold spec_l01PickText.f
  have hx := h1 (by omega)
  simp only [e, Option.bind_some, if_pos h0, if_pos hx]
  refine ⟨_, _, _, rfl, ?_, h2⟩
  have hn : x.toNat < l.length := by omega
  have : rdOf ByteArray.empty l x = l[x.toNat] := by
    have := getD_nat l ByteArray.empty x.toNat hn
    rw [Int.toNat_of_nonneg h0] at this
    exact this
  rw [this]
  exact List.getElem_mem hn
theorem dLogL (c : List Int) (hc : c.length ≤ 1048576) (a b : Int) : ∀ (d : Nat) (t i h : Int) (l : List S54), At c i → l.length + d ≤ 50 → okL b l = true → lstT b l ≤ t → 1 ≤ t → t + d ≤ 1000 →
    ∃ (l' : List S54) (i' h' : Int), Ev (fun k => spec_l05DrawLog.l0 k t d c i h a b l) (a, b, l', i', h') ∧ okL b l' = true ∧ l'.length ≤ l.length + d ∧ At c i' := by
  intro d
  induction d with
  | zero =>
    intro t i h l hi hl ho _ _ _
    exact ⟨l, i, h, EvS (by simp only [spec_l05DrawLog.l0, if_neg (show ¬ ((0 : Nat) : Int) > 0 by omega)]; exact EvN), ho, by omega, hi⟩
  | succ d ih =>
    intro t i h l hi hl ho hls ht htd
    obtain ⟨x, i1, h1, e1, x0, x1, _, g1⟩ := dBelow c i h 5 hi hc
    obtain ⟨s, i2, h2, e2, hs, g2⟩ := dText c i1 h1 [(⟨#[97]⟩ : ByteArray), (⟨#[98]⟩ : ByteArray), (⟨#[]⟩ : ByteArray), (⟨#[99, 99]⟩ : ByteArray)] g1 hc (by simp)
    have hsz : (s.size : Int) ≤ 40 := by
      simp only [List.mem_cons, List.not_mem_nil, or_false] at hs
      rcases hs with rfl | rfl | rfl | rfl <;> decide
    have hx5 := x1 (by omega)
    have hq : Int.tdiv x 4 = x / 4 := Int.tdiv_eq_ediv_of_nonneg x0
    have hw : wrap64 (t + wrap64 (Int.tdiv x 4)) = t + x / 4 := by rw [hq, w64 (x := x / 4) (by omega) (by omega), w64 (by omega) (by omega)]
    have hS : (l.length < 5864062014805) = True := eq_true (by omega)
    have hwd : wrap64 (((d + 1 : Nat) : Int) - 1) = (d : Int) := by rw [w64 (by omega) (by omega)]; omega
    have hok : okE (⟨t + x / 4, s⟩ : S54) = true := by
      unfold okE
      exact decide_eq_true ⟨by show 1 ≤ t + x / 4; omega, by show t + x / 4 ≤ 1000000; omega, hsz⟩
    obtain ⟨l', i', h', r1, r2, r3, r4⟩ := ih (t + x / 4) i2 h2 (l ++ [(⟨t + x / 4, s⟩ : S54)]) g2 (by simp; omega) (okL_app l b _ ho hok (by show lstT b l ≤ t + x / 4; omega)) (by rw [lstT_app]; exact Int.le_refl _) (by omega) (by omega)
    refine ⟨l', i', h', EvS ?_, r2, by simp at r3; omega, r4⟩
    simp only [spec_l05DrawLog.l0, if_pos (show ((d + 1 : Nat) : Int) > 0 by omega), e1, e2, Option.bind_some, hS, if_true, hw, hwd]
    exact r1
theorem dLog (c l0 : List Int) (hc : c.length ≤ 1048576) (h0 : l0.length ≤ 1048576) (i h : Int) (hi : At c i) : ∃ (a b : Int) (l : List S54) (i' h' : Int), Ev (fun k => spec_l05DrawLog.f k c i h l0) (a, b, l, i', h') ∧ okR a b l = true ∧ a ≤ 100 ∧ l.length ≤ 20 ∧ At c i' := by
  have J : ∀ (t i h a b : Int), At c i → b ≤ t → 1 ≤ t → t ≤ 100 → 0 ≤ a → a ≤ 100 → 0 ≤ b → (a = 0 ↔ b = 0) → ∃ (l : List S54) (i' h' : Int), Ev (fun k => spec_l05DrawLog.j0 k l0 t c i h a b) (a, b, l, i', h') ∧ okR a b l = true ∧ l.length ≤ 20 ∧ At c i' := by
    intro t i h a b hi hbt ht ht2 ha ha2 hb hab
    obtain ⟨m, e1, m1, m2⟩ := dSize l0 8 h0 (by omega)
    obtain ⟨n, i1, h1, e2, n0, n1, _, g1⟩ := dBelow c i h (1 + m) hi hc
    have hn := n1 (by omega)
    obtain ⟨d, rfl⟩ := Int.eq_ofNat_of_zero_le n0
    obtain ⟨l', i', h', r1, r2, r3, r4⟩ := dLogL c hc a b d t i1 h1 [] g1 (by simp; omega) rfl hbt ht (by omega)
    simp only [List.length_nil] at r3
    refine ⟨l', i', h', EvS ?_, ?_, by omega, r4⟩
    · simp only [spec_l05DrawLog.j0, e1, Option.bind_some, show wrap64 (1 + m) = 1 + m from w64 (by omega) (by omega), e2]
      exact r1
    unfold okR okHead
    rw [r2, decide_eq_true (show 0 ≤ a ∧ a ≤ 1000000 ∧ 0 ≤ b ∧ b ≤ 1000000 ∧ (a = 0 ↔ b = 0) ∧ l'.length ≤ 60 from ⟨ha, by omega, hb, by omega, hab, by omega⟩)]
    rfl
  obtain ⟨x, i1, h1, e1, g1⟩ := dOnce c i h 3 hi hc
  cases x with
  | true =>
    obtain ⟨y, i2, h2, e2, y0, y1, _, g2⟩ := dBelow c i1 h1 9 g1 hc
    obtain ⟨z, i3, h3, e3, z0, z1, _, g3⟩ := dBelow c i2 h2 2 g2 hc
    have y1 := y1 (by omega)
    have z1 := z1 (by omega)
    obtain ⟨l, i', h', r1, r2, r3, r4⟩ := J (1 + z) i3 h3 (1 + y) (1 + z) g3 (Int.le_refl _) (by omega) (by omega) (by omega) (by omega) (by omega) (by omega)
    refine ⟨1 + y, 1 + z, l, i', h', ?_, r2, by omega, r3, r4⟩
    unfold spec_l05DrawLog.f
    simp only [e1, Option.bind_some, if_true, e2, e3, show wrap64 (1 + y) = 1 + y from w64 (by omega) (by omega), show wrap64 (1 + z) = 1 + z from w64 (by omega) (by omega)]
    exact r1
  | false =>
    obtain ⟨l, i', h', r1, r2, r3, r4⟩ := J 1 i1 h1 0 0 g1 (by omega) (by omega) (by omega) (by omega) (by omega) (by omega) (by omega)
    refine ⟨0, 0, l, i', h', ?_, r2, by omega, r3, r4⟩
    unfold spec_l05DrawLog.f
    simp only [e1, Option.bind_some, Bool.false_eq_true, if_false]
    exact r1
theorem dEnt1 (c : List Int) (hc : c.length ≤ 1048576) : ∀ (d : Nat) (t i h : Int) (x : List S54), At c i → x.length + d ≤ 100 →
    ∃ (x' : List S54) (i' h' : Int), Ev (fun k => spec_l05DrawEntries.l1 k x t d c i h) (x', i', h') ∧ x'.length ≤ x.length + d ∧ At c i' := by
  intro d
  induction d with
  | zero =>
    intro t i h x hi hl
    exact ⟨x, i, h, EvS (by simp only [spec_l05DrawEntries.l1, if_neg (show ¬ ((0 : Nat) : Int) > 0 by omega)]; exact EvN), by omega, hi⟩
  | succ d ih =>
    intro t i h x hi hl
    obtain ⟨y, i1, h1, e1, _, _, _, g1⟩ := dBelow c i h 3 hi hc
    obtain ⟨s, i2, h2, e2, hs, g2⟩ := dText c i1 h1 [(⟨#[110]⟩ : ByteArray), (⟨#[109]⟩ : ByteArray), (⟨#[]⟩ : ByteArray)] g1 hc (by simp)
    have hS : (x.length < 5864062014805) = True := eq_true (by omega)
    have hwd : wrap64 (((d + 1 : Nat) : Int) - 1) = (d : Int) := by rw [w64 (by omega) (by omega)]; omega
    obtain ⟨x', i', h', r1, r2, r3⟩ := ih (wrap64 (t + wrap64 (Int.tdiv y 2))) i2 h2 (x ++ [(⟨wrap64 (t + wrap64 (Int.tdiv y 2)), s⟩ : S54)]) g2 (by simp; omega)
    refine ⟨x', i', h', EvS ?_, by simp at r2; omega, r3⟩
    simp only [spec_l05DrawEntries.l1, if_pos (show ((d + 1 : Nat) : Int) > 0 by omega), e1, e2, Option.bind_some, hS, if_true, hwd]
    exact r1
theorem dEnt0 (c : List Int) (hc : c.length ≤ 1048576) (s : List S54) (hs : s.length ≤ 60) : ∀ (d j : Nat) (x : List S54) (t i h : Int), d + j = s.length → x.length = j → At c i →
    ∃ (x' : List S54) (i' h' : Int), Ev (fun k => spec_l05DrawEntries.l0 k x t s j c i h) (x', i', h') ∧ x'.length ≤ s.length + 3 ∧ At c i' := by
  intro d
  induction d with
  | zero =>
    intro j x t i h hj hx hi
    obtain ⟨y, i1, h1, e1, y0, y1, _, g1⟩ := dBelow c i h 4 hi hc
    have y1 := y1 (by omega)
    obtain ⟨n, rfl⟩ := Int.eq_ofNat_of_zero_le y0
    obtain ⟨x', i', h', r1, r2, r3⟩ := dEnt1 c hc n t i1 h1 x g1 (by omega)
    refine ⟨x', i', h', EvS ?_, by omega, r3⟩
    simp only [spec_l05DrawEntries.l0, if_neg (show ¬ (j : Int) < (s.length : Int) by omega), e1, Option.bind_some]
    exact r1
  | succ d ih =>
    intro j x t i h hj hx hi
    obtain ⟨y, i1, h1, e1, g1⟩ := dOnce c i h 6 hi hc
    have hS : (x.length < 5864062014805) = True := eq_true (by omega)
    have hwj : wrap64 ((j : Int) + 1) = ((j + 1 : Nat) : Int) := by rw [w64 (by omega) (by omega)]; omega
    cases y with
    | true =>
      obtain ⟨x', i', h', r1, r2, r3⟩ := ih (j + 1) (x ++ [(⟨(rd_T54 s (j : Int)).f0, (⟨#[122]⟩ : ByteArray)⟩ : S54)]) ((rd_T54 s (j : Int)).f0) i1 h1 (by omega) (by simp; omega) g1
      refine ⟨x', i', h', EvS ?_, r2, r3⟩
      simp only [spec_l05DrawEntries.l0, if_pos (show (j : Int) < (s.length : Int) by omega), if_pos (show 0 ≤ (j : Int) by omega), e1, Option.bind_some, if_true, hS, hwj]
      exact r1
    | false =>
      obtain ⟨x', i', h', r1, r2, r3⟩ := ih (j + 1) (x ++ [(⟨(rd_T54 s (j : Int)).f0, (rd_T54 s (j : Int)).f1⟩ : S54)]) ((rd_T54 s (j : Int)).f0) i1 h1 (by omega) (by simp; omega) g1
      refine ⟨x', i', h', EvS ?_, r2, r3⟩
      simp only [spec_l05DrawEntries.l0, if_pos (show (j : Int) < (s.length : Int) by omega), if_pos (show 0 ≤ (j : Int) by omega), e1, Option.bind_some, Bool.false_eq_true, if_false, hS, if_true, hwj]
      exact r1
theorem dEntries (c : List Int) (hc : c.length ≤ 1048576) (i h a b p : Int) (l : List S54) (hl : l.length ≤ 60) (hi : At c i) : ∃ (x : List S54) (i' h' : Int), Ev (fun k => spec_l05DrawEntries.f k c i h a b l p) (x, i', h') ∧ x.length ≤ 10 ∧ At c i' := by
  have J : ∀ t : Int, ∃ (x : List S54) (i' h' : Int), Ev (fun k => spec_l05DrawEntries.j0 k p [] t c i h a b l) (x, i', h') ∧ x.length ≤ 10 ∧ At c i' := by
    intro t
    obtain ⟨y, i1, h1, e1, y0, y1, _, g1⟩ := dBelow c i h 4 hi hc
    have y1 := y1 (by omega)
    have hlen : (tailR a b l (wrap64 (p + 1)) y).length ≤ 3 := by
      unfold tailR
      split
      · rw [List.length_take]; omega
      simp
    obtain ⟨x', i', h', r1, r2, r3⟩ := dEnt0 c hc (tailR a b l (wrap64 (p + 1)) y) (by omega) (tailR a b l (wrap64 (p + 1)) y).length 0 [] t i1 h1 (by omega) rfl g1
    refine ⟨x', i', h', EvS ?_, by omega, r3⟩
    simp only [spec_l05DrawEntries.j0, e1, Option.bind_some]
    exact (EvB (spec_tail a b l (wrap64 (p + 1)) y (by omega))).2 r1
  unfold spec_l05DrawEntries.f
  simp only [Option.bind_some]
  have hT := spec_term a b l p (by omega)
  by_cases c1 : termR a b l p < 1
  · obtain ⟨x, i', h', r, r2⟩ := J 1
    exact ⟨x, i', h', (EvB hT).2 (by simp only [if_pos c1]; exact r), r2⟩
  obtain ⟨x, i', h', r, r2⟩ := J (termR a b l p)
  exact ⟨x, i', h', (EvB hT).2 (by simp only [if_neg c1]; exact r), r2⟩
theorem dRight (l0 : List Int) (h0 : l0.length ≤ 1048576) : ∃ (a b : Int) (l : List S54) (p : Int) (es : List S54), Ev (fun k => spec_DrawRightLog.f k l0) (a, b, l, p, es) ∧ okR a b l = true ∧ inL a l p ∧ es.length ≤ 10 := by
  obtain ⟨h, e0⟩ := dNew l0 h0
  obtain ⟨a, b, l, i1, h1, e1, hR, ha, hl, g1⟩ := dLog l0 l0 h0 h0 0 h ⟨by omega, by omega⟩
  obtain ⟨y, i2, h2, e2, y0, y1, _, g2⟩ := dBelow l0 i1 h1 ((l.length : Int) + 1) g1 h0
  have y1 := y1 (by omega)
  have hb := okR_bd hR
  obtain ⟨x, i3, h3, e3, hx, _⟩ := dEntries l0 h0 i2 h2 a b (a + y) l (by omega) g2
  refine ⟨a, b, l, a + y, x, ?_, hR, ⟨by omega, by unfold lastM; omega⟩, hx⟩
  unfold spec_DrawRightLog.f
  refine (EvB e0).2 ?_
  refine (EvB e1).2 ?_
  simp only [show wrap64 ((l.length : Int) + 1) = (l.length : Int) + 1 from w64 (by omega) (by omega), e2, Option.bind_some, show wrap64 (a + y) = a + y from w64 (by omega) (by omega)]
  exact (EvB e3).2 EvN
end Go.Proofs.Ytalbkbmnjpameaa.DR

namespace Go.Proofs.Ytalbkbmnjpameaa.Pure
set_option linter.unusedVariables false
set_option linter.unusedSimpArgs false
open Go.RowKit Go.Proofs.Ytalbkbmnjpameaa.F Go.Proofs.Ytalbkbmnjpameaa.PK Go.Proofs.YtalbkbmnjpameaaW.PrintWords Go.Proofs.YtalbkbmnjpameaaW.PrintLast
open Go.Proofs.Ytalbkbmnjpameaa.RL Go.Proofs.Ytalbkbmnjpameaa.DR
theorem impl_ok' (a b : Int) (l : List S54) (hl : l.length ≤ 9223372036854775807) : Ev (fun k => impl_RLogOk.f k a b l) (okR a b l) := by
  unfold impl_RLogOk.f
  exact (EvB (impl_ok a b l hl)).2 EvN
theorem FnAppended : laws_FnAppended.Pure := by
  intro l0 _ _ _
  refine EvE ?_
  unfold laws_FnAppended.f laws_big.f
  simp only [Option.bind_some, decide_eq_true_eq]
  by_cases h : (l0.length : Int) > 1048576
  · simp only [if_pos h]; exact EvN
  simp only [if_neg h]
  obtain ⟨a, b, l, p, es, hD, hR, hi, he⟩ := dRight l0 (by omega)
  have hb := okR_bd hR
  have hin : a ≤ p ∧ p ≤ a + (l.length : Int) := hi
  refine (EvB hD).2 ?_
  simp only
  have hT := impl_termAt a b l p (by omega)
  have htr : termR a b l p = termM a b l p := by unfold termR; rw [if_pos ⟨hR, hi⟩]
  rw [htr] at hT
  have hT' := spec_term a b l p (by omega)
  rw [htr] at hT'
  refine (EvB hT).2 ?_
  have hA := impl_app a b l p (termM a b l p) es (by omega)
  have hA' := spec_app a b l p (termM a b l p) es (by omega)
  obtain ⟨X, hX⟩ : ∃ X, X = apG l (p - a).toNat es := ⟨_, rfl⟩
  have hap : appR a b l p (termM a b l p) es = finA a b l X := by unfold appR; rw [if_pos ⟨hR, hi, rfl, he⟩, hX]
  rw [hap] at hA hA'
  have hXl := apG_len l es (p - a).toNat
  rw [← hX] at hXl
  refine (EvB hA).2 ?_
  refine (EvB (impl_ok' a b l (by omega))).2 ?_
  simp only [if_pos hR]
  have bad : ∀ t : Int, termM a b l p = t → okR a b X = false → Ev (fun k => laws_FnAppended.j0 k p es t false true a b l a b l) true := by
    intro t ht hx
    refine EvS ?_
    simp only [laws_FnAppended.j0, if_true]
    refine (EvB hT').2 ?_
    refine (EvB hA').2 ?_
    unfold finA
    rw [hx]
    simp only [Bool.false_eq_true, if_false]
    exact (EvB (sameL a b l (by omega))).2 EvN
  cases hx : okR a b X with
  | false =>
    unfold finA
    rw [hx]
    simp only [Bool.false_eq_true, if_false]
    exact bad _ rfl hx
  | true =>
    unfold finA
    rw [hx]
    simp only [if_true]
    refine (EvB (impl_ok' a b X (by omega))).2 ?_
    rw [hx]
    refine EvS ?_
    have hL := impl_last a b X (by omega)
    rw [if_pos hx] at hL
    obtain ⟨ht1, ht2⟩ := apG_take l es (p - a).toNat (by omega)
    have ht3 := apG_terms l es (p - a).toNat (by omega)
    rw [← hX] at ht1 ht2 ht3
    have hbX := okR_bd hx
    have hlX : lastM a X = a + (X.length : Int) := rfl
    simp only [laws_FnAppended.j0, Bool.not_true, Bool.false_eq_true, if_false]
    refine (EvB hL).2 ?_
    rw [w64 (x := p + (es.length : Int)) (by omega) (by omega)]
    simp only [if_neg (show ¬ lastM a X < p + (es.length : Int) by rw [hlX]; omega)]
    have rest : Ev (fun k => laws_FnAppended.l1 k p es (termM a b l p) (tailR a b X (p + 1) 10) ((0 : Nat) : Int) a b l a b X) true := by
      refine up (P := fun i => Ev (fun k => laws_FnAppended.l1 k p es (termM a b l p) (tailR a b X (p + 1) 10) i a b l a b X) true) es.length ?_ ?_ 0 (Nat.zero_le _)
      · refine EvS ?_
        simp only [laws_FnAppended.l1, Int.lt_irrefl, if_false]
        have htm : termM a b X p = termM a b l p := term_take ht1 hin.1 (Int.le_refl _)
        have hiX : inL a X p := ⟨hin.1, by rw [hlX]; omega⟩
        have hG := impl_app a b X p (termM a b l p) es (by omega)
        have hap2 : appR a b X p (termM a b l p) es = (a, b, X, true) := by
          unfold appR
          rw [if_pos ⟨hx, hiX, htm, he⟩, apG_self X es _ ht2 ht3]
          unfold finA
          rw [if_pos hx]
        rw [hap2] at hG
        refine (EvB hG).2 ?_
        simp only [if_true]
        refine (EvB (sameL a b X (by omega))).2 ?_
        simp only [if_true]
        refine (EvB (impl_ag a b X a b l (by omega) (by omega))).2 ?_
        have hge : agR a b X a b l ≥ p := by
          unfold agR
          rw [if_pos ⟨hx, hR⟩]
          have := agM_ge (agP a b X a b l) p.toNat (by
            unfold agP
            rw [Int.toNat_of_nonneg (by omega)]
            exact decide_eq_true ⟨hiX, hi, htm⟩) ((lastM a X).toNat + 1) (by rw [hlX]; omega)
          omega
        simp only [if_pos hge]
        refine (EvB hL).2 ?_
        have hT3 := impl_termAt a b X (lastM a X) (by omega)
        rw [show termR a b X (lastM a X) = termM a b X (lastM a X) by unfold termR; rw [if_pos ⟨hx, in_last hx⟩]] at hT3
        refine (EvB hT3).2 ?_
        refine (EvB hL).2 ?_
        have hU := impl_up a b X (termM a b X (lastM a X)) (lastM a X) (by omega)
        rw [show RL.upM a b X (termM a b X (lastM a X)) (lastM a X) = true by unfold RL.upM; simp [hx]] at hU
        exact (EvB hU).2 EvN
      intro i hi' ih
      refine EvS ?_
      have htl : tailR a b X (p + 1) 10 = (X.drop (p - a).toNat).take 10 := by
        unfold tailR
        rw [if_pos ⟨hx, by omega, by rw [hlX]; omega, by omega⟩, show p + 1 - a - 1 = p - a by omega]
        rfl
      have hlen : ((X.drop (p - a).toNat).take 10).length = min 10 (X.length - (p - a).toNat) := by rw [List.length_take, List.length_drop]
      have hil : i < ((X.drop (p - a).toNat).take 10).length := by rw [hlen]; omega
      have hq := ht3 i hi'
      have hq2 : ((X.drop (p - a).toNat).take 10)[i]? = X[(p - a).toNat + i]? := by
        rw [List.getElem?_take_of_lt (by omega), List.getElem?_drop]
      have heq : (rd_T54 ((X.drop (p - a).toNat).take 10) (i : Int)).f0 = (rd_T54 es (i : Int)).f0 := by
        have e1 := rdT_map _ i hil
        have e2 := rdT_map es i hi'
        rw [hq2, hq, e2] at e1
        exact (Option.some.inj e1).symm
      rw [htl] at ih ⊢
      simp only [laws_FnAppended.l1, if_pos (show (i : Int) < (es.length : Int) by omega), if_neg (show ¬ (i : Int) ≥ (((X.drop (p - a).toNat).take 10).length : Int) by omega), if_pos (show 0 ≤ (i : Int) by omega), if_pos (show (i : Int) < (((X.drop (p - a).toNat).take 10).length : Int) by omega), if_pos heq, nxt i _ hi' (show es.length ≤ 9223372036854775807 by omega)]
      exact ih
    have lp : ∀ (d : Nat) (i : Int), (d : Int) = p + 1 - i → a ≤ i → Ev (fun k => laws_FnAppended.l0 k p es (termM a b l p) i a b l a b X) true := by
      intro d
      induction d with
      | zero =>
        intro i hd hai
        refine EvS ?_
        simp only [laws_FnAppended.l0, if_neg (show ¬ i ≤ p by omega), show wrap64 (p + 1) = p + 1 from w64 (by omega) (by omega)]
        exact (EvB (impl_tail a b X (p + 1) 10 (by omega))).2 rest
      | succ d ih =>
        intro i hd hai
        refine EvS ?_
        have hip : i ≤ p := by omega
        have h1 := impl_termAt a b X i (by omega)
        have h2 := impl_termAt a b l i (by omega)
        rw [show termR a b X i = termM a b l i by unfold termR; rw [if_pos ⟨hx, hai, by rw [hlX]; omega⟩]; exact term_take ht1 hai hip] at h1
        rw [show termR a b l i = termM a b l i by unfold termR; rw [if_pos ⟨hR, hai, by unfold lastM; omega⟩]] at h2
        simp only [laws_FnAppended.l0, if_pos hip]
        refine (EvB h1).2 ?_
        refine (EvB h2).2 ?_
        simp only [if_true, show wrap64 (i + 1) = i + 1 from w64 (by omega) (by omega)]
        exact ih (i + 1) (by omega) (by omega)
    exact lp (p + 1 - a).toNat a (by omega) (Int.le_refl _)
end Go.Proofs.Ytalbkbmnjpameaa.Pure
