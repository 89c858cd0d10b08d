/- Merged texts below the law FnExactFinish: Go functions as Lean functions, their contracts, and plain lemmas. -/
import Derived.Test.YtedlgllhaboljaaQFnExactFinish22
import Derived.Test.YtedlgllhaboljaaQFnExactFinish23
import Derived.Test.YtedlgllhaboljaaQFnExactFinish24
import Derived.Test.YtedlgllhaboljaaQFnExactFinish25
import Derived.Deep.Slices
import Derived.ChangeSame
import Derived.WideShapes
namespace Go.Proofs.Ytedlgllhaboljaa.KI
set_option linter.unusedVariables false
set_option linter.unusedSimpArgs false
open Go.RowKit Go.Proofs.Ytedlgllhaboljaa.F Go.Proofs.Ytedlgllhaboljaa.PK Go.Proofs.YtedlgllhaboljaaW.PrintWords Go.Proofs.YtedlgllhaboljaaW.PrintLast Go.Proofs.YtedlgllhaboljaaW.PrintMore
theorem rd_at (l : List Int) (i : Nat) (h : i < l.length) : rd l (i : Int) = l[i] := getD_nat l _ i h
theorem nxt (i n : Nat) (h : i < n) (hn : n ≤ 9223372036854775807) : wrap64 ((i : Int) + 1) = ((i + 1 : Nat) : Int) := by rw [w64 (by omega) (by omega)]; omega
theorem toIntS (l : List Int) (hl : l.length ≤ 1048576) : Ev (fun k => laws_toIntS.f k l) l := by
  have key := up (P := fun i => ∀ x : List Int, x.length = l.length → (∀ j : Nat, (j : Int) < i → x[j]? = l[j]?) → Ev (fun k => laws_toIntS.l0 k l x i) l) l.length
      (fun x h0 h1 => by
        have : x = l := List.ext_getElem? fun j => by
          by_cases hj : j < l.length
          · exact h1 j (by omega)
          · rw [List.getElem?_eq_none (by omega), List.getElem?_eq_none (by omega)]
        subst this
        exact EvS (by simp only [laws_toIntS.l0, Int.lt_irrefl, if_false]; exact EvN))
      (fun i hi ih x h0 h1 => by
        refine EvS ?_
        simp only [laws_toIntS.l0, rd_at l i hi, Option.bind_some, h0, Int.toNat_natCast, if_pos (show (i : Int) < (l.length : Int) by omega), if_pos (show 0 ≤ (i : Int) by omega), nxt i _ hi (by omega)]
        refine ih _ (by simpa using h0) fun j hj => ?_
        by_cases hji : j = i
        · subst hji
          rw [List.getElem?_set_self (by omega)]
          simp [List.getElem?_eq_getElem hi]
        · rw [List.getElem?_set_ne (by omega)]
          exact h1 j (by omega))
  have := key 0 (Nat.zero_le _) (List.replicate l.length 0) (by simp) (fun j hj => absurd hj (by omega))
  unfold laws_toIntS.f
  have hS : (l.length ≤ 35184372088832) = True := eq_true (by omega)
  simp only [Int.toNat_natCast, if_pos (show 0 ≤ (l.length : Int) by omega), hS, if_true]
  exact this
theorem eqIntS (x : List Int) (hx : x.length ≤ 9223372036854775807) : Ev (fun k => laws_eqIntS.f k x x) true := by
  have key := up (P := fun i => Ev (fun k => laws_eqIntS.l0 k x x i) true) x.length
    (EvS (by simp only [laws_eqIntS.l0, Int.lt_irrefl, if_false]; exact EvN))
    (fun i hi ih => EvS (by simp only [laws_eqIntS.l0, if_true, Option.bind_some, if_pos (show (i : Int) < (x.length : Int) by omega), if_pos (show 0 ≤ (i : Int) by omega), nxt i _ hi hx]; exact ih))
  have := key 0 (Nat.zero_le _)
  unfold laws_eqIntS.f
  simp only [if_true]
  exact this
theorem has (l : List Int) (x : Int) (hl : l.length ≤ 9223372036854775807) : Ev (fun k => spec_l01Has.f k l x) (l.contains x) := by
  have key := up0 (P := fun i => Ev (fun k => spec_l01Has.l0 k l x i) ((l.drop i.toNat).contains x)) l.length
    (EvS (by simp only [spec_l01Has.l0, Int.lt_irrefl, if_false, Int.toNat_natCast, List.drop_length]; exact EvN))
    (fun i hi ih => EvS (by
      rw [Int.toNat_natCast] at *
      simp only [spec_l01Has.l0, if_pos (show (i : Int) < (l.length : Int) by omega), if_pos (show 0 ≤ (i : Int) by omega), nxt i _ hi hl, rd_at l i hi]
      rw [drop_at l i hi, List.contains_cons]
      by_cases h : l[i] = x
      · simp only [if_pos h, beq_iff_eq.2 h.symm, Bool.true_or]; exact EvN
      · simp only [if_neg h, beq_eq_false_iff_ne.2 (Ne.symm h), Bool.false_or]; exact ih))
  exact key
theorem l06Same (x y : List Int) (hx : x.length ≤ 9223372036854775807) : Ev (fun k => spec_l06Same.f k x y) (decide (x = y)) := by
  unfold spec_l06Same.f
  by_cases hl : x.length = y.length
  · simp only [if_pos (show (x.length : Int) = (y.length : Int) by omega)]
    have key := up0 (P := fun i => Ev (fun k => spec_l06Same.l0 k x y i) (decide (x.drop i.toNat = y.drop i.toNat))) x.length
      (EvS (by
        simp only [spec_l06Same.l0, Int.lt_irrefl, if_false, Int.toNat_natCast, List.drop_length]
        rw [hl, List.drop_length]
        simp only [decide_true]
        exact EvN))
      (fun i hi ih => EvS (by
        have hiy : i < y.length := by omega
        simp only [spec_l06Same.l0, if_pos (show (i : Int) < (x.length : Int) by omega), if_pos (show 0 ≤ (i : Int) by omega), if_pos (show (i : Int) < (y.length : Int) by omega), nxt i _ hi hx, Int.toNat_natCast, rd_at x i hi, rd_at y i hiy, drop_at x i hi, drop_at y i hiy]
        by_cases he : x[i] = y[i]
        · simp only [he, if_true, List.cons.injEq, true_and]
          rw [Int.toNat_natCast] at ih
          exact ih
        · simp only [if_neg he, List.cons.injEq, he, false_and, decide_false]
          exact EvN))
    exact key
  · simp only [if_neg (show ¬ (x.length : Int) = (y.length : Int) by omega)]
    rw [decide_eq_false (fun h => hl (by rw [h]))]
    exact EvN
theorem sEqual (x y : List Int) (hx : x.length ≤ 9223372036854775807) : Ev (fun k => slices_Equal_int_int.f k x y) (decide (x = y)) := by
  unfold slices_Equal_int_int.f
  by_cases hl : x.length = y.length
  · simp only [if_pos (show (x.length : Int) = (y.length : Int) by omega)]
    have key := up0 (P := fun i => Ev (fun k => slices_Equal_int_int.l0 k x y (x.length : Int) i) (decide (x.drop i.toNat = y.drop i.toNat))) x.length
      (EvS (by
        simp only [slices_Equal_int_int.l0, Int.lt_irrefl, if_false, Int.toNat_natCast, List.drop_length]
        rw [hl, List.drop_length]
        simp only [decide_true]
        exact EvN))
      (fun i hi ih => EvS (by
        have hiy : i < y.length := by omega
        simp only [slices_Equal_int_int.l0, if_pos (show (i : Int) < (x.length : Int) by omega), if_pos (show 0 ≤ (i : Int) by omega), if_pos (show (i : Int) < (y.length : Int) by omega), nxt i _ hi hx, Int.toNat_natCast, rd_at x i hi, rd_at y i hiy, drop_at x i hi, drop_at y i hiy]
        by_cases he : x[i] = y[i]
        · simp only [he, if_true, List.cons.injEq, true_and]
          rw [Int.toNat_natCast] at ih
          exact ih
        · simp only [if_neg he, List.cons.injEq, he, false_and, decide_false]
          exact EvN))
    exact key
  · simp only [if_neg (show ¬ (x.length : Int) = (y.length : Int) by omega)]
    rw [decide_eq_false (fun h => hl (by rw [h]))]
    exact EvN
def goodAt (l : List Int) (i : Nat) : Bool := decide (0 ≤ rd l i ∧ rd l i ≤ 99 ∧ (0 < i → rd l ((i : Int) - 1) < rd l i))
def idsD (l : List Int) : Nat → Nat → Bool
  | 0, _ => decide (l.length ≤ 7)
  | d + 1, i => goodAt l i && idsD l d (i + 1)
def idsM (l : List Int) : Bool := idsD l l.length 0
theorem spec_ids (l : List Int) (hl : l.length ≤ 9223372036854775807) : Ev (fun k => spec_l06Ids.f k l) (idsM l) := by
  have key := up0 (P := fun i => Ev (fun k => spec_l06Ids.l0 k l i) (idsD l (l.length - i.toNat) i.toNat)) l.length
    (EvS (by
      simp only [spec_l06Ids.l0, Int.lt_irrefl, if_false, Int.toNat_natCast, Nat.sub_self, idsD]
      rw [show decide ((l.length : Int) ≤ 7) = decide (l.length ≤ 7) from decide_eq_decide.2 (by omega)]
      exact EvN))
    (fun i hi ih => EvS (by
      rw [Int.toNat_natCast] at *
      rw [show l.length - i = (l.length - (i + 1)) + 1 by omega]
      simp only [spec_l06Ids.l0, spec_l01In.f, if_pos (show (i : Int) < (l.length : Int) by omega), if_pos (show 0 ≤ (i : Int) by omega), nxt i _ hi hl, idsD]
      by_cases h1 : 0 ≤ rd l i
      · by_cases h2 : rd l i ≤ 99
        · simp only [if_pos h1, decide_eq_true h2, Option.bind_some, if_true]
          by_cases h3 : (i : Int) > 0
          · simp only [if_pos h3, w64 (show -9223372036854775808 ≤ (i : Int) - 1 by omega) (show (i : Int) - 1 ≤ 9223372036854775807 by omega), if_pos (show 0 ≤ (i : Int) - 1 by omega), if_pos (show (i : Int) - 1 < (l.length : Int) by omega)]
            by_cases h4 : rd l ((i : Int) - 1) ≥ rd l i
            · simp only [if_pos h4, goodAt, decide_eq_false (show ¬ (0 ≤ rd l i ∧ rd l i ≤ 99 ∧ (0 < i → rd l ((i : Int) - 1) < rd l i)) by omega), Bool.false_and]; exact EvN
            · simp only [if_neg h4, goodAt, decide_eq_true (show (0 ≤ rd l i ∧ rd l i ≤ 99 ∧ (0 < i → rd l ((i : Int) - 1) < rd l i)) by omega), Bool.true_and]; exact ih
          · simp only [if_neg h3, goodAt, decide_eq_true (show (0 ≤ rd l i ∧ rd l i ≤ 99 ∧ (0 < i → rd l ((i : Int) - 1) < rd l i)) by omega), Bool.true_and]; exact ih
        · simp only [if_pos h1, decide_eq_false h2, Option.bind_some, Bool.false_eq_true, if_false, goodAt, decide_eq_false (show ¬ (0 ≤ rd l i ∧ rd l i ≤ 99 ∧ (0 < i → rd l ((i : Int) - 1) < rd l i)) by omega), Bool.false_and]; exact EvN
      · simp only [if_neg h1, Option.bind_some, Bool.false_eq_true, if_false, goodAt, decide_eq_false (show ¬ (0 ≤ rd l i ∧ rd l i ≤ 99 ∧ (0 < i → rd l ((i : Int) - 1) < rd l i)) by omega), Bool.false_and]; exact EvN))
  exact key
theorem impl_ids (l : List Int) (hl : l.length ≤ 9223372036854775807) : Ev (fun k => impl_areIds.f k l) (idsM l) := by
  have key := up0 (P := fun i => Ev (fun k => impl_areIds.l0 k l l (l.length : Int) i) (idsD l (l.length - i.toNat) i.toNat)) l.length
    (EvS (by
      simp only [impl_areIds.l0, Int.lt_irrefl, if_false, Int.toNat_natCast, Nat.sub_self, idsD]
      rw [show decide ((l.length : Int) ≤ 7) = decide (l.length ≤ 7) from decide_eq_decide.2 (by omega)]
      exact EvN))
    (fun i hi ih => EvS (by
      rw [Int.toNat_natCast] at *
      rw [show l.length - i = (l.length - (i + 1)) + 1 by omega]
      simp only [impl_areIds.l0, if_pos (show (i : Int) < (l.length : Int) by omega), if_pos (show 0 ≤ (i : Int) by omega), nxt i _ hi hl, idsD]
      by_cases h1 : rd l i < 0
      · simp only [if_pos h1, goodAt, decide_eq_false (show ¬ (0 ≤ rd l i ∧ rd l i ≤ 99 ∧ (0 < i → rd l ((i : Int) - 1) < rd l i)) by omega), Bool.false_and]; exact EvN
      by_cases h2 : rd l i > 99
      · simp only [if_neg h1, if_pos h2, goodAt, decide_eq_false (show ¬ (0 ≤ rd l i ∧ rd l i ≤ 99 ∧ (0 < i → rd l ((i : Int) - 1) < rd l i)) by omega), Bool.false_and]; exact EvN
      simp only [if_neg h1, if_neg h2]
      by_cases h3 : (i : Int) > 0
      · simp only [if_pos h3, w64 (show -9223372036854775808 ≤ (i : Int) - 1 by omega) (show (i : Int) - 1 ≤ 9223372036854775807 by omega), if_pos (show 0 ≤ (i : Int) - 1 by omega), if_pos (show (i : Int) - 1 < (l.length : Int) by omega)]
        by_cases h4 : rd l ((i : Int) - 1) ≥ rd l i
        · simp only [if_pos h4, goodAt, decide_eq_false (show ¬ (0 ≤ rd l i ∧ rd l i ≤ 99 ∧ (0 < i → rd l ((i : Int) - 1) < rd l i)) by omega), Bool.false_and]; exact EvN
        · simp only [if_neg h4, goodAt, decide_eq_true (show (0 ≤ rd l i ∧ rd l i ≤ 99 ∧ (0 < i → rd l ((i : Int) - 1) < rd l i)) by omega), Bool.true_and]; exact ih
      · simp only [if_neg h3, goodAt, decide_eq_true (show (0 ≤ rd l i ∧ rd l i ≤ 99 ∧ (0 < i → rd l ((i : Int) - 1) < rd l i)) by omega), Bool.true_and]; exact ih))
  exact key
end Go.Proofs.Ytedlgllhaboljaa.KI

namespace Go.Proofs.Ytedlgllhaboljaa.KI
set_option linter.unusedVariables false
set_option linter.unusedSimpArgs false
open Go.RowKit Go.Proofs.Ytedlgllhaboljaa.F Go.Proofs.Ytedlgllhaboljaa.PK Go.Proofs.YtedlgllhaboljaaW.PrintWords Go.Proofs.YtedlgllhaboljaaW.PrintLast Go.Proofs.YtedlgllhaboljaaW.PrintMore
def learnM (o n l : List Int) : Bool := l.any fun x => o.contains x || n.contains x
def okC (o n l : List Int) : Bool := idsM o && decide (0 < o.length) && idsM n && idsM l && !decide (o = n) && !learnM o n l
theorem specLearn (o n l : List Int) (ho : o.length ≤ 9223372036854775807) (hn : n.length ≤ 9223372036854775807) (hl : l.length ≤ 9223372036854775807) : Ev (fun k => spec_ConfOk.l0 k 0 o n l) (!learnM o n l) :=
  up0 (P := fun i => Ev (fun k => spec_ConfOk.l0 k i o n l) (!learnM o n (l.drop i.toNat))) l.length
    (EvS (by simp only [spec_ConfOk.l0, Int.lt_irrefl, if_false, Int.toNat_natCast, List.drop_length]; exact EvN))
    (fun i hi ih => EvS (by
      rw [Int.toNat_natCast] at *
      simp only [spec_ConfOk.l0, if_pos (show (i : Int) < (l.length : Int) by omega), if_pos (show 0 ≤ (i : Int) by omega), nxt i _ hi hl, rd_at l i hi, EvB (has o l[i] ho)]
      rw [drop_at l i hi]
      simp only [learnM, List.any_cons]
      cases h1 : o.contains l[i] with
      | true => simp only [if_true, Bool.true_or, Bool.not_true]; exact EvN
      | false =>
        simp only [Bool.false_eq_true, if_false, EvB (has n l[i] hn), Bool.false_or]
        cases h2 : n.contains l[i] with
        | true => simp only [if_true, Bool.true_or, Bool.not_true]; exact EvN
        | false => simp only [Bool.false_eq_true, if_false, Bool.false_or]; exact ih))
theorem specJ (x : Bool) (o n l : List Int) (ho : o.length ≤ 9223372036854775807) (hn : n.length ≤ 9223372036854775807) (hl : l.length ≤ 9223372036854775807) : Ev (fun k => spec_ConfOk.j0 k x o n l) (!x && !learnM o n l) := by
  refine EvS ?_
  cases x with
  | true => simp only [spec_ConfOk.j0, if_true, Bool.not_true, Bool.false_and]; exact EvN
  | false => simp only [spec_ConfOk.j0, Bool.false_eq_true, if_false, Bool.not_false, Bool.true_and]; exact specLearn o n l ho hn hl
theorem EvQ {α : Type} {g : Nat → Option α} {r s : α} (h : Ev g r) (e : r = s) : Ev g s := e ▸ h
theorem spec_ok (o n l : List Int) (ho : o.length ≤ 9223372036854775807) (hn : n.length ≤ 9223372036854775807) (hl : l.length ≤ 9223372036854775807) : Ev (fun k => spec_ConfOk.f k o n l) (okC o n l) := by
  have J := fun x => specJ x o n l ho hn hl
  have hS : Ev (fun k => spec_l06Set.f k o) (idsM o && decide (0 < o.length)) := by
    unfold spec_l06Set.f
    simp only [EvB (spec_ids o ho)]
    cases h : idsM o with
    | true => simp only [if_true, Bool.true_and]; rw [show decide ((o.length : Int) > 0) = decide (0 < o.length) from decide_eq_decide.2 (by omega)]; exact EvN
    | false => simp only [Bool.false_eq_true, if_false, Bool.false_and]; exact EvN
  unfold spec_ConfOk.f okC
  simp only [EvB hS]
  cases h1 : (idsM o && decide (0 < o.length)) with
  | false => simp only [Bool.false_eq_true, if_false, Bool.false_and]; exact EvQ (J true) (by simp)
  | true =>
    simp only [if_true, EvB (spec_ids n hn), Bool.true_and]
    cases h2 : idsM n with
    | false => simp only [Bool.false_eq_true, if_false, Bool.false_and]; exact EvQ (J true) (by simp)
    | true =>
      simp only [if_true, EvB (spec_ids l hl), Bool.true_and]
      cases h3 : idsM l with
      | false => simp only [Bool.false_eq_true, if_false, Bool.false_and]; exact EvQ (J true) (by simp)
      | true => simp only [if_true, EvB (l06Same o n ho), Bool.true_and]; exact J _
theorem impl_ok (o n l : List Int) (ho : o.length ≤ 9223372036854775807) (hn : n.length ≤ 9223372036854775807) (hl : l.length ≤ 9223372036854775807) : Ev (fun k => impl_isConf.f k o n l) (okC o n l) := by
  unfold impl_isConf.f okC
  simp only [EvB (impl_ids o ho)]
  cases h1 : idsM o with
  | false => simp only [Bool.false_eq_true, if_false, Bool.false_and]; exact EvN
  | true =>
    simp only [if_true, Bool.true_and]
    by_cases h0 : (o.length : Int) = 0
    · simp only [if_pos h0, decide_eq_false (show ¬ 0 < o.length by omega), Bool.false_and]; exact EvN
    simp only [if_neg h0, decide_eq_true (show 0 < o.length by omega), Bool.true_and, EvB (impl_ids n hn)]
    cases h2 : idsM n with
    | false => simp only [Bool.false_eq_true, if_false, Bool.false_and]; exact EvN
    | true =>
      simp only [if_true, Bool.true_and, EvB (sEqual o n ho)]
      by_cases h3 : o = n
      · simp only [decide_eq_true h3, if_true, Bool.not_true, Bool.and_false, Bool.false_and]; exact EvN
      simp only [decide_eq_false h3, Bool.false_eq_true, if_false, EvB (impl_ids l hl), Bool.not_false, Bool.and_true]
      cases h4 : idsM l with
      | false => simp only [Bool.false_eq_true, if_false, Bool.false_and]; exact EvN
      | true =>
        simp only [if_true, Bool.true_and, impl_isConf_learn.f, if_pos (show o.length ≤ 9223372036854775807 ∧ n.length ≤ 9223372036854775807 ∧ l.length ≤ 9223372036854775807 from ⟨ho, hn, hl⟩), Option.bind_some]
        exact EvN
theorem szIntS (l : List Int) (c : Int) (h0 : 0 ≤ c) (h1 : c ≤ 1048576) (hl : l.length ≤ 9223372036854775807) : ∃ t, laws_szIntS.f l c = some t ∧ t ≤ c ∧ (0 ≤ t → (l.length : Int) ≤ c) := by
  unfold laws_szIntS.f
  rw [w64 (by omega) (by omega)]
  split
  · exact ⟨_, rfl, by omega, by omega⟩
  · exact ⟨_, rfl, by omega, by omega⟩
theorem szConf (o n l : List Int) (c : Int) (h0 : 0 ≤ c) (h1 : c ≤ 1048576) (ho : o.length ≤ 9223372036854775807) (hn : n.length ≤ 9223372036854775807) (hl : l.length ≤ 9223372036854775807) : ∃ t, laws_szConf.f o n l c = some t ∧ t ≤ c ∧ (0 ≤ t → o.length ≤ 1048576 ∧ n.length ≤ 1048576 ∧ l.length ≤ 1048576) := by
  obtain ⟨t, e, a1, a2⟩ := szIntS o c h0 h1 ho
  unfold laws_szConf.f
  by_cases g : t < 0
  · exact ⟨-1, by simp only [e, Option.bind_some, if_pos g], by omega, by omega⟩
  obtain ⟨t1, e1, b1, b2⟩ := szIntS n t (by omega) (by omega) hn
  by_cases g1 : t1 < 0
  · exact ⟨-1, by simp only [e, Option.bind_some, if_neg g, e1, if_pos g1], by omega, by omega⟩
  obtain ⟨t2, e2, c1, c2⟩ := szIntS l t1 (by omega) (by omega) hl
  by_cases g2 : t2 < 0
  · exact ⟨-1, by simp only [e, Option.bind_some, if_neg g, e1, if_neg g1, e2, if_pos g2], by omega, by omega⟩
  · exact ⟨t2, by simp only [e, Option.bind_some, if_neg g, e1, if_neg g1, e2, if_neg g2], by omega, by omega⟩
theorem toConf (o n l : List Int) (h : o.length ≤ 1048576 ∧ n.length ≤ 1048576 ∧ l.length ≤ 1048576) : Ev (fun k => laws_toConf.f k o n l) (o, n, l) := by
  unfold laws_toConf.f
  simp only [EvB (toIntS o h.1), EvB (toIntS n h.2.1), EvB (toIntS l h.2.2)]
  exact EvN
theorem eqConf (o n l : List Int) (h : o.length ≤ 9223372036854775807 ∧ n.length ≤ 9223372036854775807 ∧ l.length ≤ 9223372036854775807) : Ev (fun k => laws_eqConf.f k o n l o n l) true := by
  unfold laws_eqConf.f
  simp only [EvB (eqIntS o h.1), EvB (eqIntS n h.2.1), EvB (eqIntS l h.2.2), if_true]
  exact EvN
end Go.Proofs.Ytedlgllhaboljaa.KI

namespace Go.Proofs.Ytedlgllhaboljaa.KI
set_option linter.unusedVariables false
set_option linter.unusedSimpArgs false
open Go.RowKit Go.Proofs.Ytedlgllhaboljaa.F Go.Proofs.Ytedlgllhaboljaa.PK Go.Proofs.YtedlgllhaboljaaW.PrintWords Go.Proofs.YtedlgllhaboljaaW.PrintLast Go.Proofs.YtedlgllhaboljaaW.PrintMore
theorem sCopy (l : List Int) (hl : l.length ≤ 1000000000) : Ev (fun k => spec_l01Copy.f k l) l := by
  have key := up (P := fun i => ∀ x : List Int, (x.length : Int) = i → x = l.take i.toNat → Ev (fun k => spec_l01Copy.l0 k l x i) l) l.length
    (fun x hx he => EvS (by
      rw [Int.toNat_natCast, List.take_length] at he
      simp only [spec_l01Copy.l0, Int.lt_irrefl, if_false, he]; exact EvN))
    (fun i hi ih x hx he => EvS (by
      have hS : (x.length < 17592186044416) = True := eq_true (by omega)
      simp only [spec_l01Copy.l0, if_pos (show (i : Int) < (l.length : Int) by omega), if_pos (show 0 ≤ (i : Int) by omega), hS, if_true, rd_at l i hi, nxt i _ hi (show l.length ≤ 9223372036854775807 by omega)]
      refine ih _ (by simp; omega) ?_
      rw [Int.toNat_natCast] at he
      rw [Int.toNat_natCast, he, List.take_add_one, List.getElem?_eq_getElem hi]
      rfl))
  unfold spec_l01Copy.f
  exact key 0 (Nat.zero_le _) [] rfl (by simp)
theorem s6Copy (o n l : List Int) (h : o.length ≤ 1048576 ∧ n.length ≤ 1048576 ∧ l.length ≤ 1048576) : Ev (fun k => spec_l06Copy.f k o n l) (o, n, l) := by
  unfold spec_l06Copy.f
  simp only [EvB (sCopy o (by omega)), EvB (sCopy n (by omega)), EvB (sCopy l (by omega))]
  exact EvN
theorem iCopy (o n l : List Int) (h : o.length ≤ 1048576 ∧ n.length ≤ 1048576 ∧ l.length ≤ 1048576) : impl_copyConf.f o n l = some (o, n, l) := by
  have hS : ∀ x : List Int, x.length ≤ 1048576 → (([] : List Int).length + x.length < 17592186044416) = True := fun x hx => eq_true (by simp only [List.length_nil]; omega)
  simp only [impl_copyConf.f, Option.bind_some, hS o h.1, hS n h.2.1, hS l h.2.2, if_true, List.nil_append]
theorem markIntS (l : List Int) (s : Int) (hl : l.length ≤ 3000000) (h0 : 0 ≤ s) (h1 : s ≤ 1000000000000) : ∃ (m : Int) (l' : List Int), Ev (fun k => laws_markIntS.f k l s) (m, l') ∧ s ≤ m ∧ m ≤ s + l.length ∧ Ev (fun k => laws_heldIntS.f k l' s) m := by
  obtain ⟨m, l', h1, h2, h5, _, _, h3⟩ := marks laws_markIntS.l0 laws_heldIntS.l0 1 (by omega) l.length 9223372036854775000
    (fun l a hl => EvS (by simp only [laws_markIntS.l0, hl, Int.lt_irrefl, if_false]; exact EvN))
    (fun l a hl => EvS (by simp only [laws_heldIntS.l0, hl, Int.lt_irrefl, if_false]; exact EvN))
    (fun i l1 a hi hl1 h0 hN => by
      have hw1 : wrap64 (a + 1) = a + 1 := w64 (by omega) (by omega)
      refine ⟨a, a + 1, by omega, by omega, fun r hr => EvS ?_, fun l' r hl' he hr => EvS ?_⟩
      · simp only [laws_markIntS.l0, if_pos (show (i : Int) < (l1.length : Int) by omega), if_pos (show 0 ≤ (i : Int) by omega), hw1, Int.toNat_natCast, nxt i l.length hi (by omega)]
        exact hr
      · have hli : i < l'.length := by omega
        rw [List.getElem?_eq_getElem hli] at he
        have he := Option.some.inj he
        simp only [laws_heldIntS.l0, if_pos (show (i : Int) < (l'.length : Int) by omega), if_pos (show 0 ≤ (i : Int) by omega), rd_at l' i hli, he, if_true, hw1, nxt i l.length hi (by omega)]
        exact hr)
    0 (Nat.zero_le _) l s rfl (by omega) (by omega)
  refine ⟨m, l', ?_, h2, by omega, ?_⟩
  · unfold laws_markIntS.f
    exact h1
  · unfold laws_heldIntS.f
    exact h3
theorem markConf (o n l : List Int) (h : o.length ≤ 2097152 ∧ n.length ≤ 2097152 ∧ l.length ≤ 2097152) : ∃ (m : Int) (o' n' l' : List Int), Ev (fun k => laws_markConf.f k o n l 1) (m, o', n', l') ∧ 1 ≤ m ∧ Ev (fun k => laws_heldConf.f k o' n' l' 1) m := by
  obtain ⟨a, o', a1, a2, a3, a4⟩ := markIntS o 1 (by omega) (by omega) (by omega)
  obtain ⟨b, n', b1, b2, b3, b4⟩ := markIntS n a (by omega) (by omega) (by omega)
  obtain ⟨c, l', c1, c2, c3, c4⟩ := markIntS l b (by omega) (by omega) (by omega)
  refine ⟨c, o', n', l', ?_, by omega, ?_⟩
  · unfold laws_markConf.f
    simp only [EvB a1, EvB b1, EvB c1]
    exact EvN
  · unfold laws_heldConf.f
    simp only [EvB a4, EvB b4, EvB c4, if_neg (show ¬ a < 0 by omega), if_neg (show ¬ b < 0 by omega), if_neg (show ¬ c < 0 by omega)]
    exact EvN
end Go.Proofs.Ytedlgllhaboljaa.KI

namespace Go.Proofs.Ytedlgllhaboljaa.Pure
set_option linter.unusedVariables false
set_option linter.unusedSimpArgs false
open Go.RowKit Go.Proofs.Ytedlgllhaboljaa.F Go.Proofs.Ytedlgllhaboljaa.PK Go.Proofs.Ytedlgllhaboljaa.KI Go.Proofs.YtedlgllhaboljaaW.PrintWords Go.Proofs.YtedlgllhaboljaaW.PrintLast
def finR (o n l : List Int) : List Int × List Int × List Int × Bool := if okC o n l = true ∧ ¬ n.length = 0 then (n, [], l, true) else (o, n, l, false)
theorem finR_len (o n l : List Int) (h : o.length ≤ 1048576 ∧ n.length ≤ 1048576 ∧ l.length ≤ 1048576) : (finR o n l).1.length ≤ 1048576 ∧ (finR o n l).2.1.length ≤ 1048576 ∧ (finR o n l).2.2.1.length ≤ 1048576 := by
  unfold finR
  split
  · exact ⟨h.2.1, by simp, h.2.2⟩
  · exact h
theorem spec_fin (o n l : List Int) (h : o.length ≤ 1048576 ∧ n.length ≤ 1048576 ∧ l.length ≤ 1048576) : Ev (fun k => spec_Finish.f k o n l) (finR o n l) := by
  have J : ∀ x : Bool, x = !decide (okC o n l = true ∧ ¬ n.length = 0) → Ev (fun k => spec_Finish.j0 k x o n l) (finR o n l) := by
    intro x hx
    refine EvS ?_
    unfold finR
    by_cases hc : okC o n l = true ∧ ¬ n.length = 0
    · simp only [hx, decide_eq_true hc, Bool.not_true, spec_Finish.j0, Bool.false_eq_true, if_false, EvB (sCopy n (by omega)), EvB (sCopy l (by omega)), if_pos hc]
      exact EvN
    · simp only [hx, decide_eq_false hc, Bool.not_false, spec_Finish.j0, if_true, EvB (s6Copy o n l h), if_neg hc]
      exact EvN
  unfold spec_Finish.f
  simp only [EvB (spec_ok o n l (by omega) (by omega) (by omega))]
  by_cases h1 : okC o n l = true
  · simp only [if_pos h1]
    refine J _ ?_
    by_cases h2 : n.length = 0
    · simp [h2]
    · simp [h1, h2]
  · simp only [if_neg h1]
    exact J _ (by simp [h1])
theorem impl_fin (o n l : List Int) (h : o.length ≤ 1048576 ∧ n.length ≤ 1048576 ∧ l.length ≤ 1048576) : Ev (fun k => impl_Finish.f k o n l) (finR o n l) := by
  have hf : Ev (fun k => impl_finish.f k o n l) (finR o n l) := by
    unfold impl_finish.f finR
    simp only [iCopy o n l h, Option.bind_some, EvB (impl_ok o n l (by omega) (by omega) (by omega))]
    by_cases h1 : okC o n l = true
    · by_cases h2 : (n.length : Int) = 0
      · simp only [if_pos h1, if_pos h2, if_neg (show ¬ (okC o n l = true ∧ ¬ n.length = 0) from fun e => e.2 (by omega))]; exact EvN
      · simp only [if_pos h1, if_neg h2, if_pos (show (okC o n l = true ∧ ¬ n.length = 0) from ⟨h1, by omega⟩)]; exact EvN
    · simp only [if_neg h1, if_neg (show ¬ (okC o n l = true ∧ ¬ n.length = 0) from fun e => h1 e.1)]; exact EvN
  unfold impl_Finish.f
  simp only [EvB hf]
  exact EvN
theorem FnExactFinish : ∀ (l0_0 : List Int) (l0_1 : List Int) (l0_2 : List Int), (l0_0.length ≤ 9223372036854775807 ∧ ∀ y_ ∈ l0_0, ((Lit.int .i64 y_).wf = true)) → (l0_1.length ≤ 9223372036854775807 ∧ ∀ y_ ∈ l0_1, ((Lit.int .i64 y_).wf = true)) → (l0_2.length ≤ 9223372036854775807 ∧ ∀ y_ ∈ l0_2, ((Lit.int .i64 y_).wf = true)) → ∃ k, laws_FnExactFinish.f k l0_0 l0_1 l0_2 = some true := by
  intro o n l ho hn hl
  obtain ⟨t, ht, _, hlen⟩ := szConf o n l 1048576 (by omega) (by omega) ho.1 hn.1 hl.1
  refine EvE ?_
  unfold laws_FnExactFinish.f
  simp only [ht, Option.bind_some]
  by_cases h : t < 0
  · simp only [if_pos h]; exact EvN
  have hh := hlen (by omega)
  have hS := spec_fin o n l hh
  have hI := impl_fin o n l hh
  have hT := finR_len o n l hh
  generalize hr : finR o n l = r at hT hS hI
  obtain ⟨c, d, x, q⟩ := r
  simp only at hT
  obtain ⟨m, p1, p2, p3, h1, h2, _⟩ := markConf o n l (by omega)
  obtain ⟨m', q1, q2, q3, g1, g2, g3⟩ := markConf c d x (by omega)
  have hE := eqConf c d x (by omega)
  have hE2 := eqConf o n l (by omega)
  have hC := toConf o n l hh
  simp only [if_neg h, EvB hC, EvB hS, EvB hI, EvB hE, if_true, bne_self_eq_false]
  refine EvS ?_
  simp only [laws_FnExactFinish.j0, Bool.false_eq_true, if_false, EvB hC, EvB hE2, if_true, EvB h1, if_neg (show ¬ m < 0 by omega), EvB hE, bne_self_eq_false]
  refine EvS ?_
  simp only [laws_FnExactFinish.j1, Bool.false_eq_true, if_false, EvB g1, EvB g3, if_neg (show ¬ m' < 0 by omega), if_true, EvB hC, EvB hI, EvB hE, bne_self_eq_false]
  refine EvS ?_
  simp only [laws_FnExactFinish.j2, Bool.false_eq_true, if_false, EvB g3, if_neg (show ¬ m' < 0 by omega), if_true]
  exact EvN
end Go.Proofs.Ytedlgllhaboljaa.Pure

namespace Go.Proofs.Ytedlgllhaboljaa.Opens
set_option linter.unusedVariables false
set_option linter.unusedSimpArgs false
open Go.RowKit Go.Proofs.YtedlgllhaboljaaW.PrintWords
def Opens (P : Program) (t : TypeId) {α : Type} (d : Kd α) (ok : α → Prop) : Prop :=
  P.cellsOf t = d.sz ∧ ∀ (H : Type) (enc : TypeId × Value → H) (w : World) (spare : Nat → Bool) (fuel : Nat) (cs : List Value) (x : DataW H × List MemPlace), DataW.trod enc P w 0 spare true fuel t cs = some x → ∃ a : α, d.K w a cs ∧ ok a
variable {P : Program}
theorem opens_int {t : TypeId} {k : IntKind} (ht : P.underlying t = some (.int k)) (hc : P.cellsOf t = 1) : Opens P t (Kd.int k) (fun a => (Lit.int k a).wf = true) :=
  ⟨hc, fun _ _ _ _ _ _ _ h => by
    obtain ⟨n, rfl, _, hw⟩ := DataW.trod_int ht h
    exact ⟨n, rfl, hw⟩⟩
theorem add_add (a : Addr) (i j : Nat) : (a.add i).add j = a.add (i + j) := by
  unfold Addr.add
  by_cases hi : i = 0 <;> by_cases hj : j = 0 <;> simp [hi, hj, Nat.add_assoc]
theorem opens_slice {t e : TypeId} {α : Type} {d : Kd α} {ok : α → Prop} (ht : P.underlying t = some (.slice e)) (hc : P.cellsOf t = 1) (hd : Opens P e d ok) :
    Opens P t (Kd.slice e d) (fun l => l.length ≤ 9223372036854775807 ∧ ∀ a ∈ l, ok a) :=
  ⟨hc, fun H enc w spare fuel cs x h => by
    rcases Deep.open_slice ht h with ⟨rfl, _⟩ | ⟨a, len, cap, m, n, D, Pl, rfl, _, hl, hm, hmm, hxx, hx⟩
    · exact ⟨[], ⟨none, 0, rfl, Nat.le_refl _, rfl, Nat.zero_le _, fun h => absurd h (Nat.lt_irrefl _)⟩, Nat.zero_le _, fun _ h => nomatch h⟩
    · have hlm : len ≤ m := by rw [hmm]; split <;> omega
      have hex : ∀ i, i < len → ∃ b : α, ∃ cs', w.cells? 0 (a.add (i * P.cellsOf e)) (P.cellsOf e) = some cs' ∧ d.K w b cs' ∧ ok b := fun i hi => by
        obtain ⟨cs', h1, h2⟩ := hx i (Nat.lt_of_lt_of_le hi hlm)
        obtain ⟨b, hb⟩ := hd.2 H enc w spare n cs' _ h2
        exact ⟨b, cs', h1, hb.1, hb.2⟩
      have hml : len ≤ 9223372036854775807 := by unfold maxLen at hm; omega
      obtain ⟨l, hll, hat⟩ : ∃ l : List α, l.length = len ∧ ∀ i p, l[i]? = some p → ∃ cs', w.cells? 0 (a.add (i * P.cellsOf e)) (P.cellsOf e) = some cs' ∧ d.K w p cs' ∧ ok p := by
        clear hx hlm hmm hl hm hml hxx h
        induction len with
        | zero => exact ⟨[], rfl, fun i p h => by simp at h⟩
        | succ len ih =>
          obtain ⟨l, hll, hat⟩ := ih (fun i hi => hex i (Nat.lt_succ_of_lt hi))
          obtain ⟨b, hb⟩ := hex len (Nat.lt_succ_self _)
          refine ⟨l ++ [b], by simp [hll], fun i p h => ?_⟩
          rcases Nat.lt_or_ge i l.length with hi | hi
          · rw [List.getElem?_append_left hi] at h
            exact hat i p h
          · rw [List.getElem?_append_right hi] at h
            have hi0 : i - l.length = 0 := by
              rcases Nat.eq_zero_or_pos (i - l.length) with h0 | h0
              · exact h0
              · rw [List.getElem?_eq_none (by simp; omega)] at h
                cases h
            rw [hi0] at h
            have : b = p := by simpa using h
            subst this
            have : i = len := by omega
            subst this
            exact hb
      subst hll
      refine ⟨l, ⟨some a, cap, rfl, hl, rfl, hml, fun _ => ⟨a, rfl, fun j p hj => ?_⟩⟩, hml, fun b hb => ?_⟩
      · obtain ⟨cs', h1, hk, _⟩ := hat j p hj
        obtain ⟨_, hlen, hcell⟩ := World.cells?_some h1
        refine ⟨cs', hlen.trans hd.1, hk, fun i u hu => ?_⟩
        have hi : i < P.cellsOf e := by
          have := (List.getElem?_eq_some_iff.1 hu).1
          omega
        have := hcell i hi
        rw [hu, add_add, hd.1] at this
        exact this
      · obtain ⟨i, hi⟩ := List.getElem?_of_mem hb
        obtain ⟨_, _, _, hok⟩ := hat i b hi
        exact hok⟩
def OpensF (P : Program) (fs : List Field) (off : Nat) {α : Type} (d : Kd α) (ok : α → Prop) : Prop :=
  ∀ (H : Type) (enc : TypeId × Value → H) (w : World) (spare : Nat → Bool) (n : Nat) (cs : List Value), (∀ f, f ∈ fs → ∃ y, DataW.trod enc P w 0 spare true n f.type ((cs.drop f.offset).take (P.cellsOf f.type)) = some y) → cs.length = off + d.sz → ∃ a : α, d.K w a (cs.drop off) ∧ ok a
theorem opens_last {f : Field} {off : Nat} {α : Type} {d : Kd α} {ok : α → Prop} (ho : f.offset = off) (hd : Opens P f.type d ok) : OpensF P [f] off d ok := fun H enc w spare n cs hf hl => by
  obtain ⟨y, hy⟩ := hf f (List.mem_singleton.2 rfl)
  rw [ho, List.take_of_length_le (by rw [List.length_drop, hl, hd.1]; omega)] at hy
  exact hd.2 H enc w spare n _ y hy
theorem opens_field {f : Field} {fs : List Field} {off : Nat} {α β : Type} {d : Kd α} {d' : Kd β} {ok : α → Prop} {ok' : β → Prop} (ho : f.offset = off) (hd : Opens P f.type d ok) (hr : OpensF P fs (off + d.sz) d' ok') :
    OpensF P (f :: fs) off (Kd.pair d d') (fun p => ok p.1 ∧ ok' p.2) := fun H enc w spare n cs hf hl => by
  obtain ⟨y, hy⟩ := hf f (List.mem_cons_self ..)
  have hz : (Kd.pair d d').sz = d.sz + d'.sz := rfl
  rw [ho, hd.1] at hy
  obtain ⟨a, ha, hoa⟩ := hd.2 H enc w spare n _ y hy
  obtain ⟨b, hb, hob⟩ := hr H enc w spare n cs (fun g hg => hf g (List.mem_cons_of_mem _ hg)) (by omega)
  refine ⟨(a, b), ⟨(cs.drop off).take d.sz, cs.drop (off + d.sz), ?_, ha, hb⟩, hoa, hob⟩
  rw [← List.drop_drop, List.take_append_drop]
theorem opens_struct {t : TypeId} {fs : Array Field} {α : Type} {d : Kd α} {ok : α → Prop} (ht : P.underlying t = some (.struct fs)) (hc : P.cellsOf t = d.sz) (hf : OpensF P fs.toList 0 d ok) : Opens P t d ok :=
  ⟨hc, fun H enc w spare fuel cs x h => by
    obtain ⟨xs, n, _, _, hlen, hxs, hi⟩ := DataW.trod_struct ht h
    have := hf H enc w spare n cs (fun f hm => by
      obtain ⟨i, hi'⟩ := List.getElem?_of_mem hm
      have hq := hi i f (by simpa using hi')
      have hlt : i < xs.length := by
        have := (List.getElem?_eq_some_iff.1 hi').1
        rw [hxs]
        simpa using this
      rw [List.getElem?_eq_getElem hlt] at hq
      exact ⟨_, hq⟩) (by omega)
    simpa using this⟩
end Go.Proofs.Ytedlgllhaboljaa.Opens
