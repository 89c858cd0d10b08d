/- The Go law FnExactBegin answers true at every input: the last of the merged texts, with the row. -/
import Derived.Test.YtedlgllhaboljaaQFnExactBegin2
import Derived.Test.YtedlgllhaboljaaQFnExactBegin1
import Derived.Deep.Slices
import Derived.ChangeSame
import Derived.WideShapes
import Derived.Test.YtedlgllhaboljaaRows
import Derived.WalkKit
import Derived.ProofKit
import Derived.OpenShut
import Derived.ShutString
import Derived.ChangeOld
import Derived.Below
import Derived.SizedLaws
import Derived.Test.YtedlgllhaboljaaWSized
namespace Go.Proofs.Ytedlgllhaboljaa.KI
set_option linter.unusedVariables false
set_option linter.unusedSimpArgs false
open Go.RowKit Go.Proofs.Ytedlgllhaboljaa.F Go.Proofs.Ytedlgllhaboljaa.PK Go.Proofs.YtedlgllhaboljaaW.PrintWords Go.Proofs.YtedlgllhaboljaaW.PrintLast Go.Proofs.YtedlgllhaboljaaW.PrintMore
theorem rd_at (l : List Int) (i : Nat) (h : i < l.length) : rd l (i : Int) = l[i] := getD_nat l _ i h
theorem nxt (i n : Nat) (h : i < n) (hn : n ≤ 9223372036854775807) : wrap64 ((i : Int) + 1) = ((i + 1 : Nat) : Int) := by rw [w64 (by omega) (by omega)]; omega
theorem toIntS (l : List Int) (hl : l.length ≤ 1048576) : Ev (fun k => laws_toIntS.f k l) l := by
  have key := up (P := fun i => ∀ x : List Int, x.length = l.length → (∀ j : Nat, (j : Int) < i → x[j]? = l[j]?) → Ev (fun k => laws_toIntS.l0 k l x i) l) l.length
      (fun x h0 h1 => by
        have : x = l := List.ext_getElem? fun j => by
          by_cases hj : j < l.length
          · exact h1 j (by omega)
          rw [List.getElem?_eq_none (by omega), List.getElem?_eq_none (by omega)]
        subst this
        exact EvS (by simp only [laws_toIntS.l0, Int.lt_irrefl, if_false]; exact EvN))
      (fun i hi ih x h0 h1 => by
        refine EvS ?_
        simp only [laws_toIntS.l0, rd_at l i hi, Option.bind_some, h0, Int.toNat_natCast, if_pos (show (i : Int) < (l.length : Int) by omega), if_pos (show 0 ≤ (i : Int) by omega), nxt i _ hi (by omega)]
        refine ih _ (by simpa using h0) fun j hj => ?_
        by_cases hji : j = i
        · subst hji
          rw [List.getElem?_set_self (by omega)]
          simp [List.getElem?_eq_getElem hi]
        rw [List.getElem?_set_ne (by omega)]
        exact h1 j (by omega))
  have := key 0 (Nat.zero_le _) (List.replicate l.length 0) (by simp) (fun j hj => absurd hj (by omega))
  unfold laws_toIntS.f
  have hS : (l.length ≤ 35184372088832) = True := eq_true (by omega)
  simp only [Int.toNat_natCast, if_pos (show 0 ≤ (l.length : Int) by omega), hS, if_true]
  exact this
theorem eqIntS (x : List Int) (hx : x.length ≤ 9223372036854775807) : Ev (fun k => laws_eqIntS.f k x x) true := by
  have key := up (P := fun i => Ev (fun k => laws_eqIntS.l0 k x x i) true) x.length
    (EvS (by simp only [laws_eqIntS.l0, Int.lt_irrefl, if_false]; exact EvN))
    (fun i hi ih => EvS (by simp only [laws_eqIntS.l0, if_true, Option.bind_some, if_pos (show (i : Int) < (x.length : Int) by omega), if_pos (show 0 ≤ (i : Int) by omega), nxt i _ hi hx]; exact ih))
  have := key 0 (Nat.zero_le _)
  unfold laws_eqIntS.f
  simp only [if_true]
  exact this
theorem has (l : List Int) (x : Int) (hl : l.length ≤ 9223372036854775807) : Ev (fun k => spec_l01Has.f k l x) (l.contains x) := by
  have key := up0 (P := fun i => Ev (fun k => spec_l01Has.l0 k l x i) ((l.drop i.toNat).contains x)) l.length
    (EvS (by simp only [spec_l01Has.l0, Int.lt_irrefl, if_false, Int.toNat_natCast, List.drop_length]; exact EvN))
    (fun i hi ih => EvS (by
      rw [Int.toNat_natCast] at *
      simp only [spec_l01Has.l0, if_pos (show (i : Int) < (l.length : Int) by omega), if_pos (show 0 ≤ (i : Int) by omega), nxt i _ hi hl, rd_at l i hi]
      rw [drop_at l i hi, List.contains_cons]
      by_cases h : l[i] = x
      · simp only [if_pos h, beq_iff_eq.2 h.symm, Bool.true_or]; exact EvN
      simp only [if_neg h, beq_eq_false_iff_ne.2 (Ne.symm h), Bool.false_or]; exact ih))
  exact key
theorem l06Same (x y : List Int) (hx : x.length ≤ 9223372036854775807) : Ev (fun k => spec_l06Same.f k x y) (decide (x = y)) := by
  unfold spec_l06Same.f
  by_cases hl : x.length = y.length
  · simp only [if_pos (show (x.length : Int) = (y.length : Int) by omega)]
    have key := up0 (P := fun i => Ev (fun k => spec_l06Same.l0 k x y i) (decide (x.drop i.toNat = y.drop i.toNat))) x.length
      (EvS (by
        simp only [spec_l06Same.l0, Int.lt_irrefl, if_false, Int.toNat_natCast, List.drop_length]
        rw [hl, List.drop_length]
        simp only [decide_true]
        exact EvN))
      (fun i hi ih => EvS (by
        have hiy : i < y.length := by omega
        simp only [spec_l06Same.l0, if_pos (show (i : Int) < (x.length : Int) by omega), if_pos (show 0 ≤ (i : Int) by omega), if_pos (show (i : Int) < (y.length : Int) by omega), nxt i _ hi hx, Int.toNat_natCast, rd_at x i hi, rd_at y i hiy, drop_at x i hi, drop_at y i hiy]
        by_cases he : x[i] = y[i]
        · simp only [he, if_true, List.cons.injEq, true_and]
          rw [Int.toNat_natCast] at ih
          exact ih
        simp only [if_neg he, List.cons.injEq, he, false_and, decide_false]
        exact EvN))
    exact key
  simp only [if_neg (show ¬ (x.length : Int) = (y.length : Int) by omega)]
  rw [decide_eq_false (fun h => hl (by rw [h]))]
  exact EvN
theorem sEqual (x y : List Int) (hx : x.length ≤ 9223372036854775807) : Ev (fun k => slices_Equal_int_int.f k x y) (decide (x = y)) := by
  unfold slices_Equal_int_int.f
  by_cases hl : x.length = y.length
  · simp only [if_pos (show (x.length : Int) = (y.length : Int) by omega)]
    have key := up0 (P := fun i => Ev (fun k => slices_Equal_int_int.l0 k x y (x.length : Int) i) (decide (x.drop i.toNat = y.drop i.toNat))) x.length
      (EvS (by
        simp only [slices_Equal_int_int.l0, Int.lt_irrefl, if_false, Int.toNat_natCast, List.drop_length]
        rw [hl, List.drop_length]
        simp only [decide_true]
        exact EvN))
      (fun i hi ih => EvS (by
        have hiy : i < y.length := by omega
        simp only [slices_Equal_int_int.l0, if_pos (show (i : Int) < (x.length : Int) by omega), if_pos (show 0 ≤ (i : Int) by omega), if_pos (show (i : Int) < (y.length : Int) by omega), nxt i _ hi hx, Int.toNat_natCast, rd_at x i hi, rd_at y i hiy, drop_at x i hi, drop_at y i hiy]
        by_cases he : x[i] = y[i]
        · simp only [he, if_true, List.cons.injEq, true_and]
          rw [Int.toNat_natCast] at ih
          exact ih
        simp only [if_neg he, List.cons.injEq, he, false_and, decide_false]
        exact EvN))
    exact key
  simp only [if_neg (show ¬ (x.length : Int) = (y.length : Int) by omega)]
  rw [decide_eq_false (fun h => hl (by rw [h]))]
  exact EvN
/-- An id as it should be, behind those ahead of it. -/
def goodAt (l : List Int) (i : Nat) : Bool := decide (0 ≤ rd l i ∧ rd l i ≤ 99 ∧ (0 < i → rd l ((i : Int) - 1) < rd l i))
def idsD (l : List Int) : Nat → Nat → Bool
  | 0, _ => decide (l.length ≤ 7)
  | d + 1, i => goodAt l i && idsD l d (i + 1)
def idsM (l : List Int) : Bool := idsD l l.length 0
theorem idsD_len (l : List Int) : ∀ d i, idsD l d i = true → l.length ≤ 7 := by
  intro d
  induction d with
  | zero => intro i h; simpa [idsD] using h
  | succ d ih => intro i h; simp only [idsD, Bool.and_eq_true] at h; exact ih _ h.2
theorem ids_len {l : List Int} (h : idsM l = true) : l.length ≤ 7 := idsD_len l _ _ h
theorem spec_ids (l : List Int) (hl : l.length ≤ 9223372036854775807) : Ev (fun k => spec_l06Ids.f k l) (idsM l) := by
  have key := up0 (P := fun i => Ev (fun k => spec_l06Ids.l0 k l i) (idsD l (l.length - i.toNat) i.toNat)) l.length
    (EvS (by
      simp only [spec_l06Ids.l0, Int.lt_irrefl, if_false, Int.toNat_natCast, Nat.sub_self, idsD]
      rw [show decide ((l.length : Int) ≤ 7) = decide (l.length ≤ 7) from decide_eq_decide.2 (by omega)]
      exact EvN))
    (fun i hi ih => EvS (by
      rw [Int.toNat_natCast] at *
      rw [show l.length - i = (l.length - (i + 1)) + 1 by omega]
      simp only [spec_l06Ids.l0, spec_l01In.f, if_pos (show (i : Int) < (l.length : Int) by omega), if_pos (show 0 ≤ (i : Int) by omega), nxt i _ hi hl, idsD]
      by_cases h1 : 0 ≤ rd l i
      · by_cases h2 : rd l i ≤ 99
        · simp only [if_pos h1, decide_eq_true h2, Option.bind_some, if_true]
          by_cases h3 : (i : Int) > 0
          · simp only [if_pos h3, w64 (show -9223372036854775808 ≤ (i : Int) - 1 by omega) (show (i : Int) - 1 ≤ 9223372036854775807 by omega), if_pos (show 0 ≤ (i : Int) - 1 by omega), if_pos (show (i : Int) - 1 < (l.length : Int) by omega)]
            by_cases h4 : rd l ((i : Int) - 1) ≥ rd l i
            · simp only [if_pos h4, goodAt, decide_eq_false (show ¬ (0 ≤ rd l i ∧ rd l i ≤ 99 ∧ (0 < i → rd l ((i : Int) - 1) < rd l i)) by omega), Bool.false_and]; exact EvN
            simp only [if_neg h4, goodAt, decide_eq_true (show (0 ≤ rd l i ∧ rd l i ≤ 99 ∧ (0 < i → rd l ((i : Int) - 1) < rd l i)) by omega), Bool.true_and]; exact ih
          simp only [if_neg h3, goodAt, decide_eq_true (show (0 ≤ rd l i ∧ rd l i ≤ 99 ∧ (0 < i → rd l ((i : Int) - 1) < rd l i)) by omega), Bool.true_and]; exact ih
        simp only [if_pos h1, decide_eq_false h2, Option.bind_some, Bool.false_eq_true, if_false, goodAt, decide_eq_false (show ¬ (0 ≤ rd l i ∧ rd l i ≤ 99 ∧ (0 < i → rd l ((i : Int) - 1) < rd l i)) by omega), Bool.false_and]; exact EvN
      simp only [if_neg h1, Option.bind_some, Bool.false_eq_true, if_false, goodAt, decide_eq_false (show ¬ (0 ≤ rd l i ∧ rd l i ≤ 99 ∧ (0 < i → rd l ((i : Int) - 1) < rd l i)) by omega), Bool.false_and]; exact EvN))
  exact key
theorem impl_ids (l : List Int) (hl : l.length ≤ 9223372036854775807) : Ev (fun k => impl_areIds.f k l) (idsM l) := by
  have key := up0 (P := fun i => Ev (fun k => impl_areIds.l0 k l l (l.length : Int) i) (idsD l (l.length - i.toNat) i.toNat)) l.length
    (EvS (by
      simp only [impl_areIds.l0, Int.lt_irrefl, if_false, Int.toNat_natCast, Nat.sub_self, idsD]
      rw [show decide ((l.length : Int) ≤ 7) = decide (l.length ≤ 7) from decide_eq_decide.2 (by omega)]
      exact EvN))
    (fun i hi ih => EvS (by
      rw [Int.toNat_natCast] at *
      rw [show l.length - i = (l.length - (i + 1)) + 1 by omega]
      simp only [impl_areIds.l0, if_pos (show (i : Int) < (l.length : Int) by omega), if_pos (show 0 ≤ (i : Int) by omega), nxt i _ hi hl, idsD]
      by_cases h1 : rd l i < 0
      · simp only [if_pos h1, goodAt, decide_eq_false (show ¬ (0 ≤ rd l i ∧ rd l i ≤ 99 ∧ (0 < i → rd l ((i : Int) - 1) < rd l i)) by omega), Bool.false_and]; exact EvN
      by_cases h2 : rd l i > 99
      · simp only [if_neg h1, if_pos h2, goodAt, decide_eq_false (show ¬ (0 ≤ rd l i ∧ rd l i ≤ 99 ∧ (0 < i → rd l ((i : Int) - 1) < rd l i)) by omega), Bool.false_and]; exact EvN
      simp only [if_neg h1, if_neg h2]
      by_cases h3 : (i : Int) > 0
      · simp only [if_pos h3, w64 (show -9223372036854775808 ≤ (i : Int) - 1 by omega) (show (i : Int) - 1 ≤ 9223372036854775807 by omega), if_pos (show 0 ≤ (i : Int) - 1 by omega), if_pos (show (i : Int) - 1 < (l.length : Int) by omega)]
        by_cases h4 : rd l ((i : Int) - 1) ≥ rd l i
        · simp only [if_pos h4, goodAt, decide_eq_false (show ¬ (0 ≤ rd l i ∧ rd l i ≤ 99 ∧ (0 < i → rd l ((i : Int) - 1) < rd l i)) by omega), Bool.false_and]; exact EvN
        simp only [if_neg h4, goodAt, decide_eq_true (show (0 ≤ rd l i ∧ rd l i ≤ 99 ∧ (0 < i → rd l ((i : Int) - 1) < rd l i)) by omega), Bool.true_and]; exact ih
      simp only [if_neg h3, goodAt, decide_eq_true (show (0 ≤ rd l i ∧ rd l i ≤ 99 ∧ (0 < i → rd l ((i : Int) - 1) < rd l i)) by omega), Bool.true_and]; exact ih))
  exact key
def learnM (o n l : List Int) : Bool := l.any fun x => o.contains x || n.contains x
def okC (o n l : List Int) : Bool := idsM o && decide (0 < o.length) && idsM n && idsM l && !decide (o = n) && !learnM o n l
theorem okC_len {o n l : List Int} (h : okC o n l = true) : o.length ≤ 7 ∧ 0 < o.length ∧ n.length ≤ 7 ∧ l.length ≤ 7 := by
  simp only [okC, Bool.and_eq_true, decide_eq_true_eq] at h
  exact ⟨ids_len h.1.1.1.1.1, h.1.1.1.1.2, ids_len h.1.1.1.2, ids_len h.1.1.2⟩
theorem specLearn (o n l : List Int) (ho : o.length ≤ 9223372036854775807) (hn : n.length ≤ 9223372036854775807) (hl : l.length ≤ 9223372036854775807) : Ev (fun k => spec_ConfOk.l0 k 0 o n l) (!learnM o n l) :=
  up0 (P := fun i => Ev (fun k => spec_ConfOk.l0 k i o n l) (!learnM o n (l.drop i.toNat))) l.length
    (EvS (by simp only [spec_ConfOk.l0, Int.lt_irrefl, if_false, Int.toNat_natCast, List.drop_length]; exact EvN))
    (fun i hi ih => EvS (by
      rw [Int.toNat_natCast] at *
      simp only [spec_ConfOk.l0, if_pos (show (i : Int) < (l.length : Int) by omega), if_pos (show 0 ≤ (i : Int) by omega), nxt i _ hi hl, rd_at l i hi, EvB (has o l[i] ho)]
      rw [drop_at l i hi]
      simp only [learnM, List.any_cons]
      cases h1 : o.contains l[i] with
      | true => simp only [if_true, Bool.true_or, Bool.not_true]; exact EvN
      | false =>
        simp only [Bool.false_eq_true, if_false, EvB (has n l[i] hn), Bool.false_or]
        cases h2 : n.contains l[i] with
        | true => simp only [if_true, Bool.true_or, Bool.not_true]; exact EvN
        | false => simp only [Bool.false_eq_true, if_false, Bool.false_or]; exact ih))
theorem specJ (x : Bool) (o n l : List Int) (ho : o.length ≤ 9223372036854775807) (hn : n.length ≤ 9223372036854775807) (hl : l.length ≤ 9223372036854775807) : Ev (fun k => spec_ConfOk.j0 k x o n l) (!x && !learnM o n l) := by
  refine EvS ?_
  cases x with
  | true => simp only [spec_ConfOk.j0, if_true, Bool.not_true, Bool.false_and]; exact EvN
  | false => simp only [spec_ConfOk.j0, Bool.false_eq_true, if_false, Bool.not_false, Bool.true_and]; exact specLearn o n l ho hn hl
theorem EvQ {α : Type} {g : Nat → Option α} {r s : α} (h : Ev g r) (e : r = s) : Ev g s := e ▸ h
theorem spec_ok (o n l : List Int) (ho : o.length ≤ 9223372036854775807) (hn : n.length ≤ 9223372036854775807) (hl : l.length ≤ 9223372036854775807) : Ev (fun k => spec_ConfOk.f k o n l) (okC o n l) := by
  have J := fun x => specJ x o n l ho hn hl
  have hS : Ev (fun k => spec_l06Set.f k o) (idsM o && decide (0 < o.length)) := by
    unfold spec_l06Set.f
    simp only [EvB (spec_ids o ho)]
    cases h : idsM o with
    | true => simp only [if_true, Bool.true_and]; rw [show decide ((o.length : Int) > 0) = decide (0 < o.length) from decide_eq_decide.2 (by omega)]; exact EvN
    | false => simp only [Bool.false_eq_true, if_false, Bool.false_and]; exact EvN
  unfold spec_ConfOk.f okC
  simp only [EvB hS]
  cases h1 : (idsM o && decide (0 < o.length)) with
  | false => simp only [Bool.false_eq_true, if_false, Bool.false_and]; exact EvQ (J true) (by simp)
  | true =>
    simp only [if_true, EvB (spec_ids n hn), Bool.true_and]
    cases h2 : idsM n with
    | false => simp only [Bool.false_eq_true, if_false, Bool.false_and]; exact EvQ (J true) (by simp)
    | true =>
      simp only [if_true, EvB (spec_ids l hl), Bool.true_and]
      cases h3 : idsM l with
      | false => simp only [Bool.false_eq_true, if_false, Bool.false_and]; exact EvQ (J true) (by simp)
      | true => simp only [if_true, EvB (l06Same o n ho), Bool.true_and]; exact J _
theorem impl_ok (o n l : List Int) (ho : o.length ≤ 9223372036854775807) (hn : n.length ≤ 9223372036854775807) (hl : l.length ≤ 9223372036854775807) : Ev (fun k => impl_isConf.f k o n l) (okC o n l) := by
  unfold impl_isConf.f okC
  simp only [EvB (impl_ids o ho)]
  cases h1 : idsM o with
  | false => simp only [Bool.false_eq_true, if_false, Bool.false_and]; exact EvN
  | true =>
    simp only [if_true, Bool.true_and]
    by_cases h0 : (o.length : Int) = 0
    · simp only [if_pos h0, decide_eq_false (show ¬ 0 < o.length by omega), Bool.false_and]; exact EvN
    simp only [if_neg h0, decide_eq_true (show 0 < o.length by omega), Bool.true_and, EvB (impl_ids n hn)]
    cases h2 : idsM n with
    | false => simp only [Bool.false_eq_true, if_false, Bool.false_and]; exact EvN
    | true =>
      simp only [if_true, Bool.true_and, EvB (sEqual o n ho)]
      by_cases h3 : o = n
      · simp only [decide_eq_true h3, if_true, Bool.not_true, Bool.and_false, Bool.false_and]; exact EvN
      simp only [decide_eq_false h3, Bool.false_eq_true, if_false, EvB (impl_ids l hl), Bool.not_false, Bool.and_true]
      cases h4 : idsM l with
      | false => simp only [Bool.false_eq_true, if_false, Bool.false_and]; exact EvN
      | true =>
        simp only [if_true, Bool.true_and, impl_isConf_learn.f, if_pos (show o.length ≤ 9223372036854775807 ∧ n.length ≤ 9223372036854775807 ∧ l.length ≤ 9223372036854775807 from ⟨ho, hn, hl⟩), Option.bind_some]
        exact EvN
theorem szIntS (l : List Int) (c : Int) (h0 : 0 ≤ c) (h1 : c ≤ 1048576) (hl : l.length ≤ 9223372036854775807) : ∃ t, laws_szIntS.f l c = some t ∧ t ≤ c ∧ (0 ≤ t → (l.length : Int) ≤ c) := by
  unfold laws_szIntS.f
  rw [w64 (by omega) (by omega)]
  split
  · exact ⟨_, rfl, by omega, by omega⟩
  exact ⟨_, rfl, by omega, by omega⟩
theorem szConf (o n l : List Int) (c : Int) (h0 : 0 ≤ c) (h1 : c ≤ 1048576) (ho : o.length ≤ 9223372036854775807) (hn : n.length ≤ 9223372036854775807) (hl : l.length ≤ 9223372036854775807) : ∃ t, laws_szConf.f o n l c = some t ∧ t ≤ c ∧ (0 ≤ t → o.length ≤ 1048576 ∧ n.length ≤ 1048576 ∧ l.length ≤ 1048576) := by
  obtain ⟨t, e, a1, a2⟩ := szIntS o c h0 h1 ho
  unfold laws_szConf.f
  by_cases g : t < 0
  · exact ⟨-1, by simp only [e, Option.bind_some, if_pos g], by omega, by omega⟩
  obtain ⟨t1, e1, b1, b2⟩ := szIntS n t (by omega) (by omega) hn
  by_cases g1 : t1 < 0
  · exact ⟨-1, by simp only [e, Option.bind_some, if_neg g, e1, if_pos g1], by omega, by omega⟩
  obtain ⟨t2, e2, c1, c2⟩ := szIntS l t1 (by omega) (by omega) hl
  by_cases g2 : t2 < 0
  · exact ⟨-1, by simp only [e, Option.bind_some, if_neg g, e1, if_neg g1, e2, if_pos g2], by omega, by omega⟩
  exact ⟨t2, by simp only [e, Option.bind_some, if_neg g, e1, if_neg g1, e2, if_neg g2], by omega, by omega⟩
theorem toConf (o n l : List Int) (h : o.length ≤ 1048576 ∧ n.length ≤ 1048576 ∧ l.length ≤ 1048576) : Ev (fun k => laws_toConf.f k o n l) (o, n, l) := by
  unfold laws_toConf.f
  simp only [EvB (toIntS o h.1), EvB (toIntS n h.2.1), EvB (toIntS l h.2.2)]
  exact EvN
theorem eqConf (o n l : List Int) (h : o.length ≤ 9223372036854775807 ∧ n.length ≤ 9223372036854775807 ∧ l.length ≤ 9223372036854775807) : Ev (fun k => laws_eqConf.f k o n l o n l) true := by
  unfold laws_eqConf.f
  simp only [EvB (eqIntS o h.1), EvB (eqIntS n h.2.1), EvB (eqIntS l h.2.2), if_true]
  exact EvN
theorem sCopy (l : List Int) (hl : l.length ≤ 1000000000) : Ev (fun k => spec_l01Copy.f k l) l := by
  have key := up (P := fun i => ∀ x : List Int, (x.length : Int) = i → x = l.take i.toNat → Ev (fun k => spec_l01Copy.l0 k l x i) l) l.length
    (fun x hx he => EvS (by
      rw [Int.toNat_natCast, List.take_length] at he
      simp only [spec_l01Copy.l0, Int.lt_irrefl, if_false, he]; exact EvN))
    (fun i hi ih x hx he => EvS (by
      have hS : (x.length < 17592186044416) = True := eq_true (by omega)
      simp only [spec_l01Copy.l0, if_pos (show (i : Int) < (l.length : Int) by omega), if_pos (show 0 ≤ (i : Int) by omega), hS, if_true, rd_at l i hi, nxt i _ hi (show l.length ≤ 9223372036854775807 by omega)]
      refine ih _ (by simp; omega) ?_
      rw [Int.toNat_natCast] at he
      rw [Int.toNat_natCast, he, List.take_add_one, List.getElem?_eq_getElem hi]
      rfl))
  unfold spec_l01Copy.f
  exact key 0 (Nat.zero_le _) [] rfl (by simp)
theorem s6Copy (o n l : List Int) (h : o.length ≤ 1048576 ∧ n.length ≤ 1048576 ∧ l.length ≤ 1048576) : Ev (fun k => spec_l06Copy.f k o n l) (o, n, l) := by
  unfold spec_l06Copy.f
  simp only [EvB (sCopy o (by omega)), EvB (sCopy n (by omega)), EvB (sCopy l (by omega))]
  exact EvN
theorem iCopy (o n l : List Int) (h : o.length ≤ 1048576 ∧ n.length ≤ 1048576 ∧ l.length ≤ 1048576) : impl_copyConf.f o n l = some (o, n, l) := by
  have hS : ∀ x : List Int, x.length ≤ 1048576 → (([] : List Int).length + x.length < 17592186044416) = True := fun x hx => eq_true (by simp only [List.length_nil]; omega)
  simp only [impl_copyConf.f, Option.bind_some, hS o h.1, hS n h.2.1, hS l h.2.2, if_true, List.nil_append]
theorem markIntS (l : List Int) (s : Int) (hl : l.length ≤ 3000000) (h0 : 0 ≤ s) (h1 : s ≤ 1000000000000) : ∃ (m : Int) (l' : List Int), Ev (fun k => laws_markIntS.f k l s) (m, l') ∧ s ≤ m ∧ m ≤ s + l.length ∧ Ev (fun k => laws_heldIntS.f k l' s) m := by
  obtain ⟨m, l', h1, h2, h5, _, _, h3⟩ := marks laws_markIntS.l0 laws_heldIntS.l0 1 (by omega) l.length 9223372036854775000
    (fun l a hl => EvS (by simp only [laws_markIntS.l0, hl, Int.lt_irrefl, if_false]; exact EvN))
    (fun l a hl => EvS (by simp only [laws_heldIntS.l0, hl, Int.lt_irrefl, if_false]; exact EvN))
    (fun i l1 a hi hl1 h0 hN => by
      have hw1 : wrap64 (a + 1) = a + 1 := w64 (by omega) (by omega)
      refine ⟨a, a + 1, by omega, by omega, fun r hr => EvS ?_, fun l' r hl' he hr => EvS ?_⟩
      · simp only [laws_markIntS.l0, if_pos (show (i : Int) < (l1.length : Int) by omega), if_pos (show 0 ≤ (i : Int) by omega), hw1, Int.toNat_natCast, nxt i l.length hi (by omega)]
        exact hr
      have hli : i < l'.length := by omega
      rw [List.getElem?_eq_getElem hli] at he
      have he := Option.some.inj he
      simp only [laws_heldIntS.l0, if_pos (show (i : Int) < (l'.length : Int) by omega), if_pos (show 0 ≤ (i : Int) by omega), rd_at l' i hli, he, if_true, hw1, nxt i l.length hi (by omega)]
      exact hr)
    0 (Nat.zero_le _) l s rfl (by omega) (by omega)
  refine ⟨m, l', ?_, h2, by omega, ?_⟩
  · unfold laws_markIntS.f
    exact h1
  unfold laws_heldIntS.f
  exact h3
theorem markConf (o n l : List Int) (h : o.length ≤ 2097152 ∧ n.length ≤ 2097152 ∧ l.length ≤ 2097152) : ∃ (m : Int) (o' n' l' : List Int), Ev (fun k => laws_markConf.f k o n l 1) (m, o', n', l') ∧ 1 ≤ m ∧ Ev (fun k => laws_heldConf.f k o' n' l' 1) m := by
  obtain ⟨a, o', a1, a2, a3, a4⟩ := markIntS o 1 (by omega) (by omega) (by omega)
  obtain ⟨b, n', b1, b2, b3, b4⟩ := markIntS n a (by omega) (by omega) (by omega)
  obtain ⟨c, l', c1, c2, c3, c4⟩ := markIntS l b (by omega) (by omega) (by omega)
  refine ⟨c, o', n', l', ?_, by omega, ?_⟩
  · unfold laws_markConf.f
    simp only [EvB a1, EvB b1, EvB c1]
    exact EvN
  unfold laws_heldConf.f
  simp only [EvB a4, EvB b4, EvB c4, if_neg (show ¬ a < 0 by omega), if_neg (show ¬ b < 0 by omega), if_neg (show ¬ c < 0 by omega)]
  exact EvN
theorem good_iff (l : List Int) (i : Nat) (hi : i < l.length) : goodAt l i = true ↔ (0 ≤ l[i] ∧ l[i] ≤ 99) ∧ ∀ h : 0 < i, l[i - 1] < l[i] := by
  unfold goodAt
  rw [decide_eq_true_iff, rd_at l i hi]
  constructor
  · rintro ⟨a, b, c⟩
    refine ⟨⟨a, b⟩, fun h => ?_⟩
    have := c h
    rwa [show ((i : Int) - 1) = ((i - 1 : Nat) : Int) by omega, rd_at l (i - 1) (by omega)] at this
  rintro ⟨⟨a, b⟩, c⟩
  refine ⟨a, b, fun h => ?_⟩
  rw [show ((i : Int) - 1) = ((i - 1 : Nat) : Int) by omega, rd_at l (i - 1) (by omega)]
  exact c h
theorem idsD_iff (l : List Int) : ∀ d i, d + i = l.length → (idsD l d i = true ↔ l.length ≤ 7 ∧ ∀ j, i ≤ j → j < l.length → goodAt l j = true) := by
  intro d
  induction d with
  | zero =>
    intro i hi
    simp only [idsD, decide_eq_true_iff]
    exact ⟨fun h => ⟨h, fun j h1 h2 => by omega⟩, fun h => h.1⟩
  | succ d ih =>
    intro i hi
    simp only [idsD, Bool.and_eq_true, ih (i + 1) (by omega)]
    constructor
    · rintro ⟨a, b, c⟩
      refine ⟨b, fun j h1 h2 => ?_⟩
      by_cases e : j = i
      · rw [e]; exact a
      exact c j (by omega) h2
    rintro ⟨b, c⟩
    exact ⟨c i (Nat.le_refl _) (by omega), b, fun j h1 h2 => c j (by omega) h2⟩
theorem ids_iff (l : List Int) : idsM l = true ↔ l.length ≤ 7 ∧ (∀ x ∈ l, 0 ≤ x ∧ x ≤ 99) ∧ l.Pairwise (· < ·) := by
  unfold idsM
  rw [idsD_iff l l.length 0 rfl]
  constructor
  · rintro ⟨h7, hg⟩
    have g := fun j (hj : j < l.length) => (good_iff l j hj).1 (hg j (Nat.zero_le _) hj)
    refine ⟨h7, fun x hx => ?_, ?_⟩
    · obtain ⟨j, hj, rfl⟩ := List.mem_iff_getElem.1 hx
      exact (g j hj).1
    rw [List.pairwise_iff_getElem]
    have key : ∀ (d i : Nat) (hi : i + d + 1 < l.length), l[i] < l[i + d + 1] := by
      intro d
      induction d with
      | zero => intro i hi; exact (g (i + 1) hi).2 (by omega)
      | succ d ih =>
        intro i hi
        have h1 := ih i (by omega)
        have h2 := (g (i + (d + 1) + 1) hi).2 (by omega)
        have h3 : l[i + (d + 1) + 1 - 1]'(by omega) = l[i + d + 1]'(by omega) := rfl
        rw [h3] at h2
        exact Int.lt_trans h1 h2
    intro i j hi hj hij
    have := key (j - i - 1) i (by omega)
    have e : i + (j - i - 1) + 1 = j := by omega
    simpa only [e] using this
  rintro ⟨h7, hb, hp⟩
  refine ⟨h7, fun j _ hj => (good_iff l j hj).2 ⟨hb _ (List.getElem_mem hj), fun h => ?_⟩⟩
  exact List.pairwise_iff_getElem.1 hp (j - 1) j (by omega) hj (by omega)
theorem ids_filter {l : List Int} (p : Int → Bool) (h : idsM l = true) : idsM (l.filter p) = true := by
  rw [ids_iff] at h ⊢
  exact ⟨Nat.le_trans (List.length_filter_le _ _) h.1, fun x hx => h.2.1 x (List.mem_filter.1 hx).1, h.2.2.filter _⟩
def delM (w l : List Int) : List Int := l.filter fun x => !w.contains x
theorem okC_beg {o l : List Int} (w : List Int) (h : okC o [] l = true) : okC o w (delM w l) = (idsM w && !decide (o = w)) := by
  simp only [okC, Bool.and_eq_true, decide_eq_true_eq, Bool.not_eq_true'] at h
  obtain ⟨⟨⟨⟨⟨h1, h2⟩, _⟩, h4⟩, _⟩, h6⟩ := h
  have hl : learnM o w (delM w l) = false := by
    unfold learnM at h6 ⊢
    rw [List.any_eq_false] at h6 ⊢
    intro x hx
    obtain ⟨a, b⟩ := List.mem_filter.1 hx
    have := h6 x a
    simp only [Bool.or_eq_true, not_or] at this ⊢
    refine ⟨this.1, ?_⟩
    simpa using b
  unfold okC
  rw [h1, decide_eq_true h2, show idsM (delM w l) = true from ids_filter _ h4, hl]
  simp
def begR (o n l w : List Int) : List Int × List Int × List Int × Bool := if okC o n l = true ∧ n.length = 0 ∧ 0 < w.length ∧ idsM w = true ∧ ¬ o = w then (o, w, delM w l, true) else (o, n, l, false)
theorem begR_len (o n l w : List Int) (h : o.length ≤ 1048576 ∧ n.length ≤ 1048576 ∧ l.length ≤ 1048576) (hw : w.length ≤ 1048576) : (begR o n l w).1.length ≤ 1048576 ∧ (begR o n l w).2.1.length ≤ 1048576 ∧ (begR o n l w).2.2.1.length ≤ 1048576 := by
  unfold begR
  split
  · exact ⟨h.1, hw, Nat.le_trans (List.length_filter_le _ _) h.2.2⟩
  exact h
end Go.Proofs.Ytedlgllhaboljaa.KI

namespace Go.Proofs.Ytedlgllhaboljaa.Pure
set_option linter.unusedVariables false
set_option linter.unusedSimpArgs false
open Go.RowKit Go.Proofs.Ytedlgllhaboljaa.F Go.Proofs.Ytedlgllhaboljaa.PK Go.Proofs.Ytedlgllhaboljaa.KI Go.Proofs.YtedlgllhaboljaaW.PrintWords Go.Proofs.YtedlgllhaboljaaW.PrintLast
theorem less_ev (l w : List Int) (hl : l.length ≤ 1048576) (hw : w.length ≤ 1048576) : Ev (fun k => spec_l06Less.f k l w) (delM w l) := by
  have key := up (P := fun i => ∀ x : List Int, (x.length : Int) ≤ i → x ++ delM w (l.drop i.toNat) = delM w l → Ev (fun k => spec_l06Less.l0 k l w x i) (delM w l)) l.length
    (fun x hx he => by
      rw [Int.toNat_natCast, List.drop_length] at he
      simp only [delM, List.filter_nil, List.append_nil] at he
      refine EvS ?_
      simp only [spec_l06Less.l0, Int.lt_irrefl, if_false]
      rw [he]
      exact EvN)
    (fun i hi ih x hx he => EvS (by
      rw [Int.toNat_natCast] at *
      have hS : (x.length < 17592186044416) = True := eq_true (by omega)
      have hh := has w l[i] (by omega)
      simp only [spec_l06Less.l0, if_pos (show (i : Int) < (l.length : Int) by omega), if_pos (show 0 ≤ (i : Int) by omega), rd_at l i hi, EvB hh, nxt i _ hi (show l.length ≤ 9223372036854775807 by omega), hS, if_true]
      rw [drop_at l i hi] at he
      unfold delM at he ih ⊢
      cases h1 : w.contains l[i] with
      | true =>
        rw [List.filter_cons_of_neg (by rw [h1]; decide)] at he
        simp only [if_true]
        exact ih x (by omega) he
      | false =>
        rw [List.filter_cons_of_pos (by rw [h1]; decide)] at he
        simp only [Bool.false_eq_true, if_false]
        exact ih (x ++ [l[i]]) (by rw [List.length_append, List.length_singleton]; omega) (by rw [List.append_assoc]; exact he)))
  unfold spec_l06Less.f
  exact key 0 (Nat.zero_le _) [] (by simp) (by simp)
theorem spec_beg (o n l w : List Int) (h : o.length ≤ 1048576 ∧ n.length ≤ 1048576 ∧ l.length ≤ 1048576) (hw : w.length ≤ 1048576) : Ev (fun k => spec_Begin.f k o n l w) (begR o n l w) := by
  have J : ∀ x : Bool, x = !decide (okC o n l = true ∧ n.length = 0 ∧ 0 < w.length ∧ idsM w = true ∧ ¬ o = w) → Ev (fun k => spec_Begin.j0 k w x o n l) (begR o n l w) := by
    intro x hx
    refine EvS ?_
    unfold begR
    by_cases hc : okC o n l = true ∧ n.length = 0 ∧ 0 < w.length ∧ idsM w = true ∧ ¬ o = w
    · simp only [hx, decide_eq_true hc, Bool.not_true, spec_Begin.j0, Bool.false_eq_true, if_false, EvB (sCopy o (by omega)), EvB (sCopy w (by omega)), EvB (less_ev l w h.2.2 hw), if_pos hc]
      exact EvN
    simp only [hx, decide_eq_false hc, Bool.not_false, spec_Begin.j0, if_true, EvB (s6Copy o n l h), if_neg hc]
    exact EvN
  have hS : Ev (fun k => spec_l06Set.f k w) (idsM w && decide (0 < w.length)) := by
    unfold spec_l06Set.f
    simp only [EvB (spec_ids w (by omega))]
    cases h : idsM w with
    | true => simp only [if_true, Bool.true_and]; rw [show decide ((w.length : Int) > 0) = decide (0 < w.length) from decide_eq_decide.2 (by omega)]; exact EvN
    | false => simp only [Bool.false_eq_true, if_false, Bool.false_and]; exact EvN
  unfold spec_Begin.f
  simp only [EvB (spec_ok o n l (by omega) (by omega) (by omega))]
  by_cases h1 : okC o n l = true
  · simp only [if_pos h1]
    by_cases h2 : (n.length : Int) > 0
    · simp only [if_pos h2]
      exact J _ (by rw [decide_eq_false (fun q => by omega)]; rfl)
    simp only [if_neg h2, EvB hS]
    have h2' : n.length = 0 := by omega
    by_cases h3 : (idsM w && decide (0 < w.length)) = true
    · simp only [if_pos h3, EvB (l06Same o w (by omega))]
      rw [Bool.and_eq_true, decide_eq_true_iff] at h3
      refine J _ ?_
      by_cases h4 : o = w
      · rw [decide_eq_true h4, decide_eq_false (fun q => q.2.2.2.2 h4)]; rfl
      rw [decide_eq_false h4, decide_eq_true ⟨h1, h2', h3.2, h3.1, h4⟩]; rfl
    simp only [if_neg h3]
    refine J _ ?_
    rw [decide_eq_false (fun q => h3 (by rw [q.2.2.2.1, decide_eq_true q.2.2.1]; rfl))]; rfl
  simp only [if_neg h1]
  exact J _ (by rw [decide_eq_false (fun q => h1 q.1)]; rfl)
theorem impl_beg (o n l w : List Int) (h : o.length ≤ 1048576 ∧ n.length ≤ 1048576 ∧ l.length ≤ 1048576) (hw : w.length ≤ 1048576) : Ev (fun k => impl_Begin.f k o n l w) (begR o n l w) := by
  have hf : Ev (fun k => impl_begin.f k o n l w) (begR o n l w) := by
    unfold impl_begin.f begR
    have hdl : (begin_del w l).length ≤ 1048576 := Nat.le_trans (List.length_filter_le _ _) h.2.2
    simp only [iCopy o n l h, Option.bind_some, EvB (impl_ok o n l (by omega) (by omega) (by omega))]
    by_cases h1 : okC o n l = true
    · by_cases h2 : (n.length : Int) > 0
      · simp only [if_pos h1, if_pos h2, if_neg (show ¬ (okC o n l = true ∧ n.length = 0 ∧ 0 < w.length ∧ idsM w = true ∧ ¬ o = w) from fun e => by omega)]; exact EvN
      by_cases h3 : (w.length : Int) = 0
      · simp only [if_pos h1, if_neg h2, if_pos h3, if_neg (show ¬ (okC o n l = true ∧ n.length = 0 ∧ 0 < w.length ∧ idsM w = true ∧ ¬ o = w) from fun e => by omega)]; exact EvN
      have h2' : n = [] := List.eq_nil_of_length_eq_zero (by omega)
      have h3' : 0 < w.length := by omega
      have hS : (w.length < 17592186044416) = True := eq_true (by omega)
      have hQ : (l.length ≤ 9223372036854775807) = True := eq_true (by omega)
      have hk := impl_ok o w (begin_del w l) (by omega) (by omega) (by omega)
      have hb : okC o w (begin_del w l) = (idsM w && !decide (o = w)) := okC_beg w (by rw [← h2']; exact h1)
      rw [hb] at hk
      simp only [if_pos h1, if_neg h2, if_neg h3, hS, hQ, if_true, EvB hk]
      by_cases h4 : idsM w = true ∧ ¬ o = w
      · rw [if_pos (show okC o n l = true ∧ n.length = 0 ∧ 0 < w.length ∧ idsM w = true ∧ ¬ o = w from ⟨h1, by rw [h2']; rfl, h3', h4⟩)]
        simp only [h4.1, decide_eq_false h4.2, Bool.not_false, Bool.and_true, if_true]
        exact EvN
      rw [if_neg (show ¬ (okC o n l = true ∧ n.length = 0 ∧ 0 < w.length ∧ idsM w = true ∧ ¬ o = w) from fun e => h4 e.2.2.2)]
      have : (idsM w && !decide (o = w)) = false := by
        rw [Bool.eq_false_iff]
        intro q
        rw [Bool.and_eq_true, Bool.not_eq_true', decide_eq_false_iff_not] at q
        exact h4 q
      simp only [this, Bool.false_eq_true, if_false]
      exact EvN
    simp only [if_neg h1, if_neg (show ¬ (okC o n l = true ∧ n.length = 0 ∧ 0 < w.length ∧ idsM w = true ∧ ¬ o = w) from fun e => h1 e.1)]; exact EvN
  unfold impl_Begin.f
  simp only [EvB hf]
  exact EvN
theorem markConfB (o n l : List Int) (h : o.length ≤ 2097152 ∧ n.length ≤ 2097152 ∧ l.length ≤ 2097152) : ∃ (m : Int) (o' n' l' : List Int), Ev (fun k => laws_markConf.f k o n l 1) (m, o', n', l') ∧ 1 ≤ m ∧ m ≤ 100000000 := by
  obtain ⟨a, o', a1, a2, a3, a4⟩ := markIntS o 1 (by omega) (by omega) (by omega)
  obtain ⟨b, n', b1, b2, b3, b4⟩ := markIntS n a (by omega) (by omega) (by omega)
  obtain ⟨c, l', c1, c2, c3, c4⟩ := markIntS l b (by omega) (by omega) (by omega)
  refine ⟨c, o', n', l', ?_, by omega, by omega⟩
  unfold laws_markConf.f
  simp only [EvB a1, EvB b1, EvB c1]
  exact EvN
theorem FnExactBegin : ∀ (l0_0 : List Int) (l0_1 : List Int) (l0_2 : List Int) (l1 : List Int), (l0_0.length ≤ 9223372036854775807 ∧ ∀ y_ ∈ l0_0, ((Lit.int .i64 y_).wf = true)) → (l0_1.length ≤ 9223372036854775807 ∧ ∀ y_ ∈ l0_1, ((Lit.int .i64 y_).wf = true)) → (l0_2.length ≤ 9223372036854775807 ∧ ∀ y_ ∈ l0_2, ((Lit.int .i64 y_).wf = true)) → (l1.length ≤ 9223372036854775807 ∧ ∀ y_ ∈ l1, ((Lit.int .i64 y_).wf = true)) → ∃ k, laws_FnExactBegin.f k l0_0 l0_1 l0_2 l1 = some true := by
  intro o n l w ho hn hl hw
  refine EvE ?_
  unfold laws_FnExactBegin.f
  by_cases hb : (w.length : Int) > 1048576
  · simp only [if_pos hb]; exact EvN
  have hw1 : w.length ≤ 1048576 := by omega
  obtain ⟨t, ht, _, hlen⟩ := szConf o n l 1048576 (by omega) (by omega) ho.1 hn.1 hl.1
  simp only [if_neg hb, ht, Option.bind_some]
  by_cases h : t < 0
  · simp only [if_pos h]; exact EvN
  have hh := hlen (by omega)
  have hS := spec_beg o n l w hh hw1
  have hI := impl_beg o n l w hh hw1
  have hT := begR_len o n l w hh hw1
  generalize hr : begR o n l w = r at hT hS hI
  obtain ⟨c, d, x, q⟩ := r
  simp only at hT
  obtain ⟨m, p1, p2, p3, h1, h2, h2b⟩ := markConfB o n l (by omega)
  obtain ⟨mw, w', k1, k2, _, _⟩ := markIntS w m (by omega) (by omega) (by omega)
  obtain ⟨m', q1, q2, q3, g1, g2, g3⟩ := markConf c d x (by omega)
  have hE := eqConf c d x (by omega)
  have hE2 := eqConf o n l (by omega)
  have hE3 := eqIntS w (by omega)
  have hC := toConf o n l hh
  have hC2 := toIntS w hw1
  simp only [if_neg h, EvB hC, EvB hC2, EvB hS, EvB hI, EvB hE, EvB hE2, EvB hE3, if_true, EvB h1, EvB k1, if_neg (show ¬ mw < 0 by omega), EvB g1, EvB g3, if_neg (show ¬ m' < 0 by omega)]
  exact EvN
end Go.Proofs.Ytedlgllhaboljaa.Pure

namespace Go.Proofs.Ytedlgllhaboljaa.Opens
set_option linter.unusedVariables false
set_option linter.unusedSimpArgs false
open Go.RowKit Go.Proofs.YtedlgllhaboljaaW.PrintWords
/-- What reads at type t is of kind d, and meets ok. -/
def Opens (P : Program) (t : TypeId) {α : Type} (d : Kd α) (ok : α → Prop) : Prop :=
  P.cellsOf t = d.sz ∧ ∀ (H : Type) (enc : TypeId × Value → H) (w : World) (spare : Nat → Bool) (fuel : Nat) (cs : List Value) (x : DataW H × List MemPlace), DataW.trod enc P w 0 spare true fuel t cs = some x → ∃ a : α, d.K w a cs ∧ ok a
variable {P : Program}
theorem opens_int {t : TypeId} {k : IntKind} (ht : P.underlying t = some (.int k)) (hc : P.cellsOf t = 1) : Opens P t (Kd.int k) (fun a => (Lit.int k a).wf = true) :=
  ⟨hc, fun _ _ _ _ _ _ _ h => by
    obtain ⟨n, rfl, _, hw⟩ := DataW.trod_int ht h
    exact ⟨n, rfl, hw⟩⟩
theorem opens_bool {t : TypeId} (ht : P.underlying t = some .bool) (hc : P.cellsOf t = 1) : Opens P t Kd.bool (fun _ => True) :=
  ⟨hc, fun _ _ _ _ _ _ _ h => by
    obtain ⟨n, rfl, _⟩ := DataW.trod_bool ht h
    exact ⟨n, rfl, trivial⟩⟩
theorem opens_string {t : TypeId} (ht : P.underlying t = some .string) (hc : P.cellsOf t = 1) : Opens P t Kd.string (fun a => a.size ≤ 9223372036854775807) :=
  ⟨hc, fun _ _ _ _ _ _ _ h => by
    obtain ⟨n, rfl, _, hw⟩ := DataW.trod_string ht h
    exact ⟨n, rfl, hw⟩⟩
theorem add_add (a : Addr) (i j : Nat) : (a.add i).add j = a.add (i + j) := by
  unfold Addr.add
  by_cases hi : i = 0 <;> by_cases hj : j = 0 <;> simp [hi, hj, Nat.add_assoc]
theorem opens_slice {t e : TypeId} {α : Type} {d : Kd α} {ok : α → Prop} (ht : P.underlying t = some (.slice e)) (hc : P.cellsOf t = 1) (hd : Opens P e d ok) :
    Opens P t (Kd.slice e d) (fun l => l.length ≤ 9223372036854775807 ∧ ∀ a ∈ l, ok a) :=
  ⟨hc, fun H enc w spare fuel cs x h => by
    rcases Deep.open_slice ht h with ⟨rfl, _⟩ | ⟨a, len, cap, m, n, D, Pl, rfl, _, hl, hm, hmm, hxx, hx⟩
    · exact ⟨[], ⟨none, 0, rfl, Nat.le_refl _, rfl, Nat.zero_le _, fun h => absurd h (Nat.lt_irrefl _)⟩, Nat.zero_le _, fun _ h => nomatch h⟩
    have hlm : len ≤ m := by rw [hmm]; split <;> omega
    have hex : ∀ i, i < len → ∃ b : α, ∃ cs', w.cells? 0 (a.add (i * P.cellsOf e)) (P.cellsOf e) = some cs' ∧ d.K w b cs' ∧ ok b := fun i hi => by
      obtain ⟨cs', h1, h2⟩ := hx i (Nat.lt_of_lt_of_le hi hlm)
      obtain ⟨b, hb⟩ := hd.2 H enc w spare n cs' _ h2
      exact ⟨b, cs', h1, hb.1, hb.2⟩
    have hml : len ≤ 9223372036854775807 := by unfold maxLen at hm; omega
    obtain ⟨l, hll, hat⟩ : ∃ l : List α, l.length = len ∧ ∀ i p, l[i]? = some p → ∃ cs', w.cells? 0 (a.add (i * P.cellsOf e)) (P.cellsOf e) = some cs' ∧ d.K w p cs' ∧ ok p := by
      clear hx hlm hmm hl hm hml hxx h
      induction len with
      | zero => exact ⟨[], rfl, fun i p h => by simp at h⟩
      | succ len ih =>
        obtain ⟨l, hll, hat⟩ := ih (fun i hi => hex i (Nat.lt_succ_of_lt hi))
        obtain ⟨b, hb⟩ := hex len (Nat.lt_succ_self _)
        refine ⟨l ++ [b], by simp [hll], fun i p h => ?_⟩
        rcases Nat.lt_or_ge i l.length with hi | hi
        · rw [List.getElem?_append_left hi] at h
          exact hat i p h
        rw [List.getElem?_append_right hi] at h
        have hi0 : i - l.length = 0 := by
          rcases Nat.eq_zero_or_pos (i - l.length) with h0 | h0
          · exact h0
          rw [List.getElem?_eq_none (by simp; omega)] at h
          cases h
        rw [hi0] at h
        have : b = p := by simpa using h
        subst this
        have : i = len := by omega
        subst this
        exact hb
    subst hll
    refine ⟨l, ⟨some a, cap, rfl, hl, rfl, hml, fun _ => ⟨a, rfl, fun j p hj => ?_⟩⟩, hml, fun b hb => ?_⟩
    · obtain ⟨cs', h1, hk, _⟩ := hat j p hj
      obtain ⟨_, hlen, hcell⟩ := World.cells?_some h1
      refine ⟨cs', hlen.trans hd.1, hk, fun i u hu => ?_⟩
      have hi : i < P.cellsOf e := by
        have := (List.getElem?_eq_some_iff.1 hu).1
        omega
      have := hcell i hi
      rw [hu, add_add, hd.1] at this
      exact this
    obtain ⟨i, hi⟩ := List.getElem?_of_mem hb
    obtain ⟨_, _, _, hok⟩ := hat i b hi
    exact hok⟩
/-- The fields of a struct from an offset on. -/
def OpensF (P : Program) (fs : List Field) (off : Nat) {α : Type} (d : Kd α) (ok : α → Prop) : Prop :=
  ∀ (H : Type) (enc : TypeId × Value → H) (w : World) (spare : Nat → Bool) (n : Nat) (cs : List Value), (∀ f, f ∈ fs → ∃ y, DataW.trod enc P w 0 spare true n f.type ((cs.drop f.offset).take (P.cellsOf f.type)) = some y) → cs.length = off + d.sz → ∃ a : α, d.K w a (cs.drop off) ∧ ok a
theorem opens_last {f : Field} {off : Nat} {α : Type} {d : Kd α} {ok : α → Prop} (ho : f.offset = off) (hd : Opens P f.type d ok) : OpensF P [f] off d ok := fun H enc w spare n cs hf hl => by
  obtain ⟨y, hy⟩ := hf f (List.mem_singleton.2 rfl)
  rw [ho, List.take_of_length_le (by rw [List.length_drop, hl, hd.1]; omega)] at hy
  exact hd.2 H enc w spare n _ y hy
theorem opens_field {f : Field} {fs : List Field} {off : Nat} {α β : Type} {d : Kd α} {d' : Kd β} {ok : α → Prop} {ok' : β → Prop} (ho : f.offset = off) (hd : Opens P f.type d ok) (hr : OpensF P fs (off + d.sz) d' ok') :
    OpensF P (f :: fs) off (Kd.pair d d') (fun p => ok p.1 ∧ ok' p.2) := fun H enc w spare n cs hf hl => by
  obtain ⟨y, hy⟩ := hf f (List.mem_cons_self ..)
  have hz : (Kd.pair d d').sz = d.sz + d'.sz := rfl
  rw [ho, hd.1] at hy
  obtain ⟨a, ha, hoa⟩ := hd.2 H enc w spare n _ y hy
  obtain ⟨b, hb, hob⟩ := hr H enc w spare n cs (fun g hg => hf g (List.mem_cons_of_mem _ hg)) (by omega)
  refine ⟨(a, b), ⟨(cs.drop off).take d.sz, cs.drop (off + d.sz), ?_, ha, hb⟩, hoa, hob⟩
  rw [← List.drop_drop, List.take_append_drop]
theorem opens_struct {t : TypeId} {fs : Array Field} {α : Type} {d : Kd α} {ok : α → Prop} (ht : P.underlying t = some (.struct fs)) (hc : P.cellsOf t = d.sz) (hf : OpensF P fs.toList 0 d ok) : Opens P t d ok :=
  ⟨hc, fun H enc w spare fuel cs x h => by
    obtain ⟨xs, n, _, _, hlen, hxs, hi⟩ := DataW.trod_struct ht h
    have := hf H enc w spare n cs (fun f hm => by
      obtain ⟨i, hi'⟩ := List.getElem?_of_mem hm
      have hq := hi i f (by simpa using hi')
      have hlt : i < xs.length := by
        have := (List.getElem?_eq_some_iff.1 hi').1
        rw [hxs]
        simpa using this
      rw [List.getElem?_eq_getElem hlt] at hq
      exact ⟨_, hq⟩) (by omega)
    simpa using this⟩
/-- The same over another type of values. -/
theorem opens_iso {t : TypeId} {α β : Type} {d : Kd α} {ok : α → Prop} (f : β → α) (g : α → β) (hfg : ∀ a, f (g a) = a) (h : Opens P t d ok) : Opens P t (Kd.iso d f) (fun b => ok (f b)) :=
  ⟨h.1, fun H enc w spare fuel cs x hx => by
    obtain ⟨a, ha, hok⟩ := h.2 H enc w spare fuel cs x hx
    exact ⟨g a, by show d.K w (f (g a)) cs; rw [hfg]; exact ha, by show ok (f (g a)); rw [hfg]; exact hok⟩⟩
theorem opens_imp {t : TypeId} {α : Type} {d : Kd α} {ok ok' : α → Prop} (h : Opens P t d ok) (hi : ∀ a, ok a → ok' a) : Opens P t d ok' :=
  ⟨h.1, fun H enc w spare fuel cs x hx => by
    obtain ⟨a, ha, hok⟩ := h.2 H enc w spare fuel cs x hx
    exact ⟨a, ha, hi a hok⟩⟩
end Go.Proofs.Ytedlgllhaboljaa.Opens

namespace Go.Proofs.Ytedlgllhaboljaa.fnExactBegin
open Go.ChangeShapes Go.WideShapes Go.ChangeAt Go.RowKit
open Go.ChangeMaps (open_string shut_string)
open Go.Proofs.Ytedlgllhaboljaa.Opens Go.Proofs.Ytedlgllhaboljaa.F Go.Proofs.YtedlgllhaboljaaW.PrintWords
set_option linter.unusedVariables false
theorem own : ownKnob Try.prog.godebug = none := by kernel_rfl
theorem laidOut : laidOutB Try.prog = true := by kernel_rfl
set_option maxHeartbeats 1000000 in
set_option maxRecDepth 100000 in
theorem lifted (os : Os) (started : os.Started) (H : Type) (enc : TypeId × Value → H) :
    ReturnsInHanded {} Try.checked os 6 .any (Rows.fnExactBeginSpec.pre6 enc Try.prog Try.f6 Rows.fnExactBeginRow.domain false) (Rows.fnExactBeginSpec.post enc Try.prog Try.f6 false true false false) := by
  refine returnsInHanded_of_change_sized (C := Try.checked) own started (by kernel_rfl) Try.func6
    (ChangeSpec.witness6 (enc := enc) (C := Try.checked) false ⟨#[], #[.agg #[.slice none 0 0, .slice none 0 0, .slice none 0 0], .slice none 0 0], []⟩ 8 (by kernel_rfl) (by kernel_rfl) (by kernel_rfl) (by kernel_rfl)) ?_
  intro W base args ds gs before hval0 hW hcnd hsz0 _
  have hval : ∀ (j : Nat) t v, Try.f6.params[j]? = some t → args[j]? = some v → Value.okWide Try.prog W .any base t v := hval0
  have hW' := hW
  obtain ⟨p, q, hA0, hV, rfl, hfz, hnd⟩ := hW
  have hA : DataW.TrodAll enc Try.prog W 0 (fun _ => true) true Try.f6.params.toList args.toList ds p := hA0
  rw [Try.params6] at hA hval
  obtain ⟨v0, vs0, d0, ds0, p0, q0, hargs, rfl, rfl, h0, r0⟩ := trodAll_cons hA
  obtain ⟨v1, vs1, d1, ds1, p1, q1, rfl, rfl, rfl, h1, r1⟩ := trodAll_cons r0
  obtain ⟨rfl, rfl, rfl⟩ := trodAll_nil r1
  obtain rfl : args = #[v0, v1] := by cases args; simp_all
  obtain ⟨rfl, rfl⟩ := trodVars_none hV
  obtain ⟨cs0, rfl, hsz0⟩ := okWide_struct Try.underlying24 (hval 0 24 v0 rfl rfl)
  have k0 := h0
  have lt0 : ∀ x ∈ p0, x.block < W.heap.size := by obtain ⟨m, hm⟩ := k0; exact DataW.trod_lt m _ _ _ hm
  obtain ⟨fu0, hf0⟩ := h0
  obtain ⟨⟨l0_0, l0_1, l0_2⟩, ⟨_, _, hcs0, ⟨A0_0, c0_0, rfl, hc0_0, hr0_0⟩, _, _, rfl, ⟨A0_1, c0_1, rfl, hc0_1, hr0_1⟩, ⟨A0_2, c0_2, rfl, hc0_2, hr0_2⟩⟩, hw0_0, hw0_1, hw0_2⟩ := (opens_struct Try.underlying24 (by kernel_rfl) (opens_field rfl (opens_slice Try.underlying22 (by kernel_rfl) (opens_int Try.underlying3 (by kernel_rfl))) (opens_field rfl (opens_slice Try.underlying22 (by kernel_rfl) (opens_int Try.underlying3 (by kernel_rfl))) (opens_last rfl (opens_slice Try.underlying22 (by kernel_rfl) (opens_int Try.underlying3 (by kernel_rfl))))))).2 _ _ _ _ _ _ _ hf0
  obtain rfl : cs0 = #[.slice A0_0 l0_0.length c0_0, .slice A0_1 l0_1.length c0_1, .slice A0_2 l0_2.length c0_2] := by
    cases cs0
    simpa [Value.cells] using hcs0
  obtain ⟨a1, len1, cap1, rfl⟩ := okWide_slice Try.underlying22 (hval 1 22 v1 rfl rfl)
  have k1 := h1
  have lt1 : ∀ x ∈ p1, x.block < W.heap.size := by obtain ⟨m, hm⟩ := k1; exact DataW.trod_lt m _ _ _ hm
  obtain ⟨fu1, hf1⟩ := h1
  obtain ⟨l1, ⟨A1, c1, hcs1, hc1, hr1⟩, hw1⟩ := ((opens_slice Try.underlying22 (by kernel_rfl) (opens_int Try.underlying3 (by kernel_rfl)))).2 _ _ _ _ _ _ _ hf1
  simp [Value.cells] at hcs1
  obtain ⟨rfl, rfl, rfl⟩ := hcs1
  clear hA0 hval0 hsz0
  obtain ⟨k, h⟩ := (Pure.FnExactBegin : _) l0_0 l0_1 l0_2 l1 hw0_0 hw0_1 hw0_2 hw1
  refine (laws_FnExactBegin.calls k _ _ l0_0 _ _ l0_1 _ _ l0_2 _ _ l1 true W hr0_0 hc0_0 hr0_1 hc0_1 hr0_2 hc0_2 hr1 hc1 h).mono fun e W' ⟨he, bel⟩ => ?_
  subst he
  exact ⟨_, rfl, _, _, _, [], _, [], hW', trodAll_mk1 (shut_bool Try.underlying4 _), (trodAll_cons_mk (Below.trod laidOut (by kernel_rfl) (of_decide_eq_true (by kernel_rfl)) k0 bel lt0) (trodAll_cons_mk (Below.trod laidOut (by kernel_rfl) (of_decide_eq_true (by kernel_rfl)) k1 bel lt1) trodAll_mk0)), rfl, bel.frame _, fun h => by cases h⟩
theorem over : Rows.fnExactBeginRow.holds Try.pinned (OpenSpec.ofChange Rows.fnExactBeginSpec) :=
  OpenClaim.holds_of_wide 6 Try.f6 rfl rfl rfl rfl rfl rfl rfl ⟨rfl, rfl, rfl, rfl, rfl⟩ rfl rfl rfl rfl rfl (by kernel_rfl) Try.func6 (by kernel_rfl)
    (of_decide_eq_true (by kernel_rfl)) (by unfold Func.isWrapper; first | (rw [if_pos (by decide +kernel)]; kernel_rfl) | (rw [if_neg (by decide +kernel)]; exact ⟨rfl, rfl⟩))
    (fun os started H enc _ => lifted os started H enc)
theorem proved : Rows.FnExactBeginSaid := over
#print axioms proved
end Go.Proofs.Ytedlgllhaboljaa.fnExactBegin
namespace Go.Proofs.Ytedlgllhaboljaa
/-- The row, under a short name, for the claim. -/
theorem fnExactBegin_holds : Rows.FnExactBeginSaid := fnExactBegin.proved
end Go.Proofs.Ytedlgllhaboljaa
