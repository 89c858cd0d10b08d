/- Merged texts below the law FnExactAppendTo: Go functions as Lean functions, their contracts, and plain lemmas. -/
import Derived.Test.YtalbkbmnjpameaaQFnExactAppendTo25
import Derived.Test.YtalbkbmnjpameaaQFnExactAppendTo23
import Derived.Test.YtalbkbmnjpameaaQFnExactAppendTo24
import Derived.Test.YtalbkbmnjpameaaQFnExactAppendTo22
import Derived.Deep.Slices
import Derived.ChangeSame
import Derived.WideShapes
namespace Go.Proofs.Ytalbkbmnjpameaa.RL
set_option linter.unusedVariables false
set_option linter.unusedSimpArgs false
open Go.RowKit Go.Proofs.Ytalbkbmnjpameaa.F Go.Proofs.Ytalbkbmnjpameaa.PK Go.Proofs.YtalbkbmnjpameaaW.PrintWords Go.Proofs.YtalbkbmnjpameaaW.PrintLast
def apG (l : List S54) : Nat → List S54 → List S54
  | _, [] => l
  | s, e :: r => if s < l.length ∧ (rd_T54 l s).f0 = e.f0 then apG l (s + 1) r else l.take s ++ e :: r
theorem apG_len (l : List S54) : ∀ (es : List S54) (s : Nat), (apG l s es).length ≤ l.length + es.length := by
  intro es
  induction es with
  | nil => intro s; simp [apG]
  | cons e r ih =>
    intro s
    unfold apG
    split
    · have := ih (s + 1); simp only [List.length_cons]; omega
    · simp only [List.length_append, List.length_take, List.length_cons]; omega
def finA (a b : Int) (l x : List S54) : Int × Int × List S54 × Bool := if okR a b x = true then (a, b, x, true) else (a, b, l, false)
def appR (a b : Int) (l : List S54) (p t : Int) (es : List S54) : Int × Int × List S54 × Bool :=
  if okR a b l = true ∧ inL a l p ∧ termM a b l p = t ∧ es.length ≤ 10 then finA a b l (apG l (p - a).toNat es) else (a, b, l, false)
theorem app_len (a b : Int) (l : List S54) (p t : Int) (es : List S54) : (appR a b l p t es).2.2.1.length ≤ l.length + es.length := by
  unfold appR finA
  have := apG_len l es (p - a).toNat
  split
  · split
    · exact this
    · exact Nat.le_add_right _ _
  · exact Nat.le_add_right _ _
theorem specFin {a b : Int} {l : List S54} (h : okR a b l = true) (x : List S54) (hx : x.length ≤ 1000) : Ev (fun k => (spec_RLogOk.f k a b x).bind fun t536 => (if t536 = true then ((spec_l05Copy.f k a b x).bind fun bt537 => (some (bt537.1, bt537.2.1, bt537.2.2, true))) else ((spec_l05Copy.f k a b l).bind fun bt542 => (some (bt542.1, bt542.2.1, bt542.2.2, false))))) (finA a b l x) := by
  have hb := okR_bd h
  unfold finA
  simp only [EvB (spec_ok a b x (by omega))]
  by_cases hq : okR a b x = true
  · simp only [if_pos hq, EvB (spec_copy a b x (by omega))]; exact EvN
  · simp only [if_neg hq, EvB (spec_copy a b l (by omega))]; exact EvN
theorem implFin {a b : Int} {l : List S54} (h : okR a b l = true) (x : List S54) (hx : x.length ≤ 1000) : Ev (fun k => impl_AppendTo.j2 k a b l a b x) (finA a b l x) := by
  have hb := okR_bd h
  refine EvS ?_
  unfold finA
  simp only [impl_AppendTo.j2, EvB (impl_ok a b x (by omega))]
  by_cases hq : okR a b x = true
  · simp only [if_pos hq]; exact EvN
  · simp only [if_neg hq, impl_copy a b l (by omega), Option.bind_some]; exact EvN
section
variable {a b p : Int} {l es : List S54} (h : okR a b l = true) (hi : inL a l p) (he : es.length ≤ 10)
include h hi he
theorem at_eq (i : Nat) (hn : i ≤ es.length) : wrap64 (wrap64 (p + (i : Int)) - a) = (((p - a).toNat + i : Nat) : Int) := by
  have hb := okR_bd h
  unfold inL lastM at hi
  rw [w64 (x := p + (i : Int)) (by omega) (by omega), w64 (by omega) (by omega)]
  omega
theorem specApT : ∀ i : Nat, i ≤ es.length → ∀ x : List S54, x.length = (p - a).toNat + i → Ev (fun k => spec_AppendTo.l0 k p es i a b l a b x) (finA a b l (x ++ es.drop i)) :=
  fun i hn x hx => by
  have hb := okR_bd h
  have hs : (p - a).toNat ≤ 60 := by unfold inL lastM at hi; omega
  exact up (P := fun i => ∀ x : List S54, (x.length : Int) = ((p - a).toNat : Int) + i → Ev (fun k => spec_AppendTo.l0 k p es i a b l a b x) (finA a b l (x ++ es.drop i.toNat))) es.length
    (fun x hx => EvS (by
      simp only [spec_AppendTo.l0, Int.lt_irrefl, if_false, Int.toNat_natCast, List.drop_length, List.append_nil]
      exact specFin h x (by omega)))
    (fun i hn ih x hx => EvS (by
      have e := at_eq h hi he i (by omega)
      have e2 : (((p - a).toNat + i : Nat) : Int) = (x.length : Int) := by omega
      rw [e2] at e
      simp only [spec_AppendTo.l0, if_pos (show (i : Int) < (es.length : Int) by omega), e, Int.lt_irrefl, if_false]
      refine EvS ?_
      have hS : (x.length < 5864062014805) = True := eq_true (by omega)
      simp only [spec_AppendTo.j2, Bool.false_eq_true, if_false, Int.lt_irrefl, if_pos (show 0 ≤ (i : Int) by omega), if_pos (show (i : Int) < (es.length : Int) by omega), hS, if_true, rd54 es i hn, nxt i _ hn (show es.length ≤ 9223372036854775807 by omega)]
      have := ih (x ++ [es[i]]) (by simp; omega)
      rw [Int.toNat_natCast, drop_at es i hn]
      rw [Int.toNat_natCast, List.append_assoc] at this
      exact this)) i hn x (by omega)
theorem specAp : ∀ i : Nat, i ≤ es.length → (p - a).toNat + i ≤ l.length → Ev (fun k => spec_AppendTo.l0 k p es i a b l a b l) (finA a b l (apG l ((p - a).toNat + i) (es.drop i))) :=
  fun i hn hx => by
  have hb := okR_bd h
  exact up (P := fun i => ((p - a).toNat : Int) + i ≤ l.length → Ev (fun k => spec_AppendTo.l0 k p es i a b l a b l) (finA a b l (apG l ((p - a).toNat + i.toNat) (es.drop i.toNat)))) es.length
    (fun hx => EvS (by
      simp only [spec_AppendTo.l0, Int.lt_irrefl, if_false, Int.toNat_natCast, List.drop_length, apG]
      exact specFin h l (by omega)))
    (fun i hn ih hx => EvS (by
      have e := at_eq h hi he i (by omega)
      have T := specApT h hi he (i + 1) hn
      simp only [spec_AppendTo.l0, if_pos (show (i : Int) < (es.length : Int) by omega), e, if_pos (show 0 ≤ (i : Int) by omega), if_pos (show 0 ≤ (((p - a).toNat + i : Nat) : Int) by omega)]
      rw [Int.toNat_natCast, drop_at es i hn]
      have hS : (∀ n : Nat, n ≤ 60 → (n < 5864062014805) = True) := fun n hn => eq_true (by omega)
      by_cases hc : (((p - a).toNat + i : Nat) : Int) < (l.length : Int)
      · simp only [if_pos hc]
        refine EvS ?_
        by_cases hq : (rd_T54 l (((p - a).toNat + i : Nat) : Int)).f0 = es[i].f0
        · simp only [spec_AppendTo.j2, rd54 es i hn, hq, BEq.rfl, if_true, nxt i _ hn (show es.length ≤ 9223372036854775807 by omega), apG, and_true, if_pos (show (p - a).toNat + i < l.length by omega)]
          have := ih (by omega)
          rw [Int.toNat_natCast] at this
          exact this
        · simp only [spec_AppendTo.j2, rd54 es i hn, beq_eq_false_iff_ne.2 hq, Bool.false_eq_true, if_false, if_pos hc, if_pos (show 0 ≤ (i : Int) by omega), if_pos (show 0 ≤ (((p - a).toNat + i : Nat) : Int) by omega), if_pos (show (((p - a).toNat + i : Nat) : Int) ≤ (l.length : Int) by omega), Option.bind_some, if_pos (show (i : Int) < (es.length : Int) by omega), Int.toNat_natCast, hS _ (show (l.take ((p - a).toNat + i)).length ≤ 60 by rw [List.length_take]; omega), if_true, nxt i _ hn (show es.length ≤ 9223372036854775807 by omega), apG, hq, and_false]
          have := T (l.take ((p - a).toNat + i) ++ [es[i]]) (by simp; omega)
          rw [List.append_assoc] at this
          exact this
      · have e2 : (p - a).toNat + i = l.length := by omega
        simp only [if_neg hc]
        refine EvS ?_
        simp only [spec_AppendTo.j2, rd54 es i hn, Bool.false_eq_true, if_false, if_neg hc, if_pos (show 0 ≤ (i : Int) by omega), if_pos (show (i : Int) < (es.length : Int) by omega), hS _ (show l.length ≤ 60 by omega), if_true, nxt i _ hn (show es.length ≤ 9223372036854775807 by omega), apG, e2, Nat.lt_irrefl, Int.lt_irrefl, false_and, if_false, List.take_length]
        have := T (l ++ [es[i]]) (by simp; omega)
        rw [List.append_assoc] at this
        exact this)) i hn (by omega)
theorem implAp : ∀ i : Nat, i ≤ es.length → (p - a).toNat + i ≤ l.length → Ev (fun k => impl_AppendTo.l0 k p es es (es.length : Int) i a b l a b l) (finA a b l (apG l ((p - a).toNat + i) (es.drop i))) :=
  fun i hn hx => by
  have hb := okR_bd h
  have hp : inL a l p := hi
  unfold inL lastM at hp
  exact up (P := fun i => ((p - a).toNat : Int) + i ≤ l.length → Ev (fun k => impl_AppendTo.l0 k p es es (es.length : Int) i a b l a b l) (finA a b l (apG l ((p - a).toNat + i.toNat) (es.drop i.toNat)))) es.length
    (fun hx => EvS (by
      simp only [impl_AppendTo.l0, Int.lt_irrefl, if_false, Int.toNat_natCast, List.drop_length, apG]
      exact implFin h l (by omega)))
    (fun i hn ih hx => EvS (by
      have e1 : wrap64 (wrap64 (p + 1) + (i : Int)) = p + 1 + i := by rw [w64 (x := p + 1) (by omega) (by omega), w64 (by omega) (by omega)]
      have e3 : wrap64 (wrap64 (p + 1 + (i : Int) - a) - 1) = (((p - a).toNat + i : Nat) : Int) := by
        rw [w64 (x := p + 1 + (i : Int) - a) (by omega) (by omega), w64 (by omega) (by omega)]; omega
      have hS : (∀ n : Nat, n ≤ 70 → (n < 5864062014805) = True) := fun n hn => eq_true (by omega)
      have hlen : (l.take ((p - a).toNat + i)).length + (es.drop i).length ≤ 70 := by rw [List.length_take, List.length_drop]; omega
      simp only [impl_AppendTo.l0, if_pos (show (i : Int) < (es.length : Int) by omega), if_pos (show 0 ≤ (i : Int) by omega), impl_RLog_last.f, Option.bind_some, last_eq h, e1, e3, rd54 es i hn, if_pos (show 0 ≤ (((p - a).toNat + i : Nat) : Int) by omega), if_pos (show (((p - a).toNat + i : Nat) : Int) ≤ (l.length : Int) by omega), if_pos (show (i : Int) ≤ (es.length : Int) by omega), Int.toNat_natCast, hS _ hlen, if_true]
      rw [drop_at es i hn]
      by_cases hc : p + 1 + (i : Int) ≤ lastM a l
      · have hin : inL a l (p + 1 + i) := by unfold inL; omega
        have hc' : (p - a).toNat + i < l.length := by unfold lastM at hc; omega
        have hT : termM a b l (p + 1 + i) = (rd_T54 l (((p - a).toNat + i : Nat) : Int)).f0 := by
          unfold termM
          rw [if_neg (by omega)]
          rw [show p + 1 + (i : Int) - a - 1 = (((p - a).toNat + i : Nat) : Int) by omega]
        simp only [if_pos hc, impl_term h hin, Option.bind_some, hT]
        by_cases hq : (rd_T54 l (((p - a).toNat + i : Nat) : Int)).f0 = es[i].f0
        · simp only [if_pos hq, nxt i _ hn (show es.length ≤ 9223372036854775807 by omega), apG, hq, and_true, if_pos hc']
          have := ih (by omega)
          rw [Int.toNat_natCast] at this
          exact this
        · simp only [if_neg hq, apG, hq, and_false, if_false]
          exact implFin h _ (by simp only [List.length_append, List.length_take, List.length_cons, List.length_drop]; omega)
      · have hc' : ¬ (p - a).toNat + i < l.length := by unfold lastM at hc; omega
        simp only [if_neg hc, apG, hc', false_and, if_false]
        exact implFin h _ (by simp only [List.length_append, List.length_take, List.length_cons, List.length_drop]; omega))) i hn (by omega)
end
theorem specAppJ (a b p t : Int) (l es : List S54) (hl : l.length ≤ 100000000) (x : Bool) (hx : x = !decide (okR a b l = true ∧ inL a l p ∧ termM a b l p = t ∧ es.length ≤ 10)) : Ev (fun k => spec_AppendTo.j0 k p es x a b l) (appR a b l p t es) := by
  refine EvS ?_
  unfold appR
  by_cases h : okR a b l = true ∧ inL a l p ∧ termM a b l p = t ∧ es.length ≤ 10
  · simp only [hx, decide_eq_true h, Bool.not_true, spec_AppendTo.j0, Bool.false_eq_true, if_false, if_pos h, EvB (spec_copy a b l (by omega))]
    have hi := h.2.1
    unfold inL lastM at hi
    exact specAp h.1 h.2.1 h.2.2.2 0 (Nat.zero_le _) (by omega)
  · simp only [hx, decide_eq_false h, Bool.not_false, spec_AppendTo.j0, if_true, EvB (spec_copy a b l (by omega)), if_neg h]
    exact EvN
theorem spec_app (a b : Int) (l : List S54) (p t : Int) (es : List S54) (hl : l.length ≤ 100000000) : Ev (fun k => spec_AppendTo.f k a b l p t es) (appR a b l p t es) := by
  unfold spec_AppendTo.f
  have J := specAppJ a b p t l es hl
  simp only [EvB (spec_ok a b l (by omega))]
  by_cases h : okR a b l = true
  · simp only [h, if_true, EvB (spec_term a b l p (by omega)), termR, true_and]
    simp only [h, true_and] at J
    by_cases hi : inL a l p
    · have hbd := term_bd h hi
      simp only [hi, if_true]
      simp only [hi, true_and] at J
      by_cases hq : termM a b l p = t
      · simp only [hq, if_true, if_neg (show ¬ t < 0 by omega)]
        refine J _ ?_
        simp only [hq, true_and]
        by_cases h10 : es.length ≤ 10
        · simp only [h10, decide_true, decide_eq_false (show ¬ (es.length : Int) > 10 by omega)]; rfl
        · simp only [h10, decide_false, decide_eq_true (show (es.length : Int) > 10 by omega)]; rfl
      · simp only [hq, if_false]
        exact J _ (by simp only [hq, false_and, decide_false]; rfl)
    · simp only [hi, if_false]
      simp only [hi, false_and] at J
      by_cases hq : (-1 : Int) = t
      · simp only [hq, if_true, if_pos (show t < 0 by omega)]
        exact J _ (by simp)
      · simp only [hq, if_false]
        exact J _ (by simp)
  · simp only [Bool.eq_false_iff.2 h, Bool.false_eq_true, if_false]
    exact J _ (by simp only [h, false_and, decide_false]; rfl)
theorem implAppJ (a b p t : Int) (l es : List S54) (hl : l.length ≤ 100000000) (x : Bool) (hx : x = !decide (okR a b l = true ∧ inL a l p ∧ termM a b l p = t ∧ es.length ≤ 10)) : Ev (fun k => impl_AppendTo.j0 k p es x a b l a b l) (appR a b l p t es) := by
  refine EvS ?_
  unfold appR
  by_cases h : okR a b l = true ∧ inL a l p ∧ termM a b l p = t ∧ es.length ≤ 10
  · simp only [hx, decide_eq_true h, Bool.not_true, impl_AppendTo.j0, Bool.false_eq_true, if_false, if_pos h]
    have hi := h.2.1
    unfold inL lastM at hi
    exact implAp h.1 h.2.1 h.2.2.2 0 (Nat.zero_le _) (by omega)
  · simp only [hx, decide_eq_false h, Bool.not_false, impl_AppendTo.j0, if_true, if_neg h]
    exact EvN
theorem impl_app (a b : Int) (l : List S54) (p t : Int) (es : List S54) (hl : l.length ≤ 100000000) : Ev (fun k => impl_AppendTo.f k a b l p t es) (appR a b l p t es) := by
  unfold impl_AppendTo.f impl_RLog_last.f
  have J := implAppJ a b p t l es hl
  simp only [impl_copy a b l (by omega), Option.bind_some, EvB (impl_ok a b l (by omega))]
  by_cases h : okR a b l = true
  · simp only [h, if_true, last_eq h]
    simp only [h, true_and] at J
    by_cases h1 : p < a
    · have hi : ¬ inL a l p := fun hi => by unfold inL at hi; omega
      simp only [if_pos h1]
      exact J _ (by simp [hi])
    by_cases h2 : p > lastM a l
    · have hi : ¬ inL a l p := fun hi => by unfold inL at hi; omega
      simp only [if_neg h1, if_pos h2]
      exact J _ (by simp [hi])
    have hi : inL a l p := by unfold inL; omega
    simp only [if_neg h1, if_neg h2, impl_term h hi, Option.bind_some]
    simp only [hi, true_and] at J
    by_cases hq : termM a b l p = t
    · simp only [hq, if_true]
      refine J _ ?_
      simp only [hq, true_and]
      by_cases h10 : es.length ≤ 10
      · simp only [h10, decide_true, decide_eq_false (show ¬ (es.length : Int) > 10 by omega)]; rfl
      · simp only [h10, decide_false, decide_eq_true (show (es.length : Int) > 10 by omega)]; rfl
    · simp only [hq, if_false]
      exact J _ (by simp only [hq, false_and, decide_false]; rfl)
  · simp only [Bool.eq_false_iff.2 h, Bool.false_eq_true, if_false]
    exact J _ (by simp only [h, false_and, decide_false]; rfl)
theorem markGen (l : List S54) (s : Int) (hl : l.length ≤ 3000000) (h0 : 0 ≤ s) (h1 : s ≤ 1000000000000) : ∃ (m : Int) (l' : List S54), Ev (fun k => laws_markEntryS.f k l s) (m, l') ∧ s ≤ m ∧ m ≤ s + 2 * l.length ∧ Ev (fun k => laws_heldEntryS.f k l' s) m := by
  obtain ⟨m, l', h1, h2, h5, _, _, h3⟩ := marks laws_markEntryS.l0 laws_heldEntryS.l0 2 (by omega) l.length 9223372036854775000
    (fun l a hl => EvS (by simp only [laws_markEntryS.l0, hl, Int.lt_irrefl, if_false]; exact EvN))
    (fun l a hl => EvS (by simp only [laws_heldEntryS.l0, hl, Int.lt_irrefl, if_false]; exact EvN))
    (fun i l1 a hi hl1 h0 hN => by
      obtain ⟨s, hs⟩ := markText (a + 1) (by omega)
      have hw1 : wrap64 (a + 1) = a + 1 := w64 (by omega) (by omega)
      have hw2 : wrap64 (a + 1 + 1) = a + 2 := by rw [w64 (by omega) (by omega)]; omega
      refine ⟨⟨a, s⟩, a + 2, by omega, by omega, fun r hr => EvS ?_, fun l' r hl' he hr => EvS ?_⟩
      · simp only [laws_markEntryS.l0, if_pos (show (i : Int) < (l1.length : Int) by omega), if_pos (show 0 ≤ (i : Int) by omega), Option.bind_some, hw1, Int.toNat_natCast]
        rw [EvB hs]
        simp only [hw2, nxt i l.length hi (by omega), List.set_set]
        rw [rd54 _ i (by simp; omega)]
        simp only [List.getElem_set_self]
        exact hr
      · have hli : i < l'.length := by omega
        rw [List.getElem?_eq_getElem hli] at he
        have he := Option.some.inj he
        simp only [laws_heldEntryS.l0, if_pos (show (i : Int) < (l'.length : Int) by omega), if_pos (show 0 ≤ (i : Int) by omega), rd54 l' i hli, he, if_true, hw1]
        rw [EvB hs]
        simp only [if_true, hw2, nxt i l.length hi (by omega)]
        exact hr)
    0 (Nat.zero_le _) l s rfl (by omega) (by omega)
  refine ⟨m, l', ?_, h2, by omega, ?_⟩
  · unfold laws_markEntryS.f
    exact h1
  · unfold laws_heldEntryS.f
    exact h3
theorem markLog (a b : Int) (l : List S54) (hl : l.length ≤ 3000000) : ∃ (m : Int) (l' : List S54), Ev (fun k => laws_markRLog.f k a b l 1) (m, l') ∧ 1 ≤ m ∧ m ≤ 1 + 2 * l.length ∧ Ev (fun k => laws_heldRLog.f k a b l' 1) m := by
  obtain ⟨m, l', h1, h2, h3, h4⟩ := markGen l 1 hl (by omega) (by omega)
  refine ⟨m, l', ?_, h2, h3, ?_⟩
  · unfold laws_markRLog.f
    rw [EvB h1]
    exact EvN
  · unfold laws_heldRLog.f
    rw [EvB h4]
    simp only [if_neg (show ¬ m < 0 by omega)]
    exact EvN
end Go.Proofs.Ytalbkbmnjpameaa.RL

namespace Go.Proofs.Ytalbkbmnjpameaa.Pure
set_option linter.unusedVariables false
set_option linter.unusedSimpArgs false
open Go.RowKit Go.Proofs.Ytalbkbmnjpameaa.F Go.Proofs.Ytalbkbmnjpameaa.PK Go.Proofs.Ytalbkbmnjpameaa.RL Go.Proofs.YtalbkbmnjpameaaW.PrintWords Go.Proofs.YtalbkbmnjpameaaW.PrintLast
theorem FnExactAppendTo : ∀ (a0_0 : Int) (a0_1 : Int) (l0_2 : List (S64)) (a1 : Int) (a2 : Int) (l3 : List (S64)), ((Lit.int .i64 a0_0).wf = true) → ((Lit.int .i64 a0_1).wf = true) → (l0_2.length ≤ 9223372036854775807 ∧ ∀ y_ ∈ l0_2, (((Lit.int .i64 y_.f0).wf = true) ∧ (y_.f1.size ≤ 9223372036854775807))) → ((Lit.int .i64 a1).wf = true) → ((Lit.int .i64 a2).wf = true) → (l3.length ≤ 9223372036854775807 ∧ ∀ y_ ∈ l3, (((Lit.int .i64 y_.f0).wf = true) ∧ (y_.f1.size ≤ 9223372036854775807))) → ∃ k, laws_FnExactAppendTo.f k a0_0 a0_1 l0_2 a1 a2 l3 = some true := by
  intro a b l p q es ha hb hl hp hq hes
  obtain ⟨t, ht, ht1, hlen⟩ := szRLog a b l 1048576 (by omega) (by omega) hl
  refine EvE ?_
  unfold laws_FnExactAppendTo.f
  by_cases h : t < 0
  · simp only [EvB ht, if_pos h]; exact EvN
  obtain ⟨t', ht', _, _, hlen'⟩ := szEntryS es t (by omega) (by omega) hes.1 (fun y hy => (hes.2 y hy).2)
  by_cases h' : t' < 0
  · simp only [EvB ht, if_neg h, EvB ht', if_pos h']; exact EvN
  have hc := conv_length l
  have hc' := conv_length es
  have hL := hlen (by omega)
  have hE := hlen' (by omega)
  have hT := app_len a b (conv l) p q (conv es)
  have hS := spec_app a b (conv l) p q (conv es) (by omega)
  have hI := impl_app a b (conv l) p q (conv es) (by omega)
  generalize hr : appR a b (conv l) p q (conv es) = r at hT hS hI
  obtain ⟨c, d, x, g⟩ := r
  simp only at hT
  obtain ⟨m, l', h1, h2, h2', h3⟩ := markLog a b (conv l) (by omega)
  obtain ⟨n, e', i1, i2, _⟩ := markGen (conv es) m (by omega) (by omega) (by omega)
  obtain ⟨m', r', g1, g2, _, g3⟩ := markLog c d x (by omega)
  simp only [EvB ht, if_neg h, EvB ht', if_neg h', EvB (toRLog a b l hL), EvB (toEntryS es hE), EvB hS, EvB hI, EvB (eqRLog c d x (by omega)), if_true, bne_self_eq_false]
  refine EvS ?_
  simp only [laws_FnExactAppendTo.j0, Bool.false_eq_true, if_false, EvB (toRLog a b l hL), EvB (eqRLog a b (conv l) (by omega)), if_true, EvB (toEntryS es hE), EvB (eqEntryS (conv es) (by omega)), EvB h1, EvB i1, if_neg (show ¬ n < 0 by omega), EvB (eqRLog c d x (by omega)), bne_self_eq_false]
  refine EvS ?_
  simp only [laws_FnExactAppendTo.j1, Bool.false_eq_true, if_false, EvB g1, EvB g3, if_neg (show ¬ m' < 0 by omega), if_true, EvB (toRLog a b l hL), EvB (toEntryS es hE), EvB hI, EvB (eqRLog c d x (by omega)), bne_self_eq_false]
  refine EvS ?_
  simp only [laws_FnExactAppendTo.j2, Bool.false_eq_true, if_false, EvB g3, if_neg (show ¬ m' < 0 by omega), if_true]
  exact EvN
end Go.Proofs.Ytalbkbmnjpameaa.Pure

namespace Go.Proofs.Ytalbkbmnjpameaa.Opens
open Go.RowKit Go.Proofs.YtalbkbmnjpameaaW.PrintWords
def Opens (P : Program) (t : TypeId) {α : Type} (d : Kd α) (ok : α → Prop) : Prop :=
  P.cellsOf t = d.sz ∧ ∀ (H : Type) (enc : TypeId × Value → H) (w : World) (spare : Nat → Bool) (fuel : Nat) (cs : List Value) (x : DataW H × List MemPlace), DataW.trod enc P w 0 spare true fuel t cs = some x → ∃ a : α, d.K w a cs ∧ ok a
variable {P : Program}
theorem opens_int {t : TypeId} {k : IntKind} (ht : P.underlying t = some (.int k)) (hc : P.cellsOf t = 1) : Opens P t (Kd.int k) (fun a => (Lit.int k a).wf = true) :=
  ⟨hc, fun _ _ _ _ _ _ _ h => by
    obtain ⟨n, rfl, _, hw⟩ := DataW.trod_int ht h
    exact ⟨n, rfl, hw⟩⟩
theorem opens_string {t : TypeId} (ht : P.underlying t = some .string) (hc : P.cellsOf t = 1) : Opens P t Kd.string (fun a => a.size ≤ 9223372036854775807) :=
  ⟨hc, fun _ _ _ _ _ _ _ h => by
    obtain ⟨n, rfl, _, hw⟩ := DataW.trod_string ht h
    exact ⟨n, rfl, hw⟩⟩
theorem add_add (a : Addr) (i j : Nat) : (a.add i).add j = a.add (i + j) := by
  unfold Addr.add
  by_cases hi : i = 0 <;> by_cases hj : j = 0 <;> simp [hi, hj, Nat.add_assoc]
theorem opens_slice {t e : TypeId} {α : Type} {d : Kd α} {ok : α → Prop} (ht : P.underlying t = some (.slice e)) (hc : P.cellsOf t = 1) (hd : Opens P e d ok) :
    Opens P t (Kd.slice e d) (fun l => l.length ≤ 9223372036854775807 ∧ ∀ a ∈ l, ok a) :=
  ⟨hc, fun H enc w spare fuel cs x h => by
    rcases Deep.open_slice ht h with ⟨rfl, _⟩ | ⟨a, len, cap, m, n, D, Pl, rfl, _, hl, hm, hmm, hxx, hx⟩
    · exact ⟨[], ⟨none, 0, rfl, Nat.le_refl _, rfl, Nat.zero_le _, fun h => absurd h (Nat.lt_irrefl _)⟩, Nat.zero_le _, fun _ h => nomatch h⟩
    · have hlm : len ≤ m := by rw [hmm]; split <;> omega
      have hex : ∀ i, i < len → ∃ b : α, ∃ cs', w.cells? 0 (a.add (i * P.cellsOf e)) (P.cellsOf e) = some cs' ∧ d.K w b cs' ∧ ok b := fun i hi => by
        obtain ⟨cs', h1, h2⟩ := hx i (Nat.lt_of_lt_of_le hi hlm)
        obtain ⟨b, hb⟩ := hd.2 H enc w spare n cs' _ h2
        exact ⟨b, cs', h1, hb.1, hb.2⟩
      have hml : len ≤ 9223372036854775807 := by unfold maxLen at hm; omega
      obtain ⟨l, hll, hat⟩ : ∃ l : List α, l.length = len ∧ ∀ i p, l[i]? = some p → ∃ cs', w.cells? 0 (a.add (i * P.cellsOf e)) (P.cellsOf e) = some cs' ∧ d.K w p cs' ∧ ok p := by
        clear hx hlm hmm hl hm hml hxx h
        induction len with
        | zero => exact ⟨[], rfl, fun i p h => by simp at h⟩
        | succ len ih =>
          obtain ⟨l, hll, hat⟩ := ih (fun i hi => hex i (Nat.lt_succ_of_lt hi))
          obtain ⟨b, hb⟩ := hex len (Nat.lt_succ_self _)
          refine ⟨l ++ [b], by simp [hll], fun i p h => ?_⟩
          rcases Nat.lt_or_ge i l.length with hi | hi
          · rw [List.getElem?_append_left hi] at h
            exact hat i p h
          · rw [List.getElem?_append_right hi] at h
            have hi0 : i - l.length = 0 := by
              rcases Nat.eq_zero_or_pos (i - l.length) with h0 | h0
              · exact h0
              · rw [List.getElem?_eq_none (by simp; omega)] at h
                cases h
            rw [hi0] at h
            have : b = p := by simpa using h
            subst this
            have : i = len := by omega
            subst this
            exact hb
      subst hll
      refine ⟨l, ⟨some a, cap, rfl, hl, rfl, hml, fun _ => ⟨a, rfl, fun j p hj => ?_⟩⟩, hml, fun b hb => ?_⟩
      · obtain ⟨cs', h1, hk, _⟩ := hat j p hj
        obtain ⟨_, hlen, hcell⟩ := World.cells?_some h1
        refine ⟨cs', hlen.trans hd.1, hk, fun i u hu => ?_⟩
        have hi : i < P.cellsOf e := by
          have := (List.getElem?_eq_some_iff.1 hu).1
          omega
        have := hcell i hi
        rw [hu, add_add, hd.1] at this
        exact this
      · obtain ⟨i, hi⟩ := List.getElem?_of_mem hb
        obtain ⟨_, _, _, hok⟩ := hat i b hi
        exact hok⟩
def OpensF (P : Program) (fs : List Field) (off : Nat) {α : Type} (d : Kd α) (ok : α → Prop) : Prop :=
  ∀ (H : Type) (enc : TypeId × Value → H) (w : World) (spare : Nat → Bool) (n : Nat) (cs : List Value), (∀ f, f ∈ fs → ∃ y, DataW.trod enc P w 0 spare true n f.type ((cs.drop f.offset).take (P.cellsOf f.type)) = some y) → cs.length = off + d.sz → ∃ a : α, d.K w a (cs.drop off) ∧ ok a
theorem opens_last {f : Field} {off : Nat} {α : Type} {d : Kd α} {ok : α → Prop} (ho : f.offset = off) (hd : Opens P f.type d ok) : OpensF P [f] off d ok := fun H enc w spare n cs hf hl => by
  obtain ⟨y, hy⟩ := hf f (List.mem_singleton.2 rfl)
  rw [ho, List.take_of_length_le (by rw [List.length_drop, hl, hd.1]; omega)] at hy
  exact hd.2 H enc w spare n _ y hy
theorem opens_field {f : Field} {fs : List Field} {off : Nat} {α β : Type} {d : Kd α} {d' : Kd β} {ok : α → Prop} {ok' : β → Prop} (ho : f.offset = off) (hd : Opens P f.type d ok) (hr : OpensF P fs (off + d.sz) d' ok') :
    OpensF P (f :: fs) off (Kd.pair d d') (fun p => ok p.1 ∧ ok' p.2) := fun H enc w spare n cs hf hl => by
  obtain ⟨y, hy⟩ := hf f (List.mem_cons_self ..)
  have hz : (Kd.pair d d').sz = d.sz + d'.sz := rfl
  rw [ho, hd.1] at hy
  obtain ⟨a, ha, hoa⟩ := hd.2 H enc w spare n _ y hy
  obtain ⟨b, hb, hob⟩ := hr H enc w spare n cs (fun g hg => hf g (List.mem_cons_of_mem _ hg)) (by omega)
  refine ⟨(a, b), ⟨(cs.drop off).take d.sz, cs.drop (off + d.sz), ?_, ha, hb⟩, hoa, hob⟩
  rw [← List.drop_drop, List.take_append_drop]
theorem opens_struct {t : TypeId} {fs : Array Field} {α : Type} {d : Kd α} {ok : α → Prop} (ht : P.underlying t = some (.struct fs)) (hc : P.cellsOf t = d.sz) (hf : OpensF P fs.toList 0 d ok) : Opens P t d ok :=
  ⟨hc, fun H enc w spare fuel cs x h => by
    obtain ⟨xs, n, _, _, hlen, hxs, hi⟩ := DataW.trod_struct ht h
    have := hf H enc w spare n cs (fun f hm => by
      obtain ⟨i, hi'⟩ := List.getElem?_of_mem hm
      have hq := hi i f (by simpa using hi')
      have hlt : i < xs.length := by
        have := (List.getElem?_eq_some_iff.1 hi').1
        rw [hxs]
        simpa using this
      rw [List.getElem?_eq_getElem hlt] at hq
      exact ⟨_, hq⟩) (by omega)
    simpa using this⟩
theorem opens_iso {t : TypeId} {α β : Type} {d : Kd α} {ok : α → Prop} (f : β → α) (g : α → β) (hfg : ∀ a, f (g a) = a) (h : Opens P t d ok) : Opens P t (Kd.iso d f) (fun b => ok (f b)) :=
  ⟨h.1, fun H enc w spare fuel cs x hx => by
    obtain ⟨a, ha, hok⟩ := h.2 H enc w spare fuel cs x hx
    exact ⟨g a, by show d.K w (f (g a)) cs; rw [hfg]; exact ha, by show ok (f (g a)); rw [hfg]; exact hok⟩⟩
end Go.Proofs.Ytalbkbmnjpameaa.Opens
