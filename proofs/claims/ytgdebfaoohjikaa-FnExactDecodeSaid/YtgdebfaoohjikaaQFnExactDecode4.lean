/- The Go law FnExactDecode answers true at every input: the last of the merged texts, with the row. -/
import Derived.Test.YtgdebfaoohjikaaQFnExactDecode3
import Derived.Test.YtgdebfaoohjikaaQFnExactDecode2
import Derived.Test.YtgdebfaoohjikaaQFnExactDecode1
import Derived.Test.YtgdebfaoohjikaaRows
import Derived.WalkKit
import Derived.ProofKit
import Derived.OpenShut
import Derived.ShutString
import Derived.ChangeOld
import Derived.Below
import Derived.SizedLaws
import Derived.Test.YtgdebfaoohjikaaWSized
namespace Go.Proofs.Ytgdebfaoohjikaa.DE
set_option linter.unusedVariables false
set_option linter.unusedSimpArgs false
open Go.RowKit Go.Proofs.Ytgdebfaoohjikaa.F Go.Proofs.Ytgdebfaoohjikaa.PK Go.Proofs.Ytgdebfaoohjikaa.VI Go.Proofs.YtgdebfaoohjikaaW.PrintWords Go.Proofs.YtgdebfaoohjikaaW.PrintLast Go.Proofs.YtgdebfaoohjikaaW.PrintMore
open Go.Proofs.Ytgdebfaoohjikaa.KR (okRec longM okRec_bd spec_rec impl_rec)
theorem gv_len : ∀ (l : List Int) (k : Nat) (p : Int × Nat), gv k l = some p → 1 ≤ p.2 ∧ p.2 ≤ l.length := by
  intro l
  induction l with
  | nil => intro k p h; cases h
  | cons b r ih =>
    intro k p h
    unfold gv at h
    split at h
    · cases h
    split at h
    · cases h
    split at h
    · cases hg : gv (k + 1) r with
      | none => rw [hg] at h; cases h
      | some q =>
        rw [hg] at h
        have e := Option.some.inj h
        have := ih _ _ hg
        rw [← e]
        simp only [List.length_cons]
        omega
    split at h
    · cases h
    · have e := Option.some.inj h
      rw [← e]
      simp only [List.length_cons]
      omega
theorem lt8 (n : Nat) (h : n ≤ 255) : n < 8796093022208 := by omega
theorem lt9 (n : Nat) (h : n ≤ 255) : n < 17592186044416 := by omega
abbrev Rec := Int × List Int × List ByteArray × Bool
def noRec : Rec := (0, [], [], false)
def numsM (l : List Int) : Nat → Nat → List Int → Option (Nat × List Int)
  | 0, a, acc => some (a, acc)
  | n + 1, a, acc => match gv 0 (l.drop a) with
    | none => none
    | some p => numsM l n (a + p.2) (acc ++ [p.1])
def wordsM (l : List Int) : Nat → Nat → List ByteArray → Option (Nat × List ByteArray)
  | 0, a, acc => some (a, acc)
  | n + 1, a, acc => if l.length ≤ a then none else if l.length < a + 1 + (rd l a).toNat then none else wordsM l n (a + 1 + (rd l a).toNat) (acc ++ [strOfNums ((l.take (a + 1 + (rd l a).toNat)).drop (a + 1))])
def finW (l : List Int) (kd : Int) (ns : List Int) : Option (Nat × List ByteArray) → Rec
  | none => noRec
  | some (a, ws) => if a = l.length ∧ okRec kd ns ws = true then (kd, ns, ws, true) else noRec
def finN (l : List Int) (kd : Int) : Option (Nat × List Int) → Rec
  | none => noRec
  | some (a, ns) => if l.length ≤ a then noRec else finW l kd ns (wordsM l (rd l a).toNat (a + 1) [])
def decM (l : List Int) : Rec := if l.length < 3 ∨ 4000 < l.length ∨ rd l 1 > 24 then noRec else finN l (rd l 0) (numsM l (rd l 1).toNat 2 [])
theorem rdb {l : List Int} (hu : U8s l) (i : Nat) (hi : i < l.length) : 0 ≤ rd l (i : Int) ∧ rd l (i : Int) ≤ 255 := by
  have e : rd l (i : Int) = l[i] := getD_nat l _ i hi
  rw [e]
  exact hu _ (List.getElem_mem hi)
theorem specWords (l : List Int) (hu : U8s l) (hl : l.length ≤ 4000) (kd : Int) (ns : List Int) (W : Nat) (hW : W ≤ 255) : ∀ (n i : Nat), i + n = W → ∀ (a : Nat) (acc : List ByteArray), a ≤ l.length → acc.length ≤ i →
    Ev (fun k => spec_Decode.l1 k l a W i kd ns acc) (finW l kd ns (wordsM l n a acc)) := by
  intro n
  induction n with
  | zero =>
    intro i hi a acc ha hacc
    refine EvS ?_
    have : i = W := by omega
    subst this
    simp only [spec_Decode.l1, Int.lt_irrefl, if_false, wordsM, finW]
    by_cases h : (a : Int) = (l.length : Int)
    · simp only [if_pos h, EvB (spec_rec kd ns acc (by omega))]
      simp only [show a = l.length by omega, true_and]
      by_cases h2 : okRec kd ns acc = true
      · simp only [if_pos h2]; exact EvN
      · simp only [if_neg h2]; exact EvN
    · simp only [if_neg h, show ¬ a = l.length by omega, false_and, if_false]; exact EvN
  | succ n ih =>
    intro i hi a acc ha hacc
    have hS : (acc.length < 8796093022208) = True := eq_true (lt8 _ (Nat.le_trans hacc (by omega)))
    refine EvS ?_
    simp only [spec_Decode.l1, if_pos (show (i : Int) < (W : Int) by omega), wordsM]
    by_cases h1 : l.length ≤ a
    · simp only [if_pos (show (a : Int) ≥ (l.length : Int) by omega), if_pos h1, finW]; exact EvN
    have hb := rdb hu a (by omega)
    have e1 : wrap64 (rd l (a : Int)) = rd l (a : Int) := w64 (by omega) (by omega)
    have e2 : wrap64 (wrap64 ((l.length : Int) - (a : Int)) - 1) = (l.length : Int) - a - 1 := by rw [w64 (x := (l.length : Int) - (a : Int)) (by omega) (by omega), w64 (by omega) (by omega)]
    have e3 : wrap64 ((a : Int) + 1) = ((a + 1 : Nat) : Int) := by rw [w64 (by omega) (by omega)]; omega
    have e4 : wrap64 (((a + 1 : Nat) : Int) + rd l (a : Int)) = ((a + 1 + (rd l (a : Int)).toNat : Nat) : Int) := by rw [w64 (by omega) (by omega)]; omega
    have e5 : wrap64 ((i : Int) + 1) = ((i + 1 : Nat) : Int) := by rw [w64 (by omega) (by omega)]; omega
    simp only [if_neg (show ¬ (a : Int) ≥ (l.length : Int) by omega), if_neg h1, if_pos (show 0 ≤ (a : Int) by omega), if_pos (show (a : Int) < (l.length : Int) by omega), e1, e2, e3, e4, e5, hS, if_true]
    by_cases h2 : l.length < a + 1 + (rd l (a : Int)).toNat
    · simp only [if_pos (show rd l (a : Int) > (l.length : Int) - a - 1 by omega), if_pos h2, finW]; exact EvN
    · simp only [if_neg (show ¬ rd l (a : Int) > (l.length : Int) - a - 1 by omega), if_neg h2, if_pos (show 0 ≤ ((a + 1 : Nat) : Int) by omega), if_pos (show ((a + 1 : Nat) : Int) ≤ ((a + 1 + (rd l (a : Int)).toNat : Nat) : Int) by omega), if_pos (show ((a + 1 + (rd l (a : Int)).toNat : Nat) : Int) ≤ (l.length : Int) by omega), Int.toNat_natCast]
      exact ih (i + 1) (by omega) _ _ (by omega) (by simp; omega)
theorem implWords (l : List Int) (hu : U8s l) (hl : l.length ≤ 4000) (kd : Int) (ns : List Int) (W : Nat) (hW : W ≤ 255) : ∀ (n i : Nat), i + n = W → ∀ (a : Nat) (acc : List ByteArray), a ≤ l.length → acc.length ≤ i →
    Ev (fun k => impl_decode.l1 k l a W i kd ns acc) (finW l kd ns (wordsM l n a acc)) := by
  intro n
  induction n with
  | zero =>
    intro i hi a acc ha hacc
    refine EvS ?_
    have : i = W := by omega
    subst this
    simp only [impl_decode.l1, Int.lt_irrefl, if_false, wordsM, finW]
    by_cases h : (a : Int) = (l.length : Int)
    · simp only [if_pos h, impl_rec kd ns acc (by omega), Option.bind_some, show a = l.length by omega, true_and]
      by_cases h2 : okRec kd ns acc = true
      · simp only [if_pos h2]; exact EvN
      · simp only [if_neg h2]; exact EvN
    · simp only [if_neg h, show ¬ a = l.length by omega, false_and, if_false]; exact EvN
  | succ n ih =>
    intro i hi a acc ha hacc
    have hS : (acc.length < 8796093022208) = True := eq_true (lt8 _ (Nat.le_trans hacc (by omega)))
    refine EvS ?_
    simp only [impl_decode.l1, if_pos (show (i : Int) < (W : Int) by omega), wordsM]
    by_cases h1 : l.length ≤ a
    · simp only [if_pos (show (a : Int) ≥ (l.length : Int) by omega), if_pos h1, finW]; exact EvN
    have hb := rdb hu a (by omega)
    have e1 : wrap64 (rd l (a : Int)) = rd l (a : Int) := w64 (by omega) (by omega)
    have e3 : wrap64 ((a : Int) + 1) = ((a + 1 : Nat) : Int) := by rw [w64 (by omega) (by omega)]; omega
    have e4 : wrap64 (((a + 1 : Nat) : Int) + rd l (a : Int)) = ((a + 1 + (rd l (a : Int)).toNat : Nat) : Int) := by rw [w64 (by omega) (by omega)]; omega
    have e5 : wrap64 ((i : Int) + 1) = ((i + 1 : Nat) : Int) := by rw [w64 (by omega) (by omega)]; omega
    simp only [if_neg (show ¬ (a : Int) ≥ (l.length : Int) by omega), if_neg h1, if_pos (show 0 ≤ (a : Int) by omega), if_pos (show (a : Int) < (l.length : Int) by omega), e1, e3, e4, e5, hS, if_true]
    by_cases h2 : l.length < a + 1 + (rd l (a : Int)).toNat
    · simp only [if_pos (show ((a + 1 + (rd l (a : Int)).toNat : Nat) : Int) > (l.length : Int) by omega), if_pos h2, finW]; exact EvN
    · simp only [if_neg (show ¬ ((a + 1 + (rd l (a : Int)).toNat : Nat) : Int) > (l.length : Int) by omega), if_neg h2, if_pos (show 0 ≤ ((a + 1 : Nat) : Int) by omega), if_pos (show ((a + 1 : Nat) : Int) ≤ ((a + 1 + (rd l (a : Int)).toNat : Nat) : Int) by omega), if_pos (show ((a + 1 + (rd l (a : Int)).toNat : Nat) : Int) ≤ (l.length : Int) by omega), Int.toNat_natCast]
      exact ih (i + 1) (by omega) _ _ (by omega) (by simp; omega)
theorem specNums (l : List Int) (hu : U8s l) (h2 : 2 ≤ l.length) (hl : l.length ≤ 4000) (kd : Int) (C : Nat) (hC : C ≤ 24) (hrd : rd l 1 = C) : ∀ (n i : Nat), i + n = C → ∀ (a : Nat) (acc : List Int), a ≤ l.length → acc.length ≤ i →
    Ev (fun k => spec_Decode.l0 k l a i kd acc) (finN l kd (numsM l n a acc)) := by
  have eC : wrap64 (rd l 1) = (C : Int) := by rw [hrd]; exact w64 (by omega) (by omega)
  intro n
  induction n with
  | zero =>
    intro i hi a acc ha hacc
    refine EvS ?_
    have : i = C := by omega
    subst this
    simp only [spec_Decode.l0, if_pos (show (1 : Int) < (l.length : Int) by omega), eC, Int.lt_irrefl, if_false, numsM, finN]
    by_cases h1 : l.length ≤ a
    · simp only [if_pos (show (a : Int) ≥ (l.length : Int) by omega), if_pos h1]; exact EvN
    have hb := rdb hu a (by omega)
    have e1 : wrap64 (rd l (a : Int)) = ((rd l (a : Int)).toNat : Int) := by rw [w64 (by omega) (by omega)]; omega
    have e3 : wrap64 ((a : Int) + 1) = ((a + 1 : Nat) : Int) := by rw [w64 (by omega) (by omega)]; omega
    simp only [if_neg (show ¬ (a : Int) ≥ (l.length : Int) by omega), if_neg h1, if_pos (show 0 ≤ (a : Int) by omega), if_pos (show (a : Int) < (l.length : Int) by omega), e1, e3]
    exact specWords l hu hl kd acc _ (by omega) _ 0 (by omega) _ [] (by omega) (by simp)
  | succ n ih =>
    intro i hi a acc ha hacc
    refine EvS ?_
    have e5 : wrap64 ((i : Int) + 1) = ((i + 1 : Nat) : Int) := by rw [w64 (by omega) (by omega)]; omega
    have hS : (acc.length < 17592186044416) = True := eq_true (lt9 _ (show acc.length ≤ 255 by omega))
    have hg : Ev (fun k => spec_GetVar.f k l a) (tell a (gv 0 (l.drop a))) := by
      have := spec_getVar l a hu
      unfold getM at this
      by_cases hz : (a : Int) ≥ (l.length : Int)
      · rw [if_pos (by omega)] at this
        rw [List.drop_eq_nil_of_le (by omega)]
        exact this
      · rw [if_neg (by omega), Int.toNat_natCast] at this
        exact this
    simp only [spec_Decode.l0, if_pos (show (1 : Int) < (l.length : Int) by omega), eC, if_pos (show (i : Int) < (C : Int) by omega), EvB hg, numsM]
    cases hq : gv 0 (l.drop a) with
    | none => simp only [tell, Bool.false_eq_true, if_false, finN]; exact EvN
    | some p =>
      have hp := gv_len _ _ _ hq
      rw [List.length_drop] at hp
      obtain ⟨v, m⟩ := p
      simp only [tell, if_true, hS, e5]
      have := ih (i + 1) (by omega) (a + m) (acc ++ [v]) (by simp only at hp; omega) (by simp; omega)
      rw [show ((a + m : Nat) : Int) = (a : Int) + (m : Int) by omega] at this
      exact this
theorem implNums (l : List Int) (hu : U8s l) (hl : l.length ≤ 4000) (kd : Int) (C : Nat) (hC : C ≤ 24) : ∀ (n i : Nat), i + n = C → ∀ (a : Nat) (acc : List Int), a ≤ l.length → acc.length ≤ i →
    Ev (fun k => impl_decode.l0 k l a C i kd acc) (finN l kd (numsM l n a acc)) := by
  intro n
  induction n with
  | zero =>
    intro i hi a acc ha hacc
    refine EvS ?_
    have : i = C := by omega
    subst this
    simp only [impl_decode.l0, Int.lt_irrefl, if_false, numsM, finN]
    by_cases h1 : l.length ≤ a
    · simp only [if_pos (show (a : Int) ≥ (l.length : Int) by omega), if_pos h1]; exact EvN
    have hb := rdb hu a (by omega)
    have e1 : wrap64 (rd l (a : Int)) = ((rd l (a : Int)).toNat : Int) := by rw [w64 (by omega) (by omega)]; omega
    have e3 : wrap64 ((a : Int) + 1) = ((a + 1 : Nat) : Int) := by rw [w64 (by omega) (by omega)]; omega
    simp only [if_neg (show ¬ (a : Int) ≥ (l.length : Int) by omega), if_neg h1, if_pos (show 0 ≤ (a : Int) by omega), if_pos (show (a : Int) < (l.length : Int) by omega), e1, e3]
    exact implWords l hu hl kd acc _ (by omega) _ 0 (by omega) _ [] (by omega) (by simp)
  | succ n ih =>
    intro i hi a acc ha hacc
    refine EvS ?_
    have e5 : ((i : Int) + 1) % 256 = ((i + 1 : Nat) : Int) := by omega
    have hS : (acc.length < 17592186044416) = True := eq_true (lt9 _ (show acc.length ≤ 255 by omega))
    simp only [impl_decode.l0, if_pos (show (i : Int) < (C : Int) by omega), EvB (impl_getV l a hu hl ha), numsM]
    cases hq : gv 0 (l.drop a) with
    | none => simp only [tell, Bool.false_eq_true, if_false, finN]; exact EvN
    | some p =>
      have hp := gv_len _ _ _ hq
      rw [List.length_drop] at hp
      obtain ⟨v, m⟩ := p
      simp only [tell, if_true, hS, e5]
      have := ih (i + 1) (by omega) (a + m) (acc ++ [v]) (by simp only at hp; omega) (by simp; omega)
      rw [show ((a + m : Nat) : Int) = (a : Int) + (m : Int) by omega] at this
      exact this
theorem spec_dec (l : List Int) (hu : U8s l) : Ev (fun k => spec_Decode.f k l) (decM l) := by
  have J1 : Ev (fun k => spec_Decode.j0 k l true) noRec := EvS (by simp only [spec_Decode.j0, if_true]; exact EvN)
  unfold spec_Decode.f decM
  by_cases h1 : (l.length : Int) < 3
  · simp only [if_pos h1, if_pos (show l.length < 3 ∨ 4000 < l.length ∨ rd l 1 > 24 by omega)]; exact J1
  by_cases h2 : (l.length : Int) > 4000
  · simp only [if_neg h1, if_pos h2, if_pos (show l.length < 3 ∨ 4000 < l.length ∨ rd l 1 > 24 by omega)]; exact J1
  have hb := rdb hu 1 (by omega)
  have hb0 := rdb hu 0 (by omega)
  have c1 : ((1 : Nat) : Int) = 1 := rfl
  have c0 : ((0 : Nat) : Int) = 0 := rfl
  rw [c1] at hb
  rw [c0] at hb0
  have e1 : wrap64 (rd l 1) = rd l 1 := w64 (by omega) (by omega)
  have e0 : wrap64 (rd l 0) = rd l 0 := w64 (by omega) (by omega)
  simp only [if_neg h1, if_neg h2, if_pos (show (1 : Int) < (l.length : Int) by omega), e1]
  by_cases h3 : rd l 1 > 24
  · simp only [decide_eq_true h3, if_pos (show l.length < 3 ∨ 4000 < l.length ∨ rd l 1 > 24 by omega)]; exact J1
  simp only [decide_eq_false h3, if_neg (show ¬ (l.length < 3 ∨ 4000 < l.length ∨ rd l 1 > 24) by omega)]
  refine EvS ?_
  simp only [spec_Decode.j0, Bool.false_eq_true, if_false, if_pos (show (0 : Int) < (l.length : Int) by omega), e0]
  exact specNums l hu (by omega) (by omega) (rd l 0) (rd l 1).toNat (by omega) (by omega) (rd l 1).toNat 0 (by omega) 2 [] (by omega) (by simp)
theorem impl_dec (l : List Int) (hu : U8s l) : Ev (fun k => impl_decode.f k l) (decM l) := by
  have J1 : Ev (fun k => impl_decode.j0 k l true) noRec := EvS (by simp only [impl_decode.j0, if_true]; exact EvN)
  unfold impl_decode.f decM
  by_cases h1 : (l.length : Int) < 3
  · simp only [if_pos h1, if_pos (show l.length < 3 ∨ 4000 < l.length ∨ rd l 1 > 24 by omega)]; exact J1
  by_cases h2 : (l.length : Int) > 4000
  · simp only [if_neg h1, if_pos h2, if_pos (show l.length < 3 ∨ 4000 < l.length ∨ rd l 1 > 24 by omega)]; exact J1
  have hb := rdb hu 1 (by omega)
  have hb0 := rdb hu 0 (by omega)
  have c1 : ((1 : Nat) : Int) = 1 := rfl
  have c0 : ((0 : Nat) : Int) = 0 := rfl
  rw [c1] at hb
  rw [c0] at hb0
  have e0 : wrap64 (rd l 0) = rd l 0 := w64 (by omega) (by omega)
  simp only [if_neg h1, if_neg h2, if_pos (show (1 : Int) < (l.length : Int) by omega)]
  by_cases h3 : rd l 1 > 24
  · simp only [decide_eq_true h3, if_pos (show l.length < 3 ∨ 4000 < l.length ∨ rd l 1 > 24 by omega)]; exact J1
  simp only [decide_eq_false h3, if_neg (show ¬ (l.length < 3 ∨ 4000 < l.length ∨ rd l 1 > 24) by omega)]
  refine EvS ?_
  simp only [impl_decode.j0, Bool.false_eq_true, if_false, if_pos (show (0 : Int) < (l.length : Int) by omega), if_pos (show (1 : Int) < (l.length : Int) by omega), e0]
  have := implNums l hu (by omega) (rd l 0) (rd l 1).toNat (by omega) (rd l 1).toNat 0 (by omega) 2 [] (by omega) (by simp)
  rw [Int.toNat_of_nonneg hb.1] at this
  exact this
theorem nums_len (l : List Int) : ∀ n a acc r, numsM l n a acc = some r → r.2.length = acc.length + n := by
  intro n
  induction n with
  | zero => intro a acc r h; have := Option.some.inj h; rw [← this]; rfl
  | succ n ih =>
    intro a acc r h
    unfold numsM at h
    split at h
    · cases h
    · have := ih _ _ _ h
      rw [this]
      simp only [List.length_append, List.length_singleton]
      omega
theorem finW_bd (l : List Int) (kd : Int) (ns : List Int) (o : Option (Nat × List ByteArray)) : (finW l kd ns o).2.1.length ≤ 24 ∧ (finW l kd ns o).2.2.1.length ≤ 6 := by
  have h0 : (noRec.2.1.length ≤ 24 ∧ noRec.2.2.1.length ≤ 6) := ⟨by simp [noRec], by simp [noRec]⟩
  cases o with
  | none => exact h0
  | some q =>
    obtain ⟨a, ws⟩ := q
    simp only [finW]
    by_cases h : a = l.length ∧ okRec kd ns ws = true
    · rw [if_pos h]
      have := okRec_bd h.2
      exact ⟨this.2.2.1, this.2.2.2⟩
    · rw [if_neg h]; exact h0
theorem dec_bd (l : List Int) : (decM l).2.1.length ≤ 24 ∧ (decM l).2.2.1.length ≤ 6 := by
  have h0 : (noRec.2.1.length ≤ 24 ∧ noRec.2.2.1.length ≤ 6) := ⟨by simp [noRec], by simp [noRec]⟩
  unfold decM
  by_cases h : l.length < 3 ∨ 4000 < l.length ∨ rd l 1 > 24
  · rw [if_pos h]; exact h0
  · rw [if_neg h]
    cases numsM l (rd l 1).toNat 2 [] with
    | none => exact h0
    | some p =>
      obtain ⟨a, ns⟩ := p
      simp only [finN]
      by_cases h2 : l.length ≤ a
      · rw [if_pos h2]; exact h0
      · rw [if_neg h2]; exact finW_bd _ _ _ _
end Go.Proofs.Ytgdebfaoohjikaa.DE

namespace Go.Proofs.Ytgdebfaoohjikaa.F
open Go.RowKit Go.Proofs.YtgdebfaoohjikaaW.PrintWords Go.Proofs.YtgdebfaoohjikaaW.PrintLast Go.Proofs.YtgdebfaoohjikaaW.PrintMore
attribute [local go_sem] max2_int min2_int max_two min_two max_three min_three max_four min_four   -- for this text's walks alone
set_option linter.unusedVariables false
set_option linter.unusedSimpArgs false

/-! ### laws_heldByteS: function 17 -/
def laws_heldByteS.l0 : Nat → List Int → Int → Int → Option (Int)
  | 0, _, _, _ => none
  | k + 1, x0, x1, x5 => if x5 < (x0.length : Int) then (if 0 ≤ x5 then (if (rd x0 x5) = ((x1) % 256) then (laws_heldByteS.l0 k x0 (wrap64 (x1 + 1)) (wrap64 (x5 + 1))) else (some (-1))) else (none)) else (some x1)
def laws_heldByteS.f (k : Nat) (l0 : List Int) (a1 : Int) : Option (Int) := laws_heldByteS.l0 k l0 a1 0
theorem laws_heldByteS.mono_l : ∀ k, (∀ y0 y1 y2, LeO (laws_heldByteS.l0 k y0 y1 y2) (laws_heldByteS.l0 (k + 1) y0 y1 y2))
  | 0 => fun _ _ _ r h => by simp [laws_heldByteS.l0] at h
  | k + 1 => by
    have ih0 := laws_heldByteS.mono_l k
    · intro y0 y1 y2
      unfold laws_heldByteS.l0
      repeat' first
      | (with_reducible exact ih0 _ _ _)
      | (with_reducible exact LeO.refl _)
      | (with_reducible exact LeO.none _)
      | (with_reducible refine LeO.ite ?_ ?_)
      | (with_reducible refine LeO.bind ?_ (fun _ => ?_))
      | exact ih0 _ _ _
      | exact LeO.none _
      | refine LeO.ite ?_ ?_
      | refine LeO.bind ?_ (fun _ => ?_)
theorem laws_heldByteS.mono : ∀ a0 a1 k, LeO (laws_heldByteS.f k a0 a1) (laws_heldByteS.f (k + 1) a0 a1) := by
  intro a0 a1 k
  have ih0 := laws_heldByteS.mono_l k
  unfold laws_heldByteS.f
  repeat' first
      | (with_reducible exact ih0 _ _ _)
      | (with_reducible exact LeO.refl _)
      | (with_reducible exact LeO.none _)
      | (with_reducible refine LeO.ite ?_ ?_)
      | (with_reducible refine LeO.bind ?_ (fun _ => ?_))
      | exact ih0 _ _ _
      | exact LeO.none _
      | refine LeO.ite ?_ ?_
      | refine LeO.bind ?_ (fun _ => ?_)
set_option maxHeartbeats 8000000 in
set_option maxRecDepth 100000 in
theorem laws_heldByteS.calls (k : Nat) (A0 : Option Addr) (c0 : Nat) (l0 : List Int) (a1 : Int) (r : Int) (w : World) (hr0 : Kd.C (Kd.int .u8) w A0 l0.length l0) (hc0 : l0.length ≤ c0) (h : laws_heldByteS.f k l0 a1 = some r) :
    Calls Try.prog 17 #[.slice A0 l0.length c0, .int .i64 a1] w fun e w' => e = .returned (.int .i64 r) ∧ Drawn0 w w' := by
  have HR0 := Aside0.mk hr0
  have HC0 := Aside0.mk hc0
  clear hr0 hc0
  have H : (laws_heldByteS.l0 k l0 a1 0) = some r := h
  clear h
  have H' := Aside0.mk H
  clear H
  go_enter Try.func17, Try.ntmps17
  go_wp2
  go_loopg [1, 5] k (fun kq v1 v5 w' => ∃ (x1_1 : Int) (x5_1 : Int), v1 = .int .i64 x1_1 ∧ v5 = .int .i64 x5_1 ∧ Aside0 (laws_heldByteS.l0 kq l0 x1_1 x5_1 = some r) ∧ Aside0 (kq ≤ k) ∧ Drawn0 w w')
  case atStart => exact ⟨(a1), (0), (by first | rfl | (simp; done) | (simp [*]; done)), (by first | rfl | (simp; done) | (simp [*]; done)), H', ⟨Nat.le_refl _⟩, by repeat (first | exact Drawn0.refl _ | apply Drawn0.step)⟩
  case round =>
    clear H'
    try clear c1
    try clear p2
    obtain ⟨x1_1, x5_1, rfl, rfl, HA, HK1, ⟨m1, rfl⟩⟩ := hrel
    cases gk with
    | zero => exact absurd HA.out (by simp [laws_heldByteS.l0])
    | succ k1 =>
      have H := HA.out
      clear HA
      simp only [laws_heldByteS.l0] at H
      by_cases c3 : x5_1 < (l0.length : Int)
      · rw [if_pos c3] at H
        have c3b0 : decide (x5_1 < (l0.length : Int)) = true := decide_eq_true c3
        clear c3
        by_cases c4 : 0 ≤ x5_1
        · rw [if_pos c4] at H
          have c4b0 : decide (0 ≤ x5_1) = true := decide_eq_true c4
          clear c4
          by_cases c5 : (rd l0 x5_1) = ((x1_1) % 256)
          · rw [if_pos c5] at H
            have c5b0 : ((rd l0 x5_1) == ((x1_1) % 256)) = true := beq_iff_eq.mpr c5
            have c5b1 : ((rd l0 x5_1) != ((x1_1) % 256)) = false := bne_eq_false_iff_eq.mpr c5
            clear c5
            have H' := Aside0.mk H
            clear H
            have p125 : 0 ≤ (x5_1 : Int) := of_decide_eq_true (by first | (with_reducible assumption) | assumption)
            have q125 : x5_1 < (l0.length : Int) := of_decide_eq_true (by first | (with_reducible assumption) | assumption)
            obtain ⟨ad125, e125, hx125_0⟩ := Kd.at_int HR0.out x5_1 p125 q125
            cases e125
            replace p125 := eq_true p125
            replace q125 := eq_true q125
            go_wp2
            go_roundg k1
            case measure => have := HK1.out; omega
            case rel => exact ⟨(wrap64 (x1_1 + 1)), (wrap64 (x5_1 + 1)), (by first | rfl | (simp; done) | (simp [*]; done)), (by first | rfl | (simp; done) | (simp [*]; done)), H', ⟨by have := HK1.out; omega⟩, by repeat (first | exact Drawn0.refl _ | apply Drawn0.step)⟩
          · rw [if_neg c5] at H
            have c5b0 : ((rd l0 x5_1) == ((x1_1) % 256)) = false := beq_eq_false_iff_ne.mpr c5
            have c5b1 : ((rd l0 x5_1) != ((x1_1) % 256)) = true := bne_iff_ne.mpr c5
            obtain rfl := Option.some.inj H
            have p125 : 0 ≤ (x5_1 : Int) := of_decide_eq_true (by first | (with_reducible assumption) | assumption)
            have q125 : x5_1 < (l0.length : Int) := of_decide_eq_true (by first | (with_reducible assumption) | assumption)
            obtain ⟨ad125, e125, hx125_0⟩ := Kd.at_int HR0.out x5_1 p125 q125
            cases e125
            replace p125 := eq_true p125
            replace q125 := eq_true q125
            go_wp2
            go_ret
            exact ⟨by first | rfl | (simp; done) | (simp [*]; done), by repeat (first | exact Drawn0.refl _ | apply Drawn0.step)⟩
        · rw [if_neg c4] at H
          exact absurd H (by simp)
      · rw [if_neg c3] at H
        have c3b0 : decide (x5_1 < (l0.length : Int)) = false := decide_eq_false c3
        clear c3
        obtain rfl := Option.some.inj H
        go_wp2
        go_ret
        exact ⟨by first | rfl | (simp; done) | (simp [*]; done), by repeat (first | exact Drawn0.refl _ | apply Drawn0.step)⟩

end Go.Proofs.Ytgdebfaoohjikaa.F

namespace Go.Proofs.Ytgdebfaoohjikaa.BY
set_option linter.unusedVariables false
set_option linter.unusedSimpArgs false
open Go.RowKit Go.Proofs.Ytgdebfaoohjikaa.F Go.Proofs.Ytgdebfaoohjikaa.PK Go.Proofs.YtgdebfaoohjikaaW.PrintWords Go.Proofs.YtgdebfaoohjikaaW.PrintLast
theorem markByteS (l : List Int) (hl : l.length ≤ 9000000000000000000) (a : Int) (ha : 0 ≤ a) (hla : a + l.length ≤ 9223372036854775807) : ∃ (m : Int) (l' : List Int), Ev (fun k => laws_markByteS.f k l a) (m, l') ∧ m = a + l.length ∧ l'.length = l.length ∧ Ev (fun k => laws_heldByteS.f k l' a) m := by
  have key : ∀ (d i : Nat), d + i = l.length → ∀ (x : List Int) (b : Int), x.length = l.length → b = a + i → ∃ l', Ev (fun k => laws_markByteS.l0 k x b i) (a + l.length, l') ∧ l'.length = l.length ∧ (∀ j, j < i → l'[j]? = x[j]?) ∧ Ev (fun k => laws_heldByteS.l0 k l' b i) (a + l.length) := by
    intro d
    induction d with
    | zero =>
      intro i hi x b hx hb
      have hi : i = l.length := by omega
      subst hi
      subst hb
      exact ⟨x, EvS (by simp only [laws_markByteS.l0, hx, Int.lt_irrefl, if_false]; exact EvN), hx, fun _ _ => rfl, EvS (by simp only [laws_heldByteS.l0, hx, Int.lt_irrefl, if_false]; exact EvN)⟩
    | succ d ih =>
      intro i hi x b hx hb
      have hw : wrap64 (b + 1) = b + 1 := w64 (by omega) (by omega)
      obtain ⟨l', h1, h2, h3, h4⟩ := ih (i + 1) (by omega) (x.set i (b % 256)) (b + 1) (by simpa using hx) (by omega)
      have hli : i < l'.length := by omega
      have he : l'[i] = b % 256 := by
        have := h3 i (by omega)
        rw [List.getElem?_set_self (by omega), List.getElem?_eq_getElem hli] at this
        exact Option.some.inj this
      refine ⟨l', EvS ?_, h2, fun j hj => ?_, EvS ?_⟩
      · simp only [laws_markByteS.l0, if_pos (show (i : Int) < (x.length : Int) by omega), if_pos (show 0 ≤ (i : Int) by omega), hw, Int.toNat_natCast, nxt i l.length (by omega) (by omega)]
        exact h1
      · rw [h3 j (by omega), List.getElem?_set_ne (by omega)]
      · simp only [laws_heldByteS.l0, if_pos (show (i : Int) < (l'.length : Int) by omega), if_pos (show 0 ≤ (i : Int) by omega), hw, rd_at l' i hli, he, if_true, nxt i l.length (by omega) (by omega)]
        exact h4
  obtain ⟨l', h1, h2, _, h4⟩ := key l.length 0 (by omega) l a rfl (by omega)
  exact ⟨_, l', h1, rfl, h2, h4⟩
end Go.Proofs.Ytgdebfaoohjikaa.BY

namespace Go.Proofs.Ytgdebfaoohjikaa.MT
set_option linter.unusedVariables false
set_option linter.unusedSimpArgs false
open Go.RowKit Go.Proofs.Ytgdebfaoohjikaa.F Go.Proofs.Ytgdebfaoohjikaa.PK Go.Proofs.YtgdebfaoohjikaaW.PrintWords Go.Proofs.YtgdebfaoohjikaaW.PrintLast
theorem strOf1 (x : Int) : (strOfNums [x]).size = 1 := rfl
theorem markText (x : Int) (h : x ≤ 9223372036854775807) : ∃ s, Ev (fun k => laws_markText.f k x) s := by
  have key : ∀ (d : Nat) (x : Int) (s : ByteArray), x < 10 ^ d → s.size + d ≤ 30 → ∃ r, Ev (fun k => laws_markText.l0 k x s) r := by
    intro d
    induction d with
    | zero =>
      intro x s hx hs
      have hS : (1 + s.size ≤ 9223372036854775807) = True := eq_true (by omega)
      refine ⟨(⟨#[109]⟩ : ByteArray) ++ s, EvS ?_⟩
      simp only [laws_markText.l0, if_neg (show ¬ x > 0 by simp at hx; omega), hS, if_true]
      exact EvN
    | succ d ih =>
      intro x s hx hs
      have hS : (1 + s.size ≤ 9223372036854775807) = True := eq_true (by omega)
      by_cases h0 : x > 0
      · have h10 : (10 : Int) ^ (d + 1) = 10 * 10 ^ d := by rw [Int.pow_succ, Int.mul_comm]
        have hq : Int.tdiv x 10 = x / 10 := Int.tdiv_eq_ediv_of_nonneg (by omega)
        obtain ⟨r, hr⟩ := ih (wrap64 (x / 10)) (strOfNums [(wrap64 (48 + (Int.tmod x 10))) % 256] ++ s) (by unfold wrap64; omega) (by rw [ByteArray.size_append, strOf1]; omega)
        refine ⟨r, EvS ?_⟩
        simp only [laws_markText.l0, if_pos h0, Option.bind_some, strOf1, hS, if_true, hq]
        exact hr
      · refine ⟨(⟨#[109]⟩ : ByteArray) ++ s, EvS ?_⟩
        simp only [laws_markText.l0, if_neg h0, hS, if_true]
        exact EvN
  by_cases h0 : x ≤ 0
  · exact ⟨⟨#[109, 48]⟩, by unfold laws_markText.f; simp only [if_pos h0]; exact EvN⟩
  · have h19 : (10 : Int) ^ 19 = 10000000000000000000 := by decide
    obtain ⟨r, hr⟩ := key 19 x ⟨#[]⟩ (by omega) (show 0 + 19 ≤ 30 by omega)
    exact ⟨r, by unfold laws_markText.f; simp only [if_neg h0]; exact hr⟩
end Go.Proofs.Ytgdebfaoohjikaa.MT

namespace Go.Proofs.Ytgdebfaoohjikaa.KR
set_option linter.unusedVariables false
set_option linter.unusedSimpArgs false
open Go.RowKit Go.Proofs.Ytgdebfaoohjikaa.F Go.Proofs.Ytgdebfaoohjikaa.PK Go.Proofs.Ytgdebfaoohjikaa.MT Go.Proofs.YtgdebfaoohjikaaW.PrintWords Go.Proofs.YtgdebfaoohjikaaW.PrintLast Go.Proofs.YtgdebfaoohjikaaW.PrintMore
theorem markUint64S (l : List Int) (s : Int) (hl : l.length ≤ 3000000) (h0 : 0 ≤ s) (h1 : s ≤ 1000000000000) : ∃ (m : Int) (l' : List Int), Ev (fun k => laws_markUint64S.f k l s) (m, l') ∧ s ≤ m ∧ m ≤ s + l.length ∧ l'.length = l.length ∧ Ev (fun k => laws_heldUint64S.f k l' s) m := by
  obtain ⟨m, l', h1, h2, h5, hn, _, h3⟩ := marks laws_markUint64S.l0 laws_heldUint64S.l0 1 (by omega) l.length 9223372036854775000
    (fun l a hl => EvS (by simp only [laws_markUint64S.l0, hl, Int.lt_irrefl, if_false]; exact EvN))
    (fun l a hl => EvS (by simp only [laws_heldUint64S.l0, hl, Int.lt_irrefl, if_false]; exact EvN))
    (fun i l1 a hi hl1 h0 hN => by
      have hw1 : wrap64 (a + 1) = a + 1 := w64 (by omega) (by omega)
      have hw2 : IntKind.u64.wrap a = a := by rw [IntKind.wrap_u64]; omega
      refine ⟨a, a + 1, by omega, by omega, fun r hr => EvS ?_, fun l' r hl' he hr => EvS ?_⟩
      · simp only [laws_markUint64S.l0, if_pos (show (i : Int) < (l1.length : Int) by omega), if_pos (show 0 ≤ (i : Int) by omega), hw1, hw2, Int.toNat_natCast, nxt i l.length hi (by omega)]
        exact hr
      · have hli : i < l'.length := by omega
        rw [List.getElem?_eq_getElem hli] at he
        have he := Option.some.inj he
        simp only [laws_heldUint64S.l0, if_pos (show (i : Int) < (l'.length : Int) by omega), if_pos (show 0 ≤ (i : Int) by omega), rd_at l' i hli, he, if_true, hw1, hw2, nxt i l.length hi (by omega)]
        exact hr)
    0 (Nat.zero_le _) l s rfl (by omega) (by omega)
  refine ⟨m, l', ?_, h2, by omega, hn, ?_⟩
  · unfold laws_markUint64S.f
    exact h1
  · unfold laws_heldUint64S.f
    exact h3
theorem markStringS (l : List ByteArray) (s : Int) (hl : l.length ≤ 3000000) (h0 : 0 ≤ s) (h1 : s ≤ 1000000000000) : ∃ (m : Int) (l' : List ByteArray), Ev (fun k => laws_markStringS.f k l s) (m, l') ∧ s ≤ m ∧ m ≤ s + l.length ∧ l'.length = l.length ∧ Ev (fun k => laws_heldStringS.f k l' s) m := by
  obtain ⟨m, l', h1, h2, h5, hn, _, h3⟩ := marks laws_markStringS.l0 laws_heldStringS.l0 1 (by omega) l.length 9223372036854775000
    (fun l a hl => EvS (by simp only [laws_markStringS.l0, hl, Int.lt_irrefl, if_false]; exact EvN))
    (fun l a hl => EvS (by simp only [laws_heldStringS.l0, hl, Int.lt_irrefl, if_false]; exact EvN))
    (fun i l1 a hi hl1 h0 hN => by
      obtain ⟨t, ht⟩ := markText a (by omega)
      have hw1 : wrap64 (a + 1) = a + 1 := w64 (by omega) (by omega)
      refine ⟨t, a + 1, by omega, by omega, fun r hr => EvS ?_, fun l' r hl' he hr => EvS ?_⟩
      · simp only [laws_markStringS.l0, if_pos (show (i : Int) < (l1.length : Int) by omega), if_pos (show 0 ≤ (i : Int) by omega), EvB ht, hw1, Int.toNat_natCast, nxt i l.length hi (by omega)]
        exact hr
      · have hli : i < l'.length := by omega
        rw [List.getElem?_eq_getElem hli] at he
        have he := Option.some.inj he
        simp only [laws_heldStringS.l0, if_pos (show (i : Int) < (l'.length : Int) by omega), if_pos (show 0 ≤ (i : Int) by omega), rs_at l' i hli, he, EvB ht, if_true, hw1, nxt i l.length hi (by omega)]
        exact hr)
    0 (Nat.zero_le _) l s rfl (by omega) (by omega)
  refine ⟨m, l', ?_, h2, by omega, hn, ?_⟩
  · unfold laws_markStringS.f
    exact h1
  · unfold laws_heldStringS.f
    exact h3
theorem markRecord (a : Int) (n : List Int) (w : List ByteArray) (s : Int) (hn : n.length ≤ 2000000) (hw : w.length ≤ 2000000) (h0 : 0 ≤ s) (h1 : s ≤ 500000000000) : ∃ (m : Int) (n' : List Int) (w' : List ByteArray), Ev (fun k => laws_markRecord.f k a n w s) (m, n', w') ∧ s ≤ m ∧ m ≤ s + n.length + w.length ∧ n'.length = n.length ∧ w'.length = w.length ∧ Ev (fun k => laws_heldRecord.f k a n' w' s) m := by
  obtain ⟨b, n', a1, a2, a3, a5, a4⟩ := markUint64S n s (by omega) (by omega) (by omega)
  obtain ⟨c, w', b1, b2, b3, b5, b4⟩ := markStringS w b (by omega) (by omega) (by omega)
  refine ⟨c, n', w', ?_, by omega, by omega, a5, b5, ?_⟩
  · unfold laws_markRecord.f
    simp only [EvB a1, EvB b1]
    exact EvN
  · unfold laws_heldRecord.f
    simp only [EvB a4, EvB b4, if_neg (show ¬ b < 0 by omega), if_neg (show ¬ c < 0 by omega)]
    exact EvN
end Go.Proofs.Ytgdebfaoohjikaa.KR

namespace Go.Proofs.Ytgdebfaoohjikaa.Pure
set_option linter.unusedVariables false
set_option linter.unusedSimpArgs false
open Go.RowKit Go.Proofs.Ytgdebfaoohjikaa.F Go.Proofs.Ytgdebfaoohjikaa.PK Go.Proofs.YtgdebfaoohjikaaW.PrintWords Go.Proofs.YtgdebfaoohjikaaW.PrintLast
open Go.Proofs.Ytgdebfaoohjikaa.BY Go.Proofs.Ytgdebfaoohjikaa.VI Go.Proofs.Ytgdebfaoohjikaa.KR Go.Proofs.Ytgdebfaoohjikaa.DE
theorem FnExactDecode : laws_FnExactDecode.Pure := by
  intro l _ _ hw
  have hu := wf8s hw
  refine EvE ?_
  unfold laws_FnExactDecode.f
  by_cases h : (l.length : Int) > 1048576
  · simp only [if_pos h]; exact EvN
  · have hI : Ev (fun k => impl_Decode.f k l) (decM l) := by
      unfold impl_Decode.f
      simp only [EvB (impl_dec l hu)]
      exact EvN
    have hS := spec_dec l hu
    have hb := dec_bd l
    generalize hr : decM l = r at hI hS hb
    obtain ⟨a, n, w, q⟩ := r
    simp only at hb
    obtain ⟨m, l', h1, h2, h3, h4⟩ := markByteS l (by omega) 1 (by omega) (by omega)
    obtain ⟨m2, n', w', h5, h6, h7, h8, h9, h10⟩ := markRecord a n w 1 (by omega) (by omega) (by omega) (by omega)
    simp only [if_neg h, EvB (toByteS l (by omega)), EvB hS, EvB hI, EvB (eqRecord a n w (by omega) (by omega)), if_true, bne_self_eq_false]
    refine EvS ?_
    simp only [laws_FnExactDecode.j0, Bool.false_eq_true, if_false, EvB (toByteS l (by omega)), EvB (eqByteS l (by omega)), if_true, EvB h1, if_neg (show ¬ m < 0 by omega), EvB (eqRecord a n w (by omega) (by omega)), bne_self_eq_false]
    refine EvS ?_
    simp only [laws_FnExactDecode.j1, Bool.false_eq_true, if_false, EvB h5, EvB h10, if_neg (show ¬ m2 < 0 by omega), if_true, EvB (toByteS l (by omega)), EvB hI, EvB (eqRecord a n w (by omega) (by omega)), bne_self_eq_false]
    refine EvS ?_
    simp only [laws_FnExactDecode.j2, Bool.false_eq_true, if_false, EvB h10, if_neg (show ¬ m2 < 0 by omega), if_true]
    exact EvN
end Go.Proofs.Ytgdebfaoohjikaa.Pure

namespace Go.Proofs.Ytgdebfaoohjikaa.fnExactDecode
open Go.ChangeShapes Go.WideShapes Go.ChangeAt Go.RowKit
open Go.ChangeMaps (open_string shut_string)
set_option linter.unusedVariables false
theorem own : ownKnob Try.prog.godebug = none := by kernel_rfl
theorem laidOut : laidOutB Try.prog = true := by kernel_rfl
def IsRow (k : IntKind) (w : World) (a : Option Addr) (len cap : Nat) (zs : List Int) : Prop :=
  (a = none ∧ len = 0 ∧ cap = 0 ∧ zs = []) ∨
  ∃ x, a = some x ∧ len ≤ cap ∧ cap ≤ maxLen ∧ zs.length = cap ∧ (∀ i, i < zs.length → w.cell? (x.add i) = some (.int k (zs.getD i 0))) ∧ ∀ n ∈ zs, (Lit.int k n).wf = true
set_option maxRecDepth 100000 in
theorem lifted (os : Os) (started : os.Started) (H : Type) (enc : TypeId × Value → H) :
    ReturnsInHanded {} Try.checked os 9 .any (Rows.fnExactDecodeSpec.pre6 enc Try.prog Try.f9 Rows.fnExactDecodeRow.domain false) (Rows.fnExactDecodeSpec.post enc Try.prog Try.f9 false true false false) := by
  refine returnsInHanded_of_change_sized (C := Try.checked) own started (by kernel_rfl) Try.func9
    (ChangeSpec.witness6 (enc := enc) (C := Try.checked) false ⟨#[], #[.slice none 0 0], []⟩ 8 (by kernel_rfl) (by kernel_rfl) (by kernel_rfl) (by kernel_rfl)) ?_
  intro W base args ds gs before hval0 hW hcnd hsz0 _
  have hsz : (DataW.weightsEach Try.prog (Try.f9.params.toList ++ Rows.fnExactDecodeSpec.plain.varTypes Try.prog) (ds ++ gs)).all (· ≤ reachBytes) = true := hsz0
  have hval : ∀ (j : Nat) t v, Try.f9.params[j]? = some t → args[j]? = some v → Value.okWide Try.prog W .any base t v := hval0
  have hW' := hW
  obtain ⟨p, q, hA0, hV, rfl, hfz, hnd⟩ := hW
  have hA : DataW.TrodAll enc Try.prog W 0 (fun _ => true) true Try.f9.params.toList args.toList ds p := hA0
  rw [Try.params9] at hA hval hsz
  obtain ⟨v0, vs0, d0, ds0, p0, q0, hargs, rfl, rfl, h0, r0⟩ := trodAll_cons hA
  obtain ⟨rfl, rfl, rfl⟩ := trodAll_nil r0
  obtain rfl : args = #[v0] := by cases args; simp_all
  obtain ⟨rfl, rfl⟩ := trodVars_none hV
  obtain ⟨a0, len0, cap0, rfl⟩ := okWide_slice Try.underlying24 (hval 0 24 v0 rfl rfl)
  have k0 := h0
  have lt0 : ∀ x ∈ p0, x.block < W.heap.size := by obtain ⟨m, hm⟩ := k0; exact DataW.trod_lt m _ _ _ hm
  obtain ⟨z0, w0⟩ : ∃ zs, IsRow .u8 W a0 len0 cap0 zs := by
    obtain ⟨fuel, hf⟩ := h0
    rcases open_ints Try.underlying24 Try.underlying5 (by kernel_rfl) hf with ⟨hcs, _⟩ | ⟨x, l, c, zs, hcs, _, hl, hm, hz, _, hcell, hwz⟩
    · simp [Value.cells] at hcs
      obtain ⟨rfl, rfl, rfl⟩ := hcs
      exact ⟨[], .inl ⟨rfl, rfl, rfl, rfl⟩⟩
    · simp [Value.cells] at hcs
      obtain ⟨rfl, rfl, rfl⟩ := hcs
      exact ⟨zs, .inr ⟨_, rfl, hl, hm, by simpa using hz, hcell, hwz⟩⟩
  have y0 : len0 * 1 ≤ 140737488351232 := Go.Proofs.YtgdebfaoohjikaaW.PrintWords.sized_ints hsz (j := 0) (t := 24) rfl rfl Try.underlying24 Try.underlying5 (by kernel_rfl) (by kernel_rfl) h0
  clear hA0 hval0 hsz0 hsz
  refine (F.laws_FnExactDecode.walk Pure.FnExactDecode a0 len0 cap0 z0 W w0 y0).mono fun e W' ⟨he, bel⟩ => ?_
  subst he
  exact ⟨_, rfl, _, _, _, [], _, [], hW', trodAll_mk1 (shut_bool Try.underlying4 _), (trodAll_cons_mk (Below.trod laidOut (by kernel_rfl) (of_decide_eq_true (by kernel_rfl)) k0 bel lt0) trodAll_mk0), rfl, bel.frame _, fun h => by cases h⟩
theorem over : Rows.fnExactDecodeRow.holds Try.pinned (OpenSpec.ofChange Rows.fnExactDecodeSpec) :=
  OpenClaim.holds_of_wide 9 Try.f9 rfl rfl rfl rfl rfl rfl rfl ⟨rfl, rfl, rfl, rfl, rfl⟩ rfl rfl rfl rfl rfl (by kernel_rfl) Try.func9 (by kernel_rfl)
    (of_decide_eq_true (by kernel_rfl)) (by unfold Func.isWrapper; first | (rw [if_pos (by decide +kernel)]; kernel_rfl) | (rw [if_neg (by decide +kernel)]; exact ⟨rfl, rfl⟩))
    (fun os started H enc _ => lifted os started H enc)
theorem proved : Rows.FnExactDecodeSaid := over
#print axioms proved
end Go.Proofs.Ytgdebfaoohjikaa.fnExactDecode
namespace Go.Proofs.Ytgdebfaoohjikaa
/-- The row, under a short name, for the claim. -/
theorem fnExactDecode_holds : Rows.FnExactDecodeSaid := fnExactDecode.proved
end Go.Proofs.Ytgdebfaoohjikaa
