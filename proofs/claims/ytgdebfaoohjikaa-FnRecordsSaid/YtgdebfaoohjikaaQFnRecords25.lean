/- Merged texts below the law FnRecords: Go functions as Lean functions, their contracts, and plain lemmas. -/
import Derived.Test.YtgdebfaoohjikaaQFnRecords23
import Derived.Test.YtgdebfaoohjikaaQFnRecords24
import Derived.Laws.BitsAllLaws
import Derived.Deep.Slices
import Derived.ChangeSame
import Derived.WideShapes
namespace Go.Proofs.Ytgdebfaoohjikaa.F
open Go.RowKit Go.Proofs.YtgdebfaoohjikaaW.PrintWords Go.Proofs.YtgdebfaoohjikaaW.PrintWords.Kd Go.Proofs.YtgdebfaoohjikaaW.PrintMore.Kd Go.Proofs.YtgdebfaoohjikaaW.PrintLast Go.Proofs.YtgdebfaoohjikaaW.PrintMore
attribute [local go_sem] max2_int min2_int max_two min_two max_three min_three max_four min_four   -- for this text's walks alone
set_option linter.unusedVariables false
set_option linter.unusedSimpArgs false
end Go.Proofs.Ytgdebfaoohjikaa.F

namespace Go.Proofs.Ytgdebfaoohjikaa.KR
set_option linter.unusedVariables false
set_option linter.unusedSimpArgs false
open Go.RowKit Go.Proofs.Ytgdebfaoohjikaa.F Go.Proofs.Ytgdebfaoohjikaa.PK Go.Proofs.Ytgdebfaoohjikaa.MT Go.Proofs.YtgdebfaoohjikaaW.PrintWords Go.Proofs.YtgdebfaoohjikaaW.PrintLast Go.Proofs.YtgdebfaoohjikaaW.PrintMore
end Go.Proofs.Ytgdebfaoohjikaa.KR

namespace Go.Proofs.Ytgdebfaoohjikaa.F
open Go.RowKit Go.Proofs.YtgdebfaoohjikaaW.PrintWords Go.Proofs.YtgdebfaoohjikaaW.PrintLast Go.Proofs.YtgdebfaoohjikaaW.PrintMore
set_option linter.unusedVariables false
set_option linter.unusedSimpArgs false
end Go.Proofs.Ytgdebfaoohjikaa.F

namespace Go.Proofs.Ytgdebfaoohjikaa.F
open Go.RowKit Go.Proofs.YtgdebfaoohjikaaW.PrintWords Go.Proofs.YtgdebfaoohjikaaW.PrintWords.Kd Go.Proofs.YtgdebfaoohjikaaW.PrintMore.Kd Go.Proofs.YtgdebfaoohjikaaW.PrintLast Go.Proofs.YtgdebfaoohjikaaW.PrintMore
attribute [local go_sem] max2_int min2_int max_two min_two max_three min_three max_four min_four   -- for this text's walks alone
set_option linter.unusedVariables false
set_option linter.unusedSimpArgs false
end Go.Proofs.Ytgdebfaoohjikaa.F

namespace Go.Proofs.Ytgdebfaoohjikaa.KR
set_option linter.unusedVariables false
set_option linter.unusedSimpArgs false
open Go.RowKit Go.Proofs.Ytgdebfaoohjikaa.F Go.Proofs.Ytgdebfaoohjikaa.PK Go.Proofs.YtgdebfaoohjikaaW.PrintWords Go.Proofs.YtgdebfaoohjikaaW.PrintLast Go.Proofs.YtgdebfaoohjikaaW.PrintMore
theorem rdr (l : List S42) (i : Nat) (h : i < l.length) : rd_T42 l (i : Int) = l[i] := getD_nat l _ i h
end Go.Proofs.Ytgdebfaoohjikaa.KR

namespace Go.Proofs.Ytgdebfaoohjikaa.F
open Go.RowKit Go.Proofs.YtgdebfaoohjikaaW.PrintWords Go.Proofs.YtgdebfaoohjikaaW.PrintWords.Kd Go.Proofs.YtgdebfaoohjikaaW.PrintMore.Kd Go.Proofs.YtgdebfaoohjikaaW.PrintLast Go.Proofs.YtgdebfaoohjikaaW.PrintMore
attribute [local go_sem] max2_int min2_int max_two min_two max_three min_three max_four min_four   -- for this text's walks alone
set_option linter.unusedVariables false
set_option linter.unusedSimpArgs false
end Go.Proofs.Ytgdebfaoohjikaa.F

namespace Go.Proofs.Ytgdebfaoohjikaa.EN
set_option linter.unusedVariables false
set_option linter.unusedSimpArgs false
open Go.RowKit Go.Proofs.Ytgdebfaoohjikaa.F Go.Proofs.Ytgdebfaoohjikaa.PK Go.Proofs.Ytgdebfaoohjikaa.VI Go.Proofs.YtgdebfaoohjikaaW.PrintWords Go.Proofs.YtgdebfaoohjikaaW.PrintLast Go.Proofs.YtgdebfaoohjikaaW.PrintMore
open Go.Proofs.Ytgdebfaoohjikaa.KR (okRec longM okRec_bd impl_rec rs_at rdr)
open Go.Proofs.Ytgdebfaoohjikaa.BY (rd_at nxt)
def okS (r : S42) : Bool := okRec r.f0 r.f1 r.f2
def partB (r : S42) : List Int := pv 9 ((encM r.f0 r.f1 r.f2).length : Int) ++ encM r.f0 r.f1 r.f2
def recsB (l : List S42) : List Int := l.flatMap partB
def goM (acc : List Int) (l : List S42) : List Int := if l.all okS = true ∧ acc.length + (recsB l).length ≤ 4000 then acc ++ recsB l else []
def encAllM (l : List S42) : List Int := if l.length > 100 then [] else goM [] l
theorem part_le (r : S42) : (partB r).length ≤ 499 := by
  have h1 := enc_le r.f0 r.f1 r.f2
  have h2 := pv_le 9 ((encM r.f0 r.f1 r.f2).length : Int)
  unfold partB
  rw [List.length_append]
  omega
theorem go_nil (acc : List Int) (h : acc.length ≤ 4000) : goM acc [] = acc := by
  unfold goM recsB
  rw [List.flatMap_nil, if_pos ⟨rfl, by simpa using h⟩, List.append_nil]
theorem go_bad (acc : List Int) (x : S42) (r : List S42) (h : ¬ okS x = true) : goM acc (x :: r) = [] := by
  unfold goM
  rw [if_neg]
  rintro ⟨h1, _⟩
  rw [List.all_cons, Bool.and_eq_true] at h1
  exact h h1.1
theorem go_cons (acc : List Int) (x : S42) (r : List S42) (h : okS x = true) : goM acc (x :: r) = goM (acc ++ partB x) r := by
  unfold goM recsB
  rw [List.flatMap_cons, List.all_cons, h, Bool.true_and, List.length_append, List.length_append, List.append_assoc, Nat.add_assoc]
theorem go_long (acc : List Int) (r : List S42) (h : acc.length > 4000) : goM acc r = [] := by
  unfold goM
  rw [if_neg]
  rintro ⟨_, h1⟩
  omega
def wfS (l : List S42) : Prop := ∀ r ∈ l, (∀ y ∈ r.f1, 0 ≤ y ∧ y < 18446744073709551616) ∧ r.f2.length ≤ 9223372036854775807
theorem wlen (n : Nat) (h : n ≤ 489) : IntKind.u64.wrap (n : Int) = n := wu64 (by omega) (by omega)
theorem implEA (l : List S42) (hl : l.length ≤ 100) (hw : wfS l) : ∀ i : Nat, i ≤ l.length → ∀ acc : List Int, acc.length ≤ 500 * i → Ev (fun k => impl_EncodeAll.l0 k acc l (l.length : Int) i) (goM acc (l.drop i)) := by
  intro i hi
  obtain ⟨d, hd⟩ : ∃ d, d + i = l.length := ⟨l.length - i, by omega⟩
  induction d generalizing i with
  | zero =>
    intro acc hacc
    have : i = l.length := by omega
    subst this
    refine EvS ?_
    simp only [impl_EncodeAll.l0, Int.lt_irrefl, if_false, List.drop_length]
    by_cases h2 : acc.length > 4000
    · simp only [if_pos (show (acc.length : Int) > 4000 by omega), go_long _ _ h2]
      exact EvN
    simp only [if_neg (show ¬ (acc.length : Int) > 4000 by omega), go_nil acc (by omega)]
    exact EvN
  | succ d ih =>
    intro acc hacc
    have hil : i < l.length := by omega
    have hr := hw _ (List.getElem_mem hil)
    rw [drop_at l i hil]
    refine EvS ?_
    simp only [impl_EncodeAll.l0, if_pos (show (i : Int) < (l.length : Int) by omega), if_pos (show 0 ≤ (i : Int) by omega), rdr l i hil, nxt i _ hil (by omega)]
    generalize l[i] = x at hr ⊢
    simp only [impl_rec x.f0 x.f1 x.f2 hr.2, Option.bind_some]
    by_cases h : okRec x.f0 x.f1 x.f2 = true
    · simp only [if_pos h]
      have hE := impl_encB x.f0 x.f1 x.f2 hr.1 h
      have heq : encM x.f0 x.f1 x.f2 = bodyB x.f0 x.f1 x.f2 := by unfold encM; rw [if_pos h]
      have he := enc_le x.f0 x.f1 x.f2
      have hx : partB x = pv 9 ((encM x.f0 x.f1 x.f2).length : Int) ++ encM x.f0 x.f1 x.f2 := rfl
      have hp := part_le x
      rw [go_cons _ _ _ h]
      rw [heq] at he hx
      generalize bodyB x.f0 x.f1 x.f2 = e at hE he hx
      have h1 := pv_le 9 (e.length : Int)
      have hl1 : (acc ++ pv 9 (e.length : Int)).length ≤ 1000000000 := by rw [List.length_append]; omega
      have ea : acc ++ pv 9 (e.length : Int) ++ e = acc ++ partB x := by rw [hx, List.append_assoc]
      simp only [EvB hE, wlen e.length he, EvB (impl_putV (e.length : Int) (by omega) (by omega)), if_pos (lt47b acc.length (pv 9 (e.length : Int)).length (by omega) (by omega)), Option.bind_some, if_pos (lt47b _ e.length hl1 (by omega)), ea]
      exact ih (i + 1) (by omega) (by omega) _ (by rw [List.length_append]; omega)
    simp only [if_neg h]
    rw [go_bad _ _ _ h]
    exact EvN
theorem impl_encAll (l : List S42) (hw : wfS l) : Ev (fun k => impl_EncodeAll.f k l) (encAllM l) := by
  unfold impl_EncodeAll.f encAllM
  by_cases h : l.length > 100
  · simp only [if_pos (show (l.length : Int) > 100 by omega), if_pos h]
    exact EvN
  simp only [if_neg (show ¬ (l.length : Int) > 100 by omega), if_neg h]
  exact implEA l (by omega) hw 0 (by omega) [] (by simp)
end Go.Proofs.Ytgdebfaoohjikaa.EN

namespace Go.Proofs.Ytgdebfaoohjikaa.UD
set_option linter.unusedVariables false
set_option linter.unusedSimpArgs false
open Go.RowKit Go.Proofs.Ytgdebfaoohjikaa.F Go.Proofs.Ytgdebfaoohjikaa.PK Go.Proofs.Ytgdebfaoohjikaa.VI Go.Proofs.YtgdebfaoohjikaaW.PrintWords Go.Proofs.YtgdebfaoohjikaaW.PrintLast Go.Proofs.YtgdebfaoohjikaaW.PrintMore
open Go.Proofs.Ytgdebfaoohjikaa.KR (okRec longM okRec_bd)
open Go.Proofs.Ytgdebfaoohjikaa.DE Go.Proofs.Ytgdebfaoohjikaa.EN
theorem gv_pv (x : Int) (h0 : 0 ≤ x) (h1 : x < 18446744073709551616) (tl : List Int) : gv 0 (pv 9 x ++ tl) = some (x, (pv 9 x).length) := by
  obtain ⟨hs, c, e, hb, c0, c1, cz⟩ := pv_form 9 x h0 (by rw [p70]; omega)
  have hl := pv_le 9 x
  have hd := dec_pv 9 x h0 (by rw [p70]; omega)
  rw [e] at hl hd ⊢
  rw [List.length_append, List.length_singleton] at hl ⊢
  have hc := (pv_iff hs c hb c0 c1 (by omega)).1 (by rw [hd, show x % 18446744073709551616 = x by omega, e])
  rw [List.append_assoc, List.singleton_append, gv_lead hs 0 c tl hb c0 c1 (by omega), if_neg (by rw [Nat.zero_add]; exact hc), hd]
theorem pv_gv (l : List Int) (hu : U8s l) (v : Int) (n : Nat) (h : gv 0 l = some (v, n)) : l.take n = pv 9 v := by
  have hv := gv_lt hu h
  obtain ⟨hs, tl, e, hb, ht⟩ := split_lead l
  subst e
  by_cases h10 : 10 ≤ hs.length
  · rw [gv_long hs 0 tl hb (by omega)] at h; cases h
  cases tl with
  | nil => rw [List.append_nil, gv_all hs 0 hb] at h; cases h
  | cons c r =>
    have hc1 := ht c r rfl
    have hc0 := (hu c (by simp)).1
    have hbb : ∀ b ∈ hs, 128 ≤ b ∧ b ≤ 255 := fun b hb' => ⟨hb b hb', (hu b (by simp [hb'])).2⟩
    rw [gv_lead hs 0 c r hbb hc0 hc1 (by omega)] at h
    split at h
    · cases h
    rename_i hn
    have h := Option.some.inj h
    injection h with e1 e2
    subst e1
    subst e2
    have := (pv_iff hs c hbb hc0 hc1 (by omega)).2 (by rw [Nat.zero_add] at hn; exact hn)
    simp only at hv
    rw [show dec (hs ++ [c]) % 18446744073709551616 = dec (hs ++ [c]) by omega] at this
    rw [this]
    rw [show hs ++ c :: r = (hs ++ [c]) ++ r by simp]
    rw [List.take_append_of_le_length (by simp), List.take_of_length_le (by simp)]
theorem str_bytes (s : ByteArray) : strOfNums (bytesOf s) = s := by
  unfold strOfNums bytesOf
  rw [List.map_map]
  have : (s.data.toList.map ((fun n : Int => UInt8.ofNat n.toNat) ∘ fun b : UInt8 => (b.toNat : Int))) = s.data.toList := by
    conv => rhs; rw [← List.map_id s.data.toList]
    refine List.map_congr_left fun b _ => ?_
    simp
  rw [this]
theorem bytes_str (l : List Int) (hu : U8s l) : bytesOf (strOfNums l) = l := by
  unfold bytesOf
  rw [strOfNums_data, List.map_map]
  conv => rhs; rw [← List.map_id l]
  refine List.map_congr_left fun b hb => ?_
  have := hu b hb
  simp only [Function.comp, id]
  rw [UInt8.toNat_ofNat_of_lt' (show b.toNat < 256 by omega)]
  omega
theorem numsM_of (l : List Int) : ∀ (ns : List Int) (pre tl acc : List Int), l = pre ++ (numsB ns ++ tl) → (∀ y ∈ ns, 0 ≤ y ∧ y < 18446744073709551616) → numsM l ns.length pre.length acc = some (pre.length + (numsB ns).length, acc ++ ns) := by
  intro ns
  induction ns with
  | nil => intro pre tl acc _ _; simp [numsM, numsB]
  | cons x ns ih =>
    intro pre tl acc hl hu
    have hx := hu x (by simp)
    have hb : numsB (x :: ns) = pv 9 x ++ numsB ns := by unfold numsB; rw [List.flatMap_cons]
    rw [hb] at hl ⊢
    have hd : l.drop pre.length = pv 9 x ++ (numsB ns ++ tl) := by rw [hl]; simp
    rw [List.length_cons]
    unfold numsM
    rw [hd, gv_pv x hx.1 hx.2]
    dsimp only
    have := ih (pre ++ pv 9 x) tl (acc ++ [x]) (by rw [hl]; simp) (fun y hy => hu y (List.mem_cons_of_mem _ hy))
    rw [List.length_append] at this
    rw [this]
    simp [Nat.add_assoc]
theorem wordsM_of (l : List Int) : ∀ (ws : List ByteArray) (pre tl : List Int) (acc : List ByteArray), l = pre ++ (wordsB ws ++ tl) → (∀ s ∈ ws, s.size ≤ 40) → wordsM l ws.length pre.length acc = some (pre.length + (wordsB ws).length, acc ++ ws) := by
  intro ws
  induction ws with
  | nil => intro pre tl acc _ _; simp [wordsM, wordsB]
  | cons x ws ih =>
    intro pre tl acc hl hu
    have hx := hu x (by simp)
    have hbl := bytesOf_length x
    have hb : wordsB (x :: ws) = ((x.size : Int) % 256) :: (bytesOf x ++ wordsB ws) := by unfold wordsB; rw [List.flatMap_cons]; rfl
    have hbl2 : (wordsB (x :: ws)).length = 1 + x.size + (wordsB ws).length := by rw [hb, List.length_cons, List.length_append, hbl]; omega
    have hll : l.length = pre.length + (1 + x.size + (wordsB ws).length + tl.length) := by rw [hl, List.length_append, List.length_append, hbl2]
    have hr : rd l (pre.length : Int) = (x.size : Int) := by
      have hlt : pre.length < l.length := by omega
      rw [show rd l (pre.length : Int) = l[pre.length] from getD_nat l _ pre.length hlt]
      have : l[pre.length]? = some ((x.size : Int) % 256) := by rw [hl, hb]; simp
      rw [List.getElem?_eq_getElem hlt] at this
      rw [Option.some.inj this]
      omega
    rw [List.length_cons]
    unfold wordsM
    rw [hr, Int.toNat_natCast, if_neg (by omega), if_neg (by omega)]
    have hcut : (l.take (pre.length + 1 + x.size)).drop (pre.length + 1) = bytesOf x := by
      rw [hl, hb, List.drop_take]
      have e1 : (pre ++ (((x.size : Int) % 256) :: (bytesOf x ++ wordsB ws) ++ tl)).drop (pre.length + 1) = bytesOf x ++ (wordsB ws ++ tl) := by
        rw [List.drop_append]
        simp
      rw [e1, show pre.length + 1 + x.size - (pre.length + 1) = (bytesOf x).length by omega]
      simp
    rw [hcut, str_bytes]
    have := ih (pre ++ (((x.size : Int) % 256) :: bytesOf x)) tl (acc ++ [x]) (by rw [hl, hb]; simp) (fun y hy => hu y (List.mem_cons_of_mem _ hy))
    rw [List.length_append, List.length_cons, hbl] at this
    rw [show pre.length + 1 + x.size = pre.length + (x.size + 1) by omega, this, hbl2]
    simp
    omega
theorem dec_body (a : Int) (n : List Int) (w : List ByteArray) (h : okRec a n w = true) (hu : ∀ y ∈ n, 0 ≤ y ∧ y < 18446744073709551616) (x : List Int) (hx : x.length ≤ 3000) : decM (bodyB a n w ++ x) = if x = [] then (a, n, w, true) else noRec := by
  have hb := okRec_bd h
  have h2 := numsB_le n
  have h3 := wordsB_le w (ok_short h)
  have hn256 : (n.length : Int) % 256 = n.length := by omega
  have hw256 : (w.length : Int) % 256 = w.length := by omega
  have ha256 : a % 256 = a := by omega
  generalize hl : bodyB a n w ++ x = l
  have hl1 : l = [a, (n.length : Int)] ++ (numsB n ++ (((w.length : Int) :: wordsB w) ++ x)) := by rw [← hl]; unfold bodyB; rw [hn256, hw256, ha256]; simp
  have hl2 : l = ([a, (n.length : Int)] ++ numsB n ++ [(w.length : Int)]) ++ (wordsB w ++ x) := by rw [hl1]; simp
  have hlen : l.length = 3 + (numsB n).length + (wordsB w).length + x.length := by rw [hl2]; simp only [List.length_append, List.length_cons, List.length_nil]; omega
  have hr0 : rd l 0 = a := by rw [hl1]; rfl
  have hr1 : rd l 1 = n.length := by rw [hl1]; rfl
  unfold decM
  rw [hr0, hr1, if_neg (by omega), Int.toNat_natCast]
  have hN := numsM_of l n [a, (n.length : Int)] (((w.length : Int) :: wordsB w) ++ x) [] hl1 hu
  rw [show [a, (n.length : Int)].length = 2 from rfl] at hN
  rw [hN]
  have hr2 : rd l ((2 + (numsB n).length : Nat) : Int) = w.length := by
    have hlt : 2 + (numsB n).length < l.length := by omega
    rw [show rd l ((2 + (numsB n).length : Nat) : Int) = l[2 + (numsB n).length] from getD_nat l _ _ hlt]
    have : l[2 + (numsB n).length]? = some (w.length : Int) := by
      rw [hl1, List.getElem?_append_right (by simp), List.getElem?_append_right (by simp)]
      simp
    rw [List.getElem?_eq_getElem hlt] at this
    exact Option.some.inj this
  simp only [finN, if_neg (show ¬ l.length ≤ 2 + (numsB n).length by omega), hr2, Int.toNat_natCast, List.nil_append]
  have hW := wordsM_of l w ([a, (n.length : Int)] ++ numsB n ++ [(w.length : Int)]) x [] hl2 (ok_short h)
  rw [show ([a, (n.length : Int)] ++ numsB n ++ [(w.length : Int)]).length = 2 + (numsB n).length + 1 by simp only [List.length_append, List.length_cons, List.length_nil]] at hW
  rw [hW]
  simp only [finW, List.nil_append, h, and_true]
  by_cases hxe : x = []
  · subst hxe
    rw [if_pos rfl, if_pos (by rw [hlen, List.length_nil]; omega)]
  have : x.length ≠ 0 := fun h0 => hxe (List.eq_nil_of_length_eq_zero h0)
  rw [if_neg hxe, if_neg (by omega)]
theorem numsM_inv (l : List Int) (hu : U8s l) : ∀ (n a : Nat) (acc : List Int) (r : Nat × List Int), a ≤ l.length → numsM l n a acc = some r → ∃ ns, r.2 = acc ++ ns ∧ ns.length = n ∧ r.1 = a + (numsB ns).length ∧ r.1 ≤ l.length ∧ (l.drop a).take (numsB ns).length = numsB ns ∧ ∀ y ∈ ns, 0 ≤ y ∧ y < 18446744073709551616 := by
  intro n
  induction n with
  | zero =>
    intro a acc r ha h
    have := Option.some.inj h
    subst this
    exact ⟨[], by simp, rfl, by simp [numsB], ha, by simp [numsB], by simp⟩
  | succ n ih =>
    intro a acc r ha h
    unfold numsM at h
    cases hg : gv 0 (l.drop a) with
    | none => rw [hg] at h; cases h
    | some p =>
      rw [hg] at h
      obtain ⟨v, m⟩ := p
      have hl := gv_len _ _ _ hg
      have hv := gv_lt (u8_drop hu a) hg
      have ht := pv_gv _ (u8_drop hu a) v m hg
      rw [List.length_drop] at hl
      dsimp only at h hl hv
      obtain ⟨ns, e1, e2, e3, e4, e5, e6⟩ := ih (a + m) (acc ++ [v]) r (by omega) h
      have hb : numsB (v :: ns) = pv 9 v ++ numsB ns := by unfold numsB; rw [List.flatMap_cons]
      have hm : (pv 9 v).length = m := by rw [← ht, List.length_take, List.length_drop]; omega
      refine ⟨v :: ns, by rw [e1]; simp, by simp [e2], by rw [hb, List.length_append, e3]; omega, e4, ?_, fun y hy => ?_⟩
      · rw [hb, List.length_append, hm, List.take_add, ht, List.drop_drop, e5]
      rcases List.mem_cons.1 hy with rfl | hy
      · exact hv
      exact e6 y hy
theorem wordsM_inv (l : List Int) (hu : U8s l) : ∀ (n a : Nat) (acc : List ByteArray) (r : Nat × List ByteArray), a ≤ l.length → wordsM l n a acc = some r → ∃ ws, r.2 = acc ++ ws ∧ ws.length = n ∧ r.1 = a + (wordsB ws).length ∧ r.1 ≤ l.length ∧ (l.drop a).take (wordsB ws).length = wordsB ws := by
  intro n
  induction n with
  | zero =>
    intro a acc r ha h
    have := Option.some.inj h
    subst this
    exact ⟨[], by simp, rfl, by simp [wordsB], ha, by simp [wordsB]⟩
  | succ n ih =>
    intro a acc r ha h
    unfold wordsM at h
    by_cases h1 : l.length ≤ a
    · rw [if_pos h1] at h; cases h
    rw [if_neg h1] at h
    by_cases h2 : l.length < a + 1 + (rd l (a : Int)).toNat
    · rw [if_pos h2] at h; cases h
    rw [if_neg h2] at h
    have hal : a < l.length := by omega
    have hrd : rd l (a : Int) = l[a] := getD_nat l _ a hal
    have hb := hu _ (List.getElem_mem hal)
    rw [← hrd] at hb
    generalize hz : rd l (a : Int) = z at h h2 hb hrd
    obtain ⟨m, rfl⟩ : ∃ m : Nat, z = m := ⟨z.toNat, by omega⟩
    rw [Int.toNat_natCast] at h h2
    obtain ⟨ws, e1, e2, e3, e4, e5⟩ := ih (a + 1 + m) _ r (by omega) h
    have hcl : ((l.take (a + 1 + m)).drop (a + 1)).length = m := by rw [List.length_drop, List.length_take]; omega
    have hcu : U8s ((l.take (a + 1 + m)).drop (a + 1)) := u8_cut hu _ _
    generalize hc : (l.take (a + 1 + m)).drop (a + 1) = cut at e1 hcl hcu
    have hsz : (strOfNums cut).size = m := by rw [strOfNums_size]; exact hcl
    have hwb : wordsB (strOfNums cut :: ws) = (m : Int) :: (cut ++ wordsB ws) := by unfold wordsB; rw [List.flatMap_cons, bytes_str cut hcu, hsz, show (m : Int) % 256 = m by omega]; rfl
    refine ⟨strOfNums cut :: ws, by rw [e1]; simp, by simp [e2], by rw [hwb, List.length_cons, List.length_append, e3, hcl]; omega, e4, ?_⟩
    have hcut2 : (l.drop (a + 1)).take m = cut := by rw [← hc, List.drop_take, show a + 1 + m - (a + 1) = m by omega]
    have e6 : (l.drop (a + 1)).drop m = l.drop (a + 1 + m) := by rw [List.drop_drop]
    rw [hwb, List.length_cons, List.length_append, hcl, drop_at l a hal, List.take_succ_cons, ← hrd, List.take_add, hcut2, e6, e5]
theorem dec_uniq (l : List Int) (hu : U8s l) (a : Int) (n : List Int) (w : List ByteArray) (h : decM l = (a, n, w, true)) : okRec a n w = true ∧ l = bodyB a n w ∧ ∀ y ∈ n, 0 ≤ y ∧ y < 18446744073709551616 := by
  have hno : noRec ≠ (a, n, w, true) := by unfold noRec; intro h; injection h with _ h; injection h with _ h; injection h with _ h; cases h
  unfold decM at h
  by_cases h1 : l.length < 3 ∨ 4000 < l.length ∨ rd l 1 > 24
  · rw [if_pos h1] at h; exact absurd h hno
  rw [if_neg h1] at h
  have hb0 := rdb hu 0 (by omega)
  have hb1 := rdb hu 1 (by omega)
  rw [show ((0 : Nat) : Int) = 0 from rfl] at hb0
  rw [show ((1 : Nat) : Int) = 1 from rfl] at hb1
  cases hN : numsM l (rd l 1).toNat 2 [] with
  | none => rw [hN] at h; exact absurd h hno
  | some p =>
    rw [hN] at h
    obtain ⟨p1, p2⟩ := p
    obtain ⟨ns, e1, e2, e3, e4, e5, e6⟩ := numsM_inv l hu _ _ _ _ (by omega) hN
    simp only [List.nil_append] at e1
    rw [e1] at h
    simp only at e3 e4
    simp only [finN] at h
    by_cases h2 : l.length ≤ p1
    · rw [if_pos h2] at h; exact absurd h hno
    rw [if_neg h2] at h
    have hb2 := rdb hu p1 (by omega)
    cases hW : wordsM l (rd l (p1 : Int)).toNat (p1 + 1) [] with
    | none => rw [hW] at h; exact absurd h hno
    | some q =>
      rw [hW] at h
      obtain ⟨q1, q2⟩ := q
      obtain ⟨ws, f1, f2, f3, f4, f5⟩ := wordsM_inv l hu _ _ _ _ (by omega) hW
      simp only [List.nil_append] at f1
      rw [f1] at h
      simp only at f3 f4
      simp only [finW] at h
      by_cases h3 : q1 = l.length ∧ okRec (rd l 0) ns ws = true
      · rw [if_pos h3] at h
        injection h with g1 h
        injection h with g2 h
        injection h with g3 h
        rw [← g1, ← g2, ← g3]
        refine ⟨h3.2, ?_, e6⟩
        have hl0 : l.take 2 = [rd l 0, rd l 1] := by
          match l, h1 with
          | x :: y :: r, _ => rfl
          | [], h1 => simp at h1
          | [x], h1 => simp at h1
        have c1 : rd l 0 % 256 = rd l 0 := by omega
        have c2 : (ns.length : Int) % 256 = rd l 1 := by omega
        have c3 : (ws.length : Int) % 256 = rd l (p1 : Int) := by omega
        unfold bodyB
        rw [c1, c2, c3]
        have hp : p1 < l.length := by omega
        calc l = l.take 2 ++ l.drop 2 := (List.take_append_drop 2 l).symm
          _ = [rd l 0, rd l 1] ++ ((l.drop 2).take (numsB ns).length ++ (l.drop 2).drop (numsB ns).length) := by rw [hl0, List.take_append_drop]
          _ = [rd l 0, rd l 1] ++ (numsB ns ++ l.drop p1) := by rw [e5, List.drop_drop, e3]
          _ = [rd l 0, rd l 1] ++ (numsB ns ++ (rd l (p1 : Int) :: l.drop (p1 + 1))) := by rw [drop_at l p1 hp, show rd l (p1 : Int) = l[p1] from getD_nat l _ p1 hp]
          _ = [rd l 0, rd l 1] ++ (numsB ns ++ (rd l (p1 : Int) :: wordsB ws)) := by
            have : l.drop (p1 + 1) = wordsB ws := by
              rw [← f5]
              refine (List.take_of_length_le ?_).symm
              rw [List.length_drop]
              omega
            rw [this]
      rw [if_neg h3] at h; exact absurd h hno
def goodR (r : S42) : Prop := okRec r.f0 r.f1 r.f2 = true ∧ ∀ y ∈ r.f1, 0 ≤ y ∧ y < 18446744073709551616
theorem part_of {r : S42} (h : goodR r) : partB r = pv 9 ((bodyB r.f0 r.f1 r.f2).length : Int) ++ bodyB r.f0 r.f1 r.f2 := by
  unfold partB encM
  rw [if_pos h.1]
theorem body_le {r : S42} (h : goodR r) : (bodyB r.f0 r.f1 r.f2).length ≤ 489 := by
  have := enc_le r.f0 r.f1 r.f2
  unfold encM at this
  rwa [if_pos h.1] at this
theorem recs_cons (r : S42) (rs : List S42) : recsB (r :: rs) = partB r ++ recsB rs := by unfold recsB; rw [List.flatMap_cons]
theorem recs_ge : ∀ rs : List S42, rs.length ≤ (recsB rs).length
  | [] => Nat.zero_le _
  | r :: rs => by
    have := recs_ge rs
    have h1 := pv_pos 9 ((encM r.f0 r.f1 r.f2).length : Int)
    rw [recs_cons, List.length_append, List.length_cons]
    unfold partB
    rw [List.length_append]
    omega
theorem recs_le : ∀ rs : List S42, (recsB rs).length ≤ 499 * rs.length
  | [] => Nat.zero_le _
  | r :: rs => by
    have := recs_le rs
    have h1 := part_le r
    rw [recs_cons, List.length_append, List.length_cons]
    omega
theorem allM_of (l : List Int) : ∀ (rs : List S42) (pre : List Int) (acc : List S42) (f : Nat), l = pre ++ recsB rs → rs.length < f → (∀ r ∈ rs, goodR r) → acc.length + rs.length ≤ 100 → allM l f pre.length acc = (acc ++ rs, true) := by
  intro rs
  induction rs with
  | nil =>
    intro pre acc f hl hf _ _
    obtain ⟨f, rfl⟩ : ∃ m, f = m + 1 := ⟨f - 1, by simp at hf; omega⟩
    unfold allM
    have : l.length = pre.length := by rw [hl]; simp [recsB]
    rw [if_neg (by omega), List.append_nil]
  | cons r rs ih =>
    intro pre acc f hl hf hg hacc
    obtain ⟨f, rfl⟩ : ∃ m, f = m + 1 := ⟨f - 1, by simp at hf; omega⟩
    have hr := hg r List.mem_cons_self
    have hb := body_le hr
    rw [recs_cons, part_of hr] at hl
    generalize hB : bodyB r.f0 r.f1 r.f2 = B at hl hb
    have hp := pv_pos 9 (B.length : Int)
    have hlen : l.length = pre.length + ((pv 9 (B.length : Int)).length + B.length) + (recsB rs).length := by rw [hl]; simp only [List.length_append]; omega
    have hd : l.drop pre.length = pv 9 (B.length : Int) ++ (B ++ recsB rs) := by rw [hl, List.append_assoc, List.drop_left]
    have hc : (l.take (pre.length + (pv 9 (B.length : Int)).length + B.length)).drop (pre.length + (pv 9 (B.length : Int)).length) = B := by
      have : l = (pre ++ pv 9 (B.length : Int)) ++ (B ++ recsB rs) := by rw [hl]; simp only [List.append_assoc]
      rw [this, List.drop_take, show pre.length + (pv 9 (B.length : Int)).length = (pre ++ pv 9 (B.length : Int)).length from (List.length_append).symm, List.drop_left, Nat.add_sub_cancel_left, List.take_left]
    have hD : decM B = (r.f0, r.f1, r.f2, true) := by
      have := dec_body r.f0 r.f1 r.f2 hr.1 hr.2 [] (by simp)
      rwa [if_pos rfl, List.append_nil, hB] at this
    unfold allM
    have hgv : gv 0 (l.drop pre.length) = some ((B.length : Int), (pv 9 (B.length : Int)).length) := by rw [hd]; exact gv_pv _ (by omega) (by omega) _
    rw [if_pos (by omega), hgv]
    dsimp only
    rw [List.length_cons] at hacc hf
    have hle : ¬ ((B.length : Int) > (l.length : Int) - ((pre.length + (pv 9 (B.length : Int)).length : Nat) : Int) ∨ acc.length = 100) := by omega
    simp only [Int.toNat_natCast, hc, hD, if_neg hle, if_true]
    have := ih (pre ++ (pv 9 (B.length : Int) ++ B)) (acc ++ [r]) f (by rw [hl]; simp only [List.append_assoc]) (by omega) (fun x hx => hg x (List.mem_cons_of_mem _ hx)) (by rw [List.length_append, List.length_singleton]; omega)
    rw [List.length_append, List.length_append, ← Nat.add_assoc, List.append_assoc] at this
    exact this
theorem decAll_of {l : List S42} (hg : ∀ r ∈ l, goodR r) (hn : l.length ≤ 8) : encAllM l = recsB l ∧ decAllM (recsB l) = (l, true) := by
  have h1 := recs_le l
  have h2 := recs_ge l
  constructor
  · unfold encAllM goM
    rw [if_neg (by omega), if_pos ⟨List.all_eq_true.2 fun r hr => (hg r hr).1, by simp only [List.length_nil]; omega⟩, List.nil_append]
  unfold decAllM
  rw [if_neg (by omega)]
  exact allM_of (recsB l) l [] [] _ (List.nil_append _).symm (by omega) hg (by simp only [List.length_nil]; omega)
theorem u8s_body {r : S42} (h : goodR r) : U8s (bodyB r.f0 r.f1 r.f2) := by
  have hb := okRec_bd h.1
  have hpv : ∀ x : Int, 0 ≤ x → x < 18446744073709551616 → U8s (pv 9 x) := fun x h0 h1 b hb => by
    obtain ⟨hs, c, e, q, c0, c1, _⟩ := pv_form 9 x h0 (by rw [p70]; omega)
    rw [e] at hb
    rcases List.mem_append.1 hb with hb | hb
    · have := q b hb; omega
    rw [List.mem_singleton.1 hb]; omega
  unfold bodyB
  intro b hb'
  rcases List.mem_append.1 hb' with hb' | hb'
  · simp only [List.mem_cons, List.not_mem_nil, or_false] at hb'
    rcases hb' with rfl | rfl <;> omega
  rcases List.mem_append.1 hb' with hb' | hb'
  · unfold numsB at hb'
    obtain ⟨y, hy, hb'⟩ := List.mem_flatMap.1 hb'
    exact hpv y (h.2 y hy).1 (h.2 y hy).2 b hb'
  rcases List.mem_cons.1 hb' with rfl | hb'
  · omega
  unfold wordsB at hb'
  obtain ⟨s, hs, hb'⟩ := List.mem_flatMap.1 hb'
  rcases List.mem_cons.1 hb' with rfl | hb'
  · omega
  unfold bytesOf at hb'
  obtain ⟨z, hz, rfl⟩ := List.mem_map.1 hb'
  have := z.toNat_lt
  omega
theorem u8s_recs : ∀ {l : List S42}, (∀ r ∈ l, goodR r) → U8s (recsB l)
  | [], _ => fun b hb => by cases hb
  | r :: l, h => by
    have hr := h r List.mem_cons_self
    rw [recs_cons, part_of hr]
    intro b hb
    rcases List.mem_append.1 hb with hb | hb
    · rcases List.mem_append.1 hb with hb | hb
      · have hl := body_le hr
        obtain ⟨hs, c, e, q, c0, c1, _⟩ := pv_form 9 ((bodyB r.f0 r.f1 r.f2).length : Int) (by omega) (by rw [p70]; omega)
        rw [e] at hb
        rcases List.mem_append.1 hb with hb | hb
        · have := q b hb; omega
        rw [List.mem_singleton.1 hb]; omega
      exact u8s_body hr b hb
    exact u8s_recs (fun x hx => h x (List.mem_cons_of_mem _ hx)) b hb
theorem dec_good {r : S42} (h : goodR r) : decM (bodyB r.f0 r.f1 r.f2) = (r.f0, r.f1, r.f2, true) := by
  have := dec_body r.f0 r.f1 r.f2 h.1 h.2 [] (by simp)
  rwa [if_pos rfl, List.append_nil] at this
theorem dec_more {r : S42} (h : goodR r) (x : Int) : decM (bodyB r.f0 r.f1 r.f2 ++ [x]) = noRec := by
  have := dec_body r.f0 r.f1 r.f2 h.1 h.2 [x] (by simp)
  rwa [if_neg (by simp)] at this
theorem body_pos (r : S42) : 3 ≤ (bodyB r.f0 r.f1 r.f2).length := by
  unfold bodyB
  simp only [List.length_append, List.length_cons, List.length_nil]
  omega
theorem dec_less {r : S42} (h : goodR r) : (decM ((bodyB r.f0 r.f1 r.f2).take ((bodyB r.f0 r.f1 r.f2).length - 1))).2.2.2 = false := by
  have hu := u8s_body h
  have hD := dec_good h
  have hp := body_pos r
  have hle := body_le h
  generalize bodyB r.f0 r.f1 r.f2 = e at hu hD hp hle
  cases q : (decM (e.take (e.length - 1))).2.2.2 with
  | false => rfl
  | true =>
    exfalso
    obtain ⟨h1, h2, h3⟩ := dec_uniq (e.take (e.length - 1)) (fun b hb => hu b (List.mem_of_mem_take hb)) (decM (e.take (e.length - 1))).1 (decM (e.take (e.length - 1))).2.1 (decM (e.take (e.length - 1))).2.2.1 (by rw [← q])
    have hx : (e.drop (e.length - 1)).length = 1 := by rw [List.length_drop]; omega
    have := dec_body _ _ _ h1 h3 (e.drop (e.length - 1)) (by omega)
    rw [← h2, List.take_append_drop, if_neg (fun z => by rw [z] at hx; cases hx), hD] at this
    unfold noRec at this
    injection this with _ this
    injection this with _ this
    injection this with _ this
    cases this
theorem dec_bent {r : S42} (h : goodR r) {e : List Int} (hu : U8s e) (hne : e ≠ bodyB r.f0 r.f1 r.f2) {a : Int} {n : List Int} {w : List ByteArray} (hD : decM e = (a, n, w, true)) : okRec a n w = true ∧ (∀ y ∈ n, 0 ≤ y ∧ y < 18446744073709551616) ∧ bodyB a n w = e ∧ ¬ (a = r.f0 ∧ n = r.f1 ∧ w = r.f2) := by
  obtain ⟨h1, h2, h3⟩ := dec_uniq e hu a n w hD
  refine ⟨h1, h3, h2.symm, fun q => hne ?_⟩
  rw [h2, q.1, q.2.1, q.2.2]
end Go.Proofs.Ytgdebfaoohjikaa.UD

namespace Go.Proofs.Ytgdebfaoohjikaa.DR
set_option linter.unusedVariables false
set_option linter.unusedSimpArgs false
open Go.RowKit Go.Proofs.Ytgdebfaoohjikaa.F Go.Proofs.Ytgdebfaoohjikaa.PK Go.Proofs.YtgdebfaoohjikaaW.PrintWords Go.Proofs.YtgdebfaoohjikaaW.PrintLast
theorem and255 (x : Int) : 0 ≤ Go.bits .and .i64 x 255 ∧ Go.bits .and .i64 x 255 ≤ 255 := by
  have h : ((BitVec.ofInt IntKind.i64.bits x) &&& (BitVec.ofInt IntKind.i64.bits 255)).toNat ≤ 255 := by
    rw [BitVec.toNat_and]
    exact Nat.le_trans Nat.and_le_right (by decide)
  have e : Go.bits .and .i64 x 255 = (((BitVec.ofInt IntKind.i64.bits x) &&& (BitVec.ofInt IntKind.i64.bits 255)).toNat : Int) := by
    show IntKind.i64.wrap (((BitVec.ofInt IntKind.i64.bits x) &&& (BitVec.ofInt IntKind.i64.bits 255)).toNat : Int) = _
    rw [IntKind.wrap_i64]
    omega
  omega
def At (b : List Int) (i : Int) : Prop := 0 ≤ i ∧ i ≤ (b.length : Int)
theorem dByte (b : List Int) (i h : Int) (hi : At b i) (hb : b.length ≤ 1048576) : ∃ x i' h', spec_l01Byte.f b i h = some (x, i', h') ∧ 0 ≤ x ∧ x ≤ 255 ∧ At b i' := by
  unfold At at *
  unfold spec_l01Byte.f
  by_cases c : i < (b.length : Int)
  · simp only [if_pos c, if_pos hi.1]
    exact ⟨_, _, _, rfl, (and255 _).1, (and255 _).2, by rw [w64 (by omega) (by omega)]; omega⟩
  simp only [if_neg c]
  exact ⟨_, _, _, rfl, (and255 _).1, (and255 _).2, hi⟩
theorem tmod_bd (x n : Int) (hx : 0 ≤ x) (hn : 0 < n) : 0 ≤ Int.tmod x n ∧ Int.tmod x n < n := ⟨Int.tmod_nonneg _ hx, Int.tmod_lt_of_pos _ hn⟩
theorem dBelow (b : List Int) (i h n : Int) (hi : At b i) (hb : b.length ≤ 1048576) : ∃ x i' h', spec_l01Below.f b i h n = some (x, i', h') ∧ 0 ≤ x ∧ (0 < n → x < n) ∧ (n ≤ 0 → x = 0) ∧ At b i' := by
  unfold spec_l01Below.f
  by_cases c : n ≤ 0
  · simp only [if_pos c]
    exact ⟨_, _, _, rfl, by omega, by omega, fun _ => rfl, hi⟩
  simp only [if_neg c]
  by_cases c2 : n ≤ 256
  · obtain ⟨x, i', h', e, h0, h1, h2⟩ := dByte b i h hi hb
    simp only [if_pos c2, e, Option.bind_some, if_neg (show ¬ n = 0 by omega)]
    have := tmod_bd x n h0 (by omega)
    exact ⟨_, _, _, rfl, this.1, fun _ => this.2, by omega, h2⟩
  obtain ⟨x, i1, h1, e1, a0, a1, a2⟩ := dByte b i h hi hb
  obtain ⟨y, i2, h2, e2, b0, b1, b2⟩ := dByte b i1 h1 a2 hb
  obtain ⟨z, i3, h3, e3, c0, c1, c2'⟩ := dByte b i2 h2 b2 hb
  simp only [if_neg c2, e1, e2, e3, Option.bind_some, if_neg (show ¬ n = 0 by omega)]
  have hw : wrap64 (wrap64 (wrap64 (x * 65536) + wrap64 (y * 256)) + z) = x * 65536 + y * 256 + z := by
    rw [w64 (x := x * 65536) (by omega) (by omega), w64 (x := y * 256) (by omega) (by omega), w64 (x := x * 65536 + y * 256) (by omega) (by omega), w64 (by omega) (by omega)]
  rw [hw]
  have := tmod_bd (x * 65536 + y * 256 + z) n (by omega) (by omega)
  exact ⟨_, _, _, rfl, this.1, fun _ => this.2, by omega, c2'⟩
theorem dSize (l : List Int) (m : Int) (hl : l.length ≤ 1048576) (hm : 2 ≤ m) : ∃ t, spec_l01Size.f l m = some t ∧ 2 ≤ t ∧ t ≤ m := by
  unfold spec_l01Size.f
  rw [w64 (x := (l.length : Int) / 16) (by omega) (by omega), w64 (by omega) (by omega)]
  split
  · exact ⟨_, rfl, hm, by omega⟩
  exact ⟨_, rfl, by omega, by omega⟩
theorem dNew (l : List Int) (hl : l.length ≤ 1048576) : ∃ h, Ev (fun k => spec_l01New.f k l) (l, 0, h) := by
  have key := up (P := fun i => ∀ x, ∃ h, Ev (fun k => spec_l01New.l0 k l x i) (l, 0, h)) l.length
    (fun x => ⟨x, EvS (by simp only [spec_l01New.l0, Int.lt_irrefl, if_false]; exact EvN)⟩)
    (fun i hi ih x => by
      by_cases c : (i : Int) < 4000
      · obtain ⟨h, e⟩ := ih (Go.bits .and .i64 (wrap64 ((wrap64 ((wrap64 (x * 149)) + (wrap64 (rd l i)))) + 11)) 1073741823)
        refine ⟨h, EvS ?_⟩
        simp only [spec_l01New.l0, if_pos (show (i : Int) < (l.length : Int) by omega), if_pos c, if_pos (show 0 ≤ (i : Int) by omega), show wrap64 ((i : Int) + 1) = ((i + 1 : Nat) : Int) by rw [w64 (by omega) (by omega)]; omega]
        exact e
      exact ⟨x, EvS (by simp only [spec_l01New.l0, if_pos (show (i : Int) < (l.length : Int) by omega), if_neg c]; exact EvN)⟩)
  unfold spec_l01New.f
  exact key 0 (Nat.zero_le _) _
theorem dPick (b : List Int) (i h : Int) (l : List Int) (hi : At b i) (hb : b.length ≤ 1048576) (hl : 0 < l.length) : ∃ x i' h', spec_l01PickInt.f b i h l = some (x, i', h') ∧ x ∈ l ∧ At b i' := by
  obtain ⟨x, i', h', e, h0, h1, _, h2⟩ := dBelow b i h (l.length : Int) hi hb
  unfold spec_l01PickInt.f
  have hx := h1 (by omega)
  simp only [e, Option.bind_some, if_pos h0, if_pos hx]
  refine ⟨_, _, _, rfl, ?_, h2⟩
  have hn : x.toNat < l.length := by omega
  have : rd l x = l[x.toNat] := by
    have := getD_nat l 0 x.toNat hn
    rw [Int.toNat_of_nonneg h0] at this
    exact this
  rw [this]
  exact List.getElem_mem hn
theorem dBytes (b : List Int) (n : Int) (hb : b.length ≤ 1048576) (hn : n ≤ 1000000) (h0 : 0 ≤ n) : ∀ (i h : Int), At b i → ∃ (x : List Int) (i' h' : Int), Ev (fun k => spec_l01DrawBytes.f k b i h n) (x, i', h') ∧ (x.length : Int) = n ∧ (∀ y ∈ x, 0 ≤ y ∧ y ≤ 255) ∧ At b i' := by
  have key : ∀ (d j : Nat) (x : List Int) (i h : Int), (d : Int) + j = n → (x.length : Int) = j → (∀ y ∈ x, 0 ≤ y ∧ y ≤ 255) → At b i → ∃ (x' : List Int) (i' h' : Int), Ev (fun k => spec_l01DrawBytes.l0 k n x j b i h) (x', i', h') ∧ (x'.length : Int) = n ∧ (∀ y ∈ x', 0 ≤ y ∧ y ≤ 255) ∧ At b i' := by
    intro d
    induction d with
    | zero =>
      intro j x i h hj hx hy hi
      exact ⟨x, i, h, EvS (by simp only [spec_l01DrawBytes.l0, if_neg (show ¬ (j : Int) < n by omega)]; exact EvN), by omega, hy, hi⟩
    | succ d ih =>
      intro j x i h hj hx hy hi
      obtain ⟨a, i1, h1, e1, _, _, _, g1⟩ := dBelow b i h 256 hi hb
      obtain ⟨c, i2, h2, e2, _, _, _, g2⟩ := dBelow b i1 h1 256 g1 hb
      obtain ⟨y, i3, h3, e3, _, g3⟩ := dPick b i2 h2 [0, 1, 255, 128, a, c] g2 hb (by simp)
      have hS : (x.length < 140737488355328) = True := eq_true (by omega)
      obtain ⟨x', i', h', r1, r2, r3, r4⟩ := ih (j + 1) (x ++ [y % 256]) i3 h3 (by omega) (by simp; omega) (fun z hz => by
        rcases List.mem_append.1 hz with hz | hz
        · exact hy z hz
        rw [List.mem_singleton.1 hz]
        omega) g3
      refine ⟨x', i', h', EvS ?_, r2, r3, r4⟩
      simp only [spec_l01DrawBytes.l0, if_pos (show (j : Int) < n by omega), e1, e2, e3, Option.bind_some, hS, if_true, show wrap64 ((j : Int) + 1) = ((j + 1 : Nat) : Int) by rw [w64 (by omega) (by omega)]; omega]
      exact r1
  intro i h hi
  obtain ⟨x', i', h', r1, r2, r3, r4⟩ := key n.toNat 0 [] i h (by omega) rfl (fun y hy => by cases hy) hi
  exact ⟨x', i', h', by unfold spec_l01DrawBytes.f; exact r1, r2, r3, r4⟩
end Go.Proofs.Ytgdebfaoohjikaa.DR

namespace Go.Proofs.Ytgdebfaoohjikaa.DR
set_option linter.unusedVariables false
set_option linter.unusedSimpArgs false
open Go.RowKit Go.Proofs.Ytgdebfaoohjikaa.F Go.Proofs.Ytgdebfaoohjikaa.PK Go.Proofs.YtgdebfaoohjikaaW.PrintWords Go.Proofs.YtgdebfaoohjikaaW.PrintLast Go.Proofs.YtgdebfaoohjikaaW.PrintMore
open Go.Proofs.Ytgdebfaoohjikaa.KR (okRec longM)
theorem wr64 (x : Int) : 0 ≤ IntKind.u64.wrap x ∧ IntKind.u64.wrap x < 18446744073709551616 := by rw [IntKind.wrap_u64]; omega
theorem shr64 (x y : Int) (h0 : 0 ≤ x) (h1 : x < 18446744073709551616) : 0 ≤ shr .u64 x y ∧ shr .u64 x y < 18446744073709551616 := by
  unfold shr
  have hp : (0 : Int) < 2 ^ min y.toNat IntKind.u64.bits := Int.pow_pos (by omega)
  exact ⟨Int.ediv_nonneg h0 (by omega), Int.lt_of_le_of_lt (Int.ediv_le_self _ h0) h1⟩
theorem shl64 (x y : Int) : 0 ≤ shl .u64 x y ∧ shl .u64 x y < 18446744073709551616 := by unfold shl; exact wr64 _
theorem dBig (b : List Int) (hb : b.length ≤ 1048576) (i h : Int) (hi : At b i) : ∃ x i' h', Ev (fun k => spec_l01Big.f k b i h) (x, i', h') ∧ 0 ≤ x ∧ x < 18446744073709551616 ∧ At b i' := by
  have key : ∀ (d j : Nat) (x i h : Int), d + j = 8 → 0 ≤ x → x < 18446744073709551616 → At b i → ∃ y i' h', Ev (fun k => spec_l01Big.l0 k x j b i h) (y, i', h') ∧ 0 ≤ y ∧ y < 18446744073709551616 ∧ At b i' := by
    intro d
    induction d with
    | zero =>
      intro j x i h hj h0 h1 hi
      obtain ⟨a, i1, h1', e1, _, _, _, g1⟩ := dBelow b i h 64 hi hb
      have hw := wr64 a
      have hs := shr64 x (IntKind.u64.wrap a) h0 h1
      exact ⟨_, i1, h1', EvS (by simp only [spec_l01Big.l0, if_neg (show ¬ (j : Int) < 8 by omega), e1, Option.bind_some, if_pos hw.1]; exact EvN), hs.1, hs.2, g1⟩
    | succ d ih =>
      intro j x i h hj h0 h1 hi
      obtain ⟨a, i1, h1', e1, _, _, _, g1⟩ := dBelow b i h 256 hi hb
      have hw := wr64 (IntKind.u64.wrap (x * 256) + IntKind.u64.wrap a)
      obtain ⟨y, i', h', r1, r2, r3, r4⟩ := ih (j + 1) _ i1 h1' (by omega) hw.1 hw.2 g1
      refine ⟨y, i', h', EvS ?_, r2, r3, r4⟩
      simp only [spec_l01Big.l0, if_pos (show (j : Int) < 8 by omega), e1, Option.bind_some, show wrap64 ((j : Int) + 1) = ((j + 1 : Nat) : Int) by rw [w64 (by omega) (by omega)]; omega]
      exact r1
  obtain ⟨c, i1, h1, e1, _, _, _, g1⟩ := dBelow b i h 8 hi hb
  unfold spec_l01Big.f
  simp only [e1, Option.bind_some]
  by_cases c0 : c = 0
  · exact ⟨0, i1, h1, by simp only [if_pos c0]; exact EvN, by omega, by omega, g1⟩
  by_cases c1 : c = 1
  · exact ⟨18446744073709551615, i1, h1, by simp only [if_neg c0, if_pos c1]; exact EvN, by omega, by omega, g1⟩
  by_cases c2 : c = 2
  · obtain ⟨a, i2, h2, e2, _, _, _, g2⟩ := dBelow b i1 h1 300 g1 hb
    exact ⟨_, i2, h2, by simp only [if_neg c0, if_neg c1, if_pos c2, e2, Option.bind_some]; exact EvN, (wr64 _).1, (wr64 _).2, g2⟩
  by_cases c3 : c = 3
  · obtain ⟨a, i2, h2, e2, _, _, _, g2⟩ := dBelow b i1 h1 300 g1 hb
    exact ⟨_, i2, h2, by simp only [if_neg c0, if_neg c1, if_neg c2, if_pos c3, e2, Option.bind_some]; exact EvN, (wr64 _).1, (wr64 _).2, g2⟩
  by_cases c4 : c = 4
  · obtain ⟨a, i2, h2, e2, _, _, _, g2⟩ := dBelow b i1 h1 64 g1 hb
    exact ⟨_, i2, h2, by simp only [if_neg c0, if_neg c1, if_neg c2, if_neg c3, if_pos c4, e2, Option.bind_some, if_pos (wr64 a).1]; exact EvN, (shl64 _ _).1, (shl64 _ _).2, g2⟩
  obtain ⟨y, i', h', r1, r2, r3, r4⟩ := key 8 0 0 i1 h1 rfl (by omega) (by omega) g1
  exact ⟨y, i', h', by simp only [if_neg c0, if_neg c1, if_neg c2, if_neg c3, if_neg c4]; exact r1, r2, r3, r4⟩
def small (r : S42) : Prop := okRec r.f0 r.f1 r.f2 = true ∧ r.f1.length ≤ 4 ∧ r.f2.length ≤ 3 ∧ (∀ y ∈ r.f1, 0 ≤ y ∧ y < 18446744073709551616) ∧ ∀ s ∈ r.f2, s.size ≤ 5
theorem dRec (b : List Int) (hb : b.length ≤ 1048576) (i h : Int) (hi : At b i) : ∃ (a : Int) (n : List Int) (w : List ByteArray) (i' h' : Int), Ev (fun k => spec_l01DrawRecord.f k b i h) (a, n, w, i', h') ∧ small ⟨a, n, w⟩ ∧ At b i' := by
  have words : ∀ (a : Int) (n : List Int) (d : Nat) (w : List ByteArray) (i h : Int), d + w.length ≤ 3 → (∀ s ∈ w, s.size ≤ 5) → At b i → ∃ (w' : List ByteArray) (i' h' : Int), Ev (fun k => spec_l01DrawRecord.l1 k d b i h a n w) (a, n, w', i', h') ∧ w'.length ≤ 3 ∧ (∀ s ∈ w', s.size ≤ 5) ∧ At b i' := by
    intro a n d
    induction d with
    | zero =>
      intro w i h hd hw hi
      exact ⟨w, i, h, EvS (by simp only [spec_l01DrawRecord.l1, if_neg (show ¬ ((0 : Nat) : Int) > 0 by omega)]; exact EvN), by omega, hw, hi⟩
    | succ d ih =>
      intro w i h hd hw hi
      obtain ⟨c, i1, h1, e1, c0, c1, _, g1⟩ := dBelow b i h 6 hi hb
      have c1 := c1 (by omega)
      obtain ⟨x, i2, h2, e2, e3, e4, g2⟩ := dBytes b c hb (by omega) c0 i1 h1 g1
      have hS : (w.length < 8796093022208) = True := eq_true (by omega)
      obtain ⟨w', i', h', r1, r2, r3, r4⟩ := ih (w ++ [strOfNums x]) i2 h2 (by simp; omega) (fun s hs => by
        rcases List.mem_append.1 hs with hs | hs
        · exact hw s hs
        rw [List.mem_singleton.1 hs, strOfNums_size]; omega) g2
      refine ⟨w', i', h', EvS ?_, r2, r3, r4⟩
      simp only [spec_l01DrawRecord.l1, if_pos (show ((d + 1 : Nat) : Int) > 0 by omega), e1, Option.bind_some, EvB e2, hS, if_true, show wrap64 (((d + 1 : Nat) : Int) - 1) = (d : Int) by rw [w64 (by omega) (by omega)]; omega]
      exact r1
  have nums : ∀ (a : Int) (d : Nat) (n : List Int) (i h : Int), d + n.length ≤ 4 → (∀ y ∈ n, 0 ≤ y ∧ y < 18446744073709551616) → At b i → ∃ (n' : List Int) (w' : List ByteArray) (i' h' : Int), Ev (fun k => spec_l01DrawRecord.l0 k d b i h a n) (a, n', w', i', h') ∧ n'.length ≤ 4 ∧ (∀ y ∈ n', 0 ≤ y ∧ y < 18446744073709551616) ∧ w'.length ≤ 3 ∧ (∀ s ∈ w', s.size ≤ 5) ∧ At b i' := by
    intro a d
    induction d with
    | zero =>
      intro n i h hd hn hi
      obtain ⟨c, i1, h1, e1, c0, c1, _, g1⟩ := dBelow b i h 4 hi hb
      have c1 := c1 (by omega)
      obtain ⟨w', i', h', r1, r2, r3, r4⟩ := words a n c.toNat [] i1 h1 (by simp; omega) (by simp) g1
      rw [Int.toNat_of_nonneg c0] at r1
      exact ⟨n, w', i', h', EvS (by simp only [spec_l01DrawRecord.l0, if_neg (show ¬ ((0 : Nat) : Int) > 0 by omega), e1, Option.bind_some]; exact r1), by omega, hn, r2, r3, r4⟩
    | succ d ih =>
      intro n i h hd hn hi
      obtain ⟨x, i1, h1, e1, x0, x1, g1⟩ := dBig b hb i h hi
      have hS : (n.length < 17592186044416) = True := eq_true (by omega)
      obtain ⟨n', w', i', h', r1, r2⟩ := ih (n ++ [x]) i1 h1 (by simp; omega) (fun y hy => by
        rcases List.mem_append.1 hy with hy | hy
        · exact hn y hy
        rw [List.mem_singleton.1 hy]; exact ⟨x0, x1⟩) g1
      refine ⟨n', w', i', h', EvS ?_, r2⟩
      simp only [spec_l01DrawRecord.l0, if_pos (show ((d + 1 : Nat) : Int) > 0 by omega), EvB e1, hS, if_true, show wrap64 (((d + 1 : Nat) : Int) - 1) = (d : Int) by rw [w64 (by omega) (by omega)]; omega]
      exact r1
  obtain ⟨c, i1, h1, e1, c0, c1, _, g1⟩ := dBelow b i h 251 hi hb
  have c1 := c1 (by omega)
  obtain ⟨a, i2, h2, e2, am, g2⟩ := dPick b i1 h1 [0, 1, 2, 250, c] g1 hb (by simp)
  have ha : 0 ≤ a ∧ a ≤ 250 := by
    simp only [List.mem_cons, List.not_mem_nil, or_false] at am
    omega
  obtain ⟨m, i3, h3, e3, m0, m1, _, g3⟩ := dBelow b i2 h2 5 g2 hb
  have m1 := m1 (by omega)
  obtain ⟨n', w', i', h', r1, r2, r3, r4, r5, r6⟩ := nums a m.toNat [] i3 h3 (by simp; omega) (by simp) g3
  rw [Int.toNat_of_nonneg m0] at r1
  refine ⟨a, n', w', i', h', ?_, ⟨?_, r2, r4, r3, r5⟩, r6⟩
  · unfold spec_l01DrawRecord.f
    simp only [e1, e2, e3, Option.bind_some]
    exact r1
  have hl : longM w' = false := by
    unfold longM
    rw [List.any_eq_false]
    intro s hs
    have := r5 s hs
    rw [decide_eq_true_eq]
    omega
  simp only [okRec, hl, Bool.not_false, Bool.and_true]
  exact decide_eq_true (by omega)
theorem dRecs (b : List Int) (hb : b.length ≤ 1048576) : ∃ l : List S42, Ev (fun k => spec_DrawRightRecords.f k b) l ∧ l.length ≤ 8 ∧ ∀ r ∈ l, small r := by
  have key : ∀ (d : Nat) (l : List S42) (i h : Int), d + l.length ≤ 8 → (∀ r ∈ l, small r) → At b i → ∃ l' : List S42, Ev (fun k => spec_DrawRightRecords.l0 k l d b i h) l' ∧ l'.length ≤ 8 ∧ ∀ r ∈ l', small r := by
    intro d
    induction d with
    | zero =>
      intro l i h hd hl hi
      exact ⟨l, EvS (by simp only [spec_DrawRightRecords.l0, if_neg (show ¬ ((0 : Nat) : Int) > 0 by omega)]; exact EvN), by omega, hl⟩
    | succ d ih =>
      intro l i h hd hl hi
      obtain ⟨a, n, w, i1, h1, e1, s1, g1⟩ := dRec b hb i h hi
      have hS : (l.length < 2513169434916) = True := eq_true (by omega)
      obtain ⟨l', r1, r2⟩ := ih (l ++ [⟨a, n, w⟩]) i1 h1 (by simp; omega) (fun r hr => by
        rcases List.mem_append.1 hr with hr | hr
        · exact hl r hr
        rw [List.mem_singleton.1 hr]; exact s1) g1
      refine ⟨l', EvS ?_, r2⟩
      simp only [spec_DrawRightRecords.l0, if_pos (show ((d + 1 : Nat) : Int) > 0 by omega), EvB e1, hS, if_true, show wrap64 (((d + 1 : Nat) : Int) - 1) = (d : Int) by rw [w64 (by omega) (by omega)]; omega]
      exact r1
  obtain ⟨h, e0⟩ := dNew b hb
  obtain ⟨t, e1, t0, t1⟩ := dSize b 8 hb (by omega)
  obtain ⟨c, i1, h1, e2, c0, c1, _, g1⟩ := dBelow b 0 h t ⟨by omega, by omega⟩ hb
  have c1 := c1 (by omega)
  obtain ⟨l', r1, r2⟩ := key c.toNat [] i1 h1 (by simp; omega) (by simp) g1
  rw [Int.toNat_of_nonneg c0] at r1
  refine ⟨l', ?_, r2⟩
  unfold spec_DrawRightRecords.f
  simp only [EvB e0, e1, e2, Option.bind_some]
  exact r1
end Go.Proofs.Ytgdebfaoohjikaa.DR

namespace Go.Proofs.Ytgdebfaoohjikaa.Pure
set_option linter.unusedVariables false
set_option linter.unusedSimpArgs false
open Go.RowKit Go.Proofs.Ytgdebfaoohjikaa.F Go.Proofs.Ytgdebfaoohjikaa.PK Go.Proofs.Ytgdebfaoohjikaa.VI Go.Proofs.YtgdebfaoohjikaaW.PrintWords Go.Proofs.YtgdebfaoohjikaaW.PrintLast Go.Proofs.YtgdebfaoohjikaaW.PrintMore
open Go.Proofs.Ytgdebfaoohjikaa.KR Go.Proofs.Ytgdebfaoohjikaa.DE Go.Proofs.Ytgdebfaoohjikaa.EN Go.Proofs.Ytgdebfaoohjikaa.UD Go.Proofs.Ytgdebfaoohjikaa.DR
theorem ba_toList {a b : ByteArray} (h : a.toList = b.toList) : a = b := by
  rw [ByteArray.toList_eq, ByteArray.toList_eq] at h
  exact ByteArray.ext (Array.toList_inj.1 h)
theorem copy_ev (l : List Int) (hl : l.length ≤ 1000000) : Ev (fun k => laws_copyBytes.f k l) l := by
  unfold laws_copyBytes.f
  have key := up (P := fun i => ∀ x : List Int, x = l.take i.toNat → (x.length : Int) = i → Ev (fun k => laws_copyBytes.l0 k l x i) l) l.length
    (fun x hx hn => EvS (by
      rw [Int.toNat_natCast, List.take_length] at hx
      simp only [laws_copyBytes.l0, Int.lt_irrefl, if_false, hx]; exact EvN))
    (fun i hi ih x hx hn => EvS (by
      simp only [laws_copyBytes.l0, if_pos (show (i : Int) < (l.length : Int) by omega), if_pos (show 0 ≤ (i : Int) by omega), eq_true (show x.length < 140737488355328 by omega), if_true, KR.nxt i _ hi (show l.length ≤ 9223372036854775807 by omega)]
      refine ih _ ?_ (by rw [List.length_append, List.length_singleton]; omega)
      rw [hx, Int.toNat_natCast, Int.toNat_natCast, List.take_add_one, List.getElem?_eq_getElem hi, show rd l (i : Int) = l[i] from getD_nat l _ i hi]
      rfl))
  exact key 0 (Nat.zero_le _) [] (by simp) rfl
theorem join_ev (l m : List Int) (hl : l.length ≤ 1000000) (hm : m.length ≤ 1000000) : Ev (fun k => laws_join.f k l m) (l ++ m) := by
  unfold laws_join.f
  refine (EvB (copy_ev l hl)).2 ?_
  have key := up (P := fun i => ∀ x : List Int, x = l ++ m.take i.toNat → x.length ≤ l.length + i.toNat → Ev (fun k => laws_join.l0 k m x i) (l ++ m)) m.length
    (fun x hx hn => EvS (by
      rw [Int.toNat_natCast, List.take_length] at hx
      simp only [laws_join.l0, Int.lt_irrefl, if_false, hx]; exact EvN))
    (fun i hi ih x hx hn => EvS (by
      rw [Int.toNat_natCast] at hn
      simp only [laws_join.l0, if_pos (show (i : Int) < (m.length : Int) by omega), if_pos (show 0 ≤ (i : Int) by omega), eq_true (show x.length < 140737488355328 by omega), if_true, KR.nxt i _ hi (show m.length ≤ 9223372036854775807 by omega)]
      refine ih _ ?_ (by rw [List.length_append, List.length_singleton, Int.toNat_natCast]; omega)
      rw [hx, Int.toNat_natCast, Int.toNat_natCast, List.take_add_one, List.getElem?_eq_getElem hi, show rd m (i : Int) = m[i] from getD_nat m _ i hi, List.append_assoc]
      rfl))
  exact key 0 (Nat.zero_le _) l (by simp) (by simp)
theorem same_ev (a : Int) (n : List Int) (w : List ByteArray) (a' : Int) (n' : List Int) (w' : List ByteArray) (hn : n.length ≤ 1000000) (hw : w.length ≤ 1000000) : Ev (fun k => laws_sameRecord.f k a n w a' n' w') (decide (a = a' ∧ n = n' ∧ w = w')) := by
  have W : w.length = w'.length → Ev (fun k => laws_sameRecord.l1 k 0 a n w a' n' w') (decide (w = w')) := fun hl =>
    up0 (P := fun i => Ev (fun k => laws_sameRecord.l1 k i a n w a' n' w') (decide (w.drop i.toNat = w'.drop i.toNat))) w.length
      (EvS (by
        simp only [laws_sameRecord.l1, Int.lt_irrefl, if_false, Int.toNat_natCast, List.drop_length]
        rw [hl, List.drop_length]
        simp only [decide_true]
        exact EvN))
      (fun i hi ih => EvS (by
        have hiy : i < w'.length := by omega
        simp only [laws_sameRecord.l1, if_pos (show (i : Int) < (w.length : Int) by omega), if_pos (show 0 ≤ (i : Int) by omega), if_pos (show (i : Int) < (w'.length : Int) by omega), KR.nxt i _ hi (show w.length ≤ 9223372036854775807 by omega), Int.toNat_natCast, rs_at w i hi, rs_at w' i hiy, drop_at w i hi, drop_at w' i hiy]
        by_cases he : w[i] = w'[i]
        · simp only [he, if_true, List.cons.injEq, true_and]
          rw [Int.toNat_natCast] at ih
          exact ih
        simp only [if_neg (show ¬ w[i].toList = w'[i].toList from fun q => he (ba_toList q)), List.cons.injEq, he, false_and, decide_false]
        exact EvN))
  have N : n.length = n'.length → w.length = w'.length → Ev (fun k => laws_sameRecord.l0 k 0 a n w a' n' w') (decide (n = n' ∧ w = w')) := fun hl hlw =>
    up0 (P := fun i => Ev (fun k => laws_sameRecord.l0 k i a n w a' n' w') (decide (n.drop i.toNat = n'.drop i.toNat ∧ w = w'))) n.length
      (EvS (by
        simp only [laws_sameRecord.l0, Int.lt_irrefl, if_false, Int.toNat_natCast, List.drop_length]
        rw [hl, List.drop_length]
        simp only [true_and]
        exact W hlw))
      (fun i hi ih => EvS (by
        have hiy : i < n'.length := by omega
        simp only [laws_sameRecord.l0, if_pos (show (i : Int) < (n.length : Int) by omega), if_pos (show 0 ≤ (i : Int) by omega), if_pos (show (i : Int) < (n'.length : Int) by omega), KR.nxt i _ hi (show n.length ≤ 9223372036854775807 by omega), Int.toNat_natCast, KR.rd_at n i hi, KR.rd_at n' i hiy, drop_at n i hi, drop_at n' i hiy]
        by_cases he : n[i] = n'[i]
        · simp only [he, if_true, List.cons.injEq, true_and]
          rw [Int.toNat_natCast] at ih
          exact ih
        simp only [if_neg he, List.cons.injEq, he, false_and, decide_false]
        exact EvN))
  have J : ∀ x : Bool, x = true → ¬ (n = n' ∧ w = w' ∧ a = a') → Ev (fun k => laws_sameRecord.j0 k x a n w a' n' w') (decide (a = a' ∧ n = n' ∧ w = w')) := fun x hx hne => EvS (by
    rw [hx]
    simp only [laws_sameRecord.j0, if_true]
    rw [decide_eq_false (fun q => hne ⟨q.2.1, q.2.2, q.1⟩)]
    exact EvN)
  unfold laws_sameRecord.f
  by_cases ha : a = a'
  · by_cases hl : n.length = n'.length
    · by_cases hlw : w.length = w'.length
      · simp only [if_pos ha, if_pos (show (n.length : Int) = (n'.length : Int) by omega), show ((w.length : Int) != (w'.length : Int)) = false from bne_eq_false_iff_eq.2 (by omega)]
        refine EvS ?_
        simp only [laws_sameRecord.j0, Bool.false_eq_true, if_false]
        have := N hl hlw
        rw [show decide (a = a' ∧ n = n' ∧ w = w') = decide (n = n' ∧ w = w') from decide_eq_decide.2 ⟨fun q => q.2, fun q => ⟨ha, q⟩⟩]
        exact this
      simp only [if_pos ha, if_pos (show (n.length : Int) = (n'.length : Int) by omega)]
      exact J _ (bne_iff_ne.2 (by omega)) (fun q => hlw (by rw [q.2.1]))
    simp only [if_pos ha, if_neg (show ¬ (n.length : Int) = (n'.length : Int) by omega)]
    exact J _ rfl (fun q => hl (by rw [q.1]))
  simp only [if_neg ha]
  exact J _ rfl (fun q => ha q.2.2)
theorem at_ev (l : List Int) (hl : l.length ≤ 1048576) (hu : U8s l) (n : Nat) (hn : n ≤ 10) : ∃ t, laws_at.f l (n : Int) = some t ∧ 0 ≤ t ∧ t ≤ 255 := by
  unfold laws_at.f
  by_cases h : (n : Int) < (l.length : Int)
  · have hb := rdb hu n (by omega)
    rw [if_pos h, if_pos (by omega), w64 (by omega) (by omega)]
    exact ⟨_, rfl, hb.1, hb.2⟩
  rw [if_neg h]
  have e1 : wrap64 ((n : Int) * 13) = (n : Int) * 13 := w64 (by omega) (by omega)
  have e2 : wrap64 ((l.length : Int) * 5) = (l.length : Int) * 5 := w64 (by omega) (by omega)
  have e3 : wrap64 ((n : Int) * 13 + (l.length : Int) * 5) = (n : Int) * 13 + (l.length : Int) * 5 := w64 (by omega) (by omega)
  rw [e1, e2, e3]
  refine ⟨_, rfl, Int.tmod_nonneg _ (by omega), ?_⟩
  have := Int.tmod_lt_of_pos ((n : Int) * 13 + (l.length : Int) * 5) (show (0 : Int) < 256 by omega)
  omega
theorem xor_ne (x y : Int) (x0 : 0 ≤ x) (x1 : x ≤ 255) (y0 : 1 ≤ y) (y1 : y ≤ 255) : Go.bits .xor .u8 x y ≠ x ∧ 0 ≤ Go.bits .xor .u8 x y ∧ Go.bits .xor .u8 x y ≤ 255 := by
  obtain ⟨m, rfl⟩ := Int.eq_ofNat_of_zero_le x0
  obtain ⟨n, rfl⟩ := Int.eq_ofNat_of_zero_le (show 0 ≤ y by omega)
  rw [u8_xor_nat m n (by omega) (by omega)]
  have hlt := Nat.xor_lt_two_pow (n := 8) (show m < 2 ^ 8 by omega) (show n < 2 ^ 8 by omega)
  refine ⟨fun h => ?_, by omega, by omega⟩
  have h1 : m ^^^ n = m := by omega
  have h2 : m ^^^ (m ^^^ n) = n := by rw [← Nat.xor_assoc, Nat.xor_self, Nat.zero_xor]
  rw [h1, Nat.xor_self] at h2
  omega
theorem dec_ev (l : List Int) (hu : U8s l) : Ev (fun k => impl_Decode.f k l) (decM l) := by
  unfold impl_Decode.f
  exact (EvB (impl_dec l hu)).2 EvN
theorem rok_ev {r : S42} (h : goodR r) (hs : r.f2.length ≤ 9223372036854775807) : impl_RecordOk.f r.f0 r.f1 r.f2 = some true := by
  unfold impl_RecordOk.f
  rw [impl_rec r.f0 r.f1 r.f2 hs, h.1]
  rfl
theorem same_all (l : List S42) (hl : l.length ≤ 1000) (hs : ∀ r ∈ l, r.f1.length ≤ 1000000 ∧ r.f2.length ≤ 1000000) : Ev (fun k => laws_sameRecords.f k l l) true := by
  unfold laws_sameRecords.f
  simp only [if_true]
  exact up0 (P := fun i => Ev (fun k => laws_sameRecords.l0 k l l i) true) l.length
    (EvS (by simp only [laws_sameRecords.l0, Int.lt_irrefl, if_false]; exact EvN))
    (fun i hi ih => EvS (by
      have h := hs _ (List.getElem_mem hi)
      have e := same_ev l[i].f0 l[i].f1 l[i].f2 l[i].f0 l[i].f1 l[i].f2 h.1 h.2
      rw [decide_eq_true ⟨rfl, rfl, rfl⟩] at e
      simp only [laws_sameRecords.l0, if_pos (show (i : Int) < (l.length : Int) by omega), if_pos (show 0 ≤ (i : Int) by omega), rdr l i hi, EvB e, if_true, KR.nxt i _ hi (show l.length ≤ 9223372036854775807 by omega)]
      exact ih))
theorem three_ev {r : S42} (h : goodR r) {b : List Int} (hu : U8s b) (hne : b ≠ bodyB r.f0 r.f1 r.f2) : Ev (fun k => laws_FnRecords.one3 k r.f0 r.f1 r.f2 b) true := by
  unfold laws_FnRecords.one3
  simp only [EvB (dec_ev b hu)]
  have hb := dec_bd b
  generalize hD : decM b = o at hb
  obtain ⟨a, n, w, y⟩ := o
  simp only at hb
  cases y with
  | false => simp only [Bool.false_eq_true, if_false]; exact EvN
  | true =>
    obtain ⟨h1, h2, h3, h4⟩ := dec_bent h hu hne hD
    have e := same_ev a n w r.f0 r.f1 r.f2 (by omega) (by omega)
    rw [decide_eq_false h4] at e
    have eE := impl_enc a n w h2 (by omega)
    rw [show encM a n w = b from by unfold encM; rw [if_pos h1, h3]] at eE
    simp only [if_true, EvB e, EvB eE]
    exact EvN
theorem one_ev {r : S42} (h : goodR r) (hs : r.f1.length ≤ 1000 ∧ r.f2.length ≤ 1000) (l : List Int) (hl : l.length ≤ 1048576) (hu : U8s l) : Ev (fun k => laws_FnRecords.one1 k l r.f0 r.f1 r.f2) true := by
  have eE := impl_enc r.f0 r.f1 r.f2 h.2 (by omega)
  rw [show encM r.f0 r.f1 r.f2 = bodyB r.f0 r.f1 r.f2 from by unfold encM; rw [if_pos h.1]] at eE
  have hb := body_le h
  have hp := body_pos r
  have hub := u8s_body h
  obtain ⟨t3, e3, _, _⟩ := at_ev l hl hu 3 (by omega)
  obtain ⟨t4, e4, t40, t41⟩ := at_ev l hl hu 4 (by omega)
  obtain ⟨t5, e5, t50, t51⟩ := at_ev l hl hu 5 (by omega)
  rw [show ((3 : Nat) : Int) = 3 from rfl] at e3
  rw [show ((4 : Nat) : Int) = 4 from rfl] at e4
  rw [show ((5 : Nat) : Int) = 5 from rfl] at e5
  have hD := dec_good h
  have hM := dec_more h (t3 % 256)
  have hL := dec_less h
  have eS := same_ev r.f0 r.f1 r.f2 r.f0 r.f1 r.f2 (by omega) (by omega)
  rw [decide_eq_true ⟨rfl, rfl, rfl⟩] at eS
  have e2 : Ev (fun k => laws_FnRecords.one2 k l r.f0 r.f1 r.f2 (bodyB r.f0 r.f1 r.f2)) true := by
    unfold laws_FnRecords.one2
    have k0 : 0 ≤ Int.tmod t4 ((bodyB r.f0 r.f1 r.f2).length : Int) := Int.tmod_nonneg _ t40
    have k1 := Int.tmod_lt_of_pos t4 (show (0 : Int) < ((bodyB r.f0 r.f1 r.f2).length : Int) by omega)
    simp only [e4, Option.bind_some, if_pos (show 0 < (bodyB r.f0 r.f1 r.f2).length by omega), if_pos k0, if_pos k1, e5]
    refine three_ev h ?_ ?_ <;> generalize Int.tmod t4 ((bodyB r.f0 r.f1 r.f2).length : Int) = kk at k0 k1 ⊢ <;> obtain ⟨m, rfl⟩ := Int.eq_ofNat_of_zero_le k0
    · intro z hz
      have hm := rdb hub m (by omega)
      have y0 := Int.tmod_nonneg 255 t50
      have y1 := Int.tmod_lt_of_pos t5 (show (0 : Int) < 255 by omega)
      have hw : IntKind.u8.wrap (wrap64 (1 + Int.tmod t5 255)) = 1 + Int.tmod t5 255 := by rw [w64 (by omega) (by omega), IntKind.wrap_u8]; omega
      rw [hw] at hz
      have hx := xor_ne (rd (bodyB r.f0 r.f1 r.f2) (m : Int)) (1 + Int.tmod t5 255) hm.1 hm.2 (by omega) (by omega)
      rcases List.mem_or_eq_of_mem_set hz with hz | hz
      · exact hub z hz
      rw [hz]; exact hx.2
    intro he
    have hml : m < (bodyB r.f0 r.f1 r.f2).length := by omega
    have hm := rdb hub m hml
    have y0 := Int.tmod_nonneg 255 t50
    have y1 := Int.tmod_lt_of_pos t5 (show (0 : Int) < 255 by omega)
    have hw : IntKind.u8.wrap (wrap64 (1 + Int.tmod t5 255)) = 1 + Int.tmod t5 255 := by rw [w64 (by omega) (by omega), IntKind.wrap_u8]; omega
    rw [hw, Int.toNat_natCast] at he
    have hx := xor_ne (rd (bodyB r.f0 r.f1 r.f2) (m : Int)) (1 + Int.tmod t5 255) hm.1 hm.2 (by omega) (by omega)
    have := congrArg (fun q => q[m]?) he
    simp only [List.getElem?_set_self hml, List.getElem?_eq_getElem hml, Option.some.injEq] at this
    rw [KR.rd_at _ m hml] at hx this
    exact hx.1 this
  unfold laws_FnRecords.one1
  have hu1 : U8s (bodyB r.f0 r.f1 r.f2 ++ [t3 % 256]) := fun z hz => (List.mem_append.1 hz).elim (hub z) (fun q => by rw [List.mem_singleton.1 q]; omega)
  have hu2 : U8s ((bodyB r.f0 r.f1 r.f2).take ((bodyB r.f0 r.f1 r.f2).length - 1)) := fun z hz => hub z (List.mem_of_mem_take hz)
  have eJ := join_ev (bodyB r.f0 r.f1 r.f2) [t3 % 256] (by omega) (by simp)
  have eD := dec_ev _ hub
  rw [hD] at eD
  have eM := dec_ev _ hu1
  rw [hM] at eM
  have eL := dec_ev _ hu2
  have hn : noRec.2.2.2 = false := rfl
  simp only [EvB eE, EvB eD, e3, Option.bind_some, EvB eJ, EvB eM, rok_ev h (by omega), if_true, EvB eS, hn, if_pos (show 3 ≤ (bodyB r.f0 r.f1 r.f2).length ∧ (bodyB r.f0 r.f1 r.f2).length ≤ 1000000 from ⟨hp, by omega⟩), EvB eL, hL, EvB (copy_ev (bodyB r.f0 r.f1 r.f2) (by omega))]
  exact e2
theorem FnRecords (l0 : List Int) (hw0 : l0.length ≤ 9223372036854775807 ∧ ∀ y_ ∈ l0, ((Lit.int .u8 y_).wf = true)) : ∃ k, laws_FnRecords.f k l0 = some true := by
  have hu := wf8s hw0.2
  refine EvE ?_
  unfold laws_FnRecords.f laws_big.f
  by_cases hb : (l0.length : Int) > 1048576
  · simp only [hb, decide_true, Option.bind_some, if_true]; exact EvN
  obtain ⟨L, eL, hL, hS⟩ := dRecs l0 (by omega)
  have hg : ∀ r ∈ L, goodR r := fun r hr => ⟨(hS r hr).1, (hS r hr).2.2.2.1⟩
  obtain ⟨hE, hD⟩ := decAll_of hg hL
  have eE := impl_encAll L (fun r hr => ⟨(hS r hr).2.2.2.1, by have := (hS r hr).2.2.1; omega⟩)
  rw [hE] at eE
  have eD := impl_decAll (recsB L) (u8s_recs hg)
  rw [hD] at eD
  have eS := same_all L (by omega) (fun r hr => by have := hS r hr; unfold small at this; omega)
  have key : Ev (fun k => laws_FnRecords.l0 k l0 L 0) true := up0 (P := fun i => Ev (fun k => laws_FnRecords.l0 k l0 L i) true) L.length
    (EvS (by simp only [laws_FnRecords.l0, Int.lt_irrefl, if_false]; exact EvN))
    (fun i hi ih => EvS (by
      have hr := hS _ (List.getElem_mem hi)
      have e := one_ev (hg _ (List.getElem_mem hi)) (by unfold small at hr; omega) l0 (by omega) hu
      simp only [laws_FnRecords.l0, if_pos (show (i : Int) < (L.length : Int) by omega), if_pos (show 0 ≤ (i : Int) by omega), rdr L i hi, EvB e, KR.nxt i _ hi (show L.length ≤ 9223372036854775807 by omega)]
      exact ih))
  simp only [hb, decide_false, Option.bind_some, Bool.false_eq_true, if_false, EvB eL, EvB eE, EvB eD, if_true, EvB eS]
  exact key
end Go.Proofs.Ytgdebfaoohjikaa.Pure

namespace Go.Proofs.Ytgdebfaoohjikaa.Opens
set_option linter.unusedVariables false
set_option linter.unusedSimpArgs false
open Go.RowKit Go.Proofs.YtgdebfaoohjikaaW.PrintWords
def Opens (P : Program) (t : TypeId) {α : Type} (d : Kd α) (ok : α → Prop) : Prop :=
  P.cellsOf t = d.sz ∧ ∀ (H : Type) (enc : TypeId × Value → H) (w : World) (spare : Nat → Bool) (fuel : Nat) (cs : List Value) (x : DataW H × List MemPlace), DataW.trod enc P w 0 spare true fuel t cs = some x → ∃ a : α, d.K w a cs ∧ ok a
variable {P : Program}
theorem opens_int {t : TypeId} {k : IntKind} (ht : P.underlying t = some (.int k)) (hc : P.cellsOf t = 1) : Opens P t (Kd.int k) (fun a => (Lit.int k a).wf = true) :=
  ⟨hc, fun _ _ _ _ _ _ _ h => by
    obtain ⟨n, rfl, _, hw⟩ := DataW.trod_int ht h
    exact ⟨n, rfl, hw⟩⟩
theorem add_add (a : Addr) (i j : Nat) : (a.add i).add j = a.add (i + j) := by
  unfold Addr.add
  by_cases hi : i = 0 <;> by_cases hj : j = 0 <;> simp [hi, hj, Nat.add_assoc]
theorem opens_slice {t e : TypeId} {α : Type} {d : Kd α} {ok : α → Prop} (ht : P.underlying t = some (.slice e)) (hc : P.cellsOf t = 1) (hd : Opens P e d ok) :
    Opens P t (Kd.slice e d) (fun l => l.length ≤ 9223372036854775807 ∧ ∀ a ∈ l, ok a) :=
  ⟨hc, fun H enc w spare fuel cs x h => by
    rcases Deep.open_slice ht h with ⟨rfl, _⟩ | ⟨a, len, cap, m, n, D, Pl, rfl, _, hl, hm, hmm, hxx, hx⟩
    · exact ⟨[], ⟨none, 0, rfl, Nat.le_refl _, rfl, Nat.zero_le _, fun h => absurd h (Nat.lt_irrefl _)⟩, Nat.zero_le _, fun _ h => nomatch h⟩
    have hlm : len ≤ m := by rw [hmm]; split <;> omega
    have hex : ∀ i, i < len → ∃ b : α, ∃ cs', w.cells? 0 (a.add (i * P.cellsOf e)) (P.cellsOf e) = some cs' ∧ d.K w b cs' ∧ ok b := fun i hi => by
      obtain ⟨cs', h1, h2⟩ := hx i (Nat.lt_of_lt_of_le hi hlm)
      obtain ⟨b, hb⟩ := hd.2 H enc w spare n cs' _ h2
      exact ⟨b, cs', h1, hb.1, hb.2⟩
    have hml : len ≤ 9223372036854775807 := by unfold maxLen at hm; omega
    obtain ⟨l, hll, hat⟩ : ∃ l : List α, l.length = len ∧ ∀ i p, l[i]? = some p → ∃ cs', w.cells? 0 (a.add (i * P.cellsOf e)) (P.cellsOf e) = some cs' ∧ d.K w p cs' ∧ ok p := by
      clear hx hlm hmm hl hm hml hxx h
      induction len with
      | zero => exact ⟨[], rfl, fun i p h => by simp at h⟩
      | succ len ih =>
        obtain ⟨l, hll, hat⟩ := ih (fun i hi => hex i (Nat.lt_succ_of_lt hi))
        obtain ⟨b, hb⟩ := hex len (Nat.lt_succ_self _)
        refine ⟨l ++ [b], by simp [hll], fun i p h => ?_⟩
        rcases Nat.lt_or_ge i l.length with hi | hi
        · rw [List.getElem?_append_left hi] at h
          exact hat i p h
        rw [List.getElem?_append_right hi] at h
        have hi0 : i - l.length = 0 := by
          rcases Nat.eq_zero_or_pos (i - l.length) with h0 | h0
          · exact h0
          rw [List.getElem?_eq_none (by simp; omega)] at h
          cases h
        rw [hi0] at h
        have : b = p := by simpa using h
        subst this
        have : i = len := by omega
        subst this
        exact hb
    subst hll
    refine ⟨l, ⟨some a, cap, rfl, hl, rfl, hml, fun _ => ⟨a, rfl, fun j p hj => ?_⟩⟩, hml, fun b hb => ?_⟩
    · obtain ⟨cs', h1, hk, _⟩ := hat j p hj
      obtain ⟨_, hlen, hcell⟩ := World.cells?_some h1
      refine ⟨cs', hlen.trans hd.1, hk, fun i u hu => ?_⟩
      have hi : i < P.cellsOf e := by
        have := (List.getElem?_eq_some_iff.1 hu).1
        omega
      have := hcell i hi
      rw [hu, add_add, hd.1] at this
      exact this
    obtain ⟨i, hi⟩ := List.getElem?_of_mem hb
    obtain ⟨_, _, _, hok⟩ := hat i b hi
    exact hok⟩
end Go.Proofs.Ytgdebfaoohjikaa.Opens
