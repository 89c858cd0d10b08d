/- Merged texts below the law FnExactBegin: Go functions as Lean functions, their contracts, and plain lemmas. -/
import Derived.Test.YtedlgllhaboljaaQFnExactBegin1
import Derived.Shelf.Abstract
import Derived.Test.YtedlgllhaboljaaWMore
import Derived.Test.YtedlgllhaboljaaWKept
import Derived.Deep.DeepCutAuto
import Derived.Test.YtedlgllhaboljaaWApart
namespace Go.Proofs.Ytedlgllhaboljaa.F
open Go.RowKit Go.Proofs.YtedlgllhaboljaaW.PrintWords Go.Proofs.YtedlgllhaboljaaW.PrintLast Go.Proofs.YtedlgllhaboljaaW.PrintMore
set_option linter.unusedVariables false
set_option linter.unusedSimpArgs false
def PredD (g : Nat) (lb : Array Value) (p : Int → Bool) (w : World) : Prop := ∀ (n : Nat) (x : Int), Calls Try.prog g (#[.int .i64 x] ++ lb) (w.drewN n) fun e w' => e = .returned (.bool (p x)) ∧ ∃ q, w' = w.drewN q
/-- The place of the first number of a kind, from a place on; else minus one. -/
def idxM (p : Int → Bool) : List Int → Int → Int
  | [], _ => -1
  | x :: t, i => if p x = true then i else idxM p t (i + 1)
theorem idxM_any (p : Int → Bool) : ∀ (l : List Int) (i : Int), 0 ≤ i → decide (idxM p l i ≥ 0) = l.any p := by
  intro l
  induction l with
  | nil => intro i _; rfl
  | cons x t ih =>
    intro i hi
    unfold idxM
    cases h : p x with
    | true => simp [h, hi]
    | false => simp only [Bool.false_eq_true, if_false, List.any_cons, h, Bool.false_or]; exact ih _ (by omega)
set_option maxHeartbeats 4000000 in
theorem indexFunc.calls (g : Nat) (lb : Array Value) (p : Int → Bool) (eg : ∀ args w, (callFunc g args).run Try.prog w = .ok (.enter g args) w) (A : Option Addr) (c : Nat) (l : List Int) (w : World) (hr : Kd.C (Kd.int .i64) w A l.length l) (hl : l.length ≤ 9223372036854775807) (hp : PredD g lb p w) :
    Calls Try.prog 55 #[.slice A l.length c, .func (.func g) #[] lb] w fun e w' => e = .returned (.int .i64 (idxM p l 0)) ∧ ∃ q, w' = w.drewN q := by
  have HR0 := Zh hr
  clear hr
  have HP := Zh hp
  clear hp
  go_enter Try.func55, Try.ntmps55
  go_wp2
  go_loopg [5, 8] l.length (fun gg _ v8 w' => ∃ kk m : Nat, kk ≤ l.length ∧ l.length - kk ≤ gg ∧ v8 = .int .i64 kk ∧ w' = w.drewN m ∧ Aside0 (idxM p (l.drop kk) kk = idxM p l 0))
  case atStart => exact ⟨0, 0, Nat.zero_le _, by omega, rfl, rfl, ⟨rfl⟩⟩
  case round =>
    obtain ⟨kk, m1, hkk, hg, rfl, rfl, HA⟩ := hrel
    by_cases hlt : kk < l.length
    · have hltz : (kk : Int) < (l.length : Int) := by omega
      obtain ⟨ad, e, hx⟩ := Kd.at_int HR0.out (kk : Int) (by omega) (by omega)
      cases e
      rw [Int.toNat_natCast] at hx
      have hrd : rd l (kk : Int) = l[kk] := by simp [rd, List.getD_eq_getElem?_getD, List.getElem?_eq_getElem hlt]
      have hA := HA.out
      rw [List.drop_eq_getElem_cons hlt] at hA
      rw [hrd] at hx
      clear HA hrd
      generalize l[kk] = y at hx hA
      have hcall := fun q => HP.out q y
      cases hq : p y with
      | true =>
        simp only [idxM, hq, if_true] at hA
        rw [hq] at hcall
        have HA := Zh hA
        clear hA
        go_wp2_with (go_at_fn g; refine (hcall _).mono ?_; rintro e w' ⟨rfl, q', rfl⟩)
        go_ret
        exact ⟨by rw [← HA.out]; rfl, _, rfl⟩
      | false =>
        simp only [idxM, hq, Bool.false_eq_true, if_false] at hA
        rw [hq] at hcall
        have HA := Zh hA
        clear hA
        go_wp2_with (go_at_fn g; refine (hcall _).mono ?_; rintro e w' ⟨rfl, q', rfl⟩)
        go_roundg (l.length - (kk + 1))
        case measure => omega
        case rel => exact ⟨kk + 1, _, by omega, by omega, by go_num, rfl, ⟨by have := HA.out; simpa using this⟩⟩
    have hltz : ¬ (kk : Int) < (l.length : Int) := by omega
    have : kk = l.length := by omega
    subst this
    go_wp2
    go_ret
    refine ⟨?_, m1, rfl⟩
    rw [← HA.out, List.drop_length]
    rfl
set_option maxHeartbeats 4000000 in
theorem containsFunc.calls (g : Nat) (lb : Array Value) (p : Int → Bool) (eg : ∀ args w, (callFunc g args).run Try.prog w = .ok (.enter g args) w) (A : Option Addr) (c : Nat) (l : List Int) (w : World) (hr : Kd.C (Kd.int .i64) w A l.length l) (hl : l.length ≤ 9223372036854775807) (hp : PredD g lb p w) :
    Calls Try.prog 48 #[.slice A l.length c, .func (.func g) #[] lb] w fun e w' => e = .returned (.bool (l.any p)) ∧ ∃ q, w' = w.drewN q := by
  have hcall := indexFunc.calls g lb p eg A c l w hr hl hp
  rw [← idxM_any p l 0 (by omega)]
  clear hr hp
  go_enter Try.func48, Try.ntmps48
  have e6 : ∀ args w, (callFunc 55 args).run Try.prog w = .ok (.enter 55 args) w := enters_of Try.func55 (by kernel_rfl) rfl
  go_wp2_with (go_at_fn 55; refine hcall.mono ?_; rintro e w' ⟨rfl, q, rfl⟩)
  go_ret
  exact ⟨rfl, q, rfl⟩
end Go.Proofs.Ytedlgllhaboljaa.F

namespace Go.Proofs.Ytedlgllhaboljaa.PK
set_option linter.unusedVariables false
set_option linter.unusedSimpArgs false
open Go.RowKit Go.Proofs.YtedlgllhaboljaaW.PrintWords
theorem EvS {α : Type} {g : Nat → Option α} {r : α} (h : Ev (fun k => g (k + 1)) r) : Ev g r := by
  obtain ⟨K, h⟩ := h
  refine ⟨K + 1, fun k hk => ?_⟩
  obtain ⟨m, rfl⟩ : ∃ m, k = m + 1 := ⟨k - 1, by omega⟩
  exact h m (by omega)
theorem EvP {α : Type} {g : Nat → Option α} {r : α} (h : Ev g r) : Ev (fun k => g (k + 1)) r := by
  obtain ⟨K, h⟩ := h
  exact ⟨K, fun k hk => h (k + 1) (by omega)⟩
theorem EvB {α β : Type} {g : Nat → Option α} {f : Nat → α → Option β} {a : α} {r : β} (h : Ev g a) : Ev (fun k => (g k).bind (f k)) r ↔ Ev (fun k => f k a) r := by
  obtain ⟨K, h⟩ := h
  constructor
  · rintro ⟨K', h'⟩
    refine ⟨max K K', fun k hk => ?_⟩
    have h2 : (g k).bind (f k) = some r := h' k (by omega)
    rw [h k (by omega)] at h2
    exact h2
  rintro ⟨K', h'⟩
  refine ⟨max K K', fun k hk => ?_⟩
  show (g k).bind (f k) = some r
  rw [h k (by omega)]
  exact h' k (by omega)
theorem EvN {α : Type} {r : α} : Ev (fun _ => some r) r := ⟨0, fun _ _ => rfl⟩
theorem EvE {α : Type} {g : Nat → Option α} {r : α} (h : Ev g r) : ∃ k, g k = some r := h.rounds
/-- Two answers of one function are one. -/
theorem EvU {α : Type} {g : Nat → Option α} {r s : α} (h : Ev g r) (h' : Ev g s) : r = s := by
  obtain ⟨K, h⟩ := h
  obtain ⟨K', h'⟩ := h'
  have := (h (max K K') (by omega)).symm.trans (h' (max K K') (by omega))
  exact Option.some.inj this
theorem w64 {x : Int} (h : -9223372036854775808 ≤ x) (h' : x ≤ 9223372036854775807) : wrap64 x = x := by
  unfold wrap64
  omega
theorem wf64 {x : Int} (h : (Lit.int .i64 x).wf = true) : -9223372036854775808 ≤ x ∧ x ≤ 9223372036854775807 := by
  simp only [Lit.wf, Bool.and_eq_true, decide_eq_true_eq] at h
  have h1 : IntKind.i64.min = -9223372036854775808 := by decide
  have h2 : IntKind.i64.max = 9223372036854775807 := by decide
  omega
/-- From the end down. -/
theorem up {P : Int → Prop} (n : Nat) (base : P n) (step : ∀ i : Nat, i < n → P ((i + 1 : Nat) : Int) → P (i : Int)) : ∀ i : Nat, i ≤ n → P (i : Int) := by
  intro i hi
  obtain ⟨d, hd⟩ : ∃ d, d + i = n := ⟨n - i, by omega⟩
  induction d generalizing i with
  | zero => have : i = n := by omega
            subst this
            exact base
  | succ d ih => exact step i (by omega) (ih (i + 1) (by omega) (by omega))
theorem up0 {P : Int → Prop} (n : Nat) (base : P n) (step : ∀ i : Nat, i < n → P ((i + 1 : Nat) : Int) → P (i : Int)) : P 0 := up n base step 0 (Nat.zero_le _)
theorem getD_nat {α : Type} (l : List α) (z : α) (i : Nat) (h : i < l.length) : l.getD ((i : Int).toNat) z = l[i] := by
  simp [List.getD_eq_getElem?_getD, List.getElem?_eq_getElem h]
theorem drop_at {α : Type} (l : List α) (i : Nat) (h : i < l.length) : l.drop i = l[i] :: l.drop (i + 1) := List.drop_eq_getElem_cons h
/-- Marks put into the elements of a list, one behind the other, and found there. -/
theorem marks {α : Type} (L : Nat → List α → Int → Int → Option (Int × List α)) (H : Nat → List α → Int → Int → Option Int) (B : Int) (hB : 0 ≤ B) (n : Nat) (N : Int)
    (endL : ∀ l a, l.length = n → Ev (fun k => L k l a n) (a, l)) (endH : ∀ l a, l.length = n → Ev (fun k => H k l a n) a)
    (step : ∀ (i : Nat) (l : List α) (a : Int), i < n → l.length = n → 0 ≤ a → a + B ≤ N → ∃ (e : α) (a1 : Int), a ≤ a1 ∧ a1 ≤ a + B ∧
      (∀ r, Ev (fun k => L k (l.set i e) a1 ((i + 1 : Nat) : Int)) r → Ev (fun k => L k l a i) r) ∧
      (∀ (l' : List α) r, l'.length = n → l'[i]? = some e → Ev (fun k => H k l' a1 ((i + 1 : Nat) : Int)) r → Ev (fun k => H k l' a i) r)) :
    ∀ (i : Nat), i ≤ n → ∀ (l : List α) (a : Int), l.length = n → 0 ≤ a → a + (n - i) * B ≤ N →
      ∃ (a' : Int) (l' : List α), Ev (fun k => L k l a i) (a', l') ∧ a ≤ a' ∧ a' ≤ a + (n - i) * B ∧ l'.length = n ∧ (∀ j, j < i → l'[j]? = l[j]?) ∧ Ev (fun k => H k l' a i) a' := by
  intro i hi
  obtain ⟨d, hd⟩ : ∃ d, d + i = n := ⟨n - i, by omega⟩
  induction d generalizing i with
  | zero =>
    intro l a hl h0 hN
    have : i = n := by omega
    subst this
    exact ⟨a, l, endL l a hl, Int.le_refl _, by rw [Int.sub_self, Int.zero_mul]; omega, hl, fun _ _ => rfl, endH l a hl⟩
  | succ d ih =>
    intro l a hl h0 hN
    have hni : ((n : Int) - i) * B = B + ((n : Int) - ((i + 1 : Nat) : Int)) * B := by
      rw [show (n : Int) - i = 1 + ((n : Int) - ((i + 1 : Nat) : Int)) by omega, Int.add_mul, Int.one_mul]
    have hnn : 0 ≤ ((n : Int) - ((i + 1 : Nat) : Int)) * B := Int.mul_nonneg (by omega) hB
    obtain ⟨e, a1, h1, h2, hL, hH⟩ := step i l a (by omega) hl h0 (by omega)
    obtain ⟨a', l', hev, h3, h4, h5, h6, h7⟩ := ih (i + 1) (by omega) (by omega) (l.set i e) a1 (by simpa using hl) (by omega) (by omega)
    refine ⟨a', l', hL _ hev, by omega, by omega, h5, fun j hj => ?_, hH l' a' h5 ?_ h7⟩
    · rw [h6 j (by omega), List.getElem?_set_ne (by omega)]
    rw [h6 i (by omega), List.getElem?_set_self (by omega)]
end Go.Proofs.Ytedlgllhaboljaa.PK

namespace Go.Proofs.Ytedlgllhaboljaa.F
open Go.RowKit Go.Proofs.YtedlgllhaboljaaW.PrintWords Go.Proofs.YtedlgllhaboljaaW.PrintLast Go.Proofs.YtedlgllhaboljaaW.PrintMore Go.Proofs.Ytedlgllhaboljaa.PK
set_option linter.unusedVariables false
set_option linter.unusedSimpArgs false
theorem idxLoop (l : List Int) (x : Int) (hl : l.length ≤ 9223372036854775807) : ∀ i : Nat, i ≤ l.length → ∃ r, Ev (fun k => slices_Index_int_int.l0 k l x (l.length : Int) i) r ∧ decide (r ≥ 0) = (l.drop i).contains x :=
  fun i hi => up (P := fun i => ∃ r, Ev (fun k => slices_Index_int_int.l0 k l x (l.length : Int) i) r ∧ decide (r ≥ 0) = (l.drop i.toNat).contains x) l.length
    ⟨-1, EvS (by simp only [slices_Index_int_int.l0, Int.lt_irrefl, if_false]; exact EvN), by rw [Int.toNat_natCast, List.drop_length]; rfl⟩
    (fun i hi ih => by
      obtain ⟨r, h1, h2⟩ := ih
      have hrd : rd l (i : Int) = l[i] := getD_nat l _ i hi
      have hw : wrap64 ((i : Int) + 1) = ((i + 1 : Nat) : Int) := by rw [w64 (by omega) (by omega)]; omega
      rw [Int.toNat_natCast] at *
      by_cases h : x = l[i]
      · refine ⟨i, EvS ?_, ?_⟩
        · simp only [slices_Index_int_int.l0, if_pos (show (i : Int) < (l.length : Int) by omega), if_pos (show 0 ≤ (i : Int) by omega), hrd, if_pos h]
          exact EvN
        rw [drop_at l i hi, decide_eq_true (by omega), List.contains_cons, beq_iff_eq.2 h, Bool.true_or]
      refine ⟨r, EvS ?_, ?_⟩
      · simp only [slices_Index_int_int.l0, if_pos (show (i : Int) < (l.length : Int) by omega), if_pos (show 0 ≤ (i : Int) by omega), hrd, if_neg h, hw]
        exact h1
      rw [drop_at l i hi, h2, List.contains_cons, beq_eq_false_iff_ne.2 h, Bool.false_or]) i hi
theorem contains_ev (l : List Int) (x : Int) (hl : l.length ≤ 9223372036854775807) : Ev (fun k => slices_Contains_int_int.f k l x) (l.contains x) := by
  obtain ⟨r, h1, h2⟩ := idxLoop l x hl 0 (Nat.zero_le _)
  replace h1 : Ev (fun k => slices_Index_int_int.f k l x) r := h1
  unfold slices_Contains_int_int.f
  simp only [EvB h1]
  rw [h2]
  exact EvN
theorem containsAt (A : Option Addr) (c : Nat) (l : List Int) (w : World) (hr : Kd.C (Kd.int .i64) w A l.length l) (hc : l.length ≤ c) (hl : l.length ≤ 9223372036854775807) (x : Int) (n : Nat) :
    Calls Try.prog 50 #[.slice A l.length c, .int .i64 x] (w.drewN n) fun e w' => e = .returned (.bool (l.contains x)) ∧ ∃ q, w' = w.drewN q := by
  obtain ⟨k, hk⟩ := EvE (contains_ev l x hl)
  refine (slices_Contains_int_int.calls k A c l x _ _ (Kd.C_drewN hr n) hc hk).mono ?_
  rintro e w' ⟨rfl, ⟨q, rfl⟩⟩
  exact ⟨rfl, n + q, by simp [go_sem]⟩
set_option maxHeartbeats 4000000 in
theorem isConf1.pred (B : Nat) (A0 : Option Addr) (c0 : Nat) (l0 : List Int) (A1 : Option Addr) (c1 : Nat) (l1 : List Int) (w : World) (hr0 : Kd.C (Kd.int .i64) w A0 l0.length l0) (hc0 : l0.length ≤ c0) (hl0 : l0.length ≤ 9223372036854775807) (hr1 : Kd.C (Kd.int .i64) w A1 l1.length l1) (hc1 : l1.length ≤ c1) (hl1 : l1.length ≤ 9223372036854775807)
    (hb0 : w.cell? ⟨B, 0, none⟩ = some (.slice A0 l0.length c0)) (hb1 : w.cell? ⟨B, 1, none⟩ = some (.slice A1 l1.length c1)) :
    PredD 49 #[.pointer (some ⟨B, 0, none⟩)] (fun x => l0.contains x || l1.contains x) w := by
  intro n x
  have h0 := containsAt A0 c0 l0 w hr0 hc0 hl0 x
  have h1 := containsAt A1 c1 l1 w hr1 hc1 hl1 x
  clear hr0 hr1
  go_enter Try.func49, Try.ntmps49
  have e6 : ∀ args w, (callFunc 50 args).run Try.prog w = .ok (.enter 50 args) w := enters_of Try.func50 (by kernel_rfl) rfl
  cases hq : l0.contains x with
  | true =>
    rw [hq] at h0
    go_wp2_with (go_at_fn 50; refine (h0 _).mono ?_; rintro e w' ⟨rfl, q, rfl⟩)
    go_ret
    exact ⟨rfl, _, rfl⟩
  | false =>
    rw [hq] at h0
    go_wp2_with (go_at_fn 50; first | (refine (h0 _).mono ?_; rintro e w' ⟨rfl, q, rfl⟩) | (refine (h1 _).mono ?_; rintro e w' ⟨rfl, q, rfl⟩))
    go_ret
    exact ⟨by simp, _, rfl⟩
/-- Whether a learner of a configuration votes. -/
def impl_isConf_learn.f (l0 l1 l2 : List Int) : Option Bool := if l0.length ≤ 9223372036854775807 ∧ l1.length ≤ 9223372036854775807 ∧ l2.length ≤ 9223372036854775807 then some (l2.any fun x => l0.contains x || l1.contains x) else none
theorem impl_isConf_learn.calls (B : Nat) (A0 : Option Addr) (c0 : Nat) (l0 : List Int) (A1 : Option Addr) (c1 : Nat) (l1 : List Int) (A2 : Option Addr) (c2 : Nat) (l2 : List Int) (r : Bool) (w : World) (hr2 : Kd.C (Kd.int .i64) w A2 l2.length l2) (hc2 : l2.length ≤ c2) (h : impl_isConf_learn.f l0 l1 l2 = some r) (hr0 : Kd.C (Kd.int .i64) w A0 l0.length l0) (hc0 : l0.length ≤ c0) (hr1 : Kd.C (Kd.int .i64) w A1 l1.length l1) (hc1 : l1.length ≤ c1) (hb0 : w.cell? ⟨B, 0, none⟩ = some (.slice A0 l0.length c0)) (hb1 : w.cell? ⟨B, 1, none⟩ = some (.slice A1 l1.length c1)) :
    Calls Try.prog 48 #[.slice A2 l2.length c2, .func (.func 49) #[] #[.pointer (some ⟨B, 0, none⟩)]] w fun e w' => e = .returned (.bool r) ∧ Drawn0 w w' := by
  unfold impl_isConf_learn.f at h
  split at h
  · rename_i hl
    obtain rfl := Option.some.inj h
    refine (containsFunc.calls 49 _ _ (enters_of Try.func49 (by kernel_rfl) rfl) A2 c2 l2 w hr2 hl.2.2 (isConf1.pred B A0 c0 l0 A1 c1 l1 w hr0 hc0 hl.1 hr1 hc1 hl.2.1 hb0 hb1)).mono ?_
    rintro e w' ⟨rfl, q, rfl⟩
    exact ⟨rfl, ⟨q, rfl⟩⟩
  exact absurd h (by simp)
/-- Cells behind the row's elements are written: the row stays. -/
theorem R_beyond {α : Type} {d : Kd α} {e base n c g o : Nat} {W : World} {ok : Nat → Prop} {xs : List α} (h : d.R e W base ok (.slice (some ⟨g, 0, none⟩) n c) xs) (vs : List Value) (ho : n * d.sz ≤ o) (hc : o + vs.length ≤ c * d.sz) :
    d.R e (W.setCells g o vs) base ok (.slice (some ⟨g, 0, none⟩) n c) xs := by
  have hn := (Kd.R_reads' h).1
  have hgo : some g = (Value.slice (some ⟨g, 0, none⟩) n c).ownBlock := by simp [Value.ownBlock]
  obtain ⟨hok, inner, ⟨hl, hown⟩, hr⟩ := h
  rcases hown with ⟨hv, _⟩ | ⟨g', cap', cur, hv, hb, hh, hnc, hcm, hcs, htake⟩
  · cases hv
  injection hv with ha _ hc'
  injection ha with ha
  injection ha with hg
  subst hg; subst hc'
  obtain ⟨cur', h1, h2, h3⟩ := setCells_row vs o W cur hh (by omega)
  refine ⟨hok, inner, ⟨hl, .inr ⟨g, c, cur', by rw [← hn], hb, h1, hnc, hcm, by omega, ?_⟩⟩, hr.1, fun j p hj => d.M_move (fun k hk => setCells_far vs o k (fun he => hk.2 (by rw [he]; exact hgo))) (hr.2 j p hj)⟩
  rw [← htake, h3, ← hn, List.append_assoc, List.take_append_of_le_length (by rw [List.length_take, Array.length_toList]; omega), List.take_take]
  congr 1
  omega
theorem R_there {α : Type} {d : Kd α} {e base n c g : Nat} {W : World} {ok : Nat → Prop} {xs : List α} (h : d.R e W base ok (.slice (some ⟨g, 0, none⟩) n c) xs) (j : Nat) (hj : j < c * d.sz) : (W.cell? ⟨g, j, none⟩).isSome = true ∧ W.frozen? ⟨g, j, none⟩ = false := by
  obtain ⟨hok, inner, ⟨hl, hown⟩, hr⟩ := h
  rcases hown with ⟨hv, _⟩ | ⟨g', cap', cur, hv, hb, hh, hnc, hcm, hcs, htake⟩
  · cases hv
  injection hv with ha _ hc'
  injection ha with ha
  injection ha with hg
  subst hg; subst hc'
  refine ⟨?_, Zn hh j⟩
  rw [blk_cell hh j, Array.getElem?_eq_getElem (by omega)]
  rfl
theorem R_cap {α : Type} {d : Kd α} {e base n c g : Nat} {W : World} {ok : Nat → Prop} {xs : List α} (h : d.R e W base ok (.slice (some ⟨g, 0, none⟩) n c) xs) : c ≤ 9223372036854775807 := by
  obtain ⟨hok, inner, ⟨hl, hown⟩, hr⟩ := h
  rcases hown with ⟨hv, _⟩ | ⟨g', cap', cur, hv, hb, hh, hnc, hcm, hcs, htake⟩
  · cases hv
  injection hv with ha _ hc'
  subst hc'
  exact hcm
theorem below_setCells {g : Nat} {a : World} (hg : a.heap.size ≤ g) : ∀ (vs : List Value) (o : Nat) {w : World}, Below a.heap.size a w → Below a.heap.size a (w.setCells g o vs)
  | [], _, _, hb => hb
  | _ :: r, o, _, hb => below_setCells hg r (o + 1) (below_set hb hg)
theorem zeroedI (W : World) (g o n c ty : Nat) (hc : ∀ j, j < n → (W.cell? ⟨g, o + j, none⟩).isSome = true ∧ W.frozen? ⟨g, o + j, none⟩ = false) :
    (Builtin.clear_ #[22] ty #[.slice (some ⟨g, o, none⟩) n c]).run Try.prog W = .ok (.tuple #[]) (W.setCells g o (List.replicate n (.int .i64 0))) := by
  have hst := run_storeCells_cells (P := Try.prog) g o (List.replicate n (.int .i64 0)) 0 W (fun j hj => by rw [Nat.add_zero]; exact (hc j (by simpa using hj)).1) (fun j hj => by rw [Nat.add_zero]; exact (hc j (by simpa using hj)).2) (by intro v hv; rw [List.eq_of_mem_replicate hv]; rfl)
  rw [Nat.add_zero] at hst
  have hz : (Builtin.zeroCells (Value.int .i64 0).cells n).toList = List.replicate n (.int .i64 0) := by
    refine List.eq_replicate_iff.2 ⟨by simp [Builtin.zeroCells, Value.cells], fun b hb => ?_⟩
    simp [Builtin.zeroCells, Value.cells] at hb
    obtain ⟨a, _, rfl⟩ := hb
    simp [Nat.mod_one]
  cases n with
  | zero => simp [Builtin.clear_, run_underlying Try.underlying22]; rfl
  | succ n => simp [Builtin.clear_, run_underlying Try.underlying22, Try.zeroValue3, hz, hst]
theorem idxM_neg (p : Int → Bool) : ∀ (l : List Int) (i : Int), 0 ≤ i → idxM p l i = -1 → l.filter (fun x => !p x) = l
  | [], _, _, _ => rfl
  | x :: t, i, hi, h => by
    unfold idxM at h
    cases q : p x with
    | true => rw [q, if_pos rfl] at h; omega
    | false =>
      rw [q, if_neg (by decide)] at h
      rw [List.filter_cons_of_pos (by rw [q]; rfl), idxM_neg p t (i + 1) (by omega) h]
theorem idxM_at (p : Int → Bool) : ∀ (l : List Int) (i : Int), 0 ≤ i → idxM p l i ≠ -1 → ∃ (n : Nat) (h : n < l.length), idxM p l i = i + n ∧ p l[n] = true ∧ (l.take n).filter (fun x => !p x) = l.take n
  | [], _, _, h => absurd rfl h
  | x :: t, i, hi, h => by
    unfold idxM at h ⊢
    cases q : p x with
    | true => exact ⟨0, by simp, by simp, q, rfl⟩
    | false =>
      rw [q, if_neg (by decide)] at h
      obtain ⟨n, hn, e, h1, h2⟩ := idxM_at p t (i + 1) (by omega) h
      refine ⟨n + 1, by simpa using hn, by rw [if_neg (by decide), e]; omega, by simpa using h1, ?_⟩
      rw [List.take_succ_cons, List.filter_cons_of_pos (by rw [q]; rfl), h2]
theorem nxtD (i n : Nat) (h : i < n) (hn : n ≤ 9223372036854775807) : wrap64 ((i : Int) + 1) = ((i + 1 : Nat) : Int) := by rw [w64 (by omega) (by omega)]; omega
theorem fil_step (p : Int → Bool) (l : List Int) (j : Nat) (hlt : j < l.length) (b : Bool) (hb : p l[j] = b) : (l.take (j + 1)).filter (fun x => !p x) = (l.take j).filter (fun x => !p x) ++ if b = true then [] else [l[j]] := by
  rw [List.take_add_one, List.filter_append, List.getElem?_eq_getElem hlt]
  congr 1
  show List.filter _ [l[j]] = _
  rw [List.filter_cons, hb]
  cases b <;> rfl
theorem drop_step (xs l : List Int) (j : Nat) (h : xs.drop j = l.drop j) : xs.drop (j + 1) = l.drop (j + 1) := by
  have := congrArg (fun z => z.drop 1) h
  simp only [List.drop_drop] at this
  exact this
set_option maxHeartbeats 8000000 in
set_option maxRecDepth 100000 in
theorem sDeleteFunc.calls (g0 : Nat) (lb : Array Value) (p : Int → Bool) (eg : ∀ args w, (callFunc g0 args).run Try.prog w = .ok (.enter g0 args) w) (ok : Nat → Prop) (v : Value) (l : List Int) (w0 w : World) (hB : Below w0.heap.size w0 w) (ho : Kd.R (Kd.int .i64) 3 w w0.heap.size ok v l) (hl : l.length ≤ 9223372036854775807)
    (hp : ∀ w' : World, Kept w w' (fun k => some k = v.ownBlock) → Below w0.heap.size w0 w' → PredD g0 lb p w') :
    Calls Try.prog 53 #[v, .func (.func g0) #[] lb] w fun e w' => ∃ v' : Value, e = .returned v' ∧ Kd.R (Kd.int .i64) 3 w' w0.heap.size ok v' (l.filter fun x => !p x) ∧ Below w0.heap.size w0 w' ∧ Kept w w' (fun k => some k = v.ownBlock) := by
  obtain ⟨A, c, rfl⟩ := Kd.R_slice ho
  have hidx := indexFunc.calls g0 lb p eg A c l w (Kd.R_reads' ho).2.2 hl (hp w (Kept.of_below (Below.refl w.heap.size w) _) hB)
  have HX := Zh hidx
  have HP := Zh hp
  have HO := Zh ho
  have HB := Zh hB
  clear hidx hp ho hB
  go_enter Try.func53, Try.ntmps53
  have e6 : ∀ args w, (callFunc 55 args).run Try.prog w = .ok (.enter 55 args) w := enters_of Try.func55 (by kernel_rfl) rfl
  by_cases hi : idxM p l 0 = -1
  · have hf := idxM_neg p l 0 (by omega) hi
    rw [hi] at HX
    have hx := HX.out
    clear HX
    go_wp2_with (go_at_fn 55; refine hx.mono ?_; rintro e w' ⟨rfl, q, rfl⟩)
    go_ret
    rw [hf]
    exact ⟨_, rfl, Kd.R_drewN HO.out q, pw_below_drewN HB.out q, Kept.of_below (pw_below_drewN (Below.refl _ _) q) _⟩
  obtain ⟨n0, hn0, e0, hp0, hf0⟩ := idxM_at p l 0 (by omega) hi
  rw [Int.zero_add] at e0
  rw [e0] at HX
  have hx := HX.out
  clear HX
  obtain ⟨g, cg, hv, hbg, hgw, _⟩ := Kd.R_form HO.out (by omega)
  injection hv with hv1 hv2 hv3
  subst hv1
  subst hv3
  have hcap := R_cap HO.out
  have hlc := (Kd.R_reads' HO.out).2.1
  have hn1 : ((n0 : Int) == -1) = false := by rw [beq_eq_false_iff_ne]; omega
  have HI := Zh hp0
  have HF := Zh hf0
  clear hv2 hi hp0 hf0 e0
  go_wp2_with (go_at_fn 55; refine hx.mono ?_; rintro e w' ⟨rfl, q, rfl⟩)
  clear hx
  go_loopg [5, 6] l.length (fun gg v5 v6 w' => ∃ (i j : Nat) (xs : List Int), i < j ∧ j ≤ l.length ∧ l.length - j ≤ gg ∧ v5 = .int .i64 i ∧ v6 = .int .i64 j ∧ xs.length = l.length ∧ Aside0 (xs.take i = (l.take j).filter fun x => !p x) ∧ Aside0 (xs.drop j = l.drop j) ∧ Aside0 (Kd.R (Kd.int .i64) 3 w' w0.heap.size ok (.slice (some ⟨g, 0, none⟩) l.length c) xs) ∧ Aside0 (Below w0.heap.size w0 w') ∧ Aside0 (Kept w w' (fun k => some k = (Value.slice (some ⟨g, 0, none⟩) l.length c).ownBlock)))
  case atStart =>
    refine ⟨n0, n0 + 1, l, by omega, by omega, by omega, rfl, ?_, rfl, ⟨?_⟩, ⟨rfl⟩, ⟨Kd.R_drewN HO.out q⟩, ⟨pw_below_drewN HB.out q⟩, ⟨Kept.of_below (pw_below_drewN (Below.refl _ _) q) _⟩⟩
    · go_num
    rw [List.take_add_one, List.filter_append, HF.out, List.getElem?_eq_getElem hn0]
    simp [HI.out]
  case round =>
    clear HO HB HI HF hn1
    obtain ⟨i, j, xs, hij, hj, hg, rfl, rfl, hxl, HT, HD, HR, HB, HK⟩ := hrel
    by_cases hlt : j < l.length
    · have hltz : (j : Int) < (l.length : Int) := by omega
      have hxj : xs.getD j 0 = l[j] := by
        have := congrArg (fun z => z[0]?) HD.out
        simp only [List.getElem?_drop, Nat.add_zero] at this
        rw [List.getD_eq_getElem?_getD, this, List.getElem?_eq_getElem hlt]
        rfl
      have hcell := (Kd.R_celln 0 HR.out (j : Int) (by omega) (by omega)).1
      rw [Int.toNat_natCast, show rdOf 0 xs (j : Int) = l[j] from by rw [← hxj]; simp [rdOf]] at hcell
      have hcellb : wr.cell? ⟨g, j, none⟩ = some (.int .i64 l[j]) := hcell
      clear hcell
      have hcall := HP.out _ HK.out HB.out 0 l[j]
      rw [World.drewN_zero] at hcall
      have ht : ∀ b : Bool, p l[j] = b → (l.take (j + 1)).filter (fun x => !p x) = (l.take j).filter (fun x => !p x) ++ if b = true then [] else [l[j]] := fun b hb => fil_step p l j hlt b hb
      have hd : xs.drop (j + 1) = l.drop (j + 1) := drop_step xs l j HD.out
      have HT2 := Zh ht
      have HD2 := Zh hd
      clear hd ht hxj
      have hlj : l[j] = l[j] := rfl
      generalize l[j] = y at hcellb hcall HT2
      cases hq : p y with
      | true =>
        rw [hq] at hcall
        go_wp2_with (go_at_fn g0; refine hcall.mono ?_; rintro e w' ⟨rfl, q', rfl⟩)
        go_roundg (l.length - (j + 1))
        case measure => omega
        case rel => exact ⟨i, j + 1, xs, by omega, by omega, by omega, rfl, by go_num, hxl, ⟨by rw [HT.out, HT2.out true hq, if_pos rfl, List.append_nil]⟩, HD2, ⟨Kd.R_drewN HR.out q'⟩, ⟨pw_below_drewN HB.out q'⟩, ⟨Kept.drewN HK.out q'⟩⟩
      | false =>
        rw [hq] at hcall
        have hilt : (i : Int) < (l.length : Int) := by omega
        have hfr := fun q' => (Kd.R_celln 0 (Kd.R_drewN HR.out q') (i : Int) (by omega) (by omega))
        have HFR := Zh hfr
        clear hfr
        go_wp2_with (go_at_fn g0; refine hcall.mono ?_; rintro e w' ⟨rfl, q', rfl⟩; obtain ⟨hce, hfe⟩ := HFR.out q'; rw [Int.toNat_natCast] at hce hfe)
        have HR2 := Kd.R_putn (Kd.R_drewN HR.out q') (i : Int) y
        rw [Int.toNat_natCast] at HR2
        go_roundg (l.length - (j + 1))
        case measure => omega
        case rel =>
          refine ⟨i + 1, j + 1, xs.set i y, by omega, by omega, by omega, by go_num, by go_num, by simpa using hxl, ⟨?_⟩, ⟨?_⟩, ⟨HR2⟩, ⟨below_set (pw_below_drewN HB.out q') hbg⟩, ⟨?_⟩⟩
          · rw [HT2.out false hq, ← HT.out, List.take_add_one, List.getElem?_set_self (by omega), List.take_set_of_le (Nat.le_refl _)]
            rfl
          · rw [List.drop_set_of_lt (by omega)]
            exact HD2.out
          have hk2 := Kept.drewN HK.out q'
          refine ⟨by rw [show ((wr.drewN q').setCell ⟨g, i, none⟩ (.int .i64 y)).heap.size = (wr.drewN q').heap.size by simp [World.setCell]]; exact hk2.1, fun k hk hn => ?_⟩
          rw [Below.heap_setCell _ _ _ k (fun he => hn (by rw [he]; simp [Value.ownBlock]))]
          exact hk2.2 k hk hn
    have hltz : ¬ (j : Int) < (l.length : Int) := by omega
    have hjl : j = l.length := by omega
    subst hjl
    have hth := fun j (hj : j < c * 1) => R_there HR.out j hj
    have HC := Zh (fun ty => zeroedI wr g i (l.length - i) (c - i) ty (fun j hj => hth _ (by omega)))
    have HT1 := HT.out
    rw [List.take_length] at HT1
    have hR1 := R_beyond (Kd.R_take HR.out (m := i) (by omega)) (List.replicate (l.length - i) (.int .i64 0)) (o := i) (by show i * 1 ≤ i; omega) (by rw [List.length_replicate]; show i + (l.length - i) ≤ c * 1; omega)
    rw [HT1] at hR1
    have HR1 := Zh hR1
    have hic : (c = i) = False := eq_false (by omega)
    have hci : i ≤ c := by omega
    have hil : (i : Int) ≤ (l.length : Int) := by omega
    have hi0 : (0 : Int) ≤ (i : Int) := by omega
    have hcl := HC.out
    clear hth HC HT1 hR1
    go_wp2_with fail
    go_ret
    refine ⟨_, rfl, HR1.out, below_setCells hbg _ _ HB.out, ?_⟩
    refine ⟨by rw [(setCells_same g _ _ wr).2.2.2]; exact HK.out.1, fun k hk hn => ?_⟩
    have hkg : k ≠ g := fun he => hn (by rw [he]; simp [Value.ownBlock])
    rw [setCells_far _ _ k hkg]
    exact HK.out.2 k hk hn
end Go.Proofs.Ytedlgllhaboljaa.F

namespace Go.Proofs.Ytedlgllhaboljaa.LW
set_option linter.unusedVariables false
set_option linter.unusedSimpArgs false
open Go.RowKit Go.Proofs.YtedlgllhaboljaaW.PrintWords Go.Proofs.YtedlgllhaboljaaW.PrintLast Go.Proofs.YtedlgllhaboljaaW.PrintMore
structure It where
  P : World → Prop
  F : Nat → Prop
  mv : ∀ w w1 : World, (∀ k, F k → w1.heap[k]? = w.heap[k]?) → P w → P w1
def Its (w : World) (B n : Nat) : List It → Prop
  | [] => True
  | i :: r => (∀ k, i.F k → B ≤ k ∧ k < n) ∧ i.P w ∧ (∀ j, j ∈ r → ∀ k, i.F k → ¬ j.F k) ∧ Its w B n r
variable {w w0 w1 : World} {B B' n m g t e : Nat} {l : List It} {i : It} {cs : Array Value} {α : Type} {d : Kd α} {v : Value} {xs ys : List α} {F S ok : Nat → Prop}
theorem Its.mono (h : Its w B n l) (hB : B' ≤ B) (hn : n ≤ m) : Its w B' m l := by
  induction l with
  | nil => trivial
  | cons i r ih => exact ⟨fun k hk => ⟨Nat.le_trans hB (h.1 k hk).1, Nat.lt_of_lt_of_le (h.1 k hk).2 hn⟩, h.2.1, h.2.2.1, ih h.2.2.2⟩
theorem Its.all (h : Its w B n l) : ∀ j, j ∈ l → j.P w ∧ ∀ k, j.F k → B ≤ k ∧ k < n := by
  induction l with
  | nil => intro j hj; cases hj
  | cons i r ih =>
    intro j hj
    cases hj with
    | head => exact ⟨h.2.1, h.1⟩
    | tail _ hj => exact ih h.2.2.2 j hj
theorem Its.move (h : Its w B n l) (hm : ∀ j, j ∈ l → ∀ k, j.F k → w1.heap[k]? = w.heap[k]?) : Its w1 B n l := by
  induction l with
  | nil => trivial
  | cons i r ih => exact ⟨h.1, i.mv w w1 (hm i List.mem_cons_self) h.2.1, h.2.2.1, ih h.2.2.2 (fun j hj => hm j (List.mem_cons_of_mem _ hj))⟩
theorem Its.app {l' : List It} (h' : Its w B' n l') (h : Its w B B' l) (hB : B ≤ B') (hn : B' ≤ n) : Its w B n (l' ++ l) := by
  induction l' with
  | nil => exact h.mono (Nat.le_refl _) hn
  | cons i r ih =>
    refine ⟨fun k hk => ⟨Nat.le_trans hB (h'.1 k hk).1, (h'.1 k hk).2⟩, h'.2.1, fun j hj k hk => ?_, ih h'.2.2.2⟩
    rcases List.mem_append.1 hj with hj | hj
    · exact h'.2.2.1 j hj k hk
    intro hf
    have h1 := (h'.1 k hk).1
    have h2 := ((h.all j hj).2 k hf).2
    omega
/-- One of them is written: the others stay. -/
theorem Its.write (h : Its w B n l) (i' : It) (hF : ∀ k, i'.F k → i.F k) (hP : i'.P w1) (hk : ∀ k, k < n → ¬ i.F k → w1.heap[k]? = w.heap[k]?) : ∀ q, l[q]? = some i → Its w1 B n (l.set q i') := by
  induction l with
  | nil => intro q hq; simp at hq
  | cons j r ih =>
    intro q hq
    cases q with
    | zero =>
      simp only [List.getElem?_cons_zero, Option.some.injEq] at hq
      subst hq
      exact ⟨fun k hk' => h.1 k (hF k hk'), hP, fun x hx k hk' => h.2.2.1 x hx k (hF k hk'), h.2.2.2.move (fun x hx k hk' => hk k ((h.2.2.2.all x hx).2 k hk').2 (fun hi => h.2.2.1 x hx k hi hk'))⟩
    | succ q =>
      rw [List.getElem?_cons_succ] at hq
      have hm := List.mem_of_getElem? hq
      refine ⟨h.1, j.mv w w1 (fun k hk' => hk k (h.1 k hk').2 (fun hi => h.2.2.1 i hm k hk' hi)) h.2.1, fun x hx k hk' => ?_, ih h.2.2.2 q hq⟩
      rcases List.mem_or_eq_of_mem_set hx with hx | rfl
      · exact h.2.2.1 x hx k hk'
      exact fun hi => h.2.2.1 i hm k hk' (hF k hi)
/-- A variable in memory. -/
def box (g : Nat) (cs : Array Value) (t : Nat) : It := ⟨fun w => w.heap[g]? = some (.cells cs t (0, 0)), fun k => k = g, fun _ _ hk h => (hk g rfl).trans h⟩
/-- A row of the call's own. -/
def row {α : Type} (d : Kd α) (e B : Nat) (v : Value) (xs : List α) (F : Nat → Prop) : It := ⟨fun w => Kd.S d e w B F v xs, F, fun _ _ hk h => Kd.S_move h hk⟩
/-- What the law holds at w; what stood at its begin (w0) stands. -/
structure St (w0 w : World) (l : List It) : Prop where
  b : Below w0.heap.size w0 w
  i : Its w w0.heap.size w.heap.size l
theorem St.start (w : World) : St w w [] := ⟨Below.refl _ _, trivial⟩
theorem St.step (h : St w0 w l) (hb : Below w.heap.size w w1) : St w0 w1 l :=
  ⟨below_step h.b hb, (h.i.move (fun j hj k hk => hb.block k ((h.i.all j hj).2 k hk).2)).mono (Nat.le_refl _) hb.size⟩
theorem St.drew (h : St w0 w l) : St w0 w.drew l := h.step (below_drew (Below.refl _ _))
theorem St.add (h : St w0 w l) (hb : Below w.heap.size w w1) {l' : List It} (hn : Its w1 w.heap.size w1.heap.size l') : St w0 w1 (l' ++ l) :=
  ⟨below_step h.b hb, hn.app (h.i.move (fun j hj k hk => hb.block k ((h.i.all j hj).2 k hk).2)) h.b.size hb.size⟩
theorem St.box (h : St w0 w l) (hg : g = w.heap.size) (hx : w1.heap[g]? = some (.cells cs t (0, 0))) (hb : Below w.heap.size w w1) : St w0 w1 (box g cs t :: l) :=
  h.add hb (l' := [LW.box g cs t]) ⟨fun k hk => by have : k = g := hk; subst this; exact ⟨by omega, blk_lt hx⟩, hx, fun j hj => (List.not_mem_nil hj).elim, trivial⟩
theorem St.alloc (h : St w0 w l) (cs : Array Value) (t : Nat) (hg : g = w.heap.size) : St w0 (w.alloc (.cells cs t)) (LW.box g cs t :: l) := h.box hg (by subst hg; simpa using blk_new w (.cells cs t)) (below_alloc (Below.refl _ _) _)
theorem St.lt (h : St w0 w l) (q : Nat) (hq : l[q]? = some (LW.box g cs t)) : g < w.heap.size := blk_lt (h.i.all _ (List.mem_of_getElem? hq)).1
theorem S_between (h : Kd.S d e w1 w.heap.size ok v xs) (h0 : w0.heap.size ≤ w.heap.size) : Kd.S d e w1 w0.heap.size (fun k => w.heap.size ≤ k ∧ k < w1.heap.size) v xs := Kd.S_lower (Kd.S_mono (Kd.S_bound h) (fun k hk => ⟨hk.2.1, hk.2.2.1⟩)) h0
theorem St.row (h : St w0 w l) (hb : Below w.heap.size w w1) (ho : Kd.S d e w1 w.heap.size ok v xs) : St w0 w1 (row d e w0.heap.size v xs (fun k => w.heap.size ≤ k ∧ k < w1.heap.size) :: l) :=
  h.add hb (l' := [LW.row d e w0.heap.size v xs (fun k => w.heap.size ≤ k ∧ k < w1.heap.size)]) ⟨fun k hk => hk, S_between ho h.b.size, fun j hj => (List.not_mem_nil hj).elim, trivial⟩
/-- A flat row (its elements lead to nothing) is told so, too. -/
theorem S_flat (hE : d.E = []) (h : d.R e w B ok v xs) : Kd.S d e w B ok v xs := by
  obtain ⟨h0, inner, ho, hr⟩ := h
  refine ⟨fun _ => 0, h0, inner, by rw [List.length_zipIdx]; exact ho, by rw [List.length_zipIdx]; exact hr.1, fun j p hj => ?_⟩
  rw [List.getElem?_zipIdx, Nat.zero_add] at hj
  obtain ⟨x, hx, rfl⟩ := Option.map_eq_some_iff.1 hj
  refine d.M_mono (fun k hk => ?_) (d.M_bound (hr.2 j x hx))
  obtain ⟨_, _, _, q, hq, _⟩ := hk
  rw [hE] at hq
  cases hq
theorem St.rowR (h : St w0 w l) (hE : d.E = []) (hb : Below w.heap.size w w1) (ho : d.R e w1 w.heap.size ok v xs) : St w0 w1 (LW.row d e w0.heap.size v xs (fun k => w.heap.size ≤ k ∧ k < w1.heap.size) :: l) := h.row hb (S_flat hE ho)
/-- Two flat rows of different types that one call made. -/
theorem St.rows2 {β : Type} {d' : Kd β} {e' : Nat} {v' : Value} {ys : List β} {ok' : Nat → Prop} (h : St w0 w l) (hE : d.E = []) (hE' : d'.E = []) (hne : e ≠ e') (hb : Below w.heap.size w w1) (ho : d.R e w1 w.heap.size ok v xs) (ho' : d'.R e' w1 w.heap.size ok' v' ys) :
    St w0 w1 (LW.row d e w0.heap.size v xs (fun k => some k = v.ownBlock) :: LW.row d' e' w0.heap.size v' ys (fun k => some k = v'.ownBlock) :: l) :=
  h.add hb (l' := [_, _]) ⟨fun k hk => ⟨Kd.R_base ho k hk.symm, Kd.R_lt ho k hk.symm⟩, S_flat hE (Kd.R_lower (Kd.R_tight hE ho) h.b.size), fun j hj k hk hf => by
      rcases List.mem_singleton.1 hj with rfl
      obtain ⟨c1, h1⟩ := Kd.R_typed ho k hk.symm
      obtain ⟨c2, h2⟩ := Kd.R_typed ho' k (show v'.ownBlock = some k from Eq.symm hf)
      rw [h1] at h2
      injection h2 with h2
      injection h2 with _ h2
      exact hne h2, fun k hk => ⟨Kd.R_base ho' k hk.symm, Kd.R_lt ho' k hk.symm⟩, S_flat hE' (Kd.R_lower (Kd.R_tight hE' ho') h.b.size), fun j hj => (List.not_mem_nil hj).elim, trivial⟩
theorem setCell_size (w : World) (p : Addr) (u : Value) : (w.setCell p u).heap.size = w.heap.size := by simp [World.setCell]
/-- A store into a variable. -/
theorem St.set (h : St w0 w l) (q : Nat) (hq : l[q]? = some (LW.box g cs t)) (j : Nat) (u : Value) : St w0 (w.setCell ⟨g, j, none⟩ u) (l.set q (LW.box g (cs.setIfInBounds j u) t)) := by
  have hx := h.i.all _ (List.mem_of_getElem? hq)
  refine ⟨below_set h.b (hx.2 g rfl).1, ?_⟩
  rw [setCell_size]
  exact h.i.write (i := LW.box g cs t) (LW.box g (cs.setIfInBounds j u) t) (fun k hk => hk) (blk_set hx.1 j u) (fun k _ hk => Below.heap_setCell w ⟨g, j, none⟩ u k hk) q hq
theorem St.cell (h : St w0 w l) (q : Nat) (hq : l[q]? = some (LW.box g cs t)) (j : Nat) {u : Value} (hu : cs[j]? = some u) : w.cell? ⟨g, j, none⟩ = some u := (blk_cell (h.i.all _ (List.mem_of_getElem? hq)).1 j).trans hu
theorem St.blk (h : St w0 w l) (q : Nat) (hq : l[q]? = some (LW.box g cs t)) : w.heap[g]? = some (.cells cs t (0, 0)) := (h.i.all _ (List.mem_of_getElem? hq)).1
theorem St.frozen (h : St w0 w l) (q : Nat) (hq : l[q]? = some (LW.box g cs t)) (j : Nat) : w.frozen? ⟨g, j, none⟩ = false := blk_frozen (h.i.all _ (List.mem_of_getElem? hq)).1 j
theorem St.own (h : St w0 w l) (q : Nat) (hq : l[q]? = some (LW.row d e B v xs F)) : Kd.S d e w B F v xs := (h.i.all _ (List.mem_of_getElem? hq)).1
theorem St.reads {A : Option Addr} {m c : Nat} (h : St w0 w l) (q : Nat) (hq : l[q]? = some (LW.row d e B (.slice A m c) xs F)) : m = xs.length ∧ m ≤ c ∧ d.C w A xs.length xs := Kd.S_reads' (h.own q hq)
/-- A row has been written. -/
theorem St.write (h : St w0 w l) (q : Nat) (hq : l[q]? = some (LW.row d e w0.heap.size v xs F)) (hS : Kd.S d e w1 w0.heap.size F v ys) (hB : Below w0.heap.size w0 w1) (hk : Kept w w1 F) : St w0 w1 (l.set q (LW.row d e w0.heap.size v ys F)) := by
  have hx := h.i.all _ (List.mem_of_getElem? hq)
  exact ⟨hB, (h.i.write (i := LW.row d e w0.heap.size v xs F) (LW.row d e w0.heap.size v ys F) (fun k hk => hk) hS (fun k hlt hn => hk.2 k hlt hn) q hq).mono (Nat.le_refl _) hk.1⟩
/-- A row has been written, and its value may be another. -/
theorem St.writeV {v' : Value} (h : St w0 w l) (q : Nat) (hq : l[q]? = some (LW.row d e w0.heap.size v xs F)) (hS : Kd.S d e w1 w0.heap.size F v' ys) (hB : Below w0.heap.size w0 w1) (hk : Kept w w1 F) : St w0 w1 (l.set q (LW.row d e w0.heap.size v' ys F)) := by
  have hx := h.i.all _ (List.mem_of_getElem? hq)
  exact ⟨hB, (h.i.write (i := LW.row d e w0.heap.size v xs F) (LW.row d e w0.heap.size v' ys F) (fun k hk => hk) hS (fun k hlt hn => hk.2 k hlt hn) q hq).mono (Nat.le_refl _) hk.1⟩
theorem St.writeR (h : St w0 w l) (hE : d.E = []) (q : Nat) (hq : l[q]? = some (LW.row d e w0.heap.size v xs F)) (hR : d.R e w1 w0.heap.size ok v ys) (hB : Below w0.heap.size w0 w1) (hk : Kept w w1 F) : St w0 w1 (l.set q (LW.row d e w0.heap.size v ys F)) :=
  h.write q hq (S_flat hE (Kd.R_mono (Kd.R_tight hE hR) (fun k hk' => (Kd.S_R (h.own q hq)).1 k hk'.symm))) hB hk
theorem Its.upd : ∀ {l l' : List It}, Its w B n l → l'.length = l.length → (∀ (q : Nat) (i i' : It), l[q]? = some i → l'[q]? = some i' → (∀ k, i'.F k → i.F k) ∧ i'.P w1) → Its w1 B n l'
  | [], l', _, hl, _ => by
    have : l' = [] := List.eq_nil_of_length_eq_zero hl
    subst this
    trivial
  | i :: r, [], _, hl, _ => by cases hl
  | i :: r, i' :: r', h, hl, hp => by
    have h0 := hp 0 i i' rfl rfl
    refine ⟨fun k hk => h.1 k (h0.1 k hk), h0.2, fun j hj k hk hf => ?_, Its.upd h.2.2.2 (Nat.succ.inj hl) (fun q a b ha hb => hp (q + 1) a b (by rw [List.getElem?_cons_succ]; exact ha) (by rw [List.getElem?_cons_succ]; exact hb))⟩
    obtain ⟨q, hq, rfl⟩ := List.mem_iff_getElem.1 hj
    have hl' : r'.length = r.length := Nat.succ.inj hl
    have hqr : q < r.length := by omega
    have := hp (q + 1) r[q] r'[q] (by rw [List.getElem?_cons_succ, List.getElem?_eq_getElem hqr]) (by rw [List.getElem?_cons_succ, List.getElem?_eq_getElem hq])
    exact h.2.2.1 r[q] (List.getElem_mem hqr) k (h0.1 k hk) (this.1 k hf)
theorem Its.disj : ∀ {l : List It}, Its w B n l → ∀ (p q : Nat) (i j : It), p ≠ q → l[p]? = some i → l[q]? = some j → ∀ k, i.F k → ¬ j.F k
  | [], _, p, q, i, j, _, hi, _ => by simp at hi
  | a :: r, h, 0, 0, i, j, hn, _, _ => absurd rfl hn
  | a :: r, h, 0, q + 1, i, j, hn, hi, hj => by
    rw [List.getElem?_cons_succ] at hj
    simp only [List.getElem?_cons_zero, Option.some.injEq] at hi
    subst hi
    exact h.2.2.1 j (List.mem_of_getElem? hj)
  | a :: r, h, p + 1, 0, i, j, hn, hi, hj => by
    rw [List.getElem?_cons_succ] at hi
    simp only [List.getElem?_cons_zero, Option.some.injEq] at hj
    subst hj
    exact fun k hk hf => h.2.2.1 i (List.mem_of_getElem? hi) k hf hk
  | a :: r, h, p + 1, q + 1, i, j, hn, hi, hj => by
    rw [List.getElem?_cons_succ] at hi hj
    exact Its.disj h.2.2.2 p q i j (by omega) hi hj
/-- Two variables lie in two blocks. -/
theorem St.ne {g' t' : Nat} {cs' : Array Value} (h : St w0 w l) (p q : Nat) (hn : p ≠ q) (hp : l[p]? = some (LW.box g cs t)) (hq : l[q]? = some (LW.box g' cs' t')) : g ≠ g' := fun he => Its.disj h.i p q _ _ hn hp hq g rfl he
/-- Two flat rows have been written. -/
theorem St.write2 {β : Type} {d' : Kd β} {e' : Nat} {v' : Value} {zs us : List β} {F' ok' : Nat → Prop} (h : St w0 w l) (hE : d.E = []) (hE' : d'.E = []) (q q' : Nat) (hne : q ≠ q') (hq : l[q]? = some (LW.row d e w0.heap.size v xs F)) (hq' : l[q']? = some (LW.row d' e' w0.heap.size v' zs F'))
    (hR : d.R e w1 w0.heap.size ok v ys) (hR' : d'.R e' w1 w0.heap.size ok' v' us) (hB : Below w0.heap.size w0 w1) (hk : Kept w w1 (fun k => F k ∨ F' k)) : St w0 w1 ((l.set q (LW.row d e w0.heap.size v ys F)).set q' (LW.row d' e' w0.heap.size v' us F')) := by
  have s1 : Kd.S d e w1 w0.heap.size F v ys := S_flat hE (Kd.R_mono (Kd.R_tight hE hR) (fun k hk' => (Kd.S_R (h.own q hq)).1 k hk'.symm))
  have s2 : Kd.S d' e' w1 w0.heap.size F' v' us := S_flat hE' (Kd.R_mono (Kd.R_tight hE' hR') (fun k hk' => (Kd.S_R (h.own q' hq')).1 k hk'.symm))
  refine ⟨hB, (Its.upd h.i (by simp) (fun p i i' hi hi' => ?_)).mono (Nat.le_refl _) hk.1⟩
  have hpl : p < l.length := (List.getElem?_eq_some_iff.1 hi).1
  by_cases e2 : p = q'
  · subst e2
    rw [List.getElem?_set_self (by simpa using hpl)] at hi'
    have hi' := Option.some.inj hi'
    subst hi'
    rw [hq'] at hi
    have hi := Option.some.inj hi
    subst hi
    exact ⟨fun k hk => hk, s2⟩
  rw [List.getElem?_set_ne (Ne.symm e2)] at hi'
  by_cases e1 : p = q
  · subst e1
    rw [List.getElem?_set_self hpl] at hi'
    have hi' := Option.some.inj hi'
    subst hi'
    rw [hq] at hi
    have hi := Option.some.inj hi
    subst hi
    exact ⟨fun k hk => hk, s1⟩
  rw [List.getElem?_set_ne (Ne.symm e1), hi] at hi'
  have hi' := Option.some.inj hi'
  subst hi'
  have ha := h.i.all _ (List.mem_of_getElem? hi)
  refine ⟨fun k hk => hk, i.mv w w1 (fun k hkF => hk.2 k (ha.2 k hkF).2 (fun hf => ?_)) ha.1⟩
  rcases hf with hf | hf
  · exact Its.disj h.i p q i _ e1 hi hq k hkF hf
  exact Its.disj h.i p q' i _ e2 hi hq' k hkF hf
/-- Nothing is held here (any more). -/
def gone : It := ⟨fun _ => True, fun _ => False, fun _ _ _ _ => trivial⟩
theorem Its.of : ∀ {l : List It}, (∀ (q : Nat) (i : It), l[q]? = some i → (∀ k, i.F k → B ≤ k ∧ k < n) ∧ i.P w) → (∀ (p q : Nat) (i j : It), p < q → l[p]? = some i → l[q]? = some j → ∀ k, i.F k → ¬ j.F k) → Its w B n l
  | [], _, _ => trivial
  | a :: r, h1, h2 => ⟨(h1 0 a rfl).1, (h1 0 a rfl).2, fun j hj => by
      obtain ⟨q, hq⟩ := List.mem_iff_getElem?.1 hj
      exact h2 0 (q + 1) a j (by omega) rfl (by rw [List.getElem?_cons_succ]; exact hq), Its.of (fun q i hq => h1 (q + 1) i (by rw [List.getElem?_cons_succ]; exact hq)) (fun p q i j hpq hp hq => h2 (p + 1) (q + 1) i j (by omega) (by rw [List.getElem?_cons_succ]; exact hp) (by rw [List.getElem?_cons_succ]; exact hq))⟩
/-- One of them is written and takes in what another led to. -/
theorem St.merge (h : St w0 w l) (q p : Nat) (hn : q ≠ p) {i j : It} (hq : l[q]? = some i) (hp : l[p]? = some j) (i' : It) (hF : ∀ k, i'.F k → i.F k ∨ j.F k) (hP : i'.P w1) (hB : Below w0.heap.size w0 w1) (hkp : Kept w w1 i.F) : St w0 w1 ((l.set q i').set p gone) := by
  have hql : q < l.length := (List.getElem?_eq_some_iff.1 hq).1
  have hpl : p < l.length := (List.getElem?_eq_some_iff.1 hp).1
  have hI := h.i.all i (List.mem_of_getElem? hq)
  have hJ := h.i.all j (List.mem_of_getElem? hp)
  have look : ∀ (m : Nat) (x : It), ((l.set q i').set p gone)[m]? = some x → (m = p ∧ x = gone) ∨ (m ≠ p ∧ m = q ∧ x = i') ∨ (m ≠ p ∧ m ≠ q ∧ l[m]? = some x) := by
    intro m x hm
    by_cases e1 : m = p
    · subst e1
      rw [List.getElem?_set_self (by simpa using hpl)] at hm
      exact .inl ⟨rfl, (Option.some.inj hm).symm⟩
    rw [List.getElem?_set_ne (Ne.symm e1)] at hm
    by_cases e2 : m = q
    · subst e2
      rw [List.getElem?_set_self hql] at hm
      exact .inr (.inl ⟨e1, rfl, (Option.some.inj hm).symm⟩)
    rw [List.getElem?_set_ne (Ne.symm e2)] at hm
    exact .inr (.inr ⟨e1, e2, hm⟩)
  have apart : ∀ (m : Nat) (x : It), m ≠ p → m ≠ q → l[m]? = some x → ∀ k, x.F k → ¬ i.F k ∧ ¬ j.F k := fun m x e1 e2 hm k hk => ⟨Its.disj h.i m q x i e2 hm hq k hk, Its.disj h.i m p x j e1 hm hp k hk⟩
  refine ⟨hB, Its.of (fun m x hm0 => ?_) (fun m m' x y hlt hm0 hm0' => ?_)⟩
  · rcases look m x hm0 with ⟨_, rfl⟩ | ⟨_, _, rfl⟩ | ⟨e1, e2, hm⟩
    · exact ⟨fun k hk => hk.elim, trivial⟩
    · refine ⟨fun k hk => ?_, hP⟩
      rcases hF k hk with h2 | h2
      · exact ⟨(hI.2 k h2).1, Nat.lt_of_lt_of_le (hI.2 k h2).2 hkp.1⟩
      exact ⟨(hJ.2 k h2).1, Nat.lt_of_lt_of_le (hJ.2 k h2).2 hkp.1⟩
    have hX := h.i.all x (List.mem_of_getElem? hm)
    exact ⟨fun k hkx => ⟨(hX.2 k hkx).1, Nat.lt_of_lt_of_le (hX.2 k hkx).2 hkp.1⟩, x.mv w w1 (fun k hkx => hkp.2 k (hX.2 k hkx).2 (apart m x e1 e2 hm k hkx).1) hX.1⟩
  intro k hx hy
  rcases look m x hm0 with ⟨_, rfl⟩ | ⟨_, e, rfl⟩ | ⟨e1, e2, hm⟩
  · exact hx
  · rcases look m' y hm0' with ⟨_, rfl⟩ | ⟨_, e', rfl⟩ | ⟨e1', e2', hm'⟩
    · exact hy
    · omega
    rcases hF k hx with h2 | h2
    · exact (apart m' y e1' e2' hm' k hy).1 h2
    exact (apart m' y e1' e2' hm' k hy).2 h2
  rcases look m' y hm0' with ⟨_, rfl⟩ | ⟨_, e', rfl⟩ | ⟨e1', e2', hm'⟩
  · exact hy
  · rcases hF k hy with h2 | h2
    · exact (apart m x e1 e2 hm k hx).1 h2
    exact (apart m x e1 e2 hm k hx).2 h2
  exact Its.disj h.i m m' x y (by omega) hm hm' k hx hy
/-- A row that is only read: what it leads to is F. -/
def view {α : Type} (d : Kd α) (e B : Nat) (v : Value) (xs : List α) (F : Nat → Prop) : It := ⟨fun w => Kd.V d e w B F v xs, F, fun _ _ hk h => Kd.V_step h (fun k hk' _ => hk k hk')⟩
theorem St.viewed (h : St w0 w l) (q : Nat) (hq : l[q]? = some (LW.view d e B v xs F)) : Kd.V d e w B F v xs := (h.i.all _ (List.mem_of_getElem? hq)).1
theorem St.views {A : Option Addr} {m c : Nat} (h : St w0 w l) (q : Nat) (hq : l[q]? = some (LW.view d e B (.slice A m c) xs F)) : m = xs.length ∧ m ≤ c ∧ d.C w A xs.length xs := by
  have hv := Kd.V_reads' (h.viewed q hq)
  exact ⟨hv.1, hv.2.1, hv.1 ▸ hv.2.2⟩
/-- A call that only makes hands back what leads to one of them, and to what is new: that one is told no more. -/
theorem St.seen {β : Type} {d' : Kd β} {e' b' : Nat} {v' : Value} {ys : List β} {ok' : Nat → Prop} {j : It} (h : St w0 w l) (p : Nat) (hp : l[p]? = some j) (hb : Below w.heap.size w w1) (hN : Kd.N d' e' w1 b' ok' v' ys) (hok : ∀ k, ok' k → j.F k ∨ w.heap.size ≤ k) :
    St w0 w1 (LW.view d' e' w0.heap.size v' ys (fun k => ok' k ∧ k < w1.heap.size) :: l.set p gone) := by
  have hJ := h.i.all j (List.mem_of_getElem? hp)
  have hpl : p < l.length := (List.getElem?_eq_some_iff.1 hp).1
  have h1 : Its w1 w0.heap.size w1.heap.size (l.set p gone) := ((h.i.write (i := j) gone (fun k hk => hk.elim) trivial (fun k hlt hn => hb.block k hlt) p hp).mono (Nat.le_refl _) hb.size)
  refine ⟨below_step h.b hb, fun k hk => ⟨?_, hk.2⟩, Kd.V_bound (base := w0.heap.size) (Kd.N_V (base' := w0.heap.size) hN), fun x hx k hk hf => ?_, h1⟩
  · rcases hok k hk.1 with h2 | h2
    · exact (hJ.2 k h2).1
    exact Nat.le_trans h.b.size h2
  obtain ⟨m, hm⟩ := List.mem_iff_getElem?.1 hx
  by_cases e1 : m = p
  · subst e1
    rw [List.getElem?_set_self hpl] at hm
    have := Option.some.inj hm
    subst this
    exact hf
  rw [List.getElem?_set_ne (Ne.symm e1)] at hm
  have hX := h.i.all x (List.mem_of_getElem? hm)
  rcases hok k hk.1 with h2 | h2
  · exact Its.disj h.i m p x j e1 hm hp k hf h2
  have := (hX.2 k hf).2
  omega
end Go.Proofs.Ytedlgllhaboljaa.LW

namespace Go.Proofs.Ytedlgllhaboljaa.LW
set_option linter.unusedVariables false
set_option linter.unusedSimpArgs false
open Go.RowKit Go.Proofs.YtedlgllhaboljaaW.PrintWords Go.Proofs.YtedlgllhaboljaaW.PrintLast Go.Proofs.YtedlgllhaboljaaW.PrintMore
theorem St.rows3 {w0 w w1 : World} {l : List It} {α : Type} {d : Kd α} {e : Nat} {v1 v2 v3 : Value} {x1 x2 x3 : List α} {o1 o2 o3 : Nat → Prop} (h : St w0 w l) (hE : d.E = []) (hb : Below w.heap.size w w1)
    (h1 : d.R e w1 w.heap.size o1 v1 x1) (h2 : d.R e w1 w.heap.size o2 v2 x2) (h3 : d.R e w1 w.heap.size o3 v3 x3) (n12 : ∀ k, v1.ownBlock = some k → v2.ownBlock = some k → False) (n13 : ∀ k, v1.ownBlock = some k → v3.ownBlock = some k → False) (n23 : ∀ k, v2.ownBlock = some k → v3.ownBlock = some k → False) :
    St w0 w1 (LW.row d e w0.heap.size v1 x1 (fun k => some k = v1.ownBlock) :: LW.row d e w0.heap.size v2 x2 (fun k => some k = v2.ownBlock) :: LW.row d e w0.heap.size v3 x3 (fun k => some k = v3.ownBlock) :: l) := by
  refine h.add hb (l' := [_, _, _]) ⟨fun k hk => ⟨Kd.R_base h1 k (Eq.symm hk), Kd.R_lt h1 k (Eq.symm hk)⟩, S_flat hE (Kd.R_lower (Kd.R_tight hE h1) h.b.size), fun j hj k hk hf => ?_,
    fun k hk => ⟨Kd.R_base h2 k (Eq.symm hk), Kd.R_lt h2 k (Eq.symm hk)⟩, S_flat hE (Kd.R_lower (Kd.R_tight hE h2) h.b.size), fun j hj k hk hf => ?_,
    fun k hk => ⟨Kd.R_base h3 k (Eq.symm hk), Kd.R_lt h3 k (Eq.symm hk)⟩, S_flat hE (Kd.R_lower (Kd.R_tight hE h3) h.b.size), fun j hj => (List.not_mem_nil hj).elim, trivial⟩
  · rcases List.mem_cons.1 hj with rfl | hj
    · exact n12 k (Eq.symm hk) (Eq.symm hf)
    rcases List.mem_singleton.1 hj with rfl
    exact n13 k (Eq.symm hk) (Eq.symm hf)
  rcases List.mem_singleton.1 hj with rfl
  exact n23 k (Eq.symm hk) (Eq.symm hf)
/-- Three flat rows have been written. -/
theorem St.write3 {w0 w w1 : World} {l : List It} {α : Type} {d : Kd α} {e : Nat} {v1 v2 v3 : Value} {x1 x2 x3 y1 y2 y3 : List α} {F1 F2 F3 o1 o2 o3 : Nat → Prop} (h : St w0 w l) (hE : d.E = []) (q1 q2 q3 : Nat) (n12 : q1 ≠ q2) (n13 : q1 ≠ q3) (n23 : q2 ≠ q3)
    (hq1 : l[q1]? = some (LW.row d e w0.heap.size v1 x1 F1)) (hq2 : l[q2]? = some (LW.row d e w0.heap.size v2 x2 F2)) (hq3 : l[q3]? = some (LW.row d e w0.heap.size v3 x3 F3))
    (h1 : d.R e w1 w0.heap.size o1 v1 y1) (h2 : d.R e w1 w0.heap.size o2 v2 y2) (h3 : d.R e w1 w0.heap.size o3 v3 y3) (hB : Below w0.heap.size w0 w1) (hk : Kept w w1 (fun k => F1 k ∨ F2 k ∨ F3 k)) :
    St w0 w1 (((l.set q1 (LW.row d e w0.heap.size v1 y1 F1)).set q2 (LW.row d e w0.heap.size v2 y2 F2)).set q3 (LW.row d e w0.heap.size v3 y3 F3)) := by
  have s1 : Kd.S d e w1 w0.heap.size F1 v1 y1 := S_flat hE (Kd.R_mono (Kd.R_tight hE h1) (fun k hk' => (Kd.S_R (h.own q1 hq1)).1 k hk'.symm))
  have s2 : Kd.S d e w1 w0.heap.size F2 v2 y2 := S_flat hE (Kd.R_mono (Kd.R_tight hE h2) (fun k hk' => (Kd.S_R (h.own q2 hq2)).1 k hk'.symm))
  have s3 : Kd.S d e w1 w0.heap.size F3 v3 y3 := S_flat hE (Kd.R_mono (Kd.R_tight hE h3) (fun k hk' => (Kd.S_R (h.own q3 hq3)).1 k hk'.symm))
  refine ⟨hB, (Its.upd h.i (by simp) (fun p i i' hi hi' => ?_)).mono (Nat.le_refl _) hk.1⟩
  have hpl : p < l.length := (List.getElem?_eq_some_iff.1 hi).1
  by_cases e3 : p = q3
  · subst e3
    rw [List.getElem?_set_self (by simpa using hpl)] at hi'
    obtain rfl := Option.some.inj hi'
    rw [hq3] at hi
    obtain rfl := Option.some.inj hi
    exact ⟨fun k hk => hk, s3⟩
  rw [List.getElem?_set_ne (Ne.symm e3)] at hi'
  by_cases e2 : p = q2
  · subst e2
    rw [List.getElem?_set_self (by simpa using hpl)] at hi'
    obtain rfl := Option.some.inj hi'
    rw [hq2] at hi
    obtain rfl := Option.some.inj hi
    exact ⟨fun k hk => hk, s2⟩
  rw [List.getElem?_set_ne (Ne.symm e2)] at hi'
  by_cases e1 : p = q1
  · subst e1
    rw [List.getElem?_set_self hpl] at hi'
    obtain rfl := Option.some.inj hi'
    rw [hq1] at hi
    obtain rfl := Option.some.inj hi
    exact ⟨fun k hk => hk, s1⟩
  rw [List.getElem?_set_ne (Ne.symm e1), hi] at hi'
  obtain rfl := Option.some.inj hi'
  have ha := h.i.all _ (List.mem_of_getElem? hi)
  refine ⟨fun k hk => hk, i.mv w w1 (fun k hkF => hk.2 k (ha.2 k hkF).2 (fun hf => ?_)) ha.1⟩
  rcases hf with hf | hf | hf
  · exact Its.disj h.i p q1 i _ e1 hi hq1 k hkF hf
  · exact Its.disj h.i p q2 i _ e2 hi hq2 k hkF hf
  exact Its.disj h.i p q3 i _ e3 hi hq3 k hkF hf
/-- Three rows that are held, handed back: each lies apart from the others. -/
theorem St.out3 {w0 w : World} {l : List It} {α : Type} {d : Kd α} {e : Nat} {v1 v2 v3 : Value} {x1 x2 x3 : List α} {F1 F2 F3 : Nat → Prop} (h : St w0 w l) (q1 q2 q3 : Nat) (n12 : q1 ≠ q2) (n13 : q1 ≠ q3) (n23 : q2 ≠ q3)
    (hq1 : l[q1]? = some (LW.row d e w0.heap.size v1 x1 F1)) (hq2 : l[q2]? = some (LW.row d e w0.heap.size v2 x2 F2)) (hq3 : l[q3]? = some (LW.row d e w0.heap.size v3 x3 F3)) :
    d.R e w w0.heap.size (fun k => some k ≠ v2.ownBlock ∧ some k ≠ v3.ownBlock) v1 x1 ∧ d.R e w w0.heap.size (fun k => some k ≠ v1.ownBlock ∧ some k ≠ v3.ownBlock) v2 x2 ∧ d.R e w w0.heap.size (fun k => some k ≠ v1.ownBlock ∧ some k ≠ v2.ownBlock) v3 x3 := by
  have r1 := Kd.S_R (h.own q1 hq1)
  have r2 := Kd.S_R (h.own q2 hq2)
  have r3 := Kd.S_R (h.own q3 hq3)
  exact ⟨Kd.R_mono r1 (fun k hk => ⟨fun e => Its.disj h.i q1 q2 _ _ n12 hq1 hq2 k hk (r2.1 k e.symm), fun e => Its.disj h.i q1 q3 _ _ n13 hq1 hq3 k hk (r3.1 k e.symm)⟩),
    Kd.R_mono r2 (fun k hk => ⟨fun e => Its.disj h.i q2 q1 _ _ n12.symm hq2 hq1 k hk (r1.1 k e.symm), fun e => Its.disj h.i q2 q3 _ _ n23 hq2 hq3 k hk (r3.1 k e.symm)⟩),
    Kd.R_mono r3 (fun k hk => ⟨fun e => Its.disj h.i q3 q1 _ _ n13.symm hq3 hq1 k hk (r1.1 k e.symm), fun e => Its.disj h.i q3 q2 _ _ n23.symm hq3 hq2 k hk (r2.1 k e.symm)⟩)⟩
end Go.Proofs.Ytedlgllhaboljaa.LW

namespace Go.Proofs.Ytedlgllhaboljaa.F
open Go.RowKit Go.Proofs.YtedlgllhaboljaaW.PrintWords Go.Proofs.YtedlgllhaboljaaW.PrintWords.Kd Go.Proofs.YtedlgllhaboljaaW.PrintMore.Kd Go.Proofs.YtedlgllhaboljaaW.PrintLast Go.Proofs.YtedlgllhaboljaaW.PrintMore
attribute [local go_sem] max2_int min2_int max_two min_two max_three min_three max_four min_four   -- for this text's walks alone
set_option linter.unusedVariables false
set_option linter.unusedSimpArgs false

/-! ### impl_copyConf: function 52 -/
def impl_copyConf.f (l0_0 : List Int) (l0_1 : List Int) (l0_2 : List Int) : Option (List Int × List Int × List Int) := (some (([] : List Int) : List Int)).bind fun y288 => (if y288.length + l0_0.length < 17592186044416 then ((some (([] : List Int) : List Int)).bind fun y294 => (if y294.length + l0_1.length < 17592186044416 then ((some (([] : List Int) : List Int)).bind fun y300 => (if y300.length + l0_2.length < 17592186044416 then (some ((y288 ++ l0_0), (y294 ++ l0_1), (y300 ++ l0_2))) else (none))) else (none))) else (none))
def impl_copyConf.T1 : Bool × List (List Nat × List Nat) := (true, [([], []), ([], []), ([1], [1]), ([0, 2], [0, 2]), ([], []), ([], []), ([5], [5]), ([4, 6, 3], [4, 6]), ([], []), ([], []), ([9], [9]), ([8, 10, 7], [8, 10]), ([3, 7, 11], [3, 7, 11]), ([12, 11, 0, 1, 2, 3, 4, 5, 6, 7, 8, 9, 10, 11, 12], [12])])
def impl_copyConf.B1 : List Nat := [0, 0, 2, 7, 0, 0, 32, 127, 0, 0, 512, 2047, 4095, 8191]
theorem impl_copyConf.tab1 : rtab .any (opsOf Try.f52 1) = impl_copyConf.T1 := by kernel_rfl
theorem impl_copyConf.bits1 : waitsOk impl_copyConf.T1.2 impl_copyConf.B1 = true := by kernel_rfl
set_option maxHeartbeats 8000000 in
set_option maxRecDepth 100000 in
theorem impl_copyConf.calls (A0_0 : Option Addr) (c0_0 : Nat) (l0_0 : List Int) (A0_1 : Option Addr) (c0_1 : Nat) (l0_1 : List Int) (A0_2 : Option Addr) (c0_2 : Nat) (l0_2 : List Int) (r1 : List Int) (r2 : List Int) (r3 : List Int) (w : World) (hr0_0 : Kd.C (Kd.int .i64) w A0_0 l0_0.length l0_0) (hc0_0 : l0_0.length ≤ c0_0) (hr0_1 : Kd.C (Kd.int .i64) w A0_1 l0_1.length l0_1) (hc0_1 : l0_1.length ≤ c0_1) (hr0_2 : Kd.C (Kd.int .i64) w A0_2 l0_2.length l0_2) (hc0_2 : l0_2.length ≤ c0_2) (h : impl_copyConf.f l0_0 l0_1 l0_2 = some (r1, r2, r3)) :
  Calls Try.prog 52 #[.agg #[.slice A0_0 l0_0.length c0_0, .slice A0_1 l0_1.length c0_1, .slice A0_2 l0_2.length c0_2]] w fun e w' => ∃ v0_ v1_ v2_ : Value, e = .returned (.agg #[v0_, v1_, v2_]) ∧ Kd.R (Kd.int .i64) 3 w' w.heap.size (fun k_ => some k_ ≠ (v1_ : Value).ownBlock ∧ some k_ ≠ (v2_ : Value).ownBlock) v0_ r1 ∧ Kd.R (Kd.int .i64) 3 w' w.heap.size (fun k_ => some k_ ≠ (v0_ : Value).ownBlock ∧ some k_ ≠ (v2_ : Value).ownBlock) v1_ r2 ∧ Kd.R (Kd.int .i64) 3 w' w.heap.size (fun k_ => some k_ ≠ (v0_ : Value).ownBlock ∧ some k_ ≠ (v1_ : Value).ownBlock) v2_ r3 ∧ Below w.heap.size w w' := by
 have hu27 := Try.underlying27
 have HR0_0 := Zh hr0_0
 have HC0_0 := Zh hc0_0
 clear hr0_0 hc0_0
 have HR0_1 := Zh hr0_1
 have HC0_1 := Zh hc0_1
 clear hr0_1 hc0_1
 have HR0_2 := Zh hr0_2
 have HC0_2 := Zh hc0_2
 clear hr0_2 hc0_2
 have HB := Zh (Below.refl w.heap.size w)
 have H : ((some (([] : List Int) : List Int)).bind fun y288 => (if y288.length + l0_0.length < 17592186044416 then ((some (([] : List Int) : List Int)).bind fun y294 => (if y294.length + l0_1.length < 17592186044416 then ((some (([] : List Int) : List Int)).bind fun y300 => (if y300.length + l0_2.length < 17592186044416 then (some ((y288 ++ l0_0), (y294 ++ l0_1), (y300 ++ l0_2))) else (none))) else (none))) else (none))) = some (r1, r2, r3) := h
 clear h
 obtain ⟨y288, hy288⟩ : ∃ y_ : List Int, y_ = (([] : List Int)) := ⟨_, rfl⟩
 replace H : (if y288.length + l0_0.length < 17592186044416 then ((some (([] : List Int) : List Int)).bind fun y294 => (if y294.length + l0_1.length < 17592186044416 then ((some (([] : List Int) : List Int)).bind fun y300 => (if y300.length + l0_2.length < 17592186044416 then (some ((y288 ++ l0_0), (y294 ++ l0_1), (y300 ++ l0_2))) else (none))) else (none))) else (none)) = some (r1, r2, r3) := by first | (rw [hy288]; with_reducible exact H) | (have H2_ := (Option.bind_some _ _).symm.trans H; rw [hy288]; with_reducible exact H2_) | (have H2_ := (Option.bind_some _ _).symm.trans H; with_reducible exact H2_) | with_reducible exact H | (rw [hy288]; exact H) | exact H
 have Ny288 := Zh hy288
 clear hy288
 by_cases c2 : y288.length + l0_0.length < 17592186044416
 ·
  rw [if_pos c2] at H
  have LMc2 := Zh c2
  clear c2
  obtain ⟨y291, hy291⟩ : ∃ y_ : List Int, y_ = (y288 ++ l0_0) := ⟨_, rfl⟩
  replace H : ((some (([] : List Int) : List Int)).bind fun y294 => (if y294.length + l0_1.length < 17592186044416 then ((some (([] : List Int) : List Int)).bind fun y300 => (if y300.length + l0_2.length < 17592186044416 then (some (y291, (y294 ++ l0_1), (y300 ++ l0_2))) else (none))) else (none))) = some (r1, r2, r3) := by first | (rw [hy291]; with_reducible exact H) | (have H2_ := (Option.bind_some _ _).symm.trans H; rw [hy291]; with_reducible exact H2_) | (have H2_ := (Option.bind_some _ _).symm.trans H; with_reducible exact H2_) | with_reducible exact H | (rw [hy291]; exact H) | exact H
  have Ny291 := Zh hy291
  clear hy291
  obtain ⟨y294, hy294⟩ : ∃ y_ : List Int, y_ = (([] : List Int)) := ⟨_, rfl⟩
  replace H : (if y294.length + l0_1.length < 17592186044416 then ((some (([] : List Int) : List Int)).bind fun y300 => (if y300.length + l0_2.length < 17592186044416 then (some (y291, (y294 ++ l0_1), (y300 ++ l0_2))) else (none))) else (none)) = some (r1, r2, r3) := by first | (rw [hy294]; with_reducible exact H) | (have H2_ := (Option.bind_some _ _).symm.trans H; rw [hy294]; with_reducible exact H2_) | (have H2_ := (Option.bind_some _ _).symm.trans H; with_reducible exact H2_) | with_reducible exact H | (rw [hy294]; exact H) | exact H
  have Ny294 := Zh hy294
  clear hy294
  by_cases c3 : y294.length + l0_1.length < 17592186044416
  ·
   rw [if_pos c3] at H
   have LMc3 := Zh c3
   clear c3
   obtain ⟨y297, hy297⟩ : ∃ y_ : List Int, y_ = (y294 ++ l0_1) := ⟨_, rfl⟩
   replace H : ((some (([] : List Int) : List Int)).bind fun y300 => (if y300.length + l0_2.length < 17592186044416 then (some (y291, y297, (y300 ++ l0_2))) else (none))) = some (r1, r2, r3) := by first | (rw [hy297]; with_reducible exact H) | (have H2_ := (Option.bind_some _ _).symm.trans H; rw [hy297]; with_reducible exact H2_) | (have H2_ := (Option.bind_some _ _).symm.trans H; with_reducible exact H2_) | with_reducible exact H | (rw [hy297]; exact H) | exact H
   have Ny297 := Zh hy297
   clear hy297
   obtain ⟨y300, hy300⟩ : ∃ y_ : List Int, y_ = (([] : List Int)) := ⟨_, rfl⟩
   replace H : (if y300.length + l0_2.length < 17592186044416 then (some (y291, y297, (y300 ++ l0_2))) else (none)) = some (r1, r2, r3) := by first | (rw [hy300]; with_reducible exact H) | (have H2_ := (Option.bind_some _ _).symm.trans H; rw [hy300]; with_reducible exact H2_) | (have H2_ := (Option.bind_some _ _).symm.trans H; with_reducible exact H2_) | with_reducible exact H | (rw [hy300]; exact H) | exact H
   have Ny300 := Zh hy300
   clear hy300
   by_cases c4 : y300.length + l0_2.length < 17592186044416
   ·
    rw [if_pos c4] at H
    have LMc4 := Zh c4
    clear c4
    obtain ⟨y303, hy303⟩ : ∃ y_ : List Int, y_ = (y300 ++ l0_2) := ⟨_, rfl⟩
    replace H : (some (y291, y297, y303)) = some (r1, r2, r3) := by first | (rw [hy303]; with_reducible exact H) | (have H2_ := (Option.bind_some _ _).symm.trans H; rw [hy303]; with_reducible exact H2_) | (have H2_ := (Option.bind_some _ _).symm.trans H; with_reducible exact H2_) | with_reducible exact H | (rw [hy303]; exact H) | exact H
    have Ny303 := Zh hy303
    clear hy303
    simp only [Option.some.injEq, Prod.mk.injEq] at H
    obtain ⟨rfl, rfl, rfl⟩ := H
    go_enter Try.func52, Try.ntmps52
    try go_wp2_with (first | ((with_reducible refine gate_dst (N := 1) rfl ?_); refine box_event ?hg (N := 1) ?hd (cs := #[.slice A0_0 l0_0.length c0_0, .slice A0_1 l0_1.length c0_1, .slice A0_2 l0_2.length c0_2]) (t := 27) ?hr ?_; (case hd => rfl); (case hg => rfl); (case hr => first | (go_simp; done) | (go_simp; rfl)); intro gb286 hg w5 hbox hb; have BK286 := Zh (hbox); have GW286 := Zh ((by rw [hg]; exact (below_size Zs) : w.heap.size ≤ gb286)); have GE286 := Zh ((by rw [hg]; exact (below_size Zs) : w.heap.size ≤ gb286)); replace HB := Zh (Zl Zs hb); clear hb hbox hg) | ((with_reducible refine gate_dst (N := 2) rfl ?_); refine box_event ?hg (N := 2) ?hd (cs := #[.slice none 0 0, .slice none 0 0, .slice none 0 0]) (t := 27) ?hr ?_; (case hd => rfl); (case hg => rfl); (case hr => first | (go_simp; done) | (go_simp; rfl)); intro gb287 hg w6 hbox hb; have BK287 := Zh (hbox); have GW287 := Zh ((by rw [hg]; exact (below_size Zs) : w.heap.size ≤ gb287)); have GE287 := Zh ((by rw [hg]; exact (below_size Zs) : w.heap.size ≤ gb287)); replace HB := Zh (Zl Zs hb); have NB286_287 := Zh ((by rw [hg]; exact Nat.ne_of_lt (blk_lt (g := gb286) (o := .cells #[.slice A0_0 l0_0.length c0_0, .slice A0_1 l0_1.length c0_1, .slice A0_2 l0_2.length c0_2] 27 (0, 0)) Zk) : gb286 ≠ gb287)); have NB287_286 := Zh ((by rw [hg]; exact Nat.ne_of_gt (blk_lt (g := gb286) (o := .cells #[.slice A0_0 l0_0.length c0_0, .slice A0_1 l0_1.length c0_1, .slice A0_2 l0_2.length c0_2] 27 (0, 0)) Zk) : gb287 ≠ gb286)); replace BK286 := Zh (Zm (g := gb286) (o := .cells #[.slice A0_0 l0_0.length c0_0, .slice A0_1 l0_1.length c0_1, .slice A0_2 l0_2.length c0_2] 27 (0, 0)) Zk hb); clear hb hbox hg))
    replace BK286 := Zh (blk_drew BK286.out)
    replace BK287 := Zh (blk_drew BK287.out)
    replace HB := Zh (below_drew1 HB.out)
    refine start_ (n := 14) (S := fun w' => w'.cell? ⟨gb286, 0, none⟩ = some (.slice A0_0 l0_0.length c0_0) ∧ w'.cell? ⟨gb286, 1, none⟩ = some (.slice A0_1 l0_1.length c0_1) ∧ w'.cell? ⟨gb286, 2, none⟩ = some (.slice A0_2 l0_2.length c0_2)) (ds := []) #[false, false, false, false, false, false, false, false, false, false, false, false, false, false] (by kernel_rfl) rfl rfl ⟨(blk_cell BK286.out 0).trans rfl, (blk_cell BK286.out 1).trans rfl, (blk_cell BK286.out 2).trans rfl⟩ (fun hHeld => ?_); refine with_tabW impl_copyConf.tab1 impl_copyConf.bits1 (fun HT_ HW_ => ?_)
    generalize w6.drew = w7 at BK286 BK287 HB hHeld ⊢
    refine pure_ (i := 1) (N := some 4) (v := ?_) (a' := ?_) #[false, true, false, false, false, false, false, false, false, false, false, false, false, false] rfl rfl (any_of HT_.out (by kernel_rfl)) (fun _ _ _ h => h) (Or.inl ⟨by rfl, ?_⟩) ?_ ?_
    rotate_left
    ·
     intro w'
     go_simp
     with_reducible rfl
    rotate_left
    ·
     simp only [Act.put, List.setIfInBounds_toArray, List.set_cons_zero, List.set_cons_succ, i64_w, i32_w]
     rfl
    refine pure_ (i := 5) (N := some 8) (v := ?_) (a' := ?_) #[false, true, false, false, false, true, false, false, false, false, false, false, false, false] rfl rfl (any_of HT_.out (by kernel_rfl)) (fun _ _ _ h => h) (Or.inl ⟨by rfl, ?_⟩) ?_ ?_
    rotate_left
    ·
     intro w'
     go_simp
     with_reducible rfl
    rotate_left
    ·
     simp only [Act.put, List.setIfInBounds_toArray, List.set_cons_zero, List.set_cons_succ, i64_w, i32_w]
     rfl
    refine pure_ (i := 9) (N := some 12) (v := ?_) (a' := ?_) #[false, true, false, false, false, true, false, false, false, true, false, false, false, false] rfl rfl (any_of HT_.out (by kernel_rfl)) (fun _ _ _ h => h) (Or.inl ⟨by rfl, ?_⟩) ?_ ?_
    rotate_left
    ·
     intro w'
     go_simp
     with_reducible rfl
    rotate_left
    ·
     simp only [Act.put, List.setIfInBounds_toArray, List.set_cons_zero, List.set_cons_succ, i64_w, i32_w]
     rfl
    refine take_ (i := 2) (N := some 5) (v := ?_) (a' := ?_) #[false, true, true, false, false, true, false, false, false, true, false, false, false, false] rfl rfl (take_ofW HT_.out HW_.out (by kernel_rfl)) (fun _ _ _ h => h) (Or.inl ⟨by rfl, ?_⟩) hHeld ?_ ?_
    rotate_left
    ·
     rintro w' ⟨s0, s1, s2⟩
     go_simp
     with_reducible rfl
    rotate_left
    ·
     simp only [Act.put, List.setIfInBounds_toArray, List.set_cons_zero, List.set_cons_succ, i64_w, i32_w]
     rfl
    refine take_ (i := 6) (N := some 9) (v := ?_) (a' := ?_) #[false, true, true, false, false, true, true, false, false, true, false, false, false, false] rfl rfl (take_ofW HT_.out HW_.out (by kernel_rfl)) (fun _ _ _ h => h) (Or.inl ⟨by rfl, ?_⟩) hHeld ?_ ?_
    rotate_left
    ·
     rintro w' ⟨s0, s1, s2⟩
     go_simp
     with_reducible rfl
    rotate_left
    ·
     simp only [Act.put, List.setIfInBounds_toArray, List.set_cons_zero, List.set_cons_succ, i64_w, i32_w]
     rfl
    refine take_ (i := 10) (N := some 13) (v := ?_) (a' := ?_) #[false, true, true, false, false, true, true, false, false, true, true, false, false, false] rfl rfl (take_ofW HT_.out HW_.out (by kernel_rfl)) (fun _ _ _ h => h) (Or.inl ⟨by rfl, ?_⟩) hHeld ?_ ?_
    rotate_left
    ·
     rintro w' ⟨s0, s1, s2⟩
     go_simp
     with_reducible rfl
    rotate_left
    ·
     simp only [Act.put, List.setIfInBounds_toArray, List.set_cons_zero, List.set_cons_succ, i64_w, i32_w]
     rfl
    refine join_ (σ := Value × Value × Value × Value × Value) 3 #[true, true, true, true, true, true, true, true, true, true, true, false, false, false] (fun s_ => [(3, s_.1), (6, s_.2.1), (7, s_.2.2.1), (10, s_.2.2.2.1), (11, s_.2.2.2.2)]) (fun s_ w' => (w'.cell? ⟨gb286, 0, none⟩ = some (.slice A0_0 l0_0.length c0_0) ∧ w'.cell? ⟨gb286, 1, none⟩ = some (.slice A0_1 l0_1.length c0_1) ∧ w'.cell? ⟨gb286, 2, none⟩ = some (.slice A0_2 l0_2.length c0_2)) ∧ (Kd.R (Kd.int .i64) 3 w' w.heap.size (fun k_ => some k_ ≠ (s_.2.2.2.1 : Value).ownBlock ∧ some k_ ≠ (s_.2.2.2.2 : Value).ownBlock) s_.2.1 y291) ∧ (Kd.R (Kd.int .i64) 3 w' w.heap.size (fun k_ => some k_ ≠ (s_.2.1 : Value).ownBlock ∧ some k_ ≠ (s_.2.2.2.2 : Value).ownBlock) s_.2.2.2.1 y297) ∧ (Kd.R (Kd.int .i64) 3 w' w.heap.size (fun k_ => some k_ ≠ (s_.2.1 : Value).ownBlock ∧ some k_ ≠ (s_.2.2.2.1 : Value).ownBlock) s_.2.2.2.2 y300) ∧ (w'.heap[gb286]? = some (.cells #[.slice A0_0 l0_0.length c0_0, .slice A0_1 l0_1.length c0_1, .slice A0_2 l0_2.length c0_2] 27 (0, 0))) ∧ (w'.heap[gb287]? = some (.cells #[.slice none 0 0, .slice none 0 0, .slice none 0 0] 27 (0, 0))) ∧ (Below w.heap.size w w')) ?_ ?_
    rotate_left
    ·
     intro hJ0_3_4_7_8
     refine join_ (σ := Value × Value × Value × Value) 4 #[true, true, true, true, true, true, true, true, false, true, true, false, false, false] (fun s_ => [(3, s_.1), (6, s_.2.1), (7, s_.2.2.1), (10, s_.2.2.2)]) (fun s_ w' => (w'.cell? ⟨gb286, 0, none⟩ = some (.slice A0_0 l0_0.length c0_0) ∧ w'.cell? ⟨gb286, 1, none⟩ = some (.slice A0_1 l0_1.length c0_1) ∧ w'.cell? ⟨gb286, 2, none⟩ = some (.slice A0_2 l0_2.length c0_2)) ∧ (Kd.R (Kd.int .i64) 3 w' w.heap.size (fun k_ => some k_ ≠ (s_.2.2.2 : Value).ownBlock) s_.2.1 y291) ∧ (Kd.R (Kd.int .i64) 3 w' w.heap.size (fun k_ => some k_ ≠ (s_.2.1 : Value).ownBlock) s_.2.2.2 y297) ∧ (w'.heap[gb286]? = some (.cells #[.slice A0_0 l0_0.length c0_0, .slice A0_1 l0_1.length c0_1, .slice A0_2 l0_2.length c0_2] 27 (0, 0))) ∧ (w'.heap[gb287]? = some (.cells #[.slice none 0 0, .slice none 0 0, .slice none 0 0] 27 (0, 0))) ∧ (Below w.heap.size w w')) ?_ ?_
     rotate_left
     ·
      intro hJ0_3_4_7
      refine join_ (σ := Value × Value × Value × Value) 4 #[true, true, true, true, true, true, true, false, true, true, true, false, false, false] (fun s_ => [(3, s_.1), (6, s_.2.1), (7, s_.2.2.1), (11, s_.2.2.2)]) (fun s_ w' => (w'.cell? ⟨gb286, 0, none⟩ = some (.slice A0_0 l0_0.length c0_0) ∧ w'.cell? ⟨gb286, 1, none⟩ = some (.slice A0_1 l0_1.length c0_1) ∧ w'.cell? ⟨gb286, 2, none⟩ = some (.slice A0_2 l0_2.length c0_2)) ∧ (Kd.R (Kd.int .i64) 3 w' w.heap.size (fun k_ => some k_ ≠ (s_.2.2.1 : Value).ownBlock ∧ some k_ ≠ (s_.2.2.2 : Value).ownBlock) s_.2.1 y291) ∧ (Kd.R (Kd.int .i64) 3 w' w.heap.size (fun k_ => some k_ ≠ (s_.2.1 : Value).ownBlock ∧ some k_ ≠ (s_.2.2.2 : Value).ownBlock) s_.2.2.1 y294) ∧ (Kd.R (Kd.int .i64) 3 w' w.heap.size (fun k_ => some k_ ≠ (s_.2.1 : Value).ownBlock ∧ some k_ ≠ (s_.2.2.1 : Value).ownBlock) s_.2.2.2 y300) ∧ (w'.heap[gb286]? = some (.cells #[.slice A0_0 l0_0.length c0_0, .slice A0_1 l0_1.length c0_1, .slice A0_2 l0_2.length c0_2] 27 (0, 0))) ∧ (w'.heap[gb287]? = some (.cells #[.slice none 0 0, .slice none 0 0, .slice none 0 0] 27 (0, 0))) ∧ (Below w.heap.size w w')) ?_ ?_
      rotate_left
      ·
       intro hJ0_3_4_8
       refine join_ (σ := Value × Value × Value) 5 #[true, true, true, true, true, true, true, false, false, true, true, false, false, false] (fun s_ => [(3, s_.1), (6, s_.2.1), (7, s_.2.2)]) (fun s_ w' => (w'.cell? ⟨gb286, 0, none⟩ = some (.slice A0_0 l0_0.length c0_0) ∧ w'.cell? ⟨gb286, 1, none⟩ = some (.slice A0_1 l0_1.length c0_1) ∧ w'.cell? ⟨gb286, 2, none⟩ = some (.slice A0_2 l0_2.length c0_2)) ∧ (Kd.R (Kd.int .i64) 3 w' w.heap.size (fun k_ => some k_ ≠ (s_.2.2 : Value).ownBlock) s_.2.1 y291) ∧ (Kd.R (Kd.int .i64) 3 w' w.heap.size (fun k_ => some k_ ≠ (s_.2.1 : Value).ownBlock) s_.2.2 y294) ∧ (w'.heap[gb286]? = some (.cells #[.slice A0_0 l0_0.length c0_0, .slice A0_1 l0_1.length c0_1, .slice A0_2 l0_2.length c0_2] 27 (0, 0))) ∧ (w'.heap[gb287]? = some (.cells #[.slice none 0 0, .slice none 0 0, .slice none 0 0] 27 (0, 0))) ∧ (Below w.heap.size w w')) ?_ ?_
       rotate_left
       ·
        intro hJ0_3_4
        refine join_ (σ := Value × Value × Value) 5 #[true, true, true, true, false, true, true, false, true, true, true, false, false, false] (fun s_ => [(3, s_.1), (6, s_.2.1), (11, s_.2.2)]) (fun s_ w' => (w'.cell? ⟨gb286, 0, none⟩ = some (.slice A0_0 l0_0.length c0_0) ∧ w'.cell? ⟨gb286, 1, none⟩ = some (.slice A0_1 l0_1.length c0_1) ∧ w'.cell? ⟨gb286, 2, none⟩ = some (.slice A0_2 l0_2.length c0_2)) ∧ (Kd.R (Kd.int .i64) 3 w' w.heap.size (fun k_ => some k_ ≠ (s_.2.2 : Value).ownBlock) s_.2.1 y291) ∧ (Kd.R (Kd.int .i64) 3 w' w.heap.size (fun k_ => some k_ ≠ (s_.2.1 : Value).ownBlock) s_.2.2 y300) ∧ (w'.heap[gb286]? = some (.cells #[.slice A0_0 l0_0.length c0_0, .slice A0_1 l0_1.length c0_1, .slice A0_2 l0_2.length c0_2] 27 (0, 0))) ∧ (w'.heap[gb287]? = some (.cells #[.slice none 0 0, .slice none 0 0, .slice none 0 0] 27 (0, 0))) ∧ (Below w.heap.size w w')) ?_ ?_
        rotate_left
        ·
         intro hJ0_3_8
         refine join_ (σ := Value × Value × Value) 5 #[true, true, true, false, true, true, true, false, true, true, true, false, false, false] (fun s_ => [(3, s_.1), (7, s_.2.1), (11, s_.2.2)]) (fun s_ w' => (w'.cell? ⟨gb286, 0, none⟩ = some (.slice A0_0 l0_0.length c0_0) ∧ w'.cell? ⟨gb286, 1, none⟩ = some (.slice A0_1 l0_1.length c0_1) ∧ w'.cell? ⟨gb286, 2, none⟩ = some (.slice A0_2 l0_2.length c0_2)) ∧ (Kd.R (Kd.int .i64) 3 w' w.heap.size (fun k_ => some k_ ≠ (s_.2.1 : Value).ownBlock ∧ some k_ ≠ (s_.2.2 : Value).ownBlock) s_.1 y288) ∧ (Kd.R (Kd.int .i64) 3 w' w.heap.size (fun k_ => some k_ ≠ (s_.1 : Value).ownBlock ∧ some k_ ≠ (s_.2.2 : Value).ownBlock) s_.2.1 y294) ∧ (Kd.R (Kd.int .i64) 3 w' w.heap.size (fun k_ => some k_ ≠ (s_.1 : Value).ownBlock ∧ some k_ ≠ (s_.2.1 : Value).ownBlock) s_.2.2 y300) ∧ (w'.heap[gb286]? = some (.cells #[.slice A0_0 l0_0.length c0_0, .slice A0_1 l0_1.length c0_1, .slice A0_2 l0_2.length c0_2] 27 (0, 0))) ∧ (w'.heap[gb287]? = some (.cells #[.slice none 0 0, .slice none 0 0, .slice none 0 0] 27 (0, 0))) ∧ (Below w.heap.size w w')) ?_ ?_
         rotate_left
         ·
          intro hJ0_4_8
          refine join_ (σ := Value × Value) 6 #[true, true, true, true, false, true, true, false, false, true, true, false, false, false] (fun s_ => [(3, s_.1), (6, s_.2)]) (fun s_ w' => (w'.cell? ⟨gb286, 0, none⟩ = some (.slice A0_0 l0_0.length c0_0) ∧ w'.cell? ⟨gb286, 1, none⟩ = some (.slice A0_1 l0_1.length c0_1) ∧ w'.cell? ⟨gb286, 2, none⟩ = some (.slice A0_2 l0_2.length c0_2)) ∧ (Kd.R (Kd.int .i64) 3 w' w.heap.size (fun _ => True) s_.2 y291) ∧ (w'.heap[gb286]? = some (.cells #[.slice A0_0 l0_0.length c0_0, .slice A0_1 l0_1.length c0_1, .slice A0_2 l0_2.length c0_2] 27 (0, 0))) ∧ (w'.heap[gb287]? = some (.cells #[.slice none 0 0, .slice none 0 0, .slice none 0 0] 27 (0, 0))) ∧ (Below w.heap.size w w')) ?_ ?_
          rotate_left
          ·
           intro hJ0_3
           refine join_ (σ := Value × Value) 6 #[true, true, true, false, true, true, true, false, false, true, true, false, false, false] (fun s_ => [(3, s_.1), (7, s_.2)]) (fun s_ w' => (w'.cell? ⟨gb286, 0, none⟩ = some (.slice A0_0 l0_0.length c0_0) ∧ w'.cell? ⟨gb286, 1, none⟩ = some (.slice A0_1 l0_1.length c0_1) ∧ w'.cell? ⟨gb286, 2, none⟩ = some (.slice A0_2 l0_2.length c0_2)) ∧ (Kd.R (Kd.int .i64) 3 w' w.heap.size (fun k_ => some k_ ≠ (s_.2 : Value).ownBlock) s_.1 y288) ∧ (Kd.R (Kd.int .i64) 3 w' w.heap.size (fun k_ => some k_ ≠ (s_.1 : Value).ownBlock) s_.2 y294) ∧ (w'.heap[gb286]? = some (.cells #[.slice A0_0 l0_0.length c0_0, .slice A0_1 l0_1.length c0_1, .slice A0_2 l0_2.length c0_2] 27 (0, 0))) ∧ (w'.heap[gb287]? = some (.cells #[.slice none 0 0, .slice none 0 0, .slice none 0 0] 27 (0, 0))) ∧ (Below w.heap.size w w')) ?_ ?_
           rotate_left
           ·
            intro hJ0_4
            refine join_ (σ := Value × Value) 6 #[true, true, true, false, false, true, true, false, true, true, true, false, false, false] (fun s_ => [(3, s_.1), (11, s_.2)]) (fun s_ w' => (w'.cell? ⟨gb286, 0, none⟩ = some (.slice A0_0 l0_0.length c0_0) ∧ w'.cell? ⟨gb286, 1, none⟩ = some (.slice A0_1 l0_1.length c0_1) ∧ w'.cell? ⟨gb286, 2, none⟩ = some (.slice A0_2 l0_2.length c0_2)) ∧ (Kd.R (Kd.int .i64) 3 w' w.heap.size (fun k_ => some k_ ≠ (s_.2 : Value).ownBlock) s_.1 y288) ∧ (Kd.R (Kd.int .i64) 3 w' w.heap.size (fun k_ => some k_ ≠ (s_.1 : Value).ownBlock) s_.2 y300) ∧ (w'.heap[gb286]? = some (.cells #[.slice A0_0 l0_0.length c0_0, .slice A0_1 l0_1.length c0_1, .slice A0_2 l0_2.length c0_2] 27 (0, 0))) ∧ (w'.heap[gb287]? = some (.cells #[.slice none 0 0, .slice none 0 0, .slice none 0 0] 27 (0, 0))) ∧ (Below w.heap.size w w')) ?_ ?_
            rotate_left
            ·
             intro hJ0_8
             refine join_ (σ := Value × Value) 6 #[false, true, true, false, true, true, true, false, true, true, true, false, false, false] (fun s_ => [(7, s_.1), (11, s_.2)]) (fun s_ w' => (w'.cell? ⟨gb286, 0, none⟩ = some (.slice A0_0 l0_0.length c0_0) ∧ w'.cell? ⟨gb286, 1, none⟩ = some (.slice A0_1 l0_1.length c0_1) ∧ w'.cell? ⟨gb286, 2, none⟩ = some (.slice A0_2 l0_2.length c0_2)) ∧ (Kd.R (Kd.int .i64) 3 w' w.heap.size (fun k_ => some k_ ≠ (s_.2 : Value).ownBlock) s_.1 y294) ∧ (Kd.R (Kd.int .i64) 3 w' w.heap.size (fun k_ => some k_ ≠ (s_.1 : Value).ownBlock) s_.2 y300) ∧ (w'.heap[gb286]? = some (.cells #[.slice A0_0 l0_0.length c0_0, .slice A0_1 l0_1.length c0_1, .slice A0_2 l0_2.length c0_2] 27 (0, 0))) ∧ (w'.heap[gb287]? = some (.cells #[.slice none 0 0, .slice none 0 0, .slice none 0 0] 27 (0, 0))) ∧ (Below w.heap.size w w')) ?_ ?_
             rotate_left
             ·
              intro hJ4_8
              refine join_ (σ := Value) 7 #[true, true, true, false, false, true, true, false, false, true, true, false, false, false] (fun s_ => [(3, s_)]) (fun s_ w' => (w'.cell? ⟨gb286, 0, none⟩ = some (.slice A0_0 l0_0.length c0_0) ∧ w'.cell? ⟨gb286, 1, none⟩ = some (.slice A0_1 l0_1.length c0_1) ∧ w'.cell? ⟨gb286, 2, none⟩ = some (.slice A0_2 l0_2.length c0_2)) ∧ (Kd.R (Kd.int .i64) 3 w' w.heap.size (fun _ => True) s_ y288) ∧ (w'.heap[gb286]? = some (.cells #[.slice A0_0 l0_0.length c0_0, .slice A0_1 l0_1.length c0_1, .slice A0_2 l0_2.length c0_2] 27 (0, 0))) ∧ (w'.heap[gb287]? = some (.cells #[.slice none 0 0, .slice none 0 0, .slice none 0 0] 27 (0, 0))) ∧ (Below w.heap.size w w')) ?_ ?_
              rotate_left
              ·
               intro hJ0
               refine join_ (σ := Value) 7 #[false, true, true, false, true, true, true, false, false, true, true, false, false, false] (fun s_ => [(7, s_)]) (fun s_ w' => (w'.cell? ⟨gb286, 0, none⟩ = some (.slice A0_0 l0_0.length c0_0) ∧ w'.cell? ⟨gb286, 1, none⟩ = some (.slice A0_1 l0_1.length c0_1) ∧ w'.cell? ⟨gb286, 2, none⟩ = some (.slice A0_2 l0_2.length c0_2)) ∧ (Kd.R (Kd.int .i64) 3 w' w.heap.size (fun _ => True) s_ y294) ∧ (w'.heap[gb286]? = some (.cells #[.slice A0_0 l0_0.length c0_0, .slice A0_1 l0_1.length c0_1, .slice A0_2 l0_2.length c0_2] 27 (0, 0))) ∧ (w'.heap[gb287]? = some (.cells #[.slice none 0 0, .slice none 0 0, .slice none 0 0] 27 (0, 0))) ∧ (Below w.heap.size w w')) ?_ ?_
               rotate_left
               ·
                intro hJ4
                refine join_ (σ := Value) 7 #[false, true, true, false, false, true, true, false, true, true, true, false, false, false] (fun s_ => [(11, s_)]) (fun s_ w' => (w'.cell? ⟨gb286, 0, none⟩ = some (.slice A0_0 l0_0.length c0_0) ∧ w'.cell? ⟨gb286, 1, none⟩ = some (.slice A0_1 l0_1.length c0_1) ∧ w'.cell? ⟨gb286, 2, none⟩ = some (.slice A0_2 l0_2.length c0_2)) ∧ (Kd.R (Kd.int .i64) 3 w' w.heap.size (fun _ => True) s_ y300) ∧ (w'.heap[gb286]? = some (.cells #[.slice A0_0 l0_0.length c0_0, .slice A0_1 l0_1.length c0_1, .slice A0_2 l0_2.length c0_2] 27 (0, 0))) ∧ (w'.heap[gb287]? = some (.cells #[.slice none 0 0, .slice none 0 0, .slice none 0 0] 27 (0, 0))) ∧ (Below w.heap.size w w')) ?_ ?_
                rotate_left
                ·
                 intro hJ8
                 refine three_ (i := 0) (j := 4) (k := 8) (Ni := some 3) (Nj := some 7) (Nk := some 11) #[true, true, true, false, false, true, true, false, false, true, true, false, false, false] #[false, true, true, false, true, true, true, false, false, true, true, false, false, false] #[false, true, true, false, false, true, true, false, true, true, true, false, false, false] rfl rfl rfl rfl rfl rfl (three_of HT_.out (by kernel_rfl)) (by decide) (by decide) (by decide) (fun K hK => ?_) (fun K hK => ?_) (fun K hK => ?_)
                 ·
                  skip
                  refine R_lit_step (Kd.int .i64) _ 3 ?hg (N := 3) ?hd (xs := ([] : List Int)) (inner := []) (ok := fun _ => True) (okp := fun _ => True) ?hr ?hp (fun _ hk => hk) trivial (Below.refl _ _) (Nat.le_refl _) (by simp) ?_; (case hd => rfl); (case hg => rfl); (case hr => first | (go_simp; done) | (go_simp; rfl)); (case hp => exact (Reps.none _ _))
                  intro v289 w8 ho9 hb hg_ hnew_
                  clear hg_ hnew_
                  (first | rw [← Ny288.out] at ho9 | (simp only [Int.reduceToNat] at ho9; rw [← Ny288.out] at ho9))
                  have HO290 := Zh (R_lower ho9 (below_size Zs))
                  replace BK286 := Zh (Zm (g := gb286) (o := .cells #[.slice A0_0 l0_0.length c0_0, .slice A0_1 l0_1.length c0_1, .slice A0_2 l0_2.length c0_2] 27 (0, 0)) Zk hb)
                  replace BK287 := Zh (Zm (g := gb287) (o := .cells #[.slice none 0 0, .slice none 0 0, .slice none 0 0] 27 (0, 0)) Zk hb)
                  replace HB := Zh (Zl Zs hb)
                  clear hb ho9
                  refine hK.out _ _ ⟨(blk_cell BK286.out 0).trans rfl, (blk_cell BK286.out 1).trans rfl, (blk_cell BK286.out 2).trans rfl⟩ (fun hHeld => ?_)
                  clear hK K
                  refine norm_ (a' := ?_) ?_ ?_
                  rotate_left
                  ·
                   show Act.put _ (some 3) _ = _
                   simp only [Act.put, List.setIfInBounds_toArray, List.set_cons_zero, List.set_cons_succ, i64_w, i32_w]
                   rfl
                  exact norm_ (by first | (simp only [putAll, Act.put, List.setIfInBounds_toArray, List.set_cons_zero, List.set_cons_succ]; done) | (simp only [putAll, Act.put, List.setIfInBounds_toArray, List.set_cons_zero, List.set_cons_succ]; rfl)) (hJ0 (v289) _ ⟨hHeld, (ZR HO290.out), Zk, Zk, Zs⟩)
                 ·
                  skip
                  refine R_lit_step (Kd.int .i64) _ 3 ?hg (N := 7) ?hd (xs := ([] : List Int)) (inner := []) (ok := fun _ => True) (okp := fun _ => True) ?hr ?hp (fun _ hk => hk) trivial (Below.refl _ _) (Nat.le_refl _) (by simp) ?_; (case hd => rfl); (case hg => rfl); (case hr => first | (go_simp; done) | (go_simp; rfl)); (case hp => exact (Reps.none _ _))
                  intro v295 w8 ho9 hb hg_ hnew_
                  clear hg_ hnew_
                  (first | rw [← Ny294.out] at ho9 | (simp only [Int.reduceToNat] at ho9; rw [← Ny294.out] at ho9))
                  have HO296 := Zh (R_lower ho9 (below_size Zs))
                  replace BK286 := Zh (Zm (g := gb286) (o := .cells #[.slice A0_0 l0_0.length c0_0, .slice A0_1 l0_1.length c0_1, .slice A0_2 l0_2.length c0_2] 27 (0, 0)) Zk hb)
                  replace BK287 := Zh (Zm (g := gb287) (o := .cells #[.slice none 0 0, .slice none 0 0, .slice none 0 0] 27 (0, 0)) Zk hb)
                  replace HB := Zh (Zl Zs hb)
                  clear hb ho9
                  refine hK.out _ _ ⟨(blk_cell BK286.out 0).trans rfl, (blk_cell BK286.out 1).trans rfl, (blk_cell BK286.out 2).trans rfl⟩ (fun hHeld => ?_)
                  clear hK K
                  refine norm_ (a' := ?_) ?_ ?_
                  rotate_left
                  ·
                   show Act.put _ (some 7) _ = _
                   simp only [Act.put, List.setIfInBounds_toArray, List.set_cons_zero, List.set_cons_succ, i64_w, i32_w]
                   rfl
                  exact norm_ (by first | (simp only [putAll, Act.put, List.setIfInBounds_toArray, List.set_cons_zero, List.set_cons_succ]; done) | (simp only [putAll, Act.put, List.setIfInBounds_toArray, List.set_cons_zero, List.set_cons_succ]; rfl)) (hJ4 (v295) _ ⟨hHeld, (ZR HO296.out), Zk, Zk, Zs⟩)
                 skip
                 refine R_lit_step (Kd.int .i64) _ 3 ?hg (N := 11) ?hd (xs := ([] : List Int)) (inner := []) (ok := fun _ => True) (okp := fun _ => True) ?hr ?hp (fun _ hk => hk) trivial (Below.refl _ _) (Nat.le_refl _) (by simp) ?_; (case hd => rfl); (case hg => rfl); (case hr => first | (go_simp; done) | (go_simp; rfl)); (case hp => exact (Reps.none _ _))
                 intro v301 w8 ho9 hb hg_ hnew_
                 clear hg_ hnew_
                 (first | rw [← Ny300.out] at ho9 | (simp only [Int.reduceToNat] at ho9; rw [← Ny300.out] at ho9))
                 have HO302 := Zh (R_lower ho9 (below_size Zs))
                 replace BK286 := Zh (Zm (g := gb286) (o := .cells #[.slice A0_0 l0_0.length c0_0, .slice A0_1 l0_1.length c0_1, .slice A0_2 l0_2.length c0_2] 27 (0, 0)) Zk hb)
                 replace BK287 := Zh (Zm (g := gb287) (o := .cells #[.slice none 0 0, .slice none 0 0, .slice none 0 0] 27 (0, 0)) Zk hb)
                 replace HB := Zh (Zl Zs hb)
                 clear hb ho9
                 refine hK.out _ _ ⟨(blk_cell BK286.out 0).trans rfl, (blk_cell BK286.out 1).trans rfl, (blk_cell BK286.out 2).trans rfl⟩ (fun hHeld => ?_)
                 clear hK K
                 refine norm_ (a' := ?_) ?_ ?_
                 rotate_left
                 ·
                  show Act.put _ (some 11) _ = _
                  simp only [Act.put, List.setIfInBounds_toArray, List.set_cons_zero, List.set_cons_succ, i64_w, i32_w]
                  rfl
                 exact norm_ (by first | (simp only [putAll, Act.put, List.setIfInBounds_toArray, List.set_cons_zero, List.set_cons_succ]; done) | (simp only [putAll, Act.put, List.setIfInBounds_toArray, List.set_cons_zero, List.set_cons_succ]; rfl)) (hJ8 (v301) _ ⟨hHeld, (ZR HO302.out), Zk, Zk, Zs⟩)
                skip
                rintro v301 w10 ⟨hS_, h0_, h1_, h2_, h3_⟩
                have n0_ : Aside0 (Kd.R (Kd.int .i64) 3 w10 w.heap.size (fun _ => True) v301 y300) := ⟨h0_⟩
                have n1_ : Aside0 (w10.heap[gb286]? = some (.cells #[.slice A0_0 l0_0.length c0_0, .slice A0_1 l0_1.length c0_1, .slice A0_2 l0_2.length c0_2] 27 (0, 0))) := ⟨h1_⟩
                have n2_ : Aside0 (w10.heap[gb287]? = some (.cells #[.slice none 0 0, .slice none 0 0, .slice none 0 0] 27 (0, 0))) := ⟨h2_⟩
                have n3_ : Aside0 (Below w.heap.size w w10) := ⟨h3_⟩
                clear BK286
                clear BK287
                clear HB
                clear h0_ h1_ h2_ h3_
                have HO302 := n0_
                have BK286 := n1_
                have BK287 := n2_
                have HB := n3_
                clear n0_ n1_ n2_ n3_
                have hHeld : w10.cell? ⟨gb286, 0, none⟩ = some (.slice A0_0 l0_0.length c0_0) ∧ w10.cell? ⟨gb286, 1, none⟩ = some (.slice A0_1 l0_1.length c0_1) ∧ w10.cell? ⟨gb286, 2, none⟩ = some (.slice A0_2 l0_2.length c0_2) := hS_
                refine norm_ (a' := ?_) ?_ ?_
                rotate_left
                ·
                 simp only [putAll, Act.put, List.setIfInBounds_toArray, List.set_cons_zero, List.set_cons_succ]
                 rfl
                refine two_ (i := 0) (j := 4) (Ni := some 3) (Nj := some 7) #[true, true, true, false, false, true, true, false, true, true, true, false, false, false] #[false, true, true, false, true, true, true, false, true, true, true, false, false, false] rfl rfl rfl rfl (two_of HT_.out (by kernel_rfl)) (by decide) (by decide) (fun K hK => ?_) (fun K hK => ?_)
                ·
                 skip
                 refine R_lit_step (Kd.int .i64) _ 3 ?hg (N := 3) ?hd (xs := ([] : List Int)) (inner := []) (ok := fun _ => True) (okp := fun _ => True) ?hr ?hp (fun _ hk => hk) trivial (Below.refl _ _) (Nat.le_refl _) (by simp) ?_; (case hd => rfl); (case hg => rfl); (case hr => first | (go_simp; done) | (go_simp; rfl)); (case hp => exact (Reps.none _ _))
                 intro v289 w11 ho12 hb hg_ hnew_
                 clear hg_ hnew_
                 (first | rw [← Ny288.out] at ho12 | (simp only [Int.reduceToNat] at ho12; rw [← Ny288.out] at ho12))
                 have HO290 := Zh (R_lower (R_new' ho12 (R_lt (ZR HO302.out))) (below_size Zs))
                 replace HO302 := Zh (R_elder' (ZR HO302.out) (R_base ho12) hb)
                 replace BK286 := Zh (Zm (g := gb286) (o := .cells #[.slice A0_0 l0_0.length c0_0, .slice A0_1 l0_1.length c0_1, .slice A0_2 l0_2.length c0_2] 27 (0, 0)) Zk hb)
                 replace BK287 := Zh (Zm (g := gb287) (o := .cells #[.slice none 0 0, .slice none 0 0, .slice none 0 0] 27 (0, 0)) Zk hb)
                 replace HB := Zh (Zl Zs hb)
                 clear hb ho12
                 refine hK.out _ _ ⟨(blk_cell BK286.out 0).trans rfl, (blk_cell BK286.out 1).trans rfl, (blk_cell BK286.out 2).trans rfl⟩ (fun hHeld => ?_)
                 clear hK K
                 refine norm_ (a' := ?_) ?_ ?_
                 rotate_left
                 ·
                  show Act.put _ (some 3) _ = _
                  simp only [Act.put, List.setIfInBounds_toArray, List.set_cons_zero, List.set_cons_succ, i64_w, i32_w]
                  rfl
                 exact norm_ (by first | (simp only [putAll, Act.put, List.setIfInBounds_toArray, List.set_cons_zero, List.set_cons_succ]; done) | (simp only [putAll, Act.put, List.setIfInBounds_toArray, List.set_cons_zero, List.set_cons_succ]; rfl)) (hJ0_8 (v289, v301) _ ⟨hHeld, (ZR (R_mono HO290.out (fun _ hk => hk.2))), (ZR (R_mono HO302.out (fun _ hk => hk.2))), Zk, Zk, Zs⟩)
                skip
                refine R_lit_step (Kd.int .i64) _ 3 ?hg (N := 7) ?hd (xs := ([] : List Int)) (inner := []) (ok := fun _ => True) (okp := fun _ => True) ?hr ?hp (fun _ hk => hk) trivial (Below.refl _ _) (Nat.le_refl _) (by simp) ?_; (case hd => rfl); (case hg => rfl); (case hr => first | (go_simp; done) | (go_simp; rfl)); (case hp => exact (Reps.none _ _))
                intro v295 w11 ho12 hb hg_ hnew_
                clear hg_ hnew_
                (first | rw [← Ny294.out] at ho12 | (simp only [Int.reduceToNat] at ho12; rw [← Ny294.out] at ho12))
                have HO296 := Zh (R_lower (R_new' ho12 (R_lt (ZR HO302.out))) (below_size Zs))
                replace HO302 := Zh (R_elder' (ZR HO302.out) (R_base ho12) hb)
                replace BK286 := Zh (Zm (g := gb286) (o := .cells #[.slice A0_0 l0_0.length c0_0, .slice A0_1 l0_1.length c0_1, .slice A0_2 l0_2.length c0_2] 27 (0, 0)) Zk hb)
                replace BK287 := Zh (Zm (g := gb287) (o := .cells #[.slice none 0 0, .slice none 0 0, .slice none 0 0] 27 (0, 0)) Zk hb)
                replace HB := Zh (Zl Zs hb)
                clear hb ho12
                refine hK.out _ _ ⟨(blk_cell BK286.out 0).trans rfl, (blk_cell BK286.out 1).trans rfl, (blk_cell BK286.out 2).trans rfl⟩ (fun hHeld => ?_)
                clear hK K
                refine norm_ (a' := ?_) ?_ ?_
                rotate_left
                ·
                 show Act.put _ (some 7) _ = _
                 simp only [Act.put, List.setIfInBounds_toArray, List.set_cons_zero, List.set_cons_succ, i64_w, i32_w]
                 rfl
                exact norm_ (by first | (simp only [putAll, Act.put, List.setIfInBounds_toArray, List.set_cons_zero, List.set_cons_succ]; done) | (simp only [putAll, Act.put, List.setIfInBounds_toArray, List.set_cons_zero, List.set_cons_succ]; rfl)) (hJ4_8 (v295, v301) _ ⟨hHeld, (ZR (R_mono HO296.out (fun _ hk => hk.2))), (ZR (R_mono HO302.out (fun _ hk => hk.2))), Zk, Zk, Zs⟩)
               skip
               rintro v295 w10 ⟨hS_, h0_, h1_, h2_, h3_⟩
               have n0_ : Aside0 (Kd.R (Kd.int .i64) 3 w10 w.heap.size (fun _ => True) v295 y294) := ⟨h0_⟩
               have n1_ : Aside0 (w10.heap[gb286]? = some (.cells #[.slice A0_0 l0_0.length c0_0, .slice A0_1 l0_1.length c0_1, .slice A0_2 l0_2.length c0_2] 27 (0, 0))) := ⟨h1_⟩
               have n2_ : Aside0 (w10.heap[gb287]? = some (.cells #[.slice none 0 0, .slice none 0 0, .slice none 0 0] 27 (0, 0))) := ⟨h2_⟩
               have n3_ : Aside0 (Below w.heap.size w w10) := ⟨h3_⟩
               clear BK286
               clear BK287
               clear HB
               clear h0_ h1_ h2_ h3_
               have HO296 := n0_
               have BK286 := n1_
               have BK287 := n2_
               have HB := n3_
               clear n0_ n1_ n2_ n3_
               have hHeld : w10.cell? ⟨gb286, 0, none⟩ = some (.slice A0_0 l0_0.length c0_0) ∧ w10.cell? ⟨gb286, 1, none⟩ = some (.slice A0_1 l0_1.length c0_1) ∧ w10.cell? ⟨gb286, 2, none⟩ = some (.slice A0_2 l0_2.length c0_2) := hS_
               refine norm_ (a' := ?_) ?_ ?_
               rotate_left
               ·
                simp only [putAll, Act.put, List.setIfInBounds_toArray, List.set_cons_zero, List.set_cons_succ]
                rfl
               refine two_ (i := 0) (j := 8) (Ni := some 3) (Nj := some 11) #[true, true, true, false, true, true, true, false, false, true, true, false, false, false] #[false, true, true, false, true, true, true, false, true, true, true, false, false, false] rfl rfl rfl rfl (two_of HT_.out (by kernel_rfl)) (by decide) (by decide) (fun K hK => ?_) (fun K hK => ?_)
               ·
                skip
                refine R_lit_step (Kd.int .i64) _ 3 ?hg (N := 3) ?hd (xs := ([] : List Int)) (inner := []) (ok := fun _ => True) (okp := fun _ => True) ?hr ?hp (fun _ hk => hk) trivial (Below.refl _ _) (Nat.le_refl _) (by simp) ?_; (case hd => rfl); (case hg => rfl); (case hr => first | (go_simp; done) | (go_simp; rfl)); (case hp => exact (Reps.none _ _))
                intro v289 w11 ho12 hb hg_ hnew_
                clear hg_ hnew_
                (first | rw [← Ny288.out] at ho12 | (simp only [Int.reduceToNat] at ho12; rw [← Ny288.out] at ho12))
                have HO290 := Zh (R_lower (R_new' ho12 (R_lt (ZR HO296.out))) (below_size Zs))
                replace HO296 := Zh (R_elder' (ZR HO296.out) (R_base ho12) hb)
                replace BK286 := Zh (Zm (g := gb286) (o := .cells #[.slice A0_0 l0_0.length c0_0, .slice A0_1 l0_1.length c0_1, .slice A0_2 l0_2.length c0_2] 27 (0, 0)) Zk hb)
                replace BK287 := Zh (Zm (g := gb287) (o := .cells #[.slice none 0 0, .slice none 0 0, .slice none 0 0] 27 (0, 0)) Zk hb)
                replace HB := Zh (Zl Zs hb)
                clear hb ho12
                refine hK.out _ _ ⟨(blk_cell BK286.out 0).trans rfl, (blk_cell BK286.out 1).trans rfl, (blk_cell BK286.out 2).trans rfl⟩ (fun hHeld => ?_)
                clear hK K
                refine norm_ (a' := ?_) ?_ ?_
                rotate_left
                ·
                 show Act.put _ (some 3) _ = _
                 simp only [Act.put, List.setIfInBounds_toArray, List.set_cons_zero, List.set_cons_succ, i64_w, i32_w]
                 rfl
                exact norm_ (by first | (simp only [putAll, Act.put, List.setIfInBounds_toArray, List.set_cons_zero, List.set_cons_succ]; done) | (simp only [putAll, Act.put, List.setIfInBounds_toArray, List.set_cons_zero, List.set_cons_succ]; rfl)) (hJ0_4 (v289, v295) _ ⟨hHeld, (ZR (R_mono HO290.out (fun _ hk => hk.2))), (ZR (R_mono HO296.out (fun _ hk => hk.2))), Zk, Zk, Zs⟩)
               skip
               refine R_lit_step (Kd.int .i64) _ 3 ?hg (N := 11) ?hd (xs := ([] : List Int)) (inner := []) (ok := fun _ => True) (okp := fun _ => True) ?hr ?hp (fun _ hk => hk) trivial (Below.refl _ _) (Nat.le_refl _) (by simp) ?_; (case hd => rfl); (case hg => rfl); (case hr => first | (go_simp; done) | (go_simp; rfl)); (case hp => exact (Reps.none _ _))
               intro v301 w11 ho12 hb hg_ hnew_
               clear hg_ hnew_
               (first | rw [← Ny300.out] at ho12 | (simp only [Int.reduceToNat] at ho12; rw [← Ny300.out] at ho12))
               have HO302 := Zh (R_lower (R_new' ho12 (R_lt (ZR HO296.out))) (below_size Zs))
               replace HO296 := Zh (R_elder' (ZR HO296.out) (R_base ho12) hb)
               replace BK286 := Zh (Zm (g := gb286) (o := .cells #[.slice A0_0 l0_0.length c0_0, .slice A0_1 l0_1.length c0_1, .slice A0_2 l0_2.length c0_2] 27 (0, 0)) Zk hb)
               replace BK287 := Zh (Zm (g := gb287) (o := .cells #[.slice none 0 0, .slice none 0 0, .slice none 0 0] 27 (0, 0)) Zk hb)
               replace HB := Zh (Zl Zs hb)
               clear hb ho12
               refine hK.out _ _ ⟨(blk_cell BK286.out 0).trans rfl, (blk_cell BK286.out 1).trans rfl, (blk_cell BK286.out 2).trans rfl⟩ (fun hHeld => ?_)
               clear hK K
               refine norm_ (a' := ?_) ?_ ?_
               rotate_left
               ·
                show Act.put _ (some 11) _ = _
                simp only [Act.put, List.setIfInBounds_toArray, List.set_cons_zero, List.set_cons_succ, i64_w, i32_w]
                rfl
               exact norm_ (by first | (simp only [putAll, Act.put, List.setIfInBounds_toArray, List.set_cons_zero, List.set_cons_succ]; done) | (simp only [putAll, Act.put, List.setIfInBounds_toArray, List.set_cons_zero, List.set_cons_succ]; rfl)) (hJ4_8 (v295, v301) _ ⟨hHeld, (ZR (R_mono HO296.out (fun _ hk => hk.2))), (ZR (R_mono HO302.out (fun _ hk => hk.2))), Zk, Zk, Zs⟩)
              skip
              rintro v289 w10 ⟨hS_, h0_, h1_, h2_, h3_⟩
              have n0_ : Aside0 (Kd.R (Kd.int .i64) 3 w10 w.heap.size (fun _ => True) v289 y288) := ⟨h0_⟩
              have n1_ : Aside0 (w10.heap[gb286]? = some (.cells #[.slice A0_0 l0_0.length c0_0, .slice A0_1 l0_1.length c0_1, .slice A0_2 l0_2.length c0_2] 27 (0, 0))) := ⟨h1_⟩
              have n2_ : Aside0 (w10.heap[gb287]? = some (.cells #[.slice none 0 0, .slice none 0 0, .slice none 0 0] 27 (0, 0))) := ⟨h2_⟩
              have n3_ : Aside0 (Below w.heap.size w w10) := ⟨h3_⟩
              clear BK286
              clear BK287
              clear HB
              clear h0_ h1_ h2_ h3_
              have HO290 := n0_
              have BK286 := n1_
              have BK287 := n2_
              have HB := n3_
              clear n0_ n1_ n2_ n3_
              have hHeld : w10.cell? ⟨gb286, 0, none⟩ = some (.slice A0_0 l0_0.length c0_0) ∧ w10.cell? ⟨gb286, 1, none⟩ = some (.slice A0_1 l0_1.length c0_1) ∧ w10.cell? ⟨gb286, 2, none⟩ = some (.slice A0_2 l0_2.length c0_2) := hS_
              refine norm_ (a' := ?_) ?_ ?_
              rotate_left
              ·
               simp only [putAll, Act.put, List.setIfInBounds_toArray, List.set_cons_zero, List.set_cons_succ]
               rfl
              refine three_ (i := 3) (j := 4) (k := 8) (Ni := some 6) (Nj := some 7) (Nk := some 11) #[true, true, true, true, false, true, true, false, false, true, true, false, false, false] #[true, true, true, false, true, true, true, false, false, true, true, false, false, false] #[true, true, true, false, false, true, true, false, true, true, true, false, false, false] rfl rfl rfl rfl rfl rfl (three_of HT_.out (by kernel_rfl)) (by decide) (by decide) (by decide) (fun K hK => ?_) (fun K hK => ?_) (fun K hK => ?_)
              ·
               skip
               refine R_append_rows_step (Kd.int .i64) (w0 := w) w.heap.size (by rfl) (.tmp 3) (.tmp 5) 22 3 (.int .i64 0) 8 rfl Try.underlying22 info3 rfl (by decide) (by omega) v289 y288 l0_0 _ _ _ (fun _ => True) (fun _ => False) rfl rfl ?aO ?aR (fun _ _ h => h) (fun _ h => h.elim) ?aF ?aB ?aS ?aL ?_
               (case aR => repeat (first | exact (C_below HR0_0.out HB.out) | (with_reducible refine C_alloc ?_ _) | (with_reducible refine C_drewN ?_ _) | (with_reducible refine C_drew ?_)))
               (case aB => exact Zs)
               (case aF => exact (fun _ _ => trivial))
               (case aO => exact (ZR HO290.out))
               (case aS => exact (below_size Zs))
               (case aL => have := LMc2.out; omega)
               intro v292 w11 ho hb hg hat
               rw [← Ny291.out] at ho
               have n0_ := Zh (blk_grown (g := gb286) (o := .cells #[.slice A0_0 l0_0.length c0_0, .slice A0_1 l0_1.length c0_1, .slice A0_2 l0_2.length c0_2] 27 (0, 0)) Zk hg (R_ne HO290.out BK286.out (by decide)))
               have n1_ := Zh (blk_grown (g := gb287) (o := .cells #[.slice none 0 0, .slice none 0 0, .slice none 0 0] 27 (0, 0)) Zk hg (R_ne HO290.out BK287.out (by decide)))
               have n2_ := Zh (hb)
               have n3_ := Zh (ho)
               clear BK286
               clear BK287
               clear HB
               clear HO290
               have BK286 := n0_
               have BK287 := n1_
               have HB := n2_
               have HO293 := n3_
               clear n0_ n1_ n2_ n3_
               clear ho hb hg hat
               refine hK.out _ _ ⟨(blk_cell BK286.out 0).trans rfl, (blk_cell BK286.out 1).trans rfl, (blk_cell BK286.out 2).trans rfl⟩ (fun hHeld => ?_)
               clear hK K
               refine norm_ (a' := ?_) ?_ ?_
               rotate_left
               ·
                show Act.put _ (some 6) _ = _
                simp only [Act.put, List.setIfInBounds_toArray, List.set_cons_zero, List.set_cons_succ, i64_w, i32_w]
                rfl
               exact norm_ (by first | (simp only [putAll, Act.put, List.setIfInBounds_toArray, List.set_cons_zero, List.set_cons_succ]; done) | (simp only [putAll, Act.put, List.setIfInBounds_toArray, List.set_cons_zero, List.set_cons_succ]; rfl)) (hJ0_3 (v289, v292) _ ⟨hHeld, (ZR HO293.out), Zk, Zk, Zs⟩)
              ·
               skip
               refine R_lit_step (Kd.int .i64) _ 3 ?hg (N := 7) ?hd (xs := ([] : List Int)) (inner := []) (ok := fun _ => True) (okp := fun _ => True) ?hr ?hp (fun _ hk => hk) trivial (Below.refl _ _) (Nat.le_refl _) (by simp) ?_; (case hd => rfl); (case hg => rfl); (case hr => first | (go_simp; done) | (go_simp; rfl)); (case hp => exact (Reps.none _ _))
               intro v295 w11 ho12 hb hg_ hnew_
               clear hg_ hnew_
               (first | rw [← Ny294.out] at ho12 | (simp only [Int.reduceToNat] at ho12; rw [← Ny294.out] at ho12))
               have HO296 := Zh (R_lower (R_new' ho12 (R_lt (ZR HO290.out))) (below_size Zs))
               replace HO290 := Zh (R_elder' (ZR HO290.out) (R_base ho12) hb)
               replace BK286 := Zh (Zm (g := gb286) (o := .cells #[.slice A0_0 l0_0.length c0_0, .slice A0_1 l0_1.length c0_1, .slice A0_2 l0_2.length c0_2] 27 (0, 0)) Zk hb)
               replace BK287 := Zh (Zm (g := gb287) (o := .cells #[.slice none 0 0, .slice none 0 0, .slice none 0 0] 27 (0, 0)) Zk hb)
               replace HB := Zh (Zl Zs hb)
               clear hb ho12
               refine hK.out _ _ ⟨(blk_cell BK286.out 0).trans rfl, (blk_cell BK286.out 1).trans rfl, (blk_cell BK286.out 2).trans rfl⟩ (fun hHeld => ?_)
               clear hK K
               refine norm_ (a' := ?_) ?_ ?_
               rotate_left
               ·
                show Act.put _ (some 7) _ = _
                simp only [Act.put, List.setIfInBounds_toArray, List.set_cons_zero, List.set_cons_succ, i64_w, i32_w]
                rfl
               exact norm_ (by first | (simp only [putAll, Act.put, List.setIfInBounds_toArray, List.set_cons_zero, List.set_cons_succ]; done) | (simp only [putAll, Act.put, List.setIfInBounds_toArray, List.set_cons_zero, List.set_cons_succ]; rfl)) (hJ0_4 (v289, v295) _ ⟨hHeld, (ZR (R_mono HO290.out (fun _ hk => hk.2))), (ZR (R_mono HO296.out (fun _ hk => hk.2))), Zk, Zk, Zs⟩)
              skip
              refine R_lit_step (Kd.int .i64) _ 3 ?hg (N := 11) ?hd (xs := ([] : List Int)) (inner := []) (ok := fun _ => True) (okp := fun _ => True) ?hr ?hp (fun _ hk => hk) trivial (Below.refl _ _) (Nat.le_refl _) (by simp) ?_; (case hd => rfl); (case hg => rfl); (case hr => first | (go_simp; done) | (go_simp; rfl)); (case hp => exact (Reps.none _ _))
              intro v301 w11 ho12 hb hg_ hnew_
              clear hg_ hnew_
              (first | rw [← Ny300.out] at ho12 | (simp only [Int.reduceToNat] at ho12; rw [← Ny300.out] at ho12))
              have HO302 := Zh (R_lower (R_new' ho12 (R_lt (ZR HO290.out))) (below_size Zs))
              replace HO290 := Zh (R_elder' (ZR HO290.out) (R_base ho12) hb)
              replace BK286 := Zh (Zm (g := gb286) (o := .cells #[.slice A0_0 l0_0.length c0_0, .slice A0_1 l0_1.length c0_1, .slice A0_2 l0_2.length c0_2] 27 (0, 0)) Zk hb)
              replace BK287 := Zh (Zm (g := gb287) (o := .cells #[.slice none 0 0, .slice none 0 0, .slice none 0 0] 27 (0, 0)) Zk hb)
              replace HB := Zh (Zl Zs hb)
              clear hb ho12
              refine hK.out _ _ ⟨(blk_cell BK286.out 0).trans rfl, (blk_cell BK286.out 1).trans rfl, (blk_cell BK286.out 2).trans rfl⟩ (fun hHeld => ?_)
              clear hK K
              refine norm_ (a' := ?_) ?_ ?_
              rotate_left
              ·
               show Act.put _ (some 11) _ = _
               simp only [Act.put, List.setIfInBounds_toArray, List.set_cons_zero, List.set_cons_succ, i64_w, i32_w]
               rfl
              exact norm_ (by first | (simp only [putAll, Act.put, List.setIfInBounds_toArray, List.set_cons_zero, List.set_cons_succ]; done) | (simp only [putAll, Act.put, List.setIfInBounds_toArray, List.set_cons_zero, List.set_cons_succ]; rfl)) (hJ0_8 (v289, v301) _ ⟨hHeld, (ZR (R_mono HO290.out (fun _ hk => hk.2))), (ZR (R_mono HO302.out (fun _ hk => hk.2))), Zk, Zk, Zs⟩)
             skip
             rintro ⟨v295, v301⟩ w12 ⟨hS_, h0_, h1_, h2_, h3_, h4_⟩
             have n0_ : Aside0 (Kd.R (Kd.int .i64) 3 w12 w.heap.size (fun k_ => some k_ ≠ (v301 : Value).ownBlock) v295 y294) := ⟨h0_⟩
             have n1_ : Aside0 (Kd.R (Kd.int .i64) 3 w12 w.heap.size (fun k_ => some k_ ≠ (v295 : Value).ownBlock) v301 y300) := ⟨h1_⟩
             have n2_ : Aside0 (w12.heap[gb286]? = some (.cells #[.slice A0_0 l0_0.length c0_0, .slice A0_1 l0_1.length c0_1, .slice A0_2 l0_2.length c0_2] 27 (0, 0))) := ⟨h2_⟩
             have n3_ : Aside0 (w12.heap[gb287]? = some (.cells #[.slice none 0 0, .slice none 0 0, .slice none 0 0] 27 (0, 0))) := ⟨h3_⟩
             have n4_ : Aside0 (Below w.heap.size w w12) := ⟨h4_⟩
             clear BK286
             clear BK287
             clear HB
             clear h0_ h1_ h2_ h3_ h4_
             have HO296 := n0_
             have HO302 := n1_
             have BK286 := n2_
             have BK287 := n3_
             have HB := n4_
             clear n0_ n1_ n2_ n3_ n4_
             have hHeld : w12.cell? ⟨gb286, 0, none⟩ = some (.slice A0_0 l0_0.length c0_0) ∧ w12.cell? ⟨gb286, 1, none⟩ = some (.slice A0_1 l0_1.length c0_1) ∧ w12.cell? ⟨gb286, 2, none⟩ = some (.slice A0_2 l0_2.length c0_2) := hS_
             refine norm_ (a' := ?_) ?_ ?_
             rotate_left
             ·
              simp only [putAll, Act.put, List.setIfInBounds_toArray, List.set_cons_zero, List.set_cons_succ]
              rfl
             refine one_ (i := 0) (N := some 3) #[true, true, true, false, true, true, true, false, true, true, true, false, false, false] rfl rfl (one_of HT_.out (by kernel_rfl)) (by decide) (fun K hK => ?_)
             refine R_lit_step (Kd.int .i64) _ 3 ?hg (N := 3) ?hd (xs := ([] : List Int)) (inner := []) (ok := fun _ => True) (okp := fun _ => True) ?hr ?hp (fun _ hk => hk) trivial (Below.refl _ _) (Nat.le_refl _) (by simp) ?_; (case hd => rfl); (case hg => rfl); (case hr => first | (go_simp; done) | (go_simp; rfl)); (case hp => exact (Reps.none _ _))
             intro v289 w13 ho14 hb hg_ hnew_
             clear hg_ hnew_
             (first | rw [← Ny288.out] at ho14 | (simp only [Int.reduceToNat] at ho14; rw [← Ny288.out] at ho14))
             have HO290 := Zh (R_lower (R_new' (R_new' ho14 (R_lt (ZR HO296.out))) (R_lt (ZR HO302.out))) (below_size Zs))
             replace HO296 := Zh (R_elder' (ZR HO296.out) (R_base ho14) hb)
             replace HO302 := Zh (R_elder' (ZR HO302.out) (R_base ho14) hb)
             replace BK286 := Zh (Zm (g := gb286) (o := .cells #[.slice A0_0 l0_0.length c0_0, .slice A0_1 l0_1.length c0_1, .slice A0_2 l0_2.length c0_2] 27 (0, 0)) Zk hb)
             replace BK287 := Zh (Zm (g := gb287) (o := .cells #[.slice none 0 0, .slice none 0 0, .slice none 0 0] 27 (0, 0)) Zk hb)
             replace HB := Zh (Zl Zs hb)
             clear hb ho14
             refine hK.out _ _ ⟨(blk_cell BK286.out 0).trans rfl, (blk_cell BK286.out 1).trans rfl, (blk_cell BK286.out 2).trans rfl⟩ (fun hHeld => ?_)
             clear hK K
             refine norm_ (a' := ?_) ?_ ?_
             rotate_left
             ·
              show Act.put _ (some 3) _ = _
              simp only [Act.put, List.setIfInBounds_toArray, List.set_cons_zero, List.set_cons_succ, i64_w, i32_w]
              rfl
             exact norm_ (by first | (simp only [putAll, Act.put, List.setIfInBounds_toArray, List.set_cons_zero, List.set_cons_succ]; done) | (simp only [putAll, Act.put, List.setIfInBounds_toArray, List.set_cons_zero, List.set_cons_succ]; rfl)) (hJ0_4_8 (v289, v295, v301) _ ⟨hHeld, (ZR (R_mono HO290.out (fun _ hk => ⟨hk.1.2, hk.2⟩))), (ZR (R_mono HO296.out (fun _ hk => ⟨hk.2, hk.1⟩))), (ZR (R_mono HO302.out (fun _ hk => ⟨hk.2, hk.1⟩))), Zk, Zk, Zs⟩)
            skip
            rintro ⟨v289, v301⟩ w12 ⟨hS_, h0_, h1_, h2_, h3_, h4_⟩
            have n0_ : Aside0 (Kd.R (Kd.int .i64) 3 w12 w.heap.size (fun k_ => some k_ ≠ (v301 : Value).ownBlock) v289 y288) := ⟨h0_⟩
            have n1_ : Aside0 (Kd.R (Kd.int .i64) 3 w12 w.heap.size (fun k_ => some k_ ≠ (v289 : Value).ownBlock) v301 y300) := ⟨h1_⟩
            have n2_ : Aside0 (w12.heap[gb286]? = some (.cells #[.slice A0_0 l0_0.length c0_0, .slice A0_1 l0_1.length c0_1, .slice A0_2 l0_2.length c0_2] 27 (0, 0))) := ⟨h2_⟩
            have n3_ : Aside0 (w12.heap[gb287]? = some (.cells #[.slice none 0 0, .slice none 0 0, .slice none 0 0] 27 (0, 0))) := ⟨h3_⟩
            have n4_ : Aside0 (Below w.heap.size w w12) := ⟨h4_⟩
            clear BK286
            clear BK287
            clear HB
            clear h0_ h1_ h2_ h3_ h4_
            have HO290 := n0_
            have HO302 := n1_
            have BK286 := n2_
            have BK287 := n3_
            have HB := n4_
            clear n0_ n1_ n2_ n3_ n4_
            have hHeld : w12.cell? ⟨gb286, 0, none⟩ = some (.slice A0_0 l0_0.length c0_0) ∧ w12.cell? ⟨gb286, 1, none⟩ = some (.slice A0_1 l0_1.length c0_1) ∧ w12.cell? ⟨gb286, 2, none⟩ = some (.slice A0_2 l0_2.length c0_2) := hS_
            refine norm_ (a' := ?_) ?_ ?_
            rotate_left
            ·
             simp only [putAll, Act.put, List.setIfInBounds_toArray, List.set_cons_zero, List.set_cons_succ]
             rfl
            refine two_ (i := 3) (j := 4) (Ni := some 6) (Nj := some 7) #[true, true, true, true, false, true, true, false, true, true, true, false, false, false] #[true, true, true, false, true, true, true, false, true, true, true, false, false, false] rfl rfl rfl rfl (two_of HT_.out (by kernel_rfl)) (by decide) (by decide) (fun K hK => ?_) (fun K hK => ?_)
            ·
             skip
             refine R_append_rows_step (Kd.int .i64) (w0 := w) w.heap.size (by rfl) (.tmp 3) (.tmp 5) 22 3 (.int .i64 0) 8 rfl Try.underlying22 info3 rfl (by decide) (by omega) v289 y288 l0_0 _ _ _ (fun k_ => some k_ ≠ (v301 : Value).ownBlock) (fun _ => False) rfl rfl ?aO ?aR (fun _ _ h => h) (fun _ h => h.elim) ?aF ?aB ?aS ?aL ?_
             (case aR => repeat (first | exact (C_below HR0_0.out HB.out) | (with_reducible refine C_alloc ?_ _) | (with_reducible refine C_drewN ?_ _) | (with_reducible refine C_drew ?_)))
             (case aB => exact Zs)
             (case aF => exact (fun k_ hk => Kd.fresh' (R_lt (ZR HO302.out)) k_ hk))
             (case aO => exact (ZR HO290.out))
             (case aS => exact (below_size Zs))
             (case aL => have := LMc2.out; omega)
             intro v292 w13 ho hb hg hat
             rw [← Ny291.out] at ho
             have n0_ := Zh (blk_grown (g := gb286) (o := .cells #[.slice A0_0 l0_0.length c0_0, .slice A0_1 l0_1.length c0_1, .slice A0_2 l0_2.length c0_2] 27 (0, 0)) Zk hg (R_ne HO290.out BK286.out (by decide)))
             have n1_ := Zh (blk_grown (g := gb287) (o := .cells #[.slice none 0 0, .slice none 0 0, .slice none 0 0] 27 (0, 0)) Zk hg (R_ne HO290.out BK287.out (by decide)))
             have n2_ := Zh (R_after (ok := (fun _ => True)) (ZR (R_mono HO302.out (fun _ hk => ⟨trivial, hk⟩))) hg hat)
             have n3_ := Zh (hb)
             have n4_ := Zh (ho)
             clear BK286
             clear BK287
             clear HO302
             clear HB
             clear HO290
             have BK286 := n0_
             have BK287 := n1_
             have HO302 := n2_
             have HB := n3_
             have HO293 := n4_
             clear n0_ n1_ n2_ n3_ n4_
             clear ho hb hg hat
             refine hK.out _ _ ⟨(blk_cell BK286.out 0).trans rfl, (blk_cell BK286.out 1).trans rfl, (blk_cell BK286.out 2).trans rfl⟩ (fun hHeld => ?_)
             clear hK K
             refine norm_ (a' := ?_) ?_ ?_
             rotate_left
             ·
              show Act.put _ (some 6) _ = _
              simp only [Act.put, List.setIfInBounds_toArray, List.set_cons_zero, List.set_cons_succ, i64_w, i32_w]
              rfl
             exact norm_ (by first | (simp only [putAll, Act.put, List.setIfInBounds_toArray, List.set_cons_zero, List.set_cons_succ]; done) | (simp only [putAll, Act.put, List.setIfInBounds_toArray, List.set_cons_zero, List.set_cons_succ]; rfl)) (hJ0_3_8 (v289, v292, v301) _ ⟨hHeld, (ZR HO293.out), (ZR (R_mono HO302.out (fun _ hk => hk.2))), Zk, Zk, Zs⟩)
            skip
            refine R_lit_step (Kd.int .i64) _ 3 ?hg (N := 7) ?hd (xs := ([] : List Int)) (inner := []) (ok := fun _ => True) (okp := fun _ => True) ?hr ?hp (fun _ hk => hk) trivial (Below.refl _ _) (Nat.le_refl _) (by simp) ?_; (case hd => rfl); (case hg => rfl); (case hr => first | (go_simp; done) | (go_simp; rfl)); (case hp => exact (Reps.none _ _))
            intro v295 w13 ho14 hb hg_ hnew_
            clear hg_ hnew_
            (first | rw [← Ny294.out] at ho14 | (simp only [Int.reduceToNat] at ho14; rw [← Ny294.out] at ho14))
            have HO296 := Zh (R_lower (R_new' (R_new' ho14 (R_lt (ZR HO290.out))) (R_lt (ZR HO302.out))) (below_size Zs))
            replace HO290 := Zh (R_elder' (ZR HO290.out) (R_base ho14) hb)
            replace HO302 := Zh (R_elder' (ZR HO302.out) (R_base ho14) hb)
            replace BK286 := Zh (Zm (g := gb286) (o := .cells #[.slice A0_0 l0_0.length c0_0, .slice A0_1 l0_1.length c0_1, .slice A0_2 l0_2.length c0_2] 27 (0, 0)) Zk hb)
            replace BK287 := Zh (Zm (g := gb287) (o := .cells #[.slice none 0 0, .slice none 0 0, .slice none 0 0] 27 (0, 0)) Zk hb)
            replace HB := Zh (Zl Zs hb)
            clear hb ho14
            refine hK.out _ _ ⟨(blk_cell BK286.out 0).trans rfl, (blk_cell BK286.out 1).trans rfl, (blk_cell BK286.out 2).trans rfl⟩ (fun hHeld => ?_)
            clear hK K
            refine norm_ (a' := ?_) ?_ ?_
            rotate_left
            ·
             show Act.put _ (some 7) _ = _
             simp only [Act.put, List.setIfInBounds_toArray, List.set_cons_zero, List.set_cons_succ, i64_w, i32_w]
             rfl
            exact norm_ (by first | (simp only [putAll, Act.put, List.setIfInBounds_toArray, List.set_cons_zero, List.set_cons_succ]; done) | (simp only [putAll, Act.put, List.setIfInBounds_toArray, List.set_cons_zero, List.set_cons_succ]; rfl)) (hJ0_4_8 (v289, v295, v301) _ ⟨hHeld, (ZR (R_mono HO290.out (fun _ hk => ⟨hk.2, hk.1⟩))), (ZR (R_mono HO296.out (fun _ hk => ⟨hk.1.2, hk.2⟩))), (ZR HO302.out), Zk, Zk, Zs⟩)
           skip
           rintro ⟨v289, v295⟩ w12 ⟨hS_, h0_, h1_, h2_, h3_, h4_⟩
           have n0_ : Aside0 (Kd.R (Kd.int .i64) 3 w12 w.heap.size (fun k_ => some k_ ≠ (v295 : Value).ownBlock) v289 y288) := ⟨h0_⟩
           have n1_ : Aside0 (Kd.R (Kd.int .i64) 3 w12 w.heap.size (fun k_ => some k_ ≠ (v289 : Value).ownBlock) v295 y294) := ⟨h1_⟩
           have n2_ : Aside0 (w12.heap[gb286]? = some (.cells #[.slice A0_0 l0_0.length c0_0, .slice A0_1 l0_1.length c0_1, .slice A0_2 l0_2.length c0_2] 27 (0, 0))) := ⟨h2_⟩
           have n3_ : Aside0 (w12.heap[gb287]? = some (.cells #[.slice none 0 0, .slice none 0 0, .slice none 0 0] 27 (0, 0))) := ⟨h3_⟩
           have n4_ : Aside0 (Below w.heap.size w w12) := ⟨h4_⟩
           clear BK286
           clear BK287
           clear HB
           clear h0_ h1_ h2_ h3_ h4_
           have HO290 := n0_
           have HO296 := n1_
           have BK286 := n2_
           have BK287 := n3_
           have HB := n4_
           clear n0_ n1_ n2_ n3_ n4_
           have hHeld : w12.cell? ⟨gb286, 0, none⟩ = some (.slice A0_0 l0_0.length c0_0) ∧ w12.cell? ⟨gb286, 1, none⟩ = some (.slice A0_1 l0_1.length c0_1) ∧ w12.cell? ⟨gb286, 2, none⟩ = some (.slice A0_2 l0_2.length c0_2) := hS_
           refine norm_ (a' := ?_) ?_ ?_
           rotate_left
           ·
            simp only [putAll, Act.put, List.setIfInBounds_toArray, List.set_cons_zero, List.set_cons_succ]
            rfl
           refine two_ (i := 3) (j := 8) (Ni := some 6) (Nj := some 11) #[true, true, true, true, true, true, true, false, false, true, true, false, false, false] #[true, true, true, false, true, true, true, false, true, true, true, false, false, false] rfl rfl rfl rfl (two_of HT_.out (by kernel_rfl)) (by decide) (by decide) (fun K hK => ?_) (fun K hK => ?_)
           ·
            skip
            refine R_append_rows_step (Kd.int .i64) (w0 := w) w.heap.size (by rfl) (.tmp 3) (.tmp 5) 22 3 (.int .i64 0) 8 rfl Try.underlying22 info3 rfl (by decide) (by omega) v289 y288 l0_0 _ _ _ (fun k_ => some k_ ≠ (v295 : Value).ownBlock) (fun _ => False) rfl rfl ?aO ?aR (fun _ _ h => h) (fun _ h => h.elim) ?aF ?aB ?aS ?aL ?_
            (case aR => repeat (first | exact (C_below HR0_0.out HB.out) | (with_reducible refine C_alloc ?_ _) | (with_reducible refine C_drewN ?_ _) | (with_reducible refine C_drew ?_)))
            (case aB => exact Zs)
            (case aF => exact (fun k_ hk => Kd.fresh' (R_lt (ZR HO296.out)) k_ hk))
            (case aO => exact (ZR HO290.out))
            (case aS => exact (below_size Zs))
            (case aL => have := LMc2.out; omega)
            intro v292 w13 ho hb hg hat
            rw [← Ny291.out] at ho
            have n0_ := Zh (blk_grown (g := gb286) (o := .cells #[.slice A0_0 l0_0.length c0_0, .slice A0_1 l0_1.length c0_1, .slice A0_2 l0_2.length c0_2] 27 (0, 0)) Zk hg (R_ne HO290.out BK286.out (by decide)))
            have n1_ := Zh (blk_grown (g := gb287) (o := .cells #[.slice none 0 0, .slice none 0 0, .slice none 0 0] 27 (0, 0)) Zk hg (R_ne HO290.out BK287.out (by decide)))
            have n2_ := Zh (R_after (ok := (fun _ => True)) (ZR (R_mono HO296.out (fun _ hk => ⟨trivial, hk⟩))) hg hat)
            have n3_ := Zh (hb)
            have n4_ := Zh (ho)
            clear BK286
            clear BK287
            clear HO296
            clear HB
            clear HO290
            have BK286 := n0_
            have BK287 := n1_
            have HO296 := n2_
            have HB := n3_
            have HO293 := n4_
            clear n0_ n1_ n2_ n3_ n4_
            clear ho hb hg hat
            refine hK.out _ _ ⟨(blk_cell BK286.out 0).trans rfl, (blk_cell BK286.out 1).trans rfl, (blk_cell BK286.out 2).trans rfl⟩ (fun hHeld => ?_)
            clear hK K
            refine norm_ (a' := ?_) ?_ ?_
            rotate_left
            ·
             show Act.put _ (some 6) _ = _
             simp only [Act.put, List.setIfInBounds_toArray, List.set_cons_zero, List.set_cons_succ, i64_w, i32_w]
             rfl
            exact norm_ (by first | (simp only [putAll, Act.put, List.setIfInBounds_toArray, List.set_cons_zero, List.set_cons_succ]; done) | (simp only [putAll, Act.put, List.setIfInBounds_toArray, List.set_cons_zero, List.set_cons_succ]; rfl)) (hJ0_3_4 (v289, v292, v295) _ ⟨hHeld, (ZR HO293.out), (ZR (R_mono HO296.out (fun _ hk => hk.2))), Zk, Zk, Zs⟩)
           skip
           refine R_lit_step (Kd.int .i64) _ 3 ?hg (N := 11) ?hd (xs := ([] : List Int)) (inner := []) (ok := fun _ => True) (okp := fun _ => True) ?hr ?hp (fun _ hk => hk) trivial (Below.refl _ _) (Nat.le_refl _) (by simp) ?_; (case hd => rfl); (case hg => rfl); (case hr => first | (go_simp; done) | (go_simp; rfl)); (case hp => exact (Reps.none _ _))
           intro v301 w13 ho14 hb hg_ hnew_
           clear hg_ hnew_
           (first | rw [← Ny300.out] at ho14 | (simp only [Int.reduceToNat] at ho14; rw [← Ny300.out] at ho14))
           have HO302 := Zh (R_lower (R_new' (R_new' ho14 (R_lt (ZR HO290.out))) (R_lt (ZR HO296.out))) (below_size Zs))
           replace HO290 := Zh (R_elder' (ZR HO290.out) (R_base ho14) hb)
           replace HO296 := Zh (R_elder' (ZR HO296.out) (R_base ho14) hb)
           replace BK286 := Zh (Zm (g := gb286) (o := .cells #[.slice A0_0 l0_0.length c0_0, .slice A0_1 l0_1.length c0_1, .slice A0_2 l0_2.length c0_2] 27 (0, 0)) Zk hb)
           replace BK287 := Zh (Zm (g := gb287) (o := .cells #[.slice none 0 0, .slice none 0 0, .slice none 0 0] 27 (0, 0)) Zk hb)
           replace HB := Zh (Zl Zs hb)
           clear hb ho14
           refine hK.out _ _ ⟨(blk_cell BK286.out 0).trans rfl, (blk_cell BK286.out 1).trans rfl, (blk_cell BK286.out 2).trans rfl⟩ (fun hHeld => ?_)
           clear hK K
           refine norm_ (a' := ?_) ?_ ?_
           rotate_left
           ·
            show Act.put _ (some 11) _ = _
            simp only [Act.put, List.setIfInBounds_toArray, List.set_cons_zero, List.set_cons_succ, i64_w, i32_w]
            rfl
           exact norm_ (by first | (simp only [putAll, Act.put, List.setIfInBounds_toArray, List.set_cons_zero, List.set_cons_succ]; done) | (simp only [putAll, Act.put, List.setIfInBounds_toArray, List.set_cons_zero, List.set_cons_succ]; rfl)) (hJ0_4_8 (v289, v295, v301) _ ⟨hHeld, (ZR HO290.out), (ZR HO296.out), (ZR (R_mono HO302.out (fun _ hk => ⟨hk.1.2, hk.2⟩))), Zk, Zk, Zs⟩)
          skip
          rintro ⟨v289, v292⟩ w11 ⟨hS_, h0_, h1_, h2_, h3_⟩
          have n0_ : Aside0 (Kd.R (Kd.int .i64) 3 w11 w.heap.size (fun _ => True) v292 y291) := ⟨h0_⟩
          have n1_ : Aside0 (w11.heap[gb286]? = some (.cells #[.slice A0_0 l0_0.length c0_0, .slice A0_1 l0_1.length c0_1, .slice A0_2 l0_2.length c0_2] 27 (0, 0))) := ⟨h1_⟩
          have n2_ : Aside0 (w11.heap[gb287]? = some (.cells #[.slice none 0 0, .slice none 0 0, .slice none 0 0] 27 (0, 0))) := ⟨h2_⟩
          have n3_ : Aside0 (Below w.heap.size w w11) := ⟨h3_⟩
          clear BK286
          clear BK287
          clear HB
          clear h0_ h1_ h2_ h3_
          have HO293 := n0_
          have BK286 := n1_
          have BK287 := n2_
          have HB := n3_
          clear n0_ n1_ n2_ n3_
          have hHeld : w11.cell? ⟨gb286, 0, none⟩ = some (.slice A0_0 l0_0.length c0_0) ∧ w11.cell? ⟨gb286, 1, none⟩ = some (.slice A0_1 l0_1.length c0_1) ∧ w11.cell? ⟨gb286, 2, none⟩ = some (.slice A0_2 l0_2.length c0_2) := hS_
          refine norm_ (a' := ?_) ?_ ?_
          rotate_left
          ·
           simp only [putAll, Act.put, List.setIfInBounds_toArray, List.set_cons_zero, List.set_cons_succ]
           rfl
          refine two_ (i := 4) (j := 8) (Ni := some 7) (Nj := some 11) #[true, true, true, true, true, true, true, false, false, true, true, false, false, false] #[true, true, true, true, false, true, true, false, true, true, true, false, false, false] rfl rfl rfl rfl (two_of HT_.out (by kernel_rfl)) (by decide) (by decide) (fun K hK => ?_) (fun K hK => ?_)
          ·
           skip
           refine R_lit_step (Kd.int .i64) _ 3 ?hg (N := 7) ?hd (xs := ([] : List Int)) (inner := []) (ok := fun _ => True) (okp := fun _ => True) ?hr ?hp (fun _ hk => hk) trivial (Below.refl _ _) (Nat.le_refl _) (by simp) ?_; (case hd => rfl); (case hg => rfl); (case hr => first | (go_simp; done) | (go_simp; rfl)); (case hp => exact (Reps.none _ _))
           intro v295 w12 ho13 hb hg_ hnew_
           clear hg_ hnew_
           (first | rw [← Ny294.out] at ho13 | (simp only [Int.reduceToNat] at ho13; rw [← Ny294.out] at ho13))
           have HO296 := Zh (R_lower (R_new' ho13 (R_lt (ZR HO293.out))) (below_size Zs))
           replace HO293 := Zh (R_elder' (ZR HO293.out) (R_base ho13) hb)
           replace BK286 := Zh (Zm (g := gb286) (o := .cells #[.slice A0_0 l0_0.length c0_0, .slice A0_1 l0_1.length c0_1, .slice A0_2 l0_2.length c0_2] 27 (0, 0)) Zk hb)
           replace BK287 := Zh (Zm (g := gb287) (o := .cells #[.slice none 0 0, .slice none 0 0, .slice none 0 0] 27 (0, 0)) Zk hb)
           replace HB := Zh (Zl Zs hb)
           clear hb ho13
           refine hK.out _ _ ⟨(blk_cell BK286.out 0).trans rfl, (blk_cell BK286.out 1).trans rfl, (blk_cell BK286.out 2).trans rfl⟩ (fun hHeld => ?_)
           clear hK K
           refine norm_ (a' := ?_) ?_ ?_
           rotate_left
           ·
            show Act.put _ (some 7) _ = _
            simp only [Act.put, List.setIfInBounds_toArray, List.set_cons_zero, List.set_cons_succ, i64_w, i32_w]
            rfl
           exact norm_ (by first | (simp only [putAll, Act.put, List.setIfInBounds_toArray, List.set_cons_zero, List.set_cons_succ]; done) | (simp only [putAll, Act.put, List.setIfInBounds_toArray, List.set_cons_zero, List.set_cons_succ]; rfl)) (hJ0_3_4 (v289, v292, v295) _ ⟨hHeld, (ZR (R_mono HO293.out (fun _ hk => hk.2))), (ZR (R_mono HO296.out (fun _ hk => hk.2))), Zk, Zk, Zs⟩)
          skip
          refine R_lit_step (Kd.int .i64) _ 3 ?hg (N := 11) ?hd (xs := ([] : List Int)) (inner := []) (ok := fun _ => True) (okp := fun _ => True) ?hr ?hp (fun _ hk => hk) trivial (Below.refl _ _) (Nat.le_refl _) (by simp) ?_; (case hd => rfl); (case hg => rfl); (case hr => first | (go_simp; done) | (go_simp; rfl)); (case hp => exact (Reps.none _ _))
          intro v301 w12 ho13 hb hg_ hnew_
          clear hg_ hnew_
          (first | rw [← Ny300.out] at ho13 | (simp only [Int.reduceToNat] at ho13; rw [← Ny300.out] at ho13))
          have HO302 := Zh (R_lower (R_new' ho13 (R_lt (ZR HO293.out))) (below_size Zs))
          replace HO293 := Zh (R_elder' (ZR HO293.out) (R_base ho13) hb)
          replace BK286 := Zh (Zm (g := gb286) (o := .cells #[.slice A0_0 l0_0.length c0_0, .slice A0_1 l0_1.length c0_1, .slice A0_2 l0_2.length c0_2] 27 (0, 0)) Zk hb)
          replace BK287 := Zh (Zm (g := gb287) (o := .cells #[.slice none 0 0, .slice none 0 0, .slice none 0 0] 27 (0, 0)) Zk hb)
          replace HB := Zh (Zl Zs hb)
          clear hb ho13
          refine hK.out _ _ ⟨(blk_cell BK286.out 0).trans rfl, (blk_cell BK286.out 1).trans rfl, (blk_cell BK286.out 2).trans rfl⟩ (fun hHeld => ?_)
          clear hK K
          refine norm_ (a' := ?_) ?_ ?_
          rotate_left
          ·
           show Act.put _ (some 11) _ = _
           simp only [Act.put, List.setIfInBounds_toArray, List.set_cons_zero, List.set_cons_succ, i64_w, i32_w]
           rfl
          exact norm_ (by first | (simp only [putAll, Act.put, List.setIfInBounds_toArray, List.set_cons_zero, List.set_cons_succ]; done) | (simp only [putAll, Act.put, List.setIfInBounds_toArray, List.set_cons_zero, List.set_cons_succ]; rfl)) (hJ0_3_8 (v289, v292, v301) _ ⟨hHeld, (ZR (R_mono HO293.out (fun _ hk => hk.2))), (ZR (R_mono HO302.out (fun _ hk => hk.2))), Zk, Zk, Zs⟩)
         skip
         rintro ⟨v289, v295, v301⟩ w14 ⟨hS_, h0_, h1_, h2_, h3_, h4_, h5_⟩
         have n0_ : Aside0 (Kd.R (Kd.int .i64) 3 w14 w.heap.size (fun k_ => some k_ ≠ (v295 : Value).ownBlock ∧ some k_ ≠ (v301 : Value).ownBlock) v289 y288) := ⟨h0_⟩
         have n1_ : Aside0 (Kd.R (Kd.int .i64) 3 w14 w.heap.size (fun k_ => some k_ ≠ (v289 : Value).ownBlock ∧ some k_ ≠ (v301 : Value).ownBlock) v295 y294) := ⟨h1_⟩
         have n2_ : Aside0 (Kd.R (Kd.int .i64) 3 w14 w.heap.size (fun k_ => some k_ ≠ (v289 : Value).ownBlock ∧ some k_ ≠ (v295 : Value).ownBlock) v301 y300) := ⟨h2_⟩
         have n3_ : Aside0 (w14.heap[gb286]? = some (.cells #[.slice A0_0 l0_0.length c0_0, .slice A0_1 l0_1.length c0_1, .slice A0_2 l0_2.length c0_2] 27 (0, 0))) := ⟨h3_⟩
         have n4_ : Aside0 (w14.heap[gb287]? = some (.cells #[.slice none 0 0, .slice none 0 0, .slice none 0 0] 27 (0, 0))) := ⟨h4_⟩
         have n5_ : Aside0 (Below w.heap.size w w14) := ⟨h5_⟩
         clear BK286
         clear BK287
         clear HB
         clear h0_ h1_ h2_ h3_ h4_ h5_
         have HO290 := n0_
         have HO296 := n1_
         have HO302 := n2_
         have BK286 := n3_
         have BK287 := n4_
         have HB := n5_
         clear n0_ n1_ n2_ n3_ n4_ n5_
         have hHeld : w14.cell? ⟨gb286, 0, none⟩ = some (.slice A0_0 l0_0.length c0_0) ∧ w14.cell? ⟨gb286, 1, none⟩ = some (.slice A0_1 l0_1.length c0_1) ∧ w14.cell? ⟨gb286, 2, none⟩ = some (.slice A0_2 l0_2.length c0_2) := hS_
         refine norm_ (a' := ?_) ?_ ?_
         rotate_left
         ·
          simp only [putAll, Act.put, List.setIfInBounds_toArray, List.set_cons_zero, List.set_cons_succ]
          rfl
         refine one_ (i := 3) (N := some 6) #[true, true, true, true, true, true, true, false, true, true, true, false, false, false] rfl rfl (one_of HT_.out (by kernel_rfl)) (by decide) (fun K hK => ?_)
         refine R_append_rows_step (Kd.int .i64) (w0 := w) w.heap.size (by rfl) (.tmp 3) (.tmp 5) 22 3 (.int .i64 0) 8 rfl Try.underlying22 info3 rfl (by decide) (by omega) v289 y288 l0_0 _ _ _ (fun k_ => some k_ ≠ (v295 : Value).ownBlock ∧ some k_ ≠ (v301 : Value).ownBlock) (fun _ => False) rfl rfl ?aO ?aR (fun _ _ h => h) (fun _ h => h.elim) ?aF ?aB ?aS ?aL ?_
         (case aR => repeat (first | exact (C_below HR0_0.out HB.out) | (with_reducible refine C_alloc ?_ _) | (with_reducible refine C_drewN ?_ _) | (with_reducible refine C_drew ?_)))
         (case aB => exact Zs)
         (case aF => exact (fun k_ hk => ⟨Kd.fresh' (R_lt (ZR HO296.out)) k_ hk, Kd.fresh' (R_lt (ZR HO302.out)) k_ hk⟩))
         (case aO => exact (ZR HO290.out))
         (case aS => exact (below_size Zs))
         (case aL => have := LMc2.out; omega)
         intro v292 w15 ho hb hg hat
         rw [← Ny291.out] at ho
         have n0_ := Zh (blk_grown (g := gb286) (o := .cells #[.slice A0_0 l0_0.length c0_0, .slice A0_1 l0_1.length c0_1, .slice A0_2 l0_2.length c0_2] 27 (0, 0)) Zk hg (R_ne HO290.out BK286.out (by decide)))
         have n1_ := Zh (blk_grown (g := gb287) (o := .cells #[.slice none 0 0, .slice none 0 0, .slice none 0 0] 27 (0, 0)) Zk hg (R_ne HO290.out BK287.out (by decide)))
         have n2_ := Zh (R_after (ok := (fun k_ => some k_ ≠ (v301 : Value).ownBlock)) (ZR (R_mono HO296.out (fun _ hk => ⟨hk.2, hk.1⟩))) hg hat)
         have n3_ := Zh (R_after (ok := (fun k_ => some k_ ≠ (v295 : Value).ownBlock)) (ZR (R_mono HO302.out (fun _ hk => ⟨hk.2, hk.1⟩))) hg hat)
         have n4_ := Zh (hb)
         have n5_ := Zh (ho)
         clear BK286
         clear BK287
         clear HO296
         clear HO302
         clear HB
         clear HO290
         have BK286 := n0_
         have BK287 := n1_
         have HO296 := n2_
         have HO302 := n3_
         have HB := n4_
         have HO293 := n5_
         clear n0_ n1_ n2_ n3_ n4_ n5_
         clear ho hb hg hat
         refine hK.out _ _ ⟨(blk_cell BK286.out 0).trans rfl, (blk_cell BK286.out 1).trans rfl, (blk_cell BK286.out 2).trans rfl⟩ (fun hHeld => ?_)
         clear hK K
         refine norm_ (a' := ?_) ?_ ?_
         rotate_left
         ·
          show Act.put _ (some 6) _ = _
          simp only [Act.put, List.setIfInBounds_toArray, List.set_cons_zero, List.set_cons_succ, i64_w, i32_w]
          rfl
         exact norm_ (by first | (simp only [putAll, Act.put, List.setIfInBounds_toArray, List.set_cons_zero, List.set_cons_succ]; done) | (simp only [putAll, Act.put, List.setIfInBounds_toArray, List.set_cons_zero, List.set_cons_succ]; rfl)) (hJ0_3_4_8 (v289, v292, v295, v301) _ ⟨hHeld, (ZR HO293.out), (ZR (R_mono HO296.out (fun _ hk => ⟨hk.2, hk.1⟩))), (ZR (R_mono HO302.out (fun _ hk => ⟨hk.2, hk.1⟩))), Zk, Zk, Zs⟩)
        skip
        rintro ⟨v289, v292, v301⟩ w13 ⟨hS_, h0_, h1_, h2_, h3_, h4_⟩
        have n0_ : Aside0 (Kd.R (Kd.int .i64) 3 w13 w.heap.size (fun k_ => some k_ ≠ (v301 : Value).ownBlock) v292 y291) := ⟨h0_⟩
        have n1_ : Aside0 (Kd.R (Kd.int .i64) 3 w13 w.heap.size (fun k_ => some k_ ≠ (v292 : Value).ownBlock) v301 y300) := ⟨h1_⟩
        have n2_ : Aside0 (w13.heap[gb286]? = some (.cells #[.slice A0_0 l0_0.length c0_0, .slice A0_1 l0_1.length c0_1, .slice A0_2 l0_2.length c0_2] 27 (0, 0))) := ⟨h2_⟩
        have n3_ : Aside0 (w13.heap[gb287]? = some (.cells #[.slice none 0 0, .slice none 0 0, .slice none 0 0] 27 (0, 0))) := ⟨h3_⟩
        have n4_ : Aside0 (Below w.heap.size w w13) := ⟨h4_⟩
        clear BK286
        clear BK287
        clear HB
        clear h0_ h1_ h2_ h3_ h4_
        have HO293 := n0_
        have HO302 := n1_
        have BK286 := n2_
        have BK287 := n3_
        have HB := n4_
        clear n0_ n1_ n2_ n3_ n4_
        have hHeld : w13.cell? ⟨gb286, 0, none⟩ = some (.slice A0_0 l0_0.length c0_0) ∧ w13.cell? ⟨gb286, 1, none⟩ = some (.slice A0_1 l0_1.length c0_1) ∧ w13.cell? ⟨gb286, 2, none⟩ = some (.slice A0_2 l0_2.length c0_2) := hS_
        refine norm_ (a' := ?_) ?_ ?_
        rotate_left
        ·
         simp only [putAll, Act.put, List.setIfInBounds_toArray, List.set_cons_zero, List.set_cons_succ]
         rfl
        refine one_ (i := 4) (N := some 7) #[true, true, true, true, true, true, true, false, true, true, true, false, false, false] rfl rfl (one_of HT_.out (by kernel_rfl)) (by decide) (fun K hK => ?_)
        refine R_lit_step (Kd.int .i64) _ 3 ?hg (N := 7) ?hd (xs := ([] : List Int)) (inner := []) (ok := fun _ => True) (okp := fun _ => True) ?hr ?hp (fun _ hk => hk) trivial (Below.refl _ _) (Nat.le_refl _) (by simp) ?_; (case hd => rfl); (case hg => rfl); (case hr => first | (go_simp; done) | (go_simp; rfl)); (case hp => exact (Reps.none _ _))
        intro v295 w14 ho15 hb hg_ hnew_
        clear hg_ hnew_
        (first | rw [← Ny294.out] at ho15 | (simp only [Int.reduceToNat] at ho15; rw [← Ny294.out] at ho15))
        have HO296 := Zh (R_lower (R_new' (R_new' ho15 (R_lt (ZR HO293.out))) (R_lt (ZR HO302.out))) (below_size Zs))
        replace HO293 := Zh (R_elder' (ZR HO293.out) (R_base ho15) hb)
        replace HO302 := Zh (R_elder' (ZR HO302.out) (R_base ho15) hb)
        replace BK286 := Zh (Zm (g := gb286) (o := .cells #[.slice A0_0 l0_0.length c0_0, .slice A0_1 l0_1.length c0_1, .slice A0_2 l0_2.length c0_2] 27 (0, 0)) Zk hb)
        replace BK287 := Zh (Zm (g := gb287) (o := .cells #[.slice none 0 0, .slice none 0 0, .slice none 0 0] 27 (0, 0)) Zk hb)
        replace HB := Zh (Zl Zs hb)
        clear hb ho15
        refine hK.out _ _ ⟨(blk_cell BK286.out 0).trans rfl, (blk_cell BK286.out 1).trans rfl, (blk_cell BK286.out 2).trans rfl⟩ (fun hHeld => ?_)
        clear hK K
        refine norm_ (a' := ?_) ?_ ?_
        rotate_left
        ·
         show Act.put _ (some 7) _ = _
         simp only [Act.put, List.setIfInBounds_toArray, List.set_cons_zero, List.set_cons_succ, i64_w, i32_w]
         rfl
        exact norm_ (by first | (simp only [putAll, Act.put, List.setIfInBounds_toArray, List.set_cons_zero, List.set_cons_succ]; done) | (simp only [putAll, Act.put, List.setIfInBounds_toArray, List.set_cons_zero, List.set_cons_succ]; rfl)) (hJ0_3_4_8 (v289, v292, v295, v301) _ ⟨hHeld, (ZR (R_mono HO293.out (fun _ hk => ⟨hk.2, hk.1⟩))), (ZR (R_mono HO296.out (fun _ hk => ⟨hk.1.2, hk.2⟩))), (ZR HO302.out), Zk, Zk, Zs⟩)
       skip
       rintro ⟨v289, v292, v295⟩ w13 ⟨hS_, h0_, h1_, h2_, h3_, h4_⟩
       have n0_ : Aside0 (Kd.R (Kd.int .i64) 3 w13 w.heap.size (fun k_ => some k_ ≠ (v295 : Value).ownBlock) v292 y291) := ⟨h0_⟩
       have n1_ : Aside0 (Kd.R (Kd.int .i64) 3 w13 w.heap.size (fun k_ => some k_ ≠ (v292 : Value).ownBlock) v295 y294) := ⟨h1_⟩
       have n2_ : Aside0 (w13.heap[gb286]? = some (.cells #[.slice A0_0 l0_0.length c0_0, .slice A0_1 l0_1.length c0_1, .slice A0_2 l0_2.length c0_2] 27 (0, 0))) := ⟨h2_⟩
       have n3_ : Aside0 (w13.heap[gb287]? = some (.cells #[.slice none 0 0, .slice none 0 0, .slice none 0 0] 27 (0, 0))) := ⟨h3_⟩
       have n4_ : Aside0 (Below w.heap.size w w13) := ⟨h4_⟩
       clear BK286
       clear BK287
       clear HB
       clear h0_ h1_ h2_ h3_ h4_
       have HO293 := n0_
       have HO296 := n1_
       have BK286 := n2_
       have BK287 := n3_
       have HB := n4_
       clear n0_ n1_ n2_ n3_ n4_
       have hHeld : w13.cell? ⟨gb286, 0, none⟩ = some (.slice A0_0 l0_0.length c0_0) ∧ w13.cell? ⟨gb286, 1, none⟩ = some (.slice A0_1 l0_1.length c0_1) ∧ w13.cell? ⟨gb286, 2, none⟩ = some (.slice A0_2 l0_2.length c0_2) := hS_
       refine norm_ (a' := ?_) ?_ ?_
       rotate_left
       ·
        simp only [putAll, Act.put, List.setIfInBounds_toArray, List.set_cons_zero, List.set_cons_succ]
        rfl
       refine two_ (i := 7) (j := 8) (Ni := some 10) (Nj := some 11) #[true, true, true, true, true, true, true, true, false, true, true, false, false, false] #[true, true, true, true, true, true, true, false, true, true, true, false, false, false] rfl rfl rfl rfl (two_of HT_.out (by kernel_rfl)) (by decide) (by decide) (fun K hK => ?_) (fun K hK => ?_)
       ·
        skip
        refine R_append_rows_step (Kd.int .i64) (w0 := w) w.heap.size (by rfl) (.tmp 7) (.tmp 9) 22 3 (.int .i64 0) 8 rfl Try.underlying22 info3 rfl (by decide) (by omega) v295 y294 l0_1 _ _ _ (fun k_ => some k_ ≠ (v292 : Value).ownBlock) (fun _ => False) rfl rfl ?aO ?aR (fun _ _ h => h) (fun _ h => h.elim) ?aF ?aB ?aS ?aL ?_
        (case aR => repeat (first | exact (C_below HR0_1.out HB.out) | (with_reducible refine C_alloc ?_ _) | (with_reducible refine C_drewN ?_ _) | (with_reducible refine C_drew ?_)))
        (case aB => exact Zs)
        (case aF => exact (fun k_ hk => Kd.fresh' (R_lt (ZR HO293.out)) k_ hk))
        (case aO => exact (ZR HO296.out))
        (case aS => exact (below_size Zs))
        (case aL => have := LMc3.out; omega)
        intro v298 w14 ho hb hg hat
        rw [← Ny297.out] at ho
        have n0_ := Zh (blk_grown (g := gb286) (o := .cells #[.slice A0_0 l0_0.length c0_0, .slice A0_1 l0_1.length c0_1, .slice A0_2 l0_2.length c0_2] 27 (0, 0)) Zk hg (R_ne HO296.out BK286.out (by decide)))
        have n1_ := Zh (blk_grown (g := gb287) (o := .cells #[.slice none 0 0, .slice none 0 0, .slice none 0 0] 27 (0, 0)) Zk hg (R_ne HO296.out BK287.out (by decide)))
        have n2_ := Zh (R_after (ok := (fun _ => True)) (ZR (R_mono HO293.out (fun _ hk => ⟨trivial, hk⟩))) hg hat)
        have n3_ := Zh (hb)
        have n4_ := Zh (ho)
        clear BK286
        clear BK287
        clear HO293
        clear HB
        clear HO296
        have BK286 := n0_
        have BK287 := n1_
        have HO293 := n2_
        have HB := n3_
        have HO299 := n4_
        clear n0_ n1_ n2_ n3_ n4_
        clear ho hb hg hat
        refine hK.out _ _ ⟨(blk_cell BK286.out 0).trans rfl, (blk_cell BK286.out 1).trans rfl, (blk_cell BK286.out 2).trans rfl⟩ (fun hHeld => ?_)
        clear hK K
        refine norm_ (a' := ?_) ?_ ?_
        rotate_left
        ·
         show Act.put _ (some 10) _ = _
         simp only [Act.put, List.setIfInBounds_toArray, List.set_cons_zero, List.set_cons_succ, i64_w, i32_w]
         rfl
        exact norm_ (by first | (simp only [putAll, Act.put, List.setIfInBounds_toArray, List.set_cons_zero, List.set_cons_succ]; done) | (simp only [putAll, Act.put, List.setIfInBounds_toArray, List.set_cons_zero, List.set_cons_succ]; rfl)) (hJ0_3_4_7 (v289, v292, v295, v298) _ ⟨hHeld, (ZR (R_mono HO293.out (fun _ hk => hk.2))), (ZR HO299.out), Zk, Zk, Zs⟩)
       skip
       refine R_lit_step (Kd.int .i64) _ 3 ?hg (N := 11) ?hd (xs := ([] : List Int)) (inner := []) (ok := fun _ => True) (okp := fun _ => True) ?hr ?hp (fun _ hk => hk) trivial (Below.refl _ _) (Nat.le_refl _) (by simp) ?_; (case hd => rfl); (case hg => rfl); (case hr => first | (go_simp; done) | (go_simp; rfl)); (case hp => exact (Reps.none _ _))
       intro v301 w14 ho15 hb hg_ hnew_
       clear hg_ hnew_
       (first | rw [← Ny300.out] at ho15 | (simp only [Int.reduceToNat] at ho15; rw [← Ny300.out] at ho15))
       have HO302 := Zh (R_lower (R_new' (R_new' ho15 (R_lt (ZR HO293.out))) (R_lt (ZR HO296.out))) (below_size Zs))
       replace HO293 := Zh (R_elder' (ZR HO293.out) (R_base ho15) hb)
       replace HO296 := Zh (R_elder' (ZR HO296.out) (R_base ho15) hb)
       replace BK286 := Zh (Zm (g := gb286) (o := .cells #[.slice A0_0 l0_0.length c0_0, .slice A0_1 l0_1.length c0_1, .slice A0_2 l0_2.length c0_2] 27 (0, 0)) Zk hb)
       replace BK287 := Zh (Zm (g := gb287) (o := .cells #[.slice none 0 0, .slice none 0 0, .slice none 0 0] 27 (0, 0)) Zk hb)
       replace HB := Zh (Zl Zs hb)
       clear hb ho15
       refine hK.out _ _ ⟨(blk_cell BK286.out 0).trans rfl, (blk_cell BK286.out 1).trans rfl, (blk_cell BK286.out 2).trans rfl⟩ (fun hHeld => ?_)
       clear hK K
       refine norm_ (a' := ?_) ?_ ?_
       rotate_left
       ·
        show Act.put _ (some 11) _ = _
        simp only [Act.put, List.setIfInBounds_toArray, List.set_cons_zero, List.set_cons_succ, i64_w, i32_w]
        rfl
       exact norm_ (by first | (simp only [putAll, Act.put, List.setIfInBounds_toArray, List.set_cons_zero, List.set_cons_succ]; done) | (simp only [putAll, Act.put, List.setIfInBounds_toArray, List.set_cons_zero, List.set_cons_succ]; rfl)) (hJ0_3_4_8 (v289, v292, v295, v301) _ ⟨hHeld, (ZR HO293.out), (ZR HO296.out), (ZR (R_mono HO302.out (fun _ hk => ⟨hk.1.2, hk.2⟩))), Zk, Zk, Zs⟩)
      skip
      rintro ⟨v289, v292, v295, v301⟩ w15 ⟨hS_, h0_, h1_, h2_, h3_, h4_, h5_⟩
      have n0_ : Aside0 (Kd.R (Kd.int .i64) 3 w15 w.heap.size (fun k_ => some k_ ≠ (v295 : Value).ownBlock ∧ some k_ ≠ (v301 : Value).ownBlock) v292 y291) := ⟨h0_⟩
      have n1_ : Aside0 (Kd.R (Kd.int .i64) 3 w15 w.heap.size (fun k_ => some k_ ≠ (v292 : Value).ownBlock ∧ some k_ ≠ (v301 : Value).ownBlock) v295 y294) := ⟨h1_⟩
      have n2_ : Aside0 (Kd.R (Kd.int .i64) 3 w15 w.heap.size (fun k_ => some k_ ≠ (v292 : Value).ownBlock ∧ some k_ ≠ (v295 : Value).ownBlock) v301 y300) := ⟨h2_⟩
      have n3_ : Aside0 (w15.heap[gb286]? = some (.cells #[.slice A0_0 l0_0.length c0_0, .slice A0_1 l0_1.length c0_1, .slice A0_2 l0_2.length c0_2] 27 (0, 0))) := ⟨h3_⟩
      have n4_ : Aside0 (w15.heap[gb287]? = some (.cells #[.slice none 0 0, .slice none 0 0, .slice none 0 0] 27 (0, 0))) := ⟨h4_⟩
      have n5_ : Aside0 (Below w.heap.size w w15) := ⟨h5_⟩
      clear BK286
      clear BK287
      clear HB
      clear h0_ h1_ h2_ h3_ h4_ h5_
      have HO293 := n0_
      have HO296 := n1_
      have HO302 := n2_
      have BK286 := n3_
      have BK287 := n4_
      have HB := n5_
      clear n0_ n1_ n2_ n3_ n4_ n5_
      have hHeld : w15.cell? ⟨gb286, 0, none⟩ = some (.slice A0_0 l0_0.length c0_0) ∧ w15.cell? ⟨gb286, 1, none⟩ = some (.slice A0_1 l0_1.length c0_1) ∧ w15.cell? ⟨gb286, 2, none⟩ = some (.slice A0_2 l0_2.length c0_2) := hS_
      refine norm_ (a' := ?_) ?_ ?_
      rotate_left
      ·
       simp only [putAll, Act.put, List.setIfInBounds_toArray, List.set_cons_zero, List.set_cons_succ]
       rfl
      refine one_ (i := 7) (N := some 10) #[true, true, true, true, true, true, true, true, true, true, true, false, false, false] rfl rfl (one_of HT_.out (by kernel_rfl)) (by decide) (fun K hK => ?_)
      refine R_append_rows_step (Kd.int .i64) (w0 := w) w.heap.size (by rfl) (.tmp 7) (.tmp 9) 22 3 (.int .i64 0) 8 rfl Try.underlying22 info3 rfl (by decide) (by omega) v295 y294 l0_1 _ _ _ (fun k_ => some k_ ≠ (v292 : Value).ownBlock ∧ some k_ ≠ (v301 : Value).ownBlock) (fun _ => False) rfl rfl ?aO ?aR (fun _ _ h => h) (fun _ h => h.elim) ?aF ?aB ?aS ?aL ?_
      (case aR => repeat (first | exact (C_below HR0_1.out HB.out) | (with_reducible refine C_alloc ?_ _) | (with_reducible refine C_drewN ?_ _) | (with_reducible refine C_drew ?_)))
      (case aB => exact Zs)
      (case aF => exact (fun k_ hk => ⟨Kd.fresh' (R_lt (ZR HO293.out)) k_ hk, Kd.fresh' (R_lt (ZR HO302.out)) k_ hk⟩))
      (case aO => exact (ZR HO296.out))
      (case aS => exact (below_size Zs))
      (case aL => have := LMc3.out; omega)
      intro v298 w16 ho hb hg hat
      rw [← Ny297.out] at ho
      have n0_ := Zh (blk_grown (g := gb286) (o := .cells #[.slice A0_0 l0_0.length c0_0, .slice A0_1 l0_1.length c0_1, .slice A0_2 l0_2.length c0_2] 27 (0, 0)) Zk hg (R_ne HO296.out BK286.out (by decide)))
      have n1_ := Zh (blk_grown (g := gb287) (o := .cells #[.slice none 0 0, .slice none 0 0, .slice none 0 0] 27 (0, 0)) Zk hg (R_ne HO296.out BK287.out (by decide)))
      have n2_ := Zh (R_after (ok := (fun k_ => some k_ ≠ (v301 : Value).ownBlock)) (ZR (R_mono HO293.out (fun _ hk => ⟨hk.2, hk.1⟩))) hg hat)
      have n3_ := Zh (R_after (ok := (fun k_ => some k_ ≠ (v292 : Value).ownBlock)) (ZR HO302.out) hg hat)
      have n4_ := Zh (hb)
      have n5_ := Zh (ho)
      clear BK286
      clear BK287
      clear HO293
      clear HO302
      clear HB
      clear HO296
      have BK286 := n0_
      have BK287 := n1_
      have HO293 := n2_
      have HO302 := n3_
      have HB := n4_
      have HO299 := n5_
      clear n0_ n1_ n2_ n3_ n4_ n5_
      clear ho hb hg hat
      refine hK.out _ _ ⟨(blk_cell BK286.out 0).trans rfl, (blk_cell BK286.out 1).trans rfl, (blk_cell BK286.out 2).trans rfl⟩ (fun hHeld => ?_)
      clear hK K
      refine norm_ (a' := ?_) ?_ ?_
      rotate_left
      ·
       show Act.put _ (some 10) _ = _
       simp only [Act.put, List.setIfInBounds_toArray, List.set_cons_zero, List.set_cons_succ, i64_w, i32_w]
       rfl
      exact norm_ (by first | (simp only [putAll, Act.put, List.setIfInBounds_toArray, List.set_cons_zero, List.set_cons_succ]; done) | (simp only [putAll, Act.put, List.setIfInBounds_toArray, List.set_cons_zero, List.set_cons_succ]; rfl)) (hJ0_3_4_7_8 (v289, v292, v295, v298, v301) _ ⟨hHeld, (ZR (R_mono HO293.out (fun _ hk => ⟨hk.2, hk.1⟩))), (ZR HO299.out), (ZR HO302.out), Zk, Zk, Zs⟩)
     skip
     rintro ⟨v289, v292, v295, v298⟩ w14 ⟨hS_, h0_, h1_, h2_, h3_, h4_⟩
     have n0_ : Aside0 (Kd.R (Kd.int .i64) 3 w14 w.heap.size (fun k_ => some k_ ≠ (v298 : Value).ownBlock) v292 y291) := ⟨h0_⟩
     have n1_ : Aside0 (Kd.R (Kd.int .i64) 3 w14 w.heap.size (fun k_ => some k_ ≠ (v292 : Value).ownBlock) v298 y297) := ⟨h1_⟩
     have n2_ : Aside0 (w14.heap[gb286]? = some (.cells #[.slice A0_0 l0_0.length c0_0, .slice A0_1 l0_1.length c0_1, .slice A0_2 l0_2.length c0_2] 27 (0, 0))) := ⟨h2_⟩
     have n3_ : Aside0 (w14.heap[gb287]? = some (.cells #[.slice none 0 0, .slice none 0 0, .slice none 0 0] 27 (0, 0))) := ⟨h3_⟩
     have n4_ : Aside0 (Below w.heap.size w w14) := ⟨h4_⟩
     clear BK286
     clear BK287
     clear HB
     clear h0_ h1_ h2_ h3_ h4_
     have HO293 := n0_
     have HO299 := n1_
     have BK286 := n2_
     have BK287 := n3_
     have HB := n4_
     clear n0_ n1_ n2_ n3_ n4_
     have hHeld : w14.cell? ⟨gb286, 0, none⟩ = some (.slice A0_0 l0_0.length c0_0) ∧ w14.cell? ⟨gb286, 1, none⟩ = some (.slice A0_1 l0_1.length c0_1) ∧ w14.cell? ⟨gb286, 2, none⟩ = some (.slice A0_2 l0_2.length c0_2) := hS_
     refine norm_ (a' := ?_) ?_ ?_
     rotate_left
     ·
      simp only [putAll, Act.put, List.setIfInBounds_toArray, List.set_cons_zero, List.set_cons_succ]
      rfl
     refine one_ (i := 8) (N := some 11) #[true, true, true, true, true, true, true, true, true, true, true, false, false, false] rfl rfl (one_of HT_.out (by kernel_rfl)) (by decide) (fun K hK => ?_)
     refine R_lit_step (Kd.int .i64) _ 3 ?hg (N := 11) ?hd (xs := ([] : List Int)) (inner := []) (ok := fun _ => True) (okp := fun _ => True) ?hr ?hp (fun _ hk => hk) trivial (Below.refl _ _) (Nat.le_refl _) (by simp) ?_; (case hd => rfl); (case hg => rfl); (case hr => first | (go_simp; done) | (go_simp; rfl)); (case hp => exact (Reps.none _ _))
     intro v301 w15 ho16 hb hg_ hnew_
     clear hg_ hnew_
     (first | rw [← Ny300.out] at ho16 | (simp only [Int.reduceToNat] at ho16; rw [← Ny300.out] at ho16))
     have HO302 := Zh (R_lower (R_new' (R_new' ho16 (R_lt (ZR HO293.out))) (R_lt (ZR HO299.out))) (below_size Zs))
     replace HO293 := Zh (R_elder' (ZR HO293.out) (R_base ho16) hb)
     replace HO299 := Zh (R_elder' (ZR HO299.out) (R_base ho16) hb)
     replace BK286 := Zh (Zm (g := gb286) (o := .cells #[.slice A0_0 l0_0.length c0_0, .slice A0_1 l0_1.length c0_1, .slice A0_2 l0_2.length c0_2] 27 (0, 0)) Zk hb)
     replace BK287 := Zh (Zm (g := gb287) (o := .cells #[.slice none 0 0, .slice none 0 0, .slice none 0 0] 27 (0, 0)) Zk hb)
     replace HB := Zh (Zl Zs hb)
     clear hb ho16
     refine hK.out _ _ ⟨(blk_cell BK286.out 0).trans rfl, (blk_cell BK286.out 1).trans rfl, (blk_cell BK286.out 2).trans rfl⟩ (fun hHeld => ?_)
     clear hK K
     refine norm_ (a' := ?_) ?_ ?_
     rotate_left
     ·
      show Act.put _ (some 11) _ = _
      simp only [Act.put, List.setIfInBounds_toArray, List.set_cons_zero, List.set_cons_succ, i64_w, i32_w]
      rfl
     exact norm_ (by first | (simp only [putAll, Act.put, List.setIfInBounds_toArray, List.set_cons_zero, List.set_cons_succ]; done) | (simp only [putAll, Act.put, List.setIfInBounds_toArray, List.set_cons_zero, List.set_cons_succ]; rfl)) (hJ0_3_4_7_8 (v289, v292, v295, v298, v301) _ ⟨hHeld, (ZR HO293.out), (ZR HO299.out), (ZR (R_mono HO302.out (fun _ hk => ⟨hk.1.2, hk.2⟩))), Zk, Zk, Zs⟩)
    rintro ⟨v289, v292, v295, v298, v301⟩ w16 ⟨hS_, h0_, h1_, h2_, h3_, h4_, h5_⟩
    have n0_ : Aside0 (Kd.R (Kd.int .i64) 3 w16 w.heap.size (fun k_ => some k_ ≠ (v298 : Value).ownBlock ∧ some k_ ≠ (v301 : Value).ownBlock) v292 y291) := ⟨h0_⟩
    have n1_ : Aside0 (Kd.R (Kd.int .i64) 3 w16 w.heap.size (fun k_ => some k_ ≠ (v292 : Value).ownBlock ∧ some k_ ≠ (v301 : Value).ownBlock) v298 y297) := ⟨h1_⟩
    have n2_ : Aside0 (Kd.R (Kd.int .i64) 3 w16 w.heap.size (fun k_ => some k_ ≠ (v292 : Value).ownBlock ∧ some k_ ≠ (v298 : Value).ownBlock) v301 y300) := ⟨h2_⟩
    have n3_ : Aside0 (w16.heap[gb286]? = some (.cells #[.slice A0_0 l0_0.length c0_0, .slice A0_1 l0_1.length c0_1, .slice A0_2 l0_2.length c0_2] 27 (0, 0))) := ⟨h3_⟩
    have n4_ : Aside0 (w16.heap[gb287]? = some (.cells #[.slice none 0 0, .slice none 0 0, .slice none 0 0] 27 (0, 0))) := ⟨h4_⟩
    have n5_ : Aside0 (Below w.heap.size w w16) := ⟨h5_⟩
    clear BK286
    clear BK287
    clear HB
    clear h0_ h1_ h2_ h3_ h4_ h5_
    have HO293 := n0_
    have HO299 := n1_
    have HO302 := n2_
    have BK286 := n3_
    have BK287 := n4_
    have HB := n5_
    clear n0_ n1_ n2_ n3_ n4_ n5_
    have hHeld : w16.cell? ⟨gb286, 0, none⟩ = some (.slice A0_0 l0_0.length c0_0) ∧ w16.cell? ⟨gb286, 1, none⟩ = some (.slice A0_1 l0_1.length c0_1) ∧ w16.cell? ⟨gb286, 2, none⟩ = some (.slice A0_2 l0_2.length c0_2) := hS_
    refine norm_ (a' := ?_) ?_ ?_
    rotate_left
    ·
     simp only [putAll, Act.put, List.setIfInBounds_toArray, List.set_cons_zero, List.set_cons_succ]
     rfl
    refine one_ (i := 11) (N := some 14) #[true, true, true, true, true, true, true, true, true, true, true, true, false, false] rfl rfl (one_of HT_.out (by kernel_rfl)) (by decide) (fun K hK => ?_)
    refine R_append_rows_step (Kd.int .i64) (w0 := w) w.heap.size (by rfl) (.tmp 11) (.tmp 13) 22 3 (.int .i64 0) 8 rfl Try.underlying22 info3 rfl (by decide) (by omega) v301 y300 l0_2 _ _ _ (fun k_ => some k_ ≠ (v292 : Value).ownBlock ∧ some k_ ≠ (v298 : Value).ownBlock) (fun _ => False) rfl rfl ?aO ?aR (fun _ _ h => h) (fun _ h => h.elim) ?aF ?aB ?aS ?aL ?_
    (case aR => repeat (first | exact (C_below HR0_2.out HB.out) | (with_reducible refine C_alloc ?_ _) | (with_reducible refine C_drewN ?_ _) | (with_reducible refine C_drew ?_)))
    (case aB => exact Zs)
    (case aF => exact (fun k_ hk => ⟨Kd.fresh' (R_lt (ZR HO293.out)) k_ hk, Kd.fresh' (R_lt (ZR HO299.out)) k_ hk⟩))
    (case aO => exact (ZR HO302.out))
    (case aS => exact (below_size Zs))
    (case aL => have := LMc4.out; omega)
    intro v304 w17 ho hb hg hat
    rw [← Ny303.out] at ho
    have n0_ := Zh (blk_grown (g := gb286) (o := .cells #[.slice A0_0 l0_0.length c0_0, .slice A0_1 l0_1.length c0_1, .slice A0_2 l0_2.length c0_2] 27 (0, 0)) Zk hg (R_ne HO302.out BK286.out (by decide)))
    have n1_ := Zh (blk_grown (g := gb287) (o := .cells #[.slice none 0 0, .slice none 0 0, .slice none 0 0] 27 (0, 0)) Zk hg (R_ne HO302.out BK287.out (by decide)))
    have n2_ := Zh (R_after (ok := (fun k_ => some k_ ≠ (v298 : Value).ownBlock)) (ZR HO293.out) hg hat)
    have n3_ := Zh (R_after (ok := (fun k_ => some k_ ≠ (v292 : Value).ownBlock)) (ZR HO299.out) hg hat)
    have n4_ := Zh (hb)
    have n5_ := Zh (ho)
    clear BK286
    clear BK287
    clear HO293
    clear HO299
    clear HB
    clear HO302
    have BK286 := n0_
    have BK287 := n1_
    have HO293 := n2_
    have HO299 := n3_
    have HB := n4_
    have HO305 := n5_
    clear n0_ n1_ n2_ n3_ n4_ n5_
    clear ho hb hg hat
    obtain ⟨Ao18, co18, eo18⟩ := R_slice HO305.out
    (first | subst eo18 | (injection eo18 with f1_ f2_ f3_; have f4_ := f1_.symm; have f5_ := f3_.symm; clear f1_ f2_ f3_; subst f4_; subst f5_))
    obtain ⟨Ao19, co19, eo19⟩ := R_slice HO299.out
    (first | subst eo19 | (injection eo19 with f1_ f2_ f3_; have f4_ := f1_.symm; have f5_ := f3_.symm; clear f1_ f2_ f3_; subst f4_; subst f5_))
    obtain ⟨Ao20, co20, eo20⟩ := R_slice HO293.out
    (first | subst eo20 | (injection eo20 with f1_ f2_ f3_; have f4_ := f1_.symm; have f5_ := f3_.symm; clear f1_ f2_ f3_; subst f4_; subst f5_))
    refine hK.out _ _ ⟨(blk_cell BK286.out 0).trans rfl, (blk_cell BK286.out 1).trans rfl, (blk_cell BK286.out 2).trans rfl⟩ (fun hHeld => ?_)
    clear hK K
    refine norm_ (a' := ?_) ?_ ?_
    rotate_left
    ·
     show Act.put _ (some 14) _ = _
     simp only [Act.put, List.setIfInBounds_toArray, List.set_cons_zero, List.set_cons_succ, i64_w, i32_w]
     rfl
    refine pure_ (i := 12) (N := some 15) (v := ?_) (a' := ?_) #[true, true, true, true, true, true, true, true, true, true, true, true, true, false] rfl rfl (any_of HT_.out (by kernel_rfl)) (fun _ _ _ h => h) (Or.inl ⟨by rfl, ?_⟩) ?_ ?_
    rotate_left
    ·
     intro w'
     go_simp
     with_reducible rfl
    rotate_left
    ·
     simp only [Act.put, List.setIfInBounds_toArray, List.set_cons_zero, List.set_cons_succ, i64_w, i32_w]
     rfl
    refine one_ (i := 13) (N := none) #[true, true, true, true, true, true, true, true, true, true, true, true, true, true] rfl rfl (one_of HT_.out (by kernel_rfl)) (by decide) (fun K hK => ?_)
    have hs21 : w17.cell? ⟨gb287, 0, none⟩ = some (.slice none 0 0) := (blk_cell BK287.out 0).trans rfl
    have hfs21 := Zn BK287.out 0
    have hns21_0 := NB286_287.out
    have hms21_0 := NB287_286.out
    have hs22 : w17.cell? ⟨gb287, 1, none⟩ = some (.slice none 0 0) := (blk_cell BK287.out 1).trans rfl
    have hfs22 := Zn BK287.out 1
    have hns22_0 := NB286_287.out
    have hms22_0 := NB287_286.out
    have hs23 : w17.cell? ⟨gb287, 2, none⟩ = some (.slice none 0 0) := (blk_cell BK287.out 2).trans rfl
    have hfs23 := Zn BK287.out 2
    have hns23_0 := NB286_287.out
    have hms23_0 := NB287_286.out
    refine skip_ (w1 := ?_) (by rfl) rfl ?_ ?_
    rotate_left
    ·
     go_simp
     rfl
    refine hK.out _ _ ⟨((cell_far (p := ⟨gb287, _, none⟩) NB286_287.out _).trans (((cell_far (p := ⟨gb287, _, none⟩) NB286_287.out _).trans (((cell_far (p := ⟨gb287, _, none⟩) NB286_287.out _).trans (hHeld.1)))))), ((cell_far (p := ⟨gb287, _, none⟩) NB286_287.out _).trans (((cell_far (p := ⟨gb287, _, none⟩) NB286_287.out _).trans (((cell_far (p := ⟨gb287, _, none⟩) NB286_287.out _).trans (hHeld.2.1)))))), ((cell_far (p := ⟨gb287, _, none⟩) NB286_287.out _).trans (((cell_far (p := ⟨gb287, _, none⟩) NB286_287.out _).trans (((cell_far (p := ⟨gb287, _, none⟩) NB286_287.out _).trans (hHeld.2.2))))))⟩ (fun hHeld => ?_)
    clear hK K
    refine done_ (done_of HT_.out (by kernel_rfl)) ?_
    try go_wp2
    refine bodyPost_ret (results_cell_row rfl _ _ gb287 27 #[.slice Ao20 y291.length co20, .slice Ao19 y297.length co19, .slice Ao18 y303.length co18] (0, 0) _ rfl (by (with_reducible repeat (first | refine blk_drewN ?_ _ | refine blk_drew ?_ | refine blk_alloc ?_ _)); refine blk_put (cs := #[.slice Ao20 y291.length co20, .slice Ao19 y297.length co19, .slice none 0 0]) ?_ 2 _ rfl; (with_reducible repeat (first | refine blk_drewN ?_ _ | refine blk_drew ?_ | refine blk_alloc ?_ _)); refine blk_put (cs := #[.slice Ao20 y291.length co20, .slice none 0 0, .slice none 0 0]) ?_ 1 _ rfl; (with_reducible repeat (first | refine blk_drewN ?_ _ | refine blk_drew ?_ | refine blk_alloc ?_ _)); refine blk_put (cs := #[.slice none 0 0, .slice none 0 0, .slice none 0 0]) ?_ 0 _ rfl; (with_reducible repeat (first | refine blk_drewN ?_ _ | refine blk_drew ?_ | refine blk_alloc ?_ _)); exact BK287.out) Try.underlying27 rfl (by kernel_rfl)) rfl ?_
    exact ⟨_, _, _, ZE, ZR (R_mono (R_far (p := ⟨gb287, 2, none⟩) (R_far (p := ⟨gb287, 1, none⟩) (R_far (p := ⟨gb287, 0, none⟩) (R_types HO293.out BK287.out (by decide)) (fun _ hk => hk.2) (.slice Ao20 y291.length co20)) (fun _ hk => hk.2) (.slice Ao19 y297.length co19)) (fun _ hk => hk.2) (.slice Ao18 y303.length co18)) (fun _ hk => ⟨hk.1.1, hk.1.2⟩)), ZR (R_mono (R_far (p := ⟨gb287, 2, none⟩) (R_far (p := ⟨gb287, 1, none⟩) (R_far (p := ⟨gb287, 0, none⟩) (R_types HO299.out BK287.out (by decide)) (fun _ hk => hk.2) (.slice Ao20 y291.length co20)) (fun _ hk => hk.2) (.slice Ao19 y297.length co19)) (fun _ hk => hk.2) (.slice Ao18 y303.length co18)) (fun _ hk => ⟨hk.1.1, hk.1.2⟩)), ZR (R_mono (R_far (p := ⟨gb287, 2, none⟩) (R_far (p := ⟨gb287, 1, none⟩) (R_far (p := ⟨gb287, 0, none⟩) (R_types HO305.out BK287.out (by decide)) (fun _ hk => hk.2) (.slice Ao20 y291.length co20)) (fun _ hk => hk.2) (.slice Ao19 y297.length co19)) (fun _ hk => hk.2) (.slice Ao18 y303.length co18)) (fun _ hk => ⟨hk.1.1, hk.1.2⟩)), Zs⟩
   rw [if_neg c4] at H
   exact absurd H (by simp)
  rw [if_neg c3] at H
  exact absurd H (by simp)
 rw [if_neg c2] at H
 exact absurd H (by simp)

/-! ### impl_areIds: function 46 -/
def impl_areIds.l0 : Nat → List Int → List Int → Int → Int → Option (Bool)
 | 0, _, _, _, _ => none
 | k + 1, x0, x5, x6, x7 => if x7 < x6 then (if 0 ≤ x7 then (if x7 < (x5.length : Int) then (if (rd x5 x7) < 0 then (some false) else (if (rd x5 x7) > 99 then (some false) else (if x7 > 0 then (if 0 ≤ (wrap64 (x7 - 1)) then (if (wrap64 (x7 - 1)) < (x0.length : Int) then (if (rd x0 (wrap64 (x7 - 1))) ≥ (rd x5 x7) then (some false) else (impl_areIds.l0 k x0 x5 x6 (wrap64 (x7 + 1)))) else (none)) else (none)) else (impl_areIds.l0 k x0 x5 x6 (wrap64 (x7 + 1)))))) else (none)) else (none)) else (some (decide ((x0.length : Int) ≤ 7)))
def impl_areIds.f (k : Nat) (l0 : List Int) : Option (Bool) := impl_areIds.l0 k l0 l0 (l0.length : Int) 0
theorem impl_areIds.mono_l : ∀ k, (∀ y0 y1 y2 y3, LeO (impl_areIds.l0 k y0 y1 y2 y3) (impl_areIds.l0 (k + 1) y0 y1 y2 y3))
 | 0 => fun _ _ _ _ r h => by simp [impl_areIds.l0] at h
 | k + 1 => by
  have ih0 := impl_areIds.mono_l k
  ·
   intro y0 y1 y2 y3
   unfold impl_areIds.l0
   repeat' first
   | (with_reducible exact ih0 _ _ _ _)
   | (with_reducible exact LeO.refl _)
   | (with_reducible exact LeO.none _)
   | (with_reducible refine LeO.ite ?_ ?_)
   | (with_reducible refine LeO.bind ?_ (fun _ => ?_))
   | exact ih0 _ _ _ _
   | exact LeO.none _
   | refine LeO.ite ?_ ?_
   | refine LeO.bind ?_ (fun _ => ?_)
theorem impl_areIds.mono : ∀ a0 k, LeO (impl_areIds.f k a0) (impl_areIds.f (k + 1) a0) := by
 intro a0 k
 have ih0 := impl_areIds.mono_l k
 unfold impl_areIds.f
 repeat' first
   | (with_reducible exact ih0 _ _ _ _)
   | (with_reducible exact LeO.refl _)
   | (with_reducible exact LeO.none _)
   | (with_reducible refine LeO.ite ?_ ?_)
   | (with_reducible refine LeO.bind ?_ (fun _ => ?_))
   | exact ih0 _ _ _ _
   | exact LeO.none _
   | refine LeO.ite ?_ ?_
   | refine LeO.bind ?_ (fun _ => ?_)
set_option maxHeartbeats 8000000 in
set_option maxRecDepth 100000 in
theorem impl_areIds.calls (k : Nat) (A0 : Option Addr) (c0 : Nat) (l0 : List Int) (r : Bool) (w : World) (hr0 : Kd.C (Kd.int .i64) w A0 l0.length l0) (hc0 : l0.length ≤ c0) (h : impl_areIds.f k l0 = some r) :
  Calls Try.prog 46 #[.slice A0 l0.length c0] w fun e w' => e = .returned (.bool r) ∧ Drawn0 w w' := by
 have HR0 := Zh hr0
 have HC0 := Zh hc0
 clear hr0 hc0
 have H : (impl_areIds.l0 k l0 l0 (l0.length : Int) 0) = some r := h
 clear h
 have H' := Zh H
 clear H
 go_enter Try.func46, Try.ntmps46
 go_wp2
 go_loopg [7] k (fun kq v7 w' => ∃ (x7_1 : Int), v7 = .int .i64 x7_1 ∧ Aside0 (impl_areIds.l0 kq l0 l0 (l0.length : Int) x7_1 = some r) ∧ Aside0 (kq ≤ k) ∧ Drawn0 w w')
 case atStart => exact ⟨(0), (by first | rfl | (simp; done) | (simp [*]; done)), H', ⟨Nat.le_refl _⟩, by repeat (first | exact Drawn0.refl _ | apply Drawn0.step)⟩
 case round =>
  clear H'
  obtain ⟨x7_1, rfl, HA, HK1, ⟨m1, rfl⟩⟩ := hrel
  cases gk with
  | zero => exact absurd HA.out (by simp [impl_areIds.l0])
  | succ k1 =>
   have H := HA.out
   clear HA
   simp only [impl_areIds.l0] at H
   by_cases c2 : x7_1 < (l0.length : Int)
   ·
    rw [if_pos c2] at H
    have c2b0 : decide (x7_1 < (l0.length : Int)) = true := decide_eq_true c2
    clear c2
    by_cases c3 : 0 ≤ x7_1
    ·
     rw [if_pos c3] at H
     have c3b0 : decide (0 ≤ x7_1) = true := decide_eq_true c3
     clear c3
     by_cases c4 : x7_1 < (l0.length : Int)
     ·
      rw [if_pos c4] at H
      have c4b0 : decide (x7_1 < (l0.length : Int)) = true := decide_eq_true c4
      clear c4
      by_cases c5 : (rd l0 x7_1) < 0
      ·
       rw [if_pos c5] at H
       have c5b0 : decide ((rd l0 x7_1) < 0) = true := decide_eq_true c5
       clear c5
       obtain rfl := Option.some.inj H
       have p139 : 0 ≤ (x7_1 : Int) := Zo
       have q139 : x7_1 < (l0.length : Int) := Zo
       obtain ⟨ad139, e139, hx139_0⟩ := Kd.at_int HR0.out x7_1 p139 q139
       cases e139
       replace p139 := eq_true p139
       replace q139 := eq_true q139
       go_wp2
       go_ret
       exact ⟨by first | rfl | (simp; done) | (simp [*]; done), by repeat (first | exact Drawn0.refl _ | apply Drawn0.step)⟩
      rw [if_neg c5] at H
      have c5b0 : decide ((rd l0 x7_1) < 0) = false := decide_eq_false c5
      clear c5
      by_cases c6 : (rd l0 x7_1) > 99
      ·
       rw [if_pos c6] at H
       have c6b0 : decide (99 < (rd l0 x7_1)) = true := decide_eq_true c6
       clear c6
       obtain rfl := Option.some.inj H
       have p139 : 0 ≤ (x7_1 : Int) := Zo
       have q139 : x7_1 < (l0.length : Int) := Zo
       obtain ⟨ad139, e139, hx139_0⟩ := Kd.at_int HR0.out x7_1 p139 q139
       cases e139
       replace p139 := eq_true p139
       replace q139 := eq_true q139
       go_wp2
       go_ret
       exact ⟨by first | rfl | (simp; done) | (simp [*]; done), by repeat (first | exact Drawn0.refl _ | apply Drawn0.step)⟩
      rw [if_neg c6] at H
      have c6b0 : decide (99 < (rd l0 x7_1)) = false := decide_eq_false c6
      clear c6
      by_cases c7 : x7_1 > 0
      ·
       rw [if_pos c7] at H
       have c7b0 : decide (0 < x7_1) = true := decide_eq_true c7
       clear c7
       obtain ⟨ji8, hji8⟩ : ∃ j_ : Int, (wrap64 (x7_1 - 1)) = j_ := ⟨_, rfl⟩
       replace H : (if 0 ≤ (ji8) then (if (ji8) < (l0.length : Int) then (if (rd l0 (ji8)) ≥ (rd l0 x7_1) then (some false) else (impl_areIds.l0 k1 l0 l0 (l0.length : Int) (wrap64 (x7_1 + 1)))) else (none)) else (none)) = some r := by first | (rw [hji8] at H; exact H) | (simp only [hji8] at H ⊢; exact H)
       have hji8w : (IntKind.i64.wrap (x7_1 - 1)) = ji8 := (i64_w _).trans hji8
       by_cases c9 : 0 ≤ (ji8)
       ·
        rw [if_pos c9] at H
        have c9b0 : decide (0 ≤ (ji8)) = true := decide_eq_true c9
        clear c9
        by_cases c10 : (ji8) < (l0.length : Int)
        ·
         rw [if_pos c10] at H
         have c10b0 : decide ((ji8) < (l0.length : Int)) = true := decide_eq_true c10
         clear c10
         by_cases c11 : (rd l0 (ji8)) ≥ (rd l0 x7_1)
         ·
          rw [if_pos c11] at H
          have c11b0 : decide ((rd l0 x7_1) ≤ (rd l0 (ji8))) = true := decide_eq_true c11
          clear c11
          obtain rfl := Option.some.inj H
          have p139 : 0 ≤ (x7_1 : Int) := Zo
          have q139 : x7_1 < (l0.length : Int) := Zo
          obtain ⟨ad139, e139, hx139_0⟩ := Kd.at_int HR0.out x7_1 p139 q139
          cases e139
          replace p139 := eq_true p139
          replace q139 := eq_true q139
          have p140 : 0 ≤ ((ji8) : Int) := Zo
          have q140 : (ji8) < (l0.length : Int) := Zo
          obtain ⟨ad140, e140, hx140_0⟩ := Kd.at_int HR0.out (ji8) p140 q140
          obtain rfl : ad139 = ad140 := (by injection e140)
          replace p140 := eq_true p140
          replace q140 := eq_true q140
          go_wp2
          go_ret
          exact ⟨by first | rfl | (simp; done) | (simp only [← hji8] <;> (first | rfl | simp)) | (simp [*]; done), by repeat (first | exact Drawn0.refl _ | apply Drawn0.step)⟩
         rw [if_neg c11] at H
         have c11b0 : decide ((rd l0 x7_1) ≤ (rd l0 (ji8))) = false := decide_eq_false c11
         clear c11
         have H' := Zh H
         clear H
         have p139 : 0 ≤ (x7_1 : Int) := Zo
         have q139 : x7_1 < (l0.length : Int) := Zo
         obtain ⟨ad139, e139, hx139_0⟩ := Kd.at_int HR0.out x7_1 p139 q139
         cases e139
         replace p139 := eq_true p139
         replace q139 := eq_true q139
         have p140 : 0 ≤ ((ji8) : Int) := Zo
         have q140 : (ji8) < (l0.length : Int) := Zo
         obtain ⟨ad140, e140, hx140_0⟩ := Kd.at_int HR0.out (ji8) p140 q140
         obtain rfl : ad139 = ad140 := (by injection e140)
         replace p140 := eq_true p140
         replace q140 := eq_true q140
         go_wp2
         go_roundg k1
         case measure => have := HK1.out; omega
         case rel => exact ⟨(wrap64 (x7_1 + 1)), (by first | rfl | (simp; done) | (simp [*]; done)), H', ⟨by have := HK1.out; omega⟩, by repeat (first | exact Drawn0.refl _ | apply Drawn0.step)⟩
        rw [if_neg c10] at H
        exact absurd H (by simp)
       rw [if_neg c9] at H
       exact absurd H (by simp)
      rw [if_neg c7] at H
      have c7b0 : decide (0 < x7_1) = false := decide_eq_false c7
      clear c7
      have H' := Zh H
      clear H
      have p139 : 0 ≤ (x7_1 : Int) := Zo
      have q139 : x7_1 < (l0.length : Int) := Zo
      obtain ⟨ad139, e139, hx139_0⟩ := Kd.at_int HR0.out x7_1 p139 q139
      cases e139
      replace p139 := eq_true p139
      replace q139 := eq_true q139
      go_wp2
      go_roundg k1
      case measure => have := HK1.out; omega
      case rel => exact ⟨(wrap64 (x7_1 + 1)), (by first | rfl | (simp; done) | (simp [*]; done)), H', ⟨by have := HK1.out; omega⟩, by repeat (first | exact Drawn0.refl _ | apply Drawn0.step)⟩
     rw [if_neg c4] at H
     exact absurd H (by simp)
    rw [if_neg c3] at H
    exact absurd H (by simp)
   rw [if_neg c2] at H
   have c2b0 : decide (x7_1 < (l0.length : Int)) = false := decide_eq_false c2
   clear c2
   obtain rfl := Option.some.inj H
   go_wp2
   go_ret
   exact ⟨by first | rfl | (simp; done) | (simp [*]; done), by repeat (first | exact Drawn0.refl _ | apply Drawn0.step)⟩

/-! ### slices_Equal_int_int: function 47 -/
def slices_Equal_int_int.l0 : Nat → List Int → List Int → Int → Int → Option (Bool)
 | 0, _, _, _, _ => none
 | k + 1, x0, x1, x12, x13 => if x13 < x12 then (if 0 ≤ x13 then (if x13 < (x0.length : Int) then (if x13 < (x1.length : Int) then (if (rd x0 x13) = (rd x1 x13) then (slices_Equal_int_int.l0 k x0 x1 x12 (wrap64 (x13 + 1))) else (some false)) else (none)) else (none)) else (none)) else (some true)
def slices_Equal_int_int.f (k : Nat) (l0 : List Int) (l1 : List Int) : Option (Bool) := if (l0.length : Int) = (l1.length : Int) then (slices_Equal_int_int.l0 k l0 l1 (l0.length : Int) 0) else (some false)
theorem slices_Equal_int_int.mono_l : ∀ k, (∀ y0 y1 y2 y3, LeO (slices_Equal_int_int.l0 k y0 y1 y2 y3) (slices_Equal_int_int.l0 (k + 1) y0 y1 y2 y3))
 | 0 => fun _ _ _ _ r h => by simp [slices_Equal_int_int.l0] at h
 | k + 1 => by
  have ih0 := slices_Equal_int_int.mono_l k
  ·
   intro y0 y1 y2 y3
   unfold slices_Equal_int_int.l0
   repeat' first
   | (with_reducible exact ih0 _ _ _ _)
   | (with_reducible exact LeO.refl _)
   | (with_reducible exact LeO.none _)
   | (with_reducible refine LeO.ite ?_ ?_)
   | (with_reducible refine LeO.bind ?_ (fun _ => ?_))
   | exact ih0 _ _ _ _
   | exact LeO.none _
   | refine LeO.ite ?_ ?_
   | refine LeO.bind ?_ (fun _ => ?_)
theorem slices_Equal_int_int.mono : ∀ a0 a1 k, LeO (slices_Equal_int_int.f k a0 a1) (slices_Equal_int_int.f (k + 1) a0 a1) := by
 intro a0 a1 k
 have ih0 := slices_Equal_int_int.mono_l k
 unfold slices_Equal_int_int.f
 repeat' first
   | (with_reducible exact ih0 _ _ _ _)
   | (with_reducible exact LeO.refl _)
   | (with_reducible exact LeO.none _)
   | (with_reducible refine LeO.ite ?_ ?_)
   | (with_reducible refine LeO.bind ?_ (fun _ => ?_))
   | exact ih0 _ _ _ _
   | exact LeO.none _
   | refine LeO.ite ?_ ?_
   | refine LeO.bind ?_ (fun _ => ?_)
set_option maxHeartbeats 8000000 in
set_option maxRecDepth 100000 in
theorem slices_Equal_int_int.calls (k : Nat) (A0 : Option Addr) (c0 : Nat) (l0 : List Int) (A1 : Option Addr) (c1 : Nat) (l1 : List Int) (r : Bool) (w : World) (hr0 : Kd.C (Kd.int .i64) w A0 l0.length l0) (hc0 : l0.length ≤ c0) (hr1 : Kd.C (Kd.int .i64) w A1 l1.length l1) (hc1 : l1.length ≤ c1) (h : slices_Equal_int_int.f k l0 l1 = some r) :
  Calls Try.prog 47 #[.slice A0 l0.length c0, .slice A1 l1.length c1] w fun e w' => e = .returned (.bool r) ∧ Drawn0 w w' := by
 have HR0 := Zh hr0
 have HC0 := Zh hc0
 clear hr0 hc0
 have HR1 := Zh hr1
 have HC1 := Zh hc1
 clear hr1 hc1
 have H : (if (l0.length : Int) = (l1.length : Int) then (slices_Equal_int_int.l0 k l0 l1 (l0.length : Int) 0) else (some false)) = some r := h
 clear h
 by_cases c3 : (l0.length : Int) = (l1.length : Int)
 ·
  rw [if_pos c3] at H
  have c3b0 : ((l0.length : Int) == (l1.length : Int)) = true := beq_iff_eq.mpr c3
  have c3b1 : ((l0.length : Int) != (l1.length : Int)) = false := bne_eq_false_iff_eq.mpr c3
  have c3b2 : (l0.length == l1.length) = true := by first | simpa using c3 | (simp at c3 ⊢; omega)
  clear c3
  have H' := Zh H
  clear H
  go_enter Try.func47, Try.ntmps47
  go_wp2
  repeat (go_quiet (fail); try go_wp2)
  go_loopg [13] k (fun kq v13 w' => ∃ (x13_1 : Int), v13 = .int .i64 x13_1 ∧ Aside0 (slices_Equal_int_int.l0 kq l0 l1 (l0.length : Int) x13_1 = some r) ∧ Aside0 (kq ≤ k) ∧ Drawn0 w w')
  case atStart => exact ⟨(0), (by first | rfl | (simp; done) | (simp [*]; done)), H', ⟨Nat.le_refl _⟩, by repeat (first | exact Drawn0.refl _ | apply Drawn0.step)⟩
  case round =>
   clear H'
   try clear c1
   try clear p2
   try clear c3
   try clear c3b0
   try clear c3b1
   try clear c3b2
   obtain ⟨x13_1, rfl, HA, HK1, ⟨m1, rfl⟩⟩ := hrel
   cases gk with
   | zero => exact absurd HA.out (by simp [slices_Equal_int_int.l0])
   | succ k1 =>
    have H := HA.out
    clear HA
    simp only [slices_Equal_int_int.l0] at H
    by_cases c4 : x13_1 < (l0.length : Int)
    ·
     rw [if_pos c4] at H
     have c4b0 : decide (x13_1 < (l0.length : Int)) = true := decide_eq_true c4
     clear c4
     by_cases c5 : 0 ≤ x13_1
     ·
      rw [if_pos c5] at H
      have c5b0 : decide (0 ≤ x13_1) = true := decide_eq_true c5
      clear c5
      by_cases c6 : x13_1 < (l0.length : Int)
      ·
       rw [if_pos c6] at H
       have c6b0 : decide (x13_1 < (l0.length : Int)) = true := decide_eq_true c6
       clear c6
       by_cases c7 : x13_1 < (l1.length : Int)
       ·
        rw [if_pos c7] at H
        have c7b0 : decide (x13_1 < (l1.length : Int)) = true := decide_eq_true c7
        clear c7
        by_cases c8 : (rd l0 x13_1) = (rd l1 x13_1)
        ·
         rw [if_pos c8] at H
         have c8b0 : ((rd l0 x13_1) == (rd l1 x13_1)) = true := beq_iff_eq.mpr c8
         have c8b1 : ((rd l0 x13_1) != (rd l1 x13_1)) = false := bne_eq_false_iff_eq.mpr c8
         clear c8
         have H' := Zh H
         clear H
         have p141 : 0 ≤ (x13_1 : Int) := Zo
         have q141 : x13_1 < (l0.length : Int) := Zo
         obtain ⟨ad141, e141, hx141_0⟩ := Kd.at_int HR0.out x13_1 p141 q141
         cases e141
         replace p141 := eq_true p141
         replace q141 := eq_true q141
         have p142 : 0 ≤ (x13_1 : Int) := Zo
         have q142 : x13_1 < (l1.length : Int) := Zo
         obtain ⟨ad142, e142, hx142_0⟩ := Kd.at_int HR1.out x13_1 p142 q142
         cases e142
         replace p142 := eq_true p142
         replace q142 := eq_true q142
         go_wp2
         repeat (go_quiet (fail); try go_wp2)
         go_roundg k1
         case measure => have := HK1.out; omega
         case rel => exact ⟨(wrap64 (x13_1 + 1)), (by first | rfl | (simp; done) | (simp [*]; done)), H', ⟨by have := HK1.out; omega⟩, by repeat (first | exact Drawn0.refl _ | apply Drawn0.step)⟩
        rw [if_neg c8] at H
        have c8b0 : ((rd l0 x13_1) == (rd l1 x13_1)) = false := beq_eq_false_iff_ne.mpr c8
        have c8b1 : ((rd l0 x13_1) != (rd l1 x13_1)) = true := bne_iff_ne.mpr c8
        obtain rfl := Option.some.inj H
        have p141 : 0 ≤ (x13_1 : Int) := Zo
        have q141 : x13_1 < (l0.length : Int) := Zo
        obtain ⟨ad141, e141, hx141_0⟩ := Kd.at_int HR0.out x13_1 p141 q141
        cases e141
        replace p141 := eq_true p141
        replace q141 := eq_true q141
        have p142 : 0 ≤ (x13_1 : Int) := Zo
        have q142 : x13_1 < (l1.length : Int) := Zo
        obtain ⟨ad142, e142, hx142_0⟩ := Kd.at_int HR1.out x13_1 p142 q142
        cases e142
        replace p142 := eq_true p142
        replace q142 := eq_true q142
        go_wp2
        repeat (go_quiet (fail); try go_wp2)
        go_ret
        exact ⟨by first | rfl | (simp; done) | (simp [*]; done), by repeat (first | exact Drawn0.refl _ | apply Drawn0.step)⟩
       rw [if_neg c7] at H
       exact absurd H (by simp)
      rw [if_neg c6] at H
      exact absurd H (by simp)
     rw [if_neg c5] at H
     exact absurd H (by simp)
    rw [if_neg c4] at H
    have c4b0 : decide (x13_1 < (l0.length : Int)) = false := decide_eq_false c4
    clear c4
    obtain rfl := Option.some.inj H
    go_wp2
    repeat (go_quiet (fail); try go_wp2)
    go_ret
    exact ⟨by first | rfl | (simp; done) | (simp [*]; done), by repeat (first | exact Drawn0.refl _ | apply Drawn0.step)⟩
 rw [if_neg c3] at H
 have c3b0 : ((l0.length : Int) == (l1.length : Int)) = false := beq_eq_false_iff_ne.mpr c3
 have c3b1 : ((l0.length : Int) != (l1.length : Int)) = true := bne_iff_ne.mpr c3
 have c3b2 : (l0.length == l1.length) = false := by first | simpa using c3 | (simp at c3 ⊢; omega)
 obtain rfl := Option.some.inj H
 go_enter Try.func47, Try.ntmps47
 go_wp2
 repeat (go_quiet (fail); try go_wp2)
 go_ret
 exact ⟨by first | rfl | (simp; done) | (simp [*]; done), by repeat (first | exact Drawn0.refl _ | apply Drawn0.step)⟩

/-! ### impl_isConf: function 34 -/
def impl_isConf.f (k : Nat) (l0_0 : List Int) (l0_1 : List Int) (l0_2 : List Int) : Option (Bool) := (impl_areIds.f k l0_0).bind fun t144 => (if t144 = true then (if (l0_0.length : Int) = 0 then (some false) else ((impl_areIds.f k l0_1).bind fun t145 => (if t145 = true then ((slices_Equal_int_int.f k l0_0 l0_1).bind fun t146 => (if t146 = true then (some false) else ((impl_areIds.f k l0_2).bind fun t147 => (if t147 = true then ((impl_isConf_learn.f l0_0 l0_1 l0_2).bind fun t148 => (some (!t148))) else (some false))))) else (some false)))) else (some false))
theorem impl_isConf.mono : ∀ a0 a1 a2 k, LeO (impl_isConf.f k a0 a1 a2) (impl_isConf.f (k + 1) a0 a1 a2) := by
 intro a0 a1 a2 k
 unfold impl_isConf.f
 repeat' first
   | (with_reducible exact impl_areIds.mono _ _)
   | (with_reducible exact slices_Equal_int_int.mono _ _ _)
   | (with_reducible exact LeO.refl _)
   | (with_reducible exact LeO.none _)
   | (with_reducible refine LeO.ite ?_ ?_)
   | (with_reducible refine LeO.bind ?_ (fun _ => ?_))
   | exact impl_areIds.mono _ _
   | exact slices_Equal_int_int.mono _ _ _
   | exact LeO.none _
   | refine LeO.ite ?_ ?_
   | refine LeO.bind ?_ (fun _ => ?_)
set_option maxHeartbeats 8000000 in
set_option maxRecDepth 100000 in
theorem impl_isConf.calls (k : Nat) (A0_0 : Option Addr) (c0_0 : Nat) (l0_0 : List Int) (A0_1 : Option Addr) (c0_1 : Nat) (l0_1 : List Int) (A0_2 : Option Addr) (c0_2 : Nat) (l0_2 : List Int) (r : Bool) (w : World) (hr0_0 : Kd.C (Kd.int .i64) w A0_0 l0_0.length l0_0) (hc0_0 : l0_0.length ≤ c0_0) (hr0_1 : Kd.C (Kd.int .i64) w A0_1 l0_1.length l0_1) (hc0_1 : l0_1.length ≤ c0_1) (hr0_2 : Kd.C (Kd.int .i64) w A0_2 l0_2.length l0_2) (hc0_2 : l0_2.length ≤ c0_2) (h : impl_isConf.f k l0_0 l0_1 l0_2 = some r) :
  Calls Try.prog 34 #[.agg #[.slice A0_0 l0_0.length c0_0, .slice A0_1 l0_1.length c0_1, .slice A0_2 l0_2.length c0_2]] w fun e w' => e = .returned (.bool r) ∧ Below w.heap.size w w' := by
 have hu27 := Try.underlying27
 have HR0_0 := Zh hr0_0
 have HC0_0 := Zh hc0_0
 clear hr0_0 hc0_0
 have HR0_1 := Zh hr0_1
 have HC0_1 := Zh hc0_1
 clear hr0_1 hc0_1
 have HR0_2 := Zh hr0_2
 have HC0_2 := Zh hc0_2
 clear hr0_2 hc0_2
 have HB := Zh (Below.refl w.heap.size w)
 have H : ((impl_areIds.f k l0_0).bind fun t144 => (if t144 = true then (if (l0_0.length : Int) = 0 then (some false) else ((impl_areIds.f k l0_1).bind fun t145 => (if t145 = true then ((slices_Equal_int_int.f k l0_0 l0_1).bind fun t146 => (if t146 = true then (some false) else ((impl_areIds.f k l0_2).bind fun t147 => (if t147 = true then ((impl_isConf_learn.f l0_0 l0_1 l0_2).bind fun t148 => (some (!t148))) else (some false))))) else (some false)))) else (some false))) = some r := h
 clear h
 replace H := Option.bind_eq_some_iff.mp H
 obtain ⟨t144, A20, H⟩ := H
 replace H : (if t144 = true then (if (l0_0.length : Int) = 0 then (some false) else ((impl_areIds.f k l0_1).bind fun t145 => (if t145 = true then ((slices_Equal_int_int.f k l0_0 l0_1).bind fun t146 => (if t146 = true then (some false) else ((impl_areIds.f k l0_2).bind fun t147 => (if t147 = true then ((impl_isConf_learn.f l0_0 l0_1 l0_2).bind fun t148 => (some (!t148))) else (some false))))) else (some false)))) else (some false)) = some r := H
 have A2 := Zh A20
 clear A20
 by_cases c3 : t144 = true
 ·
  subst c3
  have H1 : (if (l0_0.length : Int) = 0 then (some false) else ((impl_areIds.f k l0_1).bind fun t145 => (if t145 = true then ((slices_Equal_int_int.f k l0_0 l0_1).bind fun t146 => (if t146 = true then (some false) else ((impl_areIds.f k l0_2).bind fun t147 => (if t147 = true then ((impl_isConf_learn.f l0_0 l0_1 l0_2).bind fun t148 => (some (!t148))) else (some false))))) else (some false)))) = some r := by rw [if_pos rfl] at H; exact H
  clear H
  have H := H1
  clear H1
  by_cases c4 : (l0_0.length : Int) = 0
  ·
   rw [if_pos c4] at H
   have c4b0 : ((l0_0.length : Int) == 0) = true := beq_iff_eq.mpr c4
   have c4b1 : ((l0_0.length : Int) != 0) = false := bne_eq_false_iff_eq.mpr c4
   clear c4
   obtain rfl := Option.some.inj H
   go_enter Try.func34, Try.ntmps34
   go_wp2_with (first | ((with_reducible refine gate_dst (N := 1) rfl ?_); (try (refine gate_guard (by rfl) ?_; dsimp only)); refine box_event ?hg (N := 1) ?hd (cs := #[.slice A0_0 l0_0.length c0_0, .slice A0_1 l0_1.length c0_1, .slice A0_2 l0_2.length c0_2]) (t := 27) ?hr ?_; (case hd => rfl); (case hg => rfl); (case hr => first | (go_simp; done) | (go_simp; rfl)); intro gb143 hg w5 hbox hb; have BK143 := Zh (hbox); have GW143 := Zh ((by rw [hg]; exact (below_size Zs) : w.heap.size ≤ gb143)); have GE143 := Zh ((by rw [hg]; exact (below_size Zs) : w.heap.size ≤ gb143)); replace HB := Zh (Zl Zs hb); clear hb hbox hg; have hcz6_0 : w5.cell? ⟨gb143, 0, none⟩ = some (.slice A0_0 l0_0.length c0_0) := (blk_cell BK143.out 0).trans rfl; have hcz6_1 : w5.cell? ⟨gb143, 1, none⟩ = some (.slice A0_1 l0_1.length c0_1) := (blk_cell BK143.out 1).trans rfl; have hcz6_2 : w5.cell? ⟨gb143, 2, none⟩ = some (.slice A0_2 l0_2.length c0_2) := (blk_cell BK143.out 2).trans rfl; have hfz6_0 := Zn BK143.out 0; have hfz6_1 := Zn BK143.out 1; have hfz6_2 := Zn BK143.out 2) | ((with_reducible refine gate_callee (f := 46) rfl ?_); refine ZG (some 5) Try.func46 #[.slice A0_0 l0_0.length c0_0] rfl ?_; (with_reducible refine (impl_areIds.calls k _ _ l0_0 true _ ?side1 ?side2 A2.out).mono ?_); (case side1 => repeat (first | exact (C_below HR0_0.out HB.out) | (with_reducible refine C_alloc ?_ _) | (with_reducible refine C_drewN ?_ _) | (with_reducible refine C_drew ?_))); (case side2 => exact HC0_0.out); rintro e w' ⟨rfl, ⟨nd, rfl⟩⟩; refine ⟨_, rfl, ?_⟩))
   go_ret
   exact ⟨ZE, Zs⟩
  rw [if_neg c4] at H
  have c4b0 : ((l0_0.length : Int) == 0) = false := beq_eq_false_iff_ne.mpr c4
  have c4b1 : ((l0_0.length : Int) != 0) = true := bne_iff_ne.mpr c4
  have c4b2 : ¬ (l0_0 = []) := fun h_ => c4 (by rw [h_]; rfl)
  replace H := Option.bind_eq_some_iff.mp H
  obtain ⟨t145, A70, H⟩ := H
  replace H : (if t145 = true then ((slices_Equal_int_int.f k l0_0 l0_1).bind fun t146 => (if t146 = true then (some false) else ((impl_areIds.f k l0_2).bind fun t147 => (if t147 = true then ((impl_isConf_learn.f l0_0 l0_1 l0_2).bind fun t148 => (some (!t148))) else (some false))))) else (some false)) = some r := H
  have A7 := Zh A70
  clear A70
  by_cases c8 : t145 = true
  ·
   subst c8
   have H1 : ((slices_Equal_int_int.f k l0_0 l0_1).bind fun t146 => (if t146 = true then (some false) else ((impl_areIds.f k l0_2).bind fun t147 => (if t147 = true then ((impl_isConf_learn.f l0_0 l0_1 l0_2).bind fun t148 => (some (!t148))) else (some false))))) = some r := by rw [if_pos rfl] at H; exact H
   clear H
   have H := H1
   clear H1
   replace H := Option.bind_eq_some_iff.mp H
   obtain ⟨t146, A90, H⟩ := H
   replace H : (if t146 = true then (some false) else ((impl_areIds.f k l0_2).bind fun t147 => (if t147 = true then ((impl_isConf_learn.f l0_0 l0_1 l0_2).bind fun t148 => (some (!t148))) else (some false)))) = some r := H
   have A9 := Zh A90
   clear A90
   by_cases c10 : t146 = true
   ·
    subst c10
    have H1 : (some false) = some r := by rw [if_pos rfl] at H; exact H
    clear H
    have H := H1
    clear H1
    obtain rfl := Option.some.inj H
    go_enter Try.func34, Try.ntmps34
    go_wp2_with (first | ((with_reducible refine gate_dst (N := 1) rfl ?_); (try (refine gate_guard (by rfl) ?_; dsimp only)); refine box_event ?hg (N := 1) ?hd (cs := #[.slice A0_0 l0_0.length c0_0, .slice A0_1 l0_1.length c0_1, .slice A0_2 l0_2.length c0_2]) (t := 27) ?hr ?_; (case hd => rfl); (case hg => rfl); (case hr => first | (go_simp; done) | (go_simp; rfl)); intro gb143 hg w11 hbox hb; have BK143 := Zh (hbox); have GW143 := Zh ((by rw [hg]; exact (below_size Zs) : w.heap.size ≤ gb143)); have GE143 := Zh ((by rw [hg]; exact (below_size Zs) : w.heap.size ≤ gb143)); replace HB := Zh (Zl Zs hb); clear hb hbox hg; have hcz12_0 : w11.cell? ⟨gb143, 0, none⟩ = some (.slice A0_0 l0_0.length c0_0) := (blk_cell BK143.out 0).trans rfl; have hcz12_1 : w11.cell? ⟨gb143, 1, none⟩ = some (.slice A0_1 l0_1.length c0_1) := (blk_cell BK143.out 1).trans rfl; have hcz12_2 : w11.cell? ⟨gb143, 2, none⟩ = some (.slice A0_2 l0_2.length c0_2) := (blk_cell BK143.out 2).trans rfl; have hfz12_0 := Zn BK143.out 0; have hfz12_1 := Zn BK143.out 1; have hfz12_2 := Zn BK143.out 2) | ((with_reducible refine gate_callee (f := 46) rfl ?_); refine ZG (some 5) Try.func46 #[.slice A0_0 l0_0.length c0_0] rfl ?_; (with_reducible refine (impl_areIds.calls k _ _ l0_0 true _ ?side1 ?side2 A2.out).mono ?_); (case side1 => repeat (first | exact (C_below HR0_0.out HB.out) | (with_reducible refine C_alloc ?_ _) | (with_reducible refine C_drewN ?_ _) | (with_reducible refine C_drew ?_))); (case side2 => exact HC0_0.out); rintro e w' ⟨rfl, ⟨nd, rfl⟩⟩; refine ⟨_, rfl, ?_⟩) | (go_at_call 46; (with_reducible refine (impl_areIds.calls k _ _ l0_1 true _ ?side1 ?side2 A7.out).mono ?_); (case side1 => repeat (first | exact (C_below HR0_1.out Zs) | (with_reducible refine C_alloc ?_ _) | (with_reducible refine C_drewN ?_ _) | (with_reducible refine C_drew ?_))); (case side2 => exact HC0_1.out); rintro e w' ⟨rfl, ⟨nd, rfl⟩⟩) | (go_at_call 47; (with_reducible refine (slices_Equal_int_int.calls k _ _ l0_0 _ _ l0_1 true _ ?side1 ?side2 ?side3 ?side4 A9.out).mono ?_); (case side1 => repeat (first | exact (C_below HR0_0.out Zs) | (with_reducible refine C_alloc ?_ _) | (with_reducible refine C_drewN ?_ _) | (with_reducible refine C_drew ?_))); (case side2 => exact HC0_0.out); (case side3 => repeat (first | exact (C_below HR0_1.out Zs) | (with_reducible refine C_alloc ?_ _) | (with_reducible refine C_drewN ?_ _) | (with_reducible refine C_drew ?_))); (case side4 => exact HC0_1.out); rintro e w' ⟨rfl, ⟨nd, rfl⟩⟩))
    go_ret
    exact ⟨ZE, Zs⟩
   replace c10 := Bool.eq_false_iff.mpr c10
   subst c10
   have H1 : ((impl_areIds.f k l0_2).bind fun t147 => (if t147 = true then ((impl_isConf_learn.f l0_0 l0_1 l0_2).bind fun t148 => (some (!t148))) else (some false))) = some r := by rw [if_neg (show ¬ (false = true) by decide)] at H; exact H
   clear H
   have H := H1
   clear H1
   replace H := Option.bind_eq_some_iff.mp H
   obtain ⟨t147, A130, H⟩ := H
   replace H : (if t147 = true then ((impl_isConf_learn.f l0_0 l0_1 l0_2).bind fun t148 => (some (!t148))) else (some false)) = some r := H
   have A13 := Zh A130
   clear A130
   by_cases c14 : t147 = true
   ·
    subst c14
    have H1 : ((impl_isConf_learn.f l0_0 l0_1 l0_2).bind fun t148 => (some (!t148))) = some r := by rw [if_pos rfl] at H; exact H
    clear H
    have H := H1
    clear H1
    replace H := Option.bind_eq_some_iff.mp H
    obtain ⟨t148, A150, H⟩ := H
    replace H : (some (!t148)) = some r := H
    have A15 := Zh A150
    clear A150
    obtain rfl := Option.some.inj H
    go_enter Try.func34, Try.ntmps34
    have hmf : ∀ (fn : Fn) (first cap : Array Value) (w : World), (Instr.makeFunc fn first cap).run Try.prog w = .ok (.func fn first cap) w := fun _ _ _ _ => rfl
    go_wp2_with (first | ((with_reducible refine gate_dst (N := 1) rfl ?_); (try (refine gate_guard (by rfl) ?_; dsimp only)); refine box_event ?hg (N := 1) ?hd (cs := #[.slice A0_0 l0_0.length c0_0, .slice A0_1 l0_1.length c0_1, .slice A0_2 l0_2.length c0_2]) (t := 27) ?hr ?_; (case hd => rfl); (case hg => rfl); (case hr => first | (go_simp; done) | (go_simp; rfl)); intro gb143 hg w16 hbox hb; have BK143 := Zh (hbox); have GW143 := Zh ((by rw [hg]; exact (below_size Zs) : w.heap.size ≤ gb143)); have GE143 := Zh ((by rw [hg]; exact (below_size Zs) : w.heap.size ≤ gb143)); replace HB := Zh (Zl Zs hb); clear hb hbox hg; have hcz17_0 : w16.cell? ⟨gb143, 0, none⟩ = some (.slice A0_0 l0_0.length c0_0) := (blk_cell BK143.out 0).trans rfl; have hcz17_1 : w16.cell? ⟨gb143, 1, none⟩ = some (.slice A0_1 l0_1.length c0_1) := (blk_cell BK143.out 1).trans rfl; have hcz17_2 : w16.cell? ⟨gb143, 2, none⟩ = some (.slice A0_2 l0_2.length c0_2) := (blk_cell BK143.out 2).trans rfl; have hfz17_0 := Zn BK143.out 0; have hfz17_1 := Zn BK143.out 1; have hfz17_2 := Zn BK143.out 2) | ((with_reducible refine gate_callee (f := 46) rfl ?_); refine ZG (some 5) Try.func46 #[.slice A0_0 l0_0.length c0_0] rfl ?_; (with_reducible refine (impl_areIds.calls k _ _ l0_0 true _ ?side1 ?side2 A2.out).mono ?_); (case side1 => repeat (first | exact (C_below HR0_0.out HB.out) | (with_reducible refine C_alloc ?_ _) | (with_reducible refine C_drewN ?_ _) | (with_reducible refine C_drew ?_))); (case side2 => exact HC0_0.out); rintro e w' ⟨rfl, ⟨nd, rfl⟩⟩; refine ⟨_, rfl, ?_⟩) | (go_at_call 46; (with_reducible refine (impl_areIds.calls k _ _ l0_1 true _ ?side1 ?side2 A7.out).mono ?_); (case side1 => repeat (first | exact (C_below HR0_1.out Zs) | (with_reducible refine C_alloc ?_ _) | (with_reducible refine C_drewN ?_ _) | (with_reducible refine C_drew ?_))); (case side2 => exact HC0_1.out); rintro e w' ⟨rfl, ⟨nd, rfl⟩⟩) | (go_at_call 47; (with_reducible refine (slices_Equal_int_int.calls k _ _ l0_0 _ _ l0_1 false _ ?side1 ?side2 ?side3 ?side4 A9.out).mono ?_); (case side1 => repeat (first | exact (C_below HR0_0.out Zs) | (with_reducible refine C_alloc ?_ _) | (with_reducible refine C_drewN ?_ _) | (with_reducible refine C_drew ?_))); (case side2 => exact HC0_0.out); (case side3 => repeat (first | exact (C_below HR0_1.out Zs) | (with_reducible refine C_alloc ?_ _) | (with_reducible refine C_drewN ?_ _) | (with_reducible refine C_drew ?_))); (case side4 => exact HC0_1.out); rintro e w' ⟨rfl, ⟨nd, rfl⟩⟩) | (go_at_call 46; (with_reducible refine (impl_areIds.calls k _ _ l0_2 true _ ?side1 ?side2 A13.out).mono ?_); (case side1 => repeat (first | exact (C_below HR0_2.out Zs) | (with_reducible refine C_alloc ?_ _) | (with_reducible refine C_drewN ?_ _) | (with_reducible refine C_drew ?_))); (case side2 => exact HC0_2.out); rintro e w' ⟨rfl, ⟨nd, rfl⟩⟩) | ((with_reducible refine gate_callee (f := 48) rfl ?_); refine ZG (some 35) Try.func48 #[.slice A0_2 l0_2.length c0_2, .func (.func 49) #[] #[.pointer (some ⟨gb143, 0, none⟩)]] rfl ?_; (with_reducible refine (impl_isConf_learn.calls gb143 A0_0 c0_0 l0_0 A0_1 c0_1 l0_1 _ _ l0_2 t148 _ ?side1 ?side2 A15.out ?sh0 HC0_0.out ?sh1 HC0_1.out ?sb0 ?sb1).mono ?_); (case sh0 => repeat (first | exact (C_below HR0_0.out Zs) | (with_reducible refine C_alloc ?_ _) | (with_reducible refine C_drewN ?_ _) | (with_reducible refine C_drew ?_))); (case sh1 => repeat (first | exact (C_below HR0_1.out Zs) | (with_reducible refine C_alloc ?_ _) | (with_reducible refine C_drewN ?_ _) | (with_reducible refine C_drew ?_))); (case sb0 => first | assumption | (go_simp; done) | (simp [*]; done)); (case sb1 => first | assumption | (go_simp; done) | (simp [*]; done)); (case side1 => repeat (first | exact (C_below HR0_2.out Zs) | (with_reducible refine C_alloc ?_ _) | (with_reducible refine C_drewN ?_ _) | (with_reducible refine C_drew ?_))); (case side2 => exact HC0_2.out); rintro e w' ⟨rfl, ⟨nd, rfl⟩⟩; refine ⟨_, rfl, ?_⟩))
    go_ret
    exact ⟨ZE, Zs⟩
   replace c14 := Bool.eq_false_iff.mpr c14
   subst c14
   have H1 : (some false) = some r := by rw [if_neg (show ¬ (false = true) by decide)] at H; exact H
   clear H
   have H := H1
   clear H1
   obtain rfl := Option.some.inj H
   go_enter Try.func34, Try.ntmps34
   go_wp2_with (first | ((with_reducible refine gate_dst (N := 1) rfl ?_); (try (refine gate_guard (by rfl) ?_; dsimp only)); refine box_event ?hg (N := 1) ?hd (cs := #[.slice A0_0 l0_0.length c0_0, .slice A0_1 l0_1.length c0_1, .slice A0_2 l0_2.length c0_2]) (t := 27) ?hr ?_; (case hd => rfl); (case hg => rfl); (case hr => first | (go_simp; done) | (go_simp; rfl)); intro gb143 hg w18 hbox hb; have BK143 := Zh (hbox); have GW143 := Zh ((by rw [hg]; exact (below_size Zs) : w.heap.size ≤ gb143)); have GE143 := Zh ((by rw [hg]; exact (below_size Zs) : w.heap.size ≤ gb143)); replace HB := Zh (Zl Zs hb); clear hb hbox hg; have hcz19_0 : w18.cell? ⟨gb143, 0, none⟩ = some (.slice A0_0 l0_0.length c0_0) := (blk_cell BK143.out 0).trans rfl; have hcz19_1 : w18.cell? ⟨gb143, 1, none⟩ = some (.slice A0_1 l0_1.length c0_1) := (blk_cell BK143.out 1).trans rfl; have hcz19_2 : w18.cell? ⟨gb143, 2, none⟩ = some (.slice A0_2 l0_2.length c0_2) := (blk_cell BK143.out 2).trans rfl; have hfz19_0 := Zn BK143.out 0; have hfz19_1 := Zn BK143.out 1; have hfz19_2 := Zn BK143.out 2) | ((with_reducible refine gate_callee (f := 46) rfl ?_); refine ZG (some 5) Try.func46 #[.slice A0_0 l0_0.length c0_0] rfl ?_; (with_reducible refine (impl_areIds.calls k _ _ l0_0 true _ ?side1 ?side2 A2.out).mono ?_); (case side1 => repeat (first | exact (C_below HR0_0.out HB.out) | (with_reducible refine C_alloc ?_ _) | (with_reducible refine C_drewN ?_ _) | (with_reducible refine C_drew ?_))); (case side2 => exact HC0_0.out); rintro e w' ⟨rfl, ⟨nd, rfl⟩⟩; refine ⟨_, rfl, ?_⟩) | (go_at_call 46; (with_reducible refine (impl_areIds.calls k _ _ l0_1 true _ ?side1 ?side2 A7.out).mono ?_); (case side1 => repeat (first | exact (C_below HR0_1.out Zs) | (with_reducible refine C_alloc ?_ _) | (with_reducible refine C_drewN ?_ _) | (with_reducible refine C_drew ?_))); (case side2 => exact HC0_1.out); rintro e w' ⟨rfl, ⟨nd, rfl⟩⟩) | (go_at_call 47; (with_reducible refine (slices_Equal_int_int.calls k _ _ l0_0 _ _ l0_1 false _ ?side1 ?side2 ?side3 ?side4 A9.out).mono ?_); (case side1 => repeat (first | exact (C_below HR0_0.out Zs) | (with_reducible refine C_alloc ?_ _) | (with_reducible refine C_drewN ?_ _) | (with_reducible refine C_drew ?_))); (case side2 => exact HC0_0.out); (case side3 => repeat (first | exact (C_below HR0_1.out Zs) | (with_reducible refine C_alloc ?_ _) | (with_reducible refine C_drewN ?_ _) | (with_reducible refine C_drew ?_))); (case side4 => exact HC0_1.out); rintro e w' ⟨rfl, ⟨nd, rfl⟩⟩) | (go_at_call 46; (with_reducible refine (impl_areIds.calls k _ _ l0_2 false _ ?side1 ?side2 A13.out).mono ?_); (case side1 => repeat (first | exact (C_below HR0_2.out Zs) | (with_reducible refine C_alloc ?_ _) | (with_reducible refine C_drewN ?_ _) | (with_reducible refine C_drew ?_))); (case side2 => exact HC0_2.out); rintro e w' ⟨rfl, ⟨nd, rfl⟩⟩))
   go_ret
   exact ⟨ZE, Zs⟩
  replace c8 := Bool.eq_false_iff.mpr c8
  subst c8
  have H1 : (some false) = some r := by rw [if_neg (show ¬ (false = true) by decide)] at H; exact H
  clear H
  have H := H1
  clear H1
  obtain rfl := Option.some.inj H
  go_enter Try.func34, Try.ntmps34
  go_wp2_with (first | ((with_reducible refine gate_dst (N := 1) rfl ?_); (try (refine gate_guard (by rfl) ?_; dsimp only)); refine box_event ?hg (N := 1) ?hd (cs := #[.slice A0_0 l0_0.length c0_0, .slice A0_1 l0_1.length c0_1, .slice A0_2 l0_2.length c0_2]) (t := 27) ?hr ?_; (case hd => rfl); (case hg => rfl); (case hr => first | (go_simp; done) | (go_simp; rfl)); intro gb143 hg w20 hbox hb; have BK143 := Zh (hbox); have GW143 := Zh ((by rw [hg]; exact (below_size Zs) : w.heap.size ≤ gb143)); have GE143 := Zh ((by rw [hg]; exact (below_size Zs) : w.heap.size ≤ gb143)); replace HB := Zh (Zl Zs hb); clear hb hbox hg; have hcz21_0 : w20.cell? ⟨gb143, 0, none⟩ = some (.slice A0_0 l0_0.length c0_0) := (blk_cell BK143.out 0).trans rfl; have hcz21_1 : w20.cell? ⟨gb143, 1, none⟩ = some (.slice A0_1 l0_1.length c0_1) := (blk_cell BK143.out 1).trans rfl; have hcz21_2 : w20.cell? ⟨gb143, 2, none⟩ = some (.slice A0_2 l0_2.length c0_2) := (blk_cell BK143.out 2).trans rfl; have hfz21_0 := Zn BK143.out 0; have hfz21_1 := Zn BK143.out 1; have hfz21_2 := Zn BK143.out 2) | ((with_reducible refine gate_callee (f := 46) rfl ?_); refine ZG (some 5) Try.func46 #[.slice A0_0 l0_0.length c0_0] rfl ?_; (with_reducible refine (impl_areIds.calls k _ _ l0_0 true _ ?side1 ?side2 A2.out).mono ?_); (case side1 => repeat (first | exact (C_below HR0_0.out HB.out) | (with_reducible refine C_alloc ?_ _) | (with_reducible refine C_drewN ?_ _) | (with_reducible refine C_drew ?_))); (case side2 => exact HC0_0.out); rintro e w' ⟨rfl, ⟨nd, rfl⟩⟩; refine ⟨_, rfl, ?_⟩) | (go_at_call 46; (with_reducible refine (impl_areIds.calls k _ _ l0_1 false _ ?side1 ?side2 A7.out).mono ?_); (case side1 => repeat (first | exact (C_below HR0_1.out Zs) | (with_reducible refine C_alloc ?_ _) | (with_reducible refine C_drewN ?_ _) | (with_reducible refine C_drew ?_))); (case side2 => exact HC0_1.out); rintro e w' ⟨rfl, ⟨nd, rfl⟩⟩))
  go_ret
  exact ⟨ZE, Zs⟩
 replace c3 := Bool.eq_false_iff.mpr c3
 subst c3
 have H1 : (some false) = some r := by rw [if_neg (show ¬ (false = true) by decide)] at H; exact H
 clear H
 have H := H1
 clear H1
 obtain rfl := Option.some.inj H
 go_enter Try.func34, Try.ntmps34
 go_wp2_with (first | ((with_reducible refine gate_dst (N := 1) rfl ?_); (try (refine gate_guard (by rfl) ?_; dsimp only)); refine box_event ?hg (N := 1) ?hd (cs := #[.slice A0_0 l0_0.length c0_0, .slice A0_1 l0_1.length c0_1, .slice A0_2 l0_2.length c0_2]) (t := 27) ?hr ?_; (case hd => rfl); (case hg => rfl); (case hr => first | (go_simp; done) | (go_simp; rfl)); intro gb143 hg w22 hbox hb; have BK143 := Zh (hbox); have GW143 := Zh ((by rw [hg]; exact (below_size Zs) : w.heap.size ≤ gb143)); have GE143 := Zh ((by rw [hg]; exact (below_size Zs) : w.heap.size ≤ gb143)); replace HB := Zh (Zl Zs hb); clear hb hbox hg; have hcz23_0 : w22.cell? ⟨gb143, 0, none⟩ = some (.slice A0_0 l0_0.length c0_0) := (blk_cell BK143.out 0).trans rfl; have hcz23_1 : w22.cell? ⟨gb143, 1, none⟩ = some (.slice A0_1 l0_1.length c0_1) := (blk_cell BK143.out 1).trans rfl; have hcz23_2 : w22.cell? ⟨gb143, 2, none⟩ = some (.slice A0_2 l0_2.length c0_2) := (blk_cell BK143.out 2).trans rfl; have hfz23_0 := Zn BK143.out 0; have hfz23_1 := Zn BK143.out 1; have hfz23_2 := Zn BK143.out 2) | ((with_reducible refine gate_callee (f := 46) rfl ?_); refine ZG (some 5) Try.func46 #[.slice A0_0 l0_0.length c0_0] rfl ?_; (with_reducible refine (impl_areIds.calls k _ _ l0_0 false _ ?side1 ?side2 A2.out).mono ?_); (case side1 => repeat (first | exact (C_below HR0_0.out HB.out) | (with_reducible refine C_alloc ?_ _) | (with_reducible refine C_drewN ?_ _) | (with_reducible refine C_drew ?_))); (case side2 => exact HC0_0.out); rintro e w' ⟨rfl, ⟨nd, rfl⟩⟩; refine ⟨_, rfl, ?_⟩))
 go_ret
 exact ⟨ZE, Zs⟩

end Go.Proofs.Ytedlgllhaboljaa.F

namespace Go.Proofs.Ytedlgllhaboljaa.F
open Go.RowKit Go.Proofs.YtedlgllhaboljaaW.PrintWords Go.Proofs.YtedlgllhaboljaaW.PrintLast Go.Proofs.YtedlgllhaboljaaW.PrintMore
open Go.Proofs.Ytedlgllhaboljaa
set_option linter.unusedVariables false
set_option linter.unusedSimpArgs false
def begin_del (w l : List Int) : List Int := l.filter fun x => !w.contains x
def impl_begin.f (k : Nat) (l0_0 l0_1 l0_2 l1 : List Int) : Option (List Int × List Int × List Int × Bool) :=
  (impl_copyConf.f l0_0 l0_1 l0_2).bind fun o => (impl_isConf.f k l0_0 l0_1 l0_2).bind fun t => if t = true then (if (l0_1.length : Int) > 0 then some (o.1, o.2.1, o.2.2, false) else (if (l1.length : Int) = 0 then some (o.1, o.2.1, o.2.2, false) else (if l1.length < 17592186044416 then (if o.2.2.length ≤ 9223372036854775807 then (impl_isConf.f k o.1 l1 (begin_del l1 o.2.2)).bind fun t2 => if t2 = true then some (o.1, l1, begin_del l1 o.2.2, true) else (impl_copyConf.f l0_0 l0_1 l0_2).bind fun o2 => some (o2.1, o2.2.1, o2.2.2, false) else none) else none))) else some (o.1, o.2.1, o.2.2, false)
theorem impl_begin.mono : ∀ l0_0 l0_1 l0_2 l1 k, LeO (impl_begin.f k l0_0 l0_1 l0_2 l1) (impl_begin.f (k + 1) l0_0 l0_1 l0_2 l1) := fun a b c d k => by
  unfold impl_begin.f
  exact LeO.bind (LeO.refl _) (fun _ => LeO.bind (impl_isConf.mono _ _ _ _) (fun _ => LeO.ite (LeO.ite (LeO.refl _) (LeO.ite (LeO.refl _) (LeO.ite (LeO.ite (LeO.bind (impl_isConf.mono _ _ _ _) (fun _ => LeO.refl _)) (LeO.refl _)) (LeO.refl _)))) (LeO.refl _)))
theorem begin1.pred (B : Nat) (A1 : Option Addr) (c1 : Nat) (l1 : List Int) (w : World) (hr1 : Kd.C (Kd.int .i64) w A1 l1.length l1) (hc1 : l1.length ≤ c1) (hl1 : l1.length ≤ 9223372036854775807) (hb : w.cell? ⟨B, 0, none⟩ = some (.slice A1 l1.length c1)) :
    PredD 54 #[.pointer (some ⟨B, 0, none⟩)] (fun x => l1.contains x) w := by
  intro n x
  have h0 := containsAt A1 c1 l1 w hr1 hc1 hl1 x
  clear hr1
  go_enter Try.func54, Try.ntmps54
  have e6 : ∀ args w, (callFunc 50 args).run Try.prog w = .ok (.enter 50 args) w := enters_of Try.func50 (by kernel_rfl) rfl
  go_wp2_with (go_at_fn 50; refine (h0 _).mono ?_; rintro e w' ⟨rfl, q, rfl⟩)
  go_ret
  exact ⟨by simp, _, rfl⟩
theorem R_emptyI (w : World) : Kd.R (Kd.int .i64) 3 (w.alloc (.cells #[] 3)) w.heap.size (fun _ => True) (.slice (some ⟨w.heap.size, 0, none⟩) 0 0) [] := ⟨fun _ _ => trivial, OwnRow.lit (inner := []) w w.heap.size (Reps.none _ _) (Nat.le_refl _) (by simp)⟩
set_option maxHeartbeats 8000000 in
set_option maxRecDepth 100000 in
theorem impl_begin.calls (k : Nat) (A0_0 : Option Addr) (c0_0 : Nat) (l0_0 : List Int) (A0_1 : Option Addr) (c0_1 : Nat) (l0_1 : List Int) (A0_2 : Option Addr) (c0_2 : Nat) (l0_2 : List Int) (A1 : Option Addr) (c1 : Nat) (l1 : List Int) (r1 : List Int) (r2 : List Int) (r3 : List Int) (r4 : Bool) (w : World) (hr0_0 : Kd.C (Kd.int .i64) w A0_0 l0_0.length l0_0) (hc0_0 : l0_0.length ≤ c0_0) (hr0_1 : Kd.C (Kd.int .i64) w A0_1 l0_1.length l0_1) (hc0_1 : l0_1.length ≤ c0_1) (hr0_2 : Kd.C (Kd.int .i64) w A0_2 l0_2.length l0_2) (hc0_2 : l0_2.length ≤ c0_2) (hr1 : Kd.C (Kd.int .i64) w A1 l1.length l1) (hc1 : l1.length ≤ c1) (h : impl_begin.f k l0_0 l0_1 l0_2 l1 = some (r1, r2, r3, r4)) :
    Calls Try.prog 42 #[.agg #[.slice A0_0 l0_0.length c0_0, .slice A0_1 l0_1.length c0_1, .slice A0_2 l0_2.length c0_2], .slice A1 l1.length c1] w fun e w' => ∃ v0_ v1_ v2_ : Value, e = .returned (.tuple #[.agg #[v0_, v1_, v2_], .bool r4]) ∧ Kd.R (Kd.int .i64) 3 w' w.heap.size (fun k_ => some k_ ≠ (v1_ : Value).ownBlock ∧ some k_ ≠ (v2_ : Value).ownBlock) v0_ r1 ∧ Kd.R (Kd.int .i64) 3 w' w.heap.size (fun k_ => some k_ ≠ (v0_ : Value).ownBlock ∧ some k_ ≠ (v2_ : Value).ownBlock) v1_ r2 ∧ Kd.R (Kd.int .i64) 3 w' w.heap.size (fun k_ => some k_ ≠ (v0_ : Value).ownBlock ∧ some k_ ≠ (v1_ : Value).ownBlock) v2_ r3 ∧ Below w.heap.size w w' := by
  have HR0 := Zh hr0_0
  have HC0 := Zh hc0_0
  have HR1 := Zh hr0_1
  have HC1 := Zh hc0_1
  have HR2 := Zh hr0_2
  have HC2 := Zh hc0_2
  have HRW := Zh hr1
  have HCW := Zh hc1
  clear hr0_0 hc0_0 hr0_1 hc0_1 hr0_2 hc0_2 hr1 hc1
  have hmf : ∀ (fn : Fn) (first cap : Array Value) (w : World), (Instr.makeFunc fn first cap).run Try.prog w = .ok (.func fn first cap) w := fun _ _ _ _ => rfl
  have ST := Zh (LW.St.start w)
  unfold impl_begin.f at h
  obtain ⟨⟨o1, o2, o3⟩, HA1, h⟩ := Option.bind_eq_some_iff.mp h
  obtain ⟨t, HA2, h⟩ := Option.bind_eq_some_iff.mp h
  dsimp only at h
  replace HA1 := Zh HA1
  replace HA2 := Zh HA2
  have H := Zh h
  clear h
  go_enter Try.func42, Try.ntmps42
  go_wp2_with fail
  replace ST := Zh (ST.out.alloc #[.slice A0_0 l0_0.length c0_0, .slice A0_1 l0_1.length c0_1, .slice A0_2 l0_2.length c0_2] 27 (g := w.heap.size) rfl)
  replace ST := Zh (ST.out.alloc #[.slice A1 l1.length c1] 22 (g := w.heap.size + 1) (by simp))
  replace ST := Zh (ST.out.alloc #[.slice none 0 0, .slice none 0 0, .slice none 0 0] 27 (g := w.heap.size + 2) (by simp))
  with_reducible refine (impl_copyConf.calls _ _ l0_0 _ _ l0_1 _ _ l0_2 o1 o2 o3 _ (Kd.C_below HR0.out ST.out.b) HC0.out (Kd.C_below HR1.out ST.out.b) HC1.out (Kd.C_below HR2.out ST.out.b) HC2.out HA1.out).mono ?_
  rintro e w1 ⟨v1, v2, v3, rfl, ho1, ho2, ho3, hb⟩
  obtain ⟨Ao1, co1, rfl⟩ := Kd.R_slice ho1
  obtain ⟨Ao2, co2, rfl⟩ := Kd.R_slice ho2
  obtain ⟨Ao3, co3, rfl⟩ := Kd.R_slice ho3
  replace ST := Zh (ST.out.rows3 rfl hb ho1 ho2 ho3 (fun k a b => (ho1.1 k a).1 b.symm) (fun k a b => (ho1.1 k a).2 b.symm) (fun k a b => (ho2.1 k a).2 b.symm))
  clear hb ho1 ho2 ho3
  go_wp2_with ((with_reducible refine gate_dst (N := 6) rfl ?_); refine box_event ?hg (N := 6) ?hd (cs := #[.slice none 0 0, .slice none 0 0, .slice none 0 0]) (t := 27) ?hr ?_; (case hd => rfl); (case hg => rfl); (case hr => first | (go_simp; done) | (go_simp; rfl)); intro gb hg w2 hbox hb; replace ST := Zh (ST.out.box hg hbox hb); have hd0 := ST.out.cell 0 rfl 0 (u := .slice none 0 0) rfl; have hd1 := ST.out.cell 0 rfl 1 (u := .slice none 0 0) rfl; have hd2 := ST.out.cell 0 rfl 2 (u := .slice none 0 0) rfl; have hg0 := ST.out.frozen 0 rfl 0; have hg1 := ST.out.frozen 0 rfl 1; have hg2 := ST.out.frozen 0 rfl 2; have hgl := ST.out.lt 0 rfl; have hx0 := ST.out.cell 6 rfl 0 (u := .slice A0_0 l0_0.length c0_0) rfl; have hx1 := ST.out.cell 6 rfl 1 (u := .slice A0_1 l0_1.length c0_1) rfl; have hx2 := ST.out.cell 6 rfl 2 (u := .slice A0_2 l0_2.length c0_2) rfl; have hl1 := ST.out.lt 6 rfl; have hne := ST.out.ne 6 0 (by decide) rfl rfl; have hne' := hne.symm; clear hg hbox hb)
  replace ST := Zh (((ST.out.set 0 rfl 0 (.slice Ao1 o1.length co1)).set 0 rfl 1 (.slice Ao2 o2.length co2)).set 0 rfl 2 (.slice Ao3 o3.length co3))
  clear hd0 hd1 hd2 hg0 hg1 hg2 hgl hx0 hx1 hx2 hl1 hne hne'
  generalize (((w2.setCell ⟨gb, 0, none⟩ (.slice Ao1 o1.length co1)).setCell ⟨gb, 1, none⟩ (.slice Ao2 o2.length co2)).setCell ⟨gb, 2, none⟩ (.slice Ao3 o3.length co3)) = w3 at ST ⊢
  with_reducible refine (impl_isConf.calls k _ _ l0_0 _ _ l0_1 _ _ l0_2 t _ (Kd.C_below HR0.out ST.out.b) HC0.out (Kd.C_below HR1.out ST.out.b) HC1.out (Kd.C_below HR2.out ST.out.b) HC2.out HA2.out).mono ?_
  rintro e w4 ⟨rfl, hb⟩
  replace ST := Zh (ST.out.step hb)
  clear hb
  have h := H.out
  clear H
  have hy0 := ST.out.cell 0 rfl 0 (u := .slice Ao1 o1.length co1) rfl
  have hy1 := ST.out.cell 0 rfl 1 (u := .slice Ao2 o2.length co2) rfl
  have hy2 := ST.out.cell 0 rfl 2 (u := .slice Ao3 o3.length co3) rfl
  have hyl := ST.out.lt 0 rfl
  have hgy0 := ST.out.frozen 0 rfl 0
  have hgy1 := ST.out.frozen 0 rfl 1
  have hgy2 := ST.out.frozen 0 rfl 2
  have hx0 := ST.out.cell 6 rfl 0 (u := .slice A0_0 l0_0.length c0_0) rfl
  have hx1 := ST.out.cell 6 rfl 1 (u := .slice A0_1 l0_1.length c0_1) rfl
  have hx2 := ST.out.cell 6 rfl 2 (u := .slice A0_2 l0_2.length c0_2) rfl
  have hxl := ST.out.lt 6 rfl
  have hw0 := ST.out.cell 5 rfl 0 (u := .slice A1 l1.length c1) rfl
  have hwl := ST.out.lt 5 rfl
  have hz0 := ST.out.cell 4 rfl 0 (u := .slice none 0 0) rfl
  have hz1 := ST.out.cell 4 rfl 1 (u := .slice none 0 0) rfl
  have hz2 := ST.out.cell 4 rfl 2 (u := .slice none 0 0) rfl
  have hzl := ST.out.lt 4 rfl
  have hgz0 := ST.out.frozen 4 rfl 0
  have hgz1 := ST.out.frozen 4 rfl 1
  have hgz2 := ST.out.frozen 4 rfl 2
  by_cases ct : t = true
  rotate_left
  · rw [if_neg ct] at h
    obtain rfl : t = false := by simpa using ct
    simp only [Option.some.injEq, Prod.mk.injEq] at h
    obtain ⟨rfl, rfl, rfl, rfl⟩ := h
    clear ct
    go_wp2_with fail
    replace ST := Zh (((ST.out.set 4 rfl 0 (.slice Ao1 o1.length co1)).set 4 rfl 1 (.slice Ao2 o2.length co2)).set 4 rfl 2 (.slice Ao3 o3.length co3))
    refine bodyPost_ret (results_ct rfl _ _ (w.heap.size + 2) 27 #[.slice Ao1 o1.length co1, .slice Ao2 o2.length co2, .slice Ao3 o3.length co3] (0, 0) _ rfl (ST.out.blk 4 rfl) Try.underlying27 rfl (by kernel_rfl)) rfl ?_
    obtain ⟨z1, z2, z3⟩ := ST.out.out3 1 2 3 (by decide) (by decide) (by decide) rfl rfl rfl
    exact ⟨_, _, _, rfl, z1, z2, z3, ST.out.b⟩
  subst ct
  rw [if_pos rfl] at h
  by_cases cn : (l0_1.length : Int) > 0
  · rw [if_pos cn] at h
    simp only [Option.some.injEq, Prod.mk.injEq] at h
    obtain ⟨rfl, rfl, rfl, rfl⟩ := h
    have cnb : decide (0 < (l0_1.length : Int)) = true := decide_eq_true cn
    have cnc : decide (0 < l0_1.length) = true := decide_eq_true (by omega)
    clear cn
    go_wp2_with fail
    replace ST := Zh (((ST.out.set 4 rfl 0 (.slice Ao1 o1.length co1)).set 4 rfl 1 (.slice Ao2 o2.length co2)).set 4 rfl 2 (.slice Ao3 o3.length co3))
    refine bodyPost_ret (results_ct rfl _ _ (w.heap.size + 2) 27 #[.slice Ao1 o1.length co1, .slice Ao2 o2.length co2, .slice Ao3 o3.length co3] (0, 0) _ rfl (ST.out.blk 4 rfl) Try.underlying27 rfl (by kernel_rfl)) rfl ?_
    obtain ⟨z1, z2, z3⟩ := ST.out.out3 1 2 3 (by decide) (by decide) (by decide) rfl rfl rfl
    exact ⟨_, _, _, rfl, z1, z2, z3, ST.out.b⟩
  rw [if_neg cn] at h
  have cnb : decide (0 < (l0_1.length : Int)) = false := decide_eq_false cn
  have cnc : decide (0 < l0_1.length) = false := decide_eq_false (by omega)
  clear cn
  by_cases cw : (l1.length : Int) = 0
  · rw [if_pos cw] at h
    simp only [Option.some.injEq, Prod.mk.injEq] at h
    obtain ⟨rfl, rfl, rfl, rfl⟩ := h
    have cwb : ((l1.length : Int) == 0) = true := beq_iff_eq.mpr cw
    clear cw
    go_wp2_with fail
    replace ST := Zh (((ST.out.set 4 rfl 0 (.slice Ao1 o1.length co1)).set 4 rfl 1 (.slice Ao2 o2.length co2)).set 4 rfl 2 (.slice Ao3 o3.length co3))
    refine bodyPost_ret (results_ct rfl _ _ (w.heap.size + 2) 27 #[.slice Ao1 o1.length co1, .slice Ao2 o2.length co2, .slice Ao3 o3.length co3] (0, 0) _ rfl (ST.out.blk 4 rfl) Try.underlying27 rfl (by kernel_rfl)) rfl ?_
    obtain ⟨z1, z2, z3⟩ := ST.out.out3 1 2 3 (by decide) (by decide) (by decide) rfl rfl rfl
    exact ⟨_, _, _, rfl, z1, z2, z3, ST.out.b⟩
  rw [if_neg cw] at h
  have cwb : ((l1.length : Int) == 0) = false := beq_eq_false_iff_ne.mpr cw
  clear cw
  by_cases cs : l1.length < 17592186044416
  rotate_left
  · rw [if_neg cs] at h; exact absurd h (by simp)
  rw [if_pos cs] at h
  by_cases cq : o3.length ≤ 9223372036854775807
  rotate_left
  · rw [if_neg cq] at h; exact absurd h (by simp)
  rw [if_pos cq] at h
  have HS := Zh cs
  have HQ := Zh cq
  have H := Zh h
  clear cs cq h
  have ST4 := ST
  go_wp2_with (first | ((with_reducible refine gate_dst (N := 24) rfl ?_); refine Kd.R_lit (Kd.int .i64) _ 3 ?hg (N := 24) ?hd (xs := ([] : List Int)) (inner := []) (ok := fun _ => True) (okp := fun _ => True) ?hr ?hp (fun _ hk => hk) trivial (Below.refl _ _) (Nat.le_refl _) (by simp) ?_; (case hd => rfl); (case hg => rfl); (case hr => first | (go_simp; done) | (go_simp; rfl)); (case hp => exact (Reps.none _ _)); intro v24 w5 hoA hbA hgA hnA; obtain ⟨Ae, ce, rfl⟩ := Kd.R_slice hoA; have HE := Zh (And.intro hoA hbA); replace ST := Zh (ST.out.step hbA); clear hoA hbA hgA hnA hx0 hx1 hx2 hxl hz0 hz1 hz2 hzl hgz0 hgz1 hgz2; replace hw0 := ST.out.cell 5 rfl 0 (u := .slice A1 l1.length c1) rfl; replace hwl := ST.out.lt 5 rfl) | ((with_reducible refine gate_builtin (b := .append) (xs := #[.tmp 24, .tmp 25]) rfl ?_); at_builtin; refine Kd.R_append_rows (Kd.int .i64) (w0 := w4) w4.heap.size rfl (.tmp 24) (.tmp 25) 22 3 (.int .i64 0) 8 rfl Try.underlying22 info3 rfl (by decide) (by omega) _ [] l1 _ _ _ (fun _ => True) (fun _ => False) rfl rfl HE.out.1 (Kd.C_below HRW.out ST.out.b) (fun _ _ h => h) (fun _ h => h.elim) (fun _ _ => trivial) HE.out.2 HE.out.2.size (by have := HS.out; simp only [List.length_nil]; omega) ?_; intro v5 w6 q1 q2 q3 q4; rw [List.nil_append] at q1; obtain ⟨Aw, cw, rfl⟩ := Kd.R_slice q1; replace ST := Zh (ST4.out.rowR rfl q2 q1); clear q1 q2 q3 q4 HE ST4; replace hy0 := ST.out.cell 1 rfl 0 (u := .slice Ao1 o1.length co1) rfl; replace hy1 := ST.out.cell 1 rfl 1 (u := .slice Ao2 o2.length co2) rfl; replace hy2 := ST.out.cell 1 rfl 2 (u := .slice Ao3 o3.length co3) rfl; replace hyl := ST.out.lt 1 rfl; replace hgy0 := ST.out.frozen 1 rfl 0; replace hgy1 := ST.out.frozen 1 rfl 1; replace hgy2 := ST.out.frozen 1 rfl 2; replace hw0 := ST.out.cell 6 rfl 0 (u := .slice A1 l1.length c1) rfl; replace hwl := ST.out.lt 6 rfl; have hne := ST.out.ne 6 1 (by decide) rfl rfl; have hne' := hne.symm))
  replace ST := Zh (ST.out.set 1 rfl 1 (.slice Aw l1.length cw))
  clear hy0 hy1 hy2 hyl hgy0 hgy1 hgy2 hw0 hwl hne hne' cnb cnc cwb
  generalize w6.setCell ⟨gb, 1, none⟩ (.slice Aw l1.length cw) = w7 at ST ⊢
  have hapart : ¬ (fun k => some k = (Value.slice Ao3 o3.length co3).ownBlock) (w.heap.size + 1)   := fun he => by
    have hd := LW.Its.disj ST.out.i 4 6 _ _ (by decide) rfl rfl (w.heap.size + 1) he
    exact hd rfl
  have eg : ∀ args w, (callFunc 54 args).run Try.prog w = .ok (.enter 54 args) w := enters_of Try.func54 (by kernel_rfl) rfl
  with_reducible refine (sDeleteFunc.calls 54 _ (fun x => l1.contains x) eg _ _ o3 w w7 ST.out.b (Kd.S_R (ST.out.own 4 rfl)) HQ.out (fun w' hk hb' => begin1.pred (w.heap.size + 1) A1 c1 l1 w' (Kd.C_below HRW.out hb') HCW.out (by have := HS.out; omega) (cell_kept (ST.out.cell 6 rfl 0 rfl) hk hapart))).mono ?_
  rintro e w8 ⟨v8, rfl, hR, hB8, hK8⟩
  replace hR : Kd.R (Kd.int .i64) 3 w8 w.heap.size _ v8 (begin_del l1 o3) := hR
  obtain ⟨Ad, cd, rfl⟩ := Kd.R_slice hR
  replace ST := Zh (ST.out.writeV 4 rfl (LW.S_flat rfl hR) hB8 hK8)
  clear hR hB8 hK8 eg hmf hapart
  obtain ⟨t2, HA3, h⟩ := Option.bind_eq_some_iff.mp H.out
  replace HA3 := Zh HA3
  clear H
  have H := Zh h
  clear h
  have hy0 := ST.out.cell 1 rfl 0 (u := .slice Ao1 o1.length co1) rfl
  have hy1 := ST.out.cell 1 rfl 1 (u := .slice Aw l1.length cw) rfl
  have hy2 := ST.out.cell 1 rfl 2 (u := .slice Ao3 o3.length co3) rfl
  have hyl := ST.out.lt 1 rfl
  have hgy2 := ST.out.frozen 1 rfl 2
  go_wp2_with fail
  replace ST := Zh (ST.out.set 1 rfl 2 (.slice Ad (begin_del l1 o3).length cd))
  clear hy0 hy1 hy2 hyl hgy2
  generalize w8.setCell ⟨gb, 2, none⟩ (.slice Ad (begin_del l1 o3).length cd) = w9 at ST ⊢
  with_reducible refine (impl_isConf.calls k _ _ o1 _ _ l1 _ _ (begin_del l1 o3) t2 _ (ST.out.reads 2 rfl).2.2 (ST.out.reads 2 rfl).2.1 (ST.out.reads 0 rfl).2.2 (ST.out.reads 0 rfl).2.1 (ST.out.reads 4 rfl).2.2 (ST.out.reads 4 rfl).2.1 HA3.out).mono ?_
  rintro e w10 ⟨rfl, hb⟩
  replace ST := Zh (ST.out.step hb)
  clear hb
  have hz0 := ST.out.cell 5 rfl 0 (u := .slice none 0 0) rfl
  have hz1 := ST.out.cell 5 rfl 1 (u := .slice none 0 0) rfl
  have hz2 := ST.out.cell 5 rfl 2 (u := .slice none 0 0) rfl
  have hzl := ST.out.lt 5 rfl
  have hgz0 := ST.out.frozen 5 rfl 0
  have hgz1 := ST.out.frozen 5 rfl 1
  have hgz2 := ST.out.frozen 5 rfl 2
  have h := H.out
  clear H
  by_cases ct : t2 = true
  · subst ct
    rw [if_pos rfl] at h
    simp only [Option.some.injEq, Prod.mk.injEq] at h
    obtain ⟨rfl, rfl, rfl, rfl⟩ := h
    have hy0 := ST.out.cell 1 rfl 0 (u := .slice Ao1 o1.length co1) rfl
    have hy1 := ST.out.cell 1 rfl 1 (u := .slice Aw l1.length cw) rfl
    have hy2 := ST.out.cell 1 rfl 2 (u := .slice Ad (begin_del l1 o3).length cd) rfl
    have hyl := ST.out.lt 1 rfl
    go_wp2_with fail
    replace ST := Zh (((ST.out.set 5 rfl 0 (.slice Ao1 o1.length co1)).set 5 rfl 1 (.slice Aw l1.length cw)).set 5 rfl 2 (.slice Ad (begin_del l1 o3).length cd))
    refine bodyPost_ret (results_ct rfl _ _ (w.heap.size + 2) 27 #[.slice Ao1 o1.length co1, .slice Aw l1.length cw, .slice Ad (begin_del l1 o3).length cd] (0, 0) _ rfl (ST.out.blk 5 rfl) Try.underlying27 rfl (by kernel_rfl)) rfl ?_
    obtain ⟨z1, z2, z3⟩ := ST.out.out3 2 0 4 (by decide) (by decide) (by decide) rfl rfl rfl
    exact ⟨_, _, _, rfl, z1, z2, z3, ST.out.b⟩
  rw [if_neg ct] at h
  obtain rfl : t2 = false := by simpa using ct
  obtain ⟨⟨p1, p2, p3⟩, HA4, h⟩ := Option.bind_eq_some_iff.mp h
  dsimp only at h
  simp only [Option.some.injEq, Prod.mk.injEq] at h
  obtain ⟨rfl, rfl, rfl, rfl⟩ := h
  replace HA4 := Zh HA4
  clear ct
  have hx0 := ST.out.cell 7 rfl 0 (u := .slice A0_0 l0_0.length c0_0) rfl
  have hx1 := ST.out.cell 7 rfl 1 (u := .slice A0_1 l0_1.length c0_1) rfl
  have hx2 := ST.out.cell 7 rfl 2 (u := .slice A0_2 l0_2.length c0_2) rfl
  have hxl := ST.out.lt 7 rfl
  go_wp2_with fail
  with_reducible refine (impl_copyConf.calls _ _ l0_0 _ _ l0_1 _ _ l0_2 p1 p2 p3 _ (Kd.C_below HR0.out ST.out.b) HC0.out (Kd.C_below HR1.out ST.out.b) HC1.out (Kd.C_below HR2.out ST.out.b) HC2.out HA4.out).mono ?_
  rintro e w11 ⟨v1, v2, v3, rfl, ho1, ho2, ho3, hb⟩
  obtain ⟨Bo1, do1, rfl⟩ := Kd.R_slice ho1
  obtain ⟨Bo2, do2, rfl⟩ := Kd.R_slice ho2
  obtain ⟨Bo3, do3, rfl⟩ := Kd.R_slice ho3
  replace ST := Zh (ST.out.rows3 rfl hb ho1 ho2 ho3 (fun k a b => (ho1.1 k a).1 b.symm) (fun k a b => (ho1.1 k a).2 b.symm) (fun k a b => (ho2.1 k a).2 b.symm))
  clear hb ho1 ho2 ho3 hz0 hz1 hz2 hzl hgz0 hgz1 hgz2 hx0 hx1 hx2 hxl
  have hz0 := ST.out.cell 8 rfl 0 (u := .slice none 0 0) rfl
  have hz1 := ST.out.cell 8 rfl 1 (u := .slice none 0 0) rfl
  have hz2 := ST.out.cell 8 rfl 2 (u := .slice none 0 0) rfl
  have hzl := ST.out.lt 8 rfl
  have hgz0 := ST.out.frozen 8 rfl 0
  have hgz1 := ST.out.frozen 8 rfl 1
  have hgz2 := ST.out.frozen 8 rfl 2
  go_wp2_with fail
  replace ST := Zh (((ST.out.set 8 rfl 0 (.slice Bo1 p1.length do1)).set 8 rfl 1 (.slice Bo2 p2.length do2)).set 8 rfl 2 (.slice Bo3 p3.length do3))
  refine bodyPost_ret (results_ct rfl _ _ (w.heap.size + 2) 27 #[.slice Bo1 p1.length do1, .slice Bo2 p2.length do2, .slice Bo3 p3.length do3] (0, 0) _ rfl (ST.out.blk 8 rfl) Try.underlying27 rfl (by kernel_rfl)) rfl ?_
  obtain ⟨z1, z2, z3⟩ := ST.out.out3 0 1 2 (by decide) (by decide) (by decide) rfl rfl rfl
  exact ⟨_, _, _, rfl, z1, z2, z3, ST.out.b⟩
end Go.Proofs.Ytedlgllhaboljaa.F

namespace Go.Proofs.Ytedlgllhaboljaa.F
open Go.RowKit Go.Proofs.YtedlgllhaboljaaW.PrintWords Go.Proofs.YtedlgllhaboljaaW.PrintWords.Kd Go.Proofs.YtedlgllhaboljaaW.PrintMore.Kd Go.Proofs.YtedlgllhaboljaaW.PrintLast Go.Proofs.YtedlgllhaboljaaW.PrintMore
attribute [local go_sem] max2_int min2_int max_two min_two max_three min_three max_four min_four   -- for this text's walks alone
set_option linter.unusedVariables false
set_option linter.unusedSimpArgs false

/-! ### impl_Begin: function 22 -/
def impl_Begin.f (k : Nat) (l0_0 : List Int) (l0_1 : List Int) (l0_2 : List Int) (l1 : List Int) : Option (List Int × List Int × List Int × Bool) := (impl_begin.f k l0_0 l0_1 l0_2 l1).bind fun bt464 => (some (bt464.1, bt464.2.1, bt464.2.2.1, bt464.2.2.2))
theorem impl_Begin.mono : ∀ a0 a1 a2 a3 k, LeO (impl_Begin.f k a0 a1 a2 a3) (impl_Begin.f (k + 1) a0 a1 a2 a3) := by
 intro a0 a1 a2 a3 k
 unfold impl_Begin.f
 repeat' first
   | (with_reducible exact impl_begin.mono _ _ _ _ _)
   | (with_reducible exact LeO.refl _)
   | (with_reducible exact LeO.none _)
   | (with_reducible refine LeO.ite ?_ ?_)
   | (with_reducible refine LeO.bind ?_ (fun _ => ?_))
   | exact impl_begin.mono _ _ _ _ _
   | exact LeO.none _
   | refine LeO.ite ?_ ?_
   | refine LeO.bind ?_ (fun _ => ?_)
set_option maxHeartbeats 8000000 in
set_option maxRecDepth 100000 in
theorem impl_Begin.calls (k : Nat) (A0_0 : Option Addr) (c0_0 : Nat) (l0_0 : List Int) (A0_1 : Option Addr) (c0_1 : Nat) (l0_1 : List Int) (A0_2 : Option Addr) (c0_2 : Nat) (l0_2 : List Int) (A1 : Option Addr) (c1 : Nat) (l1 : List Int) (r1 : List Int) (r2 : List Int) (r3 : List Int) (r4 : Bool) (w : World) (hr0_0 : Kd.C (Kd.int .i64) w A0_0 l0_0.length l0_0) (hc0_0 : l0_0.length ≤ c0_0) (hr0_1 : Kd.C (Kd.int .i64) w A0_1 l0_1.length l0_1) (hc0_1 : l0_1.length ≤ c0_1) (hr0_2 : Kd.C (Kd.int .i64) w A0_2 l0_2.length l0_2) (hc0_2 : l0_2.length ≤ c0_2) (hr1 : Kd.C (Kd.int .i64) w A1 l1.length l1) (hc1 : l1.length ≤ c1) (h : impl_Begin.f k l0_0 l0_1 l0_2 l1 = some (r1, r2, r3, r4)) :
  Calls Try.prog 22 #[.agg #[.slice A0_0 l0_0.length c0_0, .slice A0_1 l0_1.length c0_1, .slice A0_2 l0_2.length c0_2], .slice A1 l1.length c1] w fun e w' => ∃ v0_ v1_ v2_ : Value, e = .returned (.tuple #[.agg #[v0_, v1_, v2_], .bool r4]) ∧ Kd.R (Kd.int .i64) 3 w' w.heap.size (fun k_ => some k_ ≠ (v1_ : Value).ownBlock ∧ some k_ ≠ (v2_ : Value).ownBlock) v0_ r1 ∧ Kd.R (Kd.int .i64) 3 w' w.heap.size (fun k_ => some k_ ≠ (v0_ : Value).ownBlock ∧ some k_ ≠ (v2_ : Value).ownBlock) v1_ r2 ∧ Kd.R (Kd.int .i64) 3 w' w.heap.size (fun k_ => some k_ ≠ (v0_ : Value).ownBlock ∧ some k_ ≠ (v1_ : Value).ownBlock) v2_ r3 ∧ Below w.heap.size w w' := by
 have hu27 := Try.underlying27
 have HR0_0 := Zh hr0_0
 have HC0_0 := Zh hc0_0
 clear hr0_0 hc0_0
 have HR0_1 := Zh hr0_1
 have HC0_1 := Zh hc0_1
 clear hr0_1 hc0_1
 have HR0_2 := Zh hr0_2
 have HC0_2 := Zh hc0_2
 clear hr0_2 hc0_2
 have HR1 := Zh hr1
 have HC1 := Zh hc1
 clear hr1 hc1
 have HB := Zh (Below.refl w.heap.size w)
 have H : ((impl_begin.f k l0_0 l0_1 l0_2 l1).bind fun bt464 => (some (bt464.1, bt464.2.1, bt464.2.2.1, bt464.2.2.2))) = some (r1, r2, r3, r4) := h
 clear h
 replace H := Option.bind_eq_some_iff.mp H
 obtain ⟨⟨t464, t467, t470, t473⟩, A30, H⟩ := H
 replace H : (some (t464, t467, t470, t473)) = some (r1, r2, r3, r4) := H
 have A3 := Zh A30
 clear A30
 simp only [Option.some.injEq, Prod.mk.injEq] at H
 obtain ⟨rfl, rfl, rfl, rfl⟩ := H
 go_enter Try.func22, Try.ntmps22
 go_wp2_with (first | ((with_reducible refine gate_dst (N := 2) rfl ?_); refine box_event ?hg (N := 2) ?hd (cs := #[.slice A0_0 l0_0.length c0_0, .slice A0_1 l0_1.length c0_1, .slice A0_2 l0_2.length c0_2]) (t := 27) ?hr ?_; (case hd => rfl); (case hg => rfl); (case hr => first | (go_simp; done) | (go_simp; rfl)); intro gb462 hg w4 hbox hb; have BK462 := Zh (hbox); have GW462 := Zh ((by rw [hg]; exact (below_size Zs) : w.heap.size ≤ gb462)); have GE462 := Zh ((by rw [hg]; exact (below_size Zs) : w.heap.size ≤ gb462)); replace HB := Zh (Zl Zs hb); clear hb hbox hg) | ((with_reducible refine gate_dst (N := 4) rfl ?_); refine box_event ?hg (N := 4) ?hd (cs := #[.slice none 0 0, .slice none 0 0, .slice none 0 0]) (t := 27) ?hr ?_; (case hd => rfl); (case hg => rfl); (case hr => first | (go_simp; done) | (go_simp; rfl)); intro gb463 hg w5 hbox hb; have BK463 := Zh (hbox); have GW463 := Zh ((by rw [hg]; exact (below_size Zs) : w.heap.size ≤ gb463)); have GE463 := Zh ((by rw [hg]; exact (below_size Zs) : w.heap.size ≤ gb463)); replace HB := Zh (Zl Zs hb); have NB462_463 := Zh ((by rw [hg]; exact Nat.ne_of_lt (blk_lt (g := gb462) (o := .cells #[.slice A0_0 l0_0.length c0_0, .slice A0_1 l0_1.length c0_1, .slice A0_2 l0_2.length c0_2] 27 (0, 0)) Zk) : gb462 ≠ gb463)); have NB463_462 := Zh ((by rw [hg]; exact Nat.ne_of_gt (blk_lt (g := gb462) (o := .cells #[.slice A0_0 l0_0.length c0_0, .slice A0_1 l0_1.length c0_1, .slice A0_2 l0_2.length c0_2] 27 (0, 0)) Zk) : gb463 ≠ gb462)); replace BK462 := Zh (Zm (g := gb462) (o := .cells #[.slice A0_0 l0_0.length c0_0, .slice A0_1 l0_1.length c0_1, .slice A0_2 l0_2.length c0_2] 27 (0, 0)) Zk hb); clear hb hbox hg; have hnb6 := NB462_463.out; have hnc6 := NB463_462.out; have hcz7_0 : w5.cell? ⟨gb462, 0, none⟩ = some (.slice A0_0 l0_0.length c0_0) := (blk_cell BK462.out 0).trans rfl; have hcz7_1 : w5.cell? ⟨gb462, 1, none⟩ = some (.slice A0_1 l0_1.length c0_1) := (blk_cell BK462.out 1).trans rfl; have hcz7_2 : w5.cell? ⟨gb462, 2, none⟩ = some (.slice A0_2 l0_2.length c0_2) := (blk_cell BK462.out 2).trans rfl; have hfz7_0 := Zn BK462.out 0; have hfz7_1 := Zn BK462.out 1; have hfz7_2 := Zn BK462.out 2) | ((with_reducible refine gate_callee (f := 42) rfl ?_); refine ZG (some 8) Try.func42 #[.agg #[.slice A0_0 l0_0.length c0_0, .slice A0_1 l0_1.length c0_1, .slice A0_2 l0_2.length c0_2], .slice A1 l1.length c1] rfl ?_; (with_reducible refine (impl_begin.calls k _ _ l0_0 _ _ l0_1 _ _ l0_2 _ _ l1 t464 t467 t470 t473 _ ?side1 ?side2 ?side3 ?side4 ?side5 ?side6 ?side7 ?side8 A3.out).mono ?_); (case side1 => repeat (first | exact (C_below HR0_0.out HB.out) | (with_reducible refine C_alloc ?_ _) | (with_reducible refine C_drewN ?_ _) | (with_reducible refine C_drew ?_))); (case side2 => exact HC0_0.out); (case side3 => repeat (first | exact (C_below HR0_1.out HB.out) | (with_reducible refine C_alloc ?_ _) | (with_reducible refine C_drewN ?_ _) | (with_reducible refine C_drew ?_))); (case side4 => exact HC0_1.out); (case side5 => repeat (first | exact (C_below HR0_2.out HB.out) | (with_reducible refine C_alloc ?_ _) | (with_reducible refine C_drewN ?_ _) | (with_reducible refine C_drew ?_))); (case side6 => exact HC0_2.out); (case side7 => repeat (first | exact (C_below HR1.out HB.out) | (with_reducible refine C_alloc ?_ _) | (with_reducible refine C_drewN ?_ _) | (with_reducible refine C_drew ?_))); (case side8 => exact HC1.out); rintro e w8 ⟨v465, v468, v471, rfl, ho0, ho1, ho2, hb⟩; refine ⟨_, rfl, ?_⟩; have HO466 := Zh (R_lower ho0 (below_size Zs)); have HO469 := Zh (R_lower ho1 (below_size Zs)); have HO472 := Zh (R_lower ho2 (below_size Zs)); replace BK462 := Zh (Zm (g := gb462) (o := .cells #[.slice A0_0 l0_0.length c0_0, .slice A0_1 l0_1.length c0_1, .slice A0_2 l0_2.length c0_2] 27 (0, 0)) Zk hb); replace BK463 := Zh (Zm (g := gb463) (o := .cells #[.slice none 0 0, .slice none 0 0, .slice none 0 0] 27 (0, 0)) Zk hb); replace HB := Zh (Zl Zs hb); (try clear hb); (try clear hb2); (try clear hk); (try clear hi); (try clear ho0); (try clear ho1); (try clear ho2); obtain ⟨Ao9, co9, eo9⟩ := R_slice HO466.out; subst eo9; have hcz10_0 : w8.cell? ⟨gb463, 0, none⟩ = some (.slice none 0 0) := (blk_cell BK463.out 0).trans rfl; have hcz10_1 : w8.cell? ⟨gb463, 1, none⟩ = some (.slice none 0 0) := (blk_cell BK463.out 1).trans rfl; have hcz10_2 : w8.cell? ⟨gb463, 2, none⟩ = some (.slice none 0 0) := (blk_cell BK463.out 2).trans rfl; have hfz10_0 := Zn BK463.out 0; have hfz10_1 := Zn BK463.out 1; have hfz10_2 := Zn BK463.out 2; obtain ⟨Ao11, co11, eo11⟩ := R_slice HO469.out; subst eo11; obtain ⟨Ao12, co12, eo12⟩ := R_slice HO472.out; subst eo12))
 refine bodyPost_ret (results_ct rfl _ _ gb463 27 #[.slice Ao9 t464.length co9, .slice Ao11 t467.length co11, .slice Ao12 t470.length co12] (0, 0) _ rfl (by (with_reducible repeat (first | refine blk_drewN ?_ _ | refine blk_drew ?_ | refine blk_alloc ?_ _)); refine blk_put (cs := #[.slice Ao9 t464.length co9, .slice Ao11 t467.length co11, .slice none 0 0]) ?_ 2 _ rfl; (with_reducible repeat (first | refine blk_drewN ?_ _ | refine blk_drew ?_ | refine blk_alloc ?_ _)); refine blk_put (cs := #[.slice Ao9 t464.length co9, .slice none 0 0, .slice none 0 0]) ?_ 1 _ rfl; (with_reducible repeat (first | refine blk_drewN ?_ _ | refine blk_drew ?_ | refine blk_alloc ?_ _)); refine blk_put (cs := #[.slice none 0 0, .slice none 0 0, .slice none 0 0]) ?_ 0 _ rfl; (with_reducible repeat (first | refine blk_drewN ?_ _ | refine blk_drew ?_ | refine blk_alloc ?_ _)); exact BK463.out) Try.underlying27 rfl (by kernel_rfl)) rfl ?_
 exact ⟨_, _, _, ZE, ZR (R_mono (R_far (p := ⟨gb463, 2, none⟩) (R_far (p := ⟨gb463, 1, none⟩) (R_far (p := ⟨gb463, 0, none⟩) (R_types HO466.out BK463.out (by decide)) (fun _ hk => hk.2) (.slice Ao9 t464.length co9)) (fun _ hk => hk.2) (.slice Ao11 t467.length co11)) (fun _ hk => hk.2) (.slice Ao12 t470.length co12)) (fun _ hk => ⟨hk.1.1, hk.1.2⟩)), ZR (R_mono (R_far (p := ⟨gb463, 2, none⟩) (R_far (p := ⟨gb463, 1, none⟩) (R_far (p := ⟨gb463, 0, none⟩) (R_types HO469.out BK463.out (by decide)) (fun _ hk => hk.2) (.slice Ao9 t464.length co9)) (fun _ hk => hk.2) (.slice Ao11 t467.length co11)) (fun _ hk => hk.2) (.slice Ao12 t470.length co12)) (fun _ hk => ⟨hk.1.1, hk.1.2⟩)), ZR (R_mono (R_far (p := ⟨gb463, 2, none⟩) (R_far (p := ⟨gb463, 1, none⟩) (R_far (p := ⟨gb463, 0, none⟩) (R_types HO472.out BK463.out (by decide)) (fun _ hk => hk.2) (.slice Ao9 t464.length co9)) (fun _ hk => hk.2) (.slice Ao11 t467.length co11)) (fun _ hk => hk.2) (.slice Ao12 t470.length co12)) (fun _ hk => ⟨hk.1.1, hk.1.2⟩)), Zs⟩

/-! ### laws_szIntS: function 29 -/
def laws_szIntS.f (l0 : List Int) (a1 : Int) : Option (Int) := if (wrap64 (a1 - (l0.length : Int))) < 0 then (some (-1)) else (some (wrap64 (a1 - (l0.length : Int))))
set_option maxHeartbeats 8000000 in
set_option maxRecDepth 100000 in
theorem laws_szIntS.calls (A0 : Option Addr) (c0 : Nat) (l0 : List Int) (a1 : Int) (r : Int) (w : World) (hr0 : Kd.C (Kd.int .i64) w A0 l0.length l0) (hc0 : l0.length ≤ c0) (h : laws_szIntS.f l0 a1 = some r) :
  Calls Try.prog 29 #[.slice A0 l0.length c0, .int .i64 a1] w fun e w' => e = .returned (.int .i64 r) ∧ Drawn0 w w' := by
 have HR0 := Zh hr0
 have HC0 := Zh hc0
 clear hr0 hc0
 have H : (if (wrap64 (a1 - (l0.length : Int))) < 0 then (some (-1)) else (some (wrap64 (a1 - (l0.length : Int))))) = some r := h
 clear h
 by_cases c3 : (wrap64 (a1 - (l0.length : Int))) < 0
 ·
  rw [if_pos c3] at H
  have c3b0 : decide ((wrap64 (a1 - (l0.length : Int))) < 0) = true := decide_eq_true c3
  clear c3
  obtain rfl := Option.some.inj H
  go_enter Try.func29, Try.ntmps29
  go_wp2
  go_ret
  exact ⟨by first | rfl | (simp; done) | (simp [*]; done), by repeat (first | exact Drawn0.refl _ | apply Drawn0.step)⟩
 rw [if_neg c3] at H
 have c3b0 : decide ((wrap64 (a1 - (l0.length : Int))) < 0) = false := decide_eq_false c3
 clear c3
 obtain rfl := Option.some.inj H
 go_enter Try.func29, Try.ntmps29
 go_wp2
 go_ret
 exact ⟨by first | rfl | (simp; done) | (simp [*]; done), by repeat (first | exact Drawn0.refl _ | apply Drawn0.step)⟩

/-! ### laws_szConf: function 8 -/
def laws_szConf.f (l0_0 : List Int) (l0_1 : List Int) (l0_2 : List Int) (a1 : Int) : Option (Int) := (laws_szIntS.f l0_0 a1).bind fun t102 => (if t102 < 0 then (some (-1)) else ((laws_szIntS.f l0_1 t102).bind fun t103 => (if t103 < 0 then (some (-1)) else ((laws_szIntS.f l0_2 t103).bind fun t104 => (if t104 < 0 then (some (-1)) else (some t104))))))
set_option maxHeartbeats 8000000 in
set_option maxRecDepth 100000 in
theorem laws_szConf.calls (A0_0 : Option Addr) (c0_0 : Nat) (l0_0 : List Int) (A0_1 : Option Addr) (c0_1 : Nat) (l0_1 : List Int) (A0_2 : Option Addr) (c0_2 : Nat) (l0_2 : List Int) (a1 : Int) (r : Int) (w : World) (hr0_0 : Kd.C (Kd.int .i64) w A0_0 l0_0.length l0_0) (hc0_0 : l0_0.length ≤ c0_0) (hr0_1 : Kd.C (Kd.int .i64) w A0_1 l0_1.length l0_1) (hc0_1 : l0_1.length ≤ c0_1) (hr0_2 : Kd.C (Kd.int .i64) w A0_2 l0_2.length l0_2) (hc0_2 : l0_2.length ≤ c0_2) (h : laws_szConf.f l0_0 l0_1 l0_2 a1 = some r) :
  Calls Try.prog 8 #[.agg #[.slice A0_0 l0_0.length c0_0, .slice A0_1 l0_1.length c0_1, .slice A0_2 l0_2.length c0_2], .int .i64 a1] w fun e w' => e = .returned (.int .i64 r) ∧ Below w.heap.size w w' := by
 have hu24 := Try.underlying24
 have HR0_0 := Zh hr0_0
 have HC0_0 := Zh hc0_0
 clear hr0_0 hc0_0
 have HR0_1 := Zh hr0_1
 have HC0_1 := Zh hc0_1
 clear hr0_1 hc0_1
 have HR0_2 := Zh hr0_2
 have HC0_2 := Zh hc0_2
 clear hr0_2 hc0_2
 have HB := Zh (Below.refl w.heap.size w)
 have H : ((laws_szIntS.f l0_0 a1).bind fun t102 => (if t102 < 0 then (some (-1)) else ((laws_szIntS.f l0_1 t102).bind fun t103 => (if t103 < 0 then (some (-1)) else ((laws_szIntS.f l0_2 t103).bind fun t104 => (if t104 < 0 then (some (-1)) else (some t104))))))) = some r := h
 clear h
 replace H := Option.bind_eq_some_iff.mp H
 obtain ⟨t102, A30, H⟩ := H
 replace H : (if t102 < 0 then (some (-1)) else ((laws_szIntS.f l0_1 t102).bind fun t103 => (if t103 < 0 then (some (-1)) else ((laws_szIntS.f l0_2 t103).bind fun t104 => (if t104 < 0 then (some (-1)) else (some t104)))))) = some r := H
 have A3 := Zh A30
 clear A30
 by_cases c4 : t102 < 0
 ·
  rw [if_pos c4] at H
  have c4b0 : decide (t102 < 0) = true := decide_eq_true c4
  clear c4
  obtain rfl := Option.some.inj H
  go_enter Try.func8, Try.ntmps8
  go_wp2_with (first | ((with_reducible refine gate_dst (N := 2) rfl ?_); refine box_event ?hg (N := 2) ?hd (cs := #[.slice A0_0 l0_0.length c0_0, .slice A0_1 l0_1.length c0_1, .slice A0_2 l0_2.length c0_2]) (t := 24) ?hr ?_; (case hd => rfl); (case hg => rfl); (case hr => first | (go_simp; done) | (go_simp; rfl)); intro gb101 hg w5 hbox hb; have BK101 := Zh (hbox); have GW101 := Zh ((by rw [hg]; exact (below_size Zs) : w.heap.size ≤ gb101)); have GE101 := Zh ((by rw [hg]; exact (below_size Zs) : w.heap.size ≤ gb101)); replace HB := Zh (Zl Zs hb); clear hb hbox hg; have hcz6_0 : w5.cell? ⟨gb101, 0, none⟩ = some (.slice A0_0 l0_0.length c0_0) := (blk_cell BK101.out 0).trans rfl; have hcz6_1 : w5.cell? ⟨gb101, 1, none⟩ = some (.slice A0_1 l0_1.length c0_1) := (blk_cell BK101.out 1).trans rfl; have hcz6_2 : w5.cell? ⟨gb101, 2, none⟩ = some (.slice A0_2 l0_2.length c0_2) := (blk_cell BK101.out 2).trans rfl; have hfz6_0 := Zn BK101.out 0; have hfz6_1 := Zn BK101.out 1; have hfz6_2 := Zn BK101.out 2) | ((with_reducible refine gate_callee (f := 29) rfl ?_); refine ZG (some 8) Try.func29 #[.slice A0_0 l0_0.length c0_0, .int .i64 a1] rfl ?_; (with_reducible refine (laws_szIntS.calls _ _ l0_0 a1 t102 _ ?side1 ?side2 A3.out).mono ?_); (case side1 => repeat (first | exact (C_below HR0_0.out HB.out) | (with_reducible refine C_alloc ?_ _) | (with_reducible refine C_drewN ?_ _) | (with_reducible refine C_drew ?_))); (case side2 => exact HC0_0.out); rintro e w' ⟨rfl, ⟨nd, rfl⟩⟩; refine ⟨_, rfl, ?_⟩))
  go_ret
  exact ⟨ZE, Zs⟩
 rw [if_neg c4] at H
 have c4b0 : decide (t102 < 0) = false := decide_eq_false c4
 clear c4
 replace H := Option.bind_eq_some_iff.mp H
 obtain ⟨t103, A70, H⟩ := H
 replace H : (if t103 < 0 then (some (-1)) else ((laws_szIntS.f l0_2 t103).bind fun t104 => (if t104 < 0 then (some (-1)) else (some t104)))) = some r := H
 have A7 := Zh A70
 clear A70
 by_cases c8 : t103 < 0
 ·
  rw [if_pos c8] at H
  have c8b0 : decide (t103 < 0) = true := decide_eq_true c8
  clear c8
  obtain rfl := Option.some.inj H
  go_enter Try.func8, Try.ntmps8
  go_wp2_with (first | ((with_reducible refine gate_dst (N := 2) rfl ?_); refine box_event ?hg (N := 2) ?hd (cs := #[.slice A0_0 l0_0.length c0_0, .slice A0_1 l0_1.length c0_1, .slice A0_2 l0_2.length c0_2]) (t := 24) ?hr ?_; (case hd => rfl); (case hg => rfl); (case hr => first | (go_simp; done) | (go_simp; rfl)); intro gb101 hg w9 hbox hb; have BK101 := Zh (hbox); have GW101 := Zh ((by rw [hg]; exact (below_size Zs) : w.heap.size ≤ gb101)); have GE101 := Zh ((by rw [hg]; exact (below_size Zs) : w.heap.size ≤ gb101)); replace HB := Zh (Zl Zs hb); clear hb hbox hg; have hcz10_0 : w9.cell? ⟨gb101, 0, none⟩ = some (.slice A0_0 l0_0.length c0_0) := (blk_cell BK101.out 0).trans rfl; have hcz10_1 : w9.cell? ⟨gb101, 1, none⟩ = some (.slice A0_1 l0_1.length c0_1) := (blk_cell BK101.out 1).trans rfl; have hcz10_2 : w9.cell? ⟨gb101, 2, none⟩ = some (.slice A0_2 l0_2.length c0_2) := (blk_cell BK101.out 2).trans rfl; have hfz10_0 := Zn BK101.out 0; have hfz10_1 := Zn BK101.out 1; have hfz10_2 := Zn BK101.out 2) | ((with_reducible refine gate_callee (f := 29) rfl ?_); refine ZG (some 8) Try.func29 #[.slice A0_0 l0_0.length c0_0, .int .i64 a1] rfl ?_; (with_reducible refine (laws_szIntS.calls _ _ l0_0 a1 t102 _ ?side1 ?side2 A3.out).mono ?_); (case side1 => repeat (first | exact (C_below HR0_0.out HB.out) | (with_reducible refine C_alloc ?_ _) | (with_reducible refine C_drewN ?_ _) | (with_reducible refine C_drew ?_))); (case side2 => exact HC0_0.out); rintro e w' ⟨rfl, ⟨nd, rfl⟩⟩; refine ⟨_, rfl, ?_⟩) | ((with_reducible refine gate_callee (f := 29) rfl ?_); refine ZG (some 14) Try.func29 #[.slice A0_1 l0_1.length c0_1, .int .i64 t102] rfl ?_; (with_reducible refine (laws_szIntS.calls _ _ l0_1 t102 t103 _ ?side1 ?side2 A7.out).mono ?_); (case side1 => repeat (first | exact (C_below HR0_1.out Zs) | (with_reducible refine C_alloc ?_ _) | (with_reducible refine C_drewN ?_ _) | (with_reducible refine C_drew ?_))); (case side2 => exact HC0_1.out); rintro e w' ⟨rfl, ⟨nd, rfl⟩⟩; refine ⟨_, rfl, ?_⟩))
  go_ret
  exact ⟨ZE, Zs⟩
 rw [if_neg c8] at H
 have c8b0 : decide (t103 < 0) = false := decide_eq_false c8
 clear c8
 replace H := Option.bind_eq_some_iff.mp H
 obtain ⟨t104, A110, H⟩ := H
 replace H : (if t104 < 0 then (some (-1)) else (some t104)) = some r := H
 have A11 := Zh A110
 clear A110
 by_cases c12 : t104 < 0
 ·
  rw [if_pos c12] at H
  have c12b0 : decide (t104 < 0) = true := decide_eq_true c12
  clear c12
  obtain rfl := Option.some.inj H
  go_enter Try.func8, Try.ntmps8
  go_wp2_with (first | ((with_reducible refine gate_dst (N := 2) rfl ?_); refine box_event ?hg (N := 2) ?hd (cs := #[.slice A0_0 l0_0.length c0_0, .slice A0_1 l0_1.length c0_1, .slice A0_2 l0_2.length c0_2]) (t := 24) ?hr ?_; (case hd => rfl); (case hg => rfl); (case hr => first | (go_simp; done) | (go_simp; rfl)); intro gb101 hg w13 hbox hb; have BK101 := Zh (hbox); have GW101 := Zh ((by rw [hg]; exact (below_size Zs) : w.heap.size ≤ gb101)); have GE101 := Zh ((by rw [hg]; exact (below_size Zs) : w.heap.size ≤ gb101)); replace HB := Zh (Zl Zs hb); clear hb hbox hg; have hcz14_0 : w13.cell? ⟨gb101, 0, none⟩ = some (.slice A0_0 l0_0.length c0_0) := (blk_cell BK101.out 0).trans rfl; have hcz14_1 : w13.cell? ⟨gb101, 1, none⟩ = some (.slice A0_1 l0_1.length c0_1) := (blk_cell BK101.out 1).trans rfl; have hcz14_2 : w13.cell? ⟨gb101, 2, none⟩ = some (.slice A0_2 l0_2.length c0_2) := (blk_cell BK101.out 2).trans rfl; have hfz14_0 := Zn BK101.out 0; have hfz14_1 := Zn BK101.out 1; have hfz14_2 := Zn BK101.out 2) | ((with_reducible refine gate_callee (f := 29) rfl ?_); refine ZG (some 8) Try.func29 #[.slice A0_0 l0_0.length c0_0, .int .i64 a1] rfl ?_; (with_reducible refine (laws_szIntS.calls _ _ l0_0 a1 t102 _ ?side1 ?side2 A3.out).mono ?_); (case side1 => repeat (first | exact (C_below HR0_0.out HB.out) | (with_reducible refine C_alloc ?_ _) | (with_reducible refine C_drewN ?_ _) | (with_reducible refine C_drew ?_))); (case side2 => exact HC0_0.out); rintro e w' ⟨rfl, ⟨nd, rfl⟩⟩; refine ⟨_, rfl, ?_⟩) | ((with_reducible refine gate_callee (f := 29) rfl ?_); refine ZG (some 14) Try.func29 #[.slice A0_1 l0_1.length c0_1, .int .i64 t102] rfl ?_; (with_reducible refine (laws_szIntS.calls _ _ l0_1 t102 t103 _ ?side1 ?side2 A7.out).mono ?_); (case side1 => repeat (first | exact (C_below HR0_1.out Zs) | (with_reducible refine C_alloc ?_ _) | (with_reducible refine C_drewN ?_ _) | (with_reducible refine C_drew ?_))); (case side2 => exact HC0_1.out); rintro e w' ⟨rfl, ⟨nd, rfl⟩⟩; refine ⟨_, rfl, ?_⟩) | ((with_reducible refine gate_callee (f := 29) rfl ?_); refine ZG (some 20) Try.func29 #[.slice A0_2 l0_2.length c0_2, .int .i64 t103] rfl ?_; (with_reducible refine (laws_szIntS.calls _ _ l0_2 t103 t104 _ ?side1 ?side2 A11.out).mono ?_); (case side1 => repeat (first | exact (C_below HR0_2.out Zs) | (with_reducible refine C_alloc ?_ _) | (with_reducible refine C_drewN ?_ _) | (with_reducible refine C_drew ?_))); (case side2 => exact HC0_2.out); rintro e w' ⟨rfl, ⟨nd, rfl⟩⟩; refine ⟨_, rfl, ?_⟩))
  go_ret
  exact ⟨ZE, Zs⟩
 rw [if_neg c12] at H
 have c12b0 : decide (t104 < 0) = false := decide_eq_false c12
 clear c12
 obtain rfl := Option.some.inj H
 go_enter Try.func8, Try.ntmps8
 go_wp2_with (first | ((with_reducible refine gate_dst (N := 2) rfl ?_); refine box_event ?hg (N := 2) ?hd (cs := #[.slice A0_0 l0_0.length c0_0, .slice A0_1 l0_1.length c0_1, .slice A0_2 l0_2.length c0_2]) (t := 24) ?hr ?_; (case hd => rfl); (case hg => rfl); (case hr => first | (go_simp; done) | (go_simp; rfl)); intro gb101 hg w15 hbox hb; have BK101 := Zh (hbox); have GW101 := Zh ((by rw [hg]; exact (below_size Zs) : w.heap.size ≤ gb101)); have GE101 := Zh ((by rw [hg]; exact (below_size Zs) : w.heap.size ≤ gb101)); replace HB := Zh (Zl Zs hb); clear hb hbox hg; have hcz16_0 : w15.cell? ⟨gb101, 0, none⟩ = some (.slice A0_0 l0_0.length c0_0) := (blk_cell BK101.out 0).trans rfl; have hcz16_1 : w15.cell? ⟨gb101, 1, none⟩ = some (.slice A0_1 l0_1.length c0_1) := (blk_cell BK101.out 1).trans rfl; have hcz16_2 : w15.cell? ⟨gb101, 2, none⟩ = some (.slice A0_2 l0_2.length c0_2) := (blk_cell BK101.out 2).trans rfl; have hfz16_0 := Zn BK101.out 0; have hfz16_1 := Zn BK101.out 1; have hfz16_2 := Zn BK101.out 2) | ((with_reducible refine gate_callee (f := 29) rfl ?_); refine ZG (some 8) Try.func29 #[.slice A0_0 l0_0.length c0_0, .int .i64 a1] rfl ?_; (with_reducible refine (laws_szIntS.calls _ _ l0_0 a1 t102 _ ?side1 ?side2 A3.out).mono ?_); (case side1 => repeat (first | exact (C_below HR0_0.out HB.out) | (with_reducible refine C_alloc ?_ _) | (with_reducible refine C_drewN ?_ _) | (with_reducible refine C_drew ?_))); (case side2 => exact HC0_0.out); rintro e w' ⟨rfl, ⟨nd, rfl⟩⟩; refine ⟨_, rfl, ?_⟩) | ((with_reducible refine gate_callee (f := 29) rfl ?_); refine ZG (some 14) Try.func29 #[.slice A0_1 l0_1.length c0_1, .int .i64 t102] rfl ?_; (with_reducible refine (laws_szIntS.calls _ _ l0_1 t102 t103 _ ?side1 ?side2 A7.out).mono ?_); (case side1 => repeat (first | exact (C_below HR0_1.out Zs) | (with_reducible refine C_alloc ?_ _) | (with_reducible refine C_drewN ?_ _) | (with_reducible refine C_drew ?_))); (case side2 => exact HC0_1.out); rintro e w' ⟨rfl, ⟨nd, rfl⟩⟩; refine ⟨_, rfl, ?_⟩) | ((with_reducible refine gate_callee (f := 29) rfl ?_); refine ZG (some 20) Try.func29 #[.slice A0_2 l0_2.length c0_2, .int .i64 t103] rfl ?_; (with_reducible refine (laws_szIntS.calls _ _ l0_2 t103 t104 _ ?side1 ?side2 A11.out).mono ?_); (case side1 => repeat (first | exact (C_below HR0_2.out Zs) | (with_reducible refine C_alloc ?_ _) | (with_reducible refine C_drewN ?_ _) | (with_reducible refine C_drew ?_))); (case side2 => exact HC0_2.out); rintro e w' ⟨rfl, ⟨nd, rfl⟩⟩; refine ⟨_, rfl, ?_⟩))
 go_ret
 exact ⟨ZE, Zs⟩

end Go.Proofs.Ytedlgllhaboljaa.F

namespace Go.Proofs.Ytedlgllhaboljaa.F
open Go.RowKit Go.Proofs.YtedlgllhaboljaaW.PrintWords Go.Proofs.YtedlgllhaboljaaW.PrintLast Go.Proofs.YtedlgllhaboljaaW.PrintMore
open Go.Proofs.Ytedlgllhaboljaa
set_option linter.unusedVariables false
set_option linter.unusedSimpArgs false
def laws_FnExactBegin.f (k : Nat) (l0_0 : List Int) (l0_1 : List Int) (l0_2 : List Int) (l1 : List Int) : Option Bool := (if (l1.length : Int) > 1048576 then some true else ((laws_szConf.f l0_0 l0_1 l0_2 1048576).bind fun p3 => (if p3 < 0 then some true else ((laws_toConf.f k l0_0 l0_1 l0_2).bind fun p13 => ((laws_toIntS.f k l1).bind fun p28 => ((spec_Begin.f k p13.1 p13.2.1 p13.2.2 p28).bind fun p38 => ((laws_toConf.f k l0_0 l0_1 l0_2).bind fun p59 => ((laws_toIntS.f k l1).bind fun p74 => ((impl_Begin.f k p59.1 p59.2.1 p59.2.2 p74).bind fun p88 => ((laws_eqConf.f k p88.1 p88.2.1 p88.2.2.1 p38.1 p38.2.1 p38.2.2.1).bind fun p107 => (if p107 = true then (if p88.2.2.2 = p38.2.2.2 then ((laws_toConf.f k l0_0 l0_1 l0_2).bind fun p115 => ((laws_eqConf.f k p59.1 p59.2.1 p59.2.2 p115.1 p115.2.1 p115.2.2).bind fun p130 => (if p130 = true then ((laws_toIntS.f k l1).bind fun p133 => ((laws_eqIntS.f k p74 p133).bind fun p140 => (if p140 = true then ((laws_markConf.f k p59.1 p59.2.1 p59.2.2 1).bind fun p150 => ((laws_markIntS.f k p74 p150.1).bind fun p160 => (if p160.1 < 0 then none else ((laws_eqConf.f k p88.1 p88.2.1 p88.2.2.1 p38.1 p38.2.1 p38.2.2.1).bind fun p174 => (if p174 = true then (if p38.2.2.2 = p38.2.2.2 then ((laws_markConf.f k p88.1 p88.2.1 p88.2.2.1 1).bind fun p184 => ((laws_heldConf.f k p184.2.1 p184.2.2.1 p184.2.2.2 1).bind fun p197 => (if p197 < 0 then none else (if p197 = p184.1 then ((laws_toConf.f k l0_0 l0_1 l0_2).bind fun p209 => ((laws_toIntS.f k l1).bind fun p224 => ((impl_Begin.f k p209.1 p209.2.1 p209.2.2 p224).bind fun p234 => ((laws_eqConf.f k p234.1 p234.2.1 p234.2.2.1 p38.1 p38.2.1 p38.2.2.1).bind fun p253 => (if p253 = true then (if p234.2.2.2 = p38.2.2.2 then ((laws_heldConf.f k p184.2.1 p184.2.2.1 p184.2.2.2 1).bind fun p262 => (if p262 < 0 then none else (if p262 = p184.1 then (some true) else none))) else none) else none))))) else none)))) else none) else none))))) else none))) else none))) else none) else none)))))))))))
theorem laws_FnExactBegin.mono : ∀ l0_0 l0_1 l0_2 l1 k, LeO (laws_FnExactBegin.f k l0_0 l0_1 l0_2 l1) (laws_FnExactBegin.f (k + 1) l0_0 l0_1 l0_2 l1) := by
  intro l0_0 l0_1 l0_2 l1 k
  unfold laws_FnExactBegin.f
  repeat' first
  | (with_reducible exact laws_toConf.mono _ _ _ _)
  | (with_reducible exact laws_eqConf.mono _ _ _ _ _ _ _)
  | (with_reducible exact laws_toIntS.mono _ _)
  | (with_reducible exact laws_eqIntS.mono _ _ _)
  | (with_reducible exact laws_markConf.mono _ _ _ _ _)
  | (with_reducible exact laws_heldConf.mono _ _ _ _ _)
  | (with_reducible exact spec_Begin.mono _ _ _ _ _)
  | (with_reducible exact impl_Begin.mono _ _ _ _ _)
  | (with_reducible exact laws_markIntS.mono _ _ _)
  | (with_reducible exact LeO.refl _)
  | (with_reducible exact LeO.none _)
  | (with_reducible refine LeO.ite ?_ ?_)
  | (with_reducible refine LeO.bind ?_ (fun _ => ?_))
  | exact laws_toConf.mono _ _ _ _
  | exact laws_eqConf.mono _ _ _ _ _ _ _
  | exact laws_toIntS.mono _ _
  | exact laws_eqIntS.mono _ _ _
  | exact laws_markConf.mono _ _ _ _ _
  | exact laws_heldConf.mono _ _ _ _ _
  | exact spec_Begin.mono _ _ _ _ _
  | exact impl_Begin.mono _ _ _ _ _
  | exact laws_markIntS.mono _ _ _
set_option maxHeartbeats 16000000 in
set_option maxRecDepth 100000 in
theorem laws_FnExactBegin.calls (k : Nat) (A0_0 : Option Addr) (c0_0 : Nat) (l0_0 : List Int) (A0_1 : Option Addr) (c0_1 : Nat) (l0_1 : List Int) (A0_2 : Option Addr) (c0_2 : Nat) (l0_2 : List Int) (A1 : Option Addr) (c1 : Nat) (l1 : List Int) (r : Bool) (w : World) (hr0_0 : Kd.C (Kd.int .i64) w A0_0 l0_0.length l0_0) (hc0_0 : l0_0.length ≤ c0_0) (hr0_1 : Kd.C (Kd.int .i64) w A0_1 l0_1.length l0_1) (hc0_1 : l0_1.length ≤ c0_1) (hr0_2 : Kd.C (Kd.int .i64) w A0_2 l0_2.length l0_2) (hc0_2 : l0_2.length ≤ c0_2) (hr1 : Kd.C (Kd.int .i64) w A1 l1.length l1) (hc1 : l1.length ≤ c1) (h : laws_FnExactBegin.f k l0_0 l0_1 l0_2 l1 = some r) :
    Calls Try.prog 6 #[.agg #[.slice A0_0 l0_0.length c0_0, .slice A0_1 l0_1.length c0_1, .slice A0_2 l0_2.length c0_2], .slice A1 l1.length c1] w fun e w' => e = .returned (.bool r) ∧ Below w.heap.size w w' := by
  have HR0_0 := Zh hr0_0
  have HC0_0 := Zh hc0_0
  clear hr0_0 hc0_0
  have HR0_1 := Zh hr0_1
  have HC0_1 := Zh hc0_1
  clear hr0_1 hc0_1
  have HR0_2 := Zh hr0_2
  have HC0_2 := Zh hc0_2
  clear hr0_2 hc0_2
  have HR1 := Zh hr1
  have HC1 := Zh hc1
  clear hr1 hc1
  have ST := Zh (LW.St.start w)
  unfold laws_FnExactBegin.f at h
  by_cases c1 : (l1.length : Int) > 1048576
  · rw [if_pos c1] at h
    obtain rfl := Option.some.inj h
    have c1b : decide ((l1.length : Int) > 1048576) = true := decide_eq_true c1
    clear c1
    go_enter Try.func6, Try.ntmps6
    go_wp2
    go_ret
    exact ⟨rfl, by repeat (first | exact Below.refl _ _ | apply below_alloc)⟩
  rw [if_neg c1] at h
  have c1b : decide ((l1.length : Int) > 1048576) = false := decide_eq_false c1
  clear c1
  go_enter Try.func6, Try.ntmps6
  go_wp2_with fail
  replace ST := Zh (ST.out.alloc #[.slice A0_0 l0_0.length c0_0, .slice A0_1 l0_1.length c0_1, .slice A0_2 l0_2.length c0_2] 24 (g := w.heap.size) rfl)
  replace h := Option.bind_eq_some_iff.mp h
  obtain ⟨t2, HA_, h⟩ := h
  try dsimp only at h
  replace HA_ := Zh HA_
  with_reducible refine (laws_szConf.calls _ _ l0_0 _ _ l0_1 _ _ l0_2 1048576 t2 _ (Kd.C_below HR0_0.out ST.out.b) HC0_0.out (Kd.C_below HR0_1.out ST.out.b) HC0_1.out (Kd.C_below HR0_2.out ST.out.b) HC0_2.out HA_.out).mono ?_
  rintro e w4 ⟨rfl, hb⟩
  clear HA_
  replace ST := Zh (ST.out.step hb)
  clear hb
  have hc5 := ST.out.cell 0 rfl 0 (u := .slice A0_0 l0_0.length c0_0) rfl
  have hc6 := ST.out.cell 0 rfl 1 (u := .slice A0_1 l0_1.length c0_1) rfl
  have hc7 := ST.out.cell 0 rfl 2 (u := .slice A0_2 l0_2.length c0_2) rfl
  have hl8 := ST.out.lt 0 rfl
  by_cases c9 : t2 < 0
  · rw [if_pos c9] at h
    obtain rfl := Option.some.inj h
    have c9b : decide (t2 < 0) = true := decide_eq_true c9
    clear c9
    go_wp2
    go_ret
    exact ⟨rfl, ST.out.b⟩
  rw [if_neg c9] at h
  have c9b : decide (t2 < 0) = false := decide_eq_false c9
  clear c9
  go_wp2_with fail
  replace h := Option.bind_eq_some_iff.mp h
  obtain ⟨⟨t10, t11, t12⟩, HA_, h⟩ := h
  try dsimp only at h
  replace HA_ := Zh HA_
  with_reducible refine (laws_toConf.calls k _ _ l0_0 _ _ l0_1 _ _ l0_2 t10 t11 t12 _ (Kd.C_below HR0_0.out ST.out.b) HC0_0.out (Kd.C_below HR0_1.out ST.out.b) HC0_1.out (Kd.C_below HR0_2.out ST.out.b) HC0_2.out HA_.out).mono ?_
  rintro e w14 ⟨v15, v16, v17, rfl, ho18, ho19, ho20, hb⟩
  clear HA_
  obtain ⟨A21, c22, rfl⟩ := Kd.R_slice ho18
  obtain ⟨A23, c24, rfl⟩ := Kd.R_slice ho19
  obtain ⟨A25, c26, rfl⟩ := Kd.R_slice ho20
  replace ST := Zh (ST.out.rows3 rfl hb ho18 ho19 ho20 (fun k a b => (ho18.1 k a).1 b.symm) (fun k a b => (ho18.1 k a).2 b.symm) (fun k a b => (ho19.1 k a).2 b.symm))
  clear hb ho18 ho19 ho20
  clear hc5 hc6 hc7 hl8
  go_wp2_with fail
  replace h := Option.bind_eq_some_iff.mp h
  obtain ⟨t27, HA_, h⟩ := h
  try dsimp only at h
  replace HA_ := Zh HA_
  with_reducible refine (laws_toIntS.calls k _ _ l1 t27 _ (Kd.C_below HR1.out ST.out.b) HC1.out HA_.out).mono ?_
  rintro e w29 ⟨v30, rfl, ho31, hb⟩
  clear HA_
  obtain ⟨A32, c33, rfl⟩ := Kd.R_slice ho31
  replace ST := Zh (ST.out.rowR rfl hb ho31)
  clear hb ho31
  go_wp2_with fail
  replace h := Option.bind_eq_some_iff.mp h
  obtain ⟨⟨t34, t35, t36, t37⟩, HA_, h⟩ := h
  try dsimp only at h
  replace HA_ := Zh HA_
  with_reducible refine (spec_Begin.calls k _ _ t10 _ _ t11 _ _ t12 _ _ t27 t34 t35 t36 t37 _ (ST.out.reads 1 rfl).2.2 (ST.out.reads 1 rfl).2.1 (ST.out.reads 2 rfl).2.2 (ST.out.reads 2 rfl).2.1 (ST.out.reads 3 rfl).2.2 (ST.out.reads 3 rfl).2.1 (ST.out.reads 0 rfl).2.2 (ST.out.reads 0 rfl).2.1 HA_.out).mono ?_
  rintro e w39 ⟨v40, v41, v42, rfl, ho43, ho44, ho45, hb⟩
  clear HA_
  obtain ⟨A46, c47, rfl⟩ := Kd.R_slice ho43
  obtain ⟨A48, c49, rfl⟩ := Kd.R_slice ho44
  obtain ⟨A50, c51, rfl⟩ := Kd.R_slice ho45
  replace ST := Zh (ST.out.rows3 rfl hb ho43 ho44 ho45 (fun k a b => (ho43.1 k a).1 b.symm) (fun k a b => (ho43.1 k a).2 b.symm) (fun k a b => (ho44.1 k a).2 b.symm))
  clear hb ho43 ho44 ho45
  have hc52 := ST.out.cell 7 rfl 0 (u := .slice A0_0 l0_0.length c0_0) rfl
  have hc53 := ST.out.cell 7 rfl 1 (u := .slice A0_1 l0_1.length c0_1) rfl
  have hc54 := ST.out.cell 7 rfl 2 (u := .slice A0_2 l0_2.length c0_2) rfl
  have hl55 := ST.out.lt 7 rfl
  go_wp2_with fail
  replace ST := Zh (ST.out.alloc #[.slice A46 t34.length c47, .slice A48 t35.length c49, .slice A50 t36.length c51] 27 (g := w39.heap.size) rfl)
  replace h := Option.bind_eq_some_iff.mp h
  obtain ⟨⟨t56, t57, t58⟩, HA_, h⟩ := h
  try dsimp only at h
  replace HA_ := Zh HA_
  with_reducible refine (laws_toConf.calls k _ _ l0_0 _ _ l0_1 _ _ l0_2 t56 t57 t58 _ (Kd.C_below HR0_0.out ST.out.b) HC0_0.out (Kd.C_below HR0_1.out ST.out.b) HC0_1.out (Kd.C_below HR0_2.out ST.out.b) HC0_2.out HA_.out).mono ?_
  rintro e w60 ⟨v61, v62, v63, rfl, ho64, ho65, ho66, hb⟩
  clear HA_
  obtain ⟨A67, c68, rfl⟩ := Kd.R_slice ho64
  obtain ⟨A69, c70, rfl⟩ := Kd.R_slice ho65
  obtain ⟨A71, c72, rfl⟩ := Kd.R_slice ho66
  replace ST := Zh (ST.out.rows3 rfl hb ho64 ho65 ho66 (fun k a b => (ho64.1 k a).1 b.symm) (fun k a b => (ho64.1 k a).2 b.symm) (fun k a b => (ho65.1 k a).2 b.symm))
  clear hb ho64 ho65 ho66
  clear hc52 hc53 hc54 hl55
  go_wp2_with fail
  replace ST := Zh (ST.out.alloc #[.slice A67 t56.length c68, .slice A69 t57.length c70, .slice A71 t58.length c72] 27 (g := w60.heap.size) rfl)
  replace h := Option.bind_eq_some_iff.mp h
  obtain ⟨t73, HA_, h⟩ := h
  try dsimp only at h
  replace HA_ := Zh HA_
  with_reducible refine (laws_toIntS.calls k _ _ l1 t73 _ (Kd.C_below HR1.out ST.out.b) HC1.out HA_.out).mono ?_
  rintro e w75 ⟨v76, rfl, ho77, hb⟩
  clear HA_
  obtain ⟨A78, c79, rfl⟩ := Kd.R_slice ho77
  replace ST := Zh (ST.out.rowR rfl hb ho77)
  clear hb ho77
  have hc80 := ST.out.cell 1 rfl 0 (u := .slice A67 t56.length c68) rfl
  have hc81 := ST.out.cell 1 rfl 1 (u := .slice A69 t57.length c70) rfl
  have hc82 := ST.out.cell 1 rfl 2 (u := .slice A71 t58.length c72) rfl
  have hl83 := ST.out.lt 1 rfl
  go_wp2_with fail
  replace h := Option.bind_eq_some_iff.mp h
  obtain ⟨⟨t84, t85, t86, t87⟩, HA_, h⟩ := h
  try dsimp only at h
  replace HA_ := Zh HA_
  with_reducible refine (impl_Begin.calls k _ _ t56 _ _ t57 _ _ t58 _ _ t73 t84 t85 t86 t87 _ (ST.out.reads 2 rfl).2.2 (ST.out.reads 2 rfl).2.1 (ST.out.reads 3 rfl).2.2 (ST.out.reads 3 rfl).2.1 (ST.out.reads 4 rfl).2.2 (ST.out.reads 4 rfl).2.1 (ST.out.reads 0 rfl).2.2 (ST.out.reads 0 rfl).2.1 HA_.out).mono ?_
  rintro e w89 ⟨v90, v91, v92, rfl, ho93, ho94, ho95, hb⟩
  clear HA_
  obtain ⟨A96, c97, rfl⟩ := Kd.R_slice ho93
  obtain ⟨A98, c99, rfl⟩ := Kd.R_slice ho94
  obtain ⟨A100, c101, rfl⟩ := Kd.R_slice ho95
  replace ST := Zh (ST.out.rows3 rfl hb ho93 ho94 ho95 (fun k a b => (ho93.1 k a).1 b.symm) (fun k a b => (ho93.1 k a).2 b.symm) (fun k a b => (ho94.1 k a).2 b.symm))
  clear hb ho93 ho94 ho95
  clear hc80 hc81 hc82 hl83
  have hc102 := ST.out.cell 8 rfl 0 (u := .slice A46 t34.length c47) rfl
  have hc103 := ST.out.cell 8 rfl 1 (u := .slice A48 t35.length c49) rfl
  have hc104 := ST.out.cell 8 rfl 2 (u := .slice A50 t36.length c51) rfl
  have hl105 := ST.out.lt 8 rfl
  go_wp2_with fail
  replace ST := Zh (ST.out.alloc #[.slice A96 t84.length c97, .slice A98 t85.length c99, .slice A100 t86.length c101] 27 (g := w89.heap.size) rfl)
  replace h := Option.bind_eq_some_iff.mp h
  obtain ⟨t106, HA_, h⟩ := h
  try dsimp only at h
  replace HA_ := Zh HA_
  with_reducible refine (laws_eqConf.calls k _ _ t84 _ _ t85 _ _ t86 _ _ t34 _ _ t35 _ _ t36 t106 _ (ST.out.reads 1 rfl).2.2 (ST.out.reads 1 rfl).2.1 (ST.out.reads 2 rfl).2.2 (ST.out.reads 2 rfl).2.1 (ST.out.reads 3 rfl).2.2 (ST.out.reads 3 rfl).2.1 (ST.out.reads 10 rfl).2.2 (ST.out.reads 10 rfl).2.1 (ST.out.reads 11 rfl).2.2 (ST.out.reads 11 rfl).2.1 (ST.out.reads 12 rfl).2.2 (ST.out.reads 12 rfl).2.1 HA_.out).mono ?_
  rintro e w108 ⟨rfl, hb⟩
  clear HA_
  replace ST := Zh (ST.out.step hb)
  clear hb
  obtain rfl : t106 = true := by
    cases t106 with
    | true => rfl
    | false => exact absurd h (by simp)
  first | rw [if_pos rfl] at h | rw [if_pos trivial] at h
  clear hc102 hc103 hc104 hl105
  have e109 : t87 = t37 := by
    refine Decidable.byContradiction fun e_ => ?_
    rw [if_neg e_] at h
    exact absurd h (by simp)
  rw [if_pos e109] at h
  obtain rfl : t37 = t87 := by first | exact e109 | exact e109.symm
  clear e109
  have hq110 : (t37 != t37) = false := bne_self_eq_false _
  go_wp2_with fail
  replace ST := Zh ST.out.drew
  refine start_ (n := 5) (S := fun w' => w'.cell? ⟨w60.heap.size, 0, none⟩ = some (.slice A67 t56.length c68) ∧ w'.cell? ⟨w60.heap.size, 1, none⟩ = some (.slice A69 t57.length c70) ∧ w'.cell? ⟨w60.heap.size, 2, none⟩ = some (.slice A71 t58.length c72) ∧ w'.cell? ⟨w.heap.size, 0, none⟩ = some (.slice A0_0 l0_0.length c0_0) ∧ w'.cell? ⟨w.heap.size, 1, none⟩ = some (.slice A0_1 l0_1.length c0_1) ∧ w'.cell? ⟨w.heap.size, 2, none⟩ = some (.slice A0_2 l0_2.length c0_2)) (ds := []) #[false, false, false, false, false] (by kernel_rfl) rfl rfl ⟨ST.out.cell 5 rfl 0 rfl, ST.out.cell 5 rfl 1 rfl, ST.out.cell 5 rfl 2 rfl, ST.out.cell 17 rfl 0 rfl, ST.out.cell 17 rfl 1 rfl, ST.out.cell 17 rfl 2 rfl⟩ (fun hHeld => ?_)
  generalize w108.drew = w111 at ST hHeld ⊢
  refine take_ (i := 0) (N := some 52) (v := ?_) (a' := ?_) #[true, false, false, false, false] rfl rfl (by kernel_rfl) (fun _ _ _ h => h) (Or.inl ⟨by rfl, ?_⟩) hHeld ?_ ?_
  rotate_left
  · rintro w' ⟨s0, s1, s2, s3, s4, s5⟩
    go_simp
    with_reducible rfl
  rotate_left
  · simp only [Act.put, List.setIfInBounds_toArray, List.set_cons_zero, List.set_cons_succ, i64_w, i32_w]
    rfl
  refine take_ (i := 1) (N := some 53) (v := ?_) (a' := ?_) #[true, true, false, false, false] rfl rfl (by kernel_rfl) (fun _ _ _ h => h) (Or.inl ⟨by rfl, ?_⟩) hHeld ?_ ?_
  rotate_left
  · rintro w' ⟨s0, s1, s2, s3, s4, s5⟩
    go_simp
    with_reducible rfl
  rotate_left
  · simp only [Act.put, List.setIfInBounds_toArray, List.set_cons_zero, List.set_cons_succ, i64_w, i32_w]
    rfl
  refine one_ (i := 2) (N := some 54) #[true, true, true, false, false] rfl rfl (by kernel_rfl) (by decide) (fun K hK => ?_)
  replace h := Option.bind_eq_some_iff.mp h
  obtain ⟨⟨t112, t113, t114⟩, HA_, h⟩ := h
  try dsimp only at h
  replace HA_ := Zh HA_
  refine goes_ Try.func10 (by kernel_rfl) rfl #[.agg #[.slice A0_0 l0_0.length c0_0, .slice A0_1 l0_1.length c0_1, .slice A0_2 l0_2.length c0_2]] (by rfl) rfl rfl (by (try simp only [List.map_toArray, List.map_cons, List.map_nil]); first | done | rfl) ?_
  with_reducible refine (laws_toConf.calls k _ _ l0_0 _ _ l0_1 _ _ l0_2 t112 t113 t114 _ (Kd.C_below HR0_0.out ST.out.b) HC0_0.out (Kd.C_below HR0_1.out ST.out.b) HC0_1.out (Kd.C_below HR0_2.out ST.out.b) HC0_2.out HA_.out).mono ?_
  rintro e w116 ⟨v117, v118, v119, rfl, ho120, ho121, ho122, hb⟩
  clear HA_
  refine ⟨_, rfl, ?_⟩
  obtain ⟨A123, c124, rfl⟩ := Kd.R_slice ho120
  obtain ⟨A125, c126, rfl⟩ := Kd.R_slice ho121
  obtain ⟨A127, c128, rfl⟩ := Kd.R_slice ho122
  replace ST := Zh (ST.out.rows3 rfl hb ho120 ho121 ho122 (fun k a b => (ho120.1 k a).1 b.symm) (fun k a b => (ho120.1 k a).2 b.symm) (fun k a b => (ho121.1 k a).2 b.symm))
  clear hb ho120 ho121 ho122
  refine hK.out _ _ ⟨ST.out.cell 8 rfl 0 rfl, ST.out.cell 8 rfl 1 rfl, ST.out.cell 8 rfl 2 rfl, ST.out.cell 20 rfl 0 rfl, ST.out.cell 20 rfl 1 rfl, ST.out.cell 20 rfl 2 rfl⟩ (fun hHeld => ?_)
  clear hK K
  refine norm_ (a' := ?_) ?_ ?_
  rotate_left
  · show Act.put _ (some 54) _ = _
    simp only [Act.put, List.setIfInBounds_toArray, List.set_cons_zero, List.set_cons_succ, i64_w, i32_w]
    rfl
  refine one_ (i := 3) (N := some 55) #[true, true, true, true, false] rfl rfl (by kernel_rfl) (by decide) (fun K hK => ?_)
  replace h := Option.bind_eq_some_iff.mp h
  obtain ⟨t129, HA_, h⟩ := h
  try dsimp only at h
  replace HA_ := Zh HA_
  refine goes_ Try.func12 (by kernel_rfl) rfl #[.agg #[.slice A67 t56.length c68, .slice A69 t57.length c70, .slice A71 t58.length c72], .agg #[.slice A123 t112.length c124, .slice A125 t113.length c126, .slice A127 t114.length c128]] (by rfl) rfl rfl (by (try simp only [List.map_toArray, List.map_cons, List.map_nil]); first | done | rfl) ?_
  with_reducible refine (laws_eqConf.calls k _ _ t56 _ _ t57 _ _ t58 _ _ t112 _ _ t113 _ _ t114 t129 _ (ST.out.reads 9 rfl).2.2 (ST.out.reads 9 rfl).2.1 (ST.out.reads 10 rfl).2.2 (ST.out.reads 10 rfl).2.1 (ST.out.reads 11 rfl).2.2 (ST.out.reads 11 rfl).2.1 (ST.out.reads 0 rfl).2.2 (ST.out.reads 0 rfl).2.1 (ST.out.reads 1 rfl).2.2 (ST.out.reads 1 rfl).2.1 (ST.out.reads 2 rfl).2.2 (ST.out.reads 2 rfl).2.1 HA_.out).mono ?_
  rintro e w131 ⟨rfl, hb⟩
  clear HA_
  refine ⟨_, rfl, ?_⟩
  replace ST := Zh (ST.out.step hb)
  clear hb
  obtain rfl : t129 = true := by
    cases t129 with
    | true => rfl
    | false => exact absurd h (by simp)
  first | rw [if_pos rfl] at h | rw [if_pos trivial] at h
  refine hK.out _ _ ⟨ST.out.cell 8 rfl 0 rfl, ST.out.cell 8 rfl 1 rfl, ST.out.cell 8 rfl 2 rfl, ST.out.cell 20 rfl 0 rfl, ST.out.cell 20 rfl 1 rfl, ST.out.cell 20 rfl 2 rfl⟩ (fun hHeld => ?_)
  clear hK K
  refine norm_ (a' := ?_) ?_ ?_
  rotate_left
  · show Act.put _ (some 55) _ = _
    simp only [Act.put, List.setIfInBounds_toArray, List.set_cons_zero, List.set_cons_succ, i64_w, i32_w]
    rfl
  refine pure_ (i := 4) (N := some 56) (v := ?_) (a' := ?_) #[true, true, true, true, true] rfl rfl (by kernel_rfl) (fun _ _ _ h => h) (Or.inl ⟨by rfl, ?_⟩) ?_ ?_
  rotate_left
  · intro w'
    go_simp
    with_reducible rfl
  rotate_left
  · simp only [Act.put, List.setIfInBounds_toArray, List.set_cons_zero, List.set_cons_succ, i64_w, i32_w]
    rfl
  refine done_ (by kernel_rfl) ?_
  go_wp2_with fail
  replace h := Option.bind_eq_some_iff.mp h
  obtain ⟨t132, HA_, h⟩ := h
  try dsimp only at h
  replace HA_ := Zh HA_
  with_reducible refine (laws_toIntS.calls k _ _ l1 t132 _ (Kd.C_below HR1.out ST.out.b) HC1.out HA_.out).mono ?_
  rintro e w134 ⟨v135, rfl, ho136, hb⟩
  clear HA_
  obtain ⟨A137, c138, rfl⟩ := Kd.R_slice ho136
  replace ST := Zh (ST.out.rowR rfl hb ho136)
  clear hb ho136
  go_wp2_with fail
  replace h := Option.bind_eq_some_iff.mp h
  obtain ⟨t139, HA_, h⟩ := h
  try dsimp only at h
  replace HA_ := Zh HA_
  with_reducible refine (laws_eqIntS.calls k _ _ t73 _ _ t132 t139 _ (ST.out.reads 8 rfl).2.2 (ST.out.reads 8 rfl).2.1 (ST.out.reads 0 rfl).2.2 (ST.out.reads 0 rfl).2.1 HA_.out).mono ?_
  rintro e w141 ⟨rfl, hb⟩
  clear HA_
  replace hb := Drawn0.below hb
  replace ST := Zh (ST.out.step hb)
  clear hb
  obtain rfl : t139 = true := by
    cases t139 with
    | true => rfl
    | false => exact absurd h (by simp)
  first | rw [if_pos rfl] at h | rw [if_pos trivial] at h
  have hc142 := ST.out.cell 9 rfl 0 (u := .slice A67 t56.length c68) rfl
  have hc143 := ST.out.cell 9 rfl 1 (u := .slice A69 t57.length c70) rfl
  have hc144 := ST.out.cell 9 rfl 2 (u := .slice A71 t58.length c72) rfl
  have hl145 := ST.out.lt 9 rfl
  go_wp2_with fail
  replace h := Option.bind_eq_some_iff.mp h
  obtain ⟨⟨t146, t147, t148, t149⟩, HA_, h⟩ := h
  try dsimp only at h
  replace HA_ := Zh HA_
  with_reducible refine (laws_markConf.calls k _ _ t56 _ _ t57 _ _ t58 1 t146 t147 t148 t149 w _ ST.out.b (Kd.S_R (ST.out.own 10 rfl)) (LW.Its.disj ST.out.i 10 11 _ _ (by decide) rfl rfl) (LW.Its.disj ST.out.i 10 12 _ _ (by decide) rfl rfl) (Kd.S_R (ST.out.own 11 rfl)) (LW.Its.disj ST.out.i 11 10 _ _ (by decide) rfl rfl) (LW.Its.disj ST.out.i 11 12 _ _ (by decide) rfl rfl) (Kd.S_R (ST.out.own 12 rfl)) (LW.Its.disj ST.out.i 12 10 _ _ (by decide) rfl rfl) (LW.Its.disj ST.out.i 12 11 _ _ (by decide) rfl rfl) HA_.out).mono ?_
  rintro e w151 ⟨rfl, ho152, ho153, ho154, hb, hk⟩
  clear HA_
  replace ST := Zh (ST.out.write3 rfl 10 11 12 (by decide) (by decide) (by decide) rfl rfl rfl ho152 ho153 ho154 hb hk)
  clear hb hk ho152 ho153 ho154
  have el155 := (ST.out.reads 10 rfl).1
  simp only [el155] at ST ⊢
  clear el155
  have el156 := (ST.out.reads 11 rfl).1
  simp only [el156] at ST ⊢
  clear el156
  have el157 := (ST.out.reads 12 rfl).1
  simp only [el157] at ST ⊢
  clear el157
  clear hc142 hc143 hc144 hl145
  go_wp2_with fail
  replace h := Option.bind_eq_some_iff.mp h
  obtain ⟨⟨t158, t159⟩, HA_, h⟩ := h
  try dsimp only at h
  replace HA_ := Zh HA_
  with_reducible refine (laws_markIntS.calls k _ _ t73 t146 t158 t159 w _ ST.out.b (Kd.S_R (ST.out.own 8 rfl)) HA_.out).mono ?_
  rintro e w161 ⟨rfl, ho162, hb, hk⟩
  clear HA_
  replace ST := Zh (ST.out.writeR rfl 8 rfl ho162 hb hk)
  clear hb hk ho162
  have el163 := (ST.out.reads 8 rfl).1
  simp only [el163] at ST ⊢
  clear el163
  have hc164 := ST.out.cell 4 rfl 0 (u := .slice A96 t84.length c97) rfl
  have hc165 := ST.out.cell 4 rfl 1 (u := .slice A98 t85.length c99) rfl
  have hc166 := ST.out.cell 4 rfl 2 (u := .slice A100 t86.length c101) rfl
  have hl167 := ST.out.lt 4 rfl
  have hc168 := ST.out.cell 13 rfl 0 (u := .slice A46 t34.length c47) rfl
  have hc169 := ST.out.cell 13 rfl 1 (u := .slice A48 t35.length c49) rfl
  have hc170 := ST.out.cell 13 rfl 2 (u := .slice A50 t36.length c51) rfl
  have hl171 := ST.out.lt 13 rfl
  by_cases c172 : t158 < 0
  · rw [if_pos c172] at h
    exact absurd h (by simp)
  rw [if_neg c172] at h
  have c172b : decide (t158 < 0) = false := decide_eq_false c172
  clear c172
  go_wp2_with fail
  replace h := Option.bind_eq_some_iff.mp h
  obtain ⟨t173, HA_, h⟩ := h
  try dsimp only at h
  replace HA_ := Zh HA_
  with_reducible refine (laws_eqConf.calls k _ _ t84 _ _ t85 _ _ t86 _ _ t34 _ _ t35 _ _ t36 t173 _ (ST.out.reads 5 rfl).2.2 (ST.out.reads 5 rfl).2.1 (ST.out.reads 6 rfl).2.2 (ST.out.reads 6 rfl).2.1 (ST.out.reads 7 rfl).2.2 (ST.out.reads 7 rfl).2.1 (ST.out.reads 14 rfl).2.2 (ST.out.reads 14 rfl).2.1 (ST.out.reads 15 rfl).2.2 (ST.out.reads 15 rfl).2.1 (ST.out.reads 16 rfl).2.2 (ST.out.reads 16 rfl).2.1 HA_.out).mono ?_
  rintro e w175 ⟨rfl, hb⟩
  clear HA_
  replace ST := Zh (ST.out.step hb)
  clear hb
  obtain rfl : t173 = true := by
    cases t173 with
    | true => rfl
    | false => exact absurd h (by simp)
  first | rw [if_pos rfl] at h | rw [if_pos trivial] at h
  clear hc164 hc165 hc166 hl167 hc168 hc169 hc170 hl171
  have hc176 := ST.out.cell 4 rfl 0 (u := .slice A96 t84.length c97) rfl
  have hc177 := ST.out.cell 4 rfl 1 (u := .slice A98 t85.length c99) rfl
  have hc178 := ST.out.cell 4 rfl 2 (u := .slice A100 t86.length c101) rfl
  have hl179 := ST.out.lt 4 rfl
  first | rw [if_pos rfl] at h | rw [if_pos trivial] at h
  go_wp2_with fail
  replace h := Option.bind_eq_some_iff.mp h
  obtain ⟨⟨t180, t181, t182, t183⟩, HA_, h⟩ := h
  try dsimp only at h
  replace HA_ := Zh HA_
  with_reducible refine (laws_markConf.calls k _ _ t84 _ _ t85 _ _ t86 1 t180 t181 t182 t183 w _ ST.out.b (Kd.S_R (ST.out.own 5 rfl)) (LW.Its.disj ST.out.i 5 6 _ _ (by decide) rfl rfl) (LW.Its.disj ST.out.i 5 7 _ _ (by decide) rfl rfl) (Kd.S_R (ST.out.own 6 rfl)) (LW.Its.disj ST.out.i 6 5 _ _ (by decide) rfl rfl) (LW.Its.disj ST.out.i 6 7 _ _ (by decide) rfl rfl) (Kd.S_R (ST.out.own 7 rfl)) (LW.Its.disj ST.out.i 7 5 _ _ (by decide) rfl rfl) (LW.Its.disj ST.out.i 7 6 _ _ (by decide) rfl rfl) HA_.out).mono ?_
  rintro e w185 ⟨rfl, ho186, ho187, ho188, hb, hk⟩
  clear HA_
  replace ST := Zh (ST.out.write3 rfl 5 6 7 (by decide) (by decide) (by decide) rfl rfl rfl ho186 ho187 ho188 hb hk)
  clear hb hk ho186 ho187 ho188
  have el189 := (ST.out.reads 5 rfl).1
  simp only [el189] at ST ⊢
  clear el189
  have el190 := (ST.out.reads 6 rfl).1
  simp only [el190] at ST ⊢
  clear el190
  have el191 := (ST.out.reads 7 rfl).1
  simp only [el191] at ST ⊢
  clear el191
  clear hc176 hc177 hc178 hl179
  have hc192 := ST.out.cell 4 rfl 0 (u := .slice A96 t181.length c97) rfl
  have hc193 := ST.out.cell 4 rfl 1 (u := .slice A98 t182.length c99) rfl
  have hc194 := ST.out.cell 4 rfl 2 (u := .slice A100 t183.length c101) rfl
  have hl195 := ST.out.lt 4 rfl
  go_wp2_with fail
  replace h := Option.bind_eq_some_iff.mp h
  obtain ⟨t196, HA_, h⟩ := h
  try dsimp only at h
  replace HA_ := Zh HA_
  with_reducible refine (laws_heldConf.calls k _ _ t181 _ _ t182 _ _ t183 1 t196 _ (ST.out.reads 5 rfl).2.2 (ST.out.reads 5 rfl).2.1 (ST.out.reads 6 rfl).2.2 (ST.out.reads 6 rfl).2.1 (ST.out.reads 7 rfl).2.2 (ST.out.reads 7 rfl).2.1 HA_.out).mono ?_
  rintro e w198 ⟨rfl, hb⟩
  clear HA_
  replace ST := Zh (ST.out.step hb)
  clear hb
  clear hc192 hc193 hc194 hl195
  have hc199 := ST.out.cell 21 rfl 0 (u := .slice A0_0 l0_0.length c0_0) rfl
  have hc200 := ST.out.cell 21 rfl 1 (u := .slice A0_1 l0_1.length c0_1) rfl
  have hc201 := ST.out.cell 21 rfl 2 (u := .slice A0_2 l0_2.length c0_2) rfl
  have hl202 := ST.out.lt 21 rfl
  by_cases c203 : t196 < 0
  · rw [if_pos c203] at h
    exact absurd h (by simp)
  rw [if_neg c203] at h
  have c203b : decide (t196 < 0) = false := decide_eq_false c203
  clear c203
  have e204 : t196 = t180 := by
    refine Decidable.byContradiction fun e_ => ?_
    rw [if_neg e_] at h
    exact absurd h (by simp)
  rw [if_pos e204] at h
  obtain rfl : t180 = t196 := by first | exact e204 | exact e204.symm
  clear e204
  have hq205 : (t180 != t180) = false := bne_self_eq_false _
  go_wp2_with fail
  replace h := Option.bind_eq_some_iff.mp h
  obtain ⟨⟨t206, t207, t208⟩, HA_, h⟩ := h
  try dsimp only at h
  replace HA_ := Zh HA_
  with_reducible refine (laws_toConf.calls k _ _ l0_0 _ _ l0_1 _ _ l0_2 t206 t207 t208 _ (Kd.C_below HR0_0.out ST.out.b) HC0_0.out (Kd.C_below HR0_1.out ST.out.b) HC0_1.out (Kd.C_below HR0_2.out ST.out.b) HC0_2.out HA_.out).mono ?_
  rintro e w210 ⟨v211, v212, v213, rfl, ho214, ho215, ho216, hb⟩
  clear HA_
  obtain ⟨A217, c218, rfl⟩ := Kd.R_slice ho214
  obtain ⟨A219, c220, rfl⟩ := Kd.R_slice ho215
  obtain ⟨A221, c222, rfl⟩ := Kd.R_slice ho216
  replace ST := Zh (ST.out.rows3 rfl hb ho214 ho215 ho216 (fun k a b => (ho214.1 k a).1 b.symm) (fun k a b => (ho214.1 k a).2 b.symm) (fun k a b => (ho215.1 k a).2 b.symm))
  clear hb ho214 ho215 ho216
  clear hc199 hc200 hc201 hl202
  go_wp2_with fail
  replace h := Option.bind_eq_some_iff.mp h
  obtain ⟨t223, HA_, h⟩ := h
  try dsimp only at h
  replace HA_ := Zh HA_
  with_reducible refine (laws_toIntS.calls k _ _ l1 t223 _ (Kd.C_below HR1.out ST.out.b) HC1.out HA_.out).mono ?_
  rintro e w225 ⟨v226, rfl, ho227, hb⟩
  clear HA_
  obtain ⟨A228, c229, rfl⟩ := Kd.R_slice ho227
  replace ST := Zh (ST.out.rowR rfl hb ho227)
  clear hb ho227
  go_wp2_with fail
  replace h := Option.bind_eq_some_iff.mp h
  obtain ⟨⟨t230, t231, t232, t233⟩, HA_, h⟩ := h
  try dsimp only at h
  replace HA_ := Zh HA_
  with_reducible refine (impl_Begin.calls k _ _ t206 _ _ t207 _ _ t208 _ _ t223 t230 t231 t232 t233 _ (ST.out.reads 1 rfl).2.2 (ST.out.reads 1 rfl).2.1 (ST.out.reads 2 rfl).2.2 (ST.out.reads 2 rfl).2.1 (ST.out.reads 3 rfl).2.2 (ST.out.reads 3 rfl).2.1 (ST.out.reads 0 rfl).2.2 (ST.out.reads 0 rfl).2.1 HA_.out).mono ?_
  rintro e w235 ⟨v236, v237, v238, rfl, ho239, ho240, ho241, hb⟩
  clear HA_
  obtain ⟨A242, c243, rfl⟩ := Kd.R_slice ho239
  obtain ⟨A244, c245, rfl⟩ := Kd.R_slice ho240
  obtain ⟨A246, c247, rfl⟩ := Kd.R_slice ho241
  replace ST := Zh (ST.out.rows3 rfl hb ho239 ho240 ho241 (fun k a b => (ho239.1 k a).1 b.symm) (fun k a b => (ho239.1 k a).2 b.symm) (fun k a b => (ho240.1 k a).2 b.symm))
  clear hb ho239 ho240 ho241
  have hc248 := ST.out.cell 20 rfl 0 (u := .slice A46 t34.length c47) rfl
  have hc249 := ST.out.cell 20 rfl 1 (u := .slice A48 t35.length c49) rfl
  have hc250 := ST.out.cell 20 rfl 2 (u := .slice A50 t36.length c51) rfl
  have hl251 := ST.out.lt 20 rfl
  go_wp2_with fail
  replace ST := Zh (ST.out.alloc #[.slice A242 t230.length c243, .slice A244 t231.length c245, .slice A246 t232.length c247] 27 (g := w235.heap.size) rfl)
  replace h := Option.bind_eq_some_iff.mp h
  obtain ⟨t252, HA_, h⟩ := h
  try dsimp only at h
  replace HA_ := Zh HA_
  with_reducible refine (laws_eqConf.calls k _ _ t230 _ _ t231 _ _ t232 _ _ t34 _ _ t35 _ _ t36 t252 _ (ST.out.reads 1 rfl).2.2 (ST.out.reads 1 rfl).2.1 (ST.out.reads 2 rfl).2.2 (ST.out.reads 2 rfl).2.1 (ST.out.reads 3 rfl).2.2 (ST.out.reads 3 rfl).2.1 (ST.out.reads 22 rfl).2.2 (ST.out.reads 22 rfl).2.1 (ST.out.reads 23 rfl).2.2 (ST.out.reads 23 rfl).2.1 (ST.out.reads 24 rfl).2.2 (ST.out.reads 24 rfl).2.1 HA_.out).mono ?_
  rintro e w254 ⟨rfl, hb⟩
  clear HA_
  replace ST := Zh (ST.out.step hb)
  clear hb
  obtain rfl : t252 = true := by
    cases t252 with
    | true => rfl
    | false => exact absurd h (by simp)
  first | rw [if_pos rfl] at h | rw [if_pos trivial] at h
  clear hc248 hc249 hc250 hl251
  have hc255 := ST.out.cell 12 rfl 0 (u := .slice A96 t181.length c97) rfl
  have hc256 := ST.out.cell 12 rfl 1 (u := .slice A98 t182.length c99) rfl
  have hc257 := ST.out.cell 12 rfl 2 (u := .slice A100 t183.length c101) rfl
  have hl258 := ST.out.lt 12 rfl
  have e259 : t233 = t37 := by
    refine Decidable.byContradiction fun e_ => ?_
    rw [if_neg e_] at h
    exact absurd h (by simp)
  rw [if_pos e259] at h
  obtain rfl : t37 = t233 := by first | exact e259 | exact e259.symm
  clear e259
  have hq260 : (t37 != t37) = false := bne_self_eq_false _
  go_wp2_with fail
  replace h := Option.bind_eq_some_iff.mp h
  obtain ⟨t261, HA_, h⟩ := h
  try dsimp only at h
  replace HA_ := Zh HA_
  with_reducible refine (laws_heldConf.calls k _ _ t181 _ _ t182 _ _ t183 1 t261 _ (ST.out.reads 13 rfl).2.2 (ST.out.reads 13 rfl).2.1 (ST.out.reads 14 rfl).2.2 (ST.out.reads 14 rfl).2.1 (ST.out.reads 15 rfl).2.2 (ST.out.reads 15 rfl).2.1 HA_.out).mono ?_
  rintro e w263 ⟨rfl, hb⟩
  clear HA_
  replace ST := Zh (ST.out.step hb)
  clear hb
  clear hc255 hc256 hc257 hl258
  by_cases c264 : t261 < 0
  · rw [if_pos c264] at h
    exact absurd h (by simp)
  rw [if_neg c264] at h
  have c264b : decide (t261 < 0) = false := decide_eq_false c264
  clear c264
  have e265 : t261 = t180 := by
    refine Decidable.byContradiction fun e_ => ?_
    rw [if_neg e_] at h
    exact absurd h (by simp)
  rw [if_pos e265] at h
  obtain rfl : t180 = t261 := by first | exact e265 | exact e265.symm
  clear e265
  have hq266 : (t180 != t180) = false := bne_self_eq_false _
  obtain rfl := Option.some.inj h
  go_wp2
  go_ret
  exact ⟨rfl, ST.out.b⟩
end Go.Proofs.Ytedlgllhaboljaa.F
