/- Merged texts below the law FnRecords: Go functions as Lean functions, their contracts, and plain lemmas. -/
import Derived.Test.YtgdebfaoohjikaaVFnRecordsMore
import Derived.WalkKit
import Derived.Test.YtgdebfaoohjikaaVFnRecordsKept
import Derived.Test.YtgdebfaoohjikaaVFnRecordsApart
namespace Go.Proofs.Ytgdebfaoohjikaa.SQ
open Go.RowKit Go.Proofs.YtgdebfaoohjikaaW.PrintWords Go.Proofs.YtgdebfaoohjikaaW.PrintLast Go.Proofs.YtgdebfaoohjikaaW.PrintMore
section
variable {P : Program} {md : Region.Mode} {ops : Array Oper} {ds : List Nat} {S : World → Prop} {Q : Exit → Act → World → Prop} {oi : Oper} {v : Value} {fuel : Nat} {l : Array Bool} {a a' : Act} {w : World}
theorem p0 (i N : Nat) (h : wpAnyLast P md ops Q S ds fuel (l.setIfInBounds i true) a' w)
    (hk : anyB md ops l (l.setIfInBounds i true) i = true := by kernel_rfl) (hi : ops[i]? = some oi := by rfl) (hN : oi.dst = some N := by rfl) (hQ : ∀ c a w, Q (.panic c) (a.put oi.dst v) w → Q (.panic c) a w := by exact fun _ _ _ h => h)
    (hw : Region.wanted oi (yielded ops a.tmps) = true := by rfl) (hv : ∀ w', (execOp a.eval oi).run P w' = .ok (.value v) w' := by intro w'; go_simp; with_reducible rfl)
    (ha : a.put (some N) v = a' := by simp only [Act.put, List.setIfInBounds_toArray, List.set_cons_zero, List.set_cons_succ, i64_w, i32_w]; rfl) : wpAnyLast P md ops Q S ds (fuel + 1) l a w :=
  pure_ (l.setIfInBounds i true) hi hN hk hQ (.inl ⟨hw, hv⟩) ha h
theorem o0 (i N : Nat) (h : wpAnyLast P md ops Q S ds fuel (l.setIfInBounds i true) a' w)
    (hk : anyB md ops l (l.setIfInBounds i true) i = true := by kernel_rfl) (hi : ops[i]? = some oi := by rfl) (hN : oi.dst = some N := by rfl) (hQ : ∀ c a w, Q (.panic c) (a.put oi.dst undef) w → Q (.panic c) a w := by exact fun _ _ _ h => h)
    (hw : Region.wanted oi (yielded ops a.tmps) = false := by rfl)
    (ha : a.put (some N) undef = a' := by simp only [Act.put, List.setIfInBounds_toArray, List.set_cons_zero, List.set_cons_succ, i64_w, i32_w]; rfl) : wpAnyLast P md ops Q S ds (fuel + 1) l a w :=
  pure_ (l.setIfInBounds i true) hi hN hk hQ (.inr ⟨hw, rfl⟩) ha h
theorem t0 (i N : Nat) (hS : S w) (h : wpAnyLast P md ops Q S ds fuel (l.setIfInBounds i true) a' w)
    (hk : takeB md ops ds l (l.setIfInBounds i true) i = true := by kernel_rfl) (hi : ops[i]? = some oi := by rfl) (hN : oi.dst = some N := by rfl) (hQ : ∀ c a w, Q (.panic c) (a.put oi.dst v) w → Q (.panic c) a w := by exact fun _ _ _ h => h)
    (hw : Region.wanted oi (yielded ops a.tmps) = true := by rfl) (hv : ∀ w', S w' → (execOp a.eval oi).run P w' = .ok (.value v) w' := by intro w' hs_; go_simp; with_reducible rfl)
    (ha : a.put (some N) v = a' := by simp only [Act.put, List.setIfInBounds_toArray, List.set_cons_zero, List.set_cons_succ, i64_w, i32_w]; rfl) : wpAnyLast P md ops Q S ds (fuel + 1) l a w :=
  take_ (l.setIfInBounds i true) hi hN hk hQ (.inl ⟨hw, hv⟩) hS ha h
end
end Go.Proofs.Ytgdebfaoohjikaa.SQ

namespace Go.Proofs.Ytgdebfaoohjikaa.LW
set_option linter.unusedVariables false
set_option linter.unusedSimpArgs false
open Go.RowKit Go.Proofs.YtgdebfaoohjikaaW.PrintWords Go.Proofs.YtgdebfaoohjikaaW.PrintLast Go.Proofs.YtgdebfaoohjikaaW.PrintMore
structure It where
  P : World → Prop
  F : Nat → Prop
  mv : ∀ w w1 : World, (∀ k, F k → w1.heap[k]? = w.heap[k]?) → P w → P w1
def Its (w : World) (B n : Nat) : List It → Prop
  | [] => True
  | i :: r => (∀ k, i.F k → B ≤ k ∧ k < n) ∧ i.P w ∧ (∀ j, j ∈ r → ∀ k, i.F k → ¬ j.F k) ∧ Its w B n r
variable {w w0 w1 : World} {B B' n m g t e : Nat} {l : List It} {i : It} {cs : Array Value} {α : Type} {d : Kd α} {v : Value} {xs ys : List α} {F S ok : Nat → Prop}
theorem Its.mono (h : Its w B n l) (hB : B' ≤ B) (hn : n ≤ m) : Its w B' m l := by
  induction l with
  | nil => trivial
  | cons i r ih => exact ⟨fun k hk => ⟨Nat.le_trans hB (h.1 k hk).1, Nat.lt_of_lt_of_le (h.1 k hk).2 hn⟩, h.2.1, h.2.2.1, ih h.2.2.2⟩
theorem Its.all (h : Its w B n l) : ∀ j, j ∈ l → j.P w ∧ ∀ k, j.F k → B ≤ k ∧ k < n := by
  induction l with
  | nil => intro j hj; cases hj
  | cons i r ih =>
    intro j hj
    cases hj with
    | head => exact ⟨h.2.1, h.1⟩
    | tail _ hj => exact ih h.2.2.2 j hj
theorem Its.move (h : Its w B n l) (hm : ∀ j, j ∈ l → ∀ k, j.F k → w1.heap[k]? = w.heap[k]?) : Its w1 B n l := by
  induction l with
  | nil => trivial
  | cons i r ih => exact ⟨h.1, i.mv w w1 (hm i List.mem_cons_self) h.2.1, h.2.2.1, ih h.2.2.2 (fun j hj => hm j (List.mem_cons_of_mem _ hj))⟩
theorem Its.app {l' : List It} (h' : Its w B' n l') (h : Its w B B' l) (hB : B ≤ B') (hn : B' ≤ n) : Its w B n (l' ++ l) := by
  induction l' with
  | nil => exact h.mono (Nat.le_refl _) hn
  | cons i r ih =>
    refine ⟨fun k hk => ⟨Nat.le_trans hB (h'.1 k hk).1, (h'.1 k hk).2⟩, h'.2.1, fun j hj k hk => ?_, ih h'.2.2.2⟩
    rcases List.mem_append.1 hj with hj | hj
    · exact h'.2.2.1 j hj k hk
    intro hf
    have h1 := (h'.1 k hk).1
    have h2 := ((h.all j hj).2 k hf).2
    omega
theorem Its.write (h : Its w B n l) (i' : It) (hF : ∀ k, i'.F k → i.F k) (hP : i'.P w1) (hk : ∀ k, k < n → ¬ i.F k → w1.heap[k]? = w.heap[k]?) : ∀ q, l[q]? = some i → Its w1 B n (l.set q i') := by
  induction l with
  | nil => intro q hq; simp at hq
  | cons j r ih =>
    intro q hq
    cases q with
    | zero =>
      simp only [List.getElem?_cons_zero, Option.some.injEq] at hq
      subst hq
      exact ⟨fun k hk' => h.1 k (hF k hk'), hP, fun x hx k hk' => h.2.2.1 x hx k (hF k hk'), h.2.2.2.move (fun x hx k hk' => hk k ((h.2.2.2.all x hx).2 k hk').2 (fun hi => h.2.2.1 x hx k hi hk'))⟩
    | succ q =>
      rw [List.getElem?_cons_succ] at hq
      have hm := List.mem_of_getElem? hq
      refine ⟨h.1, j.mv w w1 (fun k hk' => hk k (h.1 k hk').2 (fun hi => h.2.2.1 i hm k hk' hi)) h.2.1, fun x hx k hk' => ?_, ih h.2.2.2 q hq⟩
      rcases List.mem_or_eq_of_mem_set hx with hx | rfl
      · exact h.2.2.1 x hx k hk'
      exact fun hi => h.2.2.1 i hm k hk' (hF k hi)
def box (g : Nat) (cs : Array Value) (t : Nat) : It := ⟨fun w => w.heap[g]? = some (.cells cs t (0, 0)), fun k => k = g, fun _ _ hk h => (hk g rfl).trans h⟩
def row {α : Type} (d : Kd α) (e B : Nat) (v : Value) (xs : List α) (F : Nat → Prop) : It := ⟨fun w => Kd.S d e w B F v xs, F, fun _ _ hk h => Kd.S_move h hk⟩
structure St (w0 w : World) (l : List It) : Prop where
  b : Below w0.heap.size w0 w
  i : Its w w0.heap.size w.heap.size l
theorem St.start (w : World) : St w w [] := ⟨Below.refl _ _, trivial⟩
theorem St.step (h : St w0 w l) (hb : Below w.heap.size w w1) : St w0 w1 l :=
  ⟨below_step h.b hb, (h.i.move (fun j hj k hk => hb.block k ((h.i.all j hj).2 k hk).2)).mono (Nat.le_refl _) hb.size⟩
theorem St.drew (h : St w0 w l) : St w0 w.drew l := h.step (below_drew (Below.refl _ _))
theorem St.add (h : St w0 w l) (hb : Below w.heap.size w w1) {l' : List It} (hn : Its w1 w.heap.size w1.heap.size l') : St w0 w1 (l' ++ l) :=
  ⟨below_step h.b hb, hn.app (h.i.move (fun j hj k hk => hb.block k ((h.i.all j hj).2 k hk).2)) h.b.size hb.size⟩
theorem St.box (h : St w0 w l) (hg : g = w.heap.size) (hx : w1.heap[g]? = some (.cells cs t (0, 0))) (hb : Below w.heap.size w w1) : St w0 w1 (box g cs t :: l) :=
  h.add hb (l' := [LW.box g cs t]) ⟨fun k hk => by have : k = g := hk; subst this; exact ⟨by omega, blk_lt hx⟩, hx, fun j hj => (List.not_mem_nil hj).elim, trivial⟩
theorem St.alloc (h : St w0 w l) (cs : Array Value) (t : Nat) (hg : g = w.heap.size) : St w0 (w.alloc (.cells cs t)) (LW.box g cs t :: l) := h.box hg (by subst hg; simpa using blk_new w (.cells cs t)) (below_alloc (Below.refl _ _) _)
theorem St.lt (h : St w0 w l) (q : Nat) (hq : l[q]? = some (LW.box g cs t)) : g < w.heap.size := blk_lt (h.i.all _ (List.mem_of_getElem? hq)).1
theorem S_between (h : Kd.S d e w1 w.heap.size ok v xs) (h0 : w0.heap.size ≤ w.heap.size) : Kd.S d e w1 w0.heap.size (fun k => w.heap.size ≤ k ∧ k < w1.heap.size) v xs := Kd.S_lower (Kd.S_mono (Kd.S_bound h) (fun k hk => ⟨hk.2.1, hk.2.2.1⟩)) h0
theorem St.row (h : St w0 w l) (hb : Below w.heap.size w w1) (ho : Kd.S d e w1 w.heap.size ok v xs) : St w0 w1 (row d e w0.heap.size v xs (fun k => w.heap.size ≤ k ∧ k < w1.heap.size) :: l) :=
  h.add hb (l' := [LW.row d e w0.heap.size v xs (fun k => w.heap.size ≤ k ∧ k < w1.heap.size)]) ⟨fun k hk => hk, S_between ho h.b.size, fun j hj => (List.not_mem_nil hj).elim, trivial⟩
theorem S_flat (hE : d.E = []) (h : d.R e w B ok v xs) : Kd.S d e w B ok v xs := by
  obtain ⟨h0, inner, ho, hr⟩ := h
  refine ⟨fun _ => 0, h0, inner, by rw [List.length_zipIdx]; exact ho, by rw [List.length_zipIdx]; exact hr.1, fun j p hj => ?_⟩
  rw [List.getElem?_zipIdx, Nat.zero_add] at hj
  obtain ⟨x, hx, rfl⟩ := Option.map_eq_some_iff.1 hj
  refine d.M_mono (fun k hk => ?_) (d.M_bound (hr.2 j x hx))
  obtain ⟨_, _, _, q, hq, _⟩ := hk
  rw [hE] at hq
  cases hq
theorem St.rowR (h : St w0 w l) (hE : d.E = []) (hb : Below w.heap.size w w1) (ho : d.R e w1 w.heap.size ok v xs) : St w0 w1 (LW.row d e w0.heap.size v xs (fun k => w.heap.size ≤ k ∧ k < w1.heap.size) :: l) := h.row hb (S_flat hE ho)
theorem St.rows2 {β : Type} {d' : Kd β} {e' : Nat} {v' : Value} {ys : List β} {ok' : Nat → Prop} (h : St w0 w l) (hE : d.E = []) (hE' : d'.E = []) (hne : e ≠ e') (hb : Below w.heap.size w w1) (ho : d.R e w1 w.heap.size ok v xs) (ho' : d'.R e' w1 w.heap.size ok' v' ys) :
    St w0 w1 (LW.row d e w0.heap.size v xs (fun k => some k = v.ownBlock) :: LW.row d' e' w0.heap.size v' ys (fun k => some k = v'.ownBlock) :: l) :=
  h.add hb (l' := [_, _]) ⟨fun k hk => ⟨Kd.R_base ho k hk.symm, Kd.R_lt ho k hk.symm⟩, S_flat hE (Kd.R_lower (Kd.R_tight hE ho) h.b.size), fun j hj k hk hf => by
      rcases List.mem_singleton.1 hj with rfl
      obtain ⟨c1, h1⟩ := Kd.R_typed ho k hk.symm
      obtain ⟨c2, h2⟩ := Kd.R_typed ho' k (show v'.ownBlock = some k from Eq.symm hf)
      rw [h1] at h2
      injection h2 with h2
      injection h2 with _ h2
      exact hne h2, fun k hk => ⟨Kd.R_base ho' k hk.symm, Kd.R_lt ho' k hk.symm⟩, S_flat hE' (Kd.R_lower (Kd.R_tight hE' ho') h.b.size), fun j hj => (List.not_mem_nil hj).elim, trivial⟩
theorem setCell_size (w : World) (p : Addr) (u : Value) : (w.setCell p u).heap.size = w.heap.size := by simp [World.setCell]
theorem St.set (h : St w0 w l) (q : Nat) (hq : l[q]? = some (LW.box g cs t)) (j : Nat) (u : Value) : St w0 (w.setCell ⟨g, j, none⟩ u) (l.set q (LW.box g (cs.setIfInBounds j u) t)) := by
  have hx := h.i.all _ (List.mem_of_getElem? hq)
  refine ⟨below_set h.b (hx.2 g rfl).1, ?_⟩
  rw [setCell_size]
  exact h.i.write (i := LW.box g cs t) (LW.box g (cs.setIfInBounds j u) t) (fun k hk => hk) (blk_set hx.1 j u) (fun k _ hk => Below.heap_setCell w ⟨g, j, none⟩ u k hk) q hq
theorem St.cell (h : St w0 w l) (q : Nat) (hq : l[q]? = some (LW.box g cs t)) (j : Nat) {u : Value} (hu : cs[j]? = some u) : w.cell? ⟨g, j, none⟩ = some u := (blk_cell (h.i.all _ (List.mem_of_getElem? hq)).1 j).trans hu
theorem St.blk (h : St w0 w l) (q : Nat) (hq : l[q]? = some (LW.box g cs t)) : w.heap[g]? = some (.cells cs t (0, 0)) := (h.i.all _ (List.mem_of_getElem? hq)).1
theorem St.frozen (h : St w0 w l) (q : Nat) (hq : l[q]? = some (LW.box g cs t)) (j : Nat) : w.frozen? ⟨g, j, none⟩ = false := blk_frozen (h.i.all _ (List.mem_of_getElem? hq)).1 j
theorem St.own (h : St w0 w l) (q : Nat) (hq : l[q]? = some (LW.row d e B v xs F)) : Kd.S d e w B F v xs := (h.i.all _ (List.mem_of_getElem? hq)).1
theorem St.reads {A : Option Addr} {m c : Nat} (h : St w0 w l) (q : Nat) (hq : l[q]? = some (LW.row d e B (.slice A m c) xs F)) : m = xs.length ∧ m ≤ c ∧ d.C w A xs.length xs := Kd.S_reads' (h.own q hq)
theorem St.write (h : St w0 w l) (q : Nat) (hq : l[q]? = some (LW.row d e w0.heap.size v xs F)) (hS : Kd.S d e w1 w0.heap.size F v ys) (hB : Below w0.heap.size w0 w1) (hk : Kept w w1 F) : St w0 w1 (l.set q (LW.row d e w0.heap.size v ys F)) := by
  have hx := h.i.all _ (List.mem_of_getElem? hq)
  exact ⟨hB, (h.i.write (i := LW.row d e w0.heap.size v xs F) (LW.row d e w0.heap.size v ys F) (fun k hk => hk) hS (fun k hlt hn => hk.2 k hlt hn) q hq).mono (Nat.le_refl _) hk.1⟩
theorem Its.disj : ∀ {l : List It}, Its w B n l → ∀ (p q : Nat) (i j : It), p ≠ q → l[p]? = some i → l[q]? = some j → ∀ k, i.F k → ¬ j.F k
  | [], _, p, q, i, j, _, hi, _ => by simp at hi
  | a :: r, h, 0, 0, i, j, hn, _, _ => absurd rfl hn
  | a :: r, h, 0, q + 1, i, j, hn, hi, hj => by
    rw [List.getElem?_cons_succ] at hj
    simp only [List.getElem?_cons_zero, Option.some.injEq] at hi
    subst hi
    exact h.2.2.1 j (List.mem_of_getElem? hj)
  | a :: r, h, p + 1, 0, i, j, hn, hi, hj => by
    rw [List.getElem?_cons_succ] at hi
    simp only [List.getElem?_cons_zero, Option.some.injEq] at hj
    subst hj
    exact fun k hk hf => h.2.2.1 i (List.mem_of_getElem? hi) k hf hk
  | a :: r, h, p + 1, q + 1, i, j, hn, hi, hj => by
    rw [List.getElem?_cons_succ] at hi hj
    exact Its.disj h.2.2.2 p q i j (by omega) hi hj
def gone : It := ⟨fun _ => True, fun _ => False, fun _ _ _ _ => trivial⟩
theorem Its.of : ∀ {l : List It}, (∀ (q : Nat) (i : It), l[q]? = some i → (∀ k, i.F k → B ≤ k ∧ k < n) ∧ i.P w) → (∀ (p q : Nat) (i j : It), p < q → l[p]? = some i → l[q]? = some j → ∀ k, i.F k → ¬ j.F k) → Its w B n l
  | [], _, _ => trivial
  | a :: r, h1, h2 => ⟨(h1 0 a rfl).1, (h1 0 a rfl).2, fun j hj => by
      obtain ⟨q, hq⟩ := List.mem_iff_getElem?.1 hj
      exact h2 0 (q + 1) a j (by omega) rfl (by rw [List.getElem?_cons_succ]; exact hq), Its.of (fun q i hq => h1 (q + 1) i (by rw [List.getElem?_cons_succ]; exact hq)) (fun p q i j hpq hp hq => h2 (p + 1) (q + 1) i j (by omega) (by rw [List.getElem?_cons_succ]; exact hp) (by rw [List.getElem?_cons_succ]; exact hq))⟩
end Go.Proofs.Ytgdebfaoohjikaa.LW

namespace Go.Proofs.Ytgdebfaoohjikaa.LW
open Go.RowKit Go.Proofs.YtgdebfaoohjikaaW.PrintWords Go.Proofs.YtgdebfaoohjikaaW.PrintLast Go.Proofs.YtgdebfaoohjikaaW.PrintMore
set_option linter.unusedVariables false
set_option linter.unusedSimpArgs false
theorem St.sel {w0 w : World} {l : List It} (h : St w0 w l) (f : List Nat) (hn : f.Nodup) : St w0 w (f.map fun n => l.getD n gone) := by
  have look : ∀ (q : Nat) (i : It), (f.map fun n => l.getD n gone)[q]? = some i → ∃ hq : q < f.length, (i = gone ∨ l[f[q]]? = some i) := fun q i hq => by
    rw [List.getElem?_map] at hq
    obtain ⟨n, hn, rfl⟩ := Option.map_eq_some_iff.1 hq
    obtain ⟨hlt, rfl⟩ := List.getElem?_eq_some_iff.1 hn
    refine ⟨hlt, ?_⟩
    rw [List.getD_eq_getElem?_getD]
    cases e : l[f[q]]? with
    | none => exact .inl rfl
    | some i => exact .inr rfl
  refine ⟨h.b, Its.of (fun q i hq => ?_) (fun p q i j hpq hp hq k hk hf => ?_)⟩
  · obtain ⟨_, rfl | hi⟩ := look q i hq
    · exact ⟨fun k hk => hk.elim, trivial⟩
    exact ⟨(h.i.all i (List.mem_of_getElem? hi)).2, (h.i.all i (List.mem_of_getElem? hi)).1⟩
  obtain ⟨h1, rfl | hi⟩ := look p i hp
  · exact hk
  obtain ⟨h2, rfl | hj⟩ := look q j hq
  · exact hf
  exact Its.disj h.i _ _ i j (List.pairwise_iff_getElem.1 hn p q h1 h2 hpq) hi hj k hk hf
end Go.Proofs.Ytgdebfaoohjikaa.LW
