/- Merged texts below the law FnFiles: Go functions as Lean functions, their contracts, and plain lemmas. -/
import Derived.Test.YtmgeffgcihfpcaaDoorVFnFilesMore
import Derived.WalkKit
import Derived.Test.YtmgeffgcihfpcaaDoorVFnFilesFoot
import Derived.Test.YtmgeffgcihfpcaaDoorVFnFilesKept
import Derived.Test.YtmgeffgcihfpcaaDoorVFnFilesApart
namespace Go.Proofs.YtmgeffgcihfpcaaDoor.SQ
open Go.RowKit Go.Proofs.YtmgeffgcihfpcaaDoorW.PrintWords Go.Proofs.YtmgeffgcihfpcaaDoorW.PrintLast Go.Proofs.YtmgeffgcihfpcaaDoorW.PrintMore
section
variable {P : Program} {md : Region.Mode} {ops : Array Oper} {ds : List Nat} {S : World → Prop} {Q : Exit → Act → World → Prop} {oi : Oper} {v : Value} {fuel : Nat} {l : Array Bool} {a a' : Act} {w : World}
theorem p0 (i N : Nat) (h : wpAnyLast P md ops Q S ds fuel (l.setIfInBounds i true) a' w)
    (hk : anyB md ops l (l.setIfInBounds i true) i = true := by kernel_rfl) (hi : ops[i]? = some oi := by rfl) (hN : oi.dst = some N := by rfl) (hQ : ∀ c a w, Q (.panic c) (a.put oi.dst v) w → Q (.panic c) a w := by exact fun _ _ _ h => h)
    (hw : Region.wanted oi (yielded ops a.tmps) = true := by rfl) (hv : ∀ w', (execOp a.eval oi).run P w' = .ok (.value v) w' := by intro w'; go_simp; with_reducible rfl)
    (ha : a.put (some N) v = a' := by simp only [Act.put, List.setIfInBounds_toArray, List.set_cons_zero, List.set_cons_succ, i64_w, i32_w]; rfl) : wpAnyLast P md ops Q S ds (fuel + 1) l a w :=
  pure_ (l.setIfInBounds i true) hi hN hk hQ (.inl ⟨hw, hv⟩) ha h
theorem o0 (i N : Nat) (h : wpAnyLast P md ops Q S ds fuel (l.setIfInBounds i true) a' w)
    (hk : anyB md ops l (l.setIfInBounds i true) i = true := by kernel_rfl) (hi : ops[i]? = some oi := by rfl) (hN : oi.dst = some N := by rfl) (hQ : ∀ c a w, Q (.panic c) (a.put oi.dst undef) w → Q (.panic c) a w := by exact fun _ _ _ h => h)
    (hw : Region.wanted oi (yielded ops a.tmps) = false := by rfl)
    (ha : a.put (some N) undef = a' := by simp only [Act.put, List.setIfInBounds_toArray, List.set_cons_zero, List.set_cons_succ, i64_w, i32_w]; rfl) : wpAnyLast P md ops Q S ds (fuel + 1) l a w :=
  pure_ (l.setIfInBounds i true) hi hN hk hQ (.inr ⟨hw, rfl⟩) ha h
theorem t0 (i N : Nat) (hS : S w) (h : wpAnyLast P md ops Q S ds fuel (l.setIfInBounds i true) a' w)
    (hk : takeB md ops ds l (l.setIfInBounds i true) i = true := by kernel_rfl) (hi : ops[i]? = some oi := by rfl) (hN : oi.dst = some N := by rfl) (hQ : ∀ c a w, Q (.panic c) (a.put oi.dst v) w → Q (.panic c) a w := by exact fun _ _ _ h => h)
    (hw : Region.wanted oi (yielded ops a.tmps) = true := by rfl) (hv : ∀ w', S w' → (execOp a.eval oi).run P w' = .ok (.value v) w' := by intro w' hs_; go_simp; with_reducible rfl)
    (ha : a.put (some N) v = a' := by simp only [Act.put, List.setIfInBounds_toArray, List.set_cons_zero, List.set_cons_succ, i64_w, i32_w]; rfl) : wpAnyLast P md ops Q S ds (fuel + 1) l a w :=
  take_ (l.setIfInBounds i true) hi hN hk hQ (.inl ⟨hw, hv⟩) hS ha h
end
end Go.Proofs.YtmgeffgcihfpcaaDoor.SQ

namespace Go.Proofs.YtmgeffgcihfpcaaDoor.AP
open Go.RowKit Go.Proofs.YtmgeffgcihfpcaaDoorW.PrintWords Go.Proofs.YtmgeffgcihfpcaaDoorW.PrintLast Go.Proofs.YtmgeffgcihfpcaaDoorW.PrintMore
set_option linter.unusedVariables false
def apair {α β : Type} (a : Kd α) (b : Kd β) : Kd (α × β) where
  sz := a.sz + b.sz
  E := a.E ++ b.E
  K := fun w x cs => ∃ c0 c1, cs = c0 ++ c1 ∧ a.K w x.1 c0 ∧ b.K w x.2 c1
  M := fun w base ok x cs => ∃ c0 c1, cs = c0 ++ c1 ∧ ∃ p : Nat → Prop, a.M w base (fun k => ok k ∧ p k) x.1 c0 ∧ b.M w base (fun k => ok k ∧ ¬ p k) x.2 c1
  K_len := by
    rintro w x cs ⟨c0, c1, rfl, h0, h1⟩
    rw [List.length_append, a.K_len h0, b.K_len h1]
  K_one := by
    rintro w x cs ⟨c0, c1, rfl, h0, h1⟩ u hu
    rcases List.mem_append.1 hu with hu | hu
    · exact a.K_one h0 u hu
    exact b.K_one h1 u hu
  K_below := by
    rintro w w1 x cs hb ⟨c0, c1, rfl, h0, h1⟩
    exact ⟨c0, c1, rfl, a.K_below hb h0, b.K_below hb h1⟩
  K_of_M := by
    rintro w base ok x cs ⟨c0, c1, rfl, p, h0, h1⟩
    exact ⟨c0, c1, rfl, a.K_of_M h0, b.K_of_M h1⟩
  M_mono := by
    rintro w base ok ok' x cs hok ⟨c0, c1, rfl, p, h0, h1⟩
    exact ⟨c0, c1, rfl, p, a.M_mono (fun k hk => ⟨hok k hk.1, hk.2⟩) h0, b.M_mono (fun k hk => ⟨hok k hk.1, hk.2⟩) h1⟩
  M_bound := by
    rintro w base ok x cs ⟨c0, c1, rfl, p, h0, h1⟩
    refine ⟨c0, c1, rfl, p, a.M_mono ?_ (a.M_bound h0), b.M_mono ?_ (b.M_bound h1)⟩
    · rintro k ⟨⟨h2, hp⟩, h3, h4, q, hq, hc⟩
      exact ⟨⟨h2, h3, h4, q, List.mem_append_left _ hq, hc⟩, hp⟩
    rintro k ⟨⟨h2, hp⟩, h3, h4, q, hq, hc⟩
    exact ⟨⟨h2, h3, h4, q, List.mem_append_right _ hq, hc⟩, hp⟩
  M_move := by
    rintro w w1 base ok x cs hm ⟨c0, c1, rfl, p, h0, h1⟩
    exact ⟨c0, c1, rfl, p, a.M_move (fun k hk => hm k hk.1) h0, b.M_move (fun k hk => hm k hk.1) h1⟩
  M_lower := by
    rintro w base base' ok x cs hb ⟨c0, c1, rfl, p, h0, h1⟩
    exact ⟨c0, c1, rfl, p, a.M_lower hb h0, b.M_lower hb h1⟩
theorem ne_of {α β : Type} {d : Kd α} {d' : Kd β} {e e' base base' : Nat} {w w' : World} {ok ok' : Nat → Prop} {v v' : Value} {xs : List α} {ys : List β} (h : d.R e w base ok v xs) (h' : d'.R e' w' base' ok' v' ys)
    (hne : (∀ k, ok k → some k ≠ v'.ownBlock) ∨ (∀ k, ok' k → some k ≠ v.ownBlock)) : ∀ k, some k = v.ownBlock → ¬ some k = v'.ownBlock := by
  intro k hk hk'
  rcases hne with hne | hne
  · exact hne k (h.1 k hk.symm) hk'
  exact hne k (h'.1 k hk'.symm) hk
theorem nil_ne {v : Value} : ∀ k, some k = v.ownBlock → ¬ some k = (Value.slice none 0 0).ownBlock := fun k _ hk => by simp [Value.ownBlock] at hk
theorem split_of {α β : Type} {d : Kd α} {d' : Kd β} {e e' base : Nat} {w : World} {ok : Nat → Prop} {v v' : Value} {xs : List α} {ys : List β} (hE : d.E = []) (hE' : d'.E = []) (h : d.R e w base ok v xs) (h' : d'.R e' w base ok v' ys) (hne : ∀ k, some k = v.ownBlock → ¬ some k = v'.ownBlock) :
    d.R e w base (fun k => ok k ∧ some k = v.ownBlock) v xs ∧ d'.R e' w base (fun k => ok k ∧ ¬ some k = v.ownBlock) v' ys :=
  ⟨Kd.R_mono (Kd.R_tight hE h) (fun k hk => ⟨h.1 k hk.symm, hk⟩), Kd.R_mono (Kd.R_tight hE' h') (fun k hk => ⟨h'.1 k hk.symm, fun hk2 => hne k hk2 hk⟩)⟩
end Go.Proofs.YtmgeffgcihfpcaaDoor.AP
