/- Merged texts below the law FnExactPlayDisk: Go functions as Lean functions, their contracts, and plain lemmas. -/
import Derived.Test.YtmgeffgcihfpcaaDoorVFnExactPlayDiskMore
import Derived.Test.YtmgeffgcihfpcaaDoorVFnExactPlayDiskFoot
import Derived.Test.YtmgeffgcihfpcaaDoorVFnExactPlayDiskKept
import Derived.Test.YtmgeffgcihfpcaaDoorVFnExactPlayDiskApart
namespace Go.Proofs.YtmgeffgcihfpcaaDoor.AP
open Go.RowKit Go.Proofs.YtmgeffgcihfpcaaDoorW.PrintWords Go.Proofs.YtmgeffgcihfpcaaDoorW.PrintLast Go.Proofs.YtmgeffgcihfpcaaDoorW.PrintMore
set_option linter.unusedVariables false
def apair {α β : Type} (a : Kd α) (b : Kd β) : Kd (α × β) where
  sz := a.sz + b.sz
  E := a.E ++ b.E
  K := fun w x cs => ∃ c0 c1, cs = c0 ++ c1 ∧ a.K w x.1 c0 ∧ b.K w x.2 c1
  M := fun w base ok x cs => ∃ c0 c1, cs = c0 ++ c1 ∧ ∃ p : Nat → Prop, a.M w base (fun k => ok k ∧ p k) x.1 c0 ∧ b.M w base (fun k => ok k ∧ ¬ p k) x.2 c1
  K_len := by
    rintro w x cs ⟨c0, c1, rfl, h0, h1⟩
    rw [List.length_append, a.K_len h0, b.K_len h1]
  K_one := by
    rintro w x cs ⟨c0, c1, rfl, h0, h1⟩ u hu
    rcases List.mem_append.1 hu with hu | hu
    · exact a.K_one h0 u hu
    exact b.K_one h1 u hu
  K_below := by
    rintro w w1 x cs hb ⟨c0, c1, rfl, h0, h1⟩
    exact ⟨c0, c1, rfl, a.K_below hb h0, b.K_below hb h1⟩
  K_of_M := by
    rintro w base ok x cs ⟨c0, c1, rfl, p, h0, h1⟩
    exact ⟨c0, c1, rfl, a.K_of_M h0, b.K_of_M h1⟩
  M_mono := by
    rintro w base ok ok' x cs hok ⟨c0, c1, rfl, p, h0, h1⟩
    exact ⟨c0, c1, rfl, p, a.M_mono (fun k hk => ⟨hok k hk.1, hk.2⟩) h0, b.M_mono (fun k hk => ⟨hok k hk.1, hk.2⟩) h1⟩
  M_bound := by
    rintro w base ok x cs ⟨c0, c1, rfl, p, h0, h1⟩
    refine ⟨c0, c1, rfl, p, a.M_mono ?_ (a.M_bound h0), b.M_mono ?_ (b.M_bound h1)⟩
    · rintro k ⟨⟨h2, hp⟩, h3, h4, q, hq, hc⟩
      exact ⟨⟨h2, h3, h4, q, List.mem_append_left _ hq, hc⟩, hp⟩
    rintro k ⟨⟨h2, hp⟩, h3, h4, q, hq, hc⟩
    exact ⟨⟨h2, h3, h4, q, List.mem_append_right _ hq, hc⟩, hp⟩
  M_move := by
    rintro w w1 base ok x cs hm ⟨c0, c1, rfl, p, h0, h1⟩
    exact ⟨c0, c1, rfl, p, a.M_move (fun k hk => hm k hk.1) h0, b.M_move (fun k hk => hm k hk.1) h1⟩
  M_lower := by
    rintro w base base' ok x cs hb ⟨c0, c1, rfl, p, h0, h1⟩
    exact ⟨c0, c1, rfl, p, a.M_lower hb h0, b.M_lower hb h1⟩
theorem ne_of {α β : Type} {d : Kd α} {d' : Kd β} {e e' base base' : Nat} {w w' : World} {ok ok' : Nat → Prop} {v v' : Value} {xs : List α} {ys : List β} (h : d.R e w base ok v xs) (h' : d'.R e' w' base' ok' v' ys)
    (hne : (∀ k, ok k → some k ≠ v'.ownBlock) ∨ (∀ k, ok' k → some k ≠ v.ownBlock)) : ∀ k, some k = v.ownBlock → ¬ some k = v'.ownBlock := by
  intro k hk hk'
  rcases hne with hne | hne
  · exact hne k (h.1 k hk.symm) hk'
  exact hne k (h'.1 k hk'.symm) hk
theorem ne_nil {v' : Value} : ∀ k, some k = (Value.slice none 0 0).ownBlock → ¬ some k = v'.ownBlock := fun k hk => by simp [Value.ownBlock] at hk
theorem nil_ne {v : Value} : ∀ k, some k = v.ownBlock → ¬ some k = (Value.slice none 0 0).ownBlock := fun k _ hk => by simp [Value.ownBlock] at hk
theorem split_of {α β : Type} {d : Kd α} {d' : Kd β} {e e' base : Nat} {w : World} {ok : Nat → Prop} {v v' : Value} {xs : List α} {ys : List β} (hE : d.E = []) (hE' : d'.E = []) (h : d.R e w base ok v xs) (h' : d'.R e' w base ok v' ys) (hne : ∀ k, some k = v.ownBlock → ¬ some k = v'.ownBlock) :
    d.R e w base (fun k => ok k ∧ some k = v.ownBlock) v xs ∧ d'.R e' w base (fun k => ok k ∧ ¬ some k = v.ownBlock) v' ys :=
  ⟨Kd.R_mono (Kd.R_tight hE h) (fun k hk => ⟨h.1 k hk.symm, hk⟩), Kd.R_mono (Kd.R_tight hE' h') (fun k hk => ⟨h'.1 k hk.symm, fun hk2 => hne k hk2 hk⟩)⟩
end Go.Proofs.YtmgeffgcihfpcaaDoor.AP
