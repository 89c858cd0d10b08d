/- Merged texts below the law FnExactWalCount: Go functions as Lean functions, their contracts, and plain lemmas. -/
import Derived.Test.YtcgojdhbphocgaaDoorVFnExactWalCountR
import Derived.Test.YtcgojdhbphocgaaDoorQFnExactWalCount25
import Derived.Test.YtcgojdhbphocgaaDoorQFnExactWalCount23
import Derived.Deep.Slices
import Derived.ChangeSame
import Derived.WideShapes
namespace Go.Proofs.YtcgojdhbphocgaaDoor.Pure
set_option linter.unusedVariables false
set_option linter.unusedSimpArgs false
open Go.RowKit Go.Proofs.YtcgojdhbphocgaaDoor.F Go.Proofs.YtcgojdhbphocgaaDoor.PK Go.Proofs.YtcgojdhbphocgaaDoorW.PrintWords Go.Proofs.YtcgojdhbphocgaaDoorW.PrintLast
open Go.Proofs.YtcgojdhbphocgaaDoor.DK Go.Proofs.YtcgojdhbphocgaaDoor.BY Go.Proofs.YtcgojdhbphocgaaDoor.SC
theorem FnExactWalCount (l0_0 : List (S83)) (hw0 : l0_0.length ≤ 9223372036854775807 ∧ ∀ y_ ∈ l0_0, ((y_.f0.size ≤ 9223372036854775807) ∧ (y_.f1.length ≤ 9223372036854775807 ∧ ∀ z_ ∈ y_.f1, ((Lit.int .u8 z_).wf = true)) ∧ (y_.f2.length ≤ 9223372036854775807 ∧ ∀ z_ ∈ y_.f2, ((Lit.int .u8 z_).wf = true)))) : ∃ k, laws_FnExactWalCount.f k l0_0 = some true := by
  refine EvE ?_
  unfold laws_FnExactWalCount.f
  obtain ⟨t, h1, h3⟩ := szDisk l0_0 hw0.1 (fun y hy => ⟨(hw0.2 y hy).1, (hw0.2 y hy).2.1.1, (hw0.2 y hy).2.2.1⟩)
  simp only [EvB h1]
  by_cases h : t < 0
  · simp only [if_pos h]; exact EvN
  have h3 := h3 (by omega)
  have hT := toDisk l0_0 h3.1 h3.2
  have hw : wfD (l0_0.map conv83) := fun r hr => by
    obtain ⟨y, hy, rfl⟩ := List.mem_map.1 hr
    exact ⟨(hw0.2 y hy).1, h3.2 y hy⟩
  have hB : wfB (l0_0.map conv83) := fun r hr => by
    obtain ⟨y, hy, rfl⟩ := List.mem_map.1 hr
    exact ⟨byt_of (hw0.2 y hy).2.1.2, byt_of (hw0.2 y hy).2.2.2⟩
  have hl : (l0_0.map conv83).length ≤ 1048576 := by rw [List.length_map]; exact h3.1
  generalize l0_0.map conv83 = l at hT hw hl hB
  have hS : Ev (fun k => spec_WalCount.f k l) (if (walM l).2.2 = 0 then ((walM l).1.length : Int) else -1) := by
    unfold spec_WalCount.f
    refine (EvB (spec_walRead l hl hw hB)).2 ?_
    by_cases g : (walM l).2.2 = 0
    · simp only [if_pos g]; exact EvN
    · simp only [if_neg g]; exact EvN
  have hI : Ev (fun k => impl_WalCount.f k l) (if (walM l).2.2 = 0 then ((walM l).1.length : Int) else -1) := by
    unfold impl_WalCount.f
    refine (EvB (impl_walRead' l hl hw hB)).2 ?_
    by_cases g : (walM l).2.2 = 0
    · simp only [if_pos g]; exact EvN
    · simp only [if_neg g]; exact EvN
  have hE := eqDisk l (by omega) (fun y hy => by have := hw y hy; omega)
  simp only [if_neg h, EvB hT, EvB hS, EvB hI, EvB hE, if_true]
  exact EvN
end Go.Proofs.YtcgojdhbphocgaaDoor.Pure

namespace Go.Proofs.YtcgojdhbphocgaaDoor.Opens
set_option linter.unusedVariables false
set_option linter.unusedSimpArgs false
open Go.RowKit Go.Proofs.YtcgojdhbphocgaaDoorW.PrintWords
def Opens (P : Program) (t : TypeId) {α : Type} (d : Kd α) (ok : α → Prop) : Prop :=
  P.cellsOf t = d.sz ∧ ∀ (H : Type) (enc : TypeId × Value → H) (w : World) (spare : Nat → Bool) (fuel : Nat) (cs : List Value) (x : DataW H × List MemPlace), DataW.trod enc P w 0 spare true fuel t cs = some x → ∃ a : α, d.K w a cs ∧ ok a
variable {P : Program}
theorem opens_int {t : TypeId} {k : IntKind} (ht : P.underlying t = some (.int k)) (hc : P.cellsOf t = 1) : Opens P t (Kd.int k) (fun a => (Lit.int k a).wf = true) :=
  ⟨hc, fun _ _ _ _ _ _ _ h => by
    obtain ⟨n, rfl, _, hw⟩ := DataW.trod_int ht h
    exact ⟨n, rfl, hw⟩⟩
theorem opens_string {t : TypeId} (ht : P.underlying t = some .string) (hc : P.cellsOf t = 1) : Opens P t Kd.string (fun a => a.size ≤ 9223372036854775807) :=
  ⟨hc, fun _ _ _ _ _ _ _ h => by
    obtain ⟨n, rfl, _, hw⟩ := DataW.trod_string ht h
    exact ⟨n, rfl, hw⟩⟩
theorem add_add (a : Addr) (i j : Nat) : (a.add i).add j = a.add (i + j) := by
  unfold Addr.add
  by_cases hi : i = 0 <;> by_cases hj : j = 0 <;> simp [hi, hj, Nat.add_assoc]
theorem opens_slice {t e : TypeId} {α : Type} {d : Kd α} {ok : α → Prop} (ht : P.underlying t = some (.slice e)) (hc : P.cellsOf t = 1) (hd : Opens P e d ok) :
    Opens P t (Kd.slice e d) (fun l => l.length ≤ 9223372036854775807 ∧ ∀ a ∈ l, ok a) :=
  ⟨hc, fun H enc w spare fuel cs x h => by
    rcases Deep.open_slice ht h with ⟨rfl, _⟩ | ⟨a, len, cap, m, n, D, Pl, rfl, _, hl, hm, hmm, hxx, hx⟩
    · exact ⟨[], ⟨none, 0, rfl, Nat.le_refl _, rfl, Nat.zero_le _, fun h => absurd h (Nat.lt_irrefl _)⟩, Nat.zero_le _, fun _ h => nomatch h⟩
    · have hlm : len ≤ m := by rw [hmm]; split <;> omega
      have hex : ∀ i, i < len → ∃ b : α, ∃ cs', w.cells? 0 (a.add (i * P.cellsOf e)) (P.cellsOf e) = some cs' ∧ d.K w b cs' ∧ ok b := fun i hi => by
        obtain ⟨cs', h1, h2⟩ := hx i (Nat.lt_of_lt_of_le hi hlm)
        obtain ⟨b, hb⟩ := hd.2 H enc w spare n cs' _ h2
        exact ⟨b, cs', h1, hb.1, hb.2⟩
      have hml : len ≤ 9223372036854775807 := by unfold maxLen at hm; omega
      obtain ⟨l, hll, hat⟩ : ∃ l : List α, l.length = len ∧ ∀ i p, l[i]? = some p → ∃ cs', w.cells? 0 (a.add (i * P.cellsOf e)) (P.cellsOf e) = some cs' ∧ d.K w p cs' ∧ ok p := by
        clear hx hlm hmm hl hm hml hxx h
        induction len with
        | zero => exact ⟨[], rfl, fun i p h => by simp at h⟩
        | succ len ih =>
          obtain ⟨l, hll, hat⟩ := ih (fun i hi => hex i (Nat.lt_succ_of_lt hi))
          obtain ⟨b, hb⟩ := hex len (Nat.lt_succ_self _)
          refine ⟨l ++ [b], by simp [hll], fun i p h => ?_⟩
          rcases Nat.lt_or_ge i l.length with hi | hi
          · rw [List.getElem?_append_left hi] at h
            exact hat i p h
          · rw [List.getElem?_append_right hi] at h
            have hi0 : i - l.length = 0 := by
              rcases Nat.eq_zero_or_pos (i - l.length) with h0 | h0
              · exact h0
              · rw [List.getElem?_eq_none (by simp; omega)] at h
                cases h
            rw [hi0] at h
            have : b = p := by simpa using h
            subst this
            have : i = len := by omega
            subst this
            exact hb
      subst hll
      refine ⟨l, ⟨some a, cap, rfl, hl, rfl, hml, fun _ => ⟨a, rfl, fun j p hj => ?_⟩⟩, hml, fun b hb => ?_⟩
      · obtain ⟨cs', h1, hk, _⟩ := hat j p hj
        obtain ⟨_, hlen, hcell⟩ := World.cells?_some h1
        refine ⟨cs', hlen.trans hd.1, hk, fun i u hu => ?_⟩
        have hi : i < P.cellsOf e := by
          have := (List.getElem?_eq_some_iff.1 hu).1
          omega
        have := hcell i hi
        rw [hu, add_add, hd.1] at this
        exact this
      · obtain ⟨i, hi⟩ := List.getElem?_of_mem hb
        obtain ⟨_, _, _, hok⟩ := hat i b hi
        exact hok⟩
def OpensF (P : Program) (fs : List Field) (off : Nat) {α : Type} (d : Kd α) (ok : α → Prop) : Prop :=
  ∀ (H : Type) (enc : TypeId × Value → H) (w : World) (spare : Nat → Bool) (n : Nat) (cs : List Value), (∀ f, f ∈ fs → ∃ y, DataW.trod enc P w 0 spare true n f.type ((cs.drop f.offset).take (P.cellsOf f.type)) = some y) → cs.length = off + d.sz → ∃ a : α, d.K w a (cs.drop off) ∧ ok a
theorem opens_last {f : Field} {off : Nat} {α : Type} {d : Kd α} {ok : α → Prop} (ho : f.offset = off) (hd : Opens P f.type d ok) : OpensF P [f] off d ok := fun H enc w spare n cs hf hl => by
  obtain ⟨y, hy⟩ := hf f (List.mem_singleton.2 rfl)
  rw [ho, List.take_of_length_le (by rw [List.length_drop, hl, hd.1]; omega)] at hy
  exact hd.2 H enc w spare n _ y hy
theorem opens_field {f : Field} {fs : List Field} {off : Nat} {α β : Type} {d : Kd α} {d' : Kd β} {ok : α → Prop} {ok' : β → Prop} (ho : f.offset = off) (hd : Opens P f.type d ok) (hr : OpensF P fs (off + d.sz) d' ok') :
    OpensF P (f :: fs) off (Kd.pair d d') (fun p => ok p.1 ∧ ok' p.2) := fun H enc w spare n cs hf hl => by
  obtain ⟨y, hy⟩ := hf f (List.mem_cons_self ..)
  have hz : (Kd.pair d d').sz = d.sz + d'.sz := rfl
  rw [ho, hd.1] at hy
  obtain ⟨a, ha, hoa⟩ := hd.2 H enc w spare n _ y hy
  obtain ⟨b, hb, hob⟩ := hr H enc w spare n cs (fun g hg => hf g (List.mem_cons_of_mem _ hg)) (by omega)
  refine ⟨(a, b), ⟨(cs.drop off).take d.sz, cs.drop (off + d.sz), ?_, ha, hb⟩, hoa, hob⟩
  rw [← List.drop_drop, List.take_append_drop]
theorem opens_struct {t : TypeId} {fs : Array Field} {α : Type} {d : Kd α} {ok : α → Prop} (ht : P.underlying t = some (.struct fs)) (hc : P.cellsOf t = d.sz) (hf : OpensF P fs.toList 0 d ok) : Opens P t d ok :=
  ⟨hc, fun H enc w spare fuel cs x h => by
    obtain ⟨xs, n, _, _, hlen, hxs, hi⟩ := DataW.trod_struct ht h
    have := hf H enc w spare n cs (fun f hm => by
      obtain ⟨i, hi'⟩ := List.getElem?_of_mem hm
      have hq := hi i f (by simpa using hi')
      have hlt : i < xs.length := by
        have := (List.getElem?_eq_some_iff.1 hi').1
        rw [hxs]
        simpa using this
      rw [List.getElem?_eq_getElem hlt] at hq
      exact ⟨_, hq⟩) (by omega)
    simpa using this⟩
theorem opens_iso {t : TypeId} {α β : Type} {d : Kd α} {ok : α → Prop} (f : β → α) (g : α → β) (hfg : ∀ a, f (g a) = a) (h : Opens P t d ok) : Opens P t (Kd.iso d f) (fun b => ok (f b)) :=
  ⟨h.1, fun H enc w spare fuel cs x hx => by
    obtain ⟨a, ha, hok⟩ := h.2 H enc w spare fuel cs x hx
    exact ⟨g a, by show d.K w (f (g a)) cs; rw [hfg]; exact ha, by show ok (f (g a)); rw [hfg]; exact hok⟩⟩
end Go.Proofs.YtcgojdhbphocgaaDoor.Opens
