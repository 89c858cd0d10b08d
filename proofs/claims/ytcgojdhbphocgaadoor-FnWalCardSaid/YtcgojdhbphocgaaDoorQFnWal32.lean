/- Merged texts below the law FnWal: Go functions as Lean functions, their contracts, and plain lemmas. -/
import Derived.Test.YtcgojdhbphocgaaDoorQFnWal30
import Derived.Test.YtcgojdhbphocgaaDoorQFnWal25
import Derived.Test.YtcgojdhbphocgaaDoorVFnWalOT
import Derived.Test.YtcgojdhbphocgaaDoorQFnWal23
import Derived.Test.YtcgojdhbphocgaaDoorQFnWal14
import Derived.Test.YtcgojdhbphocgaaDoorQFnWal24
import Derived.Test.YtcgojdhbphocgaaDoorVFnWalF
import Derived.Test.YtcgojdhbphocgaaDoorQFnWal28
import Derived.Laws.BitsAllLaws
namespace Go.Proofs.YtcgojdhbphocgaaDoor.DK
set_option linter.unusedVariables false
set_option linter.unusedSimpArgs false
open Go.RowKit Go.Proofs.YtcgojdhbphocgaaDoor.F Go.Proofs.YtcgojdhbphocgaaDoor.PK Go.Proofs.YtcgojdhbphocgaaDoorW.PrintWords Go.Proofs.YtcgojdhbphocgaaDoorW.PrintLast Go.Proofs.YtcgojdhbphocgaaDoorW.PrintMore
theorem lt_irr : ∀ a : List UInt8, Op.bytesLess a a = false
  | [] => rfl
  | x :: r => by simp [Op.bytesLess, lt_irr r]
theorem lt_trans : ∀ a b c : List UInt8, Op.bytesLess a b = true → Op.bytesLess b c = true → Op.bytesLess a c = true
  | a, b, [], _, h => by cases b <;> simp [Op.bytesLess] at h
  | [], b, z :: c, _, _ => rfl
  | x :: a, [], z :: c, h, _ => by simp [Op.bytesLess] at h
  | x :: a, y :: b, z :: c, h, h' => by
    simp only [Op.bytesLess, Bool.or_eq_true, decide_eq_true_eq, Bool.and_eq_true, beq_iff_eq, UInt8.lt_iff_toNat_lt] at h h' ⊢
    rcases h with h | ⟨rfl, h⟩
    · rcases h' with h' | ⟨rfl, h'⟩
      · exact .inl (by omega)
      exact .inl h
    rcases h' with h' | ⟨rfl, h'⟩
    · exact .inl h'
    exact .inr ⟨rfl, lt_trans a b c h h'⟩
theorem lt_ne {a b : List UInt8} (h : Op.bytesLess a b = true) : a ≠ b := by
  rintro rfl
  rw [lt_irr] at h
  cases h
theorem lt_total : ∀ a b : List UInt8, Op.bytesLess a b = false → Op.bytesLess b a = false → a = b
  | [], [], _, _ => rfl
  | [], y :: b, h, _ => by simp [Op.bytesLess] at h
  | x :: a, [], _, h => by simp [Op.bytesLess] at h
  | x :: a, y :: b, h, h' => by
    simp only [Op.bytesLess, Bool.or_eq_false_iff, decide_eq_false_iff_not, Bool.and_eq_false_iff, beq_eq_false_iff_ne, UInt8.lt_iff_toNat_lt] at h h'
    have e : x = y := UInt8.toNat_inj.1 (by omega)
    subst e
    rw [lt_total a b (h.2.resolve_left (fun h => h rfl)) (h'.2.resolve_left (fun h => h rfl))]
def nm (x : S55) : List UInt8 := x.f0.toList
def srt (l : List S55) : Prop := ∀ i j : Nat, i < j → ∀ x y, l[i]? = some x → l[j]? = some y → Op.bytesLess (nm x) (nm y) = true
theorem goD_at (l : List S55) : ∀ d i : Nat, goD l d i = true → ∀ j, i ≤ j → j < i + d → okAt l j = true := by
  intro d
  induction d with
  | zero => intro i _ j _ _; omega
  | succ d ih =>
    intro i h j h1 h2
    unfold goD at h
    rw [Bool.and_eq_true] at h
    by_cases e : j = i
    · subst e; exact h.1
    exact ih (i + 1) h.2 j (by omega) (by omega)
theorem goD_of (l : List S55) : ∀ d i : Nat, (∀ j, i ≤ j → j < i + d → okAt l j = true) → goD l d i = true := by
  intro d
  induction d with
  | zero => intro i _; rfl
  | succ d ih =>
    intro i h
    unfold goD
    rw [Bool.and_eq_true]
    exact ⟨h i (by omega) (by omega), ih (i + 1) (fun j h1 h2 => h j (by omega) (by omega))⟩
theorem disk_srt {l : List S55} (h : diskM l = true) : srt l := by
  unfold diskM at h
  rw [Bool.and_eq_true] at h
  have hk := goD_at l _ _ h.2
  have step : ∀ j, j + 1 < l.length → Op.bytesLess (nm (l.getD j z55)) (nm (l.getD (j + 1) z55)) = true := by
    intro j hj
    have := hk (j + 1) (by omega) (by omega)
    unfold okAt at this
    rw [Bool.and_eq_true, Bool.and_eq_true, Bool.or_eq_true] at this
    have h3 := this.2.2.resolve_left (by simp)
    simpa [rd_T55, nm] using h3
  have key : ∀ j i : Nat, i < j → j < l.length → Op.bytesLess (nm (l.getD i z55)) (nm (l.getD j z55)) = true := by
    intro j
    induction j with
    | zero => intro i h1; omega
    | succ j ih =>
      intro i h1 h2
      by_cases e : i = j
      · subst e; exact step i h2
      exact lt_trans _ _ _ (ih i (by omega) (by omega)) (step j h2)
  intro i j hij x y hx hy
  have h1 := (List.getElem?_eq_some_iff.1 hy).1
  have := key j i hij h1
  rw [List.getD_eq_getElem?_getD, List.getD_eq_getElem?_getD, hx, hy] at this
  exact this
theorem idxF_at (p : ByteArray → Bool) : ∀ (l : List S55) (s : Int), (idxF p l s = -1 ∧ ∀ x ∈ l, p x.f0 = false) ∨ (∃ m : Nat, ∃ x, idxF p l s = s + m ∧ l[m]? = some x ∧ p x.f0 = true ∧ ∀ (j : Nat) (y : S55), j < m → l[j]? = some y → p y.f0 = false) := by
  intro l
  induction l with
  | nil => intro s; exact .inl ⟨rfl, fun x hx => by cases hx⟩
  | cons x t ih =>
    intro s
    unfold idxF
    by_cases h : p x.f0 = true
    · rw [if_pos h]
      exact .inr ⟨0, x, by simp, rfl, h, fun j y hj => by omega⟩
    rw [if_neg h]
    rcases ih (s + 1) with ⟨h1, h2⟩ | ⟨m, y, h1, h2, h3, h4⟩
    · refine .inl ⟨h1, fun y hy => ?_⟩
      rcases List.mem_cons.1 hy with rfl | hy
      · exact Bool.eq_false_iff.2 h
      exact h2 y hy
    refine .inr ⟨m + 1, y, by rw [h1]; omega, by rw [List.getElem?_cons_succ]; exact h2, h3, fun j z hj hz => ?_⟩
    cases j with
    | zero => simp only [List.getElem?_cons_zero, Option.some.injEq] at hz; subst hz; exact Bool.eq_false_iff.2 h
    | succ j => rw [List.getElem?_cons_succ] at hz; exact h4 j z (by omega) hz
def notN (a : ByteArray) : S55 → Bool := fun x => !isN a x.f0
theorem filter_all {α : Type} {p : α → Bool} {l : List α} (h : ∀ x ∈ l, p x = true) : l.filter p = l := List.filter_eq_self.2 h
theorem split_at {α : Type} (l : List α) (m : Nat) (x : α) (h : l[m]? = some x) : l = l.take m ++ x :: l.drop (m + 1) := by
  obtain ⟨h1, h2⟩ := List.getElem?_eq_some_iff.1 h
  conv => lhs; rw [← List.take_append_drop m l, List.drop_eq_getElem_cons h1, h2]
theorem copyS (l : List S55) (hl : l.length ≤ 100000000) (hw : ∀ y ∈ l, y.f1.length ≤ 100000000 ∧ y.f2.length ≤ 100000000) : Ev (fun k => spec_l03Copy.f k l) l := by
  have key := up0 (P := fun i => Ev (fun k => spec_l03Copy.l0 k i l (l.take i.toNat)) l) l.length
    (EvS (by simp only [spec_l03Copy.l0, Int.lt_irrefl, if_false, Int.toNat_natCast, List.take_length]; exact EvN))
    (fun i hi ih => EvS (by
      have hy := hw _ (List.getElem_mem hi)
      simp only [spec_l03Copy.l0, if_pos (show (i : Int) < (l.length : Int) by omega), if_pos (show 0 ≤ (i : Int) by omega), Int.toNat_natCast, rd55 l i hi, EvB (bytesS _ (show l[i].f1.length ≤ 1000000000 by omega)), EvB (bytesS _ (show l[i].f2.length ≤ 1000000000 by omega)), nxt i _ hi (by omega), if_pos (show (l.take i).length < 2199023255552 by rw [List.length_take]; omega)]
      rw [Int.toNat_natCast, List.take_add_one, List.getElem?_eq_getElem hi] at ih
      exact ih))
  unfold spec_l03Copy.f
  exact key
theorem copyI (l : List S55) (hl : l.length ≤ 100000000) (hw : ∀ y ∈ l, y.f1.length ≤ 100000000 ∧ y.f2.length ≤ 100000000) : Ev (fun k => impl_copyDisk.f k l) l := by
  have key := up0 (P := fun i => Ev (fun k => impl_copyDisk.l0 k l (l.length : Int) i (l.take i.toNat)) l) l.length
    (EvS (by simp only [impl_copyDisk.l0, Int.lt_irrefl, if_false, Int.toNat_natCast, List.take_length]; exact EvN))
    (fun i hi ih => EvS (by
      have hy := hw _ (List.getElem_mem hi)
      simp only [impl_copyDisk.l0, if_pos (show (i : Int) < (l.length : Int) by omega), if_pos (show 0 ≤ (i : Int) by omega), Int.toNat_natCast, rd55 l i hi, Option.bind_some, if_pos (show ([] : List Int).length + l[i].f1.length < 140737488355328 by rw [List.length_nil]; omega), if_pos (show ([] : List Int).length + l[i].f2.length < 140737488355328 by rw [List.length_nil]; omega), List.nil_append, nxt i _ hi (by omega), if_pos (show (l.take i).length < 2199023255552 by rw [List.length_take]; omega)]
      rw [Int.toNat_natCast, List.take_add_one, List.getElem?_eq_getElem hi] at ih
      exact ih))
  unfold impl_copyDisk.f
  exact key
def lessN (a : ByteArray) : S55 → Bool := fun x => Op.bytesLess (nm x) a.toList
def putGo (f : S55) : Bool → List S55 → List S55 → List S55
  | b, [], out => if b = true then out else out ++ [f]
  | true, x :: r, out => if nm x = nm f then putGo f true r out else putGo f true r (out ++ [x])
  | false, x :: r, out => if lessN f.f0 x = true then (if nm x = nm f then putGo f false r out else putGo f false r (out ++ [x])) else (if nm x = nm f then putGo f true r (out ++ [f]) else putGo f true r (out ++ [f] ++ [x]))
theorem putGo_true (f : S55) : ∀ (l out : List S55), putGo f true l out = out ++ l.filter (notN f.f0)
  | [], out => by simp [putGo]
  | x :: r, out => by
    unfold putGo
    by_cases c : nm x = nm f
    · rw [if_pos c, putGo_true f r out, List.filter_cons, if_neg (by simp [notN, isN]; exact c)]
    rw [if_neg c, putGo_true f r _, List.filter_cons, if_pos (by simp [notN, isN]; exact c), List.append_assoc]; rfl
theorem putGo_false (f : S55) : ∀ (l out : List S55), putGo f false l out = out ++ l.takeWhile (lessN f.f0) ++ f :: (l.dropWhile (lessN f.f0)).filter (notN f.f0)
  | [], out => by simp [putGo]
  | x :: r, out => by
    unfold putGo
    by_cases h : lessN f.f0 x = true
    · have c : ¬ nm x = nm f := lt_ne h
      rw [if_pos h, if_neg c, putGo_false f r _, List.takeWhile_cons_of_pos h, List.dropWhile_cons_of_pos h]
      simp
    rw [if_neg h, List.takeWhile_cons_of_neg h, List.dropWhile_cons_of_neg h]
    by_cases c : nm x = nm f
    · rw [if_pos c, putGo_true, List.filter_cons, if_neg (by simp [notN, isN]; exact c)]
      simp
    rw [if_neg c, putGo_true, List.filter_cons, if_pos (by simp [notN, isN]; exact c)]
    simp
def putM (l : List S55) (f : S55) : List S55 := l.takeWhile (lessN f.f0) ++ f :: (l.dropWhile (lessN f.f0)).filter (notN f.f0)
theorem put_len (f : S55) : ∀ (b : Bool) (l out : List S55), (putGo f b l out).length ≤ out.length + l.length + 1 := by
  intro b l out
  cases b with
  | true => rw [putGo_true, List.length_append]; have := List.length_filter_le (notN f.f0) l; omega
  | false =>
    rw [putGo_false]
    have h1 := List.length_filter_le (notN f.f0) (l.dropWhile (lessN f.f0))
    have h2 : (l.takeWhile (lessN f.f0)).length + (l.dropWhile (lessN f.f0)).length = l.length := by rw [← List.length_append, List.takeWhile_append_dropWhile]
    simp only [List.length_append, List.length_cons]
    omega
theorem put_mem (f : S55) (l : List S55) : ∀ y ∈ putM l f, y = f ∨ y ∈ l := by
  intro y hy
  rcases List.mem_append.1 hy with h | h
  · exact .inr ((List.takeWhile_sublist _).subset h)
  rcases List.mem_cons.1 h with h | h
  · exact .inl h
  exact .inr ((List.dropWhile_sublist _).subset (List.mem_filter.1 h).1)
theorem putS (l : List S55) (f : S55) (hl : l.length ≤ 10000000) (hw : ∀ y ∈ l, y.f1.length ≤ 100000000 ∧ y.f2.length ≤ 100000000) (hf : f.f1.length ≤ 100000000 ∧ f.f2.length ≤ 100000000) : Ev (fun k => spec_l03Put.f k l f.f0 f.f1 f.f2) (putM l f) := by
  have hsz : (putM l f).length ≤ 100000000 := by
    have := put_len f false l []
    rw [putGo_false, List.length_nil] at this
    simp only [List.nil_append] at this
    show (l.takeWhile (lessN f.f0) ++ f :: (l.dropWhile (lessN f.f0)).filter (notN f.f0)).length ≤ _
    omega
  have fin : Ev (fun k => spec_l03Copy.f k (putM l f)) (putM l f) := copyS _ hsz (fun y hy => by
    rcases put_mem f l y hy with rfl | h
    · exact hf
    exact hw y h)
  have key : ∀ d i : Nat, d + i = l.length → ∀ (b : Bool) (out : List S55), out.length ≤ 2 * i → putGo f b (l.drop i) out = putM l f → Ev (fun k => spec_l03Put.l0 k b i l f.f0 f.f1 f.f2 out) (putM l f) := by
    intro d
    induction d with
    | zero =>
      intro i hi b out h1 h3
      have hi : i = l.length := by omega
      subst hi
      rw [List.drop_length] at h3
      refine EvS ?_
      simp only [spec_l03Put.l0, Int.lt_irrefl, if_false]
      cases b with
      | true =>
        simp only [putGo, if_true] at h3
        subst h3
        simp only [if_true]
        exact (EvB fin).2 EvN
      | false =>
        simp only [putGo, Bool.false_eq_true, if_false] at h3
        simp only [Bool.false_eq_true, if_false, if_pos (show out.length < 2199023255552 by omega)]
        rw [h3]
        exact (EvB fin).2 EvN
    | succ d ih =>
      intro i hi b out h1 h3
      have hil : i < l.length := by omega
      rw [drop_at l i hil] at h3
      have ih' := fun b out h1 h3 => ih (i + 1) (by omega) b out h1 h3
      refine EvS ?_
      have hi1 : (i : Int) < (l.length : Int) := by omega
      have hi0 : 0 ≤ (i : Int) := by omega
      have hnx := nxt i _ hil (by omega)
      simp only [spec_l03Put.l0, if_pos hi1, if_pos hi0, rd55 l i hil]
      cases b with
      | true =>
        simp only [if_true]
        refine EvS ?_
        simp only [spec_l03Put.j1, Bool.false_eq_true, if_false, if_pos hi1, if_pos hi0, rd55 l i hil, hnx]
        simp only [putGo] at h3
        by_cases c : l[i].f0.toList = f.f0.toList
        · rw [if_pos (show nm l[i] = nm f from c)] at h3
          simp only [if_pos c]
          exact ih' _ _ (by omega) h3
        rw [if_neg (show ¬ nm l[i] = nm f from c)] at h3
        simp only [if_neg c, if_pos (show out.length < 2199023255552 by omega)]
        exact ih' _ _ (by simp; omega) h3
      | false =>
        simp only [Bool.false_eq_true, if_false]
        refine EvS ?_
        simp only [putGo] at h3
        by_cases g : lessN f.f0 l[i] = true
        · have g' : Op.bytesLess l[i].f0.toList f.f0.toList = true := g
          rw [if_pos g] at h3
          simp only [g', Bool.not_true, spec_l03Put.j1, Bool.false_eq_true, if_false, if_pos hi1, if_pos hi0, rd55 l i hil, hnx]
          by_cases c : l[i].f0.toList = f.f0.toList
          · rw [if_pos (show nm l[i] = nm f from c)] at h3
            simp only [if_pos c]
            exact ih' _ _ (by omega) h3
          rw [if_neg (show ¬ nm l[i] = nm f from c)] at h3
          simp only [if_neg c, if_pos (show out.length < 2199023255552 by omega)]
          exact ih' _ _ (by simp; omega) h3
        have g' : Op.bytesLess l[i].f0.toList f.f0.toList = false := Bool.eq_false_iff.2 g
        rw [if_neg g] at h3
        simp only [g', Bool.not_false, spec_l03Put.j1, if_true, if_pos hi1, if_pos hi0, rd55 l i hil, hnx, if_pos (show out.length < 2199023255552 by omega), Option.bind_some]
        by_cases c : l[i].f0.toList = f.f0.toList
        · rw [if_pos (show nm l[i] = nm f from c)] at h3
          simp only [if_pos c]
          exact ih' _ _ (by simp; omega) h3
        rw [if_neg (show ¬ nm l[i] = nm f from c)] at h3
        have hlen : (out ++ [(⟨f.f0, f.f1, f.f2⟩ : S55)]).length < 2199023255552 := by simp; omega
        simp only [if_neg c, if_pos hlen]
        exact ih' _ _ (by simp; omega) h3
  have := key l.length 0 rfl false [] (by simp) (by rw [List.drop_zero, putGo_false]; rfl)
  unfold spec_l03Put.f
  exact this
theorem wfD_le' {l : List S55} (hw : wfD l) : ∀ y ∈ l, y.f1.length ≤ 100000000 ∧ y.f2.length ≤ 100000000 := fun y hy => by have := hw y hy; omega
theorem content_ok {l : List S55} {a : ByteArray} (h : (contentM l a).2 = true) : diskM l = true ∧ ¬ idxF (isN a) l 0 < 0 ∧ (contentM l a).1 = (rd_T55 l (idxF (isN a) l 0)).f1 ++ (rd_T55 l (idxF (isN a) l 0)).f2 := by
  unfold contentM at h ⊢
  by_cases h1 : diskM l = true
  · rw [if_pos h1] at h ⊢
    by_cases h2 : idxF (isN a) l 0 < 0
    · rw [if_pos h2] at h; cases h
    rw [if_neg h2]; exact ⟨h1, h2, rfl⟩
  rw [if_neg h1] at h; cases h
theorem content_no {l : List S55} {a : ByteArray} (h : ¬ (contentM l a).2 = true) : diskM l = true → idxF (isN a) l 0 < 0 := by
  intro h1
  refine Decidable.byContradiction fun h2 => h ?_
  unfold contentM
  rw [if_pos h1, if_neg h2]
theorem idx_at (l : List S55) (a : ByteArray) (h : ¬ idxF (isN a) l 0 < 0) : ∃ (m : Nat) (x : S55), idxF (isN a) l 0 = m ∧ l[m]? = some x ∧ nm x = a.toList ∧ m < l.length := by
  rcases idxF_at (isN a) l 0 with ⟨h1, _⟩ | ⟨m, x, h1, h2, h3, _⟩
  · omega
  exact ⟨m, x, by omega, h2, by simpa [isN, nm] using h3, (List.getElem?_eq_some_iff.1 h2).1⟩
theorem put_at {l : List S55} (hs : srt l) (f : S55) (m : Nat) (x : S55) (hx : l[m]? = some x) (hn : nm x = f.f0.toList) : putM l f = l.set m f := by
  have hb : ∀ y ∈ l.take m, lessN f.f0 y = true := by
    intro y hy
    obtain ⟨j, hj⟩ := List.mem_iff_getElem?.1 hy
    rw [List.getElem?_take] at hj
    split at hj
    · have := hs j m (by omega) y x hj hx
      rw [hn] at this
      exact this
    cases hj
  have ha : ∀ y ∈ l.drop (m + 1), notN f.f0 y = true := by
    intro y hy
    obtain ⟨j, hj⟩ := List.mem_iff_getElem?.1 hy
    rw [List.getElem?_drop] at hj
    have := lt_ne (hs m (m + 1 + j) (by omega) x y hx hj)
    simp only [notN, isN, Bool.not_eq_true', beq_eq_false_iff_ne]
    rw [← hn]; exact fun e => this e.symm
  have hx0 : lessN f.f0 x = false := by unfold lessN; rw [hn, lt_irr]
  have hx1 : notN f.f0 x = false := by unfold notN isN; rw [Bool.not_eq_false', beq_iff_eq]; exact hn
  have hm := (List.getElem?_eq_some_iff.1 hx).1
  unfold putM
  have e1 : l.takeWhile (lessN f.f0) = l.take m := by
    conv => lhs; rw [split_at l m x hx]
    rw [List.takeWhile_append_of_pos hb, List.takeWhile_cons_of_neg (by rw [hx0]; decide), List.append_nil]
  have e2 : l.dropWhile (lessN f.f0) = x :: l.drop (m + 1) := by
    conv => lhs; rw [split_at l m x hx]
    rw [List.dropWhile_append_of_pos hb, List.dropWhile_cons_of_neg (by rw [hx0]; decide)]
  rw [e1, e2, List.filter_cons, if_neg (by rw [hx1]; decide), filter_all ha, List.set_eq_take_append_cons_drop, if_pos hm]
theorem mem_set {l : List S55} {m : Nat} {f y : S55} (h : y ∈ l.set m f) : y = f ∨ y ∈ l := (List.mem_or_eq_of_mem_set h).symm
theorem content_at (l : List S55) (hw : wfD l) (i : Int) (h0 : 0 ≤ i) (h1 : i < l.length) : impl_File_content.f (rd_T55 l i).f0 (rd_T55 l i).f1 (rd_T55 l i).f2 = some ((rd_T55 l i).f1 ++ (rd_T55 l i).f2) := by
  have hr := at_bd l hw i h0 h1
  unfold impl_File_content.f
  rw [Option.bind_some, if_pos (lt47 _ _ (by simp) (by omega)), Option.bind_some, if_pos (lt47 _ _ (by simp; omega) (by omega)), List.nil_append]
def syncM (l : List S55) (a : ByteArray) : List S55 × Bool := if (contentM l a).2 = true then (l.set (idxF (isN a) l 0).toNat ⟨a, (contentM l a).1, []⟩, true) else (l, false)
theorem spec_sync (l : List S55) (a : ByteArray) (hl : l.length ≤ 1048576) (hw : wfD l) : Ev (fun k => spec_SyncFile.f k l a) (syncM l a) := by
  have hc := copyS l (by omega) (wfD_le' hw)
  have hS := spec_content l a hl hw
  have hb := content_le l a hw
  unfold spec_SyncFile.f syncM
  simp only [EvB hS]
  by_cases h : (contentM l a).2 = true
  · obtain ⟨h1, h2, _⟩ := content_ok h
    obtain ⟨m, x, e, hx, hn, hm⟩ := idx_at l a h2
    have hP := putS l ⟨a, (contentM l a).1, []⟩ (by omega) (wfD_le' hw) ⟨by show (contentM l a).1.length ≤ 100000000; omega, by simp⟩
    rw [put_at (disk_srt h1) _ m x hx hn] at hP
    simp only [if_pos h]
    rw [e, Int.toNat_natCast]
    exact (EvB hP).2 EvN
  simp only [if_neg h]
  exact (EvB hc).2 EvN
theorem impl_sync (l : List S55) (a : ByteArray) (hl : l.length ≤ 1048576) (hw : wfD l) : Ev (fun k => impl_syncFile.f k l a) (syncM l a) := by
  have hc := copyI l (by omega) (wfD_le' hw)
  have hf : impl_fileOf.f l a = some (idxF (isN a) l 0) := by unfold impl_fileOf.f; rw [if_pos (by omega)]; rfl
  unfold impl_syncFile.f syncM
  simp only [EvB hc, hf, Option.bind_some, EvB (impl_disk l hl hw)]
  by_cases h : (contentM l a).2 = true
  · obtain ⟨h1, h2, h3⟩ := content_ok h
    obtain ⟨m, x, e, hx, hn, hm⟩ := idx_at l a h2
    have hil : idxF (isN a) l 0 < (l.length : Int) := by omega
    simp only [if_pos h1, if_neg h2, if_pos hil, content_at l hw _ (by omega) hil, Option.bind_some, if_pos h, h3]
    exact EvN
  simp only [if_neg h]
  by_cases h1 : diskM l = true
  · simp only [if_pos h1, if_pos (content_no h h1)]; exact EvN
  simp only [if_neg h1]; exact EvN
end Go.Proofs.YtcgojdhbphocgaaDoor.DK

namespace Go.Proofs.YtcgojdhbphocgaaDoor.F
open Go.Proofs.YtcgojdhbphocgaaDoor
open Go.RowKit Go.Proofs.YtcgojdhbphocgaaDoorW.PrintWords Go.Proofs.YtcgojdhbphocgaaDoorW.PrintWords.Kd Go.Proofs.YtcgojdhbphocgaaDoorW.PrintMore.Kd Go.Proofs.YtcgojdhbphocgaaDoorW.PrintLast Go.Proofs.YtcgojdhbphocgaaDoorW.PrintMore
attribute [local go_sem] max2_int min2_int max_two min_two max_three min_three max_four min_four   -- for this text's walks alone
set_option linter.unusedVariables false
set_option linter.unusedSimpArgs false
end Go.Proofs.YtcgojdhbphocgaaDoor.F

namespace Go.Proofs.YtcgojdhbphocgaaDoor.DK
set_option linter.unusedVariables false
set_option linter.unusedSimpArgs false
open Go.RowKit Go.Proofs.YtcgojdhbphocgaaDoor.F Go.Proofs.YtcgojdhbphocgaaDoor.PK Go.Proofs.YtcgojdhbphocgaaDoorW.PrintWords Go.Proofs.YtcgojdhbphocgaaDoorW.PrintLast Go.Proofs.YtcgojdhbphocgaaDoorW.PrintMore
def cutM (l : List S55) (a : ByteArray) (n : Int) : List S55 × Bool := if (contentM l a).2 = true then (if 0 ≤ n ∧ n ≤ ((contentM l a).1.length : Int) then (l.set (idxF (isN a) l 0).toNat ⟨a, (contentM l a).1.take n.toNat, []⟩, true) else (l, false)) else (l, false)
theorem impl_cut (l : List S55) (a : ByteArray) (n : Int) (hl : l.length ≤ 1048576) (hw : wfD l) : Ev (fun k => impl_cutFile.f k l a n) (cutM l a n) := by
  have hc := copyI l (by omega) (wfD_le' hw)
  have hf : impl_fileOf.f l a = some (idxF (isN a) l 0) := by unfold impl_fileOf.f; rw [if_pos (by omega)]; rfl
  unfold impl_cutFile.f cutM
  simp only [EvB hc, hf, Option.bind_some, EvB (impl_disk l hl hw)]
  by_cases h : (contentM l a).2 = true
  · obtain ⟨h1, h2, h3⟩ := content_ok h
    obtain ⟨m, x, e, hx, hn, hm⟩ := idx_at l a h2
    have hil : idxF (isN a) l 0 < (l.length : Int) := by omega
    simp only [if_pos h1, if_neg h2, if_pos hil, content_at l hw _ (by omega) hil, Option.bind_some, if_pos h, h3]
    by_cases g1 : n < 0
    · simp only [if_pos g1, if_neg (show ¬ (0 ≤ n ∧ n ≤ (((rd_T55 l (idxF (isN a) l 0)).f1 ++ (rd_T55 l (idxF (isN a) l 0)).f2).length : Int)) by omega)]; exact EvN
    by_cases g2 : n > (((rd_T55 l (idxF (isN a) l 0)).f1 ++ (rd_T55 l (idxF (isN a) l 0)).f2).length : Int)
    · simp only [if_neg g1, if_pos g2, if_neg (show ¬ (0 ≤ n ∧ n ≤ (((rd_T55 l (idxF (isN a) l 0)).f1 ++ (rd_T55 l (idxF (isN a) l 0)).f2).length : Int)) by omega)]; exact EvN
    simp only [if_neg g1, if_neg g2, if_pos (show 0 ≤ n ∧ n ≤ (((rd_T55 l (idxF (isN a) l 0)).f1 ++ (rd_T55 l (idxF (isN a) l 0)).f2).length : Int) by omega)]; exact EvN
  simp only [if_neg h]
  by_cases h1 : diskM l = true
  · simp only [if_pos h1, if_pos (content_no h h1)]; exact EvN
  simp only [if_neg h1]; exact EvN
end Go.Proofs.YtcgojdhbphocgaaDoor.DK

namespace Go.Proofs.YtcgojdhbphocgaaDoor.F
open Go.RowKit Go.Proofs.YtcgojdhbphocgaaDoorW.PrintWords Go.Proofs.YtcgojdhbphocgaaDoorW.PrintWords.Kd Go.Proofs.YtcgojdhbphocgaaDoorW.PrintMore.Kd Go.Proofs.YtcgojdhbphocgaaDoorW.PrintLast Go.Proofs.YtcgojdhbphocgaaDoorW.PrintMore
attribute [local go_sem] max2_int min2_int max_two min_two max_three min_three max_four min_four   -- for this text's walks alone
set_option linter.unusedVariables false
set_option linter.unusedSimpArgs false
end Go.Proofs.YtcgojdhbphocgaaDoor.F

namespace Go.Proofs.YtcgojdhbphocgaaDoor.F
open Go.RowKit Go.Proofs.YtcgojdhbphocgaaDoorW.PrintWords Go.Proofs.YtcgojdhbphocgaaDoorW.PrintLast Go.Proofs.YtcgojdhbphocgaaDoorW.PrintMore
open Go.Proofs.YtcgojdhbphocgaaDoor
set_option linter.unusedVariables false
set_option linter.unusedSimpArgs false
end Go.Proofs.YtcgojdhbphocgaaDoor.F

namespace Go.Proofs.YtcgojdhbphocgaaDoor.DK
set_option linter.unusedVariables false
set_option linter.unusedSimpArgs false
open Go.RowKit Go.Proofs.YtcgojdhbphocgaaDoor.F Go.Proofs.YtcgojdhbphocgaaDoor.PK Go.Proofs.YtcgojdhbphocgaaDoorW.PrintWords Go.Proofs.YtcgojdhbphocgaaDoorW.PrintLast Go.Proofs.YtcgojdhbphocgaaDoorW.PrintMore
theorem wfD_le {l : List S55} (hw : wfD l) : ∀ y ∈ l, y.f1.length ≤ 100000000 ∧ y.f2.length ≤ 100000000 := fun y hy => by have := hw y hy; omega
end Go.Proofs.YtcgojdhbphocgaaDoor.DK

namespace Go.Proofs.YtcgojdhbphocgaaDoor.F
open Go.RowKit Go.Proofs.YtcgojdhbphocgaaDoorW.PrintWords Go.Proofs.YtcgojdhbphocgaaDoorW.PrintWords.Kd Go.Proofs.YtcgojdhbphocgaaDoorW.PrintMore.Kd Go.Proofs.YtcgojdhbphocgaaDoorW.PrintLast Go.Proofs.YtcgojdhbphocgaaDoorW.PrintMore
attribute [local go_sem] max2_int min2_int max_two min_two max_three min_three max_four min_four   -- for this text's walks alone
set_option linter.unusedVariables false
set_option linter.unusedSimpArgs false
end Go.Proofs.YtcgojdhbphocgaaDoor.F

namespace Go.Proofs.YtcgojdhbphocgaaDoor.F
open Go.RowKit Go.Proofs.YtcgojdhbphocgaaDoorW.PrintWords Go.Proofs.YtcgojdhbphocgaaDoorW.PrintLast Go.Proofs.YtcgojdhbphocgaaDoorW.PrintMore
open Go.Proofs.YtcgojdhbphocgaaDoor
set_option linter.unusedVariables false
set_option linter.unusedSimpArgs false
theorem run_field28 (v : Value) (w : World) : (Instr.field 28 (.agg #[v]) 0).run Tryd.prog w = .ok v w := by
  simp [Instr.field, go_sem, asAgg, Tryd.underlying28, Tryd.underlying26]
attribute [local go_sem] run_field28
end Go.Proofs.YtcgojdhbphocgaaDoor.F

namespace Go.Proofs.YtcgojdhbphocgaaDoor.DK
set_option linter.unusedVariables false
set_option linter.unusedSimpArgs false
open Go.RowKit Go.Proofs.YtcgojdhbphocgaaDoor.F Go.Proofs.YtcgojdhbphocgaaDoor.PK Go.Proofs.YtcgojdhbphocgaaDoorW.PrintWords Go.Proofs.YtcgojdhbphocgaaDoorW.PrintLast Go.Proofs.YtcgojdhbphocgaaDoorW.PrintMore
abbrev ltF (x y : S55) : Prop := Op.bytesLess (nm x) (nm y) = true
theorem srt_pw {l : List S55} : srt l ↔ l.Pairwise ltF := by
  rw [List.pairwise_iff_getElem]
  constructor
  · intro h i j hi hj hij
    exact h i j hij _ _ (List.getElem?_eq_getElem hi) (List.getElem?_eq_getElem hj)
  intro h i j hij x y hx hy
  obtain ⟨hi, rfl⟩ := List.getElem?_eq_some_iff.1 hx
  obtain ⟨hj, rfl⟩ := List.getElem?_eq_some_iff.1 hy
  exact h i j hi hj hij
theorem ins_take (x : S55) : ∀ l : List S55, l.take (wIdx x.f0 l) = l.takeWhile (lessN x.f0) ∧ l.drop (wIdx x.f0 l) = l.dropWhile (lessN x.f0)
  | [] => ⟨rfl, rfl⟩
  | y :: r => by
    obtain ⟨h1, h2⟩ := ins_take x r
    unfold wIdx
    cases h : Op.bytesLess y.f0.toList x.f0.toList with
    | true =>
      have hl : lessN x.f0 y = true := h
      simp only [if_true, List.take_succ_cons, List.drop_succ_cons, List.takeWhile_cons, List.dropWhile_cons, hl, h1, h2, and_self]
    | false =>
      have hl : lessN x.f0 y = false := h
      simp only [Bool.false_eq_true, if_false, List.take_zero, List.drop_zero, List.takeWhile_cons, List.dropWhile_cons, hl, and_self]
theorem ins_eq (l : List S55) (x : S55) : insM l x = l.takeWhile (lessN x.f0) ++ x :: l.dropWhile (lessN x.f0) := by
  unfold insM
  rw [(ins_take x l).1, (ins_take x l).2]
theorem dw_less {a : ByteArray} : ∀ {l : List S55}, l.Pairwise ltF → ∀ y ∈ l.dropWhile (lessN a), lessN a y = false
  | [], _, y, hy => by simp at hy
  | x :: r, h, y, hy => by
    rw [List.dropWhile_cons] at hy
    cases hx : lessN a x with
    | true => rw [hx, if_pos rfl] at hy; exact dw_less (List.pairwise_cons.1 h).2 y hy
    | false =>
      rw [hx, if_neg (by decide)] at hy
      rcases List.mem_cons.1 hy with rfl | hy
      · exact hx
      cases hq : lessN a y with
      | false => rfl
      | true =>
        have h1 : lessN a x = true := lt_trans _ _ _ ((List.pairwise_cons.1 h).1 y hy) hq
        rw [hx] at h1
        cases h1
theorem tw_all {p : S55 → Bool} : ∀ (l : List S55), ∀ y ∈ l.takeWhile p, p y = true
  | [], y, hy => by simp at hy
  | x :: r, y, hy => by
    rw [List.takeWhile_cons] at hy
    cases hx : p x with
    | true =>
      rw [hx, if_pos rfl] at hy
      rcases List.mem_cons.1 hy with rfl | hy
      · exact hx
      exact tw_all r y hy
    | false => rw [hx, if_neg (by decide)] at hy; simp at hy
theorem disk_each {l : List S55} (h : diskM l = true) : l.length ≤ 8 ∧ ∀ y ∈ l, nameM y.f0 = true ∧ y.f1.length + y.f2.length ≤ 20000 := by
  unfold diskM at h
  rw [Bool.and_eq_true, decide_eq_true_iff] at h
  refine ⟨h.1, fun y hy => ?_⟩
  obtain ⟨j, hj, rfl⟩ := List.mem_iff_getElem.1 hy
  have hk := goD_at l _ _ h.2 j (by omega) (by omega)
  unfold okAt at hk
  rw [Bool.and_eq_true, Bool.and_eq_true, decide_eq_true_iff, rd55 l j hj] at hk
  exact ⟨hk.1, hk.2.1⟩
theorem disk_of {l : List S55} (h1 : l.length ≤ 8) (h2 : ∀ y ∈ l, nameM y.f0 = true ∧ y.f1.length + y.f2.length ≤ 20000) (h3 : l.Pairwise ltF) : diskM l = true := by
  unfold diskM
  rw [Bool.and_eq_true, decide_eq_true_iff]
  refine ⟨h1, goD_of l _ _ fun j _ hj => ?_⟩
  have hj : j < l.length := by omega
  have hy := h2 _ (List.getElem_mem hj)
  unfold okAt
  rw [Bool.and_eq_true, Bool.and_eq_true, decide_eq_true_iff, rd55 l j hj]
  refine ⟨hy.1, hy.2, ?_⟩
  by_cases h0 : j = 0
  · simp [h0]
  rw [rd55 l (j - 1) (by omega), Bool.or_eq_true]
  exact .inr (List.pairwise_iff_getElem.1 h3 (j - 1) j (by omega) hj (by omega))
theorem ba_ext {a b : ByteArray} (h : a.toList = b.toList) : a = b := by
  rw [ByteArray.toList_eq, ByteArray.toList_eq] at h
  cases a with
  | mk x => cases b with
    | mk y => simpa using h
def appF (l : List S55) (a : ByteArray) (d f1 f2 : List Int) : List S55 × Bool := if d.length + f1.length + f2.length ≤ 20000 then (putM l ⟨a, f1, f2 ++ d⟩, true) else (l, false)
def appM (l : List S55) (a : ByteArray) (d : List Int) : List S55 × Bool :=
  if diskM l = true ∧ nameM a = true then (if idxF (isN a) l 0 < 0 then (if l.length = 8 then (l, false) else appF l a d [] []) else appF l a d (rd_T55 l (idxF (isN a) l 0)).f1 (rd_T55 l (idxF (isN a) l 0)).f2) else (l, false)
theorem spec_fin (l : List S55) (a : ByteArray) (d f1 f2 : List Int) (hl : l.length ≤ 1048576) (hw : wfD l) (hd : d.length ≤ 1048576) (h1 : f1.length ≤ 1048576) (h2 : f2.length ≤ 1048576) : Ev (fun k => spec_AppendFile.fin k l a d f1 f2) (appF l a d f1 f2) := by
  have hc := copyS l (by omega) (wfD_le hw)
  have e : wrap64 (wrap64 (20000 - (f1.length : Int)) - (f2.length : Int)) = 20000 - (f1.length : Int) - (f2.length : Int) := by
    rw [w64 (x := 20000 - (f1.length : Int)) (by omega) (by omega), w64 (by omega) (by omega)]
  unfold spec_AppendFile.fin appF
  rw [e]
  by_cases h : d.length + f1.length + f2.length ≤ 20000
  · have hP := putS l (⟨a, f1, f2 ++ d⟩ : S55) (by omega) (wfD_le hw) ⟨by show f1.length ≤ _; omega, by show (f2 ++ d).length ≤ _; rw [List.length_append]; omega⟩
    simp only [if_pos h, if_neg (show ¬ (d.length : Int) > 20000 - (f1.length : Int) - (f2.length : Int) by omega)]
    refine (EvB (joinS f2 d (by omega) (by omega))).2 ?_
    exact (EvB hP).2 EvN
  simp only [if_neg h, if_pos (show (d.length : Int) > 20000 - (f1.length : Int) - (f2.length : Int) by omega)]
  exact (EvB hc).2 EvN
theorem spec_app (l : List S55) (a : ByteArray) (d : List Int) (hl : l.length ≤ 1048576) (hw : wfD l) (ha : a.size ≤ 9223372036854775807) (hd : d.length ≤ 1048576) : Ev (fun k => spec_AppendFile.f k l a d) (appM l a d) := by
  have hc := copyS l (by omega) (wfD_le hw)
  unfold spec_AppendFile.f appM
  refine (EvB (find_ev l a hl)).2 ?_
  refine (EvB (spec_disk l hl hw)).2 ?_
  by_cases h : diskM l = true
  · simp only [if_pos h]
    refine (EvB (spec_name a ha)).2 ?_
    by_cases h3 : nameM a = true
    · simp only [if_pos h3, if_pos (show diskM l = true ∧ nameM a = true from ⟨h, h3⟩)]
      by_cases h2 : idxF (isN a) l 0 < 0
      · simp only [if_neg (show ¬ 0 ≤ idxF (isN a) l 0 by omega), if_pos h2]
        by_cases h8 : l.length = 8
        · simp only [if_pos h8, if_pos (show (l.length : Int) = 8 by omega)]
          exact (EvB hc).2 EvN
        simp only [if_neg h8, if_neg (show ¬ (l.length : Int) = 8 by omega)]
        exact spec_fin l a d [] [] hl hw hd (by simp) (by simp)
      obtain ⟨m, x, e, hx, hn, hm⟩ := idx_at l a h2
      have hr := hw _ (List.getElem_mem hm)
      have hxm : l[m] = x := by rw [List.getElem?_eq_getElem hm] at hx; exact Option.some.inj hx
      have hna : (rd_T55 l (idxF (isN a) l 0)).f0 = a := by rw [e, rd55 l m hm, hxm]; exact ba_ext hn
      simp only [if_pos (show 0 ≤ idxF (isN a) l 0 by omega), if_pos (show idxF (isN a) l 0 < (l.length : Int) by omega), if_neg h2]
      rw [hna]
      exact spec_fin l a d _ _ hl hw hd (by rw [e, rd55 l m hm]; exact hr.2.1) (by rw [e, rd55 l m hm]; exact hr.2.2)
    simp only [if_neg h3, if_neg (show ¬ (diskM l = true ∧ nameM a = true) from fun q => h3 q.2)]
    exact (EvB hc).2 EvN
  simp only [if_neg h, if_neg (show ¬ (diskM l = true ∧ nameM a = true) from fun q => h q.1)]
  exact (EvB hc).2 EvN

def wfW (l : List S55) : Prop := ∀ y ∈ l, y.f0.size ≤ 9223372036854775807 ∧ y.f1.length ≤ 4194304 ∧ y.f2.length ≤ 4194304
theorem implGoW (l : List S55) (hl : l.length ≤ 1048576) (hw : wfW l) : ∀ d i : Nat, d + i = l.length → Ev (fun k => impl_isDisk.l0 k l (l.length : Int) i l) (goD l d i && decide (l.length ≤ 8)) := by
  intro d
  induction d with
  | zero =>
    intro i hi
    refine EvS ?_
    simp only [impl_isDisk.l0, if_neg (show ¬ (i : Int) < (l.length : Int) by omega), goD, Bool.true_and]
    rw [show decide ((l.length : Int) ≤ 8) = decide (l.length ≤ 8) from decide_eq_decide.2 (by omega)]
    exact EvN
  | succ d ih =>
    intro i hi
    have hil : i < l.length := by omega
    have hy := hw _ (List.getElem_mem hil)
    refine EvS ?_
    have hn := impl_name l[i].f0 hy.1
    have h := ih (i + 1) (by omega)
    rw [← rd55 l i hil] at hn hy
    unfold goD okAt
    simp only [impl_isDisk.l0, if_pos (show (i : Int) < (l.length : Int) by omega), if_pos (show 0 ≤ (i : Int) by omega), hn, Option.bind_some, nxt i _ hil (by omega)]
    generalize rd_T55 l (i : Int) = y at hy hn ⊢
    by_cases c1 : nameM y.f0 = true
    · have hw1 : wrap64 ((y.f1.length : Int) + (y.f2.length : Int)) = (y.f1.length : Int) + (y.f2.length : Int) := w64 (by omega) (by omega)
      by_cases c3 : (y.f1.length : Int) + (y.f2.length : Int) > 20000
      · simp only [if_pos c1, hw1, if_pos c3, decide_eq_false (show ¬ y.f1.length + y.f2.length ≤ 20000 by omega), Bool.false_and, Bool.and_false]; exact EvN
      simp only [if_pos c1, hw1, if_neg c3, c1, decide_eq_true (show y.f1.length + y.f2.length ≤ 20000 by omega), Bool.true_and]
      by_cases c4 : i = 0
      · simp only [if_neg (show ¬ (i : Int) > 0 by omega), decide_eq_true c4, Bool.true_or, Bool.true_and]; exact h
      have hw2 : wrap64 ((i : Int) - 1) = ((i - 1 : Nat) : Int) := by rw [w64 (by omega) (by omega)]; omega
      simp only [if_pos (show (i : Int) > 0 by omega), hw2, if_pos (show 0 ≤ ((i - 1 : Nat) : Int) by omega), if_pos (show ((i - 1 : Nat) : Int) < (l.length : Int) by omega), decide_eq_false c4, Bool.false_or]
      by_cases c5 : Op.bytesLess (rd_T55 l ((i - 1 : Nat) : Int)).f0.toList y.f0.toList = true
      · simp only [if_pos c5, c5, Bool.true_and]; exact h
      simp only [if_neg c5, Bool.eq_false_iff.2 c5, Bool.false_and]; exact EvN
    simp only [if_neg c1, Bool.eq_false_iff.2 c1, Bool.false_and]; exact EvN
theorem impl_diskW (l : List S55) (hl : l.length ≤ 1048576) (hw : wfW l) : Ev (fun k => impl_isDisk.f k l) (diskM l) := by
  unfold impl_isDisk.f diskM
  rw [Bool.and_comm]
  exact implGoW l hl hw l.length 0 rfl
theorem impl_fin (l p : List S55) (a : ByteArray) (d : List Int) (m : Nat) (hm : m < p.length) (hn : p[m].f0 = a) (hi : idxF (isN a) p 0 = (m : Int)) (hl : l.length ≤ 1048576) (hw : wfD l) (hpl : p.length ≤ 1048576) (hp : wfD p) (hd : d.length ≤ 1048576) :
    Ev (fun k => impl_appendFile.fin k l p a d) (if diskM (p.set m ⟨a, p[m].f1, p[m].f2 ++ d⟩) = true then (p.set m ⟨a, p[m].f1, p[m].f2 ++ d⟩, true) else (l, false)) := by
  have hc := copyI l (by omega) (wfD_le hw)
  have hf : impl_fileOf.f p a = some (idxF (isN a) p 0) := by unfold impl_fileOf.f; rw [if_pos (by omega)]; rfl
  have hr := hp _ (List.getElem_mem hm)
  have hD := impl_diskW (p.set m ⟨a, p[m].f1, p[m].f2 ++ d⟩) (by rw [List.length_set]; exact hpl) (fun y hy => by
    rcases mem_set hy with rfl | hy
    · refine ⟨by rw [← hn]; exact hr.1, ?_, ?_⟩
      · show p[m].f1.length ≤ _; omega
      show (p[m].f2 ++ d).length ≤ _; rw [List.length_append]; omega
    have := hp y hy
    exact ⟨this.1, by omega, by omega⟩)
  unfold impl_appendFile.fin
  simp only [hf, Option.bind_some, hi, rd55 p m hm, hn, Int.toNat_natCast, if_pos (show 0 ≤ (m : Int) by omega), if_pos (show (m : Int) < (p.length : Int) by omega), if_pos (show p[m].f2.length + d.length ≤ 140737488355328 by omega)]
  refine (EvB hD).2 ?_
  by_cases h : diskM (p.set m ⟨a, p[m].f1, p[m].f2 ++ d⟩) = true
  · simp only [if_pos h]; exact EvN
  simp only [if_neg h]; exact (EvB hc).2 EvN
theorem disk_set (l : List S55) (m : Nat) (hm : m < l.length) (h : diskM l = true) (f : S55) (hn : f.f0 = l[m].f0) : diskM (l.set m f) = decide (f.f1.length + f.f2.length ≤ 20000) := by
  obtain ⟨h1, h2⟩ := disk_each h
  by_cases hb : f.f1.length + f.f2.length ≤ 20000
  · rw [decide_eq_true hb]
    refine disk_of (by rw [List.length_set]; exact h1) (fun y hy => ?_) (List.pairwise_iff_getElem.2 fun i j hi hj hij => ?_)
    · rcases mem_set hy with rfl | hy
      · exact ⟨by rw [hn]; exact (h2 _ (List.getElem_mem hm)).1, hb⟩
      exact h2 y hy
    rw [List.length_set] at hi hj
    have hs := List.pairwise_iff_getElem.1 (srt_pw.1 (disk_srt h)) i j hi hj hij
    have e : ∀ q (hq : q < l.length), nm ((l.set m f)[q]'(by rw [List.length_set]; exact hq)) = nm l[q] := fun q hq => by
      rw [List.getElem_set]
      split
      · rename_i e; subst e; unfold nm; rw [hn]
      rfl
    show Op.bytesLess (nm _) (nm _) = true
    rw [e i hi, e j hj]
    exact hs
  rw [decide_eq_false hb]
  cases hd : diskM (l.set m f) with
  | false => rfl
  | true => exact absurd ((disk_each hd).2 f (List.mem_set hm f)).2 hb
theorem fin_there (l : List S55) (a : ByteArray) (d : List Int) (m : Nat) (hm : m < l.length) (hn : l[m].f0 = a) (hi : idxF (isN a) l 0 = (m : Int)) (h : diskM l = true) (hl : l.length ≤ 1048576) (hw : wfD l) (hd : d.length ≤ 1048576) :
    Ev (fun k => impl_appendFile.fin k l l a d) (appF l a d l[m].f1 l[m].f2) := by
  have hF := impl_fin l l a d m hm hn hi hl hw hl hw hd
  have hs := disk_set l m hm h (⟨a, l[m].f1, l[m].f2 ++ d⟩ : S55) hn.symm
  have hp := put_at (disk_srt h) (⟨a, l[m].f1, l[m].f2 ++ d⟩ : S55) m l[m] (List.getElem?_eq_getElem hm) (by unfold nm; rw [hn])
  rw [hs] at hF
  unfold appF
  rw [hp]
  by_cases hb : d.length + l[m].f1.length + l[m].f2.length ≤ 20000
  · rw [if_pos hb]
    rwa [if_pos (decide_eq_true (show l[m].f1.length + (l[m].f2 ++ d).length ≤ 20000 by rw [List.length_append]; omega))] at hF
  rw [if_neg hb]
  rwa [if_neg (by rw [decide_eq_true_iff]; show ¬ l[m].f1.length + (l[m].f2 ++ d).length ≤ 20000; rw [List.length_append]; omega)] at hF
theorem put_new {l : List S55} (f : S55) (h : ∀ x ∈ l, isN f.f0 x.f0 = false) : putM l f = l.takeWhile (lessN f.f0) ++ f :: l.dropWhile (lessN f.f0) := by
  unfold putM
  rw [filter_all (fun y hy => by unfold notN; rw [h y (dw_mem _ _ _ hy)]; rfl)]
theorem disk_new {l : List S55} (f : S55) (h : diskM l = true) (hn : nameM f.f0 = true) (hno : ∀ x ∈ l, isN f.f0 x.f0 = false) : diskM (l.takeWhile (lessN f.f0) ++ f :: l.dropWhile (lessN f.f0)) = decide (l.length < 8 ∧ f.f1.length + f.f2.length ≤ 20000) := by
  obtain ⟨h1, h2⟩ := disk_each h
  have hpw := srt_pw.1 (disk_srt h)
  have hlen : (l.takeWhile (lessN f.f0) ++ f :: l.dropWhile (lessN f.f0)).length = l.length + 1 := by
    have := congrArg List.length (List.takeWhile_append_dropWhile (p := lessN f.f0) (l := l))
    simp only [List.length_append, List.length_cons] at this ⊢
    omega
  by_cases hb : l.length < 8 ∧ f.f1.length + f.f2.length ≤ 20000
  · rw [decide_eq_true hb]
    refine disk_of (by omega) (fun y hy => ?_) ?_
    · rcases List.mem_append.1 hy with hy | hy
      · exact h2 y ((List.takeWhile_sublist _).subset hy)
      rcases List.mem_cons.1 hy with rfl | hy
      · exact ⟨hn, hb.2⟩
      exact h2 y (dw_mem _ _ _ hy)
    have hs := hpw
    rw [← List.takeWhile_append_dropWhile (p := lessN f.f0) (l := l), List.pairwise_append] at hs
    refine List.pairwise_append.2 ⟨hs.1, List.pairwise_cons.2 ⟨fun y hy => ?_, hs.2.1⟩, fun x hx y hy => ?_⟩
    · have a1 := dw_less hpw y hy
      cases hq : Op.bytesLess (nm f) (nm y) with
      | true => exact hq
      | false =>
        have := lt_total _ _ a1 hq
        have h3 := hno y (dw_mem _ _ _ hy)
        unfold isN at h3
        rw [beq_eq_false_iff_ne] at h3
        exact absurd this h3
    rcases List.mem_cons.1 hy with rfl | hy
    · exact tw_all l x hx
    exact hs.2.2 x hx y hy
  rw [decide_eq_false hb]
  cases hd : diskM (l.takeWhile (lessN f.f0) ++ f :: l.dropWhile (lessN f.f0)) with
  | false => rfl
  | true =>
    have := disk_each hd
    exact absurd ⟨by omega, (this.2 f (by simp)).2⟩ hb
end Go.Proofs.YtcgojdhbphocgaaDoor.DK

namespace Go.Proofs.YtcgojdhbphocgaaDoor.GT
set_option linter.unusedVariables false
set_option linter.unusedSimpArgs false
open Go.RowKit Go.Proofs.YtcgojdhbphocgaaDoor.F Go.Proofs.YtcgojdhbphocgaaDoor.PK Go.Proofs.YtcgojdhbphocgaaDoorW.PrintWords Go.Proofs.YtcgojdhbphocgaaDoorW.PrintLast Go.Proofs.YtcgojdhbphocgaaDoorW.PrintMore
open Go.Proofs.YtcgojdhbphocgaaDoor.DK
def getM (l : List S55) (a : ByteArray) : Option S55 := l.find? (fun y => isN a y.f0)
theorem isN_iff (a b : ByteArray) : isN a b = true ↔ b = a := ⟨fun h => ba_ext (by simpa [isN] using h), fun h => by simp [isN, h]⟩
theorem get_none {l : List S55} {a : ByteArray} : getM l a = none ↔ ∀ y ∈ l, y.f0 ≠ a := by
  unfold getM
  rw [List.find?_eq_none]
  exact ⟨fun h y hy e => h y hy ((isN_iff a y.f0).2 e), fun h y hy e => h y hy ((isN_iff _ _).1 e)⟩
theorem get_some {l : List S55} {a : ByteArray} {y : S55} (h : getM l a = some y) : y ∈ l ∧ y.f0 = a := ⟨List.mem_of_find?_eq_some h, (isN_iff _ _).1 (by simpa using List.find?_some h)⟩
theorem get_mem {l : List S55} {y : S55} (h : diskM l = true) (hy : y ∈ l) : getM l y.f0 = some y := by
  cases e : getM l y.f0 with
  | none => exact absurd rfl (get_none.1 e y hy)
  | some z =>
    obtain ⟨hz, hn⟩ := get_some e
    congr
    obtain ⟨i, hi, rfl⟩ := List.mem_iff_getElem.1 hy
    obtain ⟨j, hj, rfl⟩ := List.mem_iff_getElem.1 hz
    rcases Nat.lt_trichotomy i j with hij | rfl | hij
    · have := disk_srt h i j hij _ _ (List.getElem?_eq_getElem hi) (List.getElem?_eq_getElem hj)
      unfold nm at this; rw [hn, lt_irr] at this; cases this
    · rfl
    have := disk_srt h j i hij _ _ (List.getElem?_eq_getElem hj) (List.getElem?_eq_getElem hi)
    unfold nm at this; rw [hn, lt_irr] at this; cases this
theorem get_in {l : List S55} {y : S55} {a : ByteArray} (h : diskM l = true) (hy : y ∈ l) (e : y.f0 = a) : getM l a = some y := e ▸ get_mem h hy
theorem mem_put {l : List S55} (f x : S55) : x ∈ putM l f ↔ x = f ∨ (x ∈ l ∧ x.f0 ≠ f.f0) := by
  have e : l.takeWhile (lessN f.f0) ++ l.dropWhile (lessN f.f0) = l := List.takeWhile_append_dropWhile
  have hl : x ∈ l ↔ x ∈ l.takeWhile (lessN f.f0) ∨ x ∈ l.dropWhile (lessN f.f0) := by rw [← List.mem_append, e]
  have ht : ∀ x ∈ l.takeWhile (lessN f.f0), x.f0 ≠ f.f0 := fun x hx q => by
    have := tw_all l x hx
    unfold lessN nm at this; rw [q, lt_irr] at this; cases this
  unfold putM
  rw [List.mem_append, List.mem_cons, List.mem_filter, hl]
  constructor
  · rintro (q | q | ⟨q, q2⟩)
    · exact .inr ⟨.inl q, ht x q⟩
    · exact .inl q
    exact .inr ⟨.inr q, fun e => by unfold notN at q2; rw [(isN_iff _ _).2 e] at q2; cases q2⟩
  rintro (q | ⟨q | q, q2⟩)
  · exact .inr (.inl q)
  · exact .inl q
  refine .inr (.inr ⟨q, ?_⟩)
  unfold notN
  cases h : isN f.f0 x.f0 with
  | true => exact absurd ((isN_iff _ _).1 h) q2
  | false => rfl
theorem get_ext {l m : List S55} {b : ByteArray} (hm : diskM m = true) (e : ∀ y : S55, y.f0 = b → (y ∈ l ↔ y ∈ m)) : getM l b = getM m b := by
  cases q : getM l b with
  | none => symm; rw [get_none] at q ⊢; exact fun y hy hb => q y ((e y hb).2 hy) hb
  | some y =>
    obtain ⟨h1, h2⟩ := get_some q
    exact (get_in hm ((e y h2).1 h1) h2).symm
theorem put_self {l : List S55} {f : S55} (h : diskM (putM l f) = true) : getM (putM l f) f.f0 = some f := get_in h ((mem_put f f).2 (.inl rfl)) rfl
theorem put_other {l : List S55} {f : S55} {b : ByteArray} (h : diskM l = true) (hb : b ≠ f.f0) : getM (putM l f) b = getM l b :=
  get_ext h fun y hy => by
    rw [mem_put]
    exact ⟨fun q => q.elim (fun q => absurd (by rw [← hy, q]) hb) (fun q => q.1), fun q => .inr ⟨q, by rw [hy]; exact hb⟩⟩
theorem idx_none {l : List S55} {a : ByteArray} : idxF (isN a) l 0 < 0 ↔ getM l a = none := by
  rw [get_none]
  rcases idxF_at (isN a) l 0 with ⟨e, q⟩ | ⟨m, x, e, hx, hp, _⟩
  · rw [e]
    exact ⟨fun _ y hy he => (by have := q y hy; rw [(isN_iff _ _).2 he] at this; cases this), fun _ => by decide⟩
  rw [e]
  exact ⟨fun h => by omega, fun h => absurd ((isN_iff _ _).1 hp) (h x (List.mem_of_getElem? hx))⟩
theorem idx_some {l : List S55} {a : ByteArray} {y : S55} (h : diskM l = true) (e : getM l a = some y) : ∃ (m : Nat) (hm : m < l.length), idxF (isN a) l 0 = m ∧ l[m] = y ∧ rd_T55 l (idxF (isN a) l 0) = y ∧ nm y = a.toList := by
  have hi : ¬ idxF (isN a) l 0 < 0 := fun q => by rw [idx_none.1 q] at e; cases e
  obtain ⟨m, x, e2, hx, hn, hm⟩ := idx_at l a hi
  have hxm : l[m] = x := by rw [List.getElem?_eq_getElem hm] at hx; exact Option.some.inj hx
  have h1 : getM l a = some x := get_in h (by rw [← hxm]; exact List.getElem_mem hm) (ba_ext hn)
  rw [h1] at e
  have hxy := Option.some.inj e
  subst hxy
  exact ⟨m, hm, e2, hxm, by rw [e2, rd55 l m hm, hxm], hn⟩
theorem content_of {l : List S55} {a : ByteArray} {y : S55} (h : diskM l = true) (e : getM l a = some y) : contentM l a = (y.f1 ++ y.f2, true) := by
  obtain ⟨m, hm, e1, _, e2, _⟩ := idx_some h e
  unfold contentM
  rw [if_pos h, if_neg (by omega), e2]
theorem content_not {l : List S55} {a : ByteArray} (e : getM l a = none) : contentM l a = ([], false) := by
  unfold contentM
  rw [if_pos (idx_none.2 e), ite_self]
theorem bd_of {l : List S55} {a : ByteArray} {y : S55} (h : diskM l = true) (e : getM l a = some y) : y.f1.length + y.f2.length ≤ 20000 ∧ nameM a = true ∧ y.f0 = a := by
  obtain ⟨h1, h2⟩ := get_some e
  have := (disk_each h).2 y h1
  exact ⟨this.2, by rw [← h2]; exact this.1, h2⟩
theorem put_disk' {l : List S55} (f : S55) (h : diskM l = true) (hn : nameM f.f0 = true) (hb : f.f1.length + f.f2.length ≤ 20000) (hl : getM l f.f0 = none → l.length < 8) : diskM (putM l f) = true := by
  cases e : getM l f.f0 with
  | none =>
    have hq : ∀ x ∈ l, isN f.f0 x.f0 = false := fun x hx => by
      cases q : isN f.f0 x.f0 with
      | true => exact absurd ((isN_iff _ _).1 q) (get_none.1 e x hx)
      | false => rfl
    rw [put_new f hq, disk_new f h hn hq, decide_eq_true_iff]
    exact ⟨hl e, hb⟩
  | some y =>
    obtain ⟨m, hm, e1, e2, _, e3⟩ := idx_some h e
    rw [put_at (disk_srt h) f m y (by rw [List.getElem?_eq_getElem hm, e2]) e3, disk_set l m hm h f (by rw [e2]; exact (get_some e).2.symm), decide_eq_true_iff]
    exact hb
theorem put_len {l : List S55} {f : S55} : (putM l f).length ≤ l.length + 1 := by
  unfold putM
  have h1 := List.length_filter_le (notN f.f0) (l.dropWhile (lessN f.f0))
  have h2 : (l.takeWhile (lessN f.f0)).length + (l.dropWhile (lessN f.f0)).length = l.length := by rw [← List.length_append, List.takeWhile_append_dropWhile]
  rw [List.length_append, List.length_cons]
  omega
theorem put_len_some {l : List S55} {f y : S55} (h : diskM l = true) (e : getM l f.f0 = some y) : (putM l f).length = l.length := by
  obtain ⟨m, hm, e1, e2, _, e3⟩ := idx_some h e
  rw [put_at (disk_srt h) f m y (by rw [List.getElem?_eq_getElem hm, e2]) e3, List.length_set]
theorem app_some {l : List S55} {a : ByteArray} {y : S55} {d : List Int} (h : diskM l = true) (e : getM l a = some y) (hb : d.length + y.f1.length + y.f2.length ≤ 20000) : appM l a d = (putM l ⟨a, y.f1, y.f2 ++ d⟩, true) ∧ diskM (putM l ⟨a, y.f1, y.f2 ++ d⟩) = true := by
  obtain ⟨m, hm, e1, _, e2, _⟩ := idx_some h e
  have hn := (bd_of h e).2.1
  refine ⟨?_, put_disk' (⟨a, y.f1, y.f2 ++ d⟩ : S55) h hn (by simp only [List.length_append]; omega) (fun q => by rw [show getM l a = none from q] at e; cases e)⟩
  unfold appM
  rw [if_pos ⟨h, hn⟩, if_neg (by omega), e2]
  unfold appF
  rw [if_pos hb]
theorem app_none {l : List S55} {a : ByteArray} {d : List Int} (h : diskM l = true) (e : getM l a = none) (hn : nameM a = true) (hl : l.length < 8) (hb : d.length ≤ 20000) : appM l a d = (putM l ⟨a, [], d⟩, true) ∧ diskM (putM l ⟨a, [], d⟩) = true := by
  refine ⟨?_, put_disk' (⟨a, [], d⟩ : S55) h hn (by simp only [List.length_nil]; omega) (fun _ => hl)⟩
  unfold appM
  rw [if_pos ⟨h, hn⟩, if_pos (idx_none.2 e), if_neg (by omega)]
  unfold appF
  rw [if_pos (by simp only [List.length_nil]; omega), List.nil_append]
theorem sync_some {l : List S55} {a : ByteArray} {y : S55} (h : diskM l = true) (e : getM l a = some y) : syncM l a = (putM l ⟨a, y.f1 ++ y.f2, []⟩, true) ∧ diskM (putM l ⟨a, y.f1 ++ y.f2, []⟩) = true := by
  obtain ⟨m, hm, e1, e2, _, e3⟩ := idx_some h e
  have hb := bd_of h e
  refine ⟨?_, put_disk' (⟨a, y.f1 ++ y.f2, []⟩ : S55) h hb.2.1 (by simp only [List.length_append, List.length_nil]; omega) (fun q => by rw [show getM l a = none from q] at e; cases e)⟩
  unfold syncM
  rw [content_of h e, if_pos rfl, e1, Int.toNat_natCast, put_at (disk_srt h) (⟨a, y.f1 ++ y.f2, []⟩ : S55) m y (by rw [List.getElem?_eq_getElem hm, e2]) e3]
theorem sync_none {l : List S55} {a : ByteArray} (e : getM l a = none) : syncM l a = (l, false) := by
  unfold syncM
  rw [content_not e, if_neg (by decide)]
theorem cut_some {l : List S55} {a : ByteArray} {y : S55} {n : Int} (h : diskM l = true) (e : getM l a = some y) (h0 : 0 ≤ n) (h1 : n ≤ ((y.f1 ++ y.f2).length : Int)) : cutM l a n = (putM l ⟨a, (y.f1 ++ y.f2).take n.toNat, []⟩, true) ∧ diskM (putM l ⟨a, (y.f1 ++ y.f2).take n.toNat, []⟩) = true := by
  obtain ⟨m, hm, e1, e2, _, e3⟩ := idx_some h e
  have hb := bd_of h e
  refine ⟨?_, put_disk' (⟨a, (y.f1 ++ y.f2).take n.toNat, []⟩ : S55) h hb.2.1 (by simp only [List.length_take, List.length_append, List.length_nil]; omega) (fun q => by rw [show getM l a = none from q] at e; cases e)⟩
  unfold cutM
  rw [content_of h e, if_pos rfl, if_pos ⟨h0, h1⟩, e1, Int.toNat_natCast, put_at (disk_srt h) (⟨a, (y.f1 ++ y.f2).take n.toNat, []⟩ : S55) m y (by rw [List.getElem?_eq_getElem hm, e2]) e3]
end Go.Proofs.YtcgojdhbphocgaaDoor.GT

namespace Go.Proofs.YtcgojdhbphocgaaDoor.CR
set_option linter.unusedVariables false
set_option linter.unusedSimpArgs false
open Go.RowKit Go.Proofs.YtcgojdhbphocgaaDoor.F Go.Proofs.YtcgojdhbphocgaaDoor.PK Go.Proofs.YtcgojdhbphocgaaDoorW.PrintWords Go.Proofs.YtcgojdhbphocgaaDoorW.PrintLast
open Go.Proofs.YtcgojdhbphocgaaDoor.BY
def U32 (x : Int) : Prop := 0 ≤ x ∧ x < 4294967296
theorem xor_nat (a b : Int) (ha : U32 a) (hb : U32 b) : Go.bits .xor .u32 a b = ((a.toNat ^^^ b.toNat : Nat) : Int) := u32_xor a b ha.1 ha.2 hb.1 hb.2
theorem xor_u32 (a b : Int) (ha : U32 a) (hb : U32 b) : U32 (Go.bits .xor .u32 a b) := by
  rw [xor_nat a b ha hb]
  have h1 : a.toNat < 2 ^ 32 := by have := ha.2; have := ha.1; omega
  have h2 : b.toNat < 2 ^ 32 := by have := hb.2; have := hb.1; omega
  have := Nat.xor_lt_two_pow h1 h2
  exact ⟨by omega, by omega⟩
theorem xor_comm32 (a b : Int) (ha : U32 a) (hb : U32 b) : Go.bits .xor .u32 a b = Go.bits .xor .u32 b a := by rw [xor_nat a b ha hb, xor_nat b a hb ha, Nat.xor_comm]
theorem and1 (a : Int) (ha : U32 a) : Go.bits .and .u32 a 1 = a % 2 := by
  rw [u32_and a 1 ha.1 ha.2 (by omega) (by omega)]
  rw [show (1 : Int).toNat = 1 from rfl, Nat.and_one_is_mod]
  have := ha.1
  omega
def step (x : Int) : Int := if x % 2 = 1 then Go.bits .xor .u32 (x / 2) 3988292384 else x / 2
theorem step_u32 (x : Int) (h : U32 x) : U32 (step x) := by
  have hh : U32 (x / 2) := ⟨by have := h.1; omega, by have := h.1; have := h.2; omega⟩
  unfold step
  split
  · exact xor_u32 _ _ hh ⟨by omega, by omega⟩
  exact hh
def steps : Nat → Int → Int
  | 0, x => x
  | n + 1, x => steps n (step x)
theorem steps_u32 (n : Nat) (x : Int) (h : U32 x) : U32 (steps n x) := by
  induction n generalizing x with
  | zero => exact h
  | succ n ih => exact ih _ (step_u32 x h)
def byteStep (x b : Int) : Int := steps 8 (Go.bits .xor .u32 x (b % 4294967296))
theorem byteStep_def (x b : Int) : byteStep x b = steps 8 (Go.bits .xor .u32 x (b % 4294967296)) := rfl
def crcL (x : Int) (l : List Int) : Int := l.foldl byteStep x
theorem crcL_cons (x b : Int) (r : List Int) : crcL x (b :: r) = crcL (byteStep x b) r := List.foldl_cons ..
theorem crcL_nil (x : Int) : crcL x [] = x := List.foldl_nil ..
theorem byte_u32 (b : Int) : U32 (b % 4294967296) := ⟨Int.emod_nonneg _ (by omega), Int.emod_lt_of_pos _ (by omega)⟩
theorem byteStep_u32 (x b : Int) (h : U32 x) : U32 (byteStep x b) := by rw [byteStep_def]; exact steps_u32 _ _ (xor_u32 _ _ h (byte_u32 b))
attribute [irreducible] byteStep
theorem crcL_u32 (l : List Int) (x : Int) (h : U32 x) : U32 (crcL x l) := by
  induction l generalizing x with
  | nil => rw [crcL_nil]; exact h
  | cons b r ih => rw [crcL_cons]; exact ih _ (byteStep_u32 x b h)
def crcM (l : List Int) : Int := Go.bits .xor .u32 (crcL 4294967295 l) 4294967295
theorem impl_in (l : List Int) (n i : Int) (r : Int) : ∀ (d j : Nat), d + j = 8 → ∀ x, U32 x → Ev (fun k => impl_crc32.l0 k (steps d x) l n (wrap64 (i + 1))) r → Ev (fun k => impl_crc32.l1 k x l n i j) r := by
  intro d
  induction d with
  | zero =>
    intro j hj x hx h
    refine EvS ?_
    simp only [impl_crc32.l1, if_neg (show ¬ (j : Int) < 8 by omega)]
    exact h
  | succ d ih =>
    intro j hj x hx h
    refine EvS ?_
    simp only [impl_crc32.l1, if_pos (show (j : Int) < 8 by omega), and1 x hx, w64 (x := (j : Int) + 1) (by omega) (by omega)]
    have h2 := ih (j + 1) (by omega) (step x) (step_u32 x hx) h
    by_cases h3 : x % 2 = 1
    · simp only [if_pos h3]
      simp only [step, if_pos h3] at h2
      exact h2
    simp only [if_neg h3]
    simp only [step, if_neg h3] at h2
    exact h2
theorem impl_in0 (l : List Int) (n i : Int) (r x : Int) (hx : U32 x) (h : Ev (fun k => impl_crc32.l0 k (steps 8 x) l n (wrap64 (i + 1))) r) : Ev (fun k => impl_crc32.l1 k x l n i 0) r := impl_in l n i r 8 0 rfl x hx h
theorem spec_in (l : List Int) (i : Int) (r : Int) : ∀ (d j : Nat), d + j = 8 → ∀ x, U32 x → Ev (fun k => spec_Crc32.l0 k l (steps d x) (wrap64 (i + 1))) r → Ev (fun k => spec_Crc32.l1 k l x i j) r := by
  intro d
  induction d with
  | zero =>
    intro j hj x hx h
    refine EvS ?_
    simp only [spec_Crc32.l1, if_neg (show ¬ (j : Int) < 8 by omega)]
    exact h
  | succ d ih =>
    intro j hj x hx h
    have e1 : Int.tmod x 2 = x % 2 := Int.tmod_eq_emod_of_nonneg hx.1
    have e2 : Int.tdiv x 2 % 4294967296 = x / 2 := by rw [Int.tdiv_eq_ediv_of_nonneg hx.1]; have := hx.1; have := hx.2; omega
    refine EvS ?_
    simp only [spec_Crc32.l1, if_pos (show (j : Int) < 8 by omega), e1, e2, w64 (x := (j : Int) + 1) (by omega) (by omega)]
    have h2 := ih (j + 1) (by omega) (step x) (step_u32 x hx) h
    by_cases h3 : x % 2 = 1
    · simp only [if_pos h3]
      simp only [step, if_pos h3] at h2
      exact h2
    simp only [if_neg h3]
    simp only [step, if_neg h3] at h2
    exact h2
theorem spec_in0 (l : List Int) (i : Int) (r x : Int) (hx : U32 x) (h : Ev (fun k => spec_Crc32.l0 k l (steps 8 x) (wrap64 (i + 1))) r) : Ev (fun k => spec_Crc32.l1 k l x i 0) r := spec_in l i r 8 0 rfl x hx h
theorem impl_crc (l : List Int) (hl : l.length ≤ 9000000000000000000) : Ev (fun k => impl_crc32.f k l) (crcM l) := by
  have key := up0 (P := fun i => ∀ x, U32 x → Ev (fun k => impl_crc32.l0 k x l (l.length : Int) i) (Go.bits .xor .u32 (crcL x (l.drop i.toNat)) 4294967295)) l.length
    (fun x hx => EvS (by
      simp only [impl_crc32.l0, Int.lt_irrefl, if_false, Int.toNat_natCast, List.drop_length, crcL_nil, xor_comm32 4294967295 x ⟨by omega, by omega⟩ hx]
      exact EvN))
    (fun i hi ih x hx => EvS (by
      simp only [impl_crc32.l0, if_pos (show (i : Int) < (l.length : Int) by omega), if_pos (show 0 ≤ (i : Int) by omega), rd_at l i hi, Int.toNat_natCast, drop_at l i hi, crcL_cons]
      have hx2 := xor_u32 x _ hx (byte_u32 l[i])
      refine impl_in0 l _ i _ _ hx2 ?_
      rw [nxt i _ hi (by omega), ← byteStep_def]
      have h := ih _ (byteStep_u32 x l[i] hx)
      rw [Int.toNat_natCast] at h
      exact h))
  have h := key 4294967295 ⟨by omega, by omega⟩
  unfold impl_crc32.f crcM
  exact h
theorem spec_crc (l : List Int) (hl : l.length ≤ 9000000000000000000) : Ev (fun k => spec_Crc32.f k l) (if (l.length : Int) > 20000 then 0 else crcM l) := by
  have key := up0 (P := fun i => ∀ x, U32 x → Ev (fun k => spec_Crc32.l0 k l x i) (Go.bits .xor .u32 (crcL x (l.drop i.toNat)) 4294967295)) l.length
    (fun x hx => EvS (by
      simp only [spec_Crc32.l0, Int.lt_irrefl, if_false, Int.toNat_natCast, List.drop_length, crcL_nil]
      exact EvN))
    (fun i hi ih x hx => EvS (by
      simp only [spec_Crc32.l0, if_pos (show (i : Int) < (l.length : Int) by omega), if_pos (show 0 ≤ (i : Int) by omega), rd_at l i hi, Int.toNat_natCast, drop_at l i hi, crcL_cons]
      have hx2 := xor_u32 x _ hx (byte_u32 l[i])
      refine spec_in0 l i _ _ hx2 ?_
      rw [nxt i _ hi (by omega), ← byteStep_def]
      have h := ih _ (byteStep_u32 x l[i] hx)
      rw [Int.toNat_natCast] at h
      exact h))
  unfold spec_Crc32.f
  by_cases h : (l.length : Int) > 20000
  · simp only [if_pos h]; exact EvN
  simp only [if_neg h]
  have h := key 4294967295 ⟨by omega, by omega⟩
  unfold crcM
  exact h
end Go.Proofs.YtcgojdhbphocgaaDoor.CR

namespace Go.Proofs.YtcgojdhbphocgaaDoor.BY
set_option linter.unusedVariables false
set_option linter.unusedSimpArgs false
open Go.RowKit Go.Proofs.YtcgojdhbphocgaaDoor.F Go.Proofs.YtcgojdhbphocgaaDoor.PK Go.Proofs.YtcgojdhbphocgaaDoorW.PrintWords Go.Proofs.YtcgojdhbphocgaaDoorW.PrintLast Go.Proofs.YtcgojdhbphocgaaDoorW.PrintMore
theorem sBytes (l : List Int) (hl : l.length ≤ 1000000000) : Ev (fun k => spec_l01Bytes.f k l) l := by
  have key := up0 (P := fun i => Ev (fun k => spec_l01Bytes.l0 k l (l.take i.toNat) i) l) l.length
    (EvS (by simp only [spec_l01Bytes.l0, Int.lt_irrefl, if_false, Int.toNat_natCast, List.take_length]; exact EvN))
    (fun i hi ih => EvS (by
      simp only [spec_l01Bytes.l0, if_pos (show (i : Int) < (l.length : Int) by omega), if_pos (show 0 ≤ (i : Int) by omega), Int.toNat_natCast, rd_at l i hi, nxt i _ hi (by omega), if_pos (show (l.take i).length < 140737488355328 by rw [List.length_take]; omega)]
      rw [Int.toNat_natCast, List.take_add_one, List.getElem?_eq_getElem hi] at ih
      exact ih))
  unfold spec_l01Bytes.f
  exact key
theorem sJoin (l m : List Int) (hl : l.length ≤ 1000000000) (hm : m.length ≤ 1000000000) : Ev (fun k => spec_l01Join.f k l m) (l ++ m) := by
  have key := up0 (P := fun i => Ev (fun k => spec_l01Join.l0 k m (l ++ m.take i.toNat) i) (l ++ m)) m.length
    (EvS (by simp only [spec_l01Join.l0, Int.lt_irrefl, if_false, Int.toNat_natCast, List.take_length]; exact EvN))
    (fun i hi ih => EvS (by
      simp only [spec_l01Join.l0, if_pos (show (i : Int) < (m.length : Int) by omega), if_pos (show 0 ≤ (i : Int) by omega), Int.toNat_natCast, rd_at m i hi, nxt i _ hi (by omega), if_pos (show (l ++ m.take i).length < 140737488355328 by rw [List.length_append, List.length_take]; omega)]
      rw [Int.toNat_natCast, List.take_add_one, List.getElem?_eq_getElem hi, ← List.append_assoc] at ih
      exact ih))
  unfold spec_l01Join.f
  simp only [EvB (sBytes l hl)]
  have e : l ++ m.take (0 : Int).toNat = l := by simp
  rw [e] at key
  exact key
end Go.Proofs.YtcgojdhbphocgaaDoor.BY

namespace Go.Proofs.YtcgojdhbphocgaaDoor.FR
set_option linter.unusedVariables false
set_option linter.unusedSimpArgs false
open Go.RowKit Go.Proofs.YtcgojdhbphocgaaDoor.F Go.Proofs.YtcgojdhbphocgaaDoor.PK Go.Proofs.YtcgojdhbphocgaaDoorW.PrintWords Go.Proofs.YtcgojdhbphocgaaDoorW.PrintLast Go.Proofs.YtcgojdhbphocgaaDoorW.PrintMore
open Go.Proofs.YtcgojdhbphocgaaDoor.BY Go.Proofs.YtcgojdhbphocgaaDoor.CR
def four (x : Int) : List Int := [x % 256, x / 256 % 256, x / 65536 % 256, x / 16777216 % 256]
def okP (p : List Int) : Prop := 1 ≤ p.length ∧ p.length ≤ 600
instance (p : List Int) : Decidable (okP p) := by unfold okP; infer_instance
def frameM (p : List Int) : List Int := if okP p then four p.length ++ four (crcM p) ++ p else []
theorem four_length (x : Int) : (four x).length = 4 := rfl
theorem frameM_length (p : List Int) (h : okP p) : (frameM p).length = 8 + p.length := by
  unfold frameM
  rw [if_pos h, List.length_append, List.length_append, four_length, four_length]
theorem frameM_le (p : List Int) : (frameM p).length ≤ 608 := by
  by_cases h : okP p
  · rw [frameM_length p h]; have := h.2; omega
  unfold frameM; rw [if_neg h]; simp
theorem crcM_u32 (p : List Int) : U32 (crcM p) := by
  unfold crcM
  exact xor_u32 _ _ (crcL_u32 p _ ⟨by omega, by omega⟩) ⟨by omega, by omega⟩
theorem implFour (l : List Int) (x : Int) (hl : l.length ≤ 1000000000) : binary_littleEndian_AppendUint32.f l x = some (l ++ four x) := by
  unfold binary_littleEndian_AppendUint32.f four
  simp only [Option.bind_some, List.length_cons, List.length_nil]
  rw [if_pos (by omega)]
theorem specFour (x : Int) (h : U32 x) : spec_l02Four.f x = some (four x) := by
  unfold spec_l02Four.f four
  have h0 := h.1
  have h1 := h.2
  rw [Int.tmod_eq_emod_of_nonneg h0, Int.tdiv_eq_ediv_of_nonneg h0, Int.tdiv_eq_ediv_of_nonneg h0, Int.tdiv_eq_ediv_of_nonneg h0]
  rw [show x % 256 % 256 = x % 256 by omega, show x / 256 % 4294967296 % 256 = x / 256 % 256 by omega, show x / 65536 % 4294967296 % 256 = x / 65536 % 256 by omega, show x / 16777216 % 4294967296 % 256 = x / 16777216 % 256 by omega]
theorem impl_frame (p : List Int) (hl : p.length ≤ 1048576) : Ev (fun k => impl_frame.f k p) (frameM p) := by
  have J : ∀ q : Bool, q = decide (¬ okP p) → Ev (fun k => impl_frame.j0 k p q) (frameM p) := by
    intro q hq
    subst hq
    refine EvS ?_
    unfold frameM
    by_cases h : okP p
    · have hp := h.2
      simp only [impl_frame.j0, h, not_true_eq_false, decide_false, Bool.false_eq_true, if_false, if_true, implFour [] _ (by simp), Option.bind_some, List.nil_append, EvB (impl_crc p (by omega)), implFour (four p.length) _ (by rw [four_length]; omega), show (p.length : Int) % 4294967296 = p.length by omega]
      rw [List.length_append, four_length, four_length]
      simp only [if_pos (show 4 + 4 + p.length < 140737488355328 by omega)]
      exact EvN
    simp only [impl_frame.j0, h, not_false_eq_true, decide_true, if_true, if_false]
    exact EvN
  unfold impl_frame.f
  by_cases h1 : (p.length : Int) < 1
  · simp only [if_pos h1]
    exact J _ (by rw [decide_eq_true (show ¬ okP p by unfold okP; omega)])
  simp only [if_neg h1]
  refine J _ ?_
  by_cases h2 : (p.length : Int) > 600
  · rw [decide_eq_true h2, decide_eq_true (show ¬ okP p by unfold okP; omega)]
  rw [decide_eq_false h2, decide_eq_false (show ¬ ¬ okP p by unfold okP; omega)]
theorem sIn (x lo hi : Int) : spec_l01In.f x lo hi = some (decide (lo ≤ x ∧ x ≤ hi)) := by
  unfold spec_l01In.f
  by_cases h : lo ≤ x <;> simp [h]
theorem spec_frame (p : List Int) (hl : p.length ≤ 1048576) : Ev (fun k => spec_Frame.f k p) (frameM p) := by
  unfold spec_Frame.f frameM
  simp only [sIn, Option.bind_some, decide_eq_true_eq]
  by_cases h : okP p
  · have h1 := h.1
    have h2 := h.2
    have hcr := spec_crc p (by omega)
    rw [if_neg (show ¬ (p.length : Int) > 20000 by omega)] at hcr
    simp only [if_pos (show (1 : Int) ≤ p.length ∧ (p.length : Int) ≤ 600 by omega), show (p.length : Int) % 4294967296 = p.length by omega, specFour _ (show U32 (p.length : Int) from ⟨by omega, by omega⟩), Option.bind_some, EvB hcr, specFour _ (crcM_u32 p), EvB (sJoin (four p.length) (four (crcM p)) (by rw [four_length]; omega) (by rw [four_length]; omega)), EvB (sJoin (four p.length ++ four (crcM p)) p (by rw [List.length_append, four_length, four_length]; omega) (by omega)), if_pos h]
    exact EvN
  simp only [if_neg (show ¬ ((1 : Int) ≤ p.length ∧ (p.length : Int) ≤ 600) by unfold okP at h; omega), if_neg h]
  exact EvN
end Go.Proofs.YtcgojdhbphocgaaDoor.FR

namespace Go.Proofs.YtcgojdhbphocgaaDoor.BY
set_option linter.unusedVariables false
set_option linter.unusedSimpArgs false
open Go.RowKit Go.Proofs.YtcgojdhbphocgaaDoor.F Go.Proofs.YtcgojdhbphocgaaDoor.PK Go.Proofs.YtcgojdhbphocgaaDoorW.PrintWords Go.Proofs.YtcgojdhbphocgaaDoorW.PrintLast Go.Proofs.YtcgojdhbphocgaaDoorW.PrintMore
theorem l01Same (x y : List Int) (hx : x.length ≤ 9223372036854775807) : Ev (fun k => spec_l01Same.f k x y) (decide (x = y)) := by
  unfold spec_l01Same.f
  by_cases hl : x.length = y.length
  · simp only [if_pos (show (x.length : Int) = (y.length : Int) by omega)]
    have key := up0 (P := fun i => Ev (fun k => spec_l01Same.l0 k x y i) (decide (x.drop i.toNat = y.drop i.toNat))) x.length
      (EvS (by
        simp only [spec_l01Same.l0, Int.lt_irrefl, if_false, Int.toNat_natCast, List.drop_length]
        rw [hl, List.drop_length]
        simp only [decide_true]
        exact EvN))
      (fun i hi ih => EvS (by
        have hiy : i < y.length := by omega
        simp only [spec_l01Same.l0, if_pos (show (i : Int) < (x.length : Int) by omega), if_pos (show 0 ≤ (i : Int) by omega), if_pos (show (i : Int) < (y.length : Int) by omega), nxt i _ hi hx, Int.toNat_natCast, rd_at x i hi, rd_at y i hiy, drop_at x i hi, drop_at y i hiy]
        by_cases he : x[i] = y[i]
        · simp only [he, if_true, List.cons.injEq, true_and]
          rw [Int.toNat_natCast] at ih
          exact ih
        simp only [if_neg he, List.cons.injEq, he, false_and, decide_false]
        exact EvN))
    exact key
  simp only [if_neg (show ¬ (x.length : Int) = (y.length : Int) by omega)]
  rw [decide_eq_false (fun h => hl (by rw [h]))]
  exact EvN
end Go.Proofs.YtcgojdhbphocgaaDoor.BY

namespace Go.Proofs.YtcgojdhbphocgaaDoor.SC
set_option linter.unusedVariables false
set_option linter.unusedSimpArgs false
open Go.RowKit Go.Proofs.YtcgojdhbphocgaaDoor.F Go.Proofs.YtcgojdhbphocgaaDoor.PK Go.Proofs.YtcgojdhbphocgaaDoorW.PrintWords Go.Proofs.YtcgojdhbphocgaaDoorW.PrintLast Go.Proofs.YtcgojdhbphocgaaDoorW.PrintMore
open Go.Proofs.YtcgojdhbphocgaaDoor.BY Go.Proofs.YtcgojdhbphocgaaDoor.CR Go.Proofs.YtcgojdhbphocgaaDoor.FR
def Byt (l : List Int) : Prop := ∀ x ∈ l, 0 ≤ x ∧ x < 256
theorem Byt.drop {l : List Int} (h : Byt l) (n : Nat) : Byt (l.drop n) := fun x hx => h x (List.mem_of_mem_drop hx)
theorem Byt.take {l : List Int} (h : Byt l) (n : Nat) : Byt (l.take n) := fun x hx => h x (List.mem_of_mem_take hx)
theorem Byt.rd {l : List Int} (h : Byt l) (i : Nat) (hi : i < l.length) : 0 ≤ rd l (i : Int) ∧ rd l (i : Int) < 256 := by
  rw [rd_at l i hi]
  exact h _ (List.getElem_mem hi)
def le32 (d : List Int) : Int := rd d 0 + 256 * rd d 1 + 65536 * rd d 2 + 16777216 * rd d 3
theorem or_add (a b : Int) (i : Nat) (ha0 : 0 ≤ a) (ha : a < 2 ^ i) (hb0 : 0 ≤ b) (hs : a + b * 2 ^ i < 4294967296) (hi : (1 : Int) ≤ 2 ^ i) : Go.bits .or .u32 a (b * 2 ^ i) = a + b * 2 ^ i := by
  have hm : 0 ≤ b * 2 ^ i := Int.mul_nonneg hb0 (by omega)
  rw [u32_or a (b * 2 ^ i) ha0 (by omega) hm (by omega)]
  obtain ⟨A, rfl⟩ := Int.eq_ofNat_of_zero_le ha0
  obtain ⟨B, rfl⟩ := Int.eq_ofNat_of_zero_le hb0
  have hA : A < 2 ^ i := by exact_mod_cast ha
  have e : ((B : Int) * 2 ^ i) = ((2 ^ i * B : Nat) : Int) := by rw [Nat.mul_comm]; push_cast; rfl
  rw [e, Int.toNat_natCast, Int.toNat_natCast, Nat.or_comm, ← Nat.two_pow_add_eq_or_of_lt hA B]
  push_cast
  omega
theorem uint32 (d : List Int) (h : Byt d) (hl : 4 ≤ d.length) : binary_littleEndian_Uint32.f d = some (le32 d) := by
  have h0 := h.rd 0 (by omega)
  have h1 := h.rd 1 (by omega)
  have h2 := h.rd 2 (by omega)
  have h3 := h.rd 3 (by omega)
  simp only [Int.cast_ofNat_Int] at h0 h1 h2 h3
  unfold binary_littleEndian_Uint32.f le32
  rw [if_pos (show (3 : Int) < (d.length : Int) by omega), if_pos (show (0 : Int) < (d.length : Int) by omega), if_pos (show (1 : Int) < (d.length : Int) by omega), if_pos (show (2 : Int) < (d.length : Int) by omega)]
  generalize rd d 0 = a at *
  generalize rd d 1 = b at *
  generalize rd d 2 = c at *
  generalize rd d 3 = e at *
  rw [show a % 4294967296 = a by omega, show b % 4294967296 * 256 % 4294967296 = b * 2 ^ 8 by omega, show c % 4294967296 * 65536 % 4294967296 = c * 2 ^ 16 by omega, show e % 4294967296 * 16777216 % 4294967296 = e * 2 ^ 24 by omega]
  rw [or_add a b 8 (by omega) (by omega) (by omega) (by omega) (by omega), or_add _ c 16 (by omega) (by omega) (by omega) (by omega) (by omega), or_add _ e 24 (by omega) (by omega) (by omega) (by omega) (by omega)]
  congr 1
  omega
theorem four_le32 (d : List Int) (h : Byt d) (hl : 4 ≤ d.length) : d.take 4 = four (le32 d) := by
  have h0 := h.rd 0 (by omega)
  have h1 := h.rd 1 (by omega)
  have h2 := h.rd 2 (by omega)
  have h3 := h.rd 3 (by omega)
  match d, hl with
  | a :: b :: c :: e :: r, _ =>
    have e0 : rd (a :: b :: c :: e :: r) ((0 : Nat) : Int) = a := rfl
    have e1 : rd (a :: b :: c :: e :: r) ((1 : Nat) : Int) = b := rfl
    have e2 : rd (a :: b :: c :: e :: r) ((2 : Nat) : Int) = c := rfl
    have e3 : rd (a :: b :: c :: e :: r) ((3 : Nat) : Int) = e := rfl
    rw [e0] at h0
    rw [e1] at h1
    rw [e2] at h2
    rw [e3] at h3
    have hle : le32 (a :: b :: c :: e :: r) = a + 256 * b + 65536 * c + 16777216 * e := rfl
    rw [hle]
    unfold four
    simp only [List.take_succ_cons, List.take_zero, List.cons.injEq, and_true]
    omega
theorem le32_four (x : Int) (h : U32 x) : le32 (four x) = x := by
  have hle : le32 (four x) = x % 256 + 256 * (x / 256 % 256) + 65536 * (x / 65536 % 256) + 16777216 * (x / 16777216 % 256) := rfl
  rw [hle]
  have h0 := h.1
  have h1 := h.2
  omega
theorem le32_u32 (d : List Int) (h : Byt d) (hl : 4 ≤ d.length) : U32 (le32 d) := by
  have h0 := h.rd 0 (by omega)
  have h1 := h.rd 1 (by omega)
  have h2 := h.rd 2 (by omega)
  have h3 := h.rd 3 (by omega)
  simp only [Int.cast_ofNat_Int] at h0 h1 h2 h3
  unfold le32 U32
  omega
def payM (d : List Int) : List Int := (d.take (8 + (le32 d).toNat)).drop 8
def goodM (d : List Int) : Prop := 8 ≤ d.length ∧ 1 ≤ le32 d ∧ le32 d ≤ 600 ∧ 8 + le32 d ≤ (d.length : Int) ∧ le32 (d.drop 4) = crcM (payM d)
instance (d : List Int) : Decidable (goodM d) := by unfold goodM; infer_instance
def oneM (d : List Int) : List Int := if goodM d then payM d else []
theorem pay_length (d : List Int) (h : 0 ≤ le32 d) (h2 : 8 + le32 d ≤ (d.length : Int)) : (payM d).length = (le32 d).toNat := by
  unfold payM
  rw [List.length_drop, List.length_take]
  omega
theorem spec_one (d : List Int) (h : Byt d) (hl : d.length ≤ 1048576) : Ev (fun k => spec_l02One.f k d) (oneM d) := by
  have bad : ¬ goodM d → Ev (fun k => spec_l02One.j0 k d true) (oneM d) := fun hg => EvS (by
    unfold oneM
    simp only [spec_l02One.j0, if_true, if_neg hg]
    exact EvN)
  unfold spec_l02One.f
  by_cases h9 : (d.length : Int) < 9
  · simp only [if_pos h9]
    exact bad fun hg => by unfold goodM at hg; omega
  have h0 := h.rd 0 (by omega)
  have h1 := h.rd 1 (by omega)
  have h2 := h.rd 2 (by omega)
  have h3 := h.rd 3 (by omega)
  simp only [Int.cast_ofNat_Int] at h0 h1 h2 h3
  have hle : le32 d = rd d 0 + 256 * rd d 1 + 65536 * rd d 2 + 16777216 * rd d 3 := rfl
  simp only [if_neg h9, if_pos (show (2 : Int) < (d.length : Int) by omega), if_pos (show (3 : Int) < (d.length : Int) by omega)]
  by_cases g2 : rd d 2 = 0
  · simp only [if_pos g2]
    by_cases g3 : rd d 3 = 0
    · simp only [g3, bne_self_eq_false]
      have hn : wrap64 (wrap64 (rd d 0) + wrap64 (256 * wrap64 (rd d 1))) = le32 d := by
        rw [w64 (x := rd d 0) (by omega) (by omega), w64 (x := rd d 1) (by omega) (by omega), w64 (x := 256 * rd d 1) (by omega) (by omega), w64 (by omega) (by omega)]
        omega
      refine EvS ?_
      simp only [spec_l02One.j0, Bool.false_eq_true, if_false, if_pos (show (0 : Int) < (d.length : Int) by omega), if_pos (show (1 : Int) < (d.length : Int) by omega), hn, sIn, Option.bind_some, decide_eq_true_eq, w64 (x := (d.length : Int) - 8) (by omega) (by omega)]
      by_cases g4 : 1 ≤ le32 d ∧ le32 d ≤ 600
      · simp only [if_pos g4]
        by_cases g5 : le32 d > (d.length : Int) - 8
        · simp only [if_pos g5, oneM, if_neg (show ¬ goodM d from fun hg => by unfold goodM at hg; omega)]
          exact EvN
        have e8 : (8 + le32 d).toNat = 8 + (le32 d).toNat := by omega
        have hpl := pay_length d (by omega) (by omega)
        have hpay : (d.take (8 + (le32 d).toNat)).drop 8 = payM d := rfl
        simp only [if_neg g5, w64 (x := 8 + le32 d) (by omega) (by omega), if_pos (show 8 ≤ 8 + le32 d by omega), if_pos (show 0 ≤ 8 + le32 d by omega), if_pos (show 8 + le32 d ≤ (d.length : Int) by omega), e8, hpay, EvB (spec_frame (payM d) (by omega))]
        have hfl := frameM_le (payM d)
        simp only [EvB (l01Same (frameM (payM d)) (d.take (8 + (le32 d).toNat)) (by omega)), decide_eq_true_eq]
        have hok : okP (payM d) := by unfold okP; omega
        have hiff : frameM (payM d) = d.take (8 + (le32 d).toNat) ↔ le32 (d.drop 4) = crcM (payM d) := by
          have hs : d.take (8 + (le32 d).toNat) = four (payM d).length ++ four (le32 (d.drop 4)) ++ payM d := by
            have s1 : d.take (8 + (le32 d).toNat) = (d.take 4 ++ (d.drop 4).take 4) ++ payM d := by
              rw [← List.take_add, ← hpay]
              have s2 := (List.take_append_drop 8 (d.take (8 + (le32 d).toNat))).symm
              rw [List.take_take, show min 8 (8 + (le32 d).toNat) = 8 by omega] at s2
              exact s2
            rw [s1, four_le32 d h (by omega), four_le32 (d.drop 4) (h.drop 4) (by rw [List.length_drop]; omega), hpl, Int.toNat_of_nonneg (by omega)]
          rw [hs]
          unfold frameM
          rw [if_pos hok]
          constructor
          · intro e
            have e := List.append_cancel_right e
            have e := List.append_cancel_left e
            have e := congrArg le32 e
            rw [le32_four _ (crcM_u32 _), le32_four _ (le32_u32 _ (h.drop 4) (by rw [List.length_drop]; omega))] at e
            exact e.symm
          intro e
          rw [e]
        by_cases g6 : le32 (d.drop 4) = crcM (payM d)
        · have hg : goodM d := by unfold goodM; exact ⟨by omega, g4.1, g4.2, by omega, g6⟩
          simp only [if_pos (hiff.2 g6), EvB (sBytes (payM d) (by omega)), oneM, if_pos hg]
          exact EvN
        simp only [if_neg (fun e => g6 (hiff.1 e)), oneM, if_neg (show ¬ goodM d from fun hg => g6 hg.2.2.2.2)]
        exact EvN
      simp only [if_neg g4, oneM, if_neg (show ¬ goodM d from fun hg => g4 ⟨hg.2.1, hg.2.2.1⟩)]
      exact EvN
    have : (rd d 3 != 0) = true := bne_iff_ne.2 g3
    simp only [this]
    exact bad fun hg => by unfold goodM at hg; omega
  simp only [if_neg g2]
  exact bad fun hg => by unfold goodM at hg; omega
def scanL : Nat → List Int → List (List Int)
  | 0, _ => []
  | n + 1, d => if (oneM d).length = 0 then [] else oneM d :: scanL n (d.drop (8 + (oneM d).length))
def usedL : List (List Int) → Int
  | [] => 0
  | p :: r => 8 + (p.length : Int) + usedL r
theorem one_le (d : List Int) : (oneM d).length = 0 ∨ (8 + (oneM d).length ≤ d.length ∧ goodM d ∧ oneM d = payM d ∧ ((oneM d).length : Int) = le32 d) := by
  unfold oneM
  by_cases h : goodM d
  · rw [if_pos h]
    have := pay_length d (by have := h.2.1; omega) h.2.2.2.1
    have h1 := h.2.1
    have h2 := h.2.2.2.1
    exact .inr ⟨by omega, h, rfl, by omega⟩
  rw [if_neg h]; exact .inl rfl
theorem spec_scan (d : List Int) (h : Byt d) (hl : d.length ≤ 1048576) : ∀ (n pos : Nat) (acc : List (List Int)), pos ≤ d.length → d.length < pos + n → acc.length ≤ pos → Ev (fun k => spec_ScanFrames.l0 k d acc pos) (acc ++ scanL n (d.drop pos), (pos : Int) + usedL (scanL n (d.drop pos))) := by
  intro n
  induction n with
  | zero => intro pos acc h1 h2; omega
  | succ n ih =>
    intro pos acc h1 h2 h3
    refine EvS ?_
    have hd : (d.drop pos).length = d.length - pos := List.length_drop
    simp only [spec_ScanFrames.l0, if_pos (show 0 ≤ (pos : Int) by omega), if_pos (show (pos : Int) ≤ (d.length : Int) by omega), Int.toNat_natCast, EvB (spec_one (d.drop pos) (h.drop pos) (by omega)), scanL]
    rcases one_le (d.drop pos) with hz | ⟨hz, hg, hp, hp2⟩
    · simp only [hz, if_true, Int.cast_ofNat_Int, List.append_nil, usedL, Int.add_zero]
      exact EvN
    have hne : ¬ (oneM (d.drop pos)).length = 0 := by have := hg.2.1; omega
    have hS : (acc.length < 5864062014805) = True := eq_true (by omega)
    have ew : wrap64 (wrap64 ((pos : Int) + 8) + ((oneM (d.drop pos)).length : Int)) = ((pos + (8 + (oneM (d.drop pos)).length) : Nat) : Int) := by
      rw [w64 (x := (pos : Int) + 8) (by omega) (by omega), w64 (by omega) (by omega)]
      omega
    simp only [if_neg (show ¬ ((oneM (d.drop pos)).length : Int) = 0 by omega), if_neg hne, hS, if_true, ew]
    have := ih (pos + (8 + (oneM (d.drop pos)).length)) (acc ++ [oneM (d.drop pos)]) (by omega) (by omega) (by simp; omega)
    rw [List.drop_drop, List.append_assoc] at *
    simp only [usedL]
    have eu : (pos : Int) + (8 + ((oneM (d.drop pos)).length : Int) + usedL (scanL n (d.drop (pos + (8 + (oneM (d.drop pos)).length))))) = ((pos + (8 + (oneM (d.drop pos)).length) : Nat) : Int) + usedL (scanL n (d.drop (pos + (8 + (oneM (d.drop pos)).length)))) := by omega
    rw [eu]
    exact this
theorem impl_scan (d : List Int) (h : Byt d) (hl : d.length ≤ 1048576) : ∀ (n pos : Nat) (acc : List (List Int)), pos ≤ d.length → d.length < pos + n → acc.length ≤ pos → Ev (fun k => impl_scanFrames.l0 k d acc pos) (acc ++ scanL n (d.drop pos), (pos : Int) + usedL (scanL n (d.drop pos))) := by
  intro n
  induction n with
  | zero => intro pos acc h1 h2; omega
  | succ n ih =>
    intro pos acc h1 h2 h3
    refine EvS ?_
    have hd : (d.drop pos).length = d.length - pos := List.length_drop
    have hb := h.drop pos
    have stop : ¬ goodM (d.drop pos) → (acc ++ scanL (n + 1) (d.drop pos), (pos : Int) + usedL (scanL (n + 1) (d.drop pos))) = (acc, (pos : Int)) := fun hg => by
      have hz : (oneM (d.drop pos)).length = 0 := by unfold oneM; rw [if_neg hg]; rfl
      simp only [scanL, hz, if_true, List.append_nil, usedL, Int.add_zero]
    simp only [impl_scanFrames.l0, if_pos (show 0 ≤ (pos : Int) by omega), if_pos (show (pos : Int) ≤ (d.length : Int) by omega), Int.toNat_natCast]
    by_cases h8 : ((d.drop pos).length : Int) < 8
    · simp only [if_pos h8]
      rw [stop fun hg => by have := hg.1; omega]
      exact EvN
    have hu := le32_u32 (d.drop pos) hb (by omega)
    have hu0 := hu.1
    have hu1 := hu.2
    simp only [if_neg h8, uint32 (d.drop pos) hb (by omega), Option.bind_some]
    have J : ∀ q : Bool, q = decide (¬ (1 ≤ le32 (d.drop pos) ∧ le32 (d.drop pos) ≤ 600 ∧ 8 + le32 (d.drop pos) ≤ ((d.drop pos).length : Int))) → Ev (fun k => impl_scanFrames.j1 k d acc pos (d.drop pos) (le32 (d.drop pos)) q) (acc ++ scanL (n + 1) (d.drop pos), (pos : Int) + usedL (scanL (n + 1) (d.drop pos))) := by
      intro q hq
      subst hq
      refine EvS ?_
      by_cases hc : 1 ≤ le32 (d.drop pos) ∧ le32 (d.drop pos) ≤ 600 ∧ 8 + le32 (d.drop pos) ≤ ((d.drop pos).length : Int)
      · have e8 : (8 + le32 (d.drop pos)).toNat = 8 + (le32 (d.drop pos)).toNat := by omega
        have em : (8 + le32 (d.drop pos)) % 4294967296 = 8 + le32 (d.drop pos) := by omega
        have hpay : ((d.drop pos).take (8 + (le32 (d.drop pos)).toNat)).drop 8 = payM (d.drop pos) := rfl
        have hpl := pay_length (d.drop pos) hu0 hc.2.2
        have hS : (acc.length < 5864062014805) = True := eq_true (by omega)
        have hS2 : (([] : List Int).length + (payM (d.drop pos)).length < 140737488355328) = True := eq_true (by simp only [List.length_nil]; omega)
        simp only [impl_scanFrames.j1, hc, not_true_eq_false, and_self, decide_false, Bool.false_eq_true, if_false, em, if_pos (show 8 ≤ 8 + le32 (d.drop pos) by omega), if_pos hc.2.2, if_pos (show (4 : Int) ≤ ((d.drop pos).length : Int) by omega), e8, hpay, uint32 ((d.drop pos).drop 4) (hb.drop 4) (by rw [List.length_drop]; omega), Option.bind_some, EvB (impl_crc (payM (d.drop pos)) (by omega)), hS, hS2, if_true, List.nil_append]
        by_cases hq : le32 ((d.drop pos).drop 4) = crcM (payM (d.drop pos))
        · have hg : goodM (d.drop pos) := ⟨by omega, hc.1, hc.2.1, hc.2.2, hq⟩
          have ho : oneM (d.drop pos) = payM (d.drop pos) := by unfold oneM; rw [if_pos hg]
          have ew : wrap64 ((pos : Int) + wrap64 (8 + wrap64 (le32 (d.drop pos)))) = ((pos + (8 + (payM (d.drop pos)).length) : Nat) : Int) := by
            rw [w64 (x := le32 (d.drop pos)) (by omega) (by omega), w64 (x := 8 + le32 (d.drop pos)) (by omega) (by omega), w64 (by omega) (by omega)]
            omega
          simp only [if_pos hq, ew]
          have := ih (pos + (8 + (payM (d.drop pos)).length)) (acc ++ [payM (d.drop pos)]) (by omega) (by omega) (by simp; omega)
          simp only [scanL, ho, if_neg (show ¬ (payM (d.drop pos)).length = 0 by omega)]
          rw [List.drop_drop, List.append_assoc] at *
          simp only [usedL]
          have eu : (pos : Int) + (8 + ((payM (d.drop pos)).length : Int) + usedL (scanL n (d.drop (pos + (8 + (payM (d.drop pos)).length))))) = ((pos + (8 + (payM (d.drop pos)).length) : Nat) : Int) + usedL (scanL n (d.drop (pos + (8 + (payM (d.drop pos)).length)))) := by omega
          rw [eu]
          exact this
        rw [stop fun hg => hq hg.2.2.2.2]
        simp only [if_neg hq]
        exact EvN
      rw [stop fun hg => hc ⟨hg.2.1, hg.2.2.1, hg.2.2.2.1⟩]
      simp only [impl_scanFrames.j1, hc, not_false_eq_true, decide_true, if_true]
      exact EvN
    by_cases g1 : le32 (d.drop pos) < 1
    · simp only [if_pos g1]
      exact J _ (by rw [decide_eq_true]; omega)
    by_cases g2 : le32 (d.drop pos) > 600
    · simp only [if_neg g1, if_pos g2]
      exact J _ (by rw [decide_eq_true]; omega)
    simp only [if_neg g1, if_neg g2]
    refine J _ ?_
    rw [w64 (x := le32 (d.drop pos)) (by omega) (by omega), w64 (x := 8 + le32 (d.drop pos)) (by omega) (by omega)]
    by_cases g3 : ((d.drop pos).length : Int) < 8 + le32 (d.drop pos)
    · rw [decide_eq_true g3, decide_eq_true (by omega)]
    rw [decide_eq_false g3, decide_eq_false (by omega)]
def scanM (d : List Int) : List (List Int) := scanL (d.length + 1) d
theorem implScan (d : List Int) (h : Byt d) (hl : d.length ≤ 1048576) : Ev (fun k => impl_scanFrames.f k d) (scanM d, usedL (scanM d)) := by
  have := impl_scan d h hl (d.length + 1) 0 [] (by omega) (by omega) (by simp)
  rw [show (((0 : Nat) : Int) + usedL (scanL (d.length + 1) (d.drop 0))) = usedL (scanL (d.length + 1) (d.drop 0)) by omega] at this
  exact this
theorem specScan (d : List Int) (h : Byt d) (hl : d.length ≤ 1048576) : Ev (fun k => spec_ScanFrames.f k d) (if (d.length : Int) > 20000 then ([], 0) else (scanM d, usedL (scanM d))) := by
  unfold spec_ScanFrames.f
  by_cases h2 : (d.length : Int) > 20000
  · simp only [if_pos h2]; exact EvN
  simp only [if_neg h2]
  have := spec_scan d h hl (d.length + 1) 0 [] (by omega) (by omega) (by simp)
  rw [show (((0 : Nat) : Int) + usedL (scanL (d.length + 1) (d.drop 0))) = usedL (scanL (d.length + 1) (d.drop 0)) by omega] at this
  exact this
end Go.Proofs.YtcgojdhbphocgaaDoor.SC

namespace Go.Proofs.YtcgojdhbphocgaaDoor.FQ
set_option linter.unusedVariables false
set_option linter.unusedSimpArgs false
open Go.RowKit Go.Proofs.YtcgojdhbphocgaaDoor.F Go.Proofs.YtcgojdhbphocgaaDoor.PK Go.Proofs.YtcgojdhbphocgaaDoor.BY Go.Proofs.YtcgojdhbphocgaaDoor.CR Go.Proofs.YtcgojdhbphocgaaDoor.FR Go.Proofs.YtcgojdhbphocgaaDoor.SC Go.Proofs.YtcgojdhbphocgaaDoorW.PrintWords Go.Proofs.YtcgojdhbphocgaaDoorW.PrintLast
theorem byt_four (x : Int) : Byt (four x) := by
  intro y hy
  simp only [four, List.mem_cons, List.not_mem_nil, or_false] at hy
  omega
theorem byt_app {a b : List Int} (ha : Byt a) (hb : Byt b) : Byt (a ++ b) := fun x hx => (List.mem_append.1 hx).elim (ha x) (hb x)
theorem byt_frame {p : List Int} (hp : Byt p) : Byt (frameM p) := by
  unfold frameM
  split
  · exact byt_app (byt_app (byt_four _) (byt_four _)) hp
  intro x hx; cases hx
theorem rd_app (a b : List Int) (i : Nat) (h : i < a.length) : rd (a ++ b) (i : Int) = rd a (i : Int) := by
  unfold rd
  rw [Int.toNat_natCast, List.getD_eq_getElem?_getD, List.getD_eq_getElem?_getD, List.getElem?_append_left h]
theorem le32_app (a b : List Int) (h : 4 ≤ a.length) : le32 (a ++ b) = le32 a := by
  unfold le32
  have h0 := rd_app a b 0 (by omega)
  have h1 := rd_app a b 1 (by omega)
  have h2 := rd_app a b 2 (by omega)
  have h3 := rd_app a b 3 (by omega)
  simp only [Int.cast_ofNat_Int] at h0 h1 h2 h3
  rw [h0, h1, h2, h3]
theorem len32 (p : List Int) (h : okP p) : U32 (p.length : Int) := ⟨by omega, by have := h.2; omega⟩
theorem frame_le (p rest : List Int) (h : okP p) : le32 (frameM p ++ rest) = p.length := by
  unfold frameM
  rw [if_pos h, List.append_assoc, List.append_assoc, le32_app (four (p.length : Int)) _ (show 4 ≤ (four (p.length : Int)).length from Nat.le_refl 4), le32_four _ (len32 p h)]
theorem frame_crc (p rest : List Int) (h : okP p) : le32 ((frameM p ++ rest).drop 4) = crcM p := by
  unfold frameM
  rw [if_pos h, List.append_assoc, List.append_assoc, show ((four (p.length : Int)) ++ (four (crcM p) ++ (p ++ rest))).drop 4 = four (crcM p) ++ (p ++ rest) from List.drop_left' rfl, le32_app (four (crcM p)) _ (show 4 ≤ (four (crcM p)).length from Nat.le_refl 4), le32_four _ (crcM_u32 p)]
theorem frame_pay (p rest : List Int) (h : okP p) : payM (frameM p ++ rest) = p := by
  unfold payM
  rw [frame_le p rest h, Int.toNat_natCast, ← frameM_length p h, List.take_left]
  unfold frameM
  rw [if_pos h, show ((four (p.length : Int)) ++ four (crcM p) ++ p).drop 8 = p from List.drop_left' rfl]
theorem frame_one (p rest : List Int) (h : okP p) : oneM (frameM p ++ rest) = p := by
  unfold oneM
  have hl := frameM_length p h
  rw [if_pos, frame_pay p rest h]
  unfold goodM
  rw [frame_le p rest h, frame_crc p rest h, frame_pay p rest h, List.length_append]
  have h1 := h.1
  have h2 := h.2
  exact ⟨by omega, by omega, by omega, by omega, rfl⟩
theorem scan_fuel : ∀ (n m : Nat) (d : List Int), d.length < n → d.length < m → scanL n d = scanL m d := by
  intro n
  induction n with
  | zero => intro m d h; omega
  | succ n ih =>
    intro m d hn hm
    obtain ⟨m, rfl⟩ : ∃ q, m = q + 1 := ⟨m - 1, by omega⟩
    unfold scanL
    split
    · rfl
    rename_i hne
    rcases one_le d with h | ⟨h, _⟩
    · exact absurd h hne
    rw [ih m _ (by rw [List.length_drop]; omega) (by rw [List.length_drop]; omega)]
theorem scan_cons (p rest : List Int) (h : okP p) : scanM (frameM p ++ rest) = p :: scanM rest := by
  unfold scanM
  have hl := frameM_length p h
  have h1 := h.1
  rw [show (frameM p ++ rest).length + 1 = ((frameM p ++ rest).length) + 1 from rfl, scanL, frame_one p rest h, if_neg (by omega), ← hl, List.drop_left]
  rw [scan_fuel (frameM p ++ rest).length (rest.length + 1) rest (by rw [List.length_append]; omega) (by omega)]
def cat (L : List (List Int)) : List Int := (L.map frameM).flatten
theorem cat_cons (p : List Int) (L : List (List Int)) : cat (p :: L) = frameM p ++ cat L := rfl
theorem cat_app (L M : List (List Int)) : cat (L ++ M) = cat L ++ cat M := by unfold cat; simp
theorem scan_cat : ∀ (L : List (List Int)) (rest : List Int), (∀ p ∈ L, okP p) → scanM (cat L ++ rest) = L ++ scanM rest := by
  intro L
  induction L with
  | nil => intro rest _; rfl
  | cons p r ih =>
    intro rest h
    rw [cat_cons, List.append_assoc, scan_cons p _ (h p List.mem_cons_self), ih rest (fun q hq => h q (List.mem_cons_of_mem _ hq))]
    rfl
theorem scan_nil : scanM [] = [] := by
  unfold scanM scanL
  rw [if_pos]
  unfold oneM
  rw [if_neg (by unfold goodM; intro h; have := h.1; simp at this)]
  rfl
theorem cat_len : ∀ (L : List (List Int)), (∀ p ∈ L, okP p) → ((cat L).length : Int) = usedL L := by
  intro L
  induction L with
  | nil => intro _; rfl
  | cons p r ih =>
    intro h
    have := ih (fun q hq => h q (List.mem_cons_of_mem _ hq))
    have hl := frameM_length p (h p List.mem_cons_self)
    rw [cat_cons, List.length_append, usedL]
    omega
theorem byt_cat : ∀ (L : List (List Int)), (∀ p ∈ L, Byt p) → Byt (cat L) := by
  intro L
  induction L with
  | nil => intro _ x hx; cases hx
  | cons p r ih => intro h; rw [cat_cons]; exact byt_app (byt_frame (h p List.mem_cons_self)) (ih (fun q hq => h q (List.mem_cons_of_mem _ hq)))
theorem cut_one (p rest : List Int) (h : okP p) (m : Nat) (hm : m < 8 + p.length) : oneM ((frameM p ++ rest).take m) = [] := by
  have hl := frameM_length p h
  unfold oneM
  rw [if_neg]
  rintro ⟨h1, h2, h3, h4, _⟩
  rw [List.length_take, List.length_append] at h1 h4
  have e : le32 ((frameM p ++ rest).take m) = p.length := by
    have h5 : 4 ≤ ((frameM p ++ rest).take m).length := by rw [List.length_take, List.length_append]; omega
    have := le32_app ((frameM p ++ rest).take m) ((frameM p ++ rest).drop m) h5
    rw [List.take_append_drop, frame_le p rest h] at this
    exact this.symm
  rw [e] at h4
  omega
theorem scan_none (d : List Int) (h : oneM d = []) : scanM d = [] := by
  unfold scanM scanL
  rw [if_pos (by rw [h]; rfl)]
theorem scan_cut (L M : List (List Int)) (hL : ∀ p ∈ L ++ M, okP p) (m : Nat) (h1 : (cat L).length ≤ m) (h2 : ∀ p r, M = p :: r → m < (cat L).length + (8 + p.length)) : scanM ((cat (L ++ M)).take m) = L := by
  have hl : ∀ p ∈ L, okP p := fun p hp => hL p (List.mem_append_left _ hp)
  rw [cat_app, List.take_append, List.take_of_length_le h1, scan_cat L _ hl]
  cases M with
  | nil => rw [show cat ([] : List (List Int)) = [] from rfl, List.take_nil, scan_nil, List.append_nil]
  | cons p r =>
    have := h2 p r rfl
    rw [cat_cons, scan_none _ (cut_one p (cat r) (hL p (by simp)) _ (by omega)), List.append_nil]
end Go.Proofs.YtcgojdhbphocgaaDoor.FQ

namespace Go.Proofs.YtcgojdhbphocgaaDoor.TO
set_option linter.unusedVariables false
set_option linter.unusedSimpArgs false
open Go.RowKit Go.Proofs.YtcgojdhbphocgaaDoor.F Go.Proofs.YtcgojdhbphocgaaDoor.PK Go.Proofs.YtcgojdhbphocgaaDoorW.PrintWords Go.Proofs.YtcgojdhbphocgaaDoorW.PrintLast
open Go.Proofs.YtcgojdhbphocgaaDoor.BY
theorem not8 (b : Int) (h0 : 0 ≤ b) (h1 : b ≤ 255) : Go.bits .xor .u8 255 b = (255 - b) % 256 := by
  obtain ⟨n, rfl⟩ := Int.eq_ofNat_of_zero_le h0
  have hn : n < 256 := by omega
  have := u8_xor_nat 255 n (by omega) hn
  rw [show ((255 : Nat) : Int) = 255 from rfl] at this
  rw [this]
  have h2 : ∀ m : Fin 256, ((255 ^^^ m.val : Nat) : Int) = (255 - (m.val : Int)) % 256 := by decide +kernel
  exact h2 ⟨n, hn⟩
def keepN (l : List Int) (a : Int) : Nat := min a.toNat l.length
def tornM (l : List Int) (a f : Int) : List Int := (l.take (keepN l a)).mapIdx fun i b => if (i : Int) = f then (255 - b) % 256 else b
theorem tornM_length (l : List Int) (a f : Int) : (tornM l a f).length = keepN l a := by
  unfold tornM
  rw [List.length_mapIdx, List.length_take]
  unfold keepN
  omega
theorem tornM_at (l : List Int) (a f : Int) (j : Nat) (h : j < keepN l a) (hl : j < l.length) : (tornM l a f)[j]? = some (if (j : Int) = f then (255 - l[j]) % 256 else l[j]) := by
  unfold tornM
  rw [List.getElem?_mapIdx, List.getElem?_take, if_pos h, List.getElem?_eq_getElem hl]
  rfl
theorem keepN_le (l : List Int) (a : Int) : keepN l a ≤ l.length := by unfold keepN; omega
theorem impl_torn (l : List Int) (a f : Int) (hl : l.length ≤ 1048576) (hb : ∀ x ∈ l, (Lit.int .u8 x).wf = true) : impl_torn.f l a f = some (tornM l a f) := by
  have hk : (mn (mx a 0) (l.length : Int)) = (keepN l a : Int) := by unfold mn mx keepN; omega
  have hle := keepN_le l a
  unfold impl_torn.f
  simp only [Option.bind_some, hk, Int.toNat_natCast, List.nil_append, List.length_nil, List.length_take, Nat.min_eq_left hle, if_pos (show 0 ≤ (keepN l a : Int) by omega), if_pos (show (keepN l a : Int) ≤ (l.length : Int) by omega), if_pos (show 0 + keepN l a < 140737488355328 by omega)]
  by_cases h0 : f ≥ 0
  · by_cases h1 : f < (keepN l a : Int)
    · simp only [if_pos h0, if_pos h1]
      obtain ⟨n, rfl⟩ := Int.eq_ofNat_of_zero_le (show 0 ≤ f by omega)
      have hn : n < (l.take (keepN l a)).length := by rw [List.length_take]; omega
      have hnl : n < l.length := by omega
      have hw : 0 ≤ l[n] ∧ l[n] ≤ 255 := by
        have := hb _ (List.getElem_mem hnl)
        simp only [Lit.wf, Bool.and_eq_true, decide_eq_true_eq] at this
        have h1 : IntKind.u8.min = 0 := by decide
        have h2 : IntKind.u8.max = 255 := by decide
        omega
      rw [rd_at _ n hn, List.getElem_take, not8 _ hw.1 hw.2, Int.toNat_natCast]
      congr 1
      apply List.ext_getElem?
      intro j
      by_cases hj : j < keepN l a
      · rw [tornM_at l a n j hj (by omega)]
        by_cases hjn : j = n
        · subst hjn
          rw [List.getElem?_set_self hn, if_pos rfl]
        rw [List.getElem?_set_ne (by omega), List.getElem?_take, if_pos hj, List.getElem?_eq_getElem (by omega), if_neg (by omega)]
      rw [List.getElem?_eq_none (by rw [List.length_set, List.length_take]; omega), List.getElem?_eq_none (by rw [tornM_length]; omega)]
    simp only [if_pos h0, if_neg h1]
    congr 1
    apply List.ext_getElem?
    intro j
    by_cases hj : j < keepN l a
    · rw [tornM_at l a f j hj (by omega), List.getElem?_take, if_pos hj, List.getElem?_eq_getElem (by omega), if_neg (by omega)]
    rw [List.getElem?_eq_none (by rw [List.length_take]; omega), List.getElem?_eq_none (by rw [tornM_length]; omega)]
  simp only [if_neg h0]
  congr 1
  apply List.ext_getElem?
  intro j
  by_cases hj : j < keepN l a
  · rw [tornM_at l a f j hj (by omega), List.getElem?_take, if_pos hj, List.getElem?_eq_getElem (by omega), if_neg (by omega)]
  rw [List.getElem?_eq_none (by rw [List.length_take]; omega), List.getElem?_eq_none (by rw [tornM_length]; omega)]
end Go.Proofs.YtcgojdhbphocgaaDoor.TO

namespace Go.Proofs.YtcgojdhbphocgaaDoor.DK
set_option linter.unusedVariables false
set_option linter.unusedSimpArgs false
open Go.RowKit Go.Proofs.YtcgojdhbphocgaaDoor.F Go.Proofs.YtcgojdhbphocgaaDoor.PK Go.Proofs.YtcgojdhbphocgaaDoorW.PrintWords Go.Proofs.YtcgojdhbphocgaaDoorW.PrintLast Go.Proofs.YtcgojdhbphocgaaDoorW.PrintMore
open Go.Proofs.YtcgojdhbphocgaaDoor.TO
def atI (l : List Int) (i d : Int) : Int := if i < (l.length : Int) then rd l i else d
def crS (a b : List Int) (i : Nat) (y : S55) : S55 := ⟨y.f0, y.f1 ++ tornM y.f2 (atI a i 0) (atI b i (-1)), []⟩
def crashM (l : List S55) (a b : List Int) : List S55 := if diskM l = true then l.mapIdx (crS a b) else []
theorem torn_le (l : List Int) (a f : Int) : (tornM l a f).length ≤ l.length := by rw [tornM_length]; exact keepN_le l a
theorem impl_crash (l : List S55) (a b : List Int) (hl : l.length ≤ 1048576) (hw : wfD l) (hB : ∀ y ∈ l, ∀ z ∈ y.f2, (Lit.int .u8 z).wf = true) : Ev (fun k => impl_Crash.f k l a b) (crashM l a b) := by
  unfold impl_Crash.f crashM
  refine (EvB (impl_disk l hl hw)).2 ?_
  by_cases h : diskM l = true
  · simp only [if_pos h]
    refine (EvB (copyI l (by omega) (fun y hy => ⟨by have := hw y hy; omega, by have := hw y hy; omega⟩))).2 ?_
    have key := up (P := fun i => ∀ x : List S55, x.length = l.length → (∀ j : Nat, (j : Int) < i → x[j]? = (l.mapIdx (crS a b))[j]?) → (∀ j : Nat, i ≤ (j : Int) → x[j]? = l[j]?) → Ev (fun k => impl_Crash.l0 a b k x i) (l.mapIdx (crS a b))) l.length
      (fun x hx h1 h2 => by
        have : x = l.mapIdx (crS a b) := List.ext_getElem? fun j => by
          by_cases hj : j < l.length
          · exact h1 j (by omega)
          rw [List.getElem?_eq_none (by omega), List.getElem?_eq_none (by rw [List.length_mapIdx]; omega)]
        exact EvS (by simp only [impl_Crash.l0, hx, Int.lt_irrefl, if_false]; rw [this]; exact EvN))
      (fun i hi ih x hx h1 h2 => EvS (by
        have hxi : i < x.length := by omega
        have hx1 : x[i] = l[i] := by
          have := h2 i (by omega)
          rw [List.getElem?_eq_getElem hxi, List.getElem?_eq_getElem hi] at this
          exact Option.some.inj this
        have hwi := hw _ (List.getElem_mem hi)
        have ht := impl_torn l[i].f2 (atI a i 0) (atI b i (-1)) (by omega) (hB _ (List.getElem_mem hi))
        have htl := torn_le l[i].f2 (atI a i 0) (atI b i (-1))
        have ho : impl_Crash.one a b i l[i] = some (crS a b i l[i]) := by
          unfold impl_Crash.one
          have ht' : impl_torn.f l[i].f2 (if (i : Int) < (a.length : Int) then rd a i else 0) (if (i : Int) < (b.length : Int) then rd b i else -1) = some (tornM l[i].f2 (atI a i 0) (atI b i (-1))) := ht
          rw [ht', Option.bind_some, if_pos (by omega)]
          rfl
        simp only [impl_Crash.l0, if_pos (show (i : Int) < (x.length : Int) by omega), if_pos (show 0 ≤ (i : Int) by omega), rd55 x i hxi, hx1, ho, Option.bind_some, Int.toNat_natCast, nxt i _ hi (show l.length ≤ 9223372036854775807 by omega)]
        refine ih _ (by simpa using hx) (fun j hj => ?_) (fun j hj => ?_)
        · by_cases hji : j = i
          · subst hji
            rw [List.getElem?_set_self hxi, List.getElem?_mapIdx, List.getElem?_eq_getElem hi]
            rfl
          rw [List.getElem?_set_ne (by omega)]
          exact h1 j (by omega)
        rw [List.getElem?_set_ne (by omega)]
        exact h2 j (by omega)))
    exact key 0 (Nat.zero_le _) l rfl (fun j hj => absurd hj (by omega)) (fun j _ => rfl)
  simp only [if_neg h]; exact EvN
end Go.Proofs.YtcgojdhbphocgaaDoor.DK

namespace Go.Proofs.YtcgojdhbphocgaaDoor.DK
set_option linter.unusedVariables false
set_option linter.unusedSimpArgs false
open Go.RowKit Go.Proofs.YtcgojdhbphocgaaDoor.F Go.Proofs.YtcgojdhbphocgaaDoor.PK Go.Proofs.YtcgojdhbphocgaaDoorW.PrintWords Go.Proofs.YtcgojdhbphocgaaDoorW.PrintLast Go.Proofs.YtcgojdhbphocgaaDoorW.PrintMore
theorem fin_new (l : List S55) (a : ByteArray) (d : List Int) (h : diskM l = true) (hn : nameM a = true) (hno : ∀ x ∈ l, isN a x.f0 = false) (hl : l.length ≤ 1048576) (hw : wfD l) (ha : a.size ≤ 9223372036854775807) (hd : d.length ≤ 1048576) :
    Ev (fun k => impl_appendFile.fin k l (insM l ⟨a, [], []⟩) a d) (if l.length = 8 then (l, false) else appF l a d [] []) := by
  have h8 := (disk_each h).1
  obtain ⟨T, hT⟩ : ∃ T, T = l.takeWhile (lessN a) := ⟨_, rfl⟩
  obtain ⟨D, hD⟩ : ∃ D, D = l.dropWhile (lessN a) := ⟨_, rfl⟩
  have hTD : T ++ D = l := by rw [hT, hD]; exact List.takeWhile_append_dropWhile
  have hlen : T.length + D.length = l.length := by rw [← hTD, List.length_append]
  have hins : insM l ⟨a, [], []⟩ = T ++ (⟨a, [], []⟩ : S55) :: D := by rw [ins_eq, hT, hD]
  have hdk := disk_new (⟨a, [], d⟩ : S55) h hn hno
  have hput := put_new (l := l) (⟨a, [], d⟩ : S55) hno
  simp only [← hT, ← hD] at hdk hput
  have hpl : (T ++ (⟨a, [], []⟩ : S55) :: D).length = l.length + 1 := by simp only [List.length_append, List.length_cons]; omega
  have hm : T.length < (T ++ (⟨a, [], []⟩ : S55) :: D).length := by omega
  have hget : (T ++ (⟨a, [], []⟩ : S55) :: D)[T.length] = ⟨a, [], []⟩ := by simp
  have hidx : idxF (isN a) (T ++ (⟨a, [], []⟩ : S55) :: D) 0 = (T.length : Int) := by
    rcases idxF_at (isN a) (T ++ (⟨a, [], []⟩ : S55) :: D) 0 with ⟨_, q⟩ | ⟨m, x, e, hx, hp, q⟩
    · have := q ⟨a, [], []⟩ (by simp)
      simp [isN] at this
    have hle : ¬ m < T.length := fun hlt => by
      rw [List.getElem?_append_left hlt] at hx
      have := hno x (by rw [← hTD]; exact List.mem_append_left _ (List.mem_of_getElem? hx))
      rw [this] at hp
      cases hp
    have hge : ¬ T.length < m := fun hlt => by
      have := q T.length ⟨a, [], []⟩ hlt (by rw [List.getElem?_eq_getElem hm, hget])
      simp [isN] at this
    omega
  have hF := impl_fin l (T ++ (⟨a, [], []⟩ : S55) :: D) a d T.length hm (by rw [hget]) hidx hl hw (by omega) (fun y hy => by
    rcases List.mem_append.1 hy with hy | hy
    · exact hw y (by rw [← hTD]; exact List.mem_append_left _ hy)
    rcases List.mem_cons.1 hy with rfl | hy
    · exact ⟨ha, by simp, by simp⟩
    exact hw y (by rw [← hTD]; exact List.mem_append_right _ hy)) hd
  rw [hget] at hF
  simp only [List.nil_append] at hF
  rw [show (T ++ (⟨a, [], []⟩ : S55) :: D).set T.length ⟨a, [], d⟩ = T ++ (⟨a, [], d⟩ : S55) :: D by simp, hdk] at hF
  rw [hins]
  unfold appF
  simp only [List.length_nil, List.nil_append, hput]
  by_cases e8 : l.length = 8
  · rw [if_pos e8]
    rwa [if_neg (by rw [decide_eq_true_iff]; omega)] at hF
  rw [if_neg e8]
  by_cases hb : d.length ≤ 20000
  · rw [if_pos (by omega)]
    rwa [if_pos (by rw [decide_eq_true_iff]; exact ⟨by omega, by simpa using hb⟩)] at hF
  rw [if_neg (by omega)]
  rwa [if_neg (by rw [decide_eq_true_iff]; intro q; exact hb (by simpa using q.2))] at hF
theorem impl_app (l : List S55) (a : ByteArray) (d : List Int) (hl : l.length ≤ 1048576) (hw : wfD l) (ha : a.size ≤ 9223372036854775807) (hd : d.length ≤ 1048576) : Ev (fun k => impl_appendFile.f k l a d) (appM l a d) := by
  have hc := copyI l (by omega) (wfD_le hw)
  have hf : impl_fileOf.f l a = some (idxF (isN a) l 0) := by unfold impl_fileOf.f; rw [if_pos (by omega)]; rfl
  unfold impl_appendFile.f appM
  refine (EvB hc).2 ?_
  refine (EvB (impl_disk l hl hw)).2 ?_
  by_cases h : diskM l = true
  · simp only [if_pos h, impl_name a ha, Option.bind_some]
    by_cases h3 : nameM a = true
    · simp only [if_pos h3, if_pos (show diskM l = true ∧ nameM a = true from ⟨h, h3⟩), hf, Option.bind_some]
      by_cases h2 : idxF (isN a) l 0 < 0
      · simp only [if_pos h2, if_pos (show (l.length + 1) * 64 ≤ 140737488355328 by omega)]
        refine fin_new l a d h h3 ?_ hl hw ha hd
        rcases idxF_at (isN a) l 0 with ⟨_, q⟩ | ⟨m, x, e, _, _, _⟩
        · exact q
        omega
      obtain ⟨m, x, e, hx, hn, hm⟩ := idx_at l a h2
      have hxm : l[m] = x := by rw [List.getElem?_eq_getElem hm] at hx; exact Option.some.inj hx
      simp only [if_neg h2]
      rw [e, rd55 l m hm]
      exact fin_there l a d m hm (by rw [hxm]; exact ba_ext hn) e h hl hw hd
    simp only [if_neg h3, if_neg (show ¬ (diskM l = true ∧ nameM a = true) from fun q => h3 q.2)]
    exact EvN
  simp only [if_neg h, if_neg (show ¬ (diskM l = true ∧ nameM a = true) from fun q => h q.1)]
  exact EvN
end Go.Proofs.YtcgojdhbphocgaaDoor.DK
