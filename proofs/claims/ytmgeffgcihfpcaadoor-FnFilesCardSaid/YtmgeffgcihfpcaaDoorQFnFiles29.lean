/- Merged texts below the law FnFiles: Go functions as Lean functions, their contracts, and plain lemmas. -/
import Derived.Test.YtmgeffgcihfpcaaDoorQFnFiles28
import Derived.Test.YtmgeffgcihfpcaaDoorQFnFiles26
import Derived.Test.YtmgeffgcihfpcaaDoorVFnFilesOT
import Derived.Test.YtmgeffgcihfpcaaDoorQFnFiles25
import Derived.Test.YtmgeffgcihfpcaaDoorQFnFiles23
import Derived.Deep.DeepCutAuto
import Derived.Deep.CutBlock
import Derived.Deep.Slices
import Derived.ChangeSame
import Derived.WideShapes
namespace Go.Proofs.YtmgeffgcihfpcaaDoor.DK
set_option linter.unusedVariables false
set_option linter.unusedSimpArgs false
open Go.RowKit Go.Proofs.YtmgeffgcihfpcaaDoor.F Go.Proofs.YtmgeffgcihfpcaaDoor.PK Go.Proofs.YtmgeffgcihfpcaaDoorW.PrintWords Go.Proofs.YtmgeffgcihfpcaaDoorW.PrintLast Go.Proofs.YtmgeffgcihfpcaaDoorW.PrintMore
theorem rdI (l : List Int) (i : Nat) (h : i < l.length) : rd l (i : Int) = l[i] := getD_nat l _ i h
theorem bytesS (l : List Int) (hl : l.length ≤ 1000000000) : Ev (fun k => spec_l01Bytes.f k l) l := by
  have key := up0 (P := fun i => Ev (fun k => spec_l01Bytes.l0 k l (l.take i.toNat) i) l) l.length
    (EvS (by simp only [spec_l01Bytes.l0, Int.lt_irrefl, if_false, Int.toNat_natCast, List.take_length]; exact EvN))
    (fun i hi ih => EvS (by
      simp only [spec_l01Bytes.l0, if_pos (show (i : Int) < (l.length : Int) by omega), if_pos (show 0 ≤ (i : Int) by omega), Int.toNat_natCast, rdI l i hi, nxt i _ hi (by omega), if_pos (show (l.take i).length < 140737488355328 by rw [List.length_take]; omega)]
      rw [Int.toNat_natCast, List.take_add_one, List.getElem?_eq_getElem hi] at ih
      exact ih))
  unfold spec_l01Bytes.f
  exact key
theorem joinS (l m : List Int) (hl : l.length ≤ 1000000000) (hm : m.length ≤ 1000000000) : Ev (fun k => spec_l01Join.f k l m) (l ++ m) := by
  have key := up0 (P := fun i => Ev (fun k => spec_l01Join.l0 k m (l ++ m.take i.toNat) i) (l ++ m)) m.length
    (EvS (by simp only [spec_l01Join.l0, Int.lt_irrefl, if_false, Int.toNat_natCast, List.take_length]; exact EvN))
    (fun i hi ih => EvS (by
      simp only [spec_l01Join.l0, if_pos (show (i : Int) < (m.length : Int) by omega), if_pos (show 0 ≤ (i : Int) by omega), Int.toNat_natCast, rdI m i hi, nxt i _ hi (by omega), if_pos (show (l ++ m.take i).length < 140737488355328 by rw [List.length_append, List.length_take]; omega)]
      rw [Int.toNat_natCast, List.take_add_one, List.getElem?_eq_getElem hi, ← List.append_assoc] at ih
      exact ih))
  unfold spec_l01Join.f
  simp only [EvB (bytesS l hl)]
  have e : l ++ m.take (0 : Int).toNat = l := by simp
  rw [e] at key
  exact key
def isN (a : ByteArray) : ByteArray → Bool := fun s => s.toList == a.toList
theorem find_ev (l : List S74) (a : ByteArray) (hl : l.length ≤ 1048576) : Ev (fun k => spec_l03Find.f k l a) (idxF (isN a) l 0) := by
  have key := up0 (P := fun i => Ev (fun k => spec_l03Find.l0 k a i l) (idxF (isN a) (l.drop i.toNat) i)) l.length
    (EvS (by
      simp only [spec_l03Find.l0, Int.lt_irrefl, if_false, Int.toNat_natCast, List.drop_length, idxF]
      exact EvN))
    (fun i hi ih => EvS (by
      rw [Int.toNat_natCast] at *
      rw [drop_at l i hi]
      simp only [spec_l03Find.l0, if_pos (show (i : Int) < (l.length : Int) by omega), if_pos (show 0 ≤ (i : Int) by omega), rd74 l i hi, nxt i _ hi (by omega), idxF]
      by_cases h : l[i].f0.toList = a.toList
      · simp only [if_pos h, isN, beq_iff_eq.2 h, if_true]; exact EvN
      simp only [if_neg h, isN, beq_eq_false_iff_ne.2 h, Bool.false_eq_true, if_false]
      exact ih))
  unfold spec_l03Find.f
  exact key
theorem idxF_bd (p : ByteArray → Bool) : ∀ (l : List S74) (i : Int), 0 ≤ i → idxF p l i = -1 ∨ (i ≤ idxF p l i ∧ idxF p l i < i + l.length) := by
  intro l
  induction l with
  | nil => intro i _; exact .inl rfl
  | cons x t ih =>
    intro i hi
    unfold idxF
    by_cases h : p x.f0 = true
    · rw [if_pos h]; right; simp only [List.length_cons]; omega
    rw [if_neg h]
    rcases ih (i + 1) (by omega) with h1 | h1
    · exact .inl h1
    right; simp only [List.length_cons]; omega
def contentM (l : List S74) (a : ByteArray) : List Int × Bool := if diskM l = true then (if idxF (isN a) l 0 < 0 then ([], false) else ((rd_T74 l (idxF (isN a) l 0)).f1 ++ (rd_T74 l (idxF (isN a) l 0)).f2, true)) else ([], false)
theorem at_bd (l : List S74) (hw : wfD l) (i : Int) (h0 : 0 ≤ i) (h1 : i < l.length) : (rd_T74 l i).f1.length ≤ 1048576 ∧ (rd_T74 l i).f2.length ≤ 1048576 := by
  obtain ⟨n, rfl⟩ := Int.eq_ofNat_of_zero_le h0
  have hn : n < l.length := by omega
  rw [rd74 l n hn]
  exact (hw _ (List.getElem_mem hn)).2
theorem content_le (l : List S74) (a : ByteArray) (hw : wfD l) : (contentM l a).1.length ≤ 2097152 := by
  unfold contentM
  by_cases h : diskM l = true
  · rw [if_pos h]
    by_cases h2 : idxF (isN a) l 0 < 0
    · rw [if_pos h2]; simp
    rw [if_neg h2]
    have := idxF_bd (isN a) l 0 (by omega)
    have := at_bd l hw (idxF (isN a) l 0) (by omega) (by omega)
    rw [List.length_append]
    omega
  rw [if_neg h]; simp
theorem spec_content (l : List S74) (a : ByteArray) (hl : l.length ≤ 1048576) (hw : wfD l) : Ev (fun k => spec_Content.f k l a) (contentM l a) := by
  unfold spec_Content.f contentM
  simp only [EvB (find_ev l a hl), EvB (spec_disk l hl hw)]
  have hb := idxF_bd (isN a) l 0 (by omega)
  generalize idxF (isN a) l 0 = i at hb ⊢
  by_cases h : diskM l = true
  · by_cases h2 : i < 0
    · simp only [if_pos h, if_pos h2]; exact EvN
    have hr := at_bd l hw i (by omega) (by omega)
    simp only [if_pos h, if_neg h2, if_pos (show 0 ≤ i by omega), if_pos (show i < (l.length : Int) by omega), EvB (joinS (rd_T74 l i).f1 (rd_T74 l i).f2 (by omega) (by omega))]
    exact EvN
  simp only [if_neg h]; exact EvN
theorem lt47 (n m : Nat) (h : n ≤ 1000000000) (h' : m ≤ 1000000000) : n + m < 140737488355328 := by omega
theorem impl_content (l : List S74) (a : ByteArray) (hl : l.length ≤ 1048576) (hw : wfD l) : Ev (fun k => impl_Content.f k l a) (contentM l a) := by
  unfold impl_Content.f contentM
  have hf : impl_fileOf.f l a = some (idxF (isN a) l 0) := by unfold impl_fileOf.f; rw [if_pos (by omega)]; rfl
  simp only [hf, Option.bind_some, EvB (impl_disk l hl hw)]
  have hb := idxF_bd (isN a) l 0 (by omega)
  generalize idxF (isN a) l 0 = i at hb ⊢
  by_cases h : diskM l = true
  · by_cases h2 : i < 0
    · simp only [if_pos h, if_pos h2]; exact EvN
    have hr := at_bd l hw i (by omega) (by omega)
    have hc : impl_File_content.f (rd_T74 l i).f0 (rd_T74 l i).f1 (rd_T74 l i).f2 = some ((rd_T74 l i).f1 ++ (rd_T74 l i).f2) := by
      unfold impl_File_content.f
      rw [Option.bind_some, if_pos (lt47 _ _ (by simp) (by omega)), Option.bind_some, if_pos (lt47 _ _ (by simp; omega) (by omega)), List.nil_append]
    simp only [if_pos h, if_neg h2, if_pos (show 0 ≤ i by omega), if_pos (show i < (l.length : Int) by omega), hc, Option.bind_some]
    exact EvN
  simp only [if_neg h]; exact EvN
theorem lt_irr : ∀ a : List UInt8, Op.bytesLess a a = false
  | [] => rfl
  | x :: r => by simp [Op.bytesLess, lt_irr r]
theorem lt_trans : ∀ a b c : List UInt8, Op.bytesLess a b = true → Op.bytesLess b c = true → Op.bytesLess a c = true
  | a, b, [], _, h => by cases b <;> simp [Op.bytesLess] at h
  | [], b, z :: c, _, _ => rfl
  | x :: a, [], z :: c, h, _ => by simp [Op.bytesLess] at h
  | x :: a, y :: b, z :: c, h, h' => by
    simp only [Op.bytesLess, Bool.or_eq_true, decide_eq_true_eq, Bool.and_eq_true, beq_iff_eq, UInt8.lt_iff_toNat_lt] at h h' ⊢
    rcases h with h | ⟨rfl, h⟩
    · rcases h' with h' | ⟨rfl, h'⟩
      · exact .inl (by omega)
      exact .inl h
    rcases h' with h' | ⟨rfl, h'⟩
    · exact .inl h'
    exact .inr ⟨rfl, lt_trans a b c h h'⟩
theorem lt_ne {a b : List UInt8} (h : Op.bytesLess a b = true) : a ≠ b := by
  rintro rfl
  rw [lt_irr] at h
  cases h
theorem lt_total : ∀ a b : List UInt8, Op.bytesLess a b = false → Op.bytesLess b a = false → a = b
  | [], [], _, _ => rfl
  | [], y :: b, h, _ => by simp [Op.bytesLess] at h
  | x :: a, [], _, h => by simp [Op.bytesLess] at h
  | x :: a, y :: b, h, h' => by
    simp only [Op.bytesLess, Bool.or_eq_false_iff, decide_eq_false_iff_not, Bool.and_eq_false_iff, beq_eq_false_iff_ne, UInt8.lt_iff_toNat_lt] at h h'
    have e : x = y := UInt8.toNat_inj.1 (by omega)
    subst e
    rw [lt_total a b (h.2.resolve_left (fun h => h rfl)) (h'.2.resolve_left (fun h => h rfl))]
def nm (x : S74) : List UInt8 := x.f0.toList
def srt (l : List S74) : Prop := ∀ i j : Nat, i < j → ∀ x y, l[i]? = some x → l[j]? = some y → Op.bytesLess (nm x) (nm y) = true
theorem goD_at (l : List S74) : ∀ d i : Nat, goD l d i = true → ∀ j, i ≤ j → j < i + d → okAt l j = true := by
  intro d
  induction d with
  | zero => intro i _ j _ _; omega
  | succ d ih =>
    intro i h j h1 h2
    unfold goD at h
    rw [Bool.and_eq_true] at h
    by_cases e : j = i
    · subst e; exact h.1
    exact ih (i + 1) h.2 j (by omega) (by omega)
theorem goD_of (l : List S74) : ∀ d i : Nat, (∀ j, i ≤ j → j < i + d → okAt l j = true) → goD l d i = true := by
  intro d
  induction d with
  | zero => intro i _; rfl
  | succ d ih =>
    intro i h
    unfold goD
    rw [Bool.and_eq_true]
    exact ⟨h i (by omega) (by omega), ih (i + 1) (fun j h1 h2 => h j (by omega) (by omega))⟩
theorem disk_srt {l : List S74} (h : diskM l = true) : srt l := by
  unfold diskM at h
  rw [Bool.and_eq_true] at h
  have hk := goD_at l _ _ h.2
  have step : ∀ j, j + 1 < l.length → Op.bytesLess (nm (l.getD j z74)) (nm (l.getD (j + 1) z74)) = true := by
    intro j hj
    have := hk (j + 1) (by omega) (by omega)
    unfold okAt at this
    rw [Bool.and_eq_true, Bool.and_eq_true, Bool.or_eq_true] at this
    have h3 := this.2.2.resolve_left (by simp)
    simpa [rd_T74, nm] using h3
  have key : ∀ j i : Nat, i < j → j < l.length → Op.bytesLess (nm (l.getD i z74)) (nm (l.getD j z74)) = true := by
    intro j
    induction j with
    | zero => intro i h1; omega
    | succ j ih =>
      intro i h1 h2
      by_cases e : i = j
      · subst e; exact step i h2
      exact lt_trans _ _ _ (ih i (by omega) (by omega)) (step j h2)
  intro i j hij x y hx hy
  have h1 := (List.getElem?_eq_some_iff.1 hy).1
  have := key j i hij h1
  rw [List.getD_eq_getElem?_getD, List.getD_eq_getElem?_getD, hx, hy] at this
  exact this
theorem idxF_at (p : ByteArray → Bool) : ∀ (l : List S74) (s : Int), (idxF p l s = -1 ∧ ∀ x ∈ l, p x.f0 = false) ∨ (∃ m : Nat, ∃ x, idxF p l s = s + m ∧ l[m]? = some x ∧ p x.f0 = true ∧ ∀ (j : Nat) (y : S74), j < m → l[j]? = some y → p y.f0 = false) := by
  intro l
  induction l with
  | nil => intro s; exact .inl ⟨rfl, fun x hx => by cases hx⟩
  | cons x t ih =>
    intro s
    unfold idxF
    by_cases h : p x.f0 = true
    · rw [if_pos h]
      exact .inr ⟨0, x, by simp, rfl, h, fun j y hj => by omega⟩
    rw [if_neg h]
    rcases ih (s + 1) with ⟨h1, h2⟩ | ⟨m, y, h1, h2, h3, h4⟩
    · refine .inl ⟨h1, fun y hy => ?_⟩
      rcases List.mem_cons.1 hy with rfl | hy
      · exact Bool.eq_false_iff.2 h
      exact h2 y hy
    refine .inr ⟨m + 1, y, by rw [h1]; omega, by rw [List.getElem?_cons_succ]; exact h2, h3, fun j z hj hz => ?_⟩
    cases j with
    | zero => simp only [List.getElem?_cons_zero, Option.some.injEq] at hz; subst hz; exact Bool.eq_false_iff.2 h
    | succ j => rw [List.getElem?_cons_succ] at hz; exact h4 j z (by omega) hz
def notN (a : ByteArray) : S74 → Bool := fun x => !isN a x.f0
theorem filter_all {α : Type} {p : α → Bool} {l : List α} (h : ∀ x ∈ l, p x = true) : l.filter p = l := List.filter_eq_self.2 h
theorem split_at {α : Type} (l : List α) (m : Nat) (x : α) (h : l[m]? = some x) : l = l.take m ++ x :: l.drop (m + 1) := by
  obtain ⟨h1, h2⟩ := List.getElem?_eq_some_iff.1 h
  conv => lhs; rw [← List.take_append_drop m l, List.drop_eq_getElem_cons h1, h2]
theorem without_at {l : List S74} (hs : srt l) (a : ByteArray) (m : Nat) (x : S74) (hx : l[m]? = some x) (hp : isN a x.f0 = true) : l.filter (notN a) = l.eraseIdx m := by
  have hn : nm x = a.toList := by simpa [isN, nm] using hp
  have hb : ∀ y ∈ l.take m, notN a y = true := by
    intro y hy
    obtain ⟨j, hj⟩ := List.mem_iff_getElem?.1 hy
    rw [List.getElem?_take] at hj
    split at hj
    · have := lt_ne (hs j m (by omega) y x hj hx)
      simp only [notN, isN, Bool.not_eq_true', beq_eq_false_iff_ne]
      rw [← hn]; exact this
    cases hj
  have ha : ∀ y ∈ l.drop (m + 1), notN a y = true := by
    intro y hy
    obtain ⟨j, hj⟩ := List.mem_iff_getElem?.1 hy
    rw [List.getElem?_drop] at hj
    have := lt_ne (hs m (m + 1 + j) (by omega) x y hx hj)
    simp only [notN, isN, Bool.not_eq_true', beq_eq_false_iff_ne]
    rw [← hn]; exact fun e => this e.symm
  conv => lhs; rw [split_at l m x hx]
  rw [List.filter_append, filter_all hb, List.filter_cons, if_neg (by simp [notN, hp]), filter_all ha, List.eraseIdx_eq_take_drop_succ]
theorem copyS (l : List S74) (hl : l.length ≤ 100000000) (hw : ∀ y ∈ l, y.f1.length ≤ 100000000 ∧ y.f2.length ≤ 100000000) : Ev (fun k => spec_l03Copy.f k l) l := by
  have key := up0 (P := fun i => Ev (fun k => spec_l03Copy.l0 k i l (l.take i.toNat)) l) l.length
    (EvS (by simp only [spec_l03Copy.l0, Int.lt_irrefl, if_false, Int.toNat_natCast, List.take_length]; exact EvN))
    (fun i hi ih => EvS (by
      have hy := hw _ (List.getElem_mem hi)
      simp only [spec_l03Copy.l0, if_pos (show (i : Int) < (l.length : Int) by omega), if_pos (show 0 ≤ (i : Int) by omega), Int.toNat_natCast, rd74 l i hi, EvB (bytesS _ (show l[i].f1.length ≤ 1000000000 by omega)), EvB (bytesS _ (show l[i].f2.length ≤ 1000000000 by omega)), nxt i _ hi (by omega), if_pos (show (l.take i).length < 2199023255552 by rw [List.length_take]; omega)]
      rw [Int.toNat_natCast, List.take_add_one, List.getElem?_eq_getElem hi] at ih
      exact ih))
  unfold spec_l03Copy.f
  exact key
theorem copyI (l : List S74) (hl : l.length ≤ 100000000) (hw : ∀ y ∈ l, y.f1.length ≤ 100000000 ∧ y.f2.length ≤ 100000000) : Ev (fun k => impl_copyDisk.f k l) l := by
  have key := up0 (P := fun i => Ev (fun k => impl_copyDisk.l0 k l (l.length : Int) i (l.take i.toNat)) l) l.length
    (EvS (by simp only [impl_copyDisk.l0, Int.lt_irrefl, if_false, Int.toNat_natCast, List.take_length]; exact EvN))
    (fun i hi ih => EvS (by
      have hy := hw _ (List.getElem_mem hi)
      simp only [impl_copyDisk.l0, if_pos (show (i : Int) < (l.length : Int) by omega), if_pos (show 0 ≤ (i : Int) by omega), Int.toNat_natCast, rd74 l i hi, Option.bind_some, if_pos (show ([] : List Int).length + l[i].f1.length < 140737488355328 by rw [List.length_nil]; omega), if_pos (show ([] : List Int).length + l[i].f2.length < 140737488355328 by rw [List.length_nil]; omega), List.nil_append, nxt i _ hi (by omega), if_pos (show (l.take i).length < 2199023255552 by rw [List.length_take]; omega)]
      rw [Int.toNat_natCast, List.take_add_one, List.getElem?_eq_getElem hi] at ih
      exact ih))
  unfold impl_copyDisk.f
  exact key
theorem withoutS (l : List S74) (a : ByteArray) (hl : l.length ≤ 100000000) (hw : ∀ y ∈ l, y.f1.length ≤ 100000000 ∧ y.f2.length ≤ 100000000) : Ev (fun k => spec_l03Without.f k l a) (l.filter (notN a)) := by
  have key := up0 (P := fun i => Ev (fun k => spec_l03Without.l0 k a i l ((l.take i.toNat).filter (notN a))) (l.filter (notN a))) l.length
    (EvS (by
      have hlf : (l.filter (notN a)).length ≤ 100000000 := Nat.le_trans (List.length_filter_le _ _) hl
      simp only [spec_l03Without.l0, Int.lt_irrefl, if_false, Int.toNat_natCast, List.take_length, EvB (copyS _ hlf (fun y hy => hw y (List.mem_filter.1 hy).1))]
      exact EvN))
    (fun i hi ih => EvS (by
      have hlf : ((l.take i).filter (notN a)).length ≤ i := Nat.le_trans (List.length_filter_le _ _) (by rw [List.length_take]; omega)
      rw [Int.toNat_natCast, List.take_add_one, List.getElem?_eq_getElem hi, Option.toList_some, List.filter_append, List.filter_cons, List.filter_nil] at ih
      simp only [spec_l03Without.l0, if_pos (show (i : Int) < (l.length : Int) by omega), if_pos (show 0 ≤ (i : Int) by omega), Int.toNat_natCast, rd74 l i hi, nxt i _ hi (by omega)]
      by_cases c : l[i].f0.toList = a.toList
      · rw [if_neg (by simp [notN, isN, c]), List.append_nil] at ih
        simp only [if_pos c]
        exact ih
      rw [if_pos (by simp [notN, isN, c])] at ih
      simp only [if_neg c, if_pos (show ((l.take i).filter (notN a)).length < 2199023255552 by omega)]
      exact ih))
  unfold spec_l03Without.f
  exact key
def lessN (a : ByteArray) : S74 → Bool := fun x => Op.bytesLess (nm x) a.toList
def putGo (f : S74) : Bool → List S74 → List S74 → List S74
  | b, [], out => if b = true then out else out ++ [f]
  | true, x :: r, out => if nm x = nm f then putGo f true r out else putGo f true r (out ++ [x])
  | false, x :: r, out => if lessN f.f0 x = true then (if nm x = nm f then putGo f false r out else putGo f false r (out ++ [x])) else (if nm x = nm f then putGo f true r (out ++ [f]) else putGo f true r (out ++ [f] ++ [x]))
theorem putGo_true (f : S74) : ∀ (l out : List S74), putGo f true l out = out ++ l.filter (notN f.f0)
  | [], out => by simp [putGo]
  | x :: r, out => by
    unfold putGo
    by_cases c : nm x = nm f
    · rw [if_pos c, putGo_true f r out, List.filter_cons, if_neg (by simp [notN, isN]; exact c)]
    rw [if_neg c, putGo_true f r _, List.filter_cons, if_pos (by simp [notN, isN]; exact c), List.append_assoc]; rfl
theorem putGo_false (f : S74) : ∀ (l out : List S74), putGo f false l out = out ++ l.takeWhile (lessN f.f0) ++ f :: (l.dropWhile (lessN f.f0)).filter (notN f.f0)
  | [], out => by simp [putGo]
  | x :: r, out => by
    unfold putGo
    by_cases h : lessN f.f0 x = true
    · have c : ¬ nm x = nm f := lt_ne h
      rw [if_pos h, if_neg c, putGo_false f r _, List.takeWhile_cons_of_pos h, List.dropWhile_cons_of_pos h]
      simp
    rw [if_neg h, List.takeWhile_cons_of_neg h, List.dropWhile_cons_of_neg h]
    by_cases c : nm x = nm f
    · rw [if_pos c, putGo_true, List.filter_cons, if_neg (by simp [notN, isN]; exact c)]
      simp
    rw [if_neg c, putGo_true, List.filter_cons, if_pos (by simp [notN, isN]; exact c)]
    simp
def putM (l : List S74) (f : S74) : List S74 := l.takeWhile (lessN f.f0) ++ f :: (l.dropWhile (lessN f.f0)).filter (notN f.f0)
theorem put_len (f : S74) : ∀ (b : Bool) (l out : List S74), (putGo f b l out).length ≤ out.length + l.length + 1 := by
  intro b l out
  cases b with
  | true => rw [putGo_true, List.length_append]; have := List.length_filter_le (notN f.f0) l; omega
  | false =>
    rw [putGo_false]
    have h1 := List.length_filter_le (notN f.f0) (l.dropWhile (lessN f.f0))
    have h2 : (l.takeWhile (lessN f.f0)).length + (l.dropWhile (lessN f.f0)).length = l.length := by rw [← List.length_append, List.takeWhile_append_dropWhile]
    simp only [List.length_append, List.length_cons]
    omega
theorem put_mem (f : S74) (l : List S74) : ∀ y ∈ putM l f, y = f ∨ y ∈ l := by
  intro y hy
  rcases List.mem_append.1 hy with h | h
  · exact .inr ((List.takeWhile_sublist _).subset h)
  rcases List.mem_cons.1 h with h | h
  · exact .inl h
  exact .inr ((List.dropWhile_sublist _).subset (List.mem_filter.1 h).1)
theorem putS (l : List S74) (f : S74) (hl : l.length ≤ 10000000) (hw : ∀ y ∈ l, y.f1.length ≤ 100000000 ∧ y.f2.length ≤ 100000000) (hf : f.f1.length ≤ 100000000 ∧ f.f2.length ≤ 100000000) : Ev (fun k => spec_l03Put.f k l f.f0 f.f1 f.f2) (putM l f) := by
  have hsz : (putM l f).length ≤ 100000000 := by
    have := put_len f false l []
    rw [putGo_false, List.length_nil] at this
    simp only [List.nil_append] at this
    show (l.takeWhile (lessN f.f0) ++ f :: (l.dropWhile (lessN f.f0)).filter (notN f.f0)).length ≤ _
    omega
  have fin : Ev (fun k => spec_l03Copy.f k (putM l f)) (putM l f) := copyS _ hsz (fun y hy => by
    rcases put_mem f l y hy with rfl | h
    · exact hf
    exact hw y h)
  have key : ∀ d i : Nat, d + i = l.length → ∀ (b : Bool) (out : List S74), out.length ≤ 2 * i → putGo f b (l.drop i) out = putM l f → Ev (fun k => spec_l03Put.l0 k b i l f.f0 f.f1 f.f2 out) (putM l f) := by
    intro d
    induction d with
    | zero =>
      intro i hi b out h1 h3
      have hi : i = l.length := by omega
      subst hi
      rw [List.drop_length] at h3
      refine EvS ?_
      simp only [spec_l03Put.l0, Int.lt_irrefl, if_false]
      cases b with
      | true =>
        simp only [putGo, if_true] at h3
        subst h3
        simp only [if_true]
        exact (EvB fin).2 EvN
      | false =>
        simp only [putGo, Bool.false_eq_true, if_false] at h3
        simp only [Bool.false_eq_true, if_false, if_pos (show out.length < 2199023255552 by omega)]
        rw [h3]
        exact (EvB fin).2 EvN
    | succ d ih =>
      intro i hi b out h1 h3
      have hil : i < l.length := by omega
      rw [drop_at l i hil] at h3
      have ih' := fun b out h1 h3 => ih (i + 1) (by omega) b out h1 h3
      refine EvS ?_
      have hi1 : (i : Int) < (l.length : Int) := by omega
      have hi0 : 0 ≤ (i : Int) := by omega
      have hnx := nxt i _ hil (by omega)
      simp only [spec_l03Put.l0, if_pos hi1, if_pos hi0, rd74 l i hil]
      cases b with
      | true =>
        simp only [if_true]
        refine EvS ?_
        simp only [spec_l03Put.j1, Bool.false_eq_true, if_false, if_pos hi1, if_pos hi0, rd74 l i hil, hnx]
        simp only [putGo] at h3
        by_cases c : l[i].f0.toList = f.f0.toList
        · rw [if_pos (show nm l[i] = nm f from c)] at h3
          simp only [if_pos c]
          exact ih' _ _ (by omega) h3
        rw [if_neg (show ¬ nm l[i] = nm f from c)] at h3
        simp only [if_neg c, if_pos (show out.length < 2199023255552 by omega)]
        exact ih' _ _ (by simp; omega) h3
      | false =>
        simp only [Bool.false_eq_true, if_false]
        refine EvS ?_
        simp only [putGo] at h3
        by_cases g : lessN f.f0 l[i] = true
        · have g' : Op.bytesLess l[i].f0.toList f.f0.toList = true := g
          rw [if_pos g] at h3
          simp only [g', Bool.not_true, spec_l03Put.j1, Bool.false_eq_true, if_false, if_pos hi1, if_pos hi0, rd74 l i hil, hnx]
          by_cases c : l[i].f0.toList = f.f0.toList
          · rw [if_pos (show nm l[i] = nm f from c)] at h3
            simp only [if_pos c]
            exact ih' _ _ (by omega) h3
          rw [if_neg (show ¬ nm l[i] = nm f from c)] at h3
          simp only [if_neg c, if_pos (show out.length < 2199023255552 by omega)]
          exact ih' _ _ (by simp; omega) h3
        have g' : Op.bytesLess l[i].f0.toList f.f0.toList = false := Bool.eq_false_iff.2 g
        rw [if_neg g] at h3
        simp only [g', Bool.not_false, spec_l03Put.j1, if_true, if_pos hi1, if_pos hi0, rd74 l i hil, hnx, if_pos (show out.length < 2199023255552 by omega), Option.bind_some]
        by_cases c : l[i].f0.toList = f.f0.toList
        · rw [if_pos (show nm l[i] = nm f from c)] at h3
          simp only [if_pos c]
          exact ih' _ _ (by simp; omega) h3
        rw [if_neg (show ¬ nm l[i] = nm f from c)] at h3
        have hlen : (out ++ [(⟨f.f0, f.f1, f.f2⟩ : S74)]).length < 2199023255552 := by simp; omega
        simp only [if_neg c, if_pos hlen]
        exact ih' _ _ (by simp; omega) h3
  have := key l.length 0 rfl false [] (by simp) (by rw [List.drop_zero, putGo_false]; rfl)
  unfold spec_l03Put.f
  exact this
theorem wfD_le' {l : List S74} (hw : wfD l) : ∀ y ∈ l, y.f1.length ≤ 100000000 ∧ y.f2.length ≤ 100000000 := fun y hy => by have := hw y hy; omega
theorem content_ok {l : List S74} {a : ByteArray} (h : (contentM l a).2 = true) : diskM l = true ∧ ¬ idxF (isN a) l 0 < 0 ∧ (contentM l a).1 = (rd_T74 l (idxF (isN a) l 0)).f1 ++ (rd_T74 l (idxF (isN a) l 0)).f2 := by
  unfold contentM at h ⊢
  by_cases h1 : diskM l = true
  · rw [if_pos h1] at h ⊢
    by_cases h2 : idxF (isN a) l 0 < 0
    · rw [if_pos h2] at h; cases h
    rw [if_neg h2]; exact ⟨h1, h2, rfl⟩
  rw [if_neg h1] at h; cases h
theorem content_no {l : List S74} {a : ByteArray} (h : ¬ (contentM l a).2 = true) : diskM l = true → idxF (isN a) l 0 < 0 := by
  intro h1
  refine Decidable.byContradiction fun h2 => h ?_
  unfold contentM
  rw [if_pos h1, if_neg h2]
theorem idx_at (l : List S74) (a : ByteArray) (h : ¬ idxF (isN a) l 0 < 0) : ∃ (m : Nat) (x : S74), idxF (isN a) l 0 = m ∧ l[m]? = some x ∧ nm x = a.toList ∧ m < l.length := by
  rcases idxF_at (isN a) l 0 with ⟨h1, _⟩ | ⟨m, x, h1, h2, h3, _⟩
  · omega
  exact ⟨m, x, by omega, h2, by simpa [isN, nm] using h3, (List.getElem?_eq_some_iff.1 h2).1⟩
theorem put_at {l : List S74} (hs : srt l) (f : S74) (m : Nat) (x : S74) (hx : l[m]? = some x) (hn : nm x = f.f0.toList) : putM l f = l.set m f := by
  have hb : ∀ y ∈ l.take m, lessN f.f0 y = true := by
    intro y hy
    obtain ⟨j, hj⟩ := List.mem_iff_getElem?.1 hy
    rw [List.getElem?_take] at hj
    split at hj
    · have := hs j m (by omega) y x hj hx
      rw [hn] at this
      exact this
    cases hj
  have ha : ∀ y ∈ l.drop (m + 1), notN f.f0 y = true := by
    intro y hy
    obtain ⟨j, hj⟩ := List.mem_iff_getElem?.1 hy
    rw [List.getElem?_drop] at hj
    have := lt_ne (hs m (m + 1 + j) (by omega) x y hx hj)
    simp only [notN, isN, Bool.not_eq_true', beq_eq_false_iff_ne]
    rw [← hn]; exact fun e => this e.symm
  have hx0 : lessN f.f0 x = false := by unfold lessN; rw [hn, lt_irr]
  have hx1 : notN f.f0 x = false := by unfold notN isN; rw [Bool.not_eq_false', beq_iff_eq]; exact hn
  have hm := (List.getElem?_eq_some_iff.1 hx).1
  unfold putM
  have e1 : l.takeWhile (lessN f.f0) = l.take m := by
    conv => lhs; rw [split_at l m x hx]
    rw [List.takeWhile_append_of_pos hb, List.takeWhile_cons_of_neg (by rw [hx0]; decide), List.append_nil]
  have e2 : l.dropWhile (lessN f.f0) = x :: l.drop (m + 1) := by
    conv => lhs; rw [split_at l m x hx]
    rw [List.dropWhile_append_of_pos hb, List.dropWhile_cons_of_neg (by rw [hx0]; decide)]
  rw [e1, e2, List.filter_cons, if_neg (by rw [hx1]; decide), filter_all ha, List.set_eq_take_append_cons_drop, if_pos hm]
theorem mem_set {l : List S74} {m : Nat} {f y : S74} (h : y ∈ l.set m f) : y = f ∨ y ∈ l := (List.mem_or_eq_of_mem_set h).symm
theorem content_at (l : List S74) (hw : wfD l) (i : Int) (h0 : 0 ≤ i) (h1 : i < l.length) : impl_File_content.f (rd_T74 l i).f0 (rd_T74 l i).f1 (rd_T74 l i).f2 = some ((rd_T74 l i).f1 ++ (rd_T74 l i).f2) := by
  have hr := at_bd l hw i h0 h1
  unfold impl_File_content.f
  rw [Option.bind_some, if_pos (lt47 _ _ (by simp) (by omega)), Option.bind_some, if_pos (lt47 _ _ (by simp; omega) (by omega)), List.nil_append]
end Go.Proofs.YtmgeffgcihfpcaaDoor.DK

namespace Go.Proofs.YtmgeffgcihfpcaaDoor.F
open Go.RowKit Go.Proofs.YtmgeffgcihfpcaaDoorW.PrintWords Go.Proofs.YtmgeffgcihfpcaaDoorW.PrintLast Go.Proofs.YtmgeffgcihfpcaaDoorW.PrintMore
open Go.Proofs.YtmgeffgcihfpcaaDoor
set_option linter.unusedVariables false
set_option linter.unusedSimpArgs false
end Go.Proofs.YtmgeffgcihfpcaaDoor.F

namespace Go.Proofs.YtmgeffgcihfpcaaDoor.DK
set_option linter.unusedVariables false
set_option linter.unusedSimpArgs false
open Go.RowKit Go.Proofs.YtmgeffgcihfpcaaDoor.F Go.Proofs.YtmgeffgcihfpcaaDoor.PK Go.Proofs.YtmgeffgcihfpcaaDoorW.PrintWords Go.Proofs.YtmgeffgcihfpcaaDoorW.PrintLast Go.Proofs.YtmgeffgcihfpcaaDoorW.PrintMore
def syncM (l : List S74) (a : ByteArray) : List S74 × Bool := if (contentM l a).2 = true then (l.set (idxF (isN a) l 0).toNat ⟨a, (contentM l a).1, []⟩, true) else (l, false)
theorem spec_sync (l : List S74) (a : ByteArray) (hl : l.length ≤ 1048576) (hw : wfD l) : Ev (fun k => spec_SyncFile.f k l a) (syncM l a) := by
  have hc := copyS l (by omega) (wfD_le' hw)
  have hS := spec_content l a hl hw
  have hb := content_le l a hw
  unfold spec_SyncFile.f syncM
  simp only [EvB hS]
  by_cases h : (contentM l a).2 = true
  · obtain ⟨h1, h2, _⟩ := content_ok h
    obtain ⟨m, x, e, hx, hn, hm⟩ := idx_at l a h2
    have hP := putS l ⟨a, (contentM l a).1, []⟩ (by omega) (wfD_le' hw) ⟨by show (contentM l a).1.length ≤ 100000000; omega, by simp⟩
    rw [put_at (disk_srt h1) _ m x hx hn] at hP
    simp only [if_pos h]
    rw [e, Int.toNat_natCast]
    exact (EvB hP).2 EvN
  simp only [if_neg h]
  exact (EvB hc).2 EvN
def cutM (l : List S74) (a : ByteArray) (n : Int) : List S74 × Bool := if (contentM l a).2 = true then (if 0 ≤ n ∧ n ≤ ((contentM l a).1.length : Int) then (l.set (idxF (isN a) l 0).toNat ⟨a, (contentM l a).1.take n.toNat, []⟩, true) else (l, false)) else (l, false)
theorem spec_cut (l : List S74) (a : ByteArray) (n : Int) (hl : l.length ≤ 1048576) (hw : wfD l) : Ev (fun k => spec_CutFile.f k l a n) (cutM l a n) := by
  have hc := copyS l (by omega) (wfD_le' hw)
  have hS := spec_content l a hl hw
  have hb := content_le l a hw
  unfold spec_CutFile.f cutM
  simp only [EvB hS]
  by_cases h : (contentM l a).2 = true
  · obtain ⟨h1, h2, _⟩ := content_ok h
    obtain ⟨m, x, e, hx, hn, hm⟩ := idx_at l a h2
    simp only [if_pos h]
    by_cases g : 0 ≤ n ∧ n ≤ ((contentM l a).1.length : Int)
    · have hIn : spec_l01In.f n 0 ((contentM l a).1.length : Int) = some true := by unfold spec_l01In.f; rw [if_pos g.1, decide_eq_true g.2]
      have hP := putS l ⟨a, (contentM l a).1.take n.toNat, []⟩ (by omega) (wfD_le' hw) ⟨by show ((contentM l a).1.take n.toNat).length ≤ 100000000; rw [List.length_take]; omega, by simp⟩
      rw [put_at (disk_srt h1) _ m x hx hn] at hP
      simp only [hIn, Option.bind_some, Bool.not_true, if_pos g]
      refine EvS ?_
      simp only [spec_CutFile.j0, Bool.false_eq_true, if_false, if_pos g.1, if_pos g.2]
      rw [e, Int.toNat_natCast]
      exact (EvB hP).2 EvN
    have hIn : spec_l01In.f n 0 ((contentM l a).1.length : Int) = some false := by
      unfold spec_l01In.f
      by_cases g1 : 0 ≤ n
      · rw [if_pos g1, decide_eq_false (fun g2 => g ⟨g1, g2⟩)]
      rw [if_neg g1]
    simp only [hIn, Option.bind_some, Bool.not_false, if_neg g]
    refine EvS ?_
    simp only [spec_CutFile.j0, if_true]
    exact (EvB hc).2 EvN
  simp only [if_neg h]
  refine EvS ?_
  simp only [spec_CutFile.j0, if_true]
  exact (EvB hc).2 EvN
theorem impl_cut (l : List S74) (a : ByteArray) (n : Int) (hl : l.length ≤ 1048576) (hw : wfD l) : Ev (fun k => impl_cutFile.f k l a n) (cutM l a n) := by
  have hc := copyI l (by omega) (wfD_le' hw)
  have hf : impl_fileOf.f l a = some (idxF (isN a) l 0) := by unfold impl_fileOf.f; rw [if_pos (by omega)]; rfl
  unfold impl_cutFile.f cutM
  simp only [EvB hc, hf, Option.bind_some, EvB (impl_disk l hl hw)]
  by_cases h : (contentM l a).2 = true
  · obtain ⟨h1, h2, h3⟩ := content_ok h
    obtain ⟨m, x, e, hx, hn, hm⟩ := idx_at l a h2
    have hil : idxF (isN a) l 0 < (l.length : Int) := by omega
    simp only [if_pos h1, if_neg h2, if_pos hil, content_at l hw _ (by omega) hil, Option.bind_some, if_pos h, h3]
    by_cases g1 : n < 0
    · simp only [if_pos g1, if_neg (show ¬ (0 ≤ n ∧ n ≤ (((rd_T74 l (idxF (isN a) l 0)).f1 ++ (rd_T74 l (idxF (isN a) l 0)).f2).length : Int)) by omega)]; exact EvN
    by_cases g2 : n > (((rd_T74 l (idxF (isN a) l 0)).f1 ++ (rd_T74 l (idxF (isN a) l 0)).f2).length : Int)
    · simp only [if_neg g1, if_pos g2, if_neg (show ¬ (0 ≤ n ∧ n ≤ (((rd_T74 l (idxF (isN a) l 0)).f1 ++ (rd_T74 l (idxF (isN a) l 0)).f2).length : Int)) by omega)]; exact EvN
    simp only [if_neg g1, if_neg g2, if_pos (show 0 ≤ n ∧ n ≤ (((rd_T74 l (idxF (isN a) l 0)).f1 ++ (rd_T74 l (idxF (isN a) l 0)).f2).length : Int) by omega)]; exact EvN
  simp only [if_neg h]
  by_cases h1 : diskM l = true
  · simp only [if_pos h1, if_pos (content_no h h1)]; exact EvN
  simp only [if_neg h1]; exact EvN
def removeM (l : List S74) (a : ByteArray) : List S74 × Bool := if diskM l = true then (if idxF (isN a) l 0 < 0 then (l, false) else (l.eraseIdx (idxF (isN a) l 0).toNat, true)) else (l, false)
theorem wfD_le {l : List S74} (hw : wfD l) : ∀ y ∈ l, y.f1.length ≤ 100000000 ∧ y.f2.length ≤ 100000000 := fun y hy => by have := hw y hy; omega
theorem idx_in (l : List S74) (a : ByteArray) (h : ¬ idxF (isN a) l 0 < 0) : ∃ (m : Nat) (x : S74), idxF (isN a) l 0 = m ∧ l[m]? = some x ∧ isN a x.f0 = true ∧ m < l.length := by
  rcases idxF_at (isN a) l 0 with ⟨h1, _⟩ | ⟨m, x, h1, h2, h3, _⟩
  · omega
  exact ⟨m, x, by omega, h2, h3, (List.getElem?_eq_some_iff.1 h2).1⟩
theorem spec_remove (l : List S74) (a : ByteArray) (hl : l.length ≤ 1048576) (hw : wfD l) : Ev (fun k => spec_RemoveFile.f k l a) (removeM l a) := by
  have hc := copyS l (by omega) (wfD_le hw)
  unfold spec_RemoveFile.f removeM
  simp only [EvB (spec_disk l hl hw)]
  by_cases h : diskM l = true
  · simp only [if_pos h, EvB (find_ev l a hl)]
    refine EvS ?_
    by_cases h2 : idxF (isN a) l 0 < 0
    · simp only [spec_RemoveFile.j0, decide_eq_true h2, if_true, EvB (EvP hc), if_pos h2]
      exact (EvB hc).2 EvN
    obtain ⟨m, x, e, hx, hp, hm⟩ := idx_in l a h2
    have hW := withoutS l a (by omega) (wfD_le hw)
    rw [without_at (disk_srt h) a m x hx hp] at hW
    simp only [spec_RemoveFile.j0, decide_eq_false h2, Bool.false_eq_true, if_false, if_neg h2]
    rw [e, Int.toNat_natCast]
    exact (EvB hW).2 EvN
  simp only [if_neg h]
  refine EvS ?_
  simp only [spec_RemoveFile.j0, if_true]
  exact (EvB hc).2 EvN
theorem impl_remove (l : List S74) (a : ByteArray) (hl : l.length ≤ 1048576) (hw : wfD l) : Ev (fun k => impl_removeFile.f k l a) (removeM l a) := by
  have hc := copyI l (by omega) (wfD_le hw)
  have hf : impl_fileOf.f l a = some (idxF (isN a) l 0) := by unfold impl_fileOf.f; rw [if_pos (by omega)]; rfl
  unfold impl_removeFile.f removeM
  simp only [EvB hc, hf, Option.bind_some, EvB (impl_disk l hl hw)]
  by_cases h : diskM l = true
  · simp only [if_pos h]
    by_cases h2 : idxF (isN a) l 0 < 0
    · simp only [if_pos h2]; exact EvN
    obtain ⟨m, x, e, hx, hp, hm⟩ := idx_in l a h2
    simp only [if_neg h2, if_pos (show idxF (isN a) l 0 < (l.length : Int) by omega)]
    exact EvN
  simp only [if_neg h]; exact EvN
abbrev ltF (x y : S74) : Prop := Op.bytesLess (nm x) (nm y) = true
theorem srt_pw {l : List S74} : srt l ↔ l.Pairwise ltF := by
  rw [List.pairwise_iff_getElem]
  constructor
  · intro h i j hi hj hij
    exact h i j hij _ _ (List.getElem?_eq_getElem hi) (List.getElem?_eq_getElem hj)
  intro h i j hij x y hx hy
  obtain ⟨hi, rfl⟩ := List.getElem?_eq_some_iff.1 hx
  obtain ⟨hj, rfl⟩ := List.getElem?_eq_some_iff.1 hy
  exact h i j hi hj hij
theorem ins_take (x : S74) : ∀ l : List S74, l.take (wIdx x.f0 l) = l.takeWhile (lessN x.f0) ∧ l.drop (wIdx x.f0 l) = l.dropWhile (lessN x.f0)
  | [] => ⟨rfl, rfl⟩
  | y :: r => by
    obtain ⟨h1, h2⟩ := ins_take x r
    unfold wIdx
    cases h : Op.bytesLess y.f0.toList x.f0.toList with
    | true =>
      have hl : lessN x.f0 y = true := h
      simp only [if_true, List.take_succ_cons, List.drop_succ_cons, List.takeWhile_cons, List.dropWhile_cons, hl, h1, h2, and_self]
    | false =>
      have hl : lessN x.f0 y = false := h
      simp only [Bool.false_eq_true, if_false, List.take_zero, List.drop_zero, List.takeWhile_cons, List.dropWhile_cons, hl, and_self]
theorem ins_eq (l : List S74) (x : S74) : insM l x = l.takeWhile (lessN x.f0) ++ x :: l.dropWhile (lessN x.f0) := by
  unfold insM
  rw [(ins_take x l).1, (ins_take x l).2]
theorem less_not {a : ByteArray} {y : S74} (h : lessN a y = true) : notN a y = true := by
  have := lt_ne (a := nm y) (b := a.toList) h
  unfold notN isN
  simpa [nm] using this
theorem dw_less {a : ByteArray} : ∀ {l : List S74}, l.Pairwise ltF → ∀ y ∈ l.dropWhile (lessN a), lessN a y = false
  | [], _, y, hy => by simp at hy
  | x :: r, h, y, hy => by
    rw [List.dropWhile_cons] at hy
    cases hx : lessN a x with
    | true => rw [hx, if_pos rfl] at hy; exact dw_less (List.pairwise_cons.1 h).2 y hy
    | false =>
      rw [hx, if_neg (by decide)] at hy
      rcases List.mem_cons.1 hy with rfl | hy
      · exact hx
      cases hq : lessN a y with
      | false => rfl
      | true =>
        have h1 : lessN a x = true := lt_trans _ _ _ ((List.pairwise_cons.1 h).1 y hy) hq
        rw [hx] at h1
        cases h1
theorem tw_app {p : S74 → Bool} : ∀ (t d : List S74), (∀ y ∈ t, p y = true) → (∀ y ∈ d, p y = false) → (t ++ d).takeWhile p = t ∧ (t ++ d).dropWhile p = d
  | [], d, _, hd => by
    cases d with
    | nil => exact ⟨rfl, rfl⟩
    | cons y r =>
      have := hd y List.mem_cons_self
      simp [List.takeWhile_cons, List.dropWhile_cons, this]
  | x :: t, d, ht, hd => by
    obtain ⟨h1, h2⟩ := tw_app t d (fun y hy => ht y (List.mem_cons_of_mem _ hy)) hd
    have := ht x List.mem_cons_self
    simp [List.takeWhile_cons, List.dropWhile_cons, this, h1, h2]
theorem tw_all {p : S74 → Bool} : ∀ (l : List S74), ∀ y ∈ l.takeWhile p, p y = true
  | [], y, hy => by simp at hy
  | x :: r, y, hy => by
    rw [List.takeWhile_cons] at hy
    cases hx : p x with
    | true =>
      rw [hx, if_pos rfl] at hy
      rcases List.mem_cons.1 hy with rfl | hy
      · exact hx
      exact tw_all r y hy
    | false => rw [hx, if_neg (by decide)] at hy; simp at hy
theorem fil_split {a : ByteArray} {l : List S74} (h : l.Pairwise ltF) : (l.filter (notN a)).takeWhile (lessN a) = l.takeWhile (lessN a) ∧ (l.filter (notN a)).dropWhile (lessN a) = (l.dropWhile (lessN a)).filter (notN a) := by
  have e : l.filter (notN a) = l.takeWhile (lessN a) ++ (l.dropWhile (lessN a)).filter (notN a) := by
    conv => lhs; rw [← List.takeWhile_append_dropWhile (p := lessN a) (l := l)]
    rw [List.filter_append, filter_all (fun y hy => less_not (tw_all l y hy))]
  rw [e]
  exact tw_app _ _ (fun y hy => tw_all l y hy) (fun y hy => dw_less h y (List.mem_filter.1 hy).1)
theorem ins_put {l : List S74} (h : l.Pairwise ltF) (f : S74) : insM (l.filter (notN f.f0)) f = putM l f := by
  rw [ins_eq, (fil_split h).1, (fil_split h).2]
  rfl
theorem put_fil {l : List S74} (h : l.Pairwise ltF) (f : S74) : putM (l.filter (notN f.f0)) f = putM l f := by
  unfold putM
  rw [(fil_split h).1, (fil_split h).2, List.filter_filter]
  simp only [Bool.and_self]
theorem disk_each {l : List S74} (h : diskM l = true) : l.length ≤ 8 ∧ ∀ y ∈ l, nameM y.f0 = true ∧ y.f1.length + y.f2.length ≤ 20000 := by
  unfold diskM at h
  rw [Bool.and_eq_true, decide_eq_true_iff] at h
  refine ⟨h.1, fun y hy => ?_⟩
  obtain ⟨j, hj, rfl⟩ := List.mem_iff_getElem.1 hy
  have hk := goD_at l _ _ h.2 j (by omega) (by omega)
  unfold okAt at hk
  rw [Bool.and_eq_true, Bool.and_eq_true, decide_eq_true_iff, rd74 l j hj] at hk
  exact ⟨hk.1, hk.2.1⟩
theorem disk_of {l : List S74} (h1 : l.length ≤ 8) (h2 : ∀ y ∈ l, nameM y.f0 = true ∧ y.f1.length + y.f2.length ≤ 20000) (h3 : l.Pairwise ltF) : diskM l = true := by
  unfold diskM
  rw [Bool.and_eq_true, decide_eq_true_iff]
  refine ⟨h1, goD_of l _ _ fun j _ hj => ?_⟩
  have hj : j < l.length := by omega
  have hy := h2 _ (List.getElem_mem hj)
  unfold okAt
  rw [Bool.and_eq_true, Bool.and_eq_true, decide_eq_true_iff, rd74 l j hj]
  refine ⟨hy.1, hy.2, ?_⟩
  by_cases h0 : j = 0
  · simp [h0]
  rw [rd74 l (j - 1) (by omega), Bool.or_eq_true]
  exact .inr (List.pairwise_iff_getElem.1 h3 (j - 1) j (by omega) hj (by omega))
theorem disk_fil {l : List S74} (p : S74 → Bool) (h : diskM l = true) : diskM (l.filter p) = true := by
  obtain ⟨h1, h2⟩ := disk_each h
  exact disk_of (Nat.le_trans (List.length_filter_le _ _) h1) (fun y hy => h2 y (List.mem_filter.1 hy).1) ((srt_pw.1 (disk_srt h)).filter _)
theorem remove_fil {l : List S74} (a : ByteArray) (h : diskM l = true) : (removeM l a).1 = l.filter (notN a) := by
  unfold removeM
  rw [if_pos h]
  rcases idxF_at (isN a) l 0 with ⟨e, hn⟩ | ⟨m, x, e, hx, hp, _⟩
  · rw [if_pos (by omega)]
    exact (filter_all (fun y hy => by unfold notN; rw [hn y hy]; rfl)).symm
  rw [if_neg (by omega), without_at (disk_srt h) a m x hx hp]
  show l.eraseIdx _ = _
  congr 1
  omega
def renM (l : List S74) (a b : ByteArray) : List S74 × Bool := if diskM l = true ∧ ¬ idxF (isN a) l 0 < 0 ∧ nameM b = true then (putM (l.filter (notN a)) ⟨b, (rd_T74 l (idxF (isN a) l 0)).f1, (rd_T74 l (idxF (isN a) l 0)).f2⟩, true) else (l, false)
theorem ba_ext {a b : ByteArray} (h : a.toList = b.toList) : a = b := by
  rw [ByteArray.toList_eq, ByteArray.toList_eq] at h
  cases a with
  | mk x => cases b with
    | mk y => simpa using h
theorem spec_ren (l : List S74) (a b : ByteArray) (hl : l.length ≤ 1048576) (hw : wfD l) (hb : b.size ≤ 9223372036854775807) : Ev (fun k => spec_RenameFile.f k l a b) (renM l a b) := by
  have hc := copyS l (by omega) (wfD_le hw)
  have bad : ∀ i : Int, ¬ (diskM l = true ∧ ¬ idxF (isN a) l 0 < 0 ∧ nameM b = true) → Ev (fun k => spec_RenameFile.j0 k a b i true l) (renM l a b) := fun i h => EvS (by
    unfold renM
    rw [if_neg h]
    simp only [spec_RenameFile.j0, if_true]
    exact (EvB hc).2 EvN)
  unfold spec_RenameFile.f
  refine (EvB (find_ev l a hl)).2 ?_
  refine (EvB (spec_disk l hl hw)).2 ?_
  by_cases h : diskM l = true
  · by_cases h2 : idxF (isN a) l 0 < 0
    · simp only [if_pos h, if_pos h2]
      exact bad _ (fun q => q.2.1 h2)
    simp only [if_pos h, if_neg h2]
    refine (EvB (spec_name b hb)).2 ?_
    by_cases h3 : nameM b = true
    · obtain ⟨m, x, e, hx, hn, hm⟩ := idx_at l a h2
      rw [h3]
      refine EvS ?_
      have hr := hw _ (List.getElem_mem hm)
      have hW := withoutS l a (by omega) (wfD_le hw)
      have hl1 : (l.filter (notN a)).length ≤ l.length := List.length_filter_le _ _
      have hP := putS (l.filter (notN a)) (⟨b, (rd_T74 l (idxF (isN a) l 0)).f1, (rd_T74 l (idxF (isN a) l 0)).f2⟩ : S74) (by omega) (fun y hy => wfD_le hw y (List.mem_filter.1 hy).1) (by
        show (rd_T74 l (idxF (isN a) l 0)).f1.length ≤ 100000000 ∧ (rd_T74 l (idxF (isN a) l 0)).f2.length ≤ 100000000
        rw [e, rd74 l m hm]
        omega)
      unfold renM
      simp only [spec_RenameFile.j0, Bool.not_true, Bool.false_eq_true, if_false, if_pos (show 0 ≤ idxF (isN a) l 0 by omega), if_pos (show idxF (isN a) l 0 < (l.length : Int) by omega), if_pos (show diskM l = true ∧ ¬ idxF (isN a) l 0 < 0 ∧ nameM b = true from ⟨h, h2, h3⟩)]
      refine (EvB hW).2 ?_
      exact (EvB hP).2 EvN
    rw [Bool.eq_false_iff.2 h3]
    exact bad _ (fun q => h3 q.2.2)
  simp only [if_neg h]
  exact bad _ (fun q => h q.1)
theorem impl_ren (l : List S74) (a b : ByteArray) (hl : l.length ≤ 1048576) (hw : wfD l) (hb : b.size ≤ 9223372036854775807) : Ev (fun k => impl_renameFile.f k l a b) (renM l a b) := by
  have hc := copyI l (by omega) (wfD_le hw)
  have hf : impl_fileOf.f l a = some (idxF (isN a) l 0) := by unfold impl_fileOf.f; rw [if_pos (by omega)]; rfl
  unfold impl_renameFile.f renM
  simp only [hf, Option.bind_some, EvB (impl_disk l hl hw)]
  by_cases h : diskM l = true
  · by_cases h2 : idxF (isN a) l 0 < 0
    · simp only [if_pos h, if_pos h2, if_neg (show ¬ (diskM l = true ∧ ¬ idxF (isN a) l 0 < 0 ∧ nameM b = true) from fun q => q.2.1 h2)]
      exact (EvB hc).2 EvN
    simp only [if_pos h, if_neg h2, impl_name b hb, Option.bind_some]
    by_cases h3 : nameM b = true
    · obtain ⟨m, x, e, hx, hn, hm⟩ := idx_at l a h2
      have hpw := srt_pw.1 (disk_srt h)
      simp only [if_pos h3, if_pos (show diskM l = true ∧ ¬ idxF (isN a) l 0 < 0 ∧ nameM b = true from ⟨h, h2, h3⟩)]
      by_cases h4 : a.toList = b.toList
      · have hab := ba_ext h4
        subst hab
        simp only [if_true]
        have hp := put_fil hpw (⟨a, (rd_T74 l (idxF (isN a) l 0)).f1, (rd_T74 l (idxF (isN a) l 0)).f2⟩ : S74)
        rw [put_at (disk_srt h) _ m x hx hn] at hp
        have hxm : l[m] = x := by rw [List.getElem?_eq_getElem hm] at hx; exact Option.some.inj hx
        have hf : (⟨a, (rd_T74 l (idxF (isN a) l 0)).f1, (rd_T74 l (idxF (isN a) l 0)).f2⟩ : S74) = x := by
          rw [e, rd74 l m hm, hxm]
          have : x.f0 = a := ba_ext hn
          cases x
          simp only at this ⊢
          rw [this]
        rw [hf] at hp
        have hxa : x.f0 = a := ba_ext hn
        rw [hxa] at hp
        rw [hf, hp, show l.set m x = l by rw [← hxm]; exact List.set_getElem_self hm]
        exact (EvB hc).2 EvN
      simp only [if_neg h4]
      have hd1 := disk_fil (notN a) h
      have hl1 : (l.filter (notN a)).length ≤ l.length := List.length_filter_le _ _
      have hw1 : wfD (l.filter (notN a)) := fun y hy => hw y (List.mem_filter.1 hy).1
      have hl2 : ((l.filter (notN a)).filter (notN b)).length ≤ (l.filter (notN a)).length := List.length_filter_le _ _
      refine (EvB (impl_remove l a hl hw)).2 ?_
      rw [remove_fil a h]
      refine (EvB (impl_remove (l.filter (notN a)) b (by omega) hw1)).2 ?_
      rw [remove_fil b hd1]
      refine (EvB hc).2 ?_
      simp only [if_pos (show idxF (isN a) l 0 < (l.length : Int) by omega), if_pos (show (((l.filter (notN a)).filter (notN b)).length + 1) * 64 ≤ 140737488355328 by omega)]
      rw [ins_put (srt_pw.1 (disk_srt hd1)) (⟨b, (rd_T74 l (idxF (isN a) l 0)).f1, (rd_T74 l (idxF (isN a) l 0)).f2⟩ : S74)]
      exact EvN
    simp only [if_neg h3, if_neg (show ¬ (diskM l = true ∧ ¬ idxF (isN a) l 0 < 0 ∧ nameM b = true) from fun q => h3 q.2.2)]
    exact (EvB hc).2 EvN
  simp only [if_neg h, if_neg (show ¬ (diskM l = true ∧ ¬ idxF (isN a) l 0 < 0 ∧ nameM b = true) from fun q => h q.1)]
  exact (EvB hc).2 EvN
def appF (l : List S74) (a : ByteArray) (d f1 f2 : List Int) : List S74 × Bool := if d.length + f1.length + f2.length ≤ 20000 then (putM l ⟨a, f1, f2 ++ d⟩, true) else (l, false)
def appM (l : List S74) (a : ByteArray) (d : List Int) : List S74 × Bool :=
  if diskM l = true ∧ nameM a = true then (if idxF (isN a) l 0 < 0 then (if l.length = 8 then (l, false) else appF l a d [] []) else appF l a d (rd_T74 l (idxF (isN a) l 0)).f1 (rd_T74 l (idxF (isN a) l 0)).f2) else (l, false)
theorem spec_fin (l : List S74) (a : ByteArray) (d f1 f2 : List Int) (hl : l.length ≤ 1048576) (hw : wfD l) (hd : d.length ≤ 1048576) (h1 : f1.length ≤ 1048576) (h2 : f2.length ≤ 1048576) : Ev (fun k => spec_AppendFile.fin k l a d f1 f2) (appF l a d f1 f2) := by
  have hc := copyS l (by omega) (wfD_le hw)
  have e : wrap64 (wrap64 (20000 - (f1.length : Int)) - (f2.length : Int)) = 20000 - (f1.length : Int) - (f2.length : Int) := by
    rw [w64 (x := 20000 - (f1.length : Int)) (by omega) (by omega), w64 (by omega) (by omega)]
  unfold spec_AppendFile.fin appF
  rw [e]
  by_cases h : d.length + f1.length + f2.length ≤ 20000
  · have hP := putS l (⟨a, f1, f2 ++ d⟩ : S74) (by omega) (wfD_le hw) ⟨by show f1.length ≤ _; omega, by show (f2 ++ d).length ≤ _; rw [List.length_append]; omega⟩
    simp only [if_pos h, if_neg (show ¬ (d.length : Int) > 20000 - (f1.length : Int) - (f2.length : Int) by omega)]
    refine (EvB (joinS f2 d (by omega) (by omega))).2 ?_
    exact (EvB hP).2 EvN
  simp only [if_neg h, if_pos (show (d.length : Int) > 20000 - (f1.length : Int) - (f2.length : Int) by omega)]
  exact (EvB hc).2 EvN
theorem spec_app (l : List S74) (a : ByteArray) (d : List Int) (hl : l.length ≤ 1048576) (hw : wfD l) (ha : a.size ≤ 9223372036854775807) (hd : d.length ≤ 1048576) : Ev (fun k => spec_AppendFile.f k l a d) (appM l a d) := by
  have hc := copyS l (by omega) (wfD_le hw)
  unfold spec_AppendFile.f appM
  refine (EvB (find_ev l a hl)).2 ?_
  refine (EvB (spec_disk l hl hw)).2 ?_
  by_cases h : diskM l = true
  · simp only [if_pos h]
    refine (EvB (spec_name a ha)).2 ?_
    by_cases h3 : nameM a = true
    · simp only [if_pos h3, if_pos (show diskM l = true ∧ nameM a = true from ⟨h, h3⟩)]
      by_cases h2 : idxF (isN a) l 0 < 0
      · simp only [if_neg (show ¬ 0 ≤ idxF (isN a) l 0 by omega), if_pos h2]
        by_cases h8 : l.length = 8
        · simp only [if_pos h8, if_pos (show (l.length : Int) = 8 by omega)]
          exact (EvB hc).2 EvN
        simp only [if_neg h8, if_neg (show ¬ (l.length : Int) = 8 by omega)]
        exact spec_fin l a d [] [] hl hw hd (by simp) (by simp)
      obtain ⟨m, x, e, hx, hn, hm⟩ := idx_at l a h2
      have hr := hw _ (List.getElem_mem hm)
      have hxm : l[m] = x := by rw [List.getElem?_eq_getElem hm] at hx; exact Option.some.inj hx
      have hna : (rd_T74 l (idxF (isN a) l 0)).f0 = a := by rw [e, rd74 l m hm, hxm]; exact ba_ext hn
      simp only [if_pos (show 0 ≤ idxF (isN a) l 0 by omega), if_pos (show idxF (isN a) l 0 < (l.length : Int) by omega), if_neg h2]
      rw [hna]
      exact spec_fin l a d _ _ hl hw hd (by rw [e, rd74 l m hm]; exact hr.2.1) (by rw [e, rd74 l m hm]; exact hr.2.2)
    simp only [if_neg h3, if_neg (show ¬ (diskM l = true ∧ nameM a = true) from fun q => h3 q.2)]
    exact (EvB hc).2 EvN
  simp only [if_neg h, if_neg (show ¬ (diskM l = true ∧ nameM a = true) from fun q => h q.1)]
  exact (EvB hc).2 EvN

def wfW (l : List S74) : Prop := ∀ y ∈ l, y.f0.size ≤ 9223372036854775807 ∧ y.f1.length ≤ 4194304 ∧ y.f2.length ≤ 4194304
theorem implGoW (l : List S74) (hl : l.length ≤ 1048576) (hw : wfW l) : ∀ d i : Nat, d + i = l.length → Ev (fun k => impl_isDisk.l0 k l (l.length : Int) i l) (goD l d i && decide (l.length ≤ 8)) := by
  intro d
  induction d with
  | zero =>
    intro i hi
    refine EvS ?_
    simp only [impl_isDisk.l0, if_neg (show ¬ (i : Int) < (l.length : Int) by omega), goD, Bool.true_and]
    rw [show decide ((l.length : Int) ≤ 8) = decide (l.length ≤ 8) from decide_eq_decide.2 (by omega)]
    exact EvN
  | succ d ih =>
    intro i hi
    have hil : i < l.length := by omega
    have hy := hw _ (List.getElem_mem hil)
    refine EvS ?_
    have hn := impl_name l[i].f0 hy.1
    have h := ih (i + 1) (by omega)
    rw [← rd74 l i hil] at hn hy
    unfold goD okAt
    simp only [impl_isDisk.l0, if_pos (show (i : Int) < (l.length : Int) by omega), if_pos (show 0 ≤ (i : Int) by omega), hn, Option.bind_some, nxt i _ hil (by omega)]
    generalize rd_T74 l (i : Int) = y at hy hn ⊢
    by_cases c1 : nameM y.f0 = true
    · have hw1 : wrap64 ((y.f1.length : Int) + (y.f2.length : Int)) = (y.f1.length : Int) + (y.f2.length : Int) := w64 (by omega) (by omega)
      by_cases c3 : (y.f1.length : Int) + (y.f2.length : Int) > 20000
      · simp only [if_pos c1, hw1, if_pos c3, decide_eq_false (show ¬ y.f1.length + y.f2.length ≤ 20000 by omega), Bool.false_and, Bool.and_false]; exact EvN
      simp only [if_pos c1, hw1, if_neg c3, c1, decide_eq_true (show y.f1.length + y.f2.length ≤ 20000 by omega), Bool.true_and]
      by_cases c4 : i = 0
      · simp only [if_neg (show ¬ (i : Int) > 0 by omega), decide_eq_true c4, Bool.true_or, Bool.true_and]; exact h
      have hw2 : wrap64 ((i : Int) - 1) = ((i - 1 : Nat) : Int) := by rw [w64 (by omega) (by omega)]; omega
      simp only [if_pos (show (i : Int) > 0 by omega), hw2, if_pos (show 0 ≤ ((i - 1 : Nat) : Int) by omega), if_pos (show ((i - 1 : Nat) : Int) < (l.length : Int) by omega), decide_eq_false c4, Bool.false_or]
      by_cases c5 : Op.bytesLess (rd_T74 l ((i - 1 : Nat) : Int)).f0.toList y.f0.toList = true
      · simp only [if_pos c5, c5, Bool.true_and]; exact h
      simp only [if_neg c5, Bool.eq_false_iff.2 c5, Bool.false_and]; exact EvN
    simp only [if_neg c1, Bool.eq_false_iff.2 c1, Bool.false_and]; exact EvN
theorem impl_diskW (l : List S74) (hl : l.length ≤ 1048576) (hw : wfW l) : Ev (fun k => impl_isDisk.f k l) (diskM l) := by
  unfold impl_isDisk.f diskM
  rw [Bool.and_comm]
  exact implGoW l hl hw l.length 0 rfl
theorem impl_fin (l p : List S74) (a : ByteArray) (d : List Int) (m : Nat) (hm : m < p.length) (hn : p[m].f0 = a) (hi : idxF (isN a) p 0 = (m : Int)) (hl : l.length ≤ 1048576) (hw : wfD l) (hpl : p.length ≤ 1048576) (hp : wfD p) (hd : d.length ≤ 1048576) :
    Ev (fun k => impl_appendFile.fin k l p a d) (if diskM (p.set m ⟨a, p[m].f1, p[m].f2 ++ d⟩) = true then (p.set m ⟨a, p[m].f1, p[m].f2 ++ d⟩, true) else (l, false)) := by
  have hc := copyI l (by omega) (wfD_le hw)
  have hf : impl_fileOf.f p a = some (idxF (isN a) p 0) := by unfold impl_fileOf.f; rw [if_pos (by omega)]; rfl
  have hr := hp _ (List.getElem_mem hm)
  have hD := impl_diskW (p.set m ⟨a, p[m].f1, p[m].f2 ++ d⟩) (by rw [List.length_set]; exact hpl) (fun y hy => by
    rcases mem_set hy with rfl | hy
    · refine ⟨by rw [← hn]; exact hr.1, ?_, ?_⟩
      · show p[m].f1.length ≤ _; omega
      show (p[m].f2 ++ d).length ≤ _; rw [List.length_append]; omega
    have := hp y hy
    exact ⟨this.1, by omega, by omega⟩)
  unfold impl_appendFile.fin
  simp only [hf, Option.bind_some, hi, rd74 p m hm, hn, Int.toNat_natCast, if_pos (show 0 ≤ (m : Int) by omega), if_pos (show (m : Int) < (p.length : Int) by omega), if_pos (show p[m].f2.length + d.length ≤ 140737488355328 by omega)]
  refine (EvB hD).2 ?_
  by_cases h : diskM (p.set m ⟨a, p[m].f1, p[m].f2 ++ d⟩) = true
  · simp only [if_pos h]; exact EvN
  simp only [if_neg h]; exact (EvB hc).2 EvN
theorem disk_set (l : List S74) (m : Nat) (hm : m < l.length) (h : diskM l = true) (f : S74) (hn : f.f0 = l[m].f0) : diskM (l.set m f) = decide (f.f1.length + f.f2.length ≤ 20000) := by
  obtain ⟨h1, h2⟩ := disk_each h
  by_cases hb : f.f1.length + f.f2.length ≤ 20000
  · rw [decide_eq_true hb]
    refine disk_of (by rw [List.length_set]; exact h1) (fun y hy => ?_) (List.pairwise_iff_getElem.2 fun i j hi hj hij => ?_)
    · rcases mem_set hy with rfl | hy
      · exact ⟨by rw [hn]; exact (h2 _ (List.getElem_mem hm)).1, hb⟩
      exact h2 y hy
    rw [List.length_set] at hi hj
    have hs := List.pairwise_iff_getElem.1 (srt_pw.1 (disk_srt h)) i j hi hj hij
    have e : ∀ q (hq : q < l.length), nm ((l.set m f)[q]'(by rw [List.length_set]; exact hq)) = nm l[q] := fun q hq => by
      rw [List.getElem_set]
      split
      · rename_i e; subst e; unfold nm; rw [hn]
      rfl
    show Op.bytesLess (nm _) (nm _) = true
    rw [e i hi, e j hj]
    exact hs
  rw [decide_eq_false hb]
  cases hd : diskM (l.set m f) with
  | false => rfl
  | true => exact absurd ((disk_each hd).2 f (List.mem_set hm f)).2 hb
theorem fin_there (l : List S74) (a : ByteArray) (d : List Int) (m : Nat) (hm : m < l.length) (hn : l[m].f0 = a) (hi : idxF (isN a) l 0 = (m : Int)) (h : diskM l = true) (hl : l.length ≤ 1048576) (hw : wfD l) (hd : d.length ≤ 1048576) :
    Ev (fun k => impl_appendFile.fin k l l a d) (appF l a d l[m].f1 l[m].f2) := by
  have hF := impl_fin l l a d m hm hn hi hl hw hl hw hd
  have hs := disk_set l m hm h (⟨a, l[m].f1, l[m].f2 ++ d⟩ : S74) hn.symm
  have hp := put_at (disk_srt h) (⟨a, l[m].f1, l[m].f2 ++ d⟩ : S74) m l[m] (List.getElem?_eq_getElem hm) (by unfold nm; rw [hn])
  rw [hs] at hF
  unfold appF
  rw [hp]
  by_cases hb : d.length + l[m].f1.length + l[m].f2.length ≤ 20000
  · rw [if_pos hb]
    rwa [if_pos (decide_eq_true (show l[m].f1.length + (l[m].f2 ++ d).length ≤ 20000 by rw [List.length_append]; omega))] at hF
  rw [if_neg hb]
  rwa [if_neg (by rw [decide_eq_true_iff]; show ¬ l[m].f1.length + (l[m].f2 ++ d).length ≤ 20000; rw [List.length_append]; omega)] at hF
theorem put_new {l : List S74} (f : S74) (h : ∀ x ∈ l, isN f.f0 x.f0 = false) : putM l f = l.takeWhile (lessN f.f0) ++ f :: l.dropWhile (lessN f.f0) := by
  unfold putM
  rw [filter_all (fun y hy => by unfold notN; rw [h y (dw_mem _ _ _ hy)]; rfl)]
theorem disk_new {l : List S74} (f : S74) (h : diskM l = true) (hn : nameM f.f0 = true) (hno : ∀ x ∈ l, isN f.f0 x.f0 = false) : diskM (l.takeWhile (lessN f.f0) ++ f :: l.dropWhile (lessN f.f0)) = decide (l.length < 8 ∧ f.f1.length + f.f2.length ≤ 20000) := by
  obtain ⟨h1, h2⟩ := disk_each h
  have hpw := srt_pw.1 (disk_srt h)
  have hlen : (l.takeWhile (lessN f.f0) ++ f :: l.dropWhile (lessN f.f0)).length = l.length + 1 := by
    have := congrArg List.length (List.takeWhile_append_dropWhile (p := lessN f.f0) (l := l))
    simp only [List.length_append, List.length_cons] at this ⊢
    omega
  by_cases hb : l.length < 8 ∧ f.f1.length + f.f2.length ≤ 20000
  · rw [decide_eq_true hb]
    refine disk_of (by omega) (fun y hy => ?_) ?_
    · rcases List.mem_append.1 hy with hy | hy
      · exact h2 y ((List.takeWhile_sublist _).subset hy)
      rcases List.mem_cons.1 hy with rfl | hy
      · exact ⟨hn, hb.2⟩
      exact h2 y (dw_mem _ _ _ hy)
    have hs := hpw
    rw [← List.takeWhile_append_dropWhile (p := lessN f.f0) (l := l), List.pairwise_append] at hs
    refine List.pairwise_append.2 ⟨hs.1, List.pairwise_cons.2 ⟨fun y hy => ?_, hs.2.1⟩, fun x hx y hy => ?_⟩
    · have a1 := dw_less hpw y hy
      cases hq : Op.bytesLess (nm f) (nm y) with
      | true => exact hq
      | false =>
        have := lt_total _ _ a1 hq
        have h3 := hno y (dw_mem _ _ _ hy)
        unfold isN at h3
        rw [beq_eq_false_iff_ne] at h3
        exact absurd this h3
    rcases List.mem_cons.1 hy with rfl | hy
    · exact tw_all l x hx
    exact hs.2.2 x hx y hy
  rw [decide_eq_false hb]
  cases hd : diskM (l.takeWhile (lessN f.f0) ++ f :: l.dropWhile (lessN f.f0)) with
  | false => rfl
  | true =>
    have := disk_each hd
    exact absurd ⟨by omega, (this.2 f (by simp)).2⟩ hb
end Go.Proofs.YtmgeffgcihfpcaaDoor.DK

namespace Go.Proofs.YtmgeffgcihfpcaaDoor.GT
set_option linter.unusedVariables false
set_option linter.unusedSimpArgs false
open Go.RowKit Go.Proofs.YtmgeffgcihfpcaaDoor.F Go.Proofs.YtmgeffgcihfpcaaDoor.PK Go.Proofs.YtmgeffgcihfpcaaDoorW.PrintWords Go.Proofs.YtmgeffgcihfpcaaDoorW.PrintLast Go.Proofs.YtmgeffgcihfpcaaDoorW.PrintMore
open Go.Proofs.YtmgeffgcihfpcaaDoor.DK
def getM (l : List S74) (a : ByteArray) : Option S74 := l.find? (fun y => isN a y.f0)
theorem isN_iff (a b : ByteArray) : isN a b = true ↔ b = a := ⟨fun h => ba_ext (by simpa [isN] using h), fun h => by simp [isN, h]⟩
theorem get_none {l : List S74} {a : ByteArray} : getM l a = none ↔ ∀ y ∈ l, y.f0 ≠ a := by
  unfold getM
  rw [List.find?_eq_none]
  exact ⟨fun h y hy e => h y hy ((isN_iff a y.f0).2 e), fun h y hy e => h y hy ((isN_iff _ _).1 e)⟩
theorem get_some {l : List S74} {a : ByteArray} {y : S74} (h : getM l a = some y) : y ∈ l ∧ y.f0 = a := ⟨List.mem_of_find?_eq_some h, (isN_iff _ _).1 (by simpa using List.find?_some h)⟩
theorem get_mem {l : List S74} {y : S74} (h : diskM l = true) (hy : y ∈ l) : getM l y.f0 = some y := by
  cases e : getM l y.f0 with
  | none => exact absurd rfl (get_none.1 e y hy)
  | some z =>
    obtain ⟨hz, hn⟩ := get_some e
    congr
    obtain ⟨i, hi, rfl⟩ := List.mem_iff_getElem.1 hy
    obtain ⟨j, hj, rfl⟩ := List.mem_iff_getElem.1 hz
    rcases Nat.lt_trichotomy i j with hij | rfl | hij
    · have := disk_srt h i j hij _ _ (List.getElem?_eq_getElem hi) (List.getElem?_eq_getElem hj)
      unfold nm at this; rw [hn, lt_irr] at this; cases this
    · rfl
    have := disk_srt h j i hij _ _ (List.getElem?_eq_getElem hj) (List.getElem?_eq_getElem hi)
    unfold nm at this; rw [hn, lt_irr] at this; cases this
theorem get_in {l : List S74} {y : S74} {a : ByteArray} (h : diskM l = true) (hy : y ∈ l) (e : y.f0 = a) : getM l a = some y := e ▸ get_mem h hy
theorem mem_put {l : List S74} (f x : S74) : x ∈ putM l f ↔ x = f ∨ (x ∈ l ∧ x.f0 ≠ f.f0) := by
  have e : l.takeWhile (lessN f.f0) ++ l.dropWhile (lessN f.f0) = l := List.takeWhile_append_dropWhile
  have hl : x ∈ l ↔ x ∈ l.takeWhile (lessN f.f0) ∨ x ∈ l.dropWhile (lessN f.f0) := by rw [← List.mem_append, e]
  have ht : ∀ x ∈ l.takeWhile (lessN f.f0), x.f0 ≠ f.f0 := fun x hx q => by
    have := tw_all l x hx
    unfold lessN nm at this; rw [q, lt_irr] at this; cases this
  unfold putM
  rw [List.mem_append, List.mem_cons, List.mem_filter, hl]
  constructor
  · rintro (q | q | ⟨q, q2⟩)
    · exact .inr ⟨.inl q, ht x q⟩
    · exact .inl q
    exact .inr ⟨.inr q, fun e => by unfold notN at q2; rw [(isN_iff _ _).2 e] at q2; cases q2⟩
  rintro (q | ⟨q | q, q2⟩)
  · exact .inr (.inl q)
  · exact .inl q
  refine .inr (.inr ⟨q, ?_⟩)
  unfold notN
  cases h : isN f.f0 x.f0 with
  | true => exact absurd ((isN_iff _ _).1 h) q2
  | false => rfl
theorem mem_fil {l : List S74} (a : ByteArray) (x : S74) : x ∈ l.filter (notN a) ↔ x ∈ l ∧ x.f0 ≠ a := by
  rw [List.mem_filter]
  unfold notN
  constructor
  · rintro ⟨q, q2⟩
    exact ⟨q, fun e => by rw [(isN_iff _ _).2 e] at q2; cases q2⟩
  rintro ⟨q, q2⟩
  refine ⟨q, ?_⟩
  cases h : isN a x.f0 with
  | true => exact absurd ((isN_iff _ _).1 h) q2
  | false => rfl
theorem get_ext {l m : List S74} {b : ByteArray} (hm : diskM m = true) (e : ∀ y : S74, y.f0 = b → (y ∈ l ↔ y ∈ m)) : getM l b = getM m b := by
  cases q : getM l b with
  | none => symm; rw [get_none] at q ⊢; exact fun y hy hb => q y ((e y hb).2 hy) hb
  | some y =>
    obtain ⟨h1, h2⟩ := get_some q
    exact (get_in hm ((e y h2).1 h1) h2).symm
theorem put_self {l : List S74} {f : S74} (h : diskM (putM l f) = true) : getM (putM l f) f.f0 = some f := get_in h ((mem_put f f).2 (.inl rfl)) rfl
theorem put_other {l : List S74} {f : S74} {b : ByteArray} (h : diskM l = true) (hb : b ≠ f.f0) : getM (putM l f) b = getM l b :=
  get_ext h fun y hy => by
    rw [mem_put]
    exact ⟨fun q => q.elim (fun q => absurd (by rw [← hy, q]) hb) (fun q => q.1), fun q => .inr ⟨q, by rw [hy]; exact hb⟩⟩
theorem fil_self {l : List S74} {a : ByteArray} : getM (l.filter (notN a)) a = none := get_none.2 fun y hy => ((mem_fil a y).1 hy).2
theorem idx_none {l : List S74} {a : ByteArray} : idxF (isN a) l 0 < 0 ↔ getM l a = none := by
  rw [get_none]
  rcases idxF_at (isN a) l 0 with ⟨e, q⟩ | ⟨m, x, e, hx, hp, _⟩
  · rw [e]
    exact ⟨fun _ y hy he => (by have := q y hy; rw [(isN_iff _ _).2 he] at this; cases this), fun _ => by decide⟩
  rw [e]
  exact ⟨fun h => by omega, fun h => absurd ((isN_iff _ _).1 hp) (h x (List.mem_of_getElem? hx))⟩
theorem idx_some {l : List S74} {a : ByteArray} {y : S74} (h : diskM l = true) (e : getM l a = some y) : ∃ (m : Nat) (hm : m < l.length), idxF (isN a) l 0 = m ∧ l[m] = y ∧ rd_T74 l (idxF (isN a) l 0) = y ∧ nm y = a.toList := by
  have hi : ¬ idxF (isN a) l 0 < 0 := fun q => by rw [idx_none.1 q] at e; cases e
  obtain ⟨m, x, e2, hx, hn, hm⟩ := idx_at l a hi
  have hxm : l[m] = x := by rw [List.getElem?_eq_getElem hm] at hx; exact Option.some.inj hx
  have h1 : getM l a = some x := get_in h (by rw [← hxm]; exact List.getElem_mem hm) (ba_ext hn)
  rw [h1] at e
  have hxy := Option.some.inj e
  subst hxy
  exact ⟨m, hm, e2, hxm, by rw [e2, rd74 l m hm, hxm], hn⟩
theorem content_of {l : List S74} {a : ByteArray} {y : S74} (h : diskM l = true) (e : getM l a = some y) : contentM l a = (y.f1 ++ y.f2, true) := by
  obtain ⟨m, hm, e1, _, e2, _⟩ := idx_some h e
  unfold contentM
  rw [if_pos h, if_neg (by omega), e2]
theorem content_not {l : List S74} {a : ByteArray} (e : getM l a = none) : contentM l a = ([], false) := by
  unfold contentM
  rw [if_pos (idx_none.2 e), ite_self]
theorem content_eq {l m : List S74} {a b : ByteArray} (h : diskM l = true) (hm : diskM m = true) (e : getM l a = getM m b) : contentM l a = contentM m b := by
  cases q : getM m b with
  | none => rw [content_not q, content_not (e.trans q)]
  | some y => rw [content_of hm q, content_of h (e.trans q)]
theorem bd_of {l : List S74} {a : ByteArray} {y : S74} (h : diskM l = true) (e : getM l a = some y) : y.f1.length + y.f2.length ≤ 20000 ∧ nameM a = true ∧ y.f0 = a := by
  obtain ⟨h1, h2⟩ := get_some e
  have := (disk_each h).2 y h1
  exact ⟨this.2, by rw [← h2]; exact this.1, h2⟩
theorem put_disk' {l : List S74} (f : S74) (h : diskM l = true) (hn : nameM f.f0 = true) (hb : f.f1.length + f.f2.length ≤ 20000) (hl : getM l f.f0 = none → l.length < 8) : diskM (putM l f) = true := by
  cases e : getM l f.f0 with
  | none =>
    have hq : ∀ x ∈ l, isN f.f0 x.f0 = false := fun x hx => by
      cases q : isN f.f0 x.f0 with
      | true => exact absurd ((isN_iff _ _).1 q) (get_none.1 e x hx)
      | false => rfl
    rw [put_new f hq, disk_new f h hn hq, decide_eq_true_iff]
    exact ⟨hl e, hb⟩
  | some y =>
    obtain ⟨m, hm, e1, e2, _, e3⟩ := idx_some h e
    rw [put_at (disk_srt h) f m y (by rw [List.getElem?_eq_getElem hm, e2]) e3, disk_set l m hm h f (by rw [e2]; exact (get_some e).2.symm), decide_eq_true_iff]
    exact hb
theorem put_len {l : List S74} {f : S74} : (putM l f).length ≤ l.length + 1 := by
  unfold putM
  have h1 := List.length_filter_le (notN f.f0) (l.dropWhile (lessN f.f0))
  have h2 : (l.takeWhile (lessN f.f0)).length + (l.dropWhile (lessN f.f0)).length = l.length := by rw [← List.length_append, List.takeWhile_append_dropWhile]
  rw [List.length_append, List.length_cons]
  omega
theorem app_some {l : List S74} {a : ByteArray} {y : S74} {d : List Int} (h : diskM l = true) (e : getM l a = some y) (hb : d.length + y.f1.length + y.f2.length ≤ 20000) : appM l a d = (putM l ⟨a, y.f1, y.f2 ++ d⟩, true) ∧ diskM (putM l ⟨a, y.f1, y.f2 ++ d⟩) = true := by
  obtain ⟨m, hm, e1, _, e2, _⟩ := idx_some h e
  have hn := (bd_of h e).2.1
  refine ⟨?_, put_disk' (⟨a, y.f1, y.f2 ++ d⟩ : S74) h hn (by simp only [List.length_append]; omega) (fun q => by rw [show getM l a = none from q] at e; cases e)⟩
  unfold appM
  rw [if_pos ⟨h, hn⟩, if_neg (by omega), e2]
  unfold appF
  rw [if_pos hb]
theorem app_none {l : List S74} {a : ByteArray} {d : List Int} (h : diskM l = true) (e : getM l a = none) (hn : nameM a = true) (hl : l.length < 8) (hb : d.length ≤ 20000) : appM l a d = (putM l ⟨a, [], d⟩, true) ∧ diskM (putM l ⟨a, [], d⟩) = true := by
  refine ⟨?_, put_disk' (⟨a, [], d⟩ : S74) h hn (by simp only [List.length_nil]; omega) (fun _ => hl)⟩
  unfold appM
  rw [if_pos ⟨h, hn⟩, if_pos (idx_none.2 e), if_neg (by omega)]
  unfold appF
  rw [if_pos (by simp only [List.length_nil]; omega), List.nil_append]
theorem cut_some {l : List S74} {a : ByteArray} {y : S74} {n : Int} (h : diskM l = true) (e : getM l a = some y) (h0 : 0 ≤ n) (h1 : n ≤ ((y.f1 ++ y.f2).length : Int)) : cutM l a n = (putM l ⟨a, (y.f1 ++ y.f2).take n.toNat, []⟩, true) ∧ diskM (putM l ⟨a, (y.f1 ++ y.f2).take n.toNat, []⟩) = true := by
  obtain ⟨m, hm, e1, e2, _, e3⟩ := idx_some h e
  have hb := bd_of h e
  refine ⟨?_, put_disk' (⟨a, (y.f1 ++ y.f2).take n.toNat, []⟩ : S74) h hb.2.1 (by simp only [List.length_take, List.length_append, List.length_nil]; omega) (fun q => by rw [show getM l a = none from q] at e; cases e)⟩
  unfold cutM
  rw [content_of h e, if_pos rfl, if_pos ⟨h0, h1⟩, e1, Int.toNat_natCast, put_at (disk_srt h) (⟨a, (y.f1 ++ y.f2).take n.toNat, []⟩ : S74) m y (by rw [List.getElem?_eq_getElem hm, e2]) e3]
theorem ren_some {l : List S74} {a b : ByteArray} {y : S74} (h : diskM l = true) (e : getM l a = some y) (hn : nameM b = true) : renM l a b = (putM (l.filter (notN a)) ⟨b, y.f1, y.f2⟩, true) ∧ diskM (putM (l.filter (notN a)) ⟨b, y.f1, y.f2⟩) = true := by
  obtain ⟨m, hm, e1, e2, e4, e3⟩ := idx_some h e
  have hb := bd_of h e
  constructor
  · unfold renM
    rw [if_pos ⟨h, by omega, hn⟩, e4]
  refine put_disk' (⟨b, y.f1, y.f2⟩ : S74) (disk_fil _ h) hn hb.1 (fun _ => ?_)
  have h8 := (disk_each h).1
  have : (l.filter (notN a)).length < l.length := by
    rw [List.length_filter_lt_length_iff_exists]
    refine ⟨y, (get_some e).1, fun q => ?_⟩
    unfold notN at q
    rw [(isN_iff _ _).2 hb.2.2] at q
    cases q
  omega
theorem remove_some {l : List S74} {a : ByteArray} {y : S74} (h : diskM l = true) (e : getM l a = some y) : (removeM l a) = (l.filter (notN a), true) := by
  have := remove_fil a h
  obtain ⟨m, hm, e1, e2, e4, e3⟩ := idx_some h e
  unfold removeM at this ⊢
  rw [if_pos h, if_neg (by omega)] at this ⊢
  rw [← this]
end Go.Proofs.YtmgeffgcihfpcaaDoor.GT

namespace Go.Proofs.YtmgeffgcihfpcaaDoor.F
open Go.RowKit Go.Proofs.YtmgeffgcihfpcaaDoorW.PrintWords Go.Proofs.YtmgeffgcihfpcaaDoorW.PrintWords.Kd Go.Proofs.YtmgeffgcihfpcaaDoorW.PrintMore.Kd Go.Proofs.YtmgeffgcihfpcaaDoorW.PrintLast Go.Proofs.YtmgeffgcihfpcaaDoorW.PrintMore
attribute [local go_sem] max2_int min2_int max_two min_two max_three min_three max_four min_four   -- for this text's walks alone
set_option linter.unusedVariables false
set_option linter.unusedSimpArgs false
end Go.Proofs.YtmgeffgcihfpcaaDoor.F

namespace Go.Proofs.YtmgeffgcihfpcaaDoor.MT
set_option linter.unusedVariables false
set_option linter.unusedSimpArgs false
open Go.RowKit Go.Proofs.YtmgeffgcihfpcaaDoor.F Go.Proofs.YtmgeffgcihfpcaaDoor.PK Go.Proofs.YtmgeffgcihfpcaaDoorW.PrintWords Go.Proofs.YtmgeffgcihfpcaaDoorW.PrintLast
end Go.Proofs.YtmgeffgcihfpcaaDoor.MT

namespace Go.Proofs.YtmgeffgcihfpcaaDoor.F
open Go.RowKit Go.Proofs.YtmgeffgcihfpcaaDoorW.PrintWords Go.Proofs.YtmgeffgcihfpcaaDoorW.PrintWords.Kd Go.Proofs.YtmgeffgcihfpcaaDoorW.PrintMore.Kd Go.Proofs.YtmgeffgcihfpcaaDoorW.PrintLast Go.Proofs.YtmgeffgcihfpcaaDoorW.PrintMore
attribute [local go_sem] max2_int min2_int max_two min_two max_three min_three max_four min_four   -- for this text's walks alone
set_option linter.unusedVariables false
set_option linter.unusedSimpArgs false
end Go.Proofs.YtmgeffgcihfpcaaDoor.F

namespace Go.Proofs.YtmgeffgcihfpcaaDoor.BY
set_option linter.unusedVariables false
set_option linter.unusedSimpArgs false
open Go.RowKit Go.Proofs.YtmgeffgcihfpcaaDoor.F Go.Proofs.YtmgeffgcihfpcaaDoor.PK Go.Proofs.YtmgeffgcihfpcaaDoorW.PrintWords Go.Proofs.YtmgeffgcihfpcaaDoorW.PrintLast
end Go.Proofs.YtmgeffgcihfpcaaDoor.BY

namespace Go.Proofs.YtmgeffgcihfpcaaDoor.F
open Go.RowKit Go.Proofs.YtmgeffgcihfpcaaDoorW.PrintWords Go.Proofs.YtmgeffgcihfpcaaDoorW.PrintLast Go.Proofs.YtmgeffgcihfpcaaDoorW.PrintMore
set_option linter.unusedVariables false
set_option linter.unusedSimpArgs false
end Go.Proofs.YtmgeffgcihfpcaaDoor.F

namespace Go.Proofs.YtmgeffgcihfpcaaDoor.F
open Go.RowKit Go.Proofs.YtmgeffgcihfpcaaDoorW.PrintWords Go.Proofs.YtmgeffgcihfpcaaDoorW.PrintLast Go.Proofs.YtmgeffgcihfpcaaDoorW.PrintMore
open Go.Proofs.YtmgeffgcihfpcaaDoor
set_option linter.unusedVariables false
set_option linter.unusedSimpArgs false
section
variable {w0 w : World} {l : List LW.It} {g n c : Nat} {xs : List S71} {F : Nat → Prop}
end
end Go.Proofs.YtmgeffgcihfpcaaDoor.F

namespace Go.Proofs.YtmgeffgcihfpcaaDoor.F
open Go.RowKit Go.Proofs.YtmgeffgcihfpcaaDoorW.PrintWords Go.Proofs.YtmgeffgcihfpcaaDoorW.PrintWords.Kd Go.Proofs.YtmgeffgcihfpcaaDoorW.PrintMore.Kd Go.Proofs.YtmgeffgcihfpcaaDoorW.PrintLast Go.Proofs.YtmgeffgcihfpcaaDoorW.PrintMore
attribute [local go_sem] max2_int min2_int max_two min_two max_three min_three max_four min_four   -- for this text's walks alone
set_option linter.unusedVariables false
set_option linter.unusedSimpArgs false
end Go.Proofs.YtmgeffgcihfpcaaDoor.F

namespace Go.Proofs.YtmgeffgcihfpcaaDoor.F
open Go.Proofs.YtmgeffgcihfpcaaDoor
open Go.RowKit Go.Proofs.YtmgeffgcihfpcaaDoorW.PrintWords Go.Proofs.YtmgeffgcihfpcaaDoorW.PrintWords.Kd Go.Proofs.YtmgeffgcihfpcaaDoorW.PrintMore.Kd Go.Proofs.YtmgeffgcihfpcaaDoorW.PrintLast Go.Proofs.YtmgeffgcihfpcaaDoorW.PrintMore
attribute [local go_sem] max2_int min2_int max_two min_two max_three min_three max_four min_four   -- for this text's walks alone
set_option linter.unusedVariables false
set_option linter.unusedSimpArgs false
end Go.Proofs.YtmgeffgcihfpcaaDoor.F

namespace Go.Proofs.YtmgeffgcihfpcaaDoor.F
open Go.RowKit Go.Proofs.YtmgeffgcihfpcaaDoorW.PrintWords Go.Proofs.YtmgeffgcihfpcaaDoorW.PrintWords.Kd Go.Proofs.YtmgeffgcihfpcaaDoorW.PrintMore.Kd Go.Proofs.YtmgeffgcihfpcaaDoorW.PrintLast Go.Proofs.YtmgeffgcihfpcaaDoorW.PrintMore
attribute [local go_sem] max2_int min2_int max_two min_two max_three min_three max_four min_four   -- for this text's walks alone
set_option linter.unusedVariables false
set_option linter.unusedSimpArgs false
end Go.Proofs.YtmgeffgcihfpcaaDoor.F

namespace Go.Proofs.YtmgeffgcihfpcaaDoor.DK
set_option linter.unusedVariables false
set_option linter.unusedSimpArgs false
open Go.RowKit Go.Proofs.YtmgeffgcihfpcaaDoor.F Go.Proofs.YtmgeffgcihfpcaaDoor.PK Go.Proofs.YtmgeffgcihfpcaaDoorW.PrintWords Go.Proofs.YtmgeffgcihfpcaaDoorW.PrintLast Go.Proofs.YtmgeffgcihfpcaaDoorW.PrintMore


theorem rd71 (l : List S71) (i : Nat) (h : i < l.length) : rd_T71 l (i : Int) = l[i] := getD_nat l _ i h
theorem fin_new (l : List S74) (a : ByteArray) (d : List Int) (h : diskM l = true) (hn : nameM a = true) (hno : ∀ x ∈ l, isN a x.f0 = false) (hl : l.length ≤ 1048576) (hw : wfD l) (ha : a.size ≤ 9223372036854775807) (hd : d.length ≤ 1048576) :
    Ev (fun k => impl_appendFile.fin k l (insM l ⟨a, [], []⟩) a d) (if l.length = 8 then (l, false) else appF l a d [] []) := by
  have h8 := (disk_each h).1
  obtain ⟨T, hT⟩ : ∃ T, T = l.takeWhile (lessN a) := ⟨_, rfl⟩
  obtain ⟨D, hD⟩ : ∃ D, D = l.dropWhile (lessN a) := ⟨_, rfl⟩
  have hTD : T ++ D = l := by rw [hT, hD]; exact List.takeWhile_append_dropWhile
  have hlen : T.length + D.length = l.length := by rw [← hTD, List.length_append]
  have hins : insM l ⟨a, [], []⟩ = T ++ (⟨a, [], []⟩ : S74) :: D := by rw [ins_eq, hT, hD]
  have hdk := disk_new (⟨a, [], d⟩ : S74) h hn hno
  have hput := put_new (l := l) (⟨a, [], d⟩ : S74) hno
  simp only [← hT, ← hD] at hdk hput
  have hpl : (T ++ (⟨a, [], []⟩ : S74) :: D).length = l.length + 1 := by simp only [List.length_append, List.length_cons]; omega
  have hm : T.length < (T ++ (⟨a, [], []⟩ : S74) :: D).length := by omega
  have hget : (T ++ (⟨a, [], []⟩ : S74) :: D)[T.length] = ⟨a, [], []⟩ := by simp
  have hidx : idxF (isN a) (T ++ (⟨a, [], []⟩ : S74) :: D) 0 = (T.length : Int) := by
    rcases idxF_at (isN a) (T ++ (⟨a, [], []⟩ : S74) :: D) 0 with ⟨_, q⟩ | ⟨m, x, e, hx, hp, q⟩
    · have := q ⟨a, [], []⟩ (by simp)
      simp [isN] at this
    have hle : ¬ m < T.length := fun hlt => by
      rw [List.getElem?_append_left hlt] at hx
      have := hno x (by rw [← hTD]; exact List.mem_append_left _ (List.mem_of_getElem? hx))
      rw [this] at hp
      cases hp
    have hge : ¬ T.length < m := fun hlt => by
      have := q T.length ⟨a, [], []⟩ hlt (by rw [List.getElem?_eq_getElem hm, hget])
      simp [isN] at this
    omega
  have hF := impl_fin l (T ++ (⟨a, [], []⟩ : S74) :: D) a d T.length hm (by rw [hget]) hidx hl hw (by omega) (fun y hy => by
    rcases List.mem_append.1 hy with hy | hy
    · exact hw y (by rw [← hTD]; exact List.mem_append_left _ hy)
    rcases List.mem_cons.1 hy with rfl | hy
    · exact ⟨ha, by simp, by simp⟩
    exact hw y (by rw [← hTD]; exact List.mem_append_right _ hy)) hd
  rw [hget] at hF
  simp only [List.nil_append] at hF
  rw [show (T ++ (⟨a, [], []⟩ : S74) :: D).set T.length ⟨a, [], d⟩ = T ++ (⟨a, [], d⟩ : S74) :: D by simp, hdk] at hF
  rw [hins]
  unfold appF
  simp only [List.length_nil, List.nil_append, hput]
  by_cases e8 : l.length = 8
  · rw [if_pos e8]
    rwa [if_neg (by rw [decide_eq_true_iff]; omega)] at hF
  rw [if_neg e8]
  by_cases hb : d.length ≤ 20000
  · rw [if_pos (by omega)]
    rwa [if_pos (by rw [decide_eq_true_iff]; exact ⟨by omega, by simpa using hb⟩)] at hF
  rw [if_neg (by omega)]
  rwa [if_neg (by rw [decide_eq_true_iff]; intro q; exact hb (by simpa using q.2))] at hF
theorem impl_app (l : List S74) (a : ByteArray) (d : List Int) (hl : l.length ≤ 1048576) (hw : wfD l) (ha : a.size ≤ 9223372036854775807) (hd : d.length ≤ 1048576) : Ev (fun k => impl_appendFile.f k l a d) (appM l a d) := by
  have hc := copyI l (by omega) (wfD_le hw)
  have hf : impl_fileOf.f l a = some (idxF (isN a) l 0) := by unfold impl_fileOf.f; rw [if_pos (by omega)]; rfl
  unfold impl_appendFile.f appM
  refine (EvB hc).2 ?_
  refine (EvB (impl_disk l hl hw)).2 ?_
  by_cases h : diskM l = true
  · simp only [if_pos h, impl_name a ha, Option.bind_some]
    by_cases h3 : nameM a = true
    · simp only [if_pos h3, if_pos (show diskM l = true ∧ nameM a = true from ⟨h, h3⟩), hf, Option.bind_some]
      by_cases h2 : idxF (isN a) l 0 < 0
      · simp only [if_pos h2, if_pos (show (l.length + 1) * 64 ≤ 140737488355328 by omega)]
        refine fin_new l a d h h3 ?_ hl hw ha hd
        rcases idxF_at (isN a) l 0 with ⟨_, q⟩ | ⟨m, x, e, _, _, _⟩
        · exact q
        omega
      obtain ⟨m, x, e, hx, hn, hm⟩ := idx_at l a h2
      have hxm : l[m] = x := by rw [List.getElem?_eq_getElem hm] at hx; exact Option.some.inj hx
      simp only [if_neg h2]
      rw [e, rd74 l m hm]
      exact fin_there l a d m hm (by rw [hxm]; exact ba_ext hn) e h hl hw hd
    simp only [if_neg h3, if_neg (show ¬ (diskM l = true ∧ nameM a = true) from fun q => h3 q.2)]
    exact EvN
  simp only [if_neg h, if_neg (show ¬ (diskM l = true ∧ nameM a = true) from fun q => h q.1)]
  exact EvN
end Go.Proofs.YtmgeffgcihfpcaaDoor.DK

namespace Go.Proofs.YtmgeffgcihfpcaaDoor.F
open Go.RowKit Go.Proofs.YtmgeffgcihfpcaaDoorW.PrintWords Go.Proofs.YtmgeffgcihfpcaaDoorW.PrintLast Go.Proofs.YtmgeffgcihfpcaaDoorW.PrintMore
open Go.Proofs.YtmgeffgcihfpcaaDoor
set_option linter.unusedVariables false
set_option linter.unusedSimpArgs false
end Go.Proofs.YtmgeffgcihfpcaaDoor.F

namespace Go.Proofs.YtmgeffgcihfpcaaDoor.DK
set_option linter.unusedVariables false
set_option linter.unusedSimpArgs false
open Go.RowKit Go.Proofs.YtmgeffgcihfpcaaDoor.F Go.Proofs.YtmgeffgcihfpcaaDoor.PK Go.Proofs.YtmgeffgcihfpcaaDoorW.PrintWords Go.Proofs.YtmgeffgcihfpcaaDoorW.PrintLast Go.Proofs.YtmgeffgcihfpcaaDoorW.PrintMore
theorem disk_wf {l : List S74} (h : diskM l = true) : wfD l := fun y hy => by
  obtain ⟨h1, h2⟩ := (disk_each h).2 y hy
  unfold nameM at h1
  rw [Bool.and_eq_true, decide_eq_true_iff] at h1
  omega
theorem idx_no {l : List S74} {a : ByteArray} (h : idxF (isN a) l 0 < 0) : ∀ x ∈ l, isN a x.f0 = false := by
  rcases idxF_at (isN a) l 0 with ⟨_, q⟩ | ⟨m, x, e, _, _, _⟩
  · exact q
  omega
theorem put_disk {l : List S74} (f : S74) (h : diskM l = true) (hn : nameM f.f0 = true) (hb : f.f1.length + f.f2.length ≤ 20000) (hl : idxF (isN f.f0) l 0 < 0 → l.length < 8) : diskM (putM l f) = true := by
  by_cases h2 : idxF (isN f.f0) l 0 < 0
  · rw [put_new f (idx_no h2), disk_new f h hn (idx_no h2), decide_eq_true_iff]
    exact ⟨hl h2, hb⟩
  obtain ⟨m, x, e, hx, hnm, hm⟩ := idx_at l f.f0 h2
  have hxm : l[m] = x := by rw [List.getElem?_eq_getElem hm] at hx; exact Option.some.inj hx
  rw [put_at (disk_srt h) f m x hx hnm, disk_set l m hm h f (by rw [hxm]; exact (ba_ext hnm).symm), decide_eq_true_iff]
  exact hb
theorem app_disk {l : List S74} (a : ByteArray) (d : List Int) (h : diskM l = true) : diskM (appM l a d).1 = true := by
  have h8 := (disk_each h).1
  unfold appM
  by_cases hc : diskM l = true ∧ nameM a = true
  · rw [if_pos hc]
    by_cases h2 : idxF (isN a) l 0 < 0
    · rw [if_pos h2]
      by_cases h3 : l.length = 8
      · rw [if_pos h3]; exact h
      rw [if_neg h3]
      unfold appF
      split
      · rename_i hb
        exact put_disk (⟨a, [], [] ++ d⟩ : S74) h hc.2 (by simp only [List.length_nil, List.nil_append] at hb ⊢; omega) (fun _ => by omega)
      exact h
    rw [if_neg h2]
    unfold appF
    split
    · rename_i hb
      exact put_disk _ h hc.2 (by simp only [List.length_append]; omega) (fun q => absurd q h2)
    exact h
  rw [if_neg hc]; exact h
theorem content_disk {l : List S74} {a : ByteArray} (h : diskM l = true) (hi : ¬ idxF (isN a) l 0 < 0) : ∃ (m : Nat) (hm : m < l.length), idxF (isN a) l 0 = m ∧ l[m].f0 = a ∧ contentM l a = (l[m].f1 ++ l[m].f2, true) ∧ l[m].f1.length + l[m].f2.length ≤ 20000 := by
  obtain ⟨m, x, e, hx, hn, hm⟩ := idx_at l a hi
  have hxm : l[m] = x := by rw [List.getElem?_eq_getElem hm] at hx; exact Option.some.inj hx
  refine ⟨m, hm, e, by rw [hxm]; exact ba_ext hn, ?_, ((disk_each h).2 _ (List.getElem_mem hm)).2⟩
  unfold contentM
  rw [if_pos h, if_neg hi, e, rd74 l m hm]
theorem content_none {l : List S74} {a : ByteArray} (hi : idxF (isN a) l 0 < 0) : (contentM l a).2 = false := by
  unfold contentM
  split
  · rfl
  rfl
theorem sync_disk {l : List S74} (a : ByteArray) (h : diskM l = true) : diskM (syncM l a).1 = true := by
  unfold syncM
  by_cases hi : idxF (isN a) l 0 < 0
  · rw [content_none hi, if_neg (by decide)]; exact h
  obtain ⟨m, hm, e, hn, hc, hb⟩ := content_disk h hi
  rw [hc, if_pos rfl, e, Int.toNat_natCast, disk_set l m hm h _ (by exact hn.symm), decide_eq_true_iff]
  simp only [List.length_append, List.length_nil]
  omega
theorem cut_disk {l : List S74} (a : ByteArray) (n : Int) (h : diskM l = true) : diskM (cutM l a n).1 = true := by
  unfold cutM
  by_cases hi : idxF (isN a) l 0 < 0
  · rw [content_none hi, if_neg (by decide)]; exact h
  obtain ⟨m, hm, e, hn, hc, hb⟩ := content_disk h hi
  rw [hc, if_pos rfl]
  split
  · rw [e, Int.toNat_natCast, disk_set l m hm h _ (by exact hn.symm), decide_eq_true_iff]
    simp only [List.length_take, List.length_append, List.length_nil]
    omega
  exact h
theorem remove_disk {l : List S74} (a : ByteArray) (h : diskM l = true) : diskM (removeM l a).1 = true := by
  rw [remove_fil a h]
  exact disk_fil (notN a) h
theorem fil_lt {l : List S74} {a : ByteArray} (hi : ¬ idxF (isN a) l 0 < 0) : (l.filter (notN a)).length < l.length := by
  obtain ⟨m, x, e, hx, hp, hm⟩ := idx_in l a hi
  have hxm : l[m] = x := by rw [List.getElem?_eq_getElem hm] at hx; exact Option.some.inj hx
  rw [List.length_filter_lt_length_iff_exists]
  exact ⟨x, by rw [← hxm]; exact List.getElem_mem hm, by unfold notN; rw [hp]; decide⟩
theorem ren_disk {l : List S74} (a b : ByteArray) (h : diskM l = true) : diskM (renM l a b).1 = true := by
  unfold renM
  by_cases hc : diskM l = true ∧ ¬ idxF (isN a) l 0 < 0 ∧ nameM b = true
  · rw [if_pos hc]
    obtain ⟨m, hm, e, hn, _, hb⟩ := content_disk h hc.2.1
    have h8 := (disk_each h).1
    have hf := fil_lt hc.2.1
    refine put_disk _ (disk_fil (notN a) h) hc.2.2 ?_ (fun _ => by omega)
    rw [e, rd74 l m hm]
    exact hb
  rw [if_neg hc]; exact h
def stepM (d : List S74) (o : S71) : List S74 × Bool := if o.f0 = 0 then appM d o.f1 o.f3 else if o.f0 = 1 then syncM d o.f1 else if o.f0 = 2 then cutM d o.f1 o.f4 else if o.f0 = 3 then renM d o.f1 o.f2 else if o.f0 = 4 then removeM d o.f1 else (d, false)
def playL : List S71 → List S74 → List Bool → List S74 × List Bool
  | [], d, t => (d, t)
  | o :: r, d, t => playL r (stepM d o).1 (t ++ [(stepM d o).2])
def playM (l : List S74) (x : List S71) : List S74 × List Bool := if diskM l = true then (if (x.length : Int) > 200 then ([], []) else playL x l []) else ([], [])
def wfP (x : List S71) : Prop := ∀ y ∈ x, y.f1.size ≤ 9223372036854775807 ∧ y.f2.size ≤ 9223372036854775807 ∧ y.f3.length ≤ 1048576
theorem step_disk {d : List S74} (o : S71) (h : diskM d = true) : diskM (stepM d o).1 = true := by
  unfold stepM
  split
  · exact app_disk _ _ h
  split
  · exact sync_disk _ h
  split
  · exact cut_disk _ _ h
  split
  · exact ren_disk _ _ h
  split
  · exact remove_disk _ h
  exact h
theorem play_disk : ∀ (x : List S71) (d : List S74) (t : List Bool), diskM d = true → diskM (playL x d t).1 = true ∧ (playL x d t).2.length = t.length + x.length
  | [], d, t, h => ⟨h, by simp [playL]⟩
  | o :: r, d, t, h => by
    obtain ⟨h1, h2⟩ := play_disk r (stepM d o).1 (t ++ [(stepM d o).2]) (step_disk o h)
    refine ⟨h1, ?_⟩
    simp only [playL, List.length_cons]
    rw [h2, List.length_append]
    simp only [List.length_cons, List.length_nil]
    omega
theorem spec_step (d : List S74) (x : List S71) (i : Nat) (hi : i < x.length) (h : diskM d = true) (hx : wfP x) : Ev (fun k => spec_PlayDisk.step k d x i) (stepM d x[i]) := by
  have hw := disk_wf h
  have h8 := (disk_each h).1
  have ho := hx _ (List.getElem_mem hi)
  unfold spec_PlayDisk.step stepM
  simp only [rd71 x i hi]
  by_cases g0 : x[i].f0 = 0
  · simp only [if_pos g0]; exact spec_app d _ _ (by omega) hw ho.1 ho.2.2
  by_cases g1 : x[i].f0 = 1
  · simp only [if_neg g0, if_pos g1]; exact spec_sync d _ (by omega) hw
  by_cases g2 : x[i].f0 = 2
  · simp only [if_neg g0, if_neg g1, if_pos g2]; exact spec_cut d _ _ (by omega) hw
  by_cases g3 : x[i].f0 = 3
  · simp only [if_neg g0, if_neg g1, if_neg g2, if_pos g3]; exact spec_ren d _ _ (by omega) hw ho.2.1
  by_cases g4 : x[i].f0 = 4
  · simp only [if_neg g0, if_neg g1, if_neg g2, if_neg g3, if_pos g4]; exact spec_remove d _ (by omega) hw
  simp only [if_neg g0, if_neg g1, if_neg g2, if_neg g3, if_neg g4]; exact EvN
theorem spec_playL (x : List S71) (hx : wfP x) (hl : x.length ≤ 1000000) (d : List S74) (h : diskM d = true) : Ev (fun k => spec_PlayDisk.l0 k x d [] 0) (playL x d []) := by
  have key := up (P := fun i => ∀ (d : List S74) (t : List Bool), diskM d = true → (t.length : Int) = i → Ev (fun k => spec_PlayDisk.l0 k x d t i) (playL (x.drop i.toNat) d t)) x.length
    (fun d t hd ht => EvS (by simp only [spec_PlayDisk.l0, Int.lt_irrefl, if_false, Int.toNat_natCast, List.drop_length, playL]; exact EvN))
    (fun i hi ih d t hd ht => EvS (by
      have hs := spec_step d x i hi hd hx
      have hS : (t.length < 140737488355328) = True := eq_true (by omega)
      rw [Int.toNat_natCast, drop_at x i hi]
      simp only [spec_PlayDisk.l0, if_pos (show (i : Int) < (x.length : Int) by omega), if_pos (show 0 ≤ (i : Int) by omega), EvB hs, hS, if_true, playL, nxt i _ hi (show x.length ≤ 9223372036854775807 by omega)]
      have := ih (stepM d x[i]).1 (t ++ [(stepM d x[i]).2]) (step_disk _ hd) (by simp only [List.length_append, List.length_cons, List.length_nil]; omega)
      rw [Int.toNat_natCast] at this
      exact this))
  exact key 0 (Nat.zero_le _) d [] h rfl
theorem spec_play (l : List S74) (x : List S71) (hl : l.length ≤ 1048576) (hw : wfD l) (hx : wfP x) : Ev (fun k => spec_PlayDisk.f k l x) (playM l x) := by
  unfold spec_PlayDisk.f playM
  refine (EvB (spec_disk l hl hw)).2 ?_
  by_cases h : diskM l = true
  · simp only [if_pos h]
    by_cases h2 : (x.length : Int) > 200
    · simp only [if_pos h2]; exact EvN
    simp only [if_neg h2]
    refine (EvB (copyS l (by omega) (wfD_le hw))).2 ?_
    exact spec_playL x hx (by omega) l h
  simp only [if_neg h]; exact EvN
end Go.Proofs.YtmgeffgcihfpcaaDoor.DK

namespace Go.Proofs.YtmgeffgcihfpcaaDoor.DR
set_option linter.unusedVariables false
set_option linter.unusedSimpArgs false
open Go.RowKit Go.Proofs.YtmgeffgcihfpcaaDoor.F Go.Proofs.YtmgeffgcihfpcaaDoor.PK Go.Proofs.YtmgeffgcihfpcaaDoorW.PrintWords Go.Proofs.YtmgeffgcihfpcaaDoorW.PrintLast
theorem and255 (x : Int) : 0 ≤ Go.bits .and .i64 x 255 ∧ Go.bits .and .i64 x 255 ≤ 255 := by
  have h : ((BitVec.ofInt IntKind.i64.bits x) &&& (BitVec.ofInt IntKind.i64.bits 255)).toNat ≤ 255 := by
    rw [BitVec.toNat_and]
    exact Nat.le_trans Nat.and_le_right (by decide)
  have e : Go.bits .and .i64 x 255 = (((BitVec.ofInt IntKind.i64.bits x) &&& (BitVec.ofInt IntKind.i64.bits 255)).toNat : Int) := by
    show IntKind.i64.wrap (((BitVec.ofInt IntKind.i64.bits x) &&& (BitVec.ofInt IntKind.i64.bits 255)).toNat : Int) = _
    rw [IntKind.wrap_i64]
    omega
  omega
def At (b : List Int) (i : Int) : Prop := 0 ≤ i ∧ i ≤ (b.length : Int)
theorem dByte (b : List Int) (i h : Int) (hi : At b i) (hb : b.length ≤ 1048576) : ∃ x i' h', spec_l01Byte.f b i h = some (x, i', h') ∧ 0 ≤ x ∧ x ≤ 255 ∧ At b i' := by
  unfold At at *
  unfold spec_l01Byte.f
  by_cases c : i < (b.length : Int)
  · simp only [if_pos c, if_pos hi.1]
    exact ⟨_, _, _, rfl, (and255 _).1, (and255 _).2, by rw [w64 (by omega) (by omega)]; omega⟩
  simp only [if_neg c]
  exact ⟨_, _, _, rfl, (and255 _).1, (and255 _).2, hi⟩
theorem tmod_bd (x n : Int) (hx : 0 ≤ x) (hn : 0 < n) : 0 ≤ Int.tmod x n ∧ Int.tmod x n < n := ⟨Int.tmod_nonneg _ hx, Int.tmod_lt_of_pos _ hn⟩
theorem dBelow (b : List Int) (i h n : Int) (hi : At b i) (hb : b.length ≤ 1048576) : ∃ x i' h', spec_l01Below.f b i h n = some (x, i', h') ∧ 0 ≤ x ∧ (0 < n → x < n) ∧ (n ≤ 0 → x = 0) ∧ At b i' := by
  unfold spec_l01Below.f
  by_cases c : n ≤ 0
  · simp only [if_pos c]
    exact ⟨_, _, _, rfl, by omega, by omega, fun _ => rfl, hi⟩
  simp only [if_neg c]
  by_cases c2 : n ≤ 256
  · obtain ⟨x, i', h', e, h0, h1, h2⟩ := dByte b i h hi hb
    simp only [if_pos c2, e, Option.bind_some, if_neg (show ¬ n = 0 by omega)]
    have := tmod_bd x n h0 (by omega)
    exact ⟨_, _, _, rfl, this.1, fun _ => this.2, by omega, h2⟩
  obtain ⟨x, i1, h1, e1, a0, a1, a2⟩ := dByte b i h hi hb
  obtain ⟨y, i2, h2, e2, b0, b1, b2⟩ := dByte b i1 h1 a2 hb
  obtain ⟨z, i3, h3, e3, c0, c1, c2'⟩ := dByte b i2 h2 b2 hb
  simp only [if_neg c2, e1, e2, e3, Option.bind_some, if_neg (show ¬ n = 0 by omega)]
  have hw : wrap64 (wrap64 (wrap64 (x * 65536) + wrap64 (y * 256)) + z) = x * 65536 + y * 256 + z := by
    rw [w64 (x := x * 65536) (by omega) (by omega), w64 (x := y * 256) (by omega) (by omega), w64 (x := x * 65536 + y * 256) (by omega) (by omega), w64 (by omega) (by omega)]
  rw [hw]
  have := tmod_bd (x * 65536 + y * 256 + z) n (by omega) (by omega)
  exact ⟨_, _, _, rfl, this.1, fun _ => this.2, by omega, c2'⟩
theorem dSize (l : List Int) (m : Int) (hl : l.length ≤ 1048576) (hm : 2 ≤ m) : ∃ t, spec_l01Size.f l m = some t ∧ 2 ≤ t ∧ t ≤ m := by
  unfold spec_l01Size.f
  rw [w64 (x := (l.length : Int) / 16) (by omega) (by omega), w64 (by omega) (by omega)]
  split
  · exact ⟨_, rfl, hm, by omega⟩
  exact ⟨_, rfl, by omega, by omega⟩
theorem dNew (l : List Int) (hl : l.length ≤ 1048576) : ∃ h, Ev (fun k => spec_l01New.f k l) (l, 0, h) := by
  have key := up (P := fun i => ∀ x, ∃ h, Ev (fun k => spec_l01New.l0 k l x i) (l, 0, h)) l.length
    (fun x => ⟨x, EvS (by simp only [spec_l01New.l0, Int.lt_irrefl, if_false]; exact EvN)⟩)
    (fun i hi ih x => by
      by_cases c : (i : Int) < 4000
      · obtain ⟨h, e⟩ := ih (Go.bits .and .i64 (wrap64 ((wrap64 ((wrap64 (x * 149)) + (wrap64 (rd l i)))) + 11)) 1073741823)
        refine ⟨h, EvS ?_⟩
        simp only [spec_l01New.l0, if_pos (show (i : Int) < (l.length : Int) by omega), if_pos c, if_pos (show 0 ≤ (i : Int) by omega), show wrap64 ((i : Int) + 1) = ((i + 1 : Nat) : Int) by rw [w64 (by omega) (by omega)]; omega]
        exact e
      exact ⟨x, EvS (by simp only [spec_l01New.l0, if_pos (show (i : Int) < (l.length : Int) by omega), if_neg c]; exact EvN)⟩)
  unfold spec_l01New.f
  exact key 0 (Nat.zero_le _) _
theorem dPick (b : List Int) (i h : Int) (l : List Int) (hi : At b i) (hb : b.length ≤ 1048576) (hl : 0 < l.length) : ∃ x i' h', spec_l01PickInt.f b i h l = some (x, i', h') ∧ x ∈ l ∧ At b i' := by
  obtain ⟨x, i', h', e, h0, h1, _, h2⟩ := dBelow b i h (l.length : Int) hi hb
  unfold spec_l01PickInt.f
  have hx := h1 (by omega)
  simp only [e, Option.bind_some, if_pos h0, if_pos hx]
  refine ⟨_, _, _, rfl, ?_, h2⟩
  have hn : x.toNat < l.length := by omega
  have : rd l x = l[x.toNat] := by
    have := getD_nat l 0 x.toNat hn
    rw [Int.toNat_of_nonneg h0] at this
    exact this
  rw [this]
  exact List.getElem_mem hn
theorem dBytes (b : List Int) (n : Int) (hb : b.length ≤ 1048576) (hn : n ≤ 1000000) (h0 : 0 ≤ n) : ∀ (i h : Int), At b i → ∃ (x : List Int) (i' h' : Int), Ev (fun k => spec_l01DrawBytes.f k b i h n) (x, i', h') ∧ (x.length : Int) = n ∧ (∀ y ∈ x, 0 ≤ y ∧ y ≤ 255) ∧ At b i' := by
  have key : ∀ (d j : Nat) (x : List Int) (i h : Int), (d : Int) + j = n → (x.length : Int) = j → (∀ y ∈ x, 0 ≤ y ∧ y ≤ 255) → At b i → ∃ (x' : List Int) (i' h' : Int), Ev (fun k => spec_l01DrawBytes.l0 k n x j b i h) (x', i', h') ∧ (x'.length : Int) = n ∧ (∀ y ∈ x', 0 ≤ y ∧ y ≤ 255) ∧ At b i' := by
    intro d
    induction d with
    | zero =>
      intro j x i h hj hx hy hi
      exact ⟨x, i, h, EvS (by simp only [spec_l01DrawBytes.l0, if_neg (show ¬ (j : Int) < n by omega)]; exact EvN), by omega, hy, hi⟩
    | succ d ih =>
      intro j x i h hj hx hy hi
      obtain ⟨a, i1, h1, e1, _, _, _, g1⟩ := dBelow b i h 256 hi hb
      obtain ⟨c, i2, h2, e2, _, _, _, g2⟩ := dBelow b i1 h1 256 g1 hb
      obtain ⟨y, i3, h3, e3, _, g3⟩ := dPick b i2 h2 [0, 1, 255, 128, a, c] g2 hb (by simp)
      have hS : (x.length < 140737488355328) = True := eq_true (by omega)
      obtain ⟨x', i', h', r1, r2, r3, r4⟩ := ih (j + 1) (x ++ [y % 256]) i3 h3 (by omega) (by simp; omega) (fun z hz => by
        rcases List.mem_append.1 hz with hz | hz
        · exact hy z hz
        rw [List.mem_singleton.1 hz]
        omega) g3
      refine ⟨x', i', h', EvS ?_, r2, r3, r4⟩
      simp only [spec_l01DrawBytes.l0, if_pos (show (j : Int) < n by omega), e1, e2, e3, Option.bind_some, hS, if_true, show wrap64 ((j : Int) + 1) = ((j + 1 : Nat) : Int) by rw [w64 (by omega) (by omega)]; omega]
      exact r1
  intro i h hi
  obtain ⟨x', i', h', r1, r2, r3, r4⟩ := key n.toNat 0 [] i h (by omega) rfl (fun y hy => by cases hy) hi
  exact ⟨x', i', h', by unfold spec_l01DrawBytes.f; exact r1, r2, r3, r4⟩
end Go.Proofs.YtmgeffgcihfpcaaDoor.DR

namespace Go.Proofs.YtmgeffgcihfpcaaDoor.OD
set_option linter.unusedVariables false
set_option linter.unusedSimpArgs false
open Go.RowKit Go.Proofs.YtmgeffgcihfpcaaDoor.F Go.Proofs.YtmgeffgcihfpcaaDoor.PK Go.Proofs.YtmgeffgcihfpcaaDoorW.PrintWords Go.Proofs.YtmgeffgcihfpcaaDoorW.PrintLast Go.Proofs.YtmgeffgcihfpcaaDoorW.PrintMore
open Go.Proofs.YtmgeffgcihfpcaaDoor.DK Go.Proofs.YtmgeffgcihfpcaaDoor.DR
theorem dOnce (b : List Int) (i h n : Int) (hi : At b i) (hb : b.length ≤ 1048576) : ∃ x i' h', spec_l01Once.f b i h n = some (x, i', h') ∧ At b i' := by
  obtain ⟨x, i', h', e, _, _, _, g⟩ := dBelow b i h n hi hb
  exact ⟨_, i', h', by unfold spec_l01Once.f; rw [e]; rfl, g⟩
theorem dText (b : List Int) (i h : Int) (l : List ByteArray) (hi : At b i) (hb : b.length ≤ 1048576) (hl : 0 < l.length) : ∃ x i' h', spec_l01PickText.f b i h l = some (x, i', h') ∧ x ∈ l ∧ At b i' := by
  obtain ⟨x, i', h', e, h0, h1, _, h2⟩ := dBelow b i h (l.length : Int) hi hb
  unfold spec_l01PickText.f
  have hx := h1 (by omega)
  simp only [e, Option.bind_some, if_pos h0, if_pos hx]
  refine ⟨_, _, _, rfl, ?_, h2⟩
  have hn : x.toNat < l.length := by omega
  have : rdOf ByteArray.empty l x = l[x.toNat] := by
    have := getD_nat l ByteArray.empty x.toNat hn
    rw [Int.toNat_of_nonneg h0] at this
    exact this
  rw [this]
  exact List.getElem_mem hn
theorem dName (b : List Int) (i h : Int) (hi : At b i) (hb : b.length ≤ 1048576) : ∃ x i' h', spec_l03DrawName.f b i h = some (x, i', h') ∧ x.size ≤ 13 ∧ At b i' := by
  unfold spec_l03DrawName.f
  obtain ⟨o, i1, h1, e1, g1⟩ := dOnce b i h 30 hi hb
  simp only [e1, Option.bind_some]
  cases o with
  | true =>
    simp only [if_true]
    obtain ⟨x, i2, h2, e2, hx, g2⟩ := dText b i1 h1 [(⟨#[]⟩ : ByteArray), (⟨#[65]⟩ : ByteArray), (⟨#[97, 98, 99, 100, 101, 102, 103, 104, 105, 106, 107, 108]⟩ : ByteArray), (⟨#[97, 98, 99, 100, 101, 102, 103, 104, 105, 106, 107, 108, 109]⟩ : ByteArray), (⟨#[97, 32, 98]⟩ : ByteArray)] g1 hb (by decide)
    refine ⟨x, i2, h2, by rw [e2]; rfl, ?_, g2⟩
    simp only [List.mem_cons, List.not_mem_nil, or_false] at hx
    rcases hx with rfl | rfl | rfl | rfl | rfl <;> decide
  | false =>
    simp only [Bool.false_eq_true, if_false]
    obtain ⟨x, i2, h2, e2, hx, g2⟩ := dText b i1 h1 [(⟨#[97]⟩ : ByteArray), (⟨#[98]⟩ : ByteArray), (⟨#[108, 111, 103]⟩ : ByteArray), (⟨#[109, 97, 110]⟩ : ByteArray), (⟨#[122, 57]⟩ : ByteArray)] g1 hb (by decide)
    refine ⟨x, i2, h2, by rw [e2]; rfl, ?_, g2⟩
    simp only [List.mem_cons, List.not_mem_nil, or_false] at hx
    rcases hx with rfl | rfl | rfl | rfl | rfl <;> decide
def okO (o : S71) : Prop := o.f1.size ≤ 13 ∧ o.f2.size ≤ 13 ∧ o.f3.length ≤ 4 ∧ ∀ z ∈ o.f3, 0 ≤ z ∧ z < 256
theorem dOpsL (c : List Int) (hc : c.length ≤ 1048576) : ∀ (n : Nat) (i h : Int) (x : List S71), At c i → (∀ y ∈ x, okO y) → x.length + n ≤ 50 →
    ∃ x' i' h', Ev (fun k => spec_l03DrawOps.l0 k x (n : Int) c i h) (x', i', h') ∧ (∀ y ∈ x', okO y) ∧ x'.length ≤ x.length + n ∧ At c i' := by
  intro n
  induction n with
  | zero =>
    intro i h x hi hx hn
    refine ⟨x, i, h, EvS ?_, hx, by omega, hi⟩
    simp only [spec_l03DrawOps.l0, if_neg (show ¬ ((0 : Nat) : Int) > 0 by omega)]
    exact EvN
  | succ n ih =>
    intro i h x hi hx hn
    obtain ⟨a, i1, h1, e1, _, _, _, g1⟩ := dBelow c i h 7 hi hc
    obtain ⟨b, i2, h2, e2, _, g2⟩ := dPick c i1 h1 [0, 0, 0, 1, 1, 2, 3, 4, wrap64 (a - 1)] g1 hc (by simp)
    obtain ⟨s, i3, h3, e3, s3, g3⟩ := dName c i2 h2 g2 hc
    obtain ⟨t, i4, h4, e4, t4, g4⟩ := dName c i3 h3 g3 hc
    obtain ⟨m, i5, h5, e5, m0, m1, _, g5⟩ := dBelow c i4 h4 5 g4 hc
    have m1 := m1 (by omega)
    obtain ⟨q, i6, h6, e6, q1, q2, g6⟩ := dBytes c m hc (by omega) m0 i5 h5 g5
    obtain ⟨z, i7, h7, e7, _, _, _, g7⟩ := dBelow c i6 h6 8 g6 hc
    have hw : wrap64 (((n + 1 : Nat) : Int) - 1) = (n : Int) := by rw [w64 (by omega) (by omega)]; omega
    obtain ⟨x', i', h', r1, r2, r3, r4⟩ := ih i7 h7 (x ++ [(⟨b, s, t, q, wrap64 (z - 1)⟩ : S71)]) g7 (fun y hy => (List.mem_append.1 hy).elim (hx y) (fun w => by rw [List.mem_singleton.1 w]; exact ⟨s3, t4, by show q.length ≤ 4; omega, fun z hz => by have := q2 z hz; omega⟩)) (by rw [List.length_append, List.length_singleton]; omega)
    rw [List.length_append, List.length_singleton] at r3
    refine ⟨x', i', h', EvS ?_, r2, by omega, r4⟩
    simp only [spec_l03DrawOps.l0, if_pos (show ((n + 1 : Nat) : Int) > 0 by omega), e1, e2, e3, e4, e5, Option.bind_some, EvB e6, e7, eq_true (show x.length < 1954687338268 by omega), if_true, hw]
    exact r1
theorem dOps (c : List Int) (hc : c.length ≤ 1048576) (i h : Int) (hi : At c i) : ∃ x i' h', Ev (fun k => spec_l03DrawOps.f k c i h c) (x, i', h') ∧ (∀ y ∈ x, okO y) ∧ x.length ≤ 15 ∧ At c i' := by
  unfold spec_l03DrawOps.f
  obtain ⟨t, e1, t1, t2⟩ := dSize c 14 hc (by decide)
  have hw : wrap64 (2 + t) = 2 + t := w64 (by omega) (by omega)
  obtain ⟨n, i1, h1, e2, n0, n1, _, g1⟩ := dBelow c i h (2 + t) hi hc
  have n1 := n1 (by omega)
  obtain ⟨m, rfl⟩ := Int.eq_ofNat_of_zero_le n0
  obtain ⟨x, i', h', r1, r2, r3, r4⟩ := dOpsL c hc m i1 h1 [] g1 (fun y hy => by cases hy) (by simp only [List.length_nil]; omega)
  refine ⟨x, i', h', ?_, r2, by simp only [List.length_nil] at r3; omega, r4⟩
  simp only [e1, Option.bind_some, hw, e2]
  exact r1
theorem ok_wf {x : List S71} (h : ∀ y ∈ x, okO y) : wfP x := fun y hy => by
  obtain ⟨a, b, c, _⟩ := h y hy
  exact ⟨by omega, by omega, by omega⟩
theorem dCrashL (c : List Int) (hc : c.length ≤ 1048576) : ∀ (n : Nat) (i h : Int) (x y : List Int), At c i → x.length + n ≤ 50 → y.length + n ≤ 50 →
    ∃ x' y' i' h', Ev (fun k => spec_l03DrawCrash.l0 k x y (n : Int) c i h) (x', y', i', h') := by
  intro n
  induction n with
  | zero =>
    intro i h x y hi hn hm
    refine ⟨x, y, i, h, EvS ?_⟩
    simp only [spec_l03DrawCrash.l0, if_neg (show ¬ ((0 : Nat) : Int) > 0 by omega)]
    exact EvN
  | succ n ih =>
    intro i h x y hi hn hm
    obtain ⟨a, i1, h1, e1, _, _, _, g1⟩ := dBelow c i h 9 hi hc
    obtain ⟨b, i2, h2, e2, _, _, _, g2⟩ := dBelow c i1 h1 7 g1 hc
    have hw : wrap64 (((n + 1 : Nat) : Int) - 1) = (n : Int) := by rw [w64 (by omega) (by omega)]; omega
    obtain ⟨x', y', i', h', r1⟩ := ih i2 h2 (x ++ [wrap64 (a - 1)]) (y ++ [wrap64 (b - 2)]) g2 (by rw [List.length_append, List.length_singleton]; omega) (by rw [List.length_append, List.length_singleton]; omega)
    refine ⟨x', y', i', h', EvS ?_⟩
    simp only [spec_l03DrawCrash.l0, if_pos (show ((n + 1 : Nat) : Int) > 0 by omega), e1, e2, Option.bind_some, eq_true (show x.length < 17592186044416 by omega), eq_true (show y.length < 17592186044416 by omega), if_true, hw]
    exact r1
theorem dDisk (c : List Int) (hc : c.length ≤ 1048576) : ∃ d x kp fl, Ev (fun k => spec_DrawRightDisk.f k c) (d, x, kp, fl) ∧ diskM d = true ∧ (∀ y ∈ x, okO y) ∧ x.length ≤ 15 ∧ ∃ x0, d = (playL x0 [] []).1 ∧ ∀ y ∈ x0, okO y := by
  obtain ⟨h, e0⟩ := dNew c hc
  obtain ⟨x0, i1, h1, e1, a1, a2, g1⟩ := dOps c hc 0 h ⟨by omega, by omega⟩
  obtain ⟨x, i2, h2, e2, b1, b2, g2⟩ := dOps c hc i1 h1 g1
  obtain ⟨n, i3, h3, e3, n0, n1, _, g3⟩ := dBelow c i2 h2 6 g2 hc
  have n1 := n1 (by omega)
  obtain ⟨m, rfl⟩ := Int.eq_ofNat_of_zero_le n0
  obtain ⟨kp, fl, i4, h4, e4⟩ := dCrashL c hc m i3 h3 [] [] g3 (by simp only [List.length_nil]; omega) (by simp only [List.length_nil]; omega)
  have hn : diskM [] = true := by decide +kernel
  have eP := spec_play [] x0 (by decide) (fun y hy => by cases hy) (ok_wf a1)
  have hP : playM [] x0 = playL x0 [] [] := by unfold playM; rw [if_pos hn, if_neg (by omega)]
  have hD := (play_disk x0 [] [] hn).1
  rw [hP] at eP
  refine ⟨(playL x0 [] []).1, x, kp, fl, ?_, hD, b1, b2, x0, rfl, a1⟩
  unfold spec_DrawRightDisk.f spec_l03DrawRight.f spec_l03DrawCrash.f
  refine (EvB e0).2 ?_
  have e1' : Ev (fun k => (spec_l03DrawOps.f k c 0 h c).bind fun bt757 => (spec_PlayDisk.f k [] bt757.1).bind fun bt762 => some (bt762.1, bt757.2.1, bt757.2.2)) ((playL x0 [] []).1, i1, h1) := by
    refine (EvB e1).2 ?_
    exact (EvB eP).2 EvN
  refine (EvB e1').2 ?_
  refine (EvB e2).2 ?_
  simp only [e3, Option.bind_some]
  exact (EvB e4).2 EvN
end Go.Proofs.YtmgeffgcihfpcaaDoor.OD

namespace Go.Proofs.YtmgeffgcihfpcaaDoor.DK
set_option linter.unusedVariables false
set_option linter.unusedSimpArgs false
open Go.RowKit Go.Proofs.YtmgeffgcihfpcaaDoor.F Go.Proofs.YtmgeffgcihfpcaaDoor.PK Go.Proofs.YtmgeffgcihfpcaaDoorW.PrintWords Go.Proofs.YtmgeffgcihfpcaaDoorW.PrintLast Go.Proofs.YtmgeffgcihfpcaaDoorW.PrintMore
theorem impl_app' (l : List S74) (a : ByteArray) (d : List Int) (hl : l.length ≤ 1048576) (hw : wfD l) (ha : a.size ≤ 9223372036854775807) (hd : d.length ≤ 1048576) : Ev (fun k => impl_AppendFile.f k l a d) (appM l a d) := impl_app l a d hl hw ha hd
theorem impl_ren' (l : List S74) (a b : ByteArray) (hl : l.length ≤ 1048576) (hw : wfD l) (hb : b.size ≤ 9223372036854775807) : Ev (fun k => impl_RenameFile.f k l a b) (renM l a b) := impl_ren l a b hl hw hb
theorem impl_remove' (l : List S74) (a : ByteArray) (hl : l.length ≤ 1048576) (hw : wfD l) : Ev (fun k => impl_RemoveFile.f k l a) (removeM l a) := by
  unfold impl_RemoveFile.f
  simp only [EvB (impl_remove l a hl hw)]
  exact EvN
theorem impl_cut' (l : List S74) (a : ByteArray) (n : Int) (hl : l.length ≤ 1048576) (hw : wfD l) : Ev (fun k => impl_CutFile.f k l a n) (cutM l a n) := impl_cut l a n hl hw
end Go.Proofs.YtmgeffgcihfpcaaDoor.DK

namespace Go.Proofs.YtmgeffgcihfpcaaDoor.Pure
set_option linter.unusedVariables false
set_option linter.unusedSimpArgs false
open Go.RowKit Go.Proofs.YtmgeffgcihfpcaaDoor.F Go.Proofs.YtmgeffgcihfpcaaDoor.PK Go.Proofs.YtmgeffgcihfpcaaDoorW.PrintWords Go.Proofs.YtmgeffgcihfpcaaDoorW.PrintLast Go.Proofs.YtmgeffgcihfpcaaDoorW.PrintMore
open Go.Proofs.YtmgeffgcihfpcaaDoor.DK Go.Proofs.YtmgeffgcihfpcaaDoor.GT Go.Proofs.YtmgeffgcihfpcaaDoor.BY Go.Proofs.YtmgeffgcihfpcaaDoor.OD
theorem disk_bd {l : List S74} (h : diskM l = true) : l.length ≤ 1048576 ∧ wfD l := by
  have h8 := (disk_each h).1
  refine ⟨by omega, fun y hy => ?_⟩
  obtain ⟨h1, h2⟩ := (disk_each h).2 y hy
  unfold nameM at h1
  rw [Bool.and_eq_true, decide_eq_true_iff] at h1
  omega
theorem cE {l : List S74} (a : ByteArray) (h : diskM l = true) : Ev (fun k => impl_Content.f k l a) (contentM l a) := impl_content l a (disk_bd h).1 (disk_bd h).2
theorem disk_ev (l : List S74) (hl : l.length ≤ 1000) : Ev (fun k => laws_sameDisk.f k l l) true := by
  unfold laws_sameDisk.f
  simp only [if_true]
  exact up0 (P := fun i => Ev (fun k => laws_sameDisk.l0 k i l l) true) l.length
    (EvS (by simp only [laws_sameDisk.l0, Int.lt_irrefl, if_false]; exact EvN))
    (fun i hi ih => EvS (by
      simp only [laws_sameDisk.l0, if_pos (show (i : Int) < (l.length : Int) by omega), if_pos (show 0 ≤ (i : Int) by omega), if_true, BY.nxt i _ hi (show l.length ≤ 9223372036854775807 by omega)]
      exact ih))
theorem copy_ev (l : List Int) (hl : l.length ≤ 1000000) : Ev (fun k => laws_copyBytes.f k l) l := by
  unfold laws_copyBytes.f
  have key := up (P := fun i => ∀ x : List Int, x = l.take i.toNat → (x.length : Int) = i → Ev (fun k => laws_copyBytes.l0 k l x i) l) l.length
    (fun x hx hn => EvS (by
      rw [Int.toNat_natCast, List.take_length] at hx
      simp only [laws_copyBytes.l0, Int.lt_irrefl, if_false, hx]; exact EvN))
    (fun i hi ih x hx hn => EvS (by
      simp only [laws_copyBytes.l0, if_pos (show (i : Int) < (l.length : Int) by omega), if_pos (show 0 ≤ (i : Int) by omega), eq_true (show x.length < 140737488355328 by omega), if_true, BY.nxt i _ hi (show l.length ≤ 9223372036854775807 by omega)]
      refine ih _ ?_ (by rw [List.length_append, List.length_singleton]; omega)
      rw [hx, Int.toNat_natCast, Int.toNat_natCast, List.take_add_one, List.getElem?_eq_getElem hi, show rd l (i : Int) = l[i] from getD_nat l _ i hi]
      rfl))
  exact key 0 (Nat.zero_le _) [] (by simp) rfl
theorem join_ev (l m : List Int) (hl : l.length ≤ 1000000) (hm : m.length ≤ 1000000) : Ev (fun k => laws_join.f k l m) (l ++ m) := by
  unfold laws_join.f
  refine (EvB (copy_ev l hl)).2 ?_
  have key := up (P := fun i => ∀ x : List Int, x = l ++ m.take i.toNat → x.length ≤ l.length + i.toNat → Ev (fun k => laws_join.l0 k m x i) (l ++ m)) m.length
    (fun x hx hn => EvS (by
      rw [Int.toNat_natCast, List.take_length] at hx
      simp only [laws_join.l0, Int.lt_irrefl, if_false, hx]; exact EvN))
    (fun i hi ih x hx hn => EvS (by
      rw [Int.toNat_natCast] at hn
      simp only [laws_join.l0, if_pos (show (i : Int) < (m.length : Int) by omega), if_pos (show 0 ≤ (i : Int) by omega), eq_true (show x.length < 140737488355328 by omega), if_true, BY.nxt i _ hi (show m.length ≤ 9223372036854775807 by omega)]
      refine ih _ ?_ (by rw [List.length_append, List.length_singleton, Int.toNat_natCast]; omega)
      rw [hx, Int.toNat_natCast, Int.toNat_natCast, List.take_add_one, List.getElem?_eq_getElem hi, show rd m (i : Int) = m[i] from getD_nat m _ i hi, List.append_assoc]
      rfl))
  exact key 0 (Nat.zero_le _) l (by simp) (by simp)
theorem app_ok {l : List S74} {a : ByteArray} {d : List Int} (h : diskM l = true) (hr : (appM l a d).2 = true) : ∃ f1 f2, diskM (appM l a d).1 = true ∧ nameM a = true ∧ getM (appM l a d).1 a = some ⟨a, f1, f2 ++ d⟩ ∧ (contentM l a).1 = f1 ++ f2 ∧ ((contentM l a).2 = false → f1 ++ f2 = []) ∧ ∀ b, b ≠ a → getM (appM l a d).1 b = getM l b := by
  have key : ∀ f1 f2, getM (putM l ⟨a, f1, f2 ++ d⟩) a = some ⟨a, f1, f2 ++ d⟩ ∨ ¬ diskM (putM l ⟨a, f1, f2 ++ d⟩) = true := fun f1 f2 => by
    by_cases q : diskM (putM l ⟨a, f1, f2 ++ d⟩) = true
    · exact .inl (put_self (f := ⟨a, f1, f2 ++ d⟩) q)
    exact .inr q
  have hn : nameM a = true := by
    unfold appM at hr
    by_cases c : diskM l = true ∧ nameM a = true
    · exact c.2
    rw [if_neg c] at hr; cases hr
  cases e : getM l a with
  | none =>
    have h8 : l.length < 8 := by
      have := (disk_each h).1
      rcases Nat.lt_or_ge l.length 8 with q | q
      · exact q
      unfold appM at hr
      rw [if_pos ⟨h, hn⟩, if_pos (idx_none.2 e), if_pos (by omega)] at hr
      cases hr
    have hb : d.length ≤ 20000 := by
      unfold appM at hr
      rw [if_pos ⟨h, hn⟩, if_pos (idx_none.2 e), if_neg (by omega)] at hr
      unfold appF at hr
      split at hr
      · rename_i q; simp only [List.length_nil] at q; omega
      cases hr
    obtain ⟨a1, a2⟩ := app_none (d := d) h e hn h8 hb
    rw [a1]
    exact ⟨[], [], a2, hn, put_self (f := ⟨a, [], d⟩) a2, by rw [content_not e]; rfl, fun _ => rfl, fun b hb => put_other (f := ⟨a, [], d⟩) h hb⟩
  | some y =>
    have hb : d.length + y.f1.length + y.f2.length ≤ 20000 := by
      obtain ⟨m, hm, e1, _, e2, _⟩ := idx_some h e
      unfold appM at hr
      rw [if_pos ⟨h, hn⟩, if_neg (by omega), e2] at hr
      unfold appF at hr
      split at hr
      · assumption
      cases hr
    obtain ⟨a1, a2⟩ := app_some (d := d) h e hb
    rw [a1]
    exact ⟨y.f1, y.f2, a2, hn, put_self (f := ⟨a, y.f1, y.f2 ++ d⟩) a2, by rw [content_of h e], fun q => (by rw [content_of h e] at q; cases q), fun b hb => put_other (f := ⟨a, y.f1, y.f2 ++ d⟩) h hb⟩
theorem app_no {l : List S74} {a : ByteArray} {d : List Int} (hr : ¬ (appM l a d).2 = true) : appM l a d = (l, false) := by
  unfold appM at hr ⊢
  split
  · rename_i c
    rw [if_pos c] at hr
    split
    · rename_i c2
      rw [if_pos c2] at hr
      split
      · rfl
      rename_i c3
      rw [if_neg c3] at hr
      unfold appF at hr ⊢
      split
      · rename_i c4; rw [if_pos c4] at hr; exact absurd rfl hr
      rfl
    rename_i c2
    rw [if_neg c2] at hr
    unfold appF at hr ⊢
    split
    · rename_i c4; rw [if_pos c4] at hr; exact absurd rfl hr
    rfl
  rfl
def othS : ByteArray := ⟨#[111, 116, 104, 0x65, 114]⟩
theorem nm_oth : nameM othS = true := by decide +kernel
theorem inT {d nx : List S74} {a : ByteArray} (hd : diskM d = true) (nd : diskM nx = true) (c3 : ∀ b, b ≠ a → getM nx b = getM d b) : Ev (fun k => laws_FnFiles.in1 a d nx k 0) true := by
  have h0 : d.length ≤ 9223372036854775807 := by have := (disk_each hd).1; omega
  refine up0 (P := fun q => Ev (fun k => laws_FnFiles.in1 a d nx k q) true) d.length (EvS ?_) (fun q hq ihq => EvS ?_)
  · simp only [laws_FnFiles.in1, Int.lt_irrefl, if_false]
    exact EvN
  have hw := BY.nxt q _ hq h0
  have hrq : rd_T74 d (q : Int) = d[q] := rd74 d q hq
  simp only [laws_FnFiles.in1, if_pos (show (q : Int) < (d.length : Int) from Int.ofNat_lt.2 hq), if_pos (show 0 ≤ (q : Int) from Int.natCast_nonneg q), hrq, EvB (cE d[q].f0 hd), EvB (cE d[q].f0 nd), hw]
  have hz : d[q].f0.toList = a.toList ∨ (contentM d d[q].f0).1 = (contentM nx d[q].f0).1 := by
    by_cases hs : d[q].f0.toList = a.toList
    · exact .inl hs
    refine .inr ?_
    rw [content_eq nd hd (c3 _ (fun z => hs (by rw [z])))]
  simp only [if_pos hz]
  exact ihq
theorem twoT {nx : List S74} {a : ByteArray} {f1 f2 : List Int} {t : Int} (nd : diskM nx = true) (g1 : getM nx a = some ⟨a, f1, f2 ++ [t, 7]⟩) (hb : f1.length + f2.length ≤ 20000) : Ev (fun k => laws_FnFiles.two k a (f1 ++ (f2 ++ [t, 7])) nx) nx := by
  have hlen : (f1 ++ (f2 ++ [t, 7])).length = f1.length + f2.length + 2 := by simp; omega
  obtain ⟨r1, r2⟩ := ren_some (b := othS) nd g1 nm_oth
  have eR := impl_ren' nx a othS (disk_bd nd).1 (disk_bd nd).2 (by decide)
  rw [r1] at eR
  have g3 : getM (putM (nx.filter (notN a)) ⟨othS, f1, f2 ++ [t, 7]⟩) othS = some ⟨othS, f1, f2 ++ [t, 7]⟩ := put_self (f := ⟨othS, f1, f2 ++ [t, 7]⟩) r2
  have eO := cE othS r2
  rw [content_of r2 g3] at eO
  have eM := impl_remove' nx a (disk_bd nd).1 (disk_bd nd).2
  rw [remove_some nd g1] at eM
  have d2 : diskM (nx.filter (notN a)) = true := disk_fil _ nd
  have e2 := cE a d2
  rw [content_not (fil_self (l := nx) (a := a))] at e2
  have hm : ((f1 ++ (f2 ++ [t, 7])).take ((f1 ++ (f2 ++ [t, 7])).length - 1)).length = f1.length + f2.length + 1 := by rw [List.length_take]; omega
  obtain ⟨u1, u2⟩ := cut_some (n := ((f1.length + f2.length + 1 : Nat) : Int)) nd g1 (by omega) (by show _ ≤ ((f1 ++ (f2 ++ [t, 7])).length : Int); omega)
  have eC := impl_cut' nx a ((f1.length + f2.length + 1 : Nat) : Int) (disk_bd nd).1 (disk_bd nd).2
  rw [u1] at eC
  have g2 := put_self (f := ⟨a, (f1 ++ (f2 ++ [t, 7])).take ((f1.length + f2.length + 1 : Nat) : Int).toNat, []⟩) u2
  have e3 := cE a u2
  rw [content_of u2 g2] at e3
  have hfin : (f1 ++ (f2 ++ [t, 7])).take ((f1.length + f2.length + 1 : Nat) : Int).toNat ++ [] = (f1 ++ (f2 ++ [t, 7])).take ((f1 ++ (f2 ++ [t, 7])).length - 1) := by
    rw [List.append_nil, Int.toNat_natCast, hlen]
    rfl
  unfold laws_FnFiles.two
  refine (EvB eR).2 ?_
  refine (EvB eO).2 ?_
  refine (EvB (cE a r2)).2 ?_
  have hside : (contentM (putM (nx.filter (notN a)) ⟨othS, f1, f2 ++ [t, 7]⟩) a).2 = false ∨ a.toList = othS.toList := by
    by_cases ha : a = othS
    · exact .inr (by rw [ha])
    refine .inl ?_
    rw [content_not (by rw [put_other (f := ⟨othS, f1, f2 ++ [t, 7]⟩) (disk_fil _ nd) ha]; exact fil_self)]
  rw [hm]
  simp only [if_true]
  simp only [if_pos (show (contentM (putM (nx.filter (notN a)) ⟨othS, f1, f2 ++ [t, 7]⟩) a).2 = false ∨ a.toList = (⟨#[111, 116, 104, 101, 114]⟩ : ByteArray).toList from hside)]
  refine (EvB eM).2 ?_
  refine (EvB e2).2 ?_
  simp only [if_true]
  simp only [if_pos (show 1 ≤ (f1 ++ (f2 ++ [t, 7])).length ∧ (f1 ++ (f2 ++ [t, 7])).length ≤ 1000000 from ⟨by omega, by omega⟩)]
  refine (EvB eC).2 ?_
  refine (EvB e3).2 ?_
  simp only [if_true]
  simp only [if_pos hfin]
  exact EvN
theorem oneT {d : List S74} {a : ByteArray} {t : Int} (hd : diskM d = true) (ho : a.size ≤ 1048576) : ∃ d', diskM d' = true ∧ Ev (fun k => laws_FnFiles.one k a [t, 7] d) d' := by
  have eA := impl_app' d a [t, 7] (disk_bd hd).1 (disk_bd hd).2 (by omega) (by simp)
  by_cases hr : (appM d a [t, 7]).2 = true
  rotate_left
  · refine ⟨d, hd, ?_⟩
    rw [app_no hr] at eA
    unfold laws_FnFiles.one
    refine (EvB (cE a hd)).2 ?_
    refine (EvB eA).2 ?_
    simp only [Bool.false_eq_true, if_false, EvB (disk_ev d (by have := (disk_each hd).1; omega)), if_true]
    exact EvN
  obtain ⟨f1, f2, nd, hn, g1, c1, c2, c3⟩ := app_ok hd hr
  generalize hN : (appM d a [t, 7]).1 = nx at *
  refine ⟨nx, nd, ?_⟩
  have b1 := (bd_of nd g1).1
  have hnow := content_of nd g1
  have hb : f1.length + f2.length ≤ 20000 := by
    have : (f2 ++ [t, 7]).length = f2.length + 2 := by simp
    have b1 : f1.length + (f2 ++ [t, 7]).length ≤ 20000 := b1
    omega
  have eJ := join_ev (contentM d a).1 [t, 7] (by rw [c1, List.length_append]; omega) (by simp)
  have eN : (contentM d a).1 ++ [t, 7] = f1 ++ (f2 ++ [t, 7]) := by rw [c1, List.append_assoc]
  rw [eN] at eJ
  have eW := cE a nd
  rw [hnow] at eW
  have hz : (contentM d a).2 = true ∨ (contentM d a).1.length = 0 := by
    by_cases hh : (contentM d a).2 = true
    · exact .inl hh
    exact .inr (by rw [c1, c2 (by simpa using hh)]; rfl)
  unfold laws_FnFiles.one
  refine (EvB (cE a hd)).2 ?_
  refine (EvB eA).2 ?_
  simp only [hr, if_true, hN]
  refine (EvB eW).2 ?_
  refine (EvB eJ).2 ?_
  simp only [if_true]
  simp only [if_pos hz]
  refine (EvB (inT hd nd c3)).2 ?_
  exact twoT nd g1 hb
theorem l0T (x : List S71) (hx : ∀ y ∈ x, okO y) (hxl : x.length ≤ 15) (t : Int) : ∀ (n i : Nat) (d : List S74), n + i = x.length → diskM d = true → ∃ d', diskM d' = true ∧ Ev (fun k => laws_FnFiles.l0 x [t, 7] k d (i : Int)) d' := by
  intro n
  induction n with
  | zero =>
    intro i d hi hd
    refine ⟨d, hd, EvS ?_⟩
    simp only [laws_FnFiles.l0, if_neg (show ¬ (i : Int) < (x.length : Int) by omega)]
    exact EvN
  | succ n ih =>
    intro i d hi hd
    have hil : i < x.length := by omega
    have hnx := BY.nxt i _ hil (show x.length ≤ 9223372036854775807 by omega)
    have hrd : rd_T71 x (i : Int) = x[i] := rd71 x i hil
    have ho := (hx _ (List.getElem_mem hil)).1
    by_cases h6 : (i : Int) < 6
    rotate_left
    · refine ⟨d, hd, EvS ?_⟩
      simp only [laws_FnFiles.l0, if_pos (show (i : Int) < (x.length : Int) by omega), if_neg h6]
      exact EvN
    obtain ⟨e, he, h1⟩ := oneT (t := t) (a := x[i].f1) hd (by omega)
    obtain ⟨d', hd', h2⟩ := ih (i + 1) e (by omega) he
    refine ⟨d', hd', EvS ?_⟩
    simp only [laws_FnFiles.l0, if_pos (show (i : Int) < (x.length : Int) by omega), if_pos h6, if_pos (show 0 ≤ (i : Int) by omega), hrd, EvB h1, hnx]
    exact h2
theorem FnFiles (l0 : List Int) (hw0 : l0.length ≤ 9223372036854775807 ∧ ∀ y_ ∈ l0, (Lit.int .u8 y_).wf = true) : ∃ k, laws_FnFiles.f k l0 = some true := by
  refine EvE ?_
  unfold laws_FnFiles.f laws_big.f
  by_cases hb : (l0.length : Int) > 1048576
  · simp only [hb, decide_true, Option.bind_some, if_true]; exact EvN
  obtain ⟨d, x, kp, fl, e, hd, hx, hxl, _⟩ := dDisk l0 (by omega)
  have hA : ∃ t, laws_at.f l0 3 = some t := by
    unfold laws_at.f
    by_cases h : (3 : Int) < (l0.length : Int)
    · rw [if_pos h, if_pos (by decide)]; exact ⟨_, rfl⟩
    rw [if_neg h]; exact ⟨_, rfl⟩
  obtain ⟨t, ht⟩ := hA
  obtain ⟨d', hd', h1⟩ := l0T x hx hxl (t % 256) x.length 0 d (by omega) hd
  simp only [hb, decide_false, Option.bind_some, Bool.false_eq_true, if_false, EvB e, ht]
  refine (EvB h1).2 ?_
  unfold impl_DiskOk.f
  have := impl_disk d' (disk_bd hd').1 (disk_bd hd').2
  rw [hd'] at this
  exact (EvB this).2 EvN
end Go.Proofs.YtmgeffgcihfpcaaDoor.Pure

namespace Go.Proofs.YtmgeffgcihfpcaaDoor.Opens
set_option linter.unusedVariables false
set_option linter.unusedSimpArgs false
open Go.RowKit Go.Proofs.YtmgeffgcihfpcaaDoorW.PrintWords
def Opens (P : Program) (t : TypeId) {α : Type} (d : Kd α) (ok : α → Prop) : Prop :=
  P.cellsOf t = d.sz ∧ ∀ (H : Type) (enc : TypeId × Value → H) (w : World) (spare : Nat → Bool) (fuel : Nat) (cs : List Value) (x : DataW H × List MemPlace), DataW.trod enc P w 0 spare true fuel t cs = some x → ∃ a : α, d.K w a cs ∧ ok a
variable {P : Program}
theorem opens_int {t : TypeId} {k : IntKind} (ht : P.underlying t = some (.int k)) (hc : P.cellsOf t = 1) : Opens P t (Kd.int k) (fun a => (Lit.int k a).wf = true) :=
  ⟨hc, fun _ _ _ _ _ _ _ h => by
    obtain ⟨n, rfl, _, hw⟩ := DataW.trod_int ht h
    exact ⟨n, rfl, hw⟩⟩
theorem add_add (a : Addr) (i j : Nat) : (a.add i).add j = a.add (i + j) := by
  unfold Addr.add
  by_cases hi : i = 0 <;> by_cases hj : j = 0 <;> simp [hi, hj, Nat.add_assoc]
theorem opens_slice {t e : TypeId} {α : Type} {d : Kd α} {ok : α → Prop} (ht : P.underlying t = some (.slice e)) (hc : P.cellsOf t = 1) (hd : Opens P e d ok) :
    Opens P t (Kd.slice e d) (fun l => l.length ≤ 9223372036854775807 ∧ ∀ a ∈ l, ok a) :=
  ⟨hc, fun H enc w spare fuel cs x h => by
    rcases Deep.open_slice ht h with ⟨rfl, _⟩ | ⟨a, len, cap, m, n, D, Pl, rfl, _, hl, hm, hmm, hxx, hx⟩
    · exact ⟨[], ⟨none, 0, rfl, Nat.le_refl _, rfl, Nat.zero_le _, fun h => absurd h (Nat.lt_irrefl _)⟩, Nat.zero_le _, fun _ h => nomatch h⟩
    have hlm : len ≤ m := by rw [hmm]; split <;> omega
    have hex : ∀ i, i < len → ∃ b : α, ∃ cs', w.cells? 0 (a.add (i * P.cellsOf e)) (P.cellsOf e) = some cs' ∧ d.K w b cs' ∧ ok b := fun i hi => by
      obtain ⟨cs', h1, h2⟩ := hx i (Nat.lt_of_lt_of_le hi hlm)
      obtain ⟨b, hb⟩ := hd.2 H enc w spare n cs' _ h2
      exact ⟨b, cs', h1, hb.1, hb.2⟩
    have hml : len ≤ 9223372036854775807 := by unfold maxLen at hm; omega
    obtain ⟨l, hll, hat⟩ : ∃ l : List α, l.length = len ∧ ∀ i p, l[i]? = some p → ∃ cs', w.cells? 0 (a.add (i * P.cellsOf e)) (P.cellsOf e) = some cs' ∧ d.K w p cs' ∧ ok p := by
      clear hx hlm hmm hl hm hml hxx h
      induction len with
      | zero => exact ⟨[], rfl, fun i p h => by simp at h⟩
      | succ len ih =>
        obtain ⟨l, hll, hat⟩ := ih (fun i hi => hex i (Nat.lt_succ_of_lt hi))
        obtain ⟨b, hb⟩ := hex len (Nat.lt_succ_self _)
        refine ⟨l ++ [b], by simp [hll], fun i p h => ?_⟩
        rcases Nat.lt_or_ge i l.length with hi | hi
        · rw [List.getElem?_append_left hi] at h
          exact hat i p h
        rw [List.getElem?_append_right hi] at h
        have hi0 : i - l.length = 0 := by
          rcases Nat.eq_zero_or_pos (i - l.length) with h0 | h0
          · exact h0
          rw [List.getElem?_eq_none (by simp; omega)] at h
          cases h
        rw [hi0] at h
        have : b = p := by simpa using h
        subst this
        have : i = len := by omega
        subst this
        exact hb
    subst hll
    refine ⟨l, ⟨some a, cap, rfl, hl, rfl, hml, fun _ => ⟨a, rfl, fun j p hj => ?_⟩⟩, hml, fun b hb => ?_⟩
    · obtain ⟨cs', h1, hk, _⟩ := hat j p hj
      obtain ⟨_, hlen, hcell⟩ := World.cells?_some h1
      refine ⟨cs', hlen.trans hd.1, hk, fun i u hu => ?_⟩
      have hi : i < P.cellsOf e := by
        have := (List.getElem?_eq_some_iff.1 hu).1
        omega
      have := hcell i hi
      rw [hu, add_add, hd.1] at this
      exact this
    obtain ⟨i, hi⟩ := List.getElem?_of_mem hb
    obtain ⟨_, _, _, hok⟩ := hat i b hi
    exact hok⟩
end Go.Proofs.YtmgeffgcihfpcaaDoor.Opens
