/- Merged texts below the law FnExactWalCompact: Go functions as Lean functions, their contracts, and plain lemmas. -/
import Derived.Test.YtcgojdhbphocgaaDoorQFnExactWalCompact33
import Derived.Test.YtcgojdhbphocgaaDoorQFnExactWalCompact31
import Derived.Test.YtcgojdhbphocgaaDoorQFnExactWalCompact26
import Derived.Test.YtcgojdhbphocgaaDoorQFnExactWalCompact29
namespace Go.Proofs.YtcgojdhbphocgaaDoor.DK
set_option linter.unusedVariables false
set_option linter.unusedSimpArgs false
open Go.RowKit Go.Proofs.YtcgojdhbphocgaaDoor.F Go.Proofs.YtcgojdhbphocgaaDoor.PK Go.Proofs.YtcgojdhbphocgaaDoorW.PrintWords Go.Proofs.YtcgojdhbphocgaaDoorW.PrintLast Go.Proofs.YtcgojdhbphocgaaDoorW.PrintMore
def removeM (l : List S55) (a : ByteArray) : List S55 × Bool := if diskM l = true then (if idxF (isN a) l 0 < 0 then (l, false) else (l.eraseIdx (idxF (isN a) l 0).toNat, true)) else (l, false)
theorem wfD_le {l : List S55} (hw : wfD l) : ∀ y ∈ l, y.f1.length ≤ 100000000 ∧ y.f2.length ≤ 100000000 := fun y hy => by have := hw y hy; omega
theorem remove_le (l : List S55) (a : ByteArray) : (removeM l a).1.length ≤ l.length ∧ ∀ y ∈ (removeM l a).1, y ∈ l := by
  unfold removeM
  by_cases h : diskM l = true
  · rw [if_pos h]
    by_cases h2 : idxF (isN a) l 0 < 0
    · rw [if_pos h2]; exact ⟨Nat.le_refl _, fun y hy => hy⟩
    rw [if_neg h2]; exact ⟨List.length_eraseIdx_le _ _, fun y hy => List.mem_of_mem_eraseIdx hy⟩
  rw [if_neg h]; exact ⟨Nat.le_refl _, fun y hy => hy⟩
theorem idx_in (l : List S55) (a : ByteArray) (h : ¬ idxF (isN a) l 0 < 0) : ∃ (m : Nat) (x : S55), idxF (isN a) l 0 = m ∧ l[m]? = some x ∧ isN a x.f0 = true ∧ m < l.length := by
  rcases idxF_at (isN a) l 0 with ⟨h1, _⟩ | ⟨m, x, h1, h2, h3, _⟩
  · omega
  exact ⟨m, x, by omega, h2, h3, (List.getElem?_eq_some_iff.1 h2).1⟩
theorem spec_remove (l : List S55) (a : ByteArray) (hl : l.length ≤ 1048576) (hw : wfD l) : Ev (fun k => spec_RemoveFile.f k l a) (removeM l a) := by
  have hc := copyS l (by omega) (wfD_le hw)
  unfold spec_RemoveFile.f removeM
  simp only [EvB (spec_disk l hl hw)]
  by_cases h : diskM l = true
  · simp only [if_pos h, EvB (find_ev l a hl)]
    refine EvS ?_
    by_cases h2 : idxF (isN a) l 0 < 0
    · simp only [spec_RemoveFile.j0, decide_eq_true h2, if_true, EvB (EvP hc), if_pos h2]
      exact (EvB hc).2 EvN
    obtain ⟨m, x, e, hx, hp, hm⟩ := idx_in l a h2
    have hW := withoutS l a (by omega) (wfD_le hw)
    rw [without_at (disk_srt h) a m x hx hp] at hW
    simp only [spec_RemoveFile.j0, decide_eq_false h2, Bool.false_eq_true, if_false, if_neg h2]
    rw [e, Int.toNat_natCast]
    exact (EvB hW).2 EvN
  simp only [if_neg h]
  refine EvS ?_
  simp only [spec_RemoveFile.j0, if_true]
  exact (EvB hc).2 EvN
theorem impl_remove (l : List S55) (a : ByteArray) (hl : l.length ≤ 1048576) (hw : wfD l) : Ev (fun k => impl_removeFile.f k l a) (removeM l a) := by
  have hc := copyI l (by omega) (wfD_le hw)
  have hf : impl_fileOf.f l a = some (idxF (isN a) l 0) := by unfold impl_fileOf.f; rw [if_pos (by omega)]; rfl
  unfold impl_removeFile.f removeM
  simp only [EvB hc, hf, Option.bind_some, EvB (impl_disk l hl hw)]
  by_cases h : diskM l = true
  · simp only [if_pos h]
    by_cases h2 : idxF (isN a) l 0 < 0
    · simp only [if_pos h2]; exact EvN
    obtain ⟨m, x, e, hx, hp, hm⟩ := idx_in l a h2
    simp only [if_neg h2, if_pos (show idxF (isN a) l 0 < (l.length : Int) by omega)]
    exact EvN
  simp only [if_neg h]; exact EvN
abbrev ltF (x y : S55) : Prop := Op.bytesLess (nm x) (nm y) = true
theorem srt_pw {l : List S55} : srt l ↔ l.Pairwise ltF := by
  rw [List.pairwise_iff_getElem]
  constructor
  · intro h i j hi hj hij
    exact h i j hij _ _ (List.getElem?_eq_getElem hi) (List.getElem?_eq_getElem hj)
  intro h i j hij x y hx hy
  obtain ⟨hi, rfl⟩ := List.getElem?_eq_some_iff.1 hx
  obtain ⟨hj, rfl⟩ := List.getElem?_eq_some_iff.1 hy
  exact h i j hi hj hij
theorem ins_take (x : S55) : ∀ l : List S55, l.take (wIdx x.f0 l) = l.takeWhile (lessN x.f0) ∧ l.drop (wIdx x.f0 l) = l.dropWhile (lessN x.f0)
  | [] => ⟨rfl, rfl⟩
  | y :: r => by
    obtain ⟨h1, h2⟩ := ins_take x r
    unfold wIdx
    cases h : Op.bytesLess y.f0.toList x.f0.toList with
    | true =>
      have hl : lessN x.f0 y = true := h
      simp only [if_true, List.take_succ_cons, List.drop_succ_cons, List.takeWhile_cons, List.dropWhile_cons, hl, h1, h2, and_self]
    | false =>
      have hl : lessN x.f0 y = false := h
      simp only [Bool.false_eq_true, if_false, List.take_zero, List.drop_zero, List.takeWhile_cons, List.dropWhile_cons, hl, and_self]
theorem ins_eq (l : List S55) (x : S55) : insM l x = l.takeWhile (lessN x.f0) ++ x :: l.dropWhile (lessN x.f0) := by
  unfold insM
  rw [(ins_take x l).1, (ins_take x l).2]
theorem less_not {a : ByteArray} {y : S55} (h : lessN a y = true) : notN a y = true := by
  have := lt_ne (a := nm y) (b := a.toList) h
  unfold notN isN
  simpa [nm] using this
theorem dw_less {a : ByteArray} : ∀ {l : List S55}, l.Pairwise ltF → ∀ y ∈ l.dropWhile (lessN a), lessN a y = false
  | [], _, y, hy => by simp at hy
  | x :: r, h, y, hy => by
    rw [List.dropWhile_cons] at hy
    cases hx : lessN a x with
    | true => rw [hx, if_pos rfl] at hy; exact dw_less (List.pairwise_cons.1 h).2 y hy
    | false =>
      rw [hx, if_neg (by decide)] at hy
      rcases List.mem_cons.1 hy with rfl | hy
      · exact hx
      cases hq : lessN a y with
      | false => rfl
      | true =>
        have h1 : lessN a x = true := lt_trans _ _ _ ((List.pairwise_cons.1 h).1 y hy) hq
        rw [hx] at h1
        cases h1
theorem tw_app {p : S55 → Bool} : ∀ (t d : List S55), (∀ y ∈ t, p y = true) → (∀ y ∈ d, p y = false) → (t ++ d).takeWhile p = t ∧ (t ++ d).dropWhile p = d
  | [], d, _, hd => by
    cases d with
    | nil => exact ⟨rfl, rfl⟩
    | cons y r =>
      have := hd y List.mem_cons_self
      simp [List.takeWhile_cons, List.dropWhile_cons, this]
  | x :: t, d, ht, hd => by
    obtain ⟨h1, h2⟩ := tw_app t d (fun y hy => ht y (List.mem_cons_of_mem _ hy)) hd
    have := ht x List.mem_cons_self
    simp [List.takeWhile_cons, List.dropWhile_cons, this, h1, h2]
theorem tw_all {p : S55 → Bool} : ∀ (l : List S55), ∀ y ∈ l.takeWhile p, p y = true
  | [], y, hy => by simp at hy
  | x :: r, y, hy => by
    rw [List.takeWhile_cons] at hy
    cases hx : p x with
    | true =>
      rw [hx, if_pos rfl] at hy
      rcases List.mem_cons.1 hy with rfl | hy
      · exact hx
      exact tw_all r y hy
    | false => rw [hx, if_neg (by decide)] at hy; simp at hy
theorem fil_split {a : ByteArray} {l : List S55} (h : l.Pairwise ltF) : (l.filter (notN a)).takeWhile (lessN a) = l.takeWhile (lessN a) ∧ (l.filter (notN a)).dropWhile (lessN a) = (l.dropWhile (lessN a)).filter (notN a) := by
  have e : l.filter (notN a) = l.takeWhile (lessN a) ++ (l.dropWhile (lessN a)).filter (notN a) := by
    conv => lhs; rw [← List.takeWhile_append_dropWhile (p := lessN a) (l := l)]
    rw [List.filter_append, filter_all (fun y hy => less_not (tw_all l y hy))]
  rw [e]
  exact tw_app _ _ (fun y hy => tw_all l y hy) (fun y hy => dw_less h y (List.mem_filter.1 hy).1)
theorem ins_put {l : List S55} (h : l.Pairwise ltF) (f : S55) : insM (l.filter (notN f.f0)) f = putM l f := by
  rw [ins_eq, (fil_split h).1, (fil_split h).2]
  rfl
theorem put_fil {l : List S55} (h : l.Pairwise ltF) (f : S55) : putM (l.filter (notN f.f0)) f = putM l f := by
  unfold putM
  rw [(fil_split h).1, (fil_split h).2, List.filter_filter]
  simp only [Bool.and_self]
theorem disk_each {l : List S55} (h : diskM l = true) : l.length ≤ 8 ∧ ∀ y ∈ l, nameM y.f0 = true ∧ y.f1.length + y.f2.length ≤ 20000 := by
  unfold diskM at h
  rw [Bool.and_eq_true, decide_eq_true_iff] at h
  refine ⟨h.1, fun y hy => ?_⟩
  obtain ⟨j, hj, rfl⟩ := List.mem_iff_getElem.1 hy
  have hk := goD_at l _ _ h.2 j (by omega) (by omega)
  unfold okAt at hk
  rw [Bool.and_eq_true, Bool.and_eq_true, decide_eq_true_iff, rd55 l j hj] at hk
  exact ⟨hk.1, hk.2.1⟩
theorem disk_of {l : List S55} (h1 : l.length ≤ 8) (h2 : ∀ y ∈ l, nameM y.f0 = true ∧ y.f1.length + y.f2.length ≤ 20000) (h3 : l.Pairwise ltF) : diskM l = true := by
  unfold diskM
  rw [Bool.and_eq_true, decide_eq_true_iff]
  refine ⟨h1, goD_of l _ _ fun j _ hj => ?_⟩
  have hj : j < l.length := by omega
  have hy := h2 _ (List.getElem_mem hj)
  unfold okAt
  rw [Bool.and_eq_true, Bool.and_eq_true, decide_eq_true_iff, rd55 l j hj]
  refine ⟨hy.1, hy.2, ?_⟩
  by_cases h0 : j = 0
  · simp [h0]
  rw [rd55 l (j - 1) (by omega), Bool.or_eq_true]
  exact .inr (List.pairwise_iff_getElem.1 h3 (j - 1) j (by omega) hj (by omega))
theorem disk_fil {l : List S55} (p : S55 → Bool) (h : diskM l = true) : diskM (l.filter p) = true := by
  obtain ⟨h1, h2⟩ := disk_each h
  exact disk_of (Nat.le_trans (List.length_filter_le _ _) h1) (fun y hy => h2 y (List.mem_filter.1 hy).1) ((srt_pw.1 (disk_srt h)).filter _)
theorem remove_fil {l : List S55} (a : ByteArray) (h : diskM l = true) : (removeM l a).1 = l.filter (notN a) := by
  unfold removeM
  rw [if_pos h]
  rcases idxF_at (isN a) l 0 with ⟨e, hn⟩ | ⟨m, x, e, hx, hp, _⟩
  · rw [if_pos (by omega)]
    exact (filter_all (fun y hy => by unfold notN; rw [hn y hy]; rfl)).symm
  rw [if_neg (by omega), without_at (disk_srt h) a m x hx hp]
  show l.eraseIdx _ = _
  congr 1
  omega
def renM (l : List S55) (a b : ByteArray) : List S55 × Bool := if diskM l = true ∧ ¬ idxF (isN a) l 0 < 0 ∧ nameM b = true then (putM (l.filter (notN a)) ⟨b, (rd_T55 l (idxF (isN a) l 0)).f1, (rd_T55 l (idxF (isN a) l 0)).f2⟩, true) else (l, false)
theorem ren_le (l : List S55) (a b : ByteArray) (hw : wfD l) : (renM l a b).1.length ≤ l.length + 1 ∧ ∀ y ∈ (renM l a b).1, y.f1.length + y.f2.length ≤ 2097152 := by
  unfold renM
  have hl : ∀ y ∈ l, y.f1.length + y.f2.length ≤ 2097152 := fun y hy => by have := hw y hy; omega
  split
  · rename_i h
    obtain ⟨m, x, e, hx, hn, hm⟩ := idx_at l a h.2.1
    refine ⟨?_, fun y hy => ?_⟩
    · have h1 := List.length_filter_le (notN a) l
      have h2 := List.length_filter_le (notN b) ((l.filter (notN a)).dropWhile (lessN b))
      have h3 := congrArg List.length (List.takeWhile_append_dropWhile (p := lessN b) (l := l.filter (notN a)))
      simp only [putM, List.length_append, List.length_cons] at h3 ⊢
      omega
    rcases put_mem _ _ y hy with rfl | hy
    · show (rd_T55 l (idxF (isN a) l 0)).f1.length + (rd_T55 l (idxF (isN a) l 0)).f2.length ≤ 2097152
      rw [e, rd55 l m hm]
      exact hl _ (List.getElem_mem hm)
    exact hl y (List.mem_filter.1 hy).1
  exact ⟨Nat.le_succ _, hl⟩
theorem ba_ext {a b : ByteArray} (h : a.toList = b.toList) : a = b := by
  rw [ByteArray.toList_eq, ByteArray.toList_eq] at h
  cases a with
  | mk x => cases b with
    | mk y => simpa using h
theorem spec_ren (l : List S55) (a b : ByteArray) (hl : l.length ≤ 1048576) (hw : wfD l) (hb : b.size ≤ 9223372036854775807) : Ev (fun k => spec_RenameFile.f k l a b) (renM l a b) := by
  have hc := copyS l (by omega) (wfD_le hw)
  have bad : ∀ i : Int, ¬ (diskM l = true ∧ ¬ idxF (isN a) l 0 < 0 ∧ nameM b = true) → Ev (fun k => spec_RenameFile.j0 k a b i true l) (renM l a b) := fun i h => EvS (by
    unfold renM
    rw [if_neg h]
    simp only [spec_RenameFile.j0, if_true]
    exact (EvB hc).2 EvN)
  unfold spec_RenameFile.f
  refine (EvB (find_ev l a hl)).2 ?_
  refine (EvB (spec_disk l hl hw)).2 ?_
  by_cases h : diskM l = true
  · by_cases h2 : idxF (isN a) l 0 < 0
    · simp only [if_pos h, if_pos h2]
      exact bad _ (fun q => q.2.1 h2)
    simp only [if_pos h, if_neg h2]
    refine (EvB (spec_name b hb)).2 ?_
    by_cases h3 : nameM b = true
    · obtain ⟨m, x, e, hx, hn, hm⟩ := idx_at l a h2
      rw [h3]
      refine EvS ?_
      have hr := hw _ (List.getElem_mem hm)
      have hW := withoutS l a (by omega) (wfD_le hw)
      have hl1 : (l.filter (notN a)).length ≤ l.length := List.length_filter_le _ _
      have hP := putS (l.filter (notN a)) (⟨b, (rd_T55 l (idxF (isN a) l 0)).f1, (rd_T55 l (idxF (isN a) l 0)).f2⟩ : S55) (by omega) (fun y hy => wfD_le hw y (List.mem_filter.1 hy).1) (by
        show (rd_T55 l (idxF (isN a) l 0)).f1.length ≤ 100000000 ∧ (rd_T55 l (idxF (isN a) l 0)).f2.length ≤ 100000000
        rw [e, rd55 l m hm]
        omega)
      unfold renM
      simp only [spec_RenameFile.j0, Bool.not_true, Bool.false_eq_true, if_false, if_pos (show 0 ≤ idxF (isN a) l 0 by omega), if_pos (show idxF (isN a) l 0 < (l.length : Int) by omega), if_pos (show diskM l = true ∧ ¬ idxF (isN a) l 0 < 0 ∧ nameM b = true from ⟨h, h2, h3⟩)]
      refine (EvB hW).2 ?_
      exact (EvB hP).2 EvN
    rw [Bool.eq_false_iff.2 h3]
    exact bad _ (fun q => h3 q.2.2)
  simp only [if_neg h]
  exact bad _ (fun q => h q.1)
theorem impl_ren (l : List S55) (a b : ByteArray) (hl : l.length ≤ 1048576) (hw : wfD l) (hb : b.size ≤ 9223372036854775807) : Ev (fun k => impl_renameFile.f k l a b) (renM l a b) := by
  have hc := copyI l (by omega) (wfD_le hw)
  have hf : impl_fileOf.f l a = some (idxF (isN a) l 0) := by unfold impl_fileOf.f; rw [if_pos (by omega)]; rfl
  unfold impl_renameFile.f renM
  simp only [hf, Option.bind_some, EvB (impl_disk l hl hw)]
  by_cases h : diskM l = true
  · by_cases h2 : idxF (isN a) l 0 < 0
    · simp only [if_pos h, if_pos h2, if_neg (show ¬ (diskM l = true ∧ ¬ idxF (isN a) l 0 < 0 ∧ nameM b = true) from fun q => q.2.1 h2)]
      exact (EvB hc).2 EvN
    simp only [if_pos h, if_neg h2, impl_name b hb, Option.bind_some]
    by_cases h3 : nameM b = true
    · obtain ⟨m, x, e, hx, hn, hm⟩ := idx_at l a h2
      have hpw := srt_pw.1 (disk_srt h)
      simp only [if_pos h3, if_pos (show diskM l = true ∧ ¬ idxF (isN a) l 0 < 0 ∧ nameM b = true from ⟨h, h2, h3⟩)]
      by_cases h4 : a.toList = b.toList
      · have hab := ba_ext h4
        subst hab
        simp only [if_true]
        have hp := put_fil hpw (⟨a, (rd_T55 l (idxF (isN a) l 0)).f1, (rd_T55 l (idxF (isN a) l 0)).f2⟩ : S55)
        rw [put_at (disk_srt h) _ m x hx hn] at hp
        have hxm : l[m] = x := by rw [List.getElem?_eq_getElem hm] at hx; exact Option.some.inj hx
        have hf : (⟨a, (rd_T55 l (idxF (isN a) l 0)).f1, (rd_T55 l (idxF (isN a) l 0)).f2⟩ : S55) = x := by
          rw [e, rd55 l m hm, hxm]
          have : x.f0 = a := ba_ext hn
          cases x
          simp only at this ⊢
          rw [this]
        rw [hf] at hp
        have hxa : x.f0 = a := ba_ext hn
        rw [hxa] at hp
        rw [hf, hp, show l.set m x = l by rw [← hxm]; exact List.set_getElem_self hm]
        exact (EvB hc).2 EvN
      simp only [if_neg h4]
      have hd1 := disk_fil (notN a) h
      have hl1 : (l.filter (notN a)).length ≤ l.length := List.length_filter_le _ _
      have hw1 : wfD (l.filter (notN a)) := fun y hy => hw y (List.mem_filter.1 hy).1
      have hl2 : ((l.filter (notN a)).filter (notN b)).length ≤ (l.filter (notN a)).length := List.length_filter_le _ _
      refine (EvB (impl_remove l a hl hw)).2 ?_
      rw [remove_fil a h]
      refine (EvB (impl_remove (l.filter (notN a)) b (by omega) hw1)).2 ?_
      rw [remove_fil b hd1]
      refine (EvB hc).2 ?_
      simp only [if_pos (show idxF (isN a) l 0 < (l.length : Int) by omega), if_pos (show (((l.filter (notN a)).filter (notN b)).length + 1) * 64 ≤ 140737488355328 by omega)]
      rw [ins_put (srt_pw.1 (disk_srt hd1)) (⟨b, (rd_T55 l (idxF (isN a) l 0)).f1, (rd_T55 l (idxF (isN a) l 0)).f2⟩ : S55)]
      exact EvN
    simp only [if_neg h3, if_neg (show ¬ (diskM l = true ∧ ¬ idxF (isN a) l 0 < 0 ∧ nameM b = true) from fun q => h3 q.2.2)]
    exact (EvB hc).2 EvN
  simp only [if_neg h, if_neg (show ¬ (diskM l = true ∧ ¬ idxF (isN a) l 0 < 0 ∧ nameM b = true) from fun q => h q.1)]
  exact (EvB hc).2 EvN
def appF (l : List S55) (a : ByteArray) (d f1 f2 : List Int) : List S55 × Bool := if d.length + f1.length + f2.length ≤ 20000 then (putM l ⟨a, f1, f2 ++ d⟩, true) else (l, false)
def appM (l : List S55) (a : ByteArray) (d : List Int) : List S55 × Bool :=
  if diskM l = true ∧ nameM a = true then (if idxF (isN a) l 0 < 0 then (if l.length = 8 then (l, false) else appF l a d [] []) else appF l a d (rd_T55 l (idxF (isN a) l 0)).f1 (rd_T55 l (idxF (isN a) l 0)).f2) else (l, false)
theorem spec_fin (l : List S55) (a : ByteArray) (d f1 f2 : List Int) (hl : l.length ≤ 1048576) (hw : wfD l) (hd : d.length ≤ 1048576) (h1 : f1.length ≤ 1048576) (h2 : f2.length ≤ 1048576) : Ev (fun k => spec_AppendFile.fin k l a d f1 f2) (appF l a d f1 f2) := by
  have hc := copyS l (by omega) (wfD_le hw)
  have e : wrap64 (wrap64 (20000 - (f1.length : Int)) - (f2.length : Int)) = 20000 - (f1.length : Int) - (f2.length : Int) := by
    rw [w64 (x := 20000 - (f1.length : Int)) (by omega) (by omega), w64 (by omega) (by omega)]
  unfold spec_AppendFile.fin appF
  rw [e]
  by_cases h : d.length + f1.length + f2.length ≤ 20000
  · have hP := putS l (⟨a, f1, f2 ++ d⟩ : S55) (by omega) (wfD_le hw) ⟨by show f1.length ≤ _; omega, by show (f2 ++ d).length ≤ _; rw [List.length_append]; omega⟩
    simp only [if_pos h, if_neg (show ¬ (d.length : Int) > 20000 - (f1.length : Int) - (f2.length : Int) by omega)]
    refine (EvB (joinS f2 d (by omega) (by omega))).2 ?_
    exact (EvB hP).2 EvN
  simp only [if_neg h, if_pos (show (d.length : Int) > 20000 - (f1.length : Int) - (f2.length : Int) by omega)]
  exact (EvB hc).2 EvN
theorem spec_app (l : List S55) (a : ByteArray) (d : List Int) (hl : l.length ≤ 1048576) (hw : wfD l) (ha : a.size ≤ 9223372036854775807) (hd : d.length ≤ 1048576) : Ev (fun k => spec_AppendFile.f k l a d) (appM l a d) := by
  have hc := copyS l (by omega) (wfD_le hw)
  unfold spec_AppendFile.f appM
  refine (EvB (find_ev l a hl)).2 ?_
  refine (EvB (spec_disk l hl hw)).2 ?_
  by_cases h : diskM l = true
  · simp only [if_pos h]
    refine (EvB (spec_name a ha)).2 ?_
    by_cases h3 : nameM a = true
    · simp only [if_pos h3, if_pos (show diskM l = true ∧ nameM a = true from ⟨h, h3⟩)]
      by_cases h2 : idxF (isN a) l 0 < 0
      · simp only [if_neg (show ¬ 0 ≤ idxF (isN a) l 0 by omega), if_pos h2]
        by_cases h8 : l.length = 8
        · simp only [if_pos h8, if_pos (show (l.length : Int) = 8 by omega)]
          exact (EvB hc).2 EvN
        simp only [if_neg h8, if_neg (show ¬ (l.length : Int) = 8 by omega)]
        exact spec_fin l a d [] [] hl hw hd (by simp) (by simp)
      obtain ⟨m, x, e, hx, hn, hm⟩ := idx_at l a h2
      have hr := hw _ (List.getElem_mem hm)
      have hxm : l[m] = x := by rw [List.getElem?_eq_getElem hm] at hx; exact Option.some.inj hx
      have hna : (rd_T55 l (idxF (isN a) l 0)).f0 = a := by rw [e, rd55 l m hm, hxm]; exact ba_ext hn
      simp only [if_pos (show 0 ≤ idxF (isN a) l 0 by omega), if_pos (show idxF (isN a) l 0 < (l.length : Int) by omega), if_neg h2]
      rw [hna]
      exact spec_fin l a d _ _ hl hw hd (by rw [e, rd55 l m hm]; exact hr.2.1) (by rw [e, rd55 l m hm]; exact hr.2.2)
    simp only [if_neg h3, if_neg (show ¬ (diskM l = true ∧ nameM a = true) from fun q => h3 q.2)]
    exact (EvB hc).2 EvN
  simp only [if_neg h, if_neg (show ¬ (diskM l = true ∧ nameM a = true) from fun q => h q.1)]
  exact (EvB hc).2 EvN
end Go.Proofs.YtcgojdhbphocgaaDoor.DK

namespace Go.Proofs.YtcgojdhbphocgaaDoor.DK
set_option linter.unusedVariables false
set_option linter.unusedSimpArgs false
open Go.RowKit Go.Proofs.YtcgojdhbphocgaaDoor.F Go.Proofs.YtcgojdhbphocgaaDoor.PK Go.Proofs.YtcgojdhbphocgaaDoorW.PrintWords Go.Proofs.YtcgojdhbphocgaaDoorW.PrintLast Go.Proofs.YtcgojdhbphocgaaDoorW.PrintMore
open Go.Proofs.YtcgojdhbphocgaaDoor.BY (toByteS eqByteS)
def wfW (l : List S55) : Prop := ∀ y ∈ l, y.f0.size ≤ 9223372036854775807 ∧ y.f1.length ≤ 4194304 ∧ y.f2.length ≤ 4194304
theorem implGoW (l : List S55) (hl : l.length ≤ 1048576) (hw : wfW l) : ∀ d i : Nat, d + i = l.length → Ev (fun k => impl_isDisk.l0 k l (l.length : Int) i l) (goD l d i && decide (l.length ≤ 8)) := by
  intro d
  induction d with
  | zero =>
    intro i hi
    refine EvS ?_
    simp only [impl_isDisk.l0, if_neg (show ¬ (i : Int) < (l.length : Int) by omega), goD, Bool.true_and]
    rw [show decide ((l.length : Int) ≤ 8) = decide (l.length ≤ 8) from decide_eq_decide.2 (by omega)]
    exact EvN
  | succ d ih =>
    intro i hi
    have hil : i < l.length := by omega
    have hy := hw _ (List.getElem_mem hil)
    refine EvS ?_
    have hn := impl_name l[i].f0 hy.1
    have h := ih (i + 1) (by omega)
    rw [← rd55 l i hil] at hn hy
    unfold goD okAt
    simp only [impl_isDisk.l0, if_pos (show (i : Int) < (l.length : Int) by omega), if_pos (show 0 ≤ (i : Int) by omega), hn, Option.bind_some, nxt i _ hil (by omega)]
    generalize rd_T55 l (i : Int) = y at hy hn ⊢
    by_cases c1 : nameM y.f0 = true
    · have hw1 : wrap64 ((y.f1.length : Int) + (y.f2.length : Int)) = (y.f1.length : Int) + (y.f2.length : Int) := w64 (by omega) (by omega)
      by_cases c3 : (y.f1.length : Int) + (y.f2.length : Int) > 20000
      · simp only [if_pos c1, hw1, if_pos c3, decide_eq_false (show ¬ y.f1.length + y.f2.length ≤ 20000 by omega), Bool.false_and, Bool.and_false]; exact EvN
      simp only [if_pos c1, hw1, if_neg c3, c1, decide_eq_true (show y.f1.length + y.f2.length ≤ 20000 by omega), Bool.true_and]
      by_cases c4 : i = 0
      · simp only [if_neg (show ¬ (i : Int) > 0 by omega), decide_eq_true c4, Bool.true_or, Bool.true_and]; exact h
      have hw2 : wrap64 ((i : Int) - 1) = ((i - 1 : Nat) : Int) := by rw [w64 (by omega) (by omega)]; omega
      simp only [if_pos (show (i : Int) > 0 by omega), hw2, if_pos (show 0 ≤ ((i - 1 : Nat) : Int) by omega), if_pos (show ((i - 1 : Nat) : Int) < (l.length : Int) by omega), decide_eq_false c4, Bool.false_or]
      by_cases c5 : Op.bytesLess (rd_T55 l ((i - 1 : Nat) : Int)).f0.toList y.f0.toList = true
      · simp only [if_pos c5, c5, Bool.true_and]; exact h
      simp only [if_neg c5, Bool.eq_false_iff.2 c5, Bool.false_and]; exact EvN
    simp only [if_neg c1, Bool.eq_false_iff.2 c1, Bool.false_and]; exact EvN
theorem impl_diskW (l : List S55) (hl : l.length ≤ 1048576) (hw : wfW l) : Ev (fun k => impl_isDisk.f k l) (diskM l) := by
  unfold impl_isDisk.f diskM
  rw [Bool.and_comm]
  exact implGoW l hl hw l.length 0 rfl
end Go.Proofs.YtcgojdhbphocgaaDoor.DK

namespace Go.Proofs.YtcgojdhbphocgaaDoor.DK
set_option linter.unusedVariables false
set_option linter.unusedSimpArgs false
open Go.RowKit Go.Proofs.YtcgojdhbphocgaaDoor.F Go.Proofs.YtcgojdhbphocgaaDoor.PK Go.Proofs.YtcgojdhbphocgaaDoorW.PrintWords Go.Proofs.YtcgojdhbphocgaaDoorW.PrintLast Go.Proofs.YtcgojdhbphocgaaDoorW.PrintMore
theorem impl_fin (l p : List S55) (a : ByteArray) (d : List Int) (m : Nat) (hm : m < p.length) (hn : p[m].f0 = a) (hi : idxF (isN a) p 0 = (m : Int)) (hl : l.length ≤ 1048576) (hw : wfD l) (hpl : p.length ≤ 1048576) (hp : wfD p) (hd : d.length ≤ 1048576) :
    Ev (fun k => impl_appendFile.fin k l p a d) (if diskM (p.set m ⟨a, p[m].f1, p[m].f2 ++ d⟩) = true then (p.set m ⟨a, p[m].f1, p[m].f2 ++ d⟩, true) else (l, false)) := by
  have hc := copyI l (by omega) (wfD_le hw)
  have hf : impl_fileOf.f p a = some (idxF (isN a) p 0) := by unfold impl_fileOf.f; rw [if_pos (by omega)]; rfl
  have hr := hp _ (List.getElem_mem hm)
  have hD := impl_diskW (p.set m ⟨a, p[m].f1, p[m].f2 ++ d⟩) (by rw [List.length_set]; exact hpl) (fun y hy => by
    rcases mem_set hy with rfl | hy
    · refine ⟨by rw [← hn]; exact hr.1, ?_, ?_⟩
      · show p[m].f1.length ≤ _; omega
      show (p[m].f2 ++ d).length ≤ _; rw [List.length_append]; omega
    have := hp y hy
    exact ⟨this.1, by omega, by omega⟩)
  unfold impl_appendFile.fin
  simp only [hf, Option.bind_some, hi, rd55 p m hm, hn, Int.toNat_natCast, if_pos (show 0 ≤ (m : Int) by omega), if_pos (show (m : Int) < (p.length : Int) by omega), if_pos (show p[m].f2.length + d.length ≤ 140737488355328 by omega)]
  refine (EvB hD).2 ?_
  by_cases h : diskM (p.set m ⟨a, p[m].f1, p[m].f2 ++ d⟩) = true
  · simp only [if_pos h]; exact EvN
  simp only [if_neg h]; exact (EvB hc).2 EvN
theorem disk_set (l : List S55) (m : Nat) (hm : m < l.length) (h : diskM l = true) (f : S55) (hn : f.f0 = l[m].f0) : diskM (l.set m f) = decide (f.f1.length + f.f2.length ≤ 20000) := by
  obtain ⟨h1, h2⟩ := disk_each h
  by_cases hb : f.f1.length + f.f2.length ≤ 20000
  · rw [decide_eq_true hb]
    refine disk_of (by rw [List.length_set]; exact h1) (fun y hy => ?_) (List.pairwise_iff_getElem.2 fun i j hi hj hij => ?_)
    · rcases mem_set hy with rfl | hy
      · exact ⟨by rw [hn]; exact (h2 _ (List.getElem_mem hm)).1, hb⟩
      exact h2 y hy
    rw [List.length_set] at hi hj
    have hs := List.pairwise_iff_getElem.1 (srt_pw.1 (disk_srt h)) i j hi hj hij
    have e : ∀ q (hq : q < l.length), nm ((l.set m f)[q]'(by rw [List.length_set]; exact hq)) = nm l[q] := fun q hq => by
      rw [List.getElem_set]
      split
      · rename_i e; subst e; unfold nm; rw [hn]
      rfl
    show Op.bytesLess (nm _) (nm _) = true
    rw [e i hi, e j hj]
    exact hs
  rw [decide_eq_false hb]
  cases hd : diskM (l.set m f) with
  | false => rfl
  | true => exact absurd ((disk_each hd).2 f (List.mem_set hm f)).2 hb
theorem fin_there (l : List S55) (a : ByteArray) (d : List Int) (m : Nat) (hm : m < l.length) (hn : l[m].f0 = a) (hi : idxF (isN a) l 0 = (m : Int)) (h : diskM l = true) (hl : l.length ≤ 1048576) (hw : wfD l) (hd : d.length ≤ 1048576) :
    Ev (fun k => impl_appendFile.fin k l l a d) (appF l a d l[m].f1 l[m].f2) := by
  have hF := impl_fin l l a d m hm hn hi hl hw hl hw hd
  have hs := disk_set l m hm h (⟨a, l[m].f1, l[m].f2 ++ d⟩ : S55) hn.symm
  have hp := put_at (disk_srt h) (⟨a, l[m].f1, l[m].f2 ++ d⟩ : S55) m l[m] (List.getElem?_eq_getElem hm) (by unfold nm; rw [hn])
  rw [hs] at hF
  unfold appF
  rw [hp]
  by_cases hb : d.length + l[m].f1.length + l[m].f2.length ≤ 20000
  · rw [if_pos hb]
    rwa [if_pos (decide_eq_true (show l[m].f1.length + (l[m].f2 ++ d).length ≤ 20000 by rw [List.length_append]; omega))] at hF
  rw [if_neg hb]
  rwa [if_neg (by rw [decide_eq_true_iff]; show ¬ l[m].f1.length + (l[m].f2 ++ d).length ≤ 20000; rw [List.length_append]; omega)] at hF
theorem put_new {l : List S55} (f : S55) (h : ∀ x ∈ l, isN f.f0 x.f0 = false) : putM l f = l.takeWhile (lessN f.f0) ++ f :: l.dropWhile (lessN f.f0) := by
  unfold putM
  rw [filter_all (fun y hy => by unfold notN; rw [h y (dw_mem _ _ _ hy)]; rfl)]
theorem disk_new {l : List S55} (f : S55) (h : diskM l = true) (hn : nameM f.f0 = true) (hno : ∀ x ∈ l, isN f.f0 x.f0 = false) : diskM (l.takeWhile (lessN f.f0) ++ f :: l.dropWhile (lessN f.f0)) = decide (l.length < 8 ∧ f.f1.length + f.f2.length ≤ 20000) := by
  obtain ⟨h1, h2⟩ := disk_each h
  have hpw := srt_pw.1 (disk_srt h)
  have hlen : (l.takeWhile (lessN f.f0) ++ f :: l.dropWhile (lessN f.f0)).length = l.length + 1 := by
    have := congrArg List.length (List.takeWhile_append_dropWhile (p := lessN f.f0) (l := l))
    simp only [List.length_append, List.length_cons] at this ⊢
    omega
  by_cases hb : l.length < 8 ∧ f.f1.length + f.f2.length ≤ 20000
  · rw [decide_eq_true hb]
    refine disk_of (by omega) (fun y hy => ?_) ?_
    · rcases List.mem_append.1 hy with hy | hy
      · exact h2 y ((List.takeWhile_sublist _).subset hy)
      rcases List.mem_cons.1 hy with rfl | hy
      · exact ⟨hn, hb.2⟩
      exact h2 y (dw_mem _ _ _ hy)
    have hs := hpw
    rw [← List.takeWhile_append_dropWhile (p := lessN f.f0) (l := l), List.pairwise_append] at hs
    refine List.pairwise_append.2 ⟨hs.1, List.pairwise_cons.2 ⟨fun y hy => ?_, hs.2.1⟩, fun x hx y hy => ?_⟩
    · have a1 := dw_less hpw y hy
      cases hq : Op.bytesLess (nm f) (nm y) with
      | true => exact hq
      | false =>
        have := lt_total _ _ a1 hq
        have h3 := hno y (dw_mem _ _ _ hy)
        unfold isN at h3
        rw [beq_eq_false_iff_ne] at h3
        exact absurd this h3
    rcases List.mem_cons.1 hy with rfl | hy
    · exact tw_all l x hx
    exact hs.2.2 x hx y hy
  rw [decide_eq_false hb]
  cases hd : diskM (l.takeWhile (lessN f.f0) ++ f :: l.dropWhile (lessN f.f0)) with
  | false => rfl
  | true =>
    have := disk_each hd
    exact absurd ⟨by omega, (this.2 f (by simp)).2⟩ hb
theorem fin_new (l : List S55) (a : ByteArray) (d : List Int) (h : diskM l = true) (hn : nameM a = true) (hno : ∀ x ∈ l, isN a x.f0 = false) (hl : l.length ≤ 1048576) (hw : wfD l) (ha : a.size ≤ 9223372036854775807) (hd : d.length ≤ 1048576) :
    Ev (fun k => impl_appendFile.fin k l (insM l ⟨a, [], []⟩) a d) (if l.length = 8 then (l, false) else appF l a d [] []) := by
  have h8 := (disk_each h).1
  obtain ⟨T, hT⟩ : ∃ T, T = l.takeWhile (lessN a) := ⟨_, rfl⟩
  obtain ⟨D, hD⟩ : ∃ D, D = l.dropWhile (lessN a) := ⟨_, rfl⟩
  have hTD : T ++ D = l := by rw [hT, hD]; exact List.takeWhile_append_dropWhile
  have hlen : T.length + D.length = l.length := by rw [← hTD, List.length_append]
  have hins : insM l ⟨a, [], []⟩ = T ++ (⟨a, [], []⟩ : S55) :: D := by rw [ins_eq, hT, hD]
  have hdk := disk_new (⟨a, [], d⟩ : S55) h hn hno
  have hput := put_new (l := l) (⟨a, [], d⟩ : S55) hno
  simp only [← hT, ← hD] at hdk hput
  have hpl : (T ++ (⟨a, [], []⟩ : S55) :: D).length = l.length + 1 := by simp only [List.length_append, List.length_cons]; omega
  have hm : T.length < (T ++ (⟨a, [], []⟩ : S55) :: D).length := by omega
  have hget : (T ++ (⟨a, [], []⟩ : S55) :: D)[T.length] = ⟨a, [], []⟩ := by simp
  have hidx : idxF (isN a) (T ++ (⟨a, [], []⟩ : S55) :: D) 0 = (T.length : Int) := by
    rcases idxF_at (isN a) (T ++ (⟨a, [], []⟩ : S55) :: D) 0 with ⟨_, q⟩ | ⟨m, x, e, hx, hp, q⟩
    · have := q ⟨a, [], []⟩ (by simp)
      simp [isN] at this
    have hle : ¬ m < T.length := fun hlt => by
      rw [List.getElem?_append_left hlt] at hx
      have := hno x (by rw [← hTD]; exact List.mem_append_left _ (List.mem_of_getElem? hx))
      rw [this] at hp
      cases hp
    have hge : ¬ T.length < m := fun hlt => by
      have := q T.length ⟨a, [], []⟩ hlt (by rw [List.getElem?_eq_getElem hm, hget])
      simp [isN] at this
    omega
  have hF := impl_fin l (T ++ (⟨a, [], []⟩ : S55) :: D) a d T.length hm (by rw [hget]) hidx hl hw (by omega) (fun y hy => by
    rcases List.mem_append.1 hy with hy | hy
    · exact hw y (by rw [← hTD]; exact List.mem_append_left _ hy)
    rcases List.mem_cons.1 hy with rfl | hy
    · exact ⟨ha, by simp, by simp⟩
    exact hw y (by rw [← hTD]; exact List.mem_append_right _ hy)) hd
  rw [hget] at hF
  simp only [List.nil_append] at hF
  rw [show (T ++ (⟨a, [], []⟩ : S55) :: D).set T.length ⟨a, [], d⟩ = T ++ (⟨a, [], d⟩ : S55) :: D by simp, hdk] at hF
  rw [hins]
  unfold appF
  simp only [List.length_nil, List.nil_append, hput]
  by_cases e8 : l.length = 8
  · rw [if_pos e8]
    rwa [if_neg (by rw [decide_eq_true_iff]; omega)] at hF
  rw [if_neg e8]
  by_cases hb : d.length ≤ 20000
  · rw [if_pos (by omega)]
    rwa [if_pos (by rw [decide_eq_true_iff]; exact ⟨by omega, by simpa using hb⟩)] at hF
  rw [if_neg (by omega)]
  rwa [if_neg (by rw [decide_eq_true_iff]; intro q; exact hb (by simpa using q.2))] at hF
theorem impl_app (l : List S55) (a : ByteArray) (d : List Int) (hl : l.length ≤ 1048576) (hw : wfD l) (ha : a.size ≤ 9223372036854775807) (hd : d.length ≤ 1048576) : Ev (fun k => impl_appendFile.f k l a d) (appM l a d) := by
  have hc := copyI l (by omega) (wfD_le hw)
  have hf : impl_fileOf.f l a = some (idxF (isN a) l 0) := by unfold impl_fileOf.f; rw [if_pos (by omega)]; rfl
  unfold impl_appendFile.f appM
  refine (EvB hc).2 ?_
  refine (EvB (impl_disk l hl hw)).2 ?_
  by_cases h : diskM l = true
  · simp only [if_pos h, impl_name a ha, Option.bind_some]
    by_cases h3 : nameM a = true
    · simp only [if_pos h3, if_pos (show diskM l = true ∧ nameM a = true from ⟨h, h3⟩), hf, Option.bind_some]
      by_cases h2 : idxF (isN a) l 0 < 0
      · simp only [if_pos h2, if_pos (show (l.length + 1) * 64 ≤ 140737488355328 by omega)]
        refine fin_new l a d h h3 ?_ hl hw ha hd
        rcases idxF_at (isN a) l 0 with ⟨_, q⟩ | ⟨m, x, e, _, _, _⟩
        · exact q
        omega
      obtain ⟨m, x, e, hx, hn, hm⟩ := idx_at l a h2
      have hxm : l[m] = x := by rw [List.getElem?_eq_getElem hm] at hx; exact Option.some.inj hx
      simp only [if_neg h2]
      rw [e, rd55 l m hm]
      exact fin_there l a d m hm (by rw [hxm]; exact ba_ext hn) e h hl hw hd
    simp only [if_neg h3, if_neg (show ¬ (diskM l = true ∧ nameM a = true) from fun q => h3 q.2)]
    exact EvN
  simp only [if_neg h, if_neg (show ¬ (diskM l = true ∧ nameM a = true) from fun q => h q.1)]
  exact EvN
def syncM (l : List S55) (a : ByteArray) : List S55 × Bool := if (contentM l a).2 = true then (l.set (idxF (isN a) l 0).toNat ⟨a, (contentM l a).1, []⟩, true) else (l, false)
theorem spec_sync (l : List S55) (a : ByteArray) (hl : l.length ≤ 1048576) (hw : wfD l) : Ev (fun k => spec_SyncFile.f k l a) (syncM l a) := by
  have hc := copyS l (by omega) (wfD_le' hw)
  have hS := spec_content l a hl hw
  have hb := content_le l a hw
  unfold spec_SyncFile.f syncM
  simp only [EvB hS]
  by_cases h : (contentM l a).2 = true
  · obtain ⟨h1, h2, _⟩ := content_ok h
    obtain ⟨m, x, e, hx, hn, hm⟩ := idx_at l a h2
    have hP := putS l ⟨a, (contentM l a).1, []⟩ (by omega) (wfD_le' hw) ⟨by show (contentM l a).1.length ≤ 100000000; omega, by simp⟩
    rw [put_at (disk_srt h1) _ m x hx hn] at hP
    simp only [if_pos h]
    rw [e, Int.toNat_natCast]
    exact (EvB hP).2 EvN
  simp only [if_neg h]
  exact (EvB hc).2 EvN
theorem impl_sync (l : List S55) (a : ByteArray) (hl : l.length ≤ 1048576) (hw : wfD l) : Ev (fun k => impl_syncFile.f k l a) (syncM l a) := by
  have hc := copyI l (by omega) (wfD_le' hw)
  have hf : impl_fileOf.f l a = some (idxF (isN a) l 0) := by unfold impl_fileOf.f; rw [if_pos (by omega)]; rfl
  unfold impl_syncFile.f syncM
  simp only [EvB hc, hf, Option.bind_some, EvB (impl_disk l hl hw)]
  by_cases h : (contentM l a).2 = true
  · obtain ⟨h1, h2, h3⟩ := content_ok h
    obtain ⟨m, x, e, hx, hn, hm⟩ := idx_at l a h2
    have hil : idxF (isN a) l 0 < (l.length : Int) := by omega
    simp only [if_pos h1, if_neg h2, if_pos hil, content_at l hw _ (by omega) hil, Option.bind_some, if_pos h, h3]
    exact EvN
  simp only [if_neg h]
  by_cases h1 : diskM l = true
  · simp only [if_pos h1, if_pos (content_no h h1)]; exact EvN
  simp only [if_neg h1]; exact EvN
end Go.Proofs.YtcgojdhbphocgaaDoor.DK
