/- Merged texts below the law FnCrash: Go functions as Lean functions, their contracts, and plain lemmas. -/
import Derived.Test.YtmgeffgcihfpcaaDoorQFnCrash29
import Derived.Test.YtmgeffgcihfpcaaDoorQFnCrash28
import Derived.Test.YtmgeffgcihfpcaaDoorQFnCrash23
import Derived.Test.YtmgeffgcihfpcaaDoorQFnCrash25
import Derived.Deep.Slices
import Derived.ChangeSame
import Derived.WideShapes
namespace Go.Proofs.YtmgeffgcihfpcaaDoor.DK
set_option linter.unusedVariables false
set_option linter.unusedSimpArgs false
open Go.RowKit Go.Proofs.YtmgeffgcihfpcaaDoor.F Go.Proofs.YtmgeffgcihfpcaaDoor.PK Go.Proofs.YtmgeffgcihfpcaaDoorW.PrintWords Go.Proofs.YtmgeffgcihfpcaaDoorW.PrintLast Go.Proofs.YtmgeffgcihfpcaaDoorW.PrintMore
open Go.Proofs.YtmgeffgcihfpcaaDoor.TO
def atI (l : List Int) (i d : Int) : Int := if i < (l.length : Int) then rd l i else d
def crS (a b : List Int) (i : Nat) (y : S74) : S74 := ⟨y.f0, y.f1 ++ tornM y.f2 (atI a i 0) (atI b i (-1)), []⟩
def crashM (l : List S74) (a b : List Int) : List S74 := if diskM l = true then l.mapIdx (crS a b) else []
theorem torn_le (l : List Int) (a f : Int) : (tornM l a f).length ≤ l.length := by rw [tornM_length]; exact keepN_le l a
theorem disk_len {l : List S74} (h : diskM l = true) : l.length ≤ 8 ∧ ∀ y ∈ l, y.f1.length + y.f2.length ≤ 20000 := by
  unfold diskM at h
  rw [Bool.and_eq_true, decide_eq_true_iff] at h
  refine ⟨h.1, fun y hy => ?_⟩
  obtain ⟨j, hj, rfl⟩ := List.mem_iff_getElem.1 hy
  have hk := goD_at l _ _ h.2 j (by omega) (by omega)
  unfold okAt at hk
  rw [Bool.and_eq_true, Bool.and_eq_true, decide_eq_true_iff, rd74 l j hj] at hk
  exact hk.2.1
theorem spec_crash (l : List S74) (a b : List Int) (hl : l.length ≤ 1048576) (hw : wfD l) : Ev (fun k => spec_Crash.f k l a b) (crashM l a b) := by
  unfold spec_Crash.f crashM
  refine (EvB (spec_disk l hl hw)).2 ?_
  by_cases h : diskM l = true
  · simp only [if_pos h]
    have hd := (disk_len h).2
    have key := up (P := fun i => ∀ x : List S74, (x.length : Int) = i → x = (l.mapIdx (crS a b)).take i.toNat → Ev (fun k => spec_Crash.l0 k a b i l x) (l.mapIdx (crS a b))) l.length
      (fun x hx he => EvS (by
        rw [Int.toNat_natCast, List.take_of_length_le (by rw [List.length_mapIdx]; omega)] at he
        simp only [spec_Crash.l0, Int.lt_irrefl, if_false, he]; exact EvN))
      (fun i hi ih x hx he => EvS (by
        have hdi := hd _ (List.getElem_mem hi)
        have ht := spec_torn l[i].f2 (atI a i 0) (atI b i (-1)) (by omega)
        have htl := torn_le l[i].f2 (atI a i 0) (atI b i (-1))
        have hj := joinS l[i].f1 (tornM l[i].f2 (atI a i 0) (atI b i (-1))) (by omega) (by omega)
        have ha : ∀ (z : List Int) (d : Int), spec_l03At.f z (i : Int) d = some (atI z i d) := fun z d => by
          unfold spec_l03At.f atI
          rw [if_pos (show 0 ≤ (i : Int) by omega)]
          split <;> rfl
        have hT : Ev (fun k => spec_Torn.f k l[i].f2 (atI a i 0) (atI b i (-1))) (tornM l[i].f2 (atI a i 0) (atI b i (-1))) := by
          unfold spec_Torn.f
          simp only [if_neg (show ¬ (l[i].f2.length : Int) > 20000 by omega)]
          exact ht
        have hS : (x.length < 2199023255552) = True := eq_true (by omega)
        simp only [spec_Crash.l0, if_pos (show (i : Int) < (l.length : Int) by omega), if_pos (show 0 ≤ (i : Int) by omega), ha, Option.bind_some, rd74 l i hi, EvB hT, EvB hj, hS, if_true, nxt i _ hi (show l.length ≤ 9223372036854775807 by omega)]
        refine ih _ (by simp; omega) ?_
        rw [Int.toNat_natCast] at he
        rw [Int.toNat_natCast, he, List.take_add_one, List.getElem?_mapIdx, List.getElem?_eq_getElem hi]
        rfl))
    exact key 0 (Nat.zero_le _) [] rfl (by simp)
  simp only [if_neg h]; exact EvN
theorem impl_crash (l : List S74) (a b : List Int) (hl : l.length ≤ 1048576) (hw : wfD l) (hB : ∀ y ∈ l, ∀ z ∈ y.f2, (Lit.int .u8 z).wf = true) : Ev (fun k => impl_Crash.f k l a b) (crashM l a b) := by
  unfold impl_Crash.f crashM
  refine (EvB (impl_disk l hl hw)).2 ?_
  by_cases h : diskM l = true
  · simp only [if_pos h]
    refine (EvB (copyI l (by omega) (fun y hy => ⟨by have := hw y hy; omega, by have := hw y hy; omega⟩))).2 ?_
    have key := up (P := fun i => ∀ x : List S74, x.length = l.length → (∀ j : Nat, (j : Int) < i → x[j]? = (l.mapIdx (crS a b))[j]?) → (∀ j : Nat, i ≤ (j : Int) → x[j]? = l[j]?) → Ev (fun k => impl_Crash.l0 a b k x i) (l.mapIdx (crS a b))) l.length
      (fun x hx h1 h2 => by
        have : x = l.mapIdx (crS a b) := List.ext_getElem? fun j => by
          by_cases hj : j < l.length
          · exact h1 j (by omega)
          rw [List.getElem?_eq_none (by omega), List.getElem?_eq_none (by rw [List.length_mapIdx]; omega)]
        exact EvS (by simp only [impl_Crash.l0, hx, Int.lt_irrefl, if_false]; rw [this]; exact EvN))
      (fun i hi ih x hx h1 h2 => EvS (by
        have hxi : i < x.length := by omega
        have hx1 : x[i] = l[i] := by
          have := h2 i (by omega)
          rw [List.getElem?_eq_getElem hxi, List.getElem?_eq_getElem hi] at this
          exact Option.some.inj this
        have hwi := hw _ (List.getElem_mem hi)
        have ht := impl_torn l[i].f2 (atI a i 0) (atI b i (-1)) (by omega) (hB _ (List.getElem_mem hi))
        have htl := torn_le l[i].f2 (atI a i 0) (atI b i (-1))
        have ho : impl_Crash.one a b i l[i] = some (crS a b i l[i]) := by
          unfold impl_Crash.one
          have ht' : impl_torn.f l[i].f2 (if (i : Int) < (a.length : Int) then rd a i else 0) (if (i : Int) < (b.length : Int) then rd b i else -1) = some (tornM l[i].f2 (atI a i 0) (atI b i (-1))) := ht
          rw [ht', Option.bind_some, if_pos (by omega)]
          rfl
        simp only [impl_Crash.l0, if_pos (show (i : Int) < (x.length : Int) by omega), if_pos (show 0 ≤ (i : Int) by omega), rd74 x i hxi, hx1, ho, Option.bind_some, Int.toNat_natCast, nxt i _ hi (show l.length ≤ 9223372036854775807 by omega)]
        refine ih _ (by simpa using hx) (fun j hj => ?_) (fun j hj => ?_)
        · by_cases hji : j = i
          · subst hji
            rw [List.getElem?_set_self hxi, List.getElem?_mapIdx, List.getElem?_eq_getElem hi]
            rfl
          rw [List.getElem?_set_ne (by omega)]
          exact h1 j (by omega)
        rw [List.getElem?_set_ne (by omega)]
        exact h2 j (by omega)))
    exact key 0 (Nat.zero_le _) l rfl (fun j hj => absurd hj (by omega)) (fun j _ => rfl)
  simp only [if_neg h]; exact EvN
end Go.Proofs.YtmgeffgcihfpcaaDoor.DK

namespace Go.Proofs.YtmgeffgcihfpcaaDoor.F
open Go.RowKit Go.Proofs.YtmgeffgcihfpcaaDoorW.PrintWords Go.Proofs.YtmgeffgcihfpcaaDoorW.PrintWords.Kd Go.Proofs.YtmgeffgcihfpcaaDoorW.PrintMore.Kd Go.Proofs.YtmgeffgcihfpcaaDoorW.PrintLast Go.Proofs.YtmgeffgcihfpcaaDoorW.PrintMore
attribute [local go_sem] max2_int min2_int max_two min_two max_three min_three max_four min_four   -- for this text's walks alone
set_option linter.unusedVariables false
set_option linter.unusedSimpArgs false
end Go.Proofs.YtmgeffgcihfpcaaDoor.F

namespace Go.Proofs.YtmgeffgcihfpcaaDoor.MT
set_option linter.unusedVariables false
set_option linter.unusedSimpArgs false
open Go.RowKit Go.Proofs.YtmgeffgcihfpcaaDoor.F Go.Proofs.YtmgeffgcihfpcaaDoor.PK Go.Proofs.YtmgeffgcihfpcaaDoorW.PrintWords Go.Proofs.YtmgeffgcihfpcaaDoorW.PrintLast
end Go.Proofs.YtmgeffgcihfpcaaDoor.MT

namespace Go.Proofs.YtmgeffgcihfpcaaDoor.F
open Go.RowKit Go.Proofs.YtmgeffgcihfpcaaDoorW.PrintWords Go.Proofs.YtmgeffgcihfpcaaDoorW.PrintWords.Kd Go.Proofs.YtmgeffgcihfpcaaDoorW.PrintMore.Kd Go.Proofs.YtmgeffgcihfpcaaDoorW.PrintLast Go.Proofs.YtmgeffgcihfpcaaDoorW.PrintMore
attribute [local go_sem] max2_int min2_int max_two min_two max_three min_three max_four min_four   -- for this text's walks alone
set_option linter.unusedVariables false
set_option linter.unusedSimpArgs false
end Go.Proofs.YtmgeffgcihfpcaaDoor.F

namespace Go.Proofs.YtmgeffgcihfpcaaDoor.BY
set_option linter.unusedVariables false
set_option linter.unusedSimpArgs false
open Go.RowKit Go.Proofs.YtmgeffgcihfpcaaDoor.F Go.Proofs.YtmgeffgcihfpcaaDoor.PK Go.Proofs.YtmgeffgcihfpcaaDoorW.PrintWords Go.Proofs.YtmgeffgcihfpcaaDoorW.PrintLast
end Go.Proofs.YtmgeffgcihfpcaaDoor.BY

namespace Go.Proofs.YtmgeffgcihfpcaaDoor.F
open Go.RowKit Go.Proofs.YtmgeffgcihfpcaaDoorW.PrintWords Go.Proofs.YtmgeffgcihfpcaaDoorW.PrintLast Go.Proofs.YtmgeffgcihfpcaaDoorW.PrintMore
set_option linter.unusedVariables false
set_option linter.unusedSimpArgs false
end Go.Proofs.YtmgeffgcihfpcaaDoor.F

namespace Go.Proofs.YtmgeffgcihfpcaaDoor.F
open Go.RowKit Go.Proofs.YtmgeffgcihfpcaaDoorW.PrintWords Go.Proofs.YtmgeffgcihfpcaaDoorW.PrintLast Go.Proofs.YtmgeffgcihfpcaaDoorW.PrintMore
open Go.Proofs.YtmgeffgcihfpcaaDoor
set_option linter.unusedVariables false
set_option linter.unusedSimpArgs false
section
variable {w0 w : World} {l : List LW.It} {g n c : Nat} {xs : List S71} {F : Nat → Prop}
end
end Go.Proofs.YtmgeffgcihfpcaaDoor.F

namespace Go.Proofs.YtmgeffgcihfpcaaDoor.F
open Go.RowKit Go.Proofs.YtmgeffgcihfpcaaDoorW.PrintWords Go.Proofs.YtmgeffgcihfpcaaDoorW.PrintWords.Kd Go.Proofs.YtmgeffgcihfpcaaDoorW.PrintMore.Kd Go.Proofs.YtmgeffgcihfpcaaDoorW.PrintLast Go.Proofs.YtmgeffgcihfpcaaDoorW.PrintMore
attribute [local go_sem] max2_int min2_int max_two min_two max_three min_three max_four min_four   -- for this text's walks alone
set_option linter.unusedVariables false
set_option linter.unusedSimpArgs false
end Go.Proofs.YtmgeffgcihfpcaaDoor.F

namespace Go.Proofs.YtmgeffgcihfpcaaDoor.F
open Go.Proofs.YtmgeffgcihfpcaaDoor
open Go.RowKit Go.Proofs.YtmgeffgcihfpcaaDoorW.PrintWords Go.Proofs.YtmgeffgcihfpcaaDoorW.PrintWords.Kd Go.Proofs.YtmgeffgcihfpcaaDoorW.PrintMore.Kd Go.Proofs.YtmgeffgcihfpcaaDoorW.PrintLast Go.Proofs.YtmgeffgcihfpcaaDoorW.PrintMore
attribute [local go_sem] max2_int min2_int max_two min_two max_three min_three max_four min_four   -- for this text's walks alone
set_option linter.unusedVariables false
set_option linter.unusedSimpArgs false
end Go.Proofs.YtmgeffgcihfpcaaDoor.F

namespace Go.Proofs.YtmgeffgcihfpcaaDoor.F
open Go.RowKit Go.Proofs.YtmgeffgcihfpcaaDoorW.PrintWords Go.Proofs.YtmgeffgcihfpcaaDoorW.PrintWords.Kd Go.Proofs.YtmgeffgcihfpcaaDoorW.PrintMore.Kd Go.Proofs.YtmgeffgcihfpcaaDoorW.PrintLast Go.Proofs.YtmgeffgcihfpcaaDoorW.PrintMore
attribute [local go_sem] max2_int min2_int max_two min_two max_three min_three max_four min_four   -- for this text's walks alone
set_option linter.unusedVariables false
set_option linter.unusedSimpArgs false
end Go.Proofs.YtmgeffgcihfpcaaDoor.F

namespace Go.Proofs.YtmgeffgcihfpcaaDoor.DK
set_option linter.unusedVariables false
set_option linter.unusedSimpArgs false
open Go.RowKit Go.Proofs.YtmgeffgcihfpcaaDoor.F Go.Proofs.YtmgeffgcihfpcaaDoor.PK Go.Proofs.YtmgeffgcihfpcaaDoorW.PrintWords Go.Proofs.YtmgeffgcihfpcaaDoorW.PrintLast Go.Proofs.YtmgeffgcihfpcaaDoorW.PrintMore


theorem rd71 (l : List S71) (i : Nat) (h : i < l.length) : rd_T71 l (i : Int) = l[i] := getD_nat l _ i h
theorem fin_new (l : List S74) (a : ByteArray) (d : List Int) (h : diskM l = true) (hn : nameM a = true) (hno : ∀ x ∈ l, isN a x.f0 = false) (hl : l.length ≤ 1048576) (hw : wfD l) (ha : a.size ≤ 9223372036854775807) (hd : d.length ≤ 1048576) :
    Ev (fun k => impl_appendFile.fin k l (insM l ⟨a, [], []⟩) a d) (if l.length = 8 then (l, false) else appF l a d [] []) := by
  have h8 := (disk_each h).1
  obtain ⟨T, hT⟩ : ∃ T, T = l.takeWhile (lessN a) := ⟨_, rfl⟩
  obtain ⟨D, hD⟩ : ∃ D, D = l.dropWhile (lessN a) := ⟨_, rfl⟩
  have hTD : T ++ D = l := by rw [hT, hD]; exact List.takeWhile_append_dropWhile
  have hlen : T.length + D.length = l.length := by rw [← hTD, List.length_append]
  have hins : insM l ⟨a, [], []⟩ = T ++ (⟨a, [], []⟩ : S74) :: D := by rw [ins_eq, hT, hD]
  have hdk := disk_new (⟨a, [], d⟩ : S74) h hn hno
  have hput := put_new (l := l) (⟨a, [], d⟩ : S74) hno
  simp only [← hT, ← hD] at hdk hput
  have hpl : (T ++ (⟨a, [], []⟩ : S74) :: D).length = l.length + 1 := by simp only [List.length_append, List.length_cons]; omega
  have hm : T.length < (T ++ (⟨a, [], []⟩ : S74) :: D).length := by omega
  have hget : (T ++ (⟨a, [], []⟩ : S74) :: D)[T.length] = ⟨a, [], []⟩ := by simp
  have hidx : idxF (isN a) (T ++ (⟨a, [], []⟩ : S74) :: D) 0 = (T.length : Int) := by
    rcases idxF_at (isN a) (T ++ (⟨a, [], []⟩ : S74) :: D) 0 with ⟨_, q⟩ | ⟨m, x, e, hx, hp, q⟩
    · have := q ⟨a, [], []⟩ (by simp)
      simp [isN] at this
    have hle : ¬ m < T.length := fun hlt => by
      rw [List.getElem?_append_left hlt] at hx
      have := hno x (by rw [← hTD]; exact List.mem_append_left _ (List.mem_of_getElem? hx))
      rw [this] at hp
      cases hp
    have hge : ¬ T.length < m := fun hlt => by
      have := q T.length ⟨a, [], []⟩ hlt (by rw [List.getElem?_eq_getElem hm, hget])
      simp [isN] at this
    omega
  have hF := impl_fin l (T ++ (⟨a, [], []⟩ : S74) :: D) a d T.length hm (by rw [hget]) hidx hl hw (by omega) (fun y hy => by
    rcases List.mem_append.1 hy with hy | hy
    · exact hw y (by rw [← hTD]; exact List.mem_append_left _ hy)
    rcases List.mem_cons.1 hy with rfl | hy
    · exact ⟨ha, by simp, by simp⟩
    exact hw y (by rw [← hTD]; exact List.mem_append_right _ hy)) hd
  rw [hget] at hF
  simp only [List.nil_append] at hF
  rw [show (T ++ (⟨a, [], []⟩ : S74) :: D).set T.length ⟨a, [], d⟩ = T ++ (⟨a, [], d⟩ : S74) :: D by simp, hdk] at hF
  rw [hins]
  unfold appF
  simp only [List.length_nil, List.nil_append, hput]
  by_cases e8 : l.length = 8
  · rw [if_pos e8]
    rwa [if_neg (by rw [decide_eq_true_iff]; omega)] at hF
  rw [if_neg e8]
  by_cases hb : d.length ≤ 20000
  · rw [if_pos (by omega)]
    rwa [if_pos (by rw [decide_eq_true_iff]; exact ⟨by omega, by simpa using hb⟩)] at hF
  rw [if_neg (by omega)]
  rwa [if_neg (by rw [decide_eq_true_iff]; intro q; exact hb (by simpa using q.2))] at hF
theorem impl_app (l : List S74) (a : ByteArray) (d : List Int) (hl : l.length ≤ 1048576) (hw : wfD l) (ha : a.size ≤ 9223372036854775807) (hd : d.length ≤ 1048576) : Ev (fun k => impl_appendFile.f k l a d) (appM l a d) := by
  have hc := copyI l (by omega) (wfD_le hw)
  have hf : impl_fileOf.f l a = some (idxF (isN a) l 0) := by unfold impl_fileOf.f; rw [if_pos (by omega)]; rfl
  unfold impl_appendFile.f appM
  refine (EvB hc).2 ?_
  refine (EvB (impl_disk l hl hw)).2 ?_
  by_cases h : diskM l = true
  · simp only [if_pos h, impl_name a ha, Option.bind_some]
    by_cases h3 : nameM a = true
    · simp only [if_pos h3, if_pos (show diskM l = true ∧ nameM a = true from ⟨h, h3⟩), hf, Option.bind_some]
      by_cases h2 : idxF (isN a) l 0 < 0
      · simp only [if_pos h2, if_pos (show (l.length + 1) * 64 ≤ 140737488355328 by omega)]
        refine fin_new l a d h h3 ?_ hl hw ha hd
        rcases idxF_at (isN a) l 0 with ⟨_, q⟩ | ⟨m, x, e, _, _, _⟩
        · exact q
        omega
      obtain ⟨m, x, e, hx, hn, hm⟩ := idx_at l a h2
      have hxm : l[m] = x := by rw [List.getElem?_eq_getElem hm] at hx; exact Option.some.inj hx
      simp only [if_neg h2]
      rw [e, rd74 l m hm]
      exact fin_there l a d m hm (by rw [hxm]; exact ba_ext hn) e h hl hw hd
    simp only [if_neg h3, if_neg (show ¬ (diskM l = true ∧ nameM a = true) from fun q => h3 q.2)]
    exact EvN
  simp only [if_neg h, if_neg (show ¬ (diskM l = true ∧ nameM a = true) from fun q => h q.1)]
  exact EvN
theorem disk_wf {l : List S74} (h : diskM l = true) : wfD l := fun y hy => by
  obtain ⟨h1, h2⟩ := (disk_each h).2 y hy
  unfold nameM at h1
  rw [Bool.and_eq_true, decide_eq_true_iff] at h1
  omega
theorem idx_no {l : List S74} {a : ByteArray} (h : idxF (isN a) l 0 < 0) : ∀ x ∈ l, isN a x.f0 = false := by
  rcases idxF_at (isN a) l 0 with ⟨_, q⟩ | ⟨m, x, e, _, _, _⟩
  · exact q
  omega
theorem put_disk {l : List S74} (f : S74) (h : diskM l = true) (hn : nameM f.f0 = true) (hb : f.f1.length + f.f2.length ≤ 20000) (hl : idxF (isN f.f0) l 0 < 0 → l.length < 8) : diskM (putM l f) = true := by
  by_cases h2 : idxF (isN f.f0) l 0 < 0
  · rw [put_new f (idx_no h2), disk_new f h hn (idx_no h2), decide_eq_true_iff]
    exact ⟨hl h2, hb⟩
  obtain ⟨m, x, e, hx, hnm, hm⟩ := idx_at l f.f0 h2
  have hxm : l[m] = x := by rw [List.getElem?_eq_getElem hm] at hx; exact Option.some.inj hx
  rw [put_at (disk_srt h) f m x hx hnm, disk_set l m hm h f (by rw [hxm]; exact (ba_ext hnm).symm), decide_eq_true_iff]
  exact hb
theorem app_disk {l : List S74} (a : ByteArray) (d : List Int) (h : diskM l = true) : diskM (appM l a d).1 = true := by
  have h8 := (disk_each h).1
  unfold appM
  by_cases hc : diskM l = true ∧ nameM a = true
  · rw [if_pos hc]
    by_cases h2 : idxF (isN a) l 0 < 0
    · rw [if_pos h2]
      by_cases h3 : l.length = 8
      · rw [if_pos h3]; exact h
      rw [if_neg h3]
      unfold appF
      split
      · rename_i hb
        exact put_disk (⟨a, [], [] ++ d⟩ : S74) h hc.2 (by simp only [List.length_nil, List.nil_append] at hb ⊢; omega) (fun _ => by omega)
      exact h
    rw [if_neg h2]
    unfold appF
    split
    · rename_i hb
      exact put_disk _ h hc.2 (by simp only [List.length_append]; omega) (fun q => absurd q h2)
    exact h
  rw [if_neg hc]; exact h
theorem content_disk {l : List S74} {a : ByteArray} (h : diskM l = true) (hi : ¬ idxF (isN a) l 0 < 0) : ∃ (m : Nat) (hm : m < l.length), idxF (isN a) l 0 = m ∧ l[m].f0 = a ∧ contentM l a = (l[m].f1 ++ l[m].f2, true) ∧ l[m].f1.length + l[m].f2.length ≤ 20000 := by
  obtain ⟨m, x, e, hx, hn, hm⟩ := idx_at l a hi
  have hxm : l[m] = x := by rw [List.getElem?_eq_getElem hm] at hx; exact Option.some.inj hx
  refine ⟨m, hm, e, by rw [hxm]; exact ba_ext hn, ?_, ((disk_each h).2 _ (List.getElem_mem hm)).2⟩
  unfold contentM
  rw [if_pos h, if_neg hi, e, rd74 l m hm]
theorem content_none {l : List S74} {a : ByteArray} (hi : idxF (isN a) l 0 < 0) : (contentM l a).2 = false := by
  unfold contentM
  split
  · rfl
  rfl
theorem sync_disk {l : List S74} (a : ByteArray) (h : diskM l = true) : diskM (syncM l a).1 = true := by
  unfold syncM
  by_cases hi : idxF (isN a) l 0 < 0
  · rw [content_none hi, if_neg (by decide)]; exact h
  obtain ⟨m, hm, e, hn, hc, hb⟩ := content_disk h hi
  rw [hc, if_pos rfl, e, Int.toNat_natCast, disk_set l m hm h _ (by exact hn.symm), decide_eq_true_iff]
  simp only [List.length_append, List.length_nil]
  omega
theorem cut_disk {l : List S74} (a : ByteArray) (n : Int) (h : diskM l = true) : diskM (cutM l a n).1 = true := by
  unfold cutM
  by_cases hi : idxF (isN a) l 0 < 0
  · rw [content_none hi, if_neg (by decide)]; exact h
  obtain ⟨m, hm, e, hn, hc, hb⟩ := content_disk h hi
  rw [hc, if_pos rfl]
  split
  · rw [e, Int.toNat_natCast, disk_set l m hm h _ (by exact hn.symm), decide_eq_true_iff]
    simp only [List.length_take, List.length_append, List.length_nil]
    omega
  exact h
theorem remove_disk {l : List S74} (a : ByteArray) (h : diskM l = true) : diskM (removeM l a).1 = true := by
  rw [remove_fil a h]
  exact disk_fil (notN a) h
theorem fil_lt {l : List S74} {a : ByteArray} (hi : ¬ idxF (isN a) l 0 < 0) : (l.filter (notN a)).length < l.length := by
  obtain ⟨m, x, e, hx, hp, hm⟩ := idx_in l a hi
  have hxm : l[m] = x := by rw [List.getElem?_eq_getElem hm] at hx; exact Option.some.inj hx
  rw [List.length_filter_lt_length_iff_exists]
  exact ⟨x, by rw [← hxm]; exact List.getElem_mem hm, by unfold notN; rw [hp]; decide⟩
theorem ren_disk {l : List S74} (a b : ByteArray) (h : diskM l = true) : diskM (renM l a b).1 = true := by
  unfold renM
  by_cases hc : diskM l = true ∧ ¬ idxF (isN a) l 0 < 0 ∧ nameM b = true
  · rw [if_pos hc]
    obtain ⟨m, hm, e, hn, _, hb⟩ := content_disk h hc.2.1
    have h8 := (disk_each h).1
    have hf := fil_lt hc.2.1
    refine put_disk _ (disk_fil (notN a) h) hc.2.2 ?_ (fun _ => by omega)
    rw [e, rd74 l m hm]
    exact hb
  rw [if_neg hc]; exact h
def stepM (d : List S74) (o : S71) : List S74 × Bool := if o.f0 = 0 then appM d o.f1 o.f3 else if o.f0 = 1 then syncM d o.f1 else if o.f0 = 2 then cutM d o.f1 o.f4 else if o.f0 = 3 then renM d o.f1 o.f2 else if o.f0 = 4 then removeM d o.f1 else (d, false)
def playL : List S71 → List S74 → List Bool → List S74 × List Bool
  | [], d, t => (d, t)
  | o :: r, d, t => playL r (stepM d o).1 (t ++ [(stepM d o).2])
def playM (l : List S74) (x : List S71) : List S74 × List Bool := if diskM l = true then (if (x.length : Int) > 200 then ([], []) else playL x l []) else ([], [])
def wfP (x : List S71) : Prop := ∀ y ∈ x, y.f1.size ≤ 9223372036854775807 ∧ y.f2.size ≤ 9223372036854775807 ∧ y.f3.length ≤ 1048576
theorem step_disk {d : List S74} (o : S71) (h : diskM d = true) : diskM (stepM d o).1 = true := by
  unfold stepM
  split
  · exact app_disk _ _ h
  split
  · exact sync_disk _ h
  split
  · exact cut_disk _ _ h
  split
  · exact ren_disk _ _ h
  split
  · exact remove_disk _ h
  exact h
theorem play_disk : ∀ (x : List S71) (d : List S74) (t : List Bool), diskM d = true → diskM (playL x d t).1 = true ∧ (playL x d t).2.length = t.length + x.length
  | [], d, t, h => ⟨h, by simp [playL]⟩
  | o :: r, d, t, h => by
    obtain ⟨h1, h2⟩ := play_disk r (stepM d o).1 (t ++ [(stepM d o).2]) (step_disk o h)
    refine ⟨h1, ?_⟩
    simp only [playL, List.length_cons]
    rw [h2, List.length_append]
    simp only [List.length_cons, List.length_nil]
    omega
theorem impl_step (d : List S74) (x : List S71) (i : Nat) (hi : i < x.length) (h : diskM d = true) (hx : wfP x) : Ev (fun k => impl_PlayDisk.step k d x i) (stepM d x[i]) := by
  have hw := disk_wf h
  have h8 := (disk_each h).1
  have ho := hx _ (List.getElem_mem hi)
  unfold impl_PlayDisk.step stepM
  simp only [rd71 x i hi]
  by_cases g0 : x[i].f0 = 0
  · simp only [if_pos g0]; exact impl_app d _ _ (by omega) hw ho.1 ho.2.2
  by_cases g1 : x[i].f0 = 1
  · simp only [if_neg g0, if_pos g1]; exact impl_sync d _ (by omega) hw
  by_cases g2 : x[i].f0 = 2
  · simp only [if_neg g0, if_neg g1, if_pos g2]; exact impl_cut d _ _ (by omega) hw
  by_cases g3 : x[i].f0 = 3
  · simp only [if_neg g0, if_neg g1, if_neg g2, if_pos g3]; exact impl_ren d _ _ (by omega) hw ho.2.1
  by_cases g4 : x[i].f0 = 4
  · simp only [if_neg g0, if_neg g1, if_neg g2, if_neg g3, if_pos g4]; exact impl_remove d _ (by omega) hw
  simp only [if_neg g0, if_neg g1, if_neg g2, if_neg g3, if_neg g4]; exact EvN
theorem spec_step (d : List S74) (x : List S71) (i : Nat) (hi : i < x.length) (h : diskM d = true) (hx : wfP x) : Ev (fun k => spec_PlayDisk.step k d x i) (stepM d x[i]) := by
  have hw := disk_wf h
  have h8 := (disk_each h).1
  have ho := hx _ (List.getElem_mem hi)
  unfold spec_PlayDisk.step stepM
  simp only [rd71 x i hi]
  by_cases g0 : x[i].f0 = 0
  · simp only [if_pos g0]; exact spec_app d _ _ (by omega) hw ho.1 ho.2.2
  by_cases g1 : x[i].f0 = 1
  · simp only [if_neg g0, if_pos g1]; exact spec_sync d _ (by omega) hw
  by_cases g2 : x[i].f0 = 2
  · simp only [if_neg g0, if_neg g1, if_pos g2]; exact spec_cut d _ _ (by omega) hw
  by_cases g3 : x[i].f0 = 3
  · simp only [if_neg g0, if_neg g1, if_neg g2, if_pos g3]; exact spec_ren d _ _ (by omega) hw ho.2.1
  by_cases g4 : x[i].f0 = 4
  · simp only [if_neg g0, if_neg g1, if_neg g2, if_neg g3, if_pos g4]; exact spec_remove d _ (by omega) hw
  simp only [if_neg g0, if_neg g1, if_neg g2, if_neg g3, if_neg g4]; exact EvN
theorem impl_playL (x : List S71) (hx : wfP x) (hl : x.length ≤ 1000000) (d : List S74) (h : diskM d = true) : Ev (fun k => impl_PlayDisk.l0 k x d [] 0) (playL x d []) := by
  have key := up (P := fun i => ∀ (d : List S74) (t : List Bool), diskM d = true → (t.length : Int) = i → Ev (fun k => impl_PlayDisk.l0 k x d t i) (playL (x.drop i.toNat) d t)) x.length
    (fun d t hd ht => EvS (by simp only [impl_PlayDisk.l0, Int.lt_irrefl, if_false, Int.toNat_natCast, List.drop_length, playL]; exact EvN))
    (fun i hi ih d t hd ht => EvS (by
      have hs := impl_step d x i hi hd hx
      have hS : (t.length < 140737488355328) = True := eq_true (by omega)
      rw [Int.toNat_natCast, drop_at x i hi]
      simp only [impl_PlayDisk.l0, if_pos (show (i : Int) < (x.length : Int) by omega), if_pos (show 0 ≤ (i : Int) by omega), EvB hs, hS, if_true, playL, nxt i _ hi (show x.length ≤ 9223372036854775807 by omega)]
      have := ih (stepM d x[i]).1 (t ++ [(stepM d x[i]).2]) (step_disk _ hd) (by simp only [List.length_append, List.length_cons, List.length_nil]; omega)
      rw [Int.toNat_natCast] at this
      exact this))
  exact key 0 (Nat.zero_le _) d [] h rfl
theorem spec_playL (x : List S71) (hx : wfP x) (hl : x.length ≤ 1000000) (d : List S74) (h : diskM d = true) : Ev (fun k => spec_PlayDisk.l0 k x d [] 0) (playL x d []) := by
  have key := up (P := fun i => ∀ (d : List S74) (t : List Bool), diskM d = true → (t.length : Int) = i → Ev (fun k => spec_PlayDisk.l0 k x d t i) (playL (x.drop i.toNat) d t)) x.length
    (fun d t hd ht => EvS (by simp only [spec_PlayDisk.l0, Int.lt_irrefl, if_false, Int.toNat_natCast, List.drop_length, playL]; exact EvN))
    (fun i hi ih d t hd ht => EvS (by
      have hs := spec_step d x i hi hd hx
      have hS : (t.length < 140737488355328) = True := eq_true (by omega)
      rw [Int.toNat_natCast, drop_at x i hi]
      simp only [spec_PlayDisk.l0, if_pos (show (i : Int) < (x.length : Int) by omega), if_pos (show 0 ≤ (i : Int) by omega), EvB hs, hS, if_true, playL, nxt i _ hi (show x.length ≤ 9223372036854775807 by omega)]
      have := ih (stepM d x[i]).1 (t ++ [(stepM d x[i]).2]) (step_disk _ hd) (by simp only [List.length_append, List.length_cons, List.length_nil]; omega)
      rw [Int.toNat_natCast] at this
      exact this))
  exact key 0 (Nat.zero_le _) d [] h rfl
theorem impl_play (l : List S74) (x : List S71) (hl : l.length ≤ 1048576) (hw : wfD l) (hx : wfP x) : Ev (fun k => impl_PlayDisk.f k l x) (playM l x) := by
  unfold impl_PlayDisk.f playM
  refine (EvB (impl_disk l hl hw)).2 ?_
  by_cases h : diskM l = true
  · simp only [if_pos h]
    by_cases h2 : (x.length : Int) > 200
    · simp only [if_pos h2]; exact EvN
    simp only [if_neg h2]
    refine (EvB (copyI l (by omega) (wfD_le hw))).2 ?_
    exact impl_playL x hx (by omega) l h
  simp only [if_neg h]; exact EvN
theorem spec_play (l : List S74) (x : List S71) (hl : l.length ≤ 1048576) (hw : wfD l) (hx : wfP x) : Ev (fun k => spec_PlayDisk.f k l x) (playM l x) := by
  unfold spec_PlayDisk.f playM
  refine (EvB (spec_disk l hl hw)).2 ?_
  by_cases h : diskM l = true
  · simp only [if_pos h]
    by_cases h2 : (x.length : Int) > 200
    · simp only [if_pos h2]; exact EvN
    simp only [if_neg h2]
    refine (EvB (copyS l (by omega) (wfD_le hw))).2 ?_
    exact spec_playL x hx (by omega) l h
  simp only [if_neg h]; exact EvN
end Go.Proofs.YtmgeffgcihfpcaaDoor.DK

namespace Go.Proofs.YtmgeffgcihfpcaaDoor.CD
set_option linter.unusedVariables false
set_option linter.unusedSimpArgs false
open Go.RowKit Go.Proofs.YtmgeffgcihfpcaaDoor.F Go.Proofs.YtmgeffgcihfpcaaDoor.PK Go.Proofs.YtmgeffgcihfpcaaDoorW.PrintWords Go.Proofs.YtmgeffgcihfpcaaDoorW.PrintLast Go.Proofs.YtmgeffgcihfpcaaDoorW.PrintMore
open Go.Proofs.YtmgeffgcihfpcaaDoor.DK Go.Proofs.YtmgeffgcihfpcaaDoor.GT Go.Proofs.YtmgeffgcihfpcaaDoor.TO
theorem crash_disk {l : List S74} (A B : List Int) (h : diskM l = true) : diskM (l.mapIdx (crS A B)) = true := by
  have hd := disk_each h
  refine disk_of (by rw [List.length_mapIdx]; exact hd.1) (fun y hy => ?_) (srt_pw.1 fun i j hij x y hx hy => ?_)
  · obtain ⟨j, hj, rfl⟩ := List.mem_mapIdx.1 hy
    have h1 := hd.2 _ (List.getElem_mem hj)
    refine ⟨h1.1, ?_⟩
    have h2 := torn_le l[j].f2 (atI A j 0) (atI B j (-1))
    show (l[j].f1 ++ _).length + 0 ≤ _
    rw [List.length_append]
    omega
  rw [List.getElem?_mapIdx] at hx hy
  obtain ⟨x', hx', rfl⟩ := Option.map_eq_some_iff.1 hx
  obtain ⟨y', hy', rfl⟩ := Option.map_eq_some_iff.1 hy
  exact disk_srt h i j hij x' y' hx' hy'
theorem crash_get {l : List S74} {a : ByteArray} {y : S74} (A B : List Int) (h : diskM l = true) (q : getM l a = some y) : ∃ i : Nat, getM (l.mapIdx (crS A B)) a = some (crS A B i y) := by
  obtain ⟨h1, h2⟩ := get_some q
  obtain ⟨j, hj, rfl⟩ := List.mem_iff_getElem.1 h1
  exact ⟨j, get_in (crash_disk A B h) (List.mem_mapIdx.2 ⟨j, hj, rfl⟩) h2⟩
def bts (l : List Int) : Prop := ∀ z ∈ l, 0 ≤ z ∧ z < 256
def okB (l : List S74) : Prop := ∀ y ∈ l, bts y.f1 ∧ bts y.f2
theorem bts_nil : bts [] := fun z hz => by cases hz
theorem bts_app {a b : List Int} (ha : bts a) (hb : bts b) : bts (a ++ b) := fun x hx => (List.mem_append.1 hx).elim (ha x) (hb x)
theorem bts_take {a : List Int} (n : Nat) (ha : bts a) : bts (a.take n) := fun x hx => ha x (List.mem_of_mem_take hx)
theorem put_byt {l : List S74} {f : S74} (hB : okB l) (h : bts f.f1 ∧ bts f.f2) : okB (putM l f) := fun y hy => ((mem_put f y).1 hy).elim (fun q => q ▸ h) (fun q => hB y q.1)
theorem set_byt {l : List S74} {i : Nat} {f : S74} (hB : okB l) (h : bts f.f1 ∧ bts f.f2) : okB (l.set i f) := fun y hy => (List.mem_or_eq_of_mem_set hy).elim (hB y) (fun e => e ▸ h)
theorem fil_byt {l : List S74} {p : S74 → Bool} (hB : okB l) : okB (l.filter p) := fun y hy => hB y (List.mem_filter.1 hy).1
theorem rd_byt {l : List S74} (hB : okB l) (a : ByteArray) (hi : ¬ idxF (isN a) l 0 < 0) : bts (rd_T74 l (idxF (isN a) l 0)).f1 ∧ bts (rd_T74 l (idxF (isN a) l 0)).f2 := by
  obtain ⟨m, x, e, hx, hn, hm⟩ := idx_at l a hi
  rw [e, rd74 l m hm]
  exact hB _ (List.getElem_mem hm)
theorem con_byt {l : List S74} (hB : okB l) (a : ByteArray) : bts (contentM l a).1 := by
  unfold contentM
  split
  · split
    · exact bts_nil
    rename_i h2
    exact bts_app (rd_byt hB a h2).1 (rd_byt hB a h2).2
  exact bts_nil
theorem app_byt {l : List S74} (hB : okB l) (a : ByteArray) {d : List Int} (ho : bts d) : okB (appM l a d).1 := by
  unfold appM
  split
  · split
    · split
      · exact hB
      unfold appF
      split
      · exact put_byt hB ⟨bts_nil, bts_app bts_nil ho⟩
      exact hB
    rename_i h2
    unfold appF
    split
    · exact put_byt hB ⟨(rd_byt hB a h2).1, bts_app (rd_byt hB a h2).2 ho⟩
    exact hB
  exact hB
theorem sync_byt {l : List S74} (hB : okB l) (a : ByteArray) : okB (syncM l a).1 := by
  unfold syncM
  split
  · exact set_byt hB ⟨con_byt hB a, bts_nil⟩
  exact hB
theorem cut_byt {l : List S74} (hB : okB l) (a : ByteArray) (n : Int) : okB (cutM l a n).1 := by
  unfold cutM
  split
  · split
    · exact set_byt hB ⟨bts_take _ (con_byt hB a), bts_nil⟩
    exact hB
  exact hB
theorem ren_byt {l : List S74} (hB : okB l) (a b : ByteArray) : okB (renM l a b).1 := by
  unfold renM
  split
  · rename_i h
    exact put_byt (fil_byt hB) (rd_byt hB a h.2.1)
  exact hB
theorem remove_byt {l : List S74} (hB : okB l) (h : diskM l = true) (a : ByteArray) : okB (removeM l a).1 := by
  rw [remove_fil a h]
  exact fil_byt hB
theorem step_byt {d : List S74} (o : S71) (h : diskM d = true) (hB : okB d) (ho : bts o.f3) : okB (stepM d o).1 := by
  unfold stepM
  split
  · exact app_byt hB _ ho
  split
  · exact sync_byt hB _
  split
  · exact cut_byt hB _ _
  split
  · exact ren_byt hB _ _
  split
  · exact remove_byt hB h _
  exact hB
theorem play_byt : ∀ (x : List S71) (d : List S74) (t : List Bool), diskM d = true → okB d → (∀ o ∈ x, bts o.f3) → okB (playL x d t).1
  | [], d, t, _, hB, _ => hB
  | o :: r, d, t, h, hB, ho => play_byt r (stepM d o).1 (t ++ [(stepM d o).2]) (step_disk o h) (step_byt o h hB (ho o List.mem_cons_self)) (fun q hq => ho q (List.mem_cons_of_mem _ hq))
theorem byt_wf {l : List S74} (hB : okB l) : ∀ y ∈ l, ∀ z ∈ y.f2, (Lit.int .u8 z).wf = true := fun y hy z hz => by
  have := (hB y hy).2 z hz
  simp only [Lit.wf, Bool.and_eq_true, decide_eq_true_eq]
  have h1 : IntKind.u8.min = 0 := by decide
  have h2 : IntKind.u8.max = 255 := by decide
  omega
end Go.Proofs.YtmgeffgcihfpcaaDoor.CD

namespace Go.Proofs.YtmgeffgcihfpcaaDoor.DR
set_option linter.unusedVariables false
set_option linter.unusedSimpArgs false
open Go.RowKit Go.Proofs.YtmgeffgcihfpcaaDoor.F Go.Proofs.YtmgeffgcihfpcaaDoor.PK Go.Proofs.YtmgeffgcihfpcaaDoorW.PrintWords Go.Proofs.YtmgeffgcihfpcaaDoorW.PrintLast
theorem and255 (x : Int) : 0 ≤ Go.bits .and .i64 x 255 ∧ Go.bits .and .i64 x 255 ≤ 255 := by
  have h : ((BitVec.ofInt IntKind.i64.bits x) &&& (BitVec.ofInt IntKind.i64.bits 255)).toNat ≤ 255 := by
    rw [BitVec.toNat_and]
    exact Nat.le_trans Nat.and_le_right (by decide)
  have e : Go.bits .and .i64 x 255 = (((BitVec.ofInt IntKind.i64.bits x) &&& (BitVec.ofInt IntKind.i64.bits 255)).toNat : Int) := by
    show IntKind.i64.wrap (((BitVec.ofInt IntKind.i64.bits x) &&& (BitVec.ofInt IntKind.i64.bits 255)).toNat : Int) = _
    rw [IntKind.wrap_i64]
    omega
  omega
def At (b : List Int) (i : Int) : Prop := 0 ≤ i ∧ i ≤ (b.length : Int)
theorem dByte (b : List Int) (i h : Int) (hi : At b i) (hb : b.length ≤ 1048576) : ∃ x i' h', spec_l01Byte.f b i h = some (x, i', h') ∧ 0 ≤ x ∧ x ≤ 255 ∧ At b i' := by
  unfold At at *
  unfold spec_l01Byte.f
  by_cases c : i < (b.length : Int)
  · simp only [if_pos c, if_pos hi.1]
    exact ⟨_, _, _, rfl, (and255 _).1, (and255 _).2, by rw [w64 (by omega) (by omega)]; omega⟩
  simp only [if_neg c]
  exact ⟨_, _, _, rfl, (and255 _).1, (and255 _).2, hi⟩
theorem tmod_bd (x n : Int) (hx : 0 ≤ x) (hn : 0 < n) : 0 ≤ Int.tmod x n ∧ Int.tmod x n < n := ⟨Int.tmod_nonneg _ hx, Int.tmod_lt_of_pos _ hn⟩
theorem dBelow (b : List Int) (i h n : Int) (hi : At b i) (hb : b.length ≤ 1048576) : ∃ x i' h', spec_l01Below.f b i h n = some (x, i', h') ∧ 0 ≤ x ∧ (0 < n → x < n) ∧ (n ≤ 0 → x = 0) ∧ At b i' := by
  unfold spec_l01Below.f
  by_cases c : n ≤ 0
  · simp only [if_pos c]
    exact ⟨_, _, _, rfl, by omega, by omega, fun _ => rfl, hi⟩
  simp only [if_neg c]
  by_cases c2 : n ≤ 256
  · obtain ⟨x, i', h', e, h0, h1, h2⟩ := dByte b i h hi hb
    simp only [if_pos c2, e, Option.bind_some, if_neg (show ¬ n = 0 by omega)]
    have := tmod_bd x n h0 (by omega)
    exact ⟨_, _, _, rfl, this.1, fun _ => this.2, by omega, h2⟩
  obtain ⟨x, i1, h1, e1, a0, a1, a2⟩ := dByte b i h hi hb
  obtain ⟨y, i2, h2, e2, b0, b1, b2⟩ := dByte b i1 h1 a2 hb
  obtain ⟨z, i3, h3, e3, c0, c1, c2'⟩ := dByte b i2 h2 b2 hb
  simp only [if_neg c2, e1, e2, e3, Option.bind_some, if_neg (show ¬ n = 0 by omega)]
  have hw : wrap64 (wrap64 (wrap64 (x * 65536) + wrap64 (y * 256)) + z) = x * 65536 + y * 256 + z := by
    rw [w64 (x := x * 65536) (by omega) (by omega), w64 (x := y * 256) (by omega) (by omega), w64 (x := x * 65536 + y * 256) (by omega) (by omega), w64 (by omega) (by omega)]
  rw [hw]
  have := tmod_bd (x * 65536 + y * 256 + z) n (by omega) (by omega)
  exact ⟨_, _, _, rfl, this.1, fun _ => this.2, by omega, c2'⟩
theorem dSize (l : List Int) (m : Int) (hl : l.length ≤ 1048576) (hm : 2 ≤ m) : ∃ t, spec_l01Size.f l m = some t ∧ 2 ≤ t ∧ t ≤ m := by
  unfold spec_l01Size.f
  rw [w64 (x := (l.length : Int) / 16) (by omega) (by omega), w64 (by omega) (by omega)]
  split
  · exact ⟨_, rfl, hm, by omega⟩
  exact ⟨_, rfl, by omega, by omega⟩
theorem dNew (l : List Int) (hl : l.length ≤ 1048576) : ∃ h, Ev (fun k => spec_l01New.f k l) (l, 0, h) := by
  have key := up (P := fun i => ∀ x, ∃ h, Ev (fun k => spec_l01New.l0 k l x i) (l, 0, h)) l.length
    (fun x => ⟨x, EvS (by simp only [spec_l01New.l0, Int.lt_irrefl, if_false]; exact EvN)⟩)
    (fun i hi ih x => by
      by_cases c : (i : Int) < 4000
      · obtain ⟨h, e⟩ := ih (Go.bits .and .i64 (wrap64 ((wrap64 ((wrap64 (x * 149)) + (wrap64 (rd l i)))) + 11)) 1073741823)
        refine ⟨h, EvS ?_⟩
        simp only [spec_l01New.l0, if_pos (show (i : Int) < (l.length : Int) by omega), if_pos c, if_pos (show 0 ≤ (i : Int) by omega), show wrap64 ((i : Int) + 1) = ((i + 1 : Nat) : Int) by rw [w64 (by omega) (by omega)]; omega]
        exact e
      exact ⟨x, EvS (by simp only [spec_l01New.l0, if_pos (show (i : Int) < (l.length : Int) by omega), if_neg c]; exact EvN)⟩)
  unfold spec_l01New.f
  exact key 0 (Nat.zero_le _) _
theorem dPick (b : List Int) (i h : Int) (l : List Int) (hi : At b i) (hb : b.length ≤ 1048576) (hl : 0 < l.length) : ∃ x i' h', spec_l01PickInt.f b i h l = some (x, i', h') ∧ x ∈ l ∧ At b i' := by
  obtain ⟨x, i', h', e, h0, h1, _, h2⟩ := dBelow b i h (l.length : Int) hi hb
  unfold spec_l01PickInt.f
  have hx := h1 (by omega)
  simp only [e, Option.bind_some, if_pos h0, if_pos hx]
  refine ⟨_, _, _, rfl, ?_, h2⟩
  have hn : x.toNat < l.length := by omega
  have : rd l x = l[x.toNat] := by
    have := getD_nat l 0 x.toNat hn
    rw [Int.toNat_of_nonneg h0] at this
    exact this
  rw [this]
  exact List.getElem_mem hn
theorem dBytes (b : List Int) (n : Int) (hb : b.length ≤ 1048576) (hn : n ≤ 1000000) (h0 : 0 ≤ n) : ∀ (i h : Int), At b i → ∃ (x : List Int) (i' h' : Int), Ev (fun k => spec_l01DrawBytes.f k b i h n) (x, i', h') ∧ (x.length : Int) = n ∧ (∀ y ∈ x, 0 ≤ y ∧ y ≤ 255) ∧ At b i' := by
  have key : ∀ (d j : Nat) (x : List Int) (i h : Int), (d : Int) + j = n → (x.length : Int) = j → (∀ y ∈ x, 0 ≤ y ∧ y ≤ 255) → At b i → ∃ (x' : List Int) (i' h' : Int), Ev (fun k => spec_l01DrawBytes.l0 k n x j b i h) (x', i', h') ∧ (x'.length : Int) = n ∧ (∀ y ∈ x', 0 ≤ y ∧ y ≤ 255) ∧ At b i' := by
    intro d
    induction d with
    | zero =>
      intro j x i h hj hx hy hi
      exact ⟨x, i, h, EvS (by simp only [spec_l01DrawBytes.l0, if_neg (show ¬ (j : Int) < n by omega)]; exact EvN), by omega, hy, hi⟩
    | succ d ih =>
      intro j x i h hj hx hy hi
      obtain ⟨a, i1, h1, e1, _, _, _, g1⟩ := dBelow b i h 256 hi hb
      obtain ⟨c, i2, h2, e2, _, _, _, g2⟩ := dBelow b i1 h1 256 g1 hb
      obtain ⟨y, i3, h3, e3, _, g3⟩ := dPick b i2 h2 [0, 1, 255, 128, a, c] g2 hb (by simp)
      have hS : (x.length < 140737488355328) = True := eq_true (by omega)
      obtain ⟨x', i', h', r1, r2, r3, r4⟩ := ih (j + 1) (x ++ [y % 256]) i3 h3 (by omega) (by simp; omega) (fun z hz => by
        rcases List.mem_append.1 hz with hz | hz
        · exact hy z hz
        rw [List.mem_singleton.1 hz]
        omega) g3
      refine ⟨x', i', h', EvS ?_, r2, r3, r4⟩
      simp only [spec_l01DrawBytes.l0, if_pos (show (j : Int) < n by omega), e1, e2, e3, Option.bind_some, hS, if_true, show wrap64 ((j : Int) + 1) = ((j + 1 : Nat) : Int) by rw [w64 (by omega) (by omega)]; omega]
      exact r1
  intro i h hi
  obtain ⟨x', i', h', r1, r2, r3, r4⟩ := key n.toNat 0 [] i h (by omega) rfl (fun y hy => by cases hy) hi
  exact ⟨x', i', h', by unfold spec_l01DrawBytes.f; exact r1, r2, r3, r4⟩
end Go.Proofs.YtmgeffgcihfpcaaDoor.DR

namespace Go.Proofs.YtmgeffgcihfpcaaDoor.OD
set_option linter.unusedVariables false
set_option linter.unusedSimpArgs false
open Go.RowKit Go.Proofs.YtmgeffgcihfpcaaDoor.F Go.Proofs.YtmgeffgcihfpcaaDoor.PK Go.Proofs.YtmgeffgcihfpcaaDoorW.PrintWords Go.Proofs.YtmgeffgcihfpcaaDoorW.PrintLast Go.Proofs.YtmgeffgcihfpcaaDoorW.PrintMore
open Go.Proofs.YtmgeffgcihfpcaaDoor.DK Go.Proofs.YtmgeffgcihfpcaaDoor.DR
theorem dOnce (b : List Int) (i h n : Int) (hi : At b i) (hb : b.length ≤ 1048576) : ∃ x i' h', spec_l01Once.f b i h n = some (x, i', h') ∧ At b i' := by
  obtain ⟨x, i', h', e, _, _, _, g⟩ := dBelow b i h n hi hb
  exact ⟨_, i', h', by unfold spec_l01Once.f; rw [e]; rfl, g⟩
theorem dText (b : List Int) (i h : Int) (l : List ByteArray) (hi : At b i) (hb : b.length ≤ 1048576) (hl : 0 < l.length) : ∃ x i' h', spec_l01PickText.f b i h l = some (x, i', h') ∧ x ∈ l ∧ At b i' := by
  obtain ⟨x, i', h', e, h0, h1, _, h2⟩ := dBelow b i h (l.length : Int) hi hb
  unfold spec_l01PickText.f
  have hx := h1 (by omega)
  simp only [e, Option.bind_some, if_pos h0, if_pos hx]
  refine ⟨_, _, _, rfl, ?_, h2⟩
  have hn : x.toNat < l.length := by omega
  have : rdOf ByteArray.empty l x = l[x.toNat] := by
    have := getD_nat l ByteArray.empty x.toNat hn
    rw [Int.toNat_of_nonneg h0] at this
    exact this
  rw [this]
  exact List.getElem_mem hn
theorem dName (b : List Int) (i h : Int) (hi : At b i) (hb : b.length ≤ 1048576) : ∃ x i' h', spec_l03DrawName.f b i h = some (x, i', h') ∧ x.size ≤ 13 ∧ At b i' := by
  unfold spec_l03DrawName.f
  obtain ⟨o, i1, h1, e1, g1⟩ := dOnce b i h 30 hi hb
  simp only [e1, Option.bind_some]
  cases o with
  | true =>
    simp only [if_true]
    obtain ⟨x, i2, h2, e2, hx, g2⟩ := dText b i1 h1 [(⟨#[]⟩ : ByteArray), (⟨#[65]⟩ : ByteArray), (⟨#[97, 98, 99, 100, 101, 102, 103, 104, 105, 106, 107, 108]⟩ : ByteArray), (⟨#[97, 98, 99, 100, 101, 102, 103, 104, 105, 106, 107, 108, 109]⟩ : ByteArray), (⟨#[97, 32, 98]⟩ : ByteArray)] g1 hb (by decide)
    refine ⟨x, i2, h2, by rw [e2]; rfl, ?_, g2⟩
    simp only [List.mem_cons, List.not_mem_nil, or_false] at hx
    rcases hx with rfl | rfl | rfl | rfl | rfl <;> decide
  | false =>
    simp only [Bool.false_eq_true, if_false]
    obtain ⟨x, i2, h2, e2, hx, g2⟩ := dText b i1 h1 [(⟨#[97]⟩ : ByteArray), (⟨#[98]⟩ : ByteArray), (⟨#[108, 111, 103]⟩ : ByteArray), (⟨#[109, 97, 110]⟩ : ByteArray), (⟨#[122, 57]⟩ : ByteArray)] g1 hb (by decide)
    refine ⟨x, i2, h2, by rw [e2]; rfl, ?_, g2⟩
    simp only [List.mem_cons, List.not_mem_nil, or_false] at hx
    rcases hx with rfl | rfl | rfl | rfl | rfl <;> decide
def okO (o : S71) : Prop := o.f1.size ≤ 13 ∧ o.f2.size ≤ 13 ∧ o.f3.length ≤ 4 ∧ ∀ z ∈ o.f3, 0 ≤ z ∧ z < 256
theorem dOpsL (c : List Int) (hc : c.length ≤ 1048576) : ∀ (n : Nat) (i h : Int) (x : List S71), At c i → (∀ y ∈ x, okO y) → x.length + n ≤ 50 →
    ∃ x' i' h', Ev (fun k => spec_l03DrawOps.l0 k x (n : Int) c i h) (x', i', h') ∧ (∀ y ∈ x', okO y) ∧ x'.length ≤ x.length + n ∧ At c i' := by
  intro n
  induction n with
  | zero =>
    intro i h x hi hx hn
    refine ⟨x, i, h, EvS ?_, hx, by omega, hi⟩
    simp only [spec_l03DrawOps.l0, if_neg (show ¬ ((0 : Nat) : Int) > 0 by omega)]
    exact EvN
  | succ n ih =>
    intro i h x hi hx hn
    obtain ⟨a, i1, h1, e1, _, _, _, g1⟩ := dBelow c i h 7 hi hc
    obtain ⟨b, i2, h2, e2, _, g2⟩ := dPick c i1 h1 [0, 0, 0, 1, 1, 2, 3, 4, wrap64 (a - 1)] g1 hc (by simp)
    obtain ⟨s, i3, h3, e3, s3, g3⟩ := dName c i2 h2 g2 hc
    obtain ⟨t, i4, h4, e4, t4, g4⟩ := dName c i3 h3 g3 hc
    obtain ⟨m, i5, h5, e5, m0, m1, _, g5⟩ := dBelow c i4 h4 5 g4 hc
    have m1 := m1 (by omega)
    obtain ⟨q, i6, h6, e6, q1, q2, g6⟩ := dBytes c m hc (by omega) m0 i5 h5 g5
    obtain ⟨z, i7, h7, e7, _, _, _, g7⟩ := dBelow c i6 h6 8 g6 hc
    have hw : wrap64 (((n + 1 : Nat) : Int) - 1) = (n : Int) := by rw [w64 (by omega) (by omega)]; omega
    obtain ⟨x', i', h', r1, r2, r3, r4⟩ := ih i7 h7 (x ++ [(⟨b, s, t, q, wrap64 (z - 1)⟩ : S71)]) g7 (fun y hy => (List.mem_append.1 hy).elim (hx y) (fun w => by rw [List.mem_singleton.1 w]; exact ⟨s3, t4, by show q.length ≤ 4; omega, fun z hz => by have := q2 z hz; omega⟩)) (by rw [List.length_append, List.length_singleton]; omega)
    rw [List.length_append, List.length_singleton] at r3
    refine ⟨x', i', h', EvS ?_, r2, by omega, r4⟩
    simp only [spec_l03DrawOps.l0, if_pos (show ((n + 1 : Nat) : Int) > 0 by omega), e1, e2, e3, e4, e5, Option.bind_some, EvB e6, e7, eq_true (show x.length < 1954687338268 by omega), if_true, hw]
    exact r1
theorem dOps (c : List Int) (hc : c.length ≤ 1048576) (i h : Int) (hi : At c i) : ∃ x i' h', Ev (fun k => spec_l03DrawOps.f k c i h c) (x, i', h') ∧ (∀ y ∈ x, okO y) ∧ x.length ≤ 15 ∧ At c i' := by
  unfold spec_l03DrawOps.f
  obtain ⟨t, e1, t1, t2⟩ := dSize c 14 hc (by decide)
  have hw : wrap64 (2 + t) = 2 + t := w64 (by omega) (by omega)
  obtain ⟨n, i1, h1, e2, n0, n1, _, g1⟩ := dBelow c i h (2 + t) hi hc
  have n1 := n1 (by omega)
  obtain ⟨m, rfl⟩ := Int.eq_ofNat_of_zero_le n0
  obtain ⟨x, i', h', r1, r2, r3, r4⟩ := dOpsL c hc m i1 h1 [] g1 (fun y hy => by cases hy) (by simp only [List.length_nil]; omega)
  refine ⟨x, i', h', ?_, r2, by simp only [List.length_nil] at r3; omega, r4⟩
  simp only [e1, Option.bind_some, hw, e2]
  exact r1
theorem ok_wf {x : List S71} (h : ∀ y ∈ x, okO y) : wfP x := fun y hy => by
  obtain ⟨a, b, c, _⟩ := h y hy
  exact ⟨by omega, by omega, by omega⟩
theorem dCrashL (c : List Int) (hc : c.length ≤ 1048576) : ∀ (n : Nat) (i h : Int) (x y : List Int), At c i → x.length + n ≤ 50 → y.length + n ≤ 50 →
    ∃ x' y' i' h', Ev (fun k => spec_l03DrawCrash.l0 k x y (n : Int) c i h) (x', y', i', h') := by
  intro n
  induction n with
  | zero =>
    intro i h x y hi hn hm
    refine ⟨x, y, i, h, EvS ?_⟩
    simp only [spec_l03DrawCrash.l0, if_neg (show ¬ ((0 : Nat) : Int) > 0 by omega)]
    exact EvN
  | succ n ih =>
    intro i h x y hi hn hm
    obtain ⟨a, i1, h1, e1, _, _, _, g1⟩ := dBelow c i h 9 hi hc
    obtain ⟨b, i2, h2, e2, _, _, _, g2⟩ := dBelow c i1 h1 7 g1 hc
    have hw : wrap64 (((n + 1 : Nat) : Int) - 1) = (n : Int) := by rw [w64 (by omega) (by omega)]; omega
    obtain ⟨x', y', i', h', r1⟩ := ih i2 h2 (x ++ [wrap64 (a - 1)]) (y ++ [wrap64 (b - 2)]) g2 (by rw [List.length_append, List.length_singleton]; omega) (by rw [List.length_append, List.length_singleton]; omega)
    refine ⟨x', y', i', h', EvS ?_⟩
    simp only [spec_l03DrawCrash.l0, if_pos (show ((n + 1 : Nat) : Int) > 0 by omega), e1, e2, Option.bind_some, eq_true (show x.length < 17592186044416 by omega), eq_true (show y.length < 17592186044416 by omega), if_true, hw]
    exact r1
theorem dDisk (c : List Int) (hc : c.length ≤ 1048576) : ∃ d x kp fl, Ev (fun k => spec_DrawRightDisk.f k c) (d, x, kp, fl) ∧ diskM d = true ∧ (∀ y ∈ x, okO y) ∧ x.length ≤ 15 ∧ ∃ x0, d = (playL x0 [] []).1 ∧ ∀ y ∈ x0, okO y := by
  obtain ⟨h, e0⟩ := dNew c hc
  obtain ⟨x0, i1, h1, e1, a1, a2, g1⟩ := dOps c hc 0 h ⟨by omega, by omega⟩
  obtain ⟨x, i2, h2, e2, b1, b2, g2⟩ := dOps c hc i1 h1 g1
  obtain ⟨n, i3, h3, e3, n0, n1, _, g3⟩ := dBelow c i2 h2 6 g2 hc
  have n1 := n1 (by omega)
  obtain ⟨m, rfl⟩ := Int.eq_ofNat_of_zero_le n0
  obtain ⟨kp, fl, i4, h4, e4⟩ := dCrashL c hc m i3 h3 [] [] g3 (by simp only [List.length_nil]; omega) (by simp only [List.length_nil]; omega)
  have hn : diskM [] = true := by decide +kernel
  have eP := spec_play [] x0 (by decide) (fun y hy => by cases hy) (ok_wf a1)
  have hP : playM [] x0 = playL x0 [] [] := by unfold playM; rw [if_pos hn, if_neg (by omega)]
  have hD := (play_disk x0 [] [] hn).1
  rw [hP] at eP
  refine ⟨(playL x0 [] []).1, x, kp, fl, ?_, hD, b1, b2, x0, rfl, a1⟩
  unfold spec_DrawRightDisk.f spec_l03DrawRight.f spec_l03DrawCrash.f
  refine (EvB e0).2 ?_
  have e1' : Ev (fun k => (spec_l03DrawOps.f k c 0 h c).bind fun bt757 => (spec_PlayDisk.f k [] bt757.1).bind fun bt762 => some (bt762.1, bt757.2.1, bt757.2.2)) ((playL x0 [] []).1, i1, h1) := by
    refine (EvB e1).2 ?_
    exact (EvB eP).2 EvN
  refine (EvB e1').2 ?_
  refine (EvB e2).2 ?_
  simp only [e3, Option.bind_some]
  exact (EvB e4).2 EvN
end Go.Proofs.YtmgeffgcihfpcaaDoor.OD

namespace Go.Proofs.YtmgeffgcihfpcaaDoor.DK
set_option linter.unusedVariables false
set_option linter.unusedSimpArgs false
open Go.RowKit Go.Proofs.YtmgeffgcihfpcaaDoor.F Go.Proofs.YtmgeffgcihfpcaaDoor.PK Go.Proofs.YtmgeffgcihfpcaaDoorW.PrintWords Go.Proofs.YtmgeffgcihfpcaaDoorW.PrintLast Go.Proofs.YtmgeffgcihfpcaaDoorW.PrintMore
theorem impl_sync' (l : List S74) (a : ByteArray) (hl : l.length ≤ 1048576) (hw : wfD l) : Ev (fun k => impl_SyncFile.f k l a) (syncM l a) := by
  unfold impl_SyncFile.f
  simp only [EvB (impl_sync l a hl hw)]
  exact EvN
end Go.Proofs.YtmgeffgcihfpcaaDoor.DK

namespace Go.Proofs.YtmgeffgcihfpcaaDoor.Pure
set_option linter.unusedVariables false
set_option linter.unusedSimpArgs false
open Go.RowKit Go.Proofs.YtmgeffgcihfpcaaDoor.F Go.Proofs.YtmgeffgcihfpcaaDoor.PK Go.Proofs.YtmgeffgcihfpcaaDoorW.PrintWords Go.Proofs.YtmgeffgcihfpcaaDoorW.PrintLast Go.Proofs.YtmgeffgcihfpcaaDoorW.PrintMore
open Go.Proofs.YtmgeffgcihfpcaaDoor.DK Go.Proofs.YtmgeffgcihfpcaaDoor.GT Go.Proofs.YtmgeffgcihfpcaaDoor.BY Go.Proofs.YtmgeffgcihfpcaaDoor.OD Go.Proofs.YtmgeffgcihfpcaaDoor.CD Go.Proofs.YtmgeffgcihfpcaaDoor.TO
theorem disk_bd {l : List S74} (h : diskM l = true) : l.length ≤ 1048576 ∧ wfD l := by
  have h8 := (disk_each h).1
  refine ⟨by omega, fun y hy => ?_⟩
  obtain ⟨h1, h2⟩ := (disk_each h).2 y hy
  unfold nameM at h1
  rw [Bool.and_eq_true, decide_eq_true_iff] at h1
  omega
theorem cE {l : List S74} (a : ByteArray) (h : diskM l = true) : Ev (fun k => impl_Content.f k l a) (contentM l a) := impl_content l a (disk_bd h).1 (disk_bd h).2
theorem disk_ev (l : List S74) (hl : l.length ≤ 1000) : Ev (fun k => laws_sameDisk.f k l l) true := by
  unfold laws_sameDisk.f
  simp only [if_true]
  exact up0 (P := fun i => Ev (fun k => laws_sameDisk.l0 k i l l) true) l.length
    (EvS (by simp only [laws_sameDisk.l0, Int.lt_irrefl, if_false]; exact EvN))
    (fun i hi ih => EvS (by
      simp only [laws_sameDisk.l0, if_pos (show (i : Int) < (l.length : Int) by omega), if_pos (show 0 ≤ (i : Int) by omega), if_true, BY.nxt i _ hi (show l.length ≤ 9223372036854775807 by omega)]
      exact ih))
theorem okE {d : List S74} (hd : diskM d = true) : Ev (fun k => impl_DiskOk.f k d) true := by
  unfold impl_DiskOk.f
  have := impl_disk d (disk_bd hd).1 (disk_bd hd).2
  rw [hd] at this
  exact (EvB this).2 EvN
theorem crE {d : List S74} (a b : List Int) (hd : diskM d = true) (hB : okB d) : Ev (fun k => impl_Crash.f k d a b) (d.mapIdx (crS a b)) := by
  have := impl_crash d a b (disk_bd hd).1 (disk_bd hd).2 (byt_wf hB)
  unfold crashM at this
  rwa [if_pos hd] at this
theorem oneT (d : List S74) (A B : List Int) (hd : diskM d = true) (hB : okB d) (i : Nat) (hi : i < d.length) : Ev (fun k => laws_FnCrash.one k d (d.mapIdx (crS A B)) (i : Int)) true := by
  have hia : i < (d.mapIdx (crS A B)).length := by rw [List.length_mapIdx]; exact hi
  have g1 := get_mem hd (List.getElem_mem hi)
  have ht := torn_le d[i].f2 (atI A i 0) (atI B i (-1))
  obtain ⟨s1, s2⟩ := sync_some hd g1
  have hBs : okB (putM d ⟨d[i].f0, d[i].f1 ++ d[i].f2, []⟩) := by
    have := sync_byt hB d[i].f0
    rwa [s1] at this
  have g2 : getM (putM d ⟨d[i].f0, d[i].f1 ++ d[i].f2, []⟩) d[i].f0 = some ⟨d[i].f0, d[i].f1 ++ d[i].f2, []⟩ := put_self (f := ⟨d[i].f0, d[i].f1 ++ d[i].f2, []⟩) s2
  obtain ⟨j, g3⟩ := crash_get [] [] s2 g2
  have hd3 := crash_disk (l := putM d ⟨d[i].f0, d[i].f1 ++ d[i].f2, []⟩) [] [] s2
  have hK := content_of hd3 g3
  have hE : (crS [] [] j (⟨d[i].f0, d[i].f1 ++ d[i].f2, []⟩ : S74)).f1 ++ (crS [] [] j (⟨d[i].f0, d[i].f1 ++ d[i].f2, []⟩ : S74)).f2 = d[i].f1 ++ d[i].f2 := by
    show (d[i].f1 ++ d[i].f2 ++ tornM [] _ _) ++ [] = _
    have := torn_le [] (atI [] j 0) (atI [] j (-1))
    rw [List.eq_nil_of_length_eq_zero (Nat.le_zero.1 this), List.append_nil, List.append_nil]
  rw [hE] at hK
  have eS : Ev (fun k => impl_SyncFile.f k d d[i].f0) (putM d ⟨d[i].f0, d[i].f1 ++ d[i].f2, []⟩, true) := by
    have := impl_sync' d d[i].f0 (disk_bd hd).1 (disk_bd hd).2
    rwa [s1] at this
  have eC := cE d[i].f0 hd
  rw [content_of hd g1] at eC
  have eK := cE d[i].f0 hd3
  rw [hK] at eK
  have hA : rd_T74 (d.mapIdx (crS A B)) (i : Int) = crS A B i d[i] := by rw [rd74 _ i hia, List.getElem_mapIdx]
  have l1 : d[i].f1.length ≤ (crS A B i d[i]).f1.length := by
    show _ ≤ (d[i].f1 ++ _).length
    rw [List.length_append]; omega
  have l2 : (crS A B i d[i]).f1.length ≤ (d[i].f1 ++ d[i].f2).length := by
    show (d[i].f1 ++ _).length ≤ _
    rw [List.length_append, List.length_append]; omega
  have l3 : (crS A B i d[i]).f1.take d[i].f1.length = d[i].f1 := by
    show (d[i].f1 ++ _).take _ = _
    exact List.take_left
  unfold laws_FnCrash.one
  simp only [if_pos (show 0 ≤ (i : Int) by omega), if_pos (show (i : Int) < (d.length : Int) by omega), if_pos (show (i : Int) < ((d.mapIdx (crS A B)).length : Int) by omega), rd74 d i hi, hA, EvB eC, if_true, show (crS A B i d[i]).f0 = d[i].f0 from rfl, show (crS A B i d[i]).f2 = [] from rfl, if_pos l1, if_pos l2, if_pos l3, EvB eS, EvB (crE [] [] s2 hBs), EvB eK]
  exact EvN
theorem loopT (d : List S74) (A B : List Int) (hd : diskM d = true) (hB : okB d) : Ev (fun k => laws_FnCrash.l0 k d (d.mapIdx (crS A B)) 0) true := by
  have h8 := (disk_each hd).1
  exact up0 (P := fun i => Ev (fun k => laws_FnCrash.l0 k d (d.mapIdx (crS A B)) i) true) d.length
    (EvS (by simp only [laws_FnCrash.l0, Int.lt_irrefl, if_false]; exact EvN))
    (fun i hi ih => EvS (by
      simp only [laws_FnCrash.l0, if_pos (show (i : Int) < (d.length : Int) by omega), EvB (oneT d A B hd hB i hi), BY.nxt i _ hi (show d.length ≤ 9223372036854775807 by omega)]
      exact ih))
theorem FnCrash (l0 : List Int) (hw0 : l0.length ≤ 9223372036854775807 ∧ ∀ y_ ∈ l0, ((Lit.int .u8 y_).wf = true)) : ∃ k, laws_FnCrash.f k l0 = some true := by
  refine EvE ?_
  unfold laws_FnCrash.f laws_big.f
  by_cases hb : (l0.length : Int) > 1048576
  · simp only [hb, decide_true, Option.bind_some, if_true]; exact EvN
  obtain ⟨d0, x, kp, fl, e, hd0, hx, hxl, x0, e0, hx0⟩ := dDisk l0 (by omega)
  have hB0 : okB d0 := by
    rw [e0]
    exact play_byt x0 [] [] (by decide +kernel) (fun y hy => by cases hy) (fun o ho => (hx0 o ho).2.2.2)
  have eP := impl_play d0 x (disk_bd hd0).1 (disk_bd hd0).2 (ok_wf hx)
  rw [show playM d0 x = playL x d0 [] from by unfold playM; rw [if_pos hd0, if_neg (by omega)]] at eP
  obtain ⟨hd, hl⟩ := play_disk x d0 [] hd0
  have hB := play_byt x d0 [] hd0 hB0 (fun o ho => (hx o ho).2.2.2)
  generalize playL x d0 [] = r at eP hd hl hB
  obtain ⟨d, tl⟩ := r
  simp only [List.length_nil, Nat.zero_add] at hd hl hB
  have h8 := (disk_each hd).1
  have hdc := crash_disk kp fl hd
  have hdn := crash_disk [] [] hd
  have eC := spec_crash d [] [] (disk_bd hd).1 (disk_bd hd).2
  unfold crashM at eC
  rw [if_pos hd] at eC
  have eW := spec_play (d.mapIdx (crS [] [])) [] (disk_bd hdn).1 (disk_bd hdn).2 (fun y hy => by cases hy)
  rw [show playM (d.mapIdx (crS [] [])) [] = (d.mapIdx (crS [] []), []) from by unfold playM; rw [if_pos hdn, if_neg (by simp)]; rfl] at eW
  have hln : (d.mapIdx (crS [] [])).length ≤ 1000 := by rw [List.length_mapIdx]; omega
  have hlc : ((d.mapIdx (crS kp fl)).length : Int) = (d.length : Int) := by rw [List.length_mapIdx]
  simp only [hb, decide_false, Option.bind_some, Bool.false_eq_true, if_false, EvB e, EvB eP, show (tl.length : Int) = (x.length : Int) by omega, if_true, EvB (okE hd), EvB (crE kp fl hd hB), EvB (okE hdc), hlc, EvB (loopT d kp fl hd hB), EvB eC, EvB eW, EvB (crE [] [] hd hB), EvB (disk_ev _ hln)]
  exact EvN
end Go.Proofs.YtmgeffgcihfpcaaDoor.Pure

namespace Go.Proofs.YtmgeffgcihfpcaaDoor.Opens
set_option linter.unusedVariables false
set_option linter.unusedSimpArgs false
open Go.RowKit Go.Proofs.YtmgeffgcihfpcaaDoorW.PrintWords
def Opens (P : Program) (t : TypeId) {α : Type} (d : Kd α) (ok : α → Prop) : Prop :=
  P.cellsOf t = d.sz ∧ ∀ (H : Type) (enc : TypeId × Value → H) (w : World) (spare : Nat → Bool) (fuel : Nat) (cs : List Value) (x : DataW H × List MemPlace), DataW.trod enc P w 0 spare true fuel t cs = some x → ∃ a : α, d.K w a cs ∧ ok a
variable {P : Program}
theorem opens_int {t : TypeId} {k : IntKind} (ht : P.underlying t = some (.int k)) (hc : P.cellsOf t = 1) : Opens P t (Kd.int k) (fun a => (Lit.int k a).wf = true) :=
  ⟨hc, fun _ _ _ _ _ _ _ h => by
    obtain ⟨n, rfl, _, hw⟩ := DataW.trod_int ht h
    exact ⟨n, rfl, hw⟩⟩
theorem add_add (a : Addr) (i j : Nat) : (a.add i).add j = a.add (i + j) := by
  unfold Addr.add
  by_cases hi : i = 0 <;> by_cases hj : j = 0 <;> simp [hi, hj, Nat.add_assoc]
theorem opens_slice {t e : TypeId} {α : Type} {d : Kd α} {ok : α → Prop} (ht : P.underlying t = some (.slice e)) (hc : P.cellsOf t = 1) (hd : Opens P e d ok) :
    Opens P t (Kd.slice e d) (fun l => l.length ≤ 9223372036854775807 ∧ ∀ a ∈ l, ok a) :=
  ⟨hc, fun H enc w spare fuel cs x h => by
    rcases Deep.open_slice ht h with ⟨rfl, _⟩ | ⟨a, len, cap, m, n, D, Pl, rfl, _, hl, hm, hmm, hxx, hx⟩
    · exact ⟨[], ⟨none, 0, rfl, Nat.le_refl _, rfl, Nat.zero_le _, fun h => absurd h (Nat.lt_irrefl _)⟩, Nat.zero_le _, fun _ h => nomatch h⟩
    have hlm : len ≤ m := by rw [hmm]; split <;> omega
    have hex : ∀ i, i < len → ∃ b : α, ∃ cs', w.cells? 0 (a.add (i * P.cellsOf e)) (P.cellsOf e) = some cs' ∧ d.K w b cs' ∧ ok b := fun i hi => by
      obtain ⟨cs', h1, h2⟩ := hx i (Nat.lt_of_lt_of_le hi hlm)
      obtain ⟨b, hb⟩ := hd.2 H enc w spare n cs' _ h2
      exact ⟨b, cs', h1, hb.1, hb.2⟩
    have hml : len ≤ 9223372036854775807 := by unfold maxLen at hm; omega
    obtain ⟨l, hll, hat⟩ : ∃ l : List α, l.length = len ∧ ∀ i p, l[i]? = some p → ∃ cs', w.cells? 0 (a.add (i * P.cellsOf e)) (P.cellsOf e) = some cs' ∧ d.K w p cs' ∧ ok p := by
      clear hx hlm hmm hl hm hml hxx h
      induction len with
      | zero => exact ⟨[], rfl, fun i p h => by simp at h⟩
      | succ len ih =>
        obtain ⟨l, hll, hat⟩ := ih (fun i hi => hex i (Nat.lt_succ_of_lt hi))
        obtain ⟨b, hb⟩ := hex len (Nat.lt_succ_self _)
        refine ⟨l ++ [b], by simp [hll], fun i p h => ?_⟩
        rcases Nat.lt_or_ge i l.length with hi | hi
        · rw [List.getElem?_append_left hi] at h
          exact hat i p h
        rw [List.getElem?_append_right hi] at h
        have hi0 : i - l.length = 0 := by
          rcases Nat.eq_zero_or_pos (i - l.length) with h0 | h0
          · exact h0
          rw [List.getElem?_eq_none (by simp; omega)] at h
          cases h
        rw [hi0] at h
        have : b = p := by simpa using h
        subst this
        have : i = len := by omega
        subst this
        exact hb
    subst hll
    refine ⟨l, ⟨some a, cap, rfl, hl, rfl, hml, fun _ => ⟨a, rfl, fun j p hj => ?_⟩⟩, hml, fun b hb => ?_⟩
    · obtain ⟨cs', h1, hk, _⟩ := hat j p hj
      obtain ⟨_, hlen, hcell⟩ := World.cells?_some h1
      refine ⟨cs', hlen.trans hd.1, hk, fun i u hu => ?_⟩
      have hi : i < P.cellsOf e := by
        have := (List.getElem?_eq_some_iff.1 hu).1
        omega
      have := hcell i hi
      rw [hu, add_add, hd.1] at this
      exact this
    obtain ⟨i, hi⟩ := List.getElem?_of_mem hb
    obtain ⟨_, _, _, hok⟩ := hat i b hi
    exact hok⟩
end Go.Proofs.YtmgeffgcihfpcaaDoor.Opens
