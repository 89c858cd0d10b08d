/- Merged texts below the law FnWal: Go functions as Lean functions, their contracts, and plain lemmas. -/
import Derived.Test.YtcgojdhbphocgaaDoorVFnWalR
import Derived.Test.YtcgojdhbphocgaaDoorQFnWal32
import Derived.Test.YtcgojdhbphocgaaDoorQFnWal24
import Derived.Test.YtcgojdhbphocgaaDoorVFnWalD
import Derived.Test.YtcgojdhbphocgaaDoorQFnWal30
namespace Go.Proofs.YtcgojdhbphocgaaDoor.DK
set_option linter.unusedVariables false
set_option linter.unusedSimpArgs false
open Go.RowKit Go.Proofs.YtcgojdhbphocgaaDoor.F Go.Proofs.YtcgojdhbphocgaaDoor.PK Go.Proofs.YtcgojdhbphocgaaDoorW.PrintWords Go.Proofs.YtcgojdhbphocgaaDoorW.PrintLast
open Go.Proofs.YtcgojdhbphocgaaDoor.DK Go.Proofs.YtcgojdhbphocgaaDoor.BY Go.Proofs.YtcgojdhbphocgaaDoor.SC
def repM (l : List S55) : List S55 × Bool := if (walM l).2.2 = 0 ∨ (walM l).2.2 = 1 then cutM l logS (walM l).2.1 else (l, false)
theorem impl_rep0 (l : List S55) (hl : l.length ≤ 1048576) (hw : wfD l) (h : (walM l).2.2 = 0 ∨ (walM l).2.2 = 1) : Ev (fun k => impl_WalRepair.j0 k (walM l).2.1 false l) (repM l) := by
  refine EvS ?_
  unfold repM
  simp only [impl_WalRepair.j0, Bool.false_eq_true, if_false, if_pos h]
  refine (EvB (impl_cut l logS _ hl hw)).2 ?_
  exact EvN
theorem impl_repair (l : List S55) (hl : l.length ≤ 1048576) (hw : wfD l) (hB : wfB l) : Ev (fun k => impl_WalRepair.f k l) (repM l) := by
  unfold impl_WalRepair.f
  refine (EvB (impl_walRead' l hl hw hB)).2 ?_
  by_cases h0 : (walM l).2.2 = 0
  · simp only [if_pos h0]; exact impl_rep0 l hl hw (.inl h0)
  simp only [if_neg h0]
  by_cases h1 : (walM l).2.2 = 1
  · rw [show ((walM l).2.2 != 1) = false from bne_eq_false_iff_eq.mpr h1]; exact impl_rep0 l hl hw (.inr h1)
  rw [show ((walM l).2.2 != 1) = true from bne_iff_ne.mpr h1]
  refine EvS ?_
  unfold repM
  simp only [impl_WalRepair.j0, if_true, if_neg (show ¬ ((walM l).2.2 = 0 ∨ (walM l).2.2 = 1) from fun q => q.elim h0 h1)]
  exact (EvB (copyI l (by omega) (wfD_le' hw))).2 EvN
end Go.Proofs.YtcgojdhbphocgaaDoor.DK

namespace Go.Proofs.YtcgojdhbphocgaaDoor.Pure
set_option linter.unusedVariables false
set_option linter.unusedSimpArgs false
open Go.RowKit Go.Proofs.YtcgojdhbphocgaaDoor.F Go.Proofs.YtcgojdhbphocgaaDoor.PK Go.Proofs.YtcgojdhbphocgaaDoorW.PrintWords Go.Proofs.YtcgojdhbphocgaaDoorW.PrintLast Go.Proofs.YtcgojdhbphocgaaDoorW.PrintMore
open Go.Proofs.YtcgojdhbphocgaaDoor.DK Go.Proofs.YtcgojdhbphocgaaDoor.GT Go.Proofs.YtcgojdhbphocgaaDoor.BY Go.Proofs.YtcgojdhbphocgaaDoor.FR Go.Proofs.YtcgojdhbphocgaaDoor.SC Go.Proofs.YtcgojdhbphocgaaDoor.WL Go.Proofs.YtcgojdhbphocgaaDoor.WD
open Go.Proofs.YtcgojdhbphocgaaDoor.FQ (cat byt_cat)
theorem mend {l : List S55} {P : List (List Int)} {y : S55} {m : Nat} (hd : diskM l = true) (hp : ∀ q ∈ P, okQ q) (hB : wfB l) (e : getM l logS = some y) (hy : y.f1 ++ y.f2 = (cat P).take m) (hs : (walM l).2.2 = 0 ∨ (walM l).2.2 = 1) : ∃ l', repM l = (l', true) ∧ diskM l' = true ∧ wfB l' ∧ (walM l').1 = (walM l).1 ∧ (walM l').2.2 = 0 := by
  obtain ⟨L, M, rfl, h1, h2, h3, h4, h5⟩ := wal_cut hd (fun q hq => (hp q hq).p) e hy
  obtain ⟨a1, a2⟩ := cut_some hd e h4 h5
  rw [h3] at a1 a2
  refine ⟨_, by unfold repM; rw [if_pos hs, h2]; exact a1, a2, put_byt hB ⟨byt_cat L (fun q hq => (hp q (List.mem_append_left _ hq)).2.2), fun x hx => (by cases hx)⟩, ?_⟩
  have := wal_of (P := L) a2 (fun q hq => (hp q (List.mem_append_left _ hq)).p) (put_self (f := ⟨logS, cat L, []⟩) a2) (List.append_nil _)
  rw [this, h1]
  exact ⟨rfl, rfl⟩
theorem same_ev (P : List (List Int)) (hP : P.length ≤ 1000) : Ev (fun k => laws_samePayloads.f k P P) true := by
  unfold laws_samePayloads.f
  simp only [if_true]
  exact up0 (P := fun i => Ev (fun k => laws_samePayloads.l0 k P P i) true) P.length
    (EvS (by simp only [laws_samePayloads.l0, Int.lt_irrefl, if_false]; exact EvN))
    (fun i hi ih => EvS (by
      simp only [laws_samePayloads.l0, if_pos (show (i : Int) < (P.length : Int) by omega), if_pos (show 0 ≤ (i : Int) by omega), if_true, BY.nxt i _ hi (show P.length ≤ 9223372036854775807 by omega)]
      exact ih))
theorem starts_ev (L M : List (List Int)) (h : (L ++ M).length ≤ 1000) : Ev (fun k => laws_starts.f k (L ++ M) L) true := by
  rw [List.length_append] at h
  unfold laws_starts.f
  simp only [if_pos (show (L.length : Int) ≤ ((L ++ M).length : Int) by rw [List.length_append]; omega), if_pos (show 0 ≤ (L.length : Int) by omega), Int.toNat_natCast, List.take_left]
  exact (EvB (same_ev L (by omega))).2 EvN
theorem disk_bd {l : List S55} (h : diskM l = true) : l.length ≤ 1048576 ∧ wfD l := by
  have h8 := (disk_each h).1
  refine ⟨by omega, fun y hy => ?_⟩
  obtain ⟨h1, h2⟩ := (disk_each h).2 y hy
  unfold nameM at h1
  rw [Bool.and_eq_true, decide_eq_true_iff] at h1
  omega
theorem read_ev {l : List S55} (h : diskM l = true) (hB : wfB l) : Ev (fun k => impl_WalRead.f k l) ((walM l).1, (walM l).2.2) := by
  unfold impl_WalRead.f
  exact (EvB (impl_walRead' l (disk_bd h).1 (disk_bd h).2 hB)).2 EvN
theorem byt_wf {l : List S55} (hB : wfB l) : ∀ y ∈ l, ∀ z ∈ y.f2, (Lit.int .u8 z).wf = true := fun y hy z hz => by
  have := (hB y hy).2 z hz
  simp only [Lit.wf, Bool.and_eq_true, decide_eq_true_eq]
  have h1 : IntKind.u8.min = 0 := by decide
  have h2 : IntKind.u8.max = 255 := by decide
  omega
theorem crash_ev {l : List S55} (A B : List Int) (h : diskM l = true) (hB : wfB l) : Ev (fun k => impl_Crash.f k l A B) (crashM l A B) := impl_crash l A B (disk_bd h).1 (disk_bd h).2 (byt_wf hB)
theorem j4T (l : List S55) (L : List (List Int)) (st : Int) (hd : diskM l = true) (hB : wfB l) (hL : L.length ≤ 1000) (flag : Bool) (hm : flag = false → ∃ l', repM l = (l', true) ∧ diskM l' = true ∧ wfB l' ∧ (walM l').1 = L ∧ (walM l').2.2 = 0) : Ev (fun k => laws_FnWal.j4 k L st st flag l) true := by
  refine EvS ?_
  cases flag with
  | true => simp only [laws_FnWal.j4, if_true, beq_self_eq_true]; exact EvN
  | false =>
    obtain ⟨l', r1, r2, r3, r4, r5⟩ := hm rfl
    have eR := impl_repair l (disk_bd hd).1 (disk_bd hd).2 hB
    rw [r1] at eR
    have eW := read_ev r2 r3
    rw [r4, r5] at eW
    have eC : Ev (fun k => impl_WalCount.f k l') (L.length : Int) := by
      unfold impl_WalCount.f
      refine (EvB (impl_walRead' l' (disk_bd r2).1 (disk_bd r2).2 r3)).2 ?_
      simp only [r5, if_true, r4]
      exact EvN
    simp only [laws_FnWal.j4, Bool.false_eq_true, if_false, EvB eR, EvB eW, if_true, EvB (same_ev L hL), EvB eC, beq_self_eq_true]
    exact EvN
theorem j3T (l : List S55) (L : List (List Int)) (hd : diskM l = true) (hB : wfB l) (hL : L.length ≤ 1000) (hm : (walM l).2.2 = 0 ∨ (walM l).2.2 = 1 → ∃ l', repM l = (l', true) ∧ diskM l' = true ∧ wfB l' ∧ (walM l').1 = L ∧ (walM l').2.2 = 0) : Ev (fun k => laws_FnWal.j3 k L (walM l).2.2 l) true := by
  refine EvS ?_
  simp only [laws_FnWal.j3, EvB (spec_walRead l (disk_bd hd).1 (disk_bd hd).2 hB), if_true]
  by_cases h2 : (walM l).2.2 = 2
  · simp only [if_pos h2]
    exact j4T l L _ hd hB hL true (fun e => by cases e)
  simp only [if_neg h2]
  refine j4T l L _ hd hB hL _ (fun e => hm ?_)
  have h3 : ¬ (walM l).2.2 = 3 := fun q => by rw [q] at e; cases e
  rcases wal_st l with h | h | h | h
  · exact .inl h
  · exact .inr h
  · exact absurd h h2
  exact absurd h h3
theorem l1T (d : List S55) (P : List (List Int)) (kp : Int) (h : Inv d P) (hP : P.length ≤ 1000) : Ev (fun k => laws_FnWal.l1 k kp P [] 0 d) true := by
  have hS := inv_sync h
  have key := up (P := fun i => ∀ A : List Int, (A.length : Int) = i → Ev (fun k => laws_FnWal.l1 k kp P A i d) true) 8
    (fun A hA => by
      obtain ⟨c1, c2, c3, c4⟩ := crash_log A h
      have eC := crash_ev A [] h.d h.b
      have eR := read_ev c1 c2
      have eS : Ev (fun k => impl_WalSync.f k d) (syncM d logS) := by
        unfold impl_WalSync.f
        exact (EvB (impl_sync d logS (disk_bd h.d).1 (disk_bd h.d).2)).2 EvN
      refine EvS ?_
      simp only [laws_FnWal.l1, if_neg (show ¬ ((8 : Nat) : Int) < 8 by omega), EvB eC, EvB eR]
      cases e : getM d logS with
      | none =>
        obtain ⟨w1, w2⟩ := wal_none (c3 e)
        have hPn : P = [] := by
          rcases h.c with ⟨_, q, _⟩ | ⟨y, q, _⟩
          · exact q
          rw [q] at e; cases e
        have eT := starts_ev [] [] (by decide)
        have j := j3T _ [] c1 c2 (by decide) (fun q => by rw [w2] at q; exact absurd q (by decide))
        rw [sync_none e] at eS
        have eT : Ev (fun k => laws_starts.f k [] []) true := eT
        simp only [hPn, w1, EvB eT, if_true, EvB eS, Bool.false_eq_true, if_false]
        exact j
      | some y =>
        obtain ⟨z, m, hz, hzm⟩ := c4 y e
        obtain ⟨L, M, hPe, w1, _⟩ := wal_cut c1 (fun q hq => (h.p q hq).p) hz hzm
        obtain ⟨s1, s2, s3, s4⟩ := sync_crash h e
        have eX := crash_ev [] [] hS.d hS.b
        have eY := read_ev s2 s3
        rw [s4] at eY
        have hm := mend c1 h.p c2 hz hzm
        have eT := starts_ev L M (by rw [← hPe]; exact hP)
        rw [← hPe] at eT
        have hLl : L.length ≤ 1000 := by rw [hPe, List.length_append] at hP; omega
        have j := j3T _ L c1 c2 hLl (by rw [w1] at hm; exact hm)
        simp only [w1, EvB eT, if_true, EvB eS, s1, EvB eX, EvB eY, EvB (same_ev P hP)]
        exact j)
    (fun i hi ih A hA => EvS (by
      have hw : wrap64 ((i : Int) + 1) = ((i + 1 : Nat) : Int) := by rw [w64 (by omega) (by omega)]; omega
      simp only [laws_FnWal.l1, if_pos (show (i : Int) < 8 by omega), eq_true (show A.length < 17592186044416 by omega), if_true, hw]
      exact ih _ (by rw [List.length_append, List.length_singleton]; omega)))
  exact key 0 (by omega) [] rfl
theorem l0T (L : List (List Int)) (kp : Int) (hL : ∀ q ∈ L, okQ q) (hl : L.length ≤ 5) : ∀ (n i : Nat) (d : List S55) (P : List (List Int)), n + i = L.length → P.length + n ≤ 90 → Inv d (P ++ L.take i) → (0 < i → ∃ y, getM d logS = some y) → Ev (fun k => laws_FnWal.l0 k L kp (i : Int) d) true := by
  intro n
  induction n with
  | zero =>
    intro i d P hi hP hI hg
    rw [List.take_of_length_le (by omega)] at hI
    refine EvS ?_
    have hlen : (P ++ L).length = P.length + L.length := List.length_append
    simp only [laws_FnWal.l0, if_neg (show ¬ (i : Int) < (L.length : Int) by omega), EvB (read_ev hI.d hI.b)]
    have j1 : ∀ Q : List (List Int), Q = P ++ L → Ev (fun k => laws_FnWal.j1 k kp Q false d) true := fun Q hQ => EvS (by
      simp only [laws_FnWal.j1, Bool.false_eq_true, if_false, hQ]
      exact l1T d _ kp hI (by omega))
    have hr : (walM d).1 = P ++ L := by
      rcases hI.c with ⟨e, q, _⟩ | ⟨y, e, hy⟩
      · rw [q]; exact (wal_none e).1
      rw [wal_of hI.d (fun q hq => (hI.p q hq).p) e hy]
    rw [hr]
    by_cases h0 : (L.length : Int) > 0
    · obtain ⟨y, e⟩ := hg (by omega)
      have hf : (walM d).2.2 = 0 := by
        rcases hI.c with ⟨e', _⟩ | ⟨y', e', hy⟩
        · rw [e'] at e; cases e
        rw [wal_of hI.d (fun q hq => (hI.p q hq).p) e' hy]
      have hsub : wrap64 (((P ++ L).length : Int) - (L.length : Int)) = (P.length : Int) := by rw [w64 (by omega) (by omega)]; omega
      have hdr : (P ++ L).drop P.length = L := List.drop_left
      simp only [if_pos h0, hf, if_true, if_neg (show ¬ ((P ++ L).length : Int) < (L.length : Int) by omega), hsub, if_pos (show 0 ≤ (P.length : Int) by omega), if_pos (show (P.length : Int) ≤ ((P ++ L).length : Int) by omega), Int.toNat_natCast, hdr, EvB (same_ev L (by omega)), Bool.not_true]
      exact j1 _ rfl
    simp only [if_neg h0]
    exact j1 _ rfl
  | succ n ih =>
    intro i d P hi hP hI hg
    have hil : i < L.length := by omega
    have hq := hL _ (List.getElem_mem hil)
    have hlen : (P ++ L.take i).length ≤ P.length + i := by rw [List.length_append, List.length_take]; omega
    obtain ⟨d2, a1, a2, a3⟩ := inv_append hI hq (by omega)
    have eA := impl_wap d L[i] (disk_bd hI.d).1 (disk_bd hI.d).2 (by have := hq.2.1; omega)
    rw [a1] at eA
    have hr : rd_L2 L (i : Int) = L[i] := getD_nat L _ i hil
    refine EvS ?_
    simp only [laws_FnWal.l0, if_pos (show (i : Int) < (L.length : Int) by omega), if_pos (show 0 ≤ (i : Int) by omega), hr, EvB eA, if_true, BY.nxt i _ hil (show L.length ≤ 9223372036854775807 by omega)]
    refine ih (i + 1) d2 P (by omega) (by omega) ?_ (fun _ => a3)
    rw [List.take_add_one, List.getElem?_eq_getElem hil, ← List.append_assoc]
    exact a2
theorem FnWal : laws_FnWal.Pure := by
  intro l0 h1 h2 h3
  refine EvE ?_
  unfold laws_FnWal.f laws_big.f
  by_cases hb : (l0.length : Int) > 1048576
  · simp only [hb, decide_true, Option.bind_some, if_true]; exact EvN
  obtain ⟨d, L, kp, P, e, hI, hP, hL, hl⟩ := dRight l0 (by omega)
  simp only [hb, decide_false, Option.bind_some, Bool.false_eq_true, if_false, EvB e]
  exact l0T L kp hL hl L.length 0 d P (by omega) (by omega) (by rw [List.take_zero, List.append_nil]; exact hI) (fun q => by omega)
end Go.Proofs.YtcgojdhbphocgaaDoor.Pure
