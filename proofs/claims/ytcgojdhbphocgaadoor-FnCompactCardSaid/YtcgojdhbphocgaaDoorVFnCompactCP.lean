/- Merged texts below the law FnCompact: Go functions as Lean functions, their contracts, and plain lemmas. -/
import Derived.Test.YtcgojdhbphocgaaDoorVFnCompactR
import Derived.Test.YtcgojdhbphocgaaDoorQFnCompact33
import Derived.Test.YtcgojdhbphocgaaDoorVFnCompactCI
import Derived.Test.YtcgojdhbphocgaaDoorVFnCompactCS
namespace Go.Proofs.YtcgojdhbphocgaaDoor.DK
set_option linter.unusedVariables false
set_option linter.unusedSimpArgs false
open Go.RowKit Go.Proofs.YtcgojdhbphocgaaDoor.F Go.Proofs.YtcgojdhbphocgaaDoor.PK Go.Proofs.YtcgojdhbphocgaaDoorW.PrintWords Go.Proofs.YtcgojdhbphocgaaDoorW.PrintLast Go.Proofs.YtcgojdhbphocgaaDoorW.PrintMore
open Go.Proofs.YtcgojdhbphocgaaDoor.BY Go.Proofs.YtcgojdhbphocgaaDoor.SC Go.Proofs.YtcgojdhbphocgaaDoor.FR
theorem idx_mem {l : List S55} {a : ByteArray} {x : S55} (hx : x ∈ l) (h : isN a x.f0 = true) : ¬ idxF (isN a) l 0 < 0 := by
  rcases idxF_at (isN a) l 0 with ⟨_, hn⟩ | ⟨m, _, e, _⟩
  · rw [hn x hx] at h; cases h
  · omega
theorem isN_self (a : ByteArray) : isN a a = true := by simp [isN]
theorem disk_wf {l : List S55} (h : diskM l = true) : wfD l := fun y hy => by
  obtain ⟨h1, h2⟩ := (disk_each h).2 y hy
  unfold nameM at h1
  rw [Bool.and_eq_true, decide_eq_true_iff] at h1
  omega
theorem app_true {l : List S55} {a : ByteArray} {d : List Int} (h : (appM l a d).2 = true) : diskM (appM l a d).1 = true ∧ ¬ idxF (isN a) (appM l a d).1 0 < 0 := by
  unfold appM at h ⊢
  by_cases hc : diskM l = true ∧ nameM a = true
  · simp only [if_pos hc] at h ⊢
    by_cases h2 : idxF (isN a) l 0 < 0
    · simp only [if_pos h2] at h ⊢
      by_cases h8 : l.length = 8
      · simp only [if_pos h8] at h; cases h
      · simp only [if_neg h8] at h ⊢
        unfold appF at h ⊢
        by_cases hb : d.length + ([] : List Int).length + ([] : List Int).length ≤ 20000
        · simp only [if_pos hb] at h ⊢
          have hno : ∀ x ∈ l, isN a x.f0 = false := by
            rcases idxF_at (isN a) l 0 with ⟨_, q⟩ | ⟨m, x, e, _, _, _⟩
            · exact q
            · omega
          have e := put_new (⟨a, [], [] ++ d⟩ : S55) hno
          have h9 := (disk_each hc.1).1
          rw [e]
          refine ⟨?_, idx_mem (x := (⟨a, [], [] ++ d⟩ : S55)) (by simp) (isN_self a)⟩
          rw [disk_new (⟨a, [], [] ++ d⟩ : S55) hc.1 hc.2 hno, decide_eq_true_iff]
          simp only [List.length_nil, List.nil_append, Nat.add_zero, Nat.zero_add] at hb ⊢
          omega
        · simp only [if_neg hb] at h; cases h
    · simp only [if_neg h2] at h ⊢
      obtain ⟨m, x, e, hx, hn, hm⟩ := idx_at l a h2
      have hxm : l[m] = x := by rw [List.getElem?_eq_getElem hm] at hx; exact Option.some.inj hx
      rw [e, rd55 l m hm] at h ⊢
      unfold appF at h ⊢
      by_cases hb : d.length + l[m].f1.length + l[m].f2.length ≤ 20000
      · simp only [if_pos hb] at h ⊢
        rw [put_at (disk_srt hc.1) (⟨a, l[m].f1, l[m].f2 ++ d⟩ : S55) m x hx hn]
        refine ⟨?_, idx_mem (x := (⟨a, l[m].f1, l[m].f2 ++ d⟩ : S55)) (List.mem_set hm _) (isN_self a)⟩
        rw [disk_set l m hm hc.1 _ (by rw [hxm]; exact (ba_ext hn).symm), decide_eq_true_iff]
        simp only [List.length_append]
        omega
      · simp only [if_neg hb] at h; cases h
  · simp only [if_neg hc] at h; cases h
theorem sync_true {l : List S55} {a : ByteArray} (h : diskM l = true) (hi : ¬ idxF (isN a) l 0 < 0) : diskM (syncM l a).1 = true ∧ ¬ idxF (isN a) (syncM l a).1 0 < 0 := by
  obtain ⟨m, x, e, hx, hn, hm⟩ := idx_at l a hi
  have hxm : l[m] = x := by rw [List.getElem?_eq_getElem hm] at hx; exact Option.some.inj hx
  have hy := ((disk_each h).2 _ (List.getElem_mem hm)).2
  have hc : contentM l a = (l[m].f1 ++ l[m].f2, true) := by
    unfold contentM
    rw [if_pos h, if_neg hi, e, rd55 l m hm]
  unfold syncM
  rw [hc, if_pos rfl, e, Int.toNat_natCast]
  refine ⟨?_, idx_mem (x := (⟨a, l[m].f1 ++ l[m].f2, []⟩ : S55)) (List.mem_set hm _) (isN_self a)⟩
  rw [disk_set l m hm h _ (by rw [hxm]; exact (ba_ext hn).symm), decide_eq_true_iff]
  simp only [List.length_append, List.length_nil]
  omega
theorem scan_ok : ∀ (n : Nat) (d : List Int), ∀ p ∈ scanL n d, okP p
  | 0, _, p, hp => by simp [scanL] at hp
  | n + 1, d, p, hp => by
    unfold scanL at hp
    split at hp
    · cases hp
    · rename_i hne
      rcases List.mem_cons.1 hp with rfl | hp
      · rcases one_le d with h | ⟨_, hg, _, hl⟩
        · exact absurd h hne
        · obtain ⟨_, g1, g2, _⟩ := hg
          exact ⟨by omega, by omega⟩
      · exact scan_ok n _ p hp
theorem wal_pays (l : List S55) : ∀ p ∈ (walM l).1, okP p := by
  have hs := scan_ok ((contentM l logS).1.length + 1) (contentM l logS).1
  unfold walM
  split
  · split <;> exact hs
  · intro p hp; cases hp
def datL : List (List Int) → List Int → List Int
  | [], a => a
  | p :: r, a => datL r (a ++ frameM p)
theorem datL_len : ∀ (l : List (List Int)) (a : List Int), (datL l a).length ≤ a.length + 608 * l.length := by
  intro l
  induction l with
  | nil => intro a; simp [datL]
  | cons p r ih =>
    intro a
    unfold datL
    have := ih (a ++ frameM p)
    have := frameM_le p
    simp only [List.length_append, List.length_cons] at *
    omega
theorem rdL2 (l : List (List Int)) (i : Nat) (h : i < l.length) : rd_L2 l (i : Int) = l[i] := getD_nat l _ i h
theorem impl_dat (l : List (List Int)) (hok : ∀ p ∈ l, okP p) (hl : l.length ≤ 200) : Ev (fun k => impl_WalCompact.l0 k l [] 0) (datL l []) := by
  have key := up (P := fun i => ∀ a : List Int, (a.length : Int) ≤ 608 * i → Ev (fun k => impl_WalCompact.l0 k l a i) (datL (l.drop i.toNat) a)) l.length
    (fun a ha => EvS (by simp only [impl_WalCompact.l0, Int.lt_irrefl, if_false, Int.toNat_natCast, List.drop_length, datL]; exact EvN))
    (fun i hi ih a ha => EvS (by
      have hp := hok _ (List.getElem_mem hi)
      have hf := impl_frame l[i] (by have := hp.2; omega)
      have hle := frameM_le l[i]
      have hS : (a.length + (frameM l[i]).length ≤ 140737488355328) = True := eq_true (by omega)
      rw [Int.toNat_natCast, drop_at l i hi]
      simp only [impl_WalCompact.l0, rdL2 l i hi, EvB hf, if_pos (show (i : Int) < (l.length : Int) by omega), if_pos (show 0 ≤ (i : Int) by omega), datL, hS, if_true, nxt i _ hi (show l.length ≤ 9223372036854775807 by omega)]
      have := ih (a ++ frameM l[i]) (by simp only [List.length_append]; omega)
      rw [Int.toNat_natCast] at this
      exact this))
  exact key 0 (Nat.zero_le _) [] (by simp)
theorem new_size : (⟨#[110, 101, 119]⟩ : ByteArray).size ≤ 9223372036854775807 := by decide
theorem log_size' : logS.size ≤ 9223372036854775807 := by decide
def newS : ByteArray := ⟨#[110, 101, 119]⟩
def wcA (l : List S55) (x : List (List Int)) : List S55 × Bool := appM (removeM l newS).1 newS (datL x [])
def wcM (l : List S55) (n : Int) : List S55 × Bool := if wcBad (walM l) n then (l, false) else (if (wcA l ((walM l).1.drop n.toNat)).2 = true then renM (syncM (wcA l ((walM l).1.drop n.toNat)).1 newS).1 newS logS else (l, false))
theorem rem_wf (l : List S55) (a : ByteArray) (hl : l.length ≤ 1048576) (hw : wfD l) : wfD (removeM l a).1 ∧ (removeM l a).1.length ≤ 1048576 := ⟨fun y hy => hw y ((remove_le l a).2 y hy), Nat.le_trans (remove_le l a).1 hl⟩
theorem wcA_true {l : List S55} {x : List (List Int)} (h : (wcA l x).2 = true) : diskM (wcA l x).1 = true ∧ ¬ idxF (isN newS) (wcA l x).1 0 < 0 := app_true h
theorem wc_len {l : List S55} {n : Int} (h : ¬ wcBad (walM l) n) (hL : (walM l).1.length ≤ 9223372036854775807) : 0 ≤ n ∧ n ≤ ((walM l).1.length : Int) ∧ ((walM l).1.drop n.toNat).length ≤ 200 := by
  unfold wcBad at h
  simp only [not_or, Decidable.not_not] at h
  rw [w64 (by omega) (by omega)] at h
  rw [List.length_drop]
  omega
theorem scanL_len : ∀ (n : Nat) (d : List Int), (scanL n d).length ≤ n
  | 0, _ => Nat.le_refl _
  | n + 1, d => by
    unfold scanL
    split
    · exact Nat.zero_le _
    · have := scanL_len n (d.drop (8 + (oneM d).length))
      simp only [List.length_cons]
      omega
theorem wal_len (l : List S55) (hw : wfD l) : (walM l).1.length ≤ 9223372036854775807 := by
  have hc : (contentM l logS).1.length ≤ 2097152 := content_le l logS hw
  have hs := scanL_len ((contentM l logS).1.length + 1) (contentM l logS).1
  have hs : (scanM (contentM l logS).1).length ≤ (contentM l logS).1.length + 1 := hs
  unfold walM
  split
  · split
    · show (scanM _).length ≤ _; omega
    · show (scanM _).length ≤ _; omega
  · exact Nat.zero_le _
theorem impl_wc (l : List S55) (n : Int) (hl : l.length ≤ 1048576) (hw : wfD l) (hB : wfB l) : Ev (fun k => impl_WalCompact.f k l n) (wcM l n) := by
  unfold impl_WalCompact.f
  refine (EvB (impl_walRead' l hl hw hB)).2 ?_
  have hP := wal_pays l
  have hL := wal_len l hw
  unfold wcM
  by_cases h : wcBad (walM l) n
  · simp only [if_pos h]
    exact (EvB (copyI l (by omega) (wfD_le hw))).2 EvN
  · simp only [if_neg h]
    obtain ⟨_, _, h200⟩ := wc_len h hL
    have hd := datL_len ((walM l).1.drop n.toNat) []
    simp only [List.length_nil] at hd
    obtain ⟨hr1, hr2⟩ := rem_wf l newS hl hw
    refine (EvB (impl_dat _ (fun p hp => hP p (List.mem_of_mem_drop hp)) h200)).2 ?_
    refine (EvB (impl_remove l newS hl hw)).2 ?_
    refine (EvB (impl_app (removeM l newS).1 newS _ hr2 hr1 new_size (by omega))).2 ?_
    show Ev (fun k => if (wcA l ((walM l).1.drop n.toNat)).2 = true then _ else _) _
    by_cases hq : (wcA l ((walM l).1.drop n.toNat)).2 = true
    · simp only [if_pos hq]
      obtain ⟨h1, h2⟩ := wcA_true hq
      obtain ⟨h3, h4⟩ := sync_true h1 h2
      have h5 := (disk_each h1).1
      have h6 := (disk_each h3).1
      refine (EvB (impl_sync (wcA l ((walM l).1.drop n.toNat)).1 newS (by omega) (disk_wf h1))).2 ?_
      exact impl_ren _ newS logS (by omega) (disk_wf h3) log_size'
    · simp only [if_neg hq]
      exact (EvB (copyI l (by omega) (wfD_le hw))).2 EvN
end Go.Proofs.YtcgojdhbphocgaaDoor.DK
