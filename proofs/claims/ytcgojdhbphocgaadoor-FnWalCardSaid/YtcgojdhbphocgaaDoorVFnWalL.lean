/- Merged texts below the law FnWal: Go functions as Lean functions, their contracts, and plain lemmas. -/
import Derived.Test.YtcgojdhbphocgaaDoorQFnWal32
import Derived.Test.YtcgojdhbphocgaaDoorVFnWalPM
import Derived.Test.YtcgojdhbphocgaaDoorVFnWalR
namespace Go.Proofs.YtcgojdhbphocgaaDoor.WL
set_option linter.unusedVariables false
set_option linter.unusedSimpArgs false
open Go.RowKit Go.Proofs.YtcgojdhbphocgaaDoor.F Go.Proofs.YtcgojdhbphocgaaDoor.PK Go.Proofs.YtcgojdhbphocgaaDoorW.PrintWords Go.Proofs.YtcgojdhbphocgaaDoorW.PrintLast Go.Proofs.YtcgojdhbphocgaaDoorW.PrintMore
open Go.Proofs.YtcgojdhbphocgaaDoor.DK Go.Proofs.YtcgojdhbphocgaaDoor.GT Go.Proofs.YtcgojdhbphocgaaDoor.BY Go.Proofs.YtcgojdhbphocgaaDoor.FR Go.Proofs.YtcgojdhbphocgaaDoor.SC Go.Proofs.YtcgojdhbphocgaaDoor.TO
open Go.Proofs.YtcgojdhbphocgaaDoor.FQ (cat cat_cons cat_app scan_cat scan_nil cat_len scan_cut byt_cat byt_frame)
theorem tornM_none (l : List Int) (a : Int) : tornM l a (-1) = l.take (keepN l a) := by
  unfold tornM
  refine List.ext_getElem (by simp) fun i h1 h2 => ?_
  rw [List.getElem_mapIdx, if_neg (by omega)]
theorem crS_none (A : List Int) (i : Nat) (y : S55) : crS A [] i y = ⟨y.f0, (y.f1 ++ y.f2).take (y.f1.length + keepN y.f2 (atI A i 0)), []⟩ := by
  unfold crS
  rw [show atI [] i (-1) = -1 from rfl, tornM_none, List.take_append, List.take_of_length_le (Nat.le_add_right y.f1.length _), Nat.add_sub_cancel_left]
theorem crash_disk {l : List S55} (A B : List Int) (h : diskM l = true) : diskM (crashM l A B) = true ∧ (crashM l A B).length = l.length ∧ ∀ a, (getM l a = none → getM (crashM l A B) a = none) ∧ (∀ y, getM l a = some y → ∃ i : Nat, i < l.length ∧ getM (crashM l A B) a = some (crS A B i y)) := by
  have hd := disk_each h
  have e : crashM l A B = l.mapIdx (crS A B) := by unfold crashM; rw [if_pos h]
  rw [e]
  have hn : ∀ i y, (crS A B i y).f0 = y.f0 := fun _ _ => rfl
  have hD : diskM (l.mapIdx (crS A B)) = true := by
    refine disk_of (by rw [List.length_mapIdx]; exact hd.1) (fun y hy => ?_) (srt_pw.1 fun i j hij x y hx hy => ?_)
    · obtain ⟨j, hj, rfl⟩ := List.mem_mapIdx.1 hy
      have h1 := hd.2 _ (List.getElem_mem hj)
      refine ⟨h1.1, ?_⟩
      have h2 := torn_le l[j].f2 (atI A j 0) (atI B j (-1))
      show (l[j].f1 ++ _).length + 0 ≤ _
      rw [List.length_append]
      omega
    · rw [List.getElem?_mapIdx] at hx hy
      obtain ⟨x', hx', rfl⟩ := Option.map_eq_some_iff.1 hx
      obtain ⟨y', hy', rfl⟩ := Option.map_eq_some_iff.1 hy
      exact disk_srt h i j hij x' y' hx' hy'
  refine ⟨hD, List.length_mapIdx, fun a => ⟨fun q => ?_, fun y q => ?_⟩⟩
  · rw [get_none] at q ⊢
    intro y hy
    obtain ⟨j, hj, rfl⟩ := List.mem_mapIdx.1 hy
    exact fun e => q l[j] (List.getElem_mem hj) e
  · obtain ⟨h1, h2⟩ := get_some q
    obtain ⟨j, hj, rfl⟩ := List.mem_iff_getElem.1 h1
    exact ⟨j, hj, get_in hD (List.mem_mapIdx.2 ⟨j, hj, rfl⟩) h2⟩
theorem crash_byt {l : List S55} (A : List Int) (h : diskM l = true) (hB : wfB l) : wfB (crashM l A []) := by
  intro y hy
  unfold crashM at hy
  rw [if_pos h] at hy
  obtain ⟨j, hj, rfl⟩ := List.mem_mapIdx.1 hy
  rw [crS_none]
  have := hB _ (List.getElem_mem hj)
  exact ⟨(byt_app this.1 this.2).take _, fun x hx => by cases hx⟩
theorem put_byt {l : List S55} {f : S55} (hB : wfB l) (h : Byt f.f1 ∧ Byt f.f2) : wfB (putM l f) := fun y hy => ((mem_put f y).1 hy).elim (fun q => q ▸ h) (fun q => hB y q.1)
theorem nm_log : nameM logS = true := by decide +kernel
def okQ (q : List Int) : Prop := 1 ≤ q.length ∧ q.length ≤ 5 ∧ Byt q
theorem okQ.p {q : List Int} (h : okQ q) : okP q := ⟨h.1, Nat.le_trans h.2.1 (by decide)⟩
structure Inv (l : List S55) (P : List (List Int)) : Prop where
  d : diskM l = true
  b : wfB l
  p : ∀ q ∈ P, okQ q
  n : l.length ≤ 7
  c : (getM l logS = none ∧ P = [] ∧ l.length ≤ 1) ∨ ∃ y, getM l logS = some y ∧ y.f1 ++ y.f2 = cat P
theorem cat_le : ∀ (P : List (List Int)), (∀ q ∈ P, okQ q) → (cat P).length ≤ 13 * P.length
  | [], _ => Nat.zero_le _
  | q :: r, h => by
    have h1 := cat_le r (fun x hx => h x (List.mem_cons_of_mem _ hx))
    have h2 := h q List.mem_cons_self
    have h3 := frameM_length q h2.p
    rw [cat_cons, List.length_append, List.length_cons]
    have := h2.2.1
    omega
theorem inv_append {l : List S55} {P : List (List Int)} {q : List Int} (h : Inv l P) (hq : okQ q) (hP : P.length ≤ 100) : ∃ l', wapM l q = (l', true) ∧ Inv l' (P ++ [q]) ∧ ∃ y, getM l' logS = some y := by
  have hf := frameM_length q hq.p
  have h5 := hq.2.1
  have hc := cat_le P h.p
  have hp : ∀ x ∈ P ++ [q], okQ x := fun x hx => (List.mem_append.1 hx).elim (h.p x) (fun z => by rw [List.mem_singleton.1 z]; exact hq)
  have e1 : cat [q] = frameM q := by rw [cat_cons]; exact List.append_nil _
  have ew : wapM l q = appM l logS (frameM q) := by unfold wapM; rw [if_neg (by omega)]; rfl
  rw [ew]
  rcases h.c with ⟨e, rfl, hl⟩ | ⟨y, e, hy⟩
  · obtain ⟨a1, a2⟩ := app_none (d := frameM q) h.d e nm_log (by omega) (by omega)
    have hg : getM (putM l ⟨logS, [], frameM q⟩) logS = some ⟨logS, [], frameM q⟩ := put_self (f := ⟨logS, [], frameM q⟩) a2
    have hn := GT.put_len (l := l) (f := ⟨logS, [], frameM q⟩)
    exact ⟨_, a1, ⟨a2, put_byt h.b ⟨fun x hx => (by cases hx), byt_frame hq.2.2⟩, hp, by omega, .inr ⟨_, hg, by rw [List.nil_append, List.nil_append, e1]⟩⟩, _, hg⟩
  · have hl : y.f1.length + y.f2.length = (cat P).length := by rw [← hy, List.length_append]
    obtain ⟨a1, a2⟩ := app_some (d := frameM q) h.d e (by omega)
    have hg : getM (putM l ⟨logS, y.f1, y.f2 ++ frameM q⟩) logS = some ⟨logS, y.f1, y.f2 ++ frameM q⟩ := put_self (f := ⟨logS, y.f1, y.f2 ++ frameM q⟩) a2
    have hb := h.b y (get_some e).1
    have hn := put_len_some (f := ⟨logS, y.f1, y.f2 ++ frameM q⟩) h.d e
    have hn7 := h.n
    exact ⟨_, a1, ⟨a2, put_byt h.b ⟨hb.1, byt_app hb.2 (byt_frame hq.2.2)⟩, hp, by omega, .inr ⟨_, hg, by rw [cat_app, e1, ← hy, List.append_assoc]⟩⟩, _, hg⟩
theorem inv_sync {l : List S55} {P : List (List Int)} (h : Inv l P) : Inv (syncM l logS).1 P := by
  rcases h.c with ⟨e, hP, hl⟩ | ⟨y, e, hy⟩
  · rw [sync_none e]; exact h
  · obtain ⟨a1, a2⟩ := sync_some h.d e
    have hb := h.b y (get_some e).1
    rw [a1]
    have hn := put_len_some (f := ⟨logS, y.f1 ++ y.f2, []⟩) h.d e
    have hn7 := h.n
    exact ⟨a2, put_byt h.b ⟨byt_app hb.1 hb.2, fun x hx => by cases hx⟩, h.p, (by show (putM l ⟨logS, y.f1 ++ y.f2, []⟩).length ≤ 7; omega), .inr ⟨_, put_self (f := ⟨logS, y.f1 ++ y.f2, []⟩) a2, by rw [List.append_nil, hy]⟩⟩
theorem wal_of {l : List S55} {P : List (List Int)} {y : S55} (hd : diskM l = true) (hp : ∀ q ∈ P, okP q) (e : getM l logS = some y) (hy : y.f1 ++ y.f2 = cat P) : walM l = (P, usedL P, 0) := by
  have hs : scanM (cat P) = P := by have := scan_cat P [] hp; rwa [List.append_nil, scan_nil, List.append_nil] at this
  unfold walM
  rw [content_of hd e, if_pos rfl, hy, hs, if_pos (cat_len P hp).symm]
theorem wal_none {l : List S55} (e : getM l logS = none) : (walM l).1 = [] ∧ (walM l).2.2 = 3 := by
  unfold walM
  rw [content_not e, if_neg (by decide)]
  exact ⟨rfl, rfl⟩
theorem cut_any : ∀ (P : List (List Int)) (m : Nat), (∀ p ∈ P, okP p) → ∃ L M, P = L ++ M ∧ (cat L).length ≤ m ∧ ∀ p r, M = p :: r → m < (cat L).length + (8 + p.length)
  | [], m, _ => ⟨[], [], rfl, Nat.zero_le _, fun p r e => by cases e⟩
  | q :: P, m, h => by
    have hf := frameM_length q (h q List.mem_cons_self)
    by_cases g : m < 8 + q.length
    · exact ⟨[], q :: P, rfl, Nat.zero_le _, fun p r e => by
        obtain ⟨rfl, rfl⟩ := List.cons.inj e
        show m < 0 + _
        omega⟩
    · obtain ⟨L, M, e, h1, h2⟩ := cut_any P (m - (8 + q.length)) (fun x hx => h x (List.mem_cons_of_mem _ hx))
      refine ⟨q :: L, M, by rw [e]; rfl, ?_, fun p r e => ?_⟩
      · rw [cat_cons, List.length_append]; omega
      · have := h2 p r e
        rw [cat_cons, List.length_append]; omega
theorem wal_st (l : List S55) : (walM l).2.2 = 0 ∨ (walM l).2.2 = 1 ∨ (walM l).2.2 = 2 ∨ (walM l).2.2 = 3 := by
  unfold walM
  split
  · split
    · exact .inl rfl
    · show (if _ then (2 : Int) else 1) = 0 ∨ _
      split
      · exact .inr (.inr (.inl rfl))
      · exact .inr (.inl rfl)
  · exact .inr (.inr (.inr rfl))
theorem wal_cut {l : List S55} {P : List (List Int)} {y : S55} {m : Nat} (hd : diskM l = true) (hp : ∀ q ∈ P, okP q) (e : getM l logS = some y) (hy : y.f1 ++ y.f2 = (cat P).take m) : ∃ L M, P = L ++ M ∧ (walM l).1 = L ∧ (walM l).2.1 = usedL L ∧ (y.f1 ++ y.f2).take (usedL L).toNat = cat L ∧ 0 ≤ usedL L ∧ usedL L ≤ ((y.f1 ++ y.f2).length : Int) := by
  obtain ⟨L, M, rfl, h1, h2⟩ := cut_any P m hp
  have hs := scan_cut L M hp m h1 h2
  have hu := cat_len L (fun q hq => hp q (List.mem_append_left _ hq))
  have hw : (walM l).1 = L ∧ (walM l).2.1 = usedL L := by
    unfold walM
    rw [content_of hd e, if_pos rfl, hy, hs]
    split <;> exact ⟨rfl, rfl⟩
  have hle : (cat L).length ≤ (cat (L ++ M)).length := by rw [cat_app, List.length_append]; omega
  refine ⟨L, M, rfl, hw.1, hw.2, ?_, by omega, ?_⟩
  · rw [hy, ← hu, Int.toNat_natCast, List.take_take, Nat.min_eq_left h1, cat_app, List.take_left]
  · rw [hy, List.length_take]; omega
theorem crash_log {l : List S55} {P : List (List Int)} (A : List Int) (h : Inv l P) : diskM (crashM l A []) = true ∧ wfB (crashM l A []) ∧ (getM l logS = none → getM (crashM l A []) logS = none) ∧ (∀ y, getM l logS = some y → ∃ z m, getM (crashM l A []) logS = some z ∧ z.f1 ++ z.f2 = (cat P).take m) := by
  obtain ⟨h1, _, h2⟩ := crash_disk A [] h.d
  refine ⟨h1, crash_byt A h.d h.b, (h2 logS).1, fun y e => ?_⟩
  obtain ⟨i, _, h3⟩ := (h2 logS).2 y e
  rcases h.c with ⟨q, _⟩ | ⟨y', q, hy⟩
  · rw [q] at e; cases e
  · rw [q] at e
    obtain rfl := Option.some.inj e
    rw [crS_none] at h3
    exact ⟨_, _, h3, by rw [List.append_nil, hy]⟩
theorem sync_crash {l : List S55} {P : List (List Int)} {y : S55} (h : Inv l P) (e : getM l logS = some y) : (syncM l logS).2 = true ∧ diskM (crashM (syncM l logS).1 [] []) = true ∧ wfB (crashM (syncM l logS).1 [] []) ∧ walM (crashM (syncM l logS).1 [] []) = (P, usedL P, 0) := by
  have hS := inv_sync h
  obtain ⟨a1, a2⟩ := sync_some h.d e
  obtain ⟨h1, h2, _, _⟩ := crash_log [] hS
  obtain ⟨_, _, h3⟩ := crash_disk [] [] hS.d
  refine ⟨by rw [a1], h1, h2, ?_⟩
  obtain ⟨i, _, h4⟩ := (h3 logS).2 ⟨logS, y.f1 ++ y.f2, []⟩ (by rw [a1]; exact put_self (f := ⟨logS, y.f1 ++ y.f2, []⟩) a2)
  rcases h.c with ⟨q, _⟩ | ⟨y', q, hy⟩
  · rw [q] at e; cases e
  · rw [q] at e
    obtain rfl := Option.some.inj e
    refine wal_of h1 (fun q hq => (h.p q hq).p) h4 ?_
    rw [crS_none]
    show List.take _ _ ++ [] = _
    rw [List.append_nil, List.append_nil, hy, List.take_of_length_le (Nat.le_add_right _ _)]
end Go.Proofs.YtcgojdhbphocgaaDoor.WL
