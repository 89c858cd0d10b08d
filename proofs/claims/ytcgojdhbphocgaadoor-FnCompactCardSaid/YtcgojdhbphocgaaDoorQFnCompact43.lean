/- Merged texts below the law FnCompact: Go functions as Lean functions, their contracts, and plain lemmas. -/
import Derived.Test.YtcgojdhbphocgaaDoorVFnCompactD
import Derived.Test.YtcgojdhbphocgaaDoorVFnCompactCP
import Derived.Test.YtcgojdhbphocgaaDoorQFnCompact31
namespace Go.Proofs.YtcgojdhbphocgaaDoor.Pure
set_option linter.unusedVariables false
set_option linter.unusedSimpArgs false
open Go.RowKit Go.Proofs.YtcgojdhbphocgaaDoor.F Go.Proofs.YtcgojdhbphocgaaDoor.PK Go.Proofs.YtcgojdhbphocgaaDoorW.PrintWords Go.Proofs.YtcgojdhbphocgaaDoorW.PrintLast Go.Proofs.YtcgojdhbphocgaaDoorW.PrintMore
open Go.Proofs.YtcgojdhbphocgaaDoor.DK Go.Proofs.YtcgojdhbphocgaaDoor.GT Go.Proofs.YtcgojdhbphocgaaDoor.BY Go.Proofs.YtcgojdhbphocgaaDoor.FR Go.Proofs.YtcgojdhbphocgaaDoor.SC Go.Proofs.YtcgojdhbphocgaaDoor.WL Go.Proofs.YtcgojdhbphocgaaDoor.WD
open Go.Proofs.YtcgojdhbphocgaaDoor.FQ (cat cat_cons byt_cat)
theorem same_ev (P : List (List Int)) (hP : P.length ≤ 1000) : Ev (fun k => laws_samePayloads.f k P P) true := by
  unfold laws_samePayloads.f
  simp only [if_true]
  exact up0 (P := fun i => Ev (fun k => laws_samePayloads.l0 k P P i) true) P.length
    (EvS (by simp only [laws_samePayloads.l0, Int.lt_irrefl, if_false]; exact EvN))
    (fun i hi ih => EvS (by
      simp only [laws_samePayloads.l0, if_pos (show (i : Int) < (P.length : Int) by omega), if_pos (show 0 ≤ (i : Int) by omega), if_true, BY.nxt i _ hi (show P.length ≤ 9223372036854775807 by omega)]
      exact ih))
theorem disk_bd {l : List S55} (h : diskM l = true) : l.length ≤ 1048576 ∧ wfD l := by
  have h8 := (disk_each h).1
  refine ⟨by omega, fun y hy => ?_⟩
  obtain ⟨h1, h2⟩ := (disk_each h).2 y hy
  unfold nameM at h1
  rw [Bool.and_eq_true, decide_eq_true_iff] at h1
  omega
theorem read_ev {l : List S55} (h : diskM l = true) (hB : wfB l) : Ev (fun k => impl_WalRead.f k l) ((walM l).1, (walM l).2.2) := by
  unfold impl_WalRead.f
  exact (EvB (impl_walRead' l (disk_bd h).1 (disk_bd h).2 hB)).2 EvN
theorem byt_wf {l : List S55} (hB : wfB l) : ∀ y ∈ l, ∀ z ∈ y.f2, (Lit.int .u8 z).wf = true := fun y hy z hz => by
  have := (hB y hy).2 z hz
  simp only [Lit.wf, Bool.and_eq_true, decide_eq_true_eq]
  have h1 : IntKind.u8.min = 0 := by decide
  have h2 : IntKind.u8.max = 255 := by decide
  omega
theorem crash_ev {l : List S55} (A B : List Int) (h : diskM l = true) (hB : wfB l) : Ev (fun k => impl_Crash.f k l A B) (crashM l A B) := impl_crash l A B (disk_bd h).1 (disk_bd h).2 (byt_wf hB)
theorem datL_cat : ∀ (L : List (List Int)) (a : List Int), datL L a = a ++ cat L
  | [], a => (List.append_nil a).symm
  | p :: r, a => by rw [show datL (p :: r) a = datL r (a ++ frameM p) from rfl, datL_cat r, cat_cons, List.append_assoc]
theorem nm_new : nameM newS = true := by decide +kernel
theorem compact {l : List S55} {P : List (List Int)} {y : S55} {k : Nat} (h : Inv l P) (e : getM l logS = some y) (hk : k ≤ P.length) (hP : P.length ≤ 100) : ∃ out, wcM l (k : Int) = (out, true) ∧ diskM out = true ∧ wfB out ∧ getM out logS = some ⟨logS, cat (P.drop k), []⟩ ∧ ∀ b, b ≠ logS → b ≠ newS → getM out b = getM l b := by
  have hy : y.f1 ++ y.f2 = cat P := by
    rcases h.c with ⟨q, _⟩ | ⟨y', q, hy⟩
    · rw [q] at e; cases e
    rw [q] at e
    obtain rfl := Option.some.inj e
    exact hy
  have hw := wal_of h.d (fun q hq => (h.p q hq).p) e hy
  have hb : ¬ wcBad (walM l) (k : Int) := by
    rw [hw]
    unfold wcBad
    rintro (q | q | q | q)
    · exact q rfl
    · omega
    · exact absurd q (by show ¬ (k : Int) > (P.length : Int); omega)
    rw [w64 (by show _ ≤ (P.length : Int) - _; omega) (by show (P.length : Int) - _ ≤ _; omega)] at q
    exact absurd q (by show ¬ (P.length : Int) - (k : Int) > 200; omega)
  have hx : (walM l).1.drop (k : Int).toNat = P.drop k := by rw [hw, Int.toNat_natCast]
  have hD : datL (P.drop k) [] = cat (P.drop k) := by rw [datL_cat, List.nil_append]
  have hp : ∀ q ∈ P.drop k, okQ q := fun q hq => h.p q (List.mem_of_mem_drop hq)
  have hlen := cat_le (P.drop k) hp
  rw [List.length_drop] at hlen
  have h1 := remove_fil newS h.d
  have d1 : diskM (l.filter (notN newS)) = true := disk_fil _ h.d
  have n1 : (l.filter (notN newS)).length ≤ l.length := List.length_filter_le _ _
  have h7 := h.n
  obtain ⟨a1, a2⟩ := app_none (d := cat (P.drop k)) d1 (fil_self (a := newS)) nm_new (by omega) (by omega)
  have g2 : getM (putM (l.filter (notN newS)) ⟨newS, [], cat (P.drop k)⟩) newS = some ⟨newS, [], cat (P.drop k)⟩ := put_self (f := ⟨newS, [], cat (P.drop k)⟩) a2
  have hA : wcA l (P.drop k) = (putM (l.filter (notN newS)) ⟨newS, [], cat (P.drop k)⟩, true) := by
    unfold wcA
    rw [h1, hD]
    exact a1
  have bD : Byt (cat (P.drop k)) := byt_cat _ (fun q hq => (hp q hq).2.2)
  generalize hl2 : putM (l.filter (notN newS)) ⟨newS, [], cat (P.drop k)⟩ = l2 at a2 g2 hA
  obtain ⟨s1, s2⟩ := sync_some a2 g2
  rw [show ([] : List Int) ++ cat (P.drop k) = cat (P.drop k) from rfl] at s1 s2
  have g3 : getM (putM l2 ⟨newS, cat (P.drop k), []⟩) newS = some ⟨newS, cat (P.drop k), []⟩ := put_self (f := ⟨newS, cat (P.drop k), []⟩) s2
  generalize hl3 : putM l2 ⟨newS, cat (P.drop k), []⟩ = l3 at s1 s2 g3
  obtain ⟨r1, r2⟩ := ren_some s2 g3 nm_log
  refine ⟨_, ?_, r2, ?_, put_self (f := ⟨logS, cat (P.drop k), []⟩) r2, fun b hb1 hb2 => ?_⟩
  · unfold wcM
    rw [if_neg hb, hx, hA, if_pos rfl, s1]
    exact r1
  · have w1 : wfB (l.filter (notN newS)) := fun z hz => h.b z ((List.mem_filter.1 hz).1)
    have w2 : wfB l2 := by rw [← hl2]; exact put_byt w1 ⟨fun x hx => (by cases hx), bD⟩
    have w3 : wfB l3 := by rw [← hl3]; exact put_byt w2 ⟨bD, fun x hx => (by cases hx)⟩
    exact put_byt (fun z hz => w3 z ((List.mem_filter.1 hz).1)) ⟨bD, fun x hx => (by cases hx)⟩
  rw [put_other (f := ⟨logS, cat (P.drop k), []⟩) (disk_fil _ s2) hb1, fil_other s2 hb2, ← hl3, put_other (f := ⟨newS, cat (P.drop k), []⟩) a2 hb2, ← hl2, put_other (f := ⟨newS, [], cat (P.drop k)⟩) d1 hb2, fil_other h.d hb2]
theorem disk_ev (l : List S55) (hl : l.length ≤ 1000) : Ev (fun k => laws_sameDisk.f k l l) true := by
  unfold laws_sameDisk.f
  simp only [if_true]
  exact up0 (P := fun i => Ev (fun k => laws_sameDisk.l0 k i l l) true) l.length
    (EvS (by simp only [laws_sameDisk.l0, Int.lt_irrefl, if_false]; exact EvN))
    (fun i hi ih => EvS (by
      simp only [laws_sameDisk.l0, if_pos (show (i : Int) < (l.length : Int) by omega), if_pos (show 0 ≤ (i : Int) by omega), if_true, BY.nxt i _ hi (show l.length ≤ 9223372036854775807 by omega)]
      exact ih))
theorem at_ev (c : List Int) (hc : c.length ≤ 1048576) (hb : ∀ x ∈ c, (Lit.int .u8 x).wf = true) : ∃ t, laws_at.f c 4 = some t ∧ 0 ≤ t := by
  unfold laws_at.f
  by_cases h : (4 : Int) < (c.length : Int)
  · have hr : rd c 4 = c[4]'(by omega) := getD_nat c _ 4 (by omega)
    have := byt_of hb _ (List.getElem_mem (show 4 < c.length by omega))
    rw [if_pos h, if_pos (by decide), hr]
    exact ⟨_, rfl, by rw [w64 (by omega) (by omega)]; omega⟩
  rw [if_neg h]
  refine ⟨_, rfl, Int.tmod_nonneg _ ?_⟩
  have h1 : wrap64 ((c.length : Int) * 5) = (c.length : Int) * 5 := w64 (by omega) (by omega)
  have h2 : wrap64 (4 * 13) = 52 := by rw [w64 (by decide) (by decide)]; rfl
  rw [h1, h2, w64 (by omega) (by omega)]
  omega
theorem l1T (d out : List S55) (hd : diskM d = true) (ho : diskM out = true) (h : ∀ b, b ≠ logS → b ≠ newS → getM out b = getM d b) : Ev (fun k => laws_FnCompact.l1 k 0 d out) true := by
  have h8 := (disk_each hd).1
  have cE : ∀ (l : List S55) (a : ByteArray), diskM l = true → Ev (fun k => impl_Content.f k l a) (contentM l a) := fun l a h => impl_content l a (disk_bd h).1 (disk_bd h).2
  exact up0 (P := fun i => Ev (fun k => laws_FnCompact.l1 k i d out) true) d.length
    (EvS (by simp only [laws_FnCompact.l1, Int.lt_irrefl, if_false]; exact EvN))
    (fun i hi ih => EvS (by
      have hw := BY.nxt i _ hi (show d.length ≤ 9223372036854775807 by omega)
      have hr : rd_T55 d (i : Int) = d[i] := rd55 d i hi
      simp only [laws_FnCompact.l1, if_pos (show (i : Int) < (d.length : Int) by omega), if_pos (show 0 ≤ (i : Int) by omega), hr]
      have j4 : ∀ f : Bool, (f = false → d[i].f0 ≠ logS ∧ d[i].f0 ≠ newS) → Ev (fun k => laws_FnCompact.j4 k (i : Int) d[i].f0 f d out) true := fun f hf => EvS (by
        cases f with
        | true => simp only [laws_FnCompact.j4, if_true, hw]; exact ih
        | false =>
          obtain ⟨n1, n2⟩ := hf rfl
          have g1 := get_mem hd (List.getElem_mem hi)
          have g2 := (h _ n1 n2).trans g1
          simp only [laws_FnCompact.j4, Bool.false_eq_true, if_false, EvB (cE d d[i].f0 hd), EvB (cE out d[i].f0 ho), content_of hd g1, content_of ho g2, if_true, hw]
          exact ih)
      by_cases c1 : d[i].f0.toList = ([108, 111, 103] : List UInt8)
      · simp only [if_pos c1]
        exact j4 true (fun q => by cases q)
      simp only [if_neg c1]
      refine j4 _ (fun q => ⟨fun z => c1 (by rw [z, ByteArray.toList_eq]; rfl), fun z => ?_⟩)
      rw [z, ByteArray.toList_eq] at q
      exact absurd q (by decide +kernel)))
theorem l0T (c : List Int) (hc : c.length ≤ 1048576) (hcb : ∀ x ∈ c, (Lit.int .u8 x).wf = true) (L : List (List Int)) (hL : ∀ q ∈ L, okQ q) (hl : L.length ≤ 5) : ∀ (n i : Nat) (d : List S55) (P : List (List Int)), n + i = L.length → P.length + n ≤ 90 → Inv d (P ++ L.take i) → (0 < i → ∃ y, getM d logS = some y) → Ev (fun k => laws_FnCompact.l0 k c L (i : Int) d) true := by
  intro n
  induction n with
  | zero =>
    intro i d P hi hP hI hg
    rw [List.take_of_length_le (by omega)] at hI
    have hlen : (P ++ L).length = P.length + L.length := List.length_append
    generalize hQ : P ++ L = Q at hI hlen
    have hQl : Q.length ≤ 100 := by omega
    refine EvS ?_
    have hC : Ev (fun k => impl_WalCount.f k d) (if (walM d).2.2 = 0 then ((walM d).1.length : Int) else -1) := by
      unfold impl_WalCount.f
      refine (EvB (impl_walRead' d (disk_bd hI.d).1 (disk_bd hI.d).2 hI.b)).2 ?_
      by_cases g : (walM d).2.2 = 0
      · simp only [if_pos g]; exact EvN
      simp only [if_neg g]; exact EvN
    have hwc := fun k : Int => impl_wc d k (disk_bd hI.d).1 (disk_bd hI.d).2 hI.b
    cases e : getM d logS with
    | none =>
      obtain ⟨w1, w2⟩ := wal_none e
      have hL0 : L.length = 0 := by
        rcases Nat.eq_zero_or_pos i with q | q
        · omega
        obtain ⟨y, z⟩ := hg q
        rw [z] at e; cases e
      have hbad : wcM d 0 = (d, false) := by
        unfold wcM
        rw [if_pos (by unfold wcBad; exact .inl (by rw [w2]; decide))]
      rw [w2, if_neg (by decide)] at hC
      have hwc := hwc 0
      rw [hbad] at hwc
      simp only [laws_FnCompact.l0, if_neg (show ¬ (i : Int) < (L.length : Int) by omega), EvB hC, if_pos (show (-1 : Int) < 0 by decide), EvB hwc, Bool.false_eq_true, if_false, EvB (disk_ev d (by have := hI.n; omega)), if_true]
      rw [show ((L.length : Int) == 0) = true from by rw [hL0]; rfl]
      exact EvN
    | some y =>
      have hy : y.f1 ++ y.f2 = cat Q := by
        rcases hI.c with ⟨q, _⟩ | ⟨y', q, hy⟩
        · rw [q] at e; cases e
        rw [q] at e
        obtain rfl := Option.some.inj e
        exact hy
      have hw := wal_of hI.d (fun q hq => (hI.p q hq).p) e hy
      rw [hw] at hC
      simp only [if_true] at hC
      have hR := read_ev hI.d hI.b
      rw [hw] at hR
      obtain ⟨t, ht, t0⟩ := at_ev c hc hcb
      have hn1 : wrap64 ((Q.length : Int) + 1) = (Q.length : Int) + 1 := w64 (by omega) (by omega)
      have k0 := Int.tmod_nonneg ((Q.length : Int) + 1) t0
      have k1 := Int.tmod_lt_of_pos t (show 0 < (Q.length : Int) + 1 by omega)
      generalize hk : Int.tmod t ((Q.length : Int) + 1) = kk at k0 k1
      obtain ⟨m, rfl⟩ := Int.eq_ofNat_of_zero_le k0
      obtain ⟨out, o1, o2, o3, o4, o5⟩ := compact (k := m) hI e (by omega) hQl
      have hwc := hwc (m : Int)
      rw [o1] at hwc
      simp only [laws_FnCompact.l0, if_neg (show ¬ (i : Int) < (L.length : Int) by omega), EvB hC, if_neg (show ¬ (Q.length : Int) < 0 by omega), EvB hR, ht, Option.bind_some, hn1, if_neg (show ¬ (Q.length : Int) + 1 = 0 by omega), hk, EvB hwc, if_true]
      rw [show ((Q.length : Int) != (Q.length : Int)) = false from bne_self_eq_false' _]
      refine EvS ?_
      obtain ⟨c1, _, c2⟩ := crash_disk [] [] o2
      obtain ⟨ix, _, c3⟩ := (c2 logS).2 _ o4
      have cb := crash_byt [] o2 o3
      have hX := crash_ev [] [] o2 o3
      have hW := wal_of (P := Q.drop m) c1 (fun q hq => (hI.p q (List.mem_of_mem_drop hq)).p) c3 (by
        rw [crS_none]
        show List.take _ _ ++ [] = _
        rw [List.append_nil, List.append_nil, List.take_of_length_le (Nat.le_add_right _ _)])
      have hY := read_ev c1 cb
      rw [hW] at hY
      have hS := same_ev (Q.drop m) (by rw [List.length_drop]; omega)
      simp only [laws_FnCompact.j1, Bool.false_eq_true, if_false, EvB hX, EvB hY, if_true, if_pos (show 0 ≤ (m : Int) by omega), if_pos (show (m : Int) ≤ (Q.length : Int) by omega), Int.toNat_natCast, EvB hS, Bool.not_true]
      refine EvS ?_
      simp only [laws_FnCompact.j2, Bool.false_eq_true, if_false]
      exact l1T d out hI.d o2 o5
  | succ n ih =>
    intro i d P hi hP hI hg
    have hil : i < L.length := by omega
    have hq := hL _ (List.getElem_mem hil)
    have hlen : (P ++ L.take i).length ≤ P.length + i := by rw [List.length_append, List.length_take]; omega
    obtain ⟨d2, a1, a2, a3⟩ := inv_append hI hq (by omega)
    have eA := impl_wap d L[i] (disk_bd hI.d).1 (disk_bd hI.d).2 (by have := hq.2.1; omega)
    rw [a1] at eA
    have hr : rd_L2 L (i : Int) = L[i] := getD_nat L _ i hil
    refine EvS ?_
    simp only [laws_FnCompact.l0, if_pos (show (i : Int) < (L.length : Int) by omega), if_pos (show 0 ≤ (i : Int) by omega), hr, EvB eA, if_true, BY.nxt i _ hil (show L.length ≤ 9223372036854775807 by omega)]
    refine ih (i + 1) d2 P (by omega) (by omega) ?_ (fun _ => a3)
    rw [List.take_add_one, List.getElem?_eq_getElem hil, ← List.append_assoc]
    exact a2
theorem FnCompact : laws_FnCompact.Pure := by
  intro l0 h1 h2 h3
  refine EvE ?_
  unfold laws_FnCompact.f laws_big.f
  by_cases hb : (l0.length : Int) > 1048576
  · simp only [hb, decide_true, Option.bind_some, if_true]; exact EvN
  obtain ⟨d, L, kp, P, e, hI, hP, hL, hl⟩ := dRight l0 (by omega)
  simp only [hb, decide_false, Option.bind_some, Bool.false_eq_true, if_false, EvB e]
  exact l0T l0 (by omega) h3 L hL hl L.length 0 d P (by omega) (by omega) (by rw [List.take_zero, List.append_nil]; exact hI) (fun q => by omega)
end Go.Proofs.YtcgojdhbphocgaaDoor.Pure
