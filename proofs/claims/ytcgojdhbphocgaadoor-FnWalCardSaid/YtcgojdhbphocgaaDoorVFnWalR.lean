/- Merged texts below the law FnWal: Go functions as Lean functions, their contracts, and plain lemmas. -/
import Derived.Test.YtcgojdhbphocgaaDoorQFnWal32
import Derived.Test.YtcgojdhbphocgaaDoorQFnWal24
namespace Go.Proofs.YtcgojdhbphocgaaDoor.DK
set_option linter.unusedVariables false
set_option linter.unusedSimpArgs false
open Go.RowKit Go.Proofs.YtcgojdhbphocgaaDoor.F Go.Proofs.YtcgojdhbphocgaaDoor.PK Go.Proofs.YtcgojdhbphocgaaDoorW.PrintWords Go.Proofs.YtcgojdhbphocgaaDoorW.PrintLast Go.Proofs.YtcgojdhbphocgaaDoorW.PrintMore
open Go.Proofs.YtcgojdhbphocgaaDoor.BY Go.Proofs.YtcgojdhbphocgaaDoor.CR Go.Proofs.YtcgojdhbphocgaaDoor.FR Go.Proofs.YtcgojdhbphocgaaDoor.SC
def logS : ByteArray := ⟨#[108, 111, 103]⟩
theorem ofInt_i64 (a : Nat) (ha : a < 65536) : (BitVec.ofInt 64 (a : Int)).toNat = a := by
  rw [BitVec.ofInt_natCast, BitVec.toNat_ofNat]; exact Nat.mod_eq_of_lt (by omega)
theorem i64_or_nat (a b : Nat) (ha : a < 65536) (hb : b < 65536) : Go.bits .or .i64 (a : Int) (b : Int) = ((a ||| b : Nat) : Int) := by
  have hx : a ||| b < 2 ^ 16 := Nat.or_lt_two_pow (by omega) (by omega)
  show IntKind.i64.wrap ((BitVec.ofInt 64 (a : Int) ||| BitVec.ofInt 64 (b : Int)).toNat : Int) = _
  rw [BitVec.toNat_or, ofInt_i64 a ha, ofInt_i64 b hb, IntKind.wrap_i64]
  omega
theorem or16 (a b : Int) (ha0 : 0 ≤ a) (ha : a < 256) (hb0 : 0 ≤ b) (hb : b < 256) : Go.bits .or .i64 (wrap64 a) (wrap64 (wrap64 b * 256)) = a + 256 * b := by
  rw [w64 (by omega) (by omega), w64 (x := b) (by omega) (by omega), w64 (by omega) (by omega)]
  obtain ⟨A, rfl⟩ := Int.eq_ofNat_of_zero_le ha0
  obtain ⟨B, rfl⟩ := Int.eq_ofNat_of_zero_le hb0
  have e : ((B : Int) * 256) = ((2 ^ 8 * B : Nat) : Int) := by omega
  rw [e, i64_or_nat A (2 ^ 8 * B) (by omega) (by omega), Nat.or_comm, ← Nat.two_pow_add_eq_or_of_lt (by omega) B]
  omega
theorem str_inj (a b : List Int) (ha : Byt a) (hb : Byt b) (h : (strOfNums a).toList = (strOfNums b).toList) : a = b := by
  rw [ByteArray.toList_eq, ByteArray.toList_eq] at h
  simp only [strOfNums] at h
  have key : ∀ (a b : List Int), Byt a → Byt b → a.map (fun n => UInt8.ofNat n.toNat) = b.map (fun n => UInt8.ofNat n.toNat) → a = b := by
    intro a
    induction a with
    | nil => intro b _ _ h; cases b with | nil => rfl | cons y t => simp at h
    | cons x s ih =>
      intro b ha hb h
      cases b with
      | nil => simp at h
      | cons y t =>
        simp only [List.map_cons, List.cons.injEq] at h
        have h1 := ha x List.mem_cons_self
        have h2 := hb y List.mem_cons_self
        have h3 := congrArg UInt8.toNat h.1
        simp only [UInt8.toNat_ofNat'] at h3
        have hxy : x = y := by omega
        rw [hxy, ih t (fun z hz => ha z (List.mem_cons_of_mem _ hz)) (fun z hz => hb z (List.mem_cons_of_mem _ hz)) h.2]
  exact key a b ha hb h
theorem byt_four (x : Int) : Byt (four x) := by
  intro y hy
  simp only [four, List.mem_cons, List.not_mem_nil, or_false] at hy
  rcases hy with rfl | rfl | rfl | rfl <;> exact ⟨Int.emod_nonneg _ (by omega), Int.emod_lt_of_pos _ (by omega)⟩
theorem byt_app {a b : List Int} (ha : Byt a) (hb : Byt b) : Byt (a ++ b) := fun x hx => (List.mem_append.1 hx).elim (ha x) (hb x)
theorem begins (d : List Int) (h : Byt d) (hl : d.length ≤ 1048576) : Ev (fun k => impl_beginsFrame.f k d) (decide (goodM d)) := by
  unfold impl_beginsFrame.f
  by_cases h8 : (d.length : Int) < 8
  · simp only [if_pos h8]
    rw [decide_eq_false (fun hg => by have := hg.1; omega)]
    exact EvN
  have r0 : 0 ≤ rd d 0 ∧ rd d 0 < 256 := by simpa using h.rd 0 (by omega)
  have r1 : 0 ≤ rd d 1 ∧ rd d 1 < 256 := by simpa using h.rd 1 (by omega)
  have r2 : 0 ≤ rd d 2 ∧ rd d 2 < 256 := by simpa using h.rd 2 (by omega)
  have r3 : 0 ≤ rd d 3 ∧ rd d 3 < 256 := by simpa using h.rd 3 (by omega)
  have hle : le32 d = rd d 0 + 256 * rd d 1 + 65536 * rd d 2 + 16777216 * rd d 3 := rfl
  have bad : ∀ x, ¬ goodM d → Ev (fun k => impl_beginsFrame.j0 k d x true) (decide (goodM d)) := fun x hg => EvS (by
    simp only [impl_beginsFrame.j0, if_true]
    rw [decide_eq_false hg]
    exact EvN)
  have ho := or16 (rd d 0) (rd d 1) r0.1 r0.2 r1.1 r1.2
  simp only [if_neg h8, if_pos (show 0 < (d.length : Int) by omega), if_pos (show 1 < (d.length : Int) by omega), if_pos (show 2 < (d.length : Int) by omega), if_pos (show 3 < (d.length : Int) by omega), ho]
  by_cases c2 : rd d 2 = 0
  · by_cases c3 : rd d 3 = 0
    · have hL : rd d 0 + 256 * rd d 1 = le32 d := by rw [hle, c2, c3]; omega
      simp only [if_pos c2, if_pos c3, hL]
      by_cases c4 : le32 d < 1
      · simp only [if_pos c4]; exact bad _ (fun hg => by have := hg.2.1; omega)
      · by_cases c5 : le32 d > 600
        · simp only [if_neg c4, if_pos c5]; exact bad _ (fun hg => by have := hg.2.2.1; omega)
        · have hw : wrap64 (8 + le32 d) = 8 + le32 d := w64 (by omega) (by omega)
          simp only [if_neg c4, if_neg c5, hw]
          by_cases c6 : (d.length : Int) < 8 + le32 d
          · simp only [decide_eq_true c6]; exact bad _ (fun hg => by have := hg.2.2.2.1; omega)
          · simp only [decide_eq_false c6]
            refine EvS ?_
            have e8 : (8 + le32 d).toNat = 8 + (le32 d).toNat := by omega
            have hpl := pay_length d (by omega) (by omega)
            have hF := impl_frame (payM d) (by omega)
            simp only [impl_beginsFrame.j0, Bool.false_eq_true, if_false, hw, if_pos (show 8 ≤ 8 + le32 d by omega), if_pos (show 8 + le32 d ≤ (d.length : Int) by omega), if_pos (show 0 ≤ 8 + le32 d by omega), e8]
            refine (EvB hF).2 ?_
            have hok : okP (payM d) := ⟨by omega, by omega⟩
            have htk : d.take (8 + (le32 d).toNat) = four (le32 d) ++ four (le32 (d.drop 4)) ++ payM d := by
              have e1 := four_le32 d h (by omega)
              have e2 := four_le32 (d.drop 4) (h.drop 4) (by rw [List.length_drop]; omega)
              have e3 : d.take (8 + (le32 d).toNat) = (d.take (8 + (le32 d).toNat)).take 8 ++ (d.take (8 + (le32 d).toNat)).drop 8 := (List.take_append_drop 8 _).symm
              have e4 : (d.take (8 + (le32 d).toNat)).take 8 = d.take 4 ++ (d.drop 4).take 4 := by
                rw [List.take_take, Nat.min_eq_left (by omega), ← List.take_add]
              rw [e3, e4, e1, e2]
              rfl
            have hfr : frameM (payM d) = four (le32 d) ++ four (crcM (payM d)) ++ payM d := by
              unfold frameM
              rw [if_pos hok, hpl, Int.toNat_of_nonneg (by omega)]
            have hb1 : Byt (d.take (8 + (le32 d).toNat)) := h.take _
            have hbp : Byt (payM d) := (h.take _).drop 8
            have hb2 : Byt (frameM (payM d)) := by rw [hfr]; exact byt_app (byt_app (byt_four _) (byt_four _)) hbp
            have heq : ((strOfNums (frameM (payM d))).toList == (strOfNums (d.take (8 + (le32 d).toNat))).toList) = decide (goodM d) := by
              rw [Bool.eq_iff_iff, beq_iff_eq, decide_eq_true_iff]
              constructor
              · intro he
                have he := str_inj _ _ hb2 hb1 he
                rw [hfr, htk] at he
                have he2 := List.append_cancel_right he
                have he3 := List.append_cancel_left he2
                refine ⟨by omega, by omega, by omega, by omega, ?_⟩
                have e1 := le32_four (crcM (payM d)) (crcM_u32 _)
                have e2 := le32_four (le32 (d.drop 4)) (le32_u32 _ (h.drop 4) (by rw [List.length_drop]; omega))
                rw [← e2, ← he3, e1]
              · intro hg
                rw [hfr, htk, hg.2.2.2.2]
            simp only [bytes_Equal.f, Option.bind_some, heq]
            exact EvN
    · simp only [if_pos c2, if_neg c3]; exact bad _ (fun hg => by have := hg.2.2.1; omega)
  · simp only [if_neg c2]; exact bad _ (fun hg => by have := hg.2.2.1; omega)
def laterM (b : List Int) : Nat → Nat → Bool
  | 0, _ => false
  | d + 1, p => decide (goodM (b.drop p)) || laterM b d (p + 1)
def walM (l : List S55) : List (List Int) × Int × Int := if (contentM l logS).2 = true then (if usedL (scanM (contentM l logS).1) = ((contentM l logS).1.length : Int) then (scanM (contentM l logS).1, usedL (scanM (contentM l logS).1), 0) else (scanM (contentM l logS).1, usedL (scanM (contentM l logS).1), if laterM (contentM l logS).1 ((contentM l logS).1.length - ((usedL (scanM (contentM l logS).1)).toNat + 1)) ((usedL (scanM (contentM l logS).1)).toNat + 1) = true then 2 else 1)) else ([], 0, 3)
theorem used_le (d : List Int) : ∀ (n : Nat), ∀ d : List Int, 0 ≤ usedL (scanL n d) ∧ usedL (scanL n d) ≤ (d.length : Int) := by
  intro n
  induction n with
  | zero => intro d; simp [scanL, usedL]
  | succ n ih =>
    intro d
    unfold scanL
    by_cases h : (oneM d).length = 0
    · rw [if_pos h]; simp [usedL]
    · rw [if_neg h]
      have h1 := (one_le d).resolve_left h
      have h2 := ih (d.drop (8 + (oneM d).length))
      rw [List.length_drop] at h2
      unfold usedL
      omega
theorem one_pos (d : List Int) : ((oneM d).length : Int) > 0 ↔ goodM d := by
  constructor
  · intro h
    exact ((one_le d).resolve_left (by omega)).2.1
  · intro hg
    unfold oneM
    rw [if_pos hg, pay_length d (by have := hg.2.1; omega) hg.2.2.2.1]
    have := hg.2.1
    omega
theorem laterS (b : List Int) (s : List (List Int)) (h : Byt b) (hb : b.length ≤ 1000000) : ∀ n p : Nat, n = b.length - p → p ≤ 1000001 → Ev (fun k => spec_WalRead.l0 k b s p) (s, if laterM b n p = true then 2 else 1) := by
  intro n
  induction n with
  | zero =>
    intro p hp hpb
    refine EvS ?_
    simp only [spec_WalRead.l0, if_neg (show ¬ (p : Int) < (b.length : Int) by omega), laterM, Bool.false_eq_true, if_false]
    exact EvN
  | succ n ih =>
    intro p hp hpb
    refine EvS ?_
    have hO := spec_one (b.drop p) (h.drop p) (by rw [List.length_drop]; omega)
    have hi := ih (p + 1) (by omega) (by omega)
    have hw : wrap64 ((p : Int) + 1) = ((p + 1 : Nat) : Int) := by rw [w64 (by omega) (by omega)]; omega
    simp only [spec_WalRead.l0, if_pos (show (p : Int) < (b.length : Int) by omega), if_pos (show 0 ≤ (p : Int) by omega), if_pos (show (p : Int) ≤ (b.length : Int) by omega), Int.toNat_natCast, EvB hO, hw, laterM]
    by_cases g : goodM (b.drop p)
    · simp only [if_pos ((one_pos _).2 g), decide_eq_true g, Bool.true_or, if_true]; exact EvN
    · simp only [if_neg (fun q => g ((one_pos _).1 q)), decide_eq_false g, Bool.false_or]; exact hi
theorem laterI (b : List Int) (s : List (List Int)) (u : Int) (h : Byt b) (hb : b.length ≤ 1000000) : ∀ n p : Nat, n = b.length - p → p ≤ 1000001 → Ev (fun k => impl_walRead.l0 k b s u p) (s, u, if laterM b n p = true then 2 else 1) := by
  intro n
  induction n with
  | zero =>
    intro p hp hpb
    refine EvS ?_
    simp only [impl_walRead.l0, if_neg (show ¬ (p : Int) < (b.length : Int) by omega), laterM, Bool.false_eq_true, if_false]
    exact EvN
  | succ n ih =>
    intro p hp hpb
    refine EvS ?_
    have hO := begins (b.drop p) (h.drop p) (by rw [List.length_drop]; omega)
    have hi := ih (p + 1) (by omega) (by omega)
    have hw : wrap64 ((p : Int) + 1) = ((p + 1 : Nat) : Int) := by rw [w64 (by omega) (by omega)]; omega
    simp only [impl_walRead.l0, if_pos (show (p : Int) < (b.length : Int) by omega), if_pos (show 0 ≤ (p : Int) by omega), if_pos (show (p : Int) ≤ (b.length : Int) by omega), Int.toNat_natCast, EvB hO, hw, laterM]
    by_cases g : goodM (b.drop p)
    · simp only [decide_eq_true g, Bool.true_or, if_true]; exact EvN
    · simp only [decide_eq_false g, Bool.false_or, Bool.false_eq_true, if_false]; exact hi
def wfB (l : List S55) : Prop := ∀ y ∈ l, Byt y.f1 ∧ Byt y.f2
theorem content_byt {l : List S55} {a : ByteArray} (hw : wfD l) (hB : wfB l) (h : (contentM l a).2 = true) : Byt (contentM l a).1 ∧ (contentM l a).1.length ≤ 20000 := by
  obtain ⟨h1, h2, h3⟩ := content_ok h
  obtain ⟨m, x, e, hx, hn, hm⟩ := idx_at l a h2
  have hr : rd_T55 l (idxF (isN a) l 0) = l[m] := by rw [e]; exact rd55 l m hm
  rw [h3, hr]
  refine ⟨byt_app (hB _ (List.getElem_mem hm)).1 (hB _ (List.getElem_mem hm)).2, ?_⟩
  have hd := h1
  unfold diskM at hd
  rw [Bool.and_eq_true] at hd
  have hk := goD_at l _ _ hd.2 m (by omega) (by omega)
  unfold okAt at hk
  rw [Bool.and_eq_true, Bool.and_eq_true, decide_eq_true_iff, rd55 l m hm] at hk
  rw [List.length_append]
  exact hk.2.1
theorem spec_walRead (l : List S55) (hl : l.length ≤ 1048576) (hw : wfD l) (hB : wfB l) : Ev (fun k => spec_WalRead.f k l) ((walM l).1, (walM l).2.2) := by
  have hS := spec_content l logS hl hw
  unfold spec_WalRead.f walM
  refine (EvB hS).2 ?_
  by_cases h : (contentM l logS).2 = true
  · obtain ⟨hb, hlen⟩ := content_byt hw hB h
    have hu := used_le [] ((contentM l logS).1.length + 1) (contentM l logS).1
    have hN := specScan (contentM l logS).1 hb (by omega)
    rw [if_neg (show ¬ ((contentM l logS).1.length : Int) > 20000 by omega)] at hN
    simp only [if_pos h]
    refine (EvB hN).2 ?_
    by_cases g : usedL (scanM (contentM l logS).1) = ((contentM l logS).1.length : Int)
    · simp only [if_pos g]; exact EvN
    · simp only [if_neg g]
      have hu' : 0 ≤ usedL (scanM (contentM l logS).1) ∧ usedL (scanM (contentM l logS).1) ≤ ((contentM l logS).1.length : Int) := hu
      have hwr : wrap64 (usedL (scanM (contentM l logS).1) + 1) = (((usedL (scanM (contentM l logS).1)).toNat + 1 : Nat) : Int) := by rw [w64 (by omega) (by omega)]; omega
      rw [hwr]
      exact laterS _ _ hb (by omega) _ _ rfl (by omega)
  · simp only [if_neg h]; exact EvN
theorem impl_walRead' (l : List S55) (hl : l.length ≤ 1048576) (hw : wfD l) (hB : wfB l) : Ev (fun k => impl_walRead.f k l) (walM l) := by
  have hf : impl_fileOf.f l logS = some (idxF (isN logS) l 0) := by unfold impl_fileOf.f; rw [if_pos (by omega)]; rfl
  unfold impl_walRead.f walM
  rw [show (impl_fileOf.f l (⟨#[108, 111, 103]⟩ : ByteArray)) = some (idxF (isN logS) l 0) from hf]
  simp only [Option.bind_some, EvB (impl_disk l hl hw)]
  by_cases h1 : diskM l = true
  · simp only [if_pos h1]
    refine EvS ?_
    by_cases h2 : idxF (isN logS) l 0 < 0
    · have hc : ¬ (contentM l logS).2 = true := by unfold contentM; rw [if_pos h1, if_pos h2]; decide
      simp only [impl_walRead.j0, decide_eq_true h2, if_true, if_neg hc]
      exact EvN
    · have hc : (contentM l logS).2 = true := by unfold contentM; rw [if_pos h1, if_neg h2]
      obtain ⟨hb, hlen⟩ := content_byt hw hB hc
      obtain ⟨_, _, h3⟩ := content_ok hc
      obtain ⟨m, x, e, hx, hn, hm⟩ := idx_at l logS h2
      have hil : idxF (isN logS) l 0 < (l.length : Int) := by omega
      have hN := implScan (contentM l logS).1 hb (by omega)
      have hu := used_le [] ((contentM l logS).1.length + 1) (contentM l logS).1
      have hu' : 0 ≤ usedL (scanM (contentM l logS).1) ∧ usedL (scanM (contentM l logS).1) ≤ ((contentM l logS).1.length : Int) := hu
      simp only [impl_walRead.j0, decide_eq_false h2, Bool.false_eq_true, if_false, if_pos (show 0 ≤ idxF (isN logS) l 0 by omega), if_pos hil, content_at l hw _ (by omega) hil, Option.bind_some, if_pos hc, ← h3]
      refine (EvB hN).2 ?_
      by_cases g : usedL (scanM (contentM l logS).1) = ((contentM l logS).1.length : Int)
      · simp only [if_pos g]; exact EvN
      · simp only [if_neg g]
        have hwr : wrap64 (usedL (scanM (contentM l logS).1) + 1) = (((usedL (scanM (contentM l logS).1)).toNat + 1 : Nat) : Int) := by rw [w64 (by omega) (by omega)]; omega
        rw [hwr]
        exact laterI _ _ _ hb (by omega) _ _ rfl (by omega)
  · have hc : ¬ (contentM l logS).2 = true := by unfold contentM; rw [if_neg h1]; decide
    simp only [if_neg h1, if_neg hc]
    refine EvS ?_
    simp only [impl_walRead.j0, if_true]
    exact EvN
end Go.Proofs.YtcgojdhbphocgaaDoor.DK
