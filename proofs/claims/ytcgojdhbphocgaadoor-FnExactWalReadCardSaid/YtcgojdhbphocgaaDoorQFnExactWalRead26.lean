/- Merged texts below the law FnExactWalRead: Go functions as Lean functions, their contracts, and plain lemmas. -/
import Derived.Test.YtcgojdhbphocgaaDoorQFnExactWalRead25
import Derived.Test.YtcgojdhbphocgaaDoorQFnExactWalRead24
import Derived.Test.YtcgojdhbphocgaaDoorQFnExactWalRead23
namespace Go.Proofs.YtcgojdhbphocgaaDoor.SC
set_option linter.unusedVariables false
set_option linter.unusedSimpArgs false
open Go.RowKit Go.Proofs.YtcgojdhbphocgaaDoor.F Go.Proofs.YtcgojdhbphocgaaDoor.PK Go.Proofs.YtcgojdhbphocgaaDoorW.PrintWords Go.Proofs.YtcgojdhbphocgaaDoorW.PrintLast Go.Proofs.YtcgojdhbphocgaaDoorW.PrintMore
open Go.Proofs.YtcgojdhbphocgaaDoor.BY Go.Proofs.YtcgojdhbphocgaaDoor.CR Go.Proofs.YtcgojdhbphocgaaDoor.FR
def Byt (l : List Int) : Prop := ∀ x ∈ l, 0 ≤ x ∧ x < 256
theorem byt_of {l : List Int} (h : ∀ x ∈ l, (Lit.int .u8 x).wf = true) : Byt l := by
  intro x hx
  have := h x hx
  simp only [Lit.wf, Bool.and_eq_true, decide_eq_true_eq] at this
  have h1 : IntKind.u8.min = 0 := by decide
  have h2 : IntKind.u8.max = 255 := by decide
  omega
theorem Byt.drop {l : List Int} (h : Byt l) (n : Nat) : Byt (l.drop n) := fun x hx => h x (List.mem_of_mem_drop hx)
theorem Byt.take {l : List Int} (h : Byt l) (n : Nat) : Byt (l.take n) := fun x hx => h x (List.mem_of_mem_take hx)
theorem Byt.rd {l : List Int} (h : Byt l) (i : Nat) (hi : i < l.length) : 0 ≤ rd l (i : Int) ∧ rd l (i : Int) < 256 := by
  rw [rd_at l i hi]
  exact h _ (List.getElem_mem hi)
def le32 (d : List Int) : Int := rd d 0 + 256 * rd d 1 + 65536 * rd d 2 + 16777216 * rd d 3
theorem or_add (a b : Int) (i : Nat) (ha0 : 0 ≤ a) (ha : a < 2 ^ i) (hb0 : 0 ≤ b) (hs : a + b * 2 ^ i < 4294967296) (hi : (1 : Int) ≤ 2 ^ i) : Go.bits .or .u32 a (b * 2 ^ i) = a + b * 2 ^ i := by
  have hm : 0 ≤ b * 2 ^ i := Int.mul_nonneg hb0 (by omega)
  rw [u32_or a (b * 2 ^ i) ha0 (by omega) hm (by omega)]
  obtain ⟨A, rfl⟩ := Int.eq_ofNat_of_zero_le ha0
  obtain ⟨B, rfl⟩ := Int.eq_ofNat_of_zero_le hb0
  have hA : A < 2 ^ i := by exact_mod_cast ha
  have e : ((B : Int) * 2 ^ i) = ((2 ^ i * B : Nat) : Int) := by rw [Nat.mul_comm]; push_cast; rfl
  rw [e, Int.toNat_natCast, Int.toNat_natCast, Nat.or_comm, ← Nat.two_pow_add_eq_or_of_lt hA B]
  push_cast
  omega
theorem uint32 (d : List Int) (h : Byt d) (hl : 4 ≤ d.length) : binary_littleEndian_Uint32.f d = some (le32 d) := by
  have h0 := h.rd 0 (by omega)
  have h1 := h.rd 1 (by omega)
  have h2 := h.rd 2 (by omega)
  have h3 := h.rd 3 (by omega)
  simp only [Int.cast_ofNat_Int] at h0 h1 h2 h3
  unfold binary_littleEndian_Uint32.f le32
  rw [if_pos (show (3 : Int) < (d.length : Int) by omega), if_pos (show (0 : Int) < (d.length : Int) by omega), if_pos (show (1 : Int) < (d.length : Int) by omega), if_pos (show (2 : Int) < (d.length : Int) by omega)]
  generalize rd d 0 = a at *
  generalize rd d 1 = b at *
  generalize rd d 2 = c at *
  generalize rd d 3 = e at *
  rw [show a % 4294967296 = a by omega, show b % 4294967296 * 256 % 4294967296 = b * 2 ^ 8 by omega, show c % 4294967296 * 65536 % 4294967296 = c * 2 ^ 16 by omega, show e % 4294967296 * 16777216 % 4294967296 = e * 2 ^ 24 by omega]
  rw [or_add a b 8 (by omega) (by omega) (by omega) (by omega) (by omega), or_add _ c 16 (by omega) (by omega) (by omega) (by omega) (by omega), or_add _ e 24 (by omega) (by omega) (by omega) (by omega) (by omega)]
  congr 1
  omega
theorem four_le32 (d : List Int) (h : Byt d) (hl : 4 ≤ d.length) : d.take 4 = four (le32 d) := by
  have h0 := h.rd 0 (by omega)
  have h1 := h.rd 1 (by omega)
  have h2 := h.rd 2 (by omega)
  have h3 := h.rd 3 (by omega)
  match d, hl with
  | a :: b :: c :: e :: r, _ =>
    have e0 : rd (a :: b :: c :: e :: r) ((0 : Nat) : Int) = a := rfl
    have e1 : rd (a :: b :: c :: e :: r) ((1 : Nat) : Int) = b := rfl
    have e2 : rd (a :: b :: c :: e :: r) ((2 : Nat) : Int) = c := rfl
    have e3 : rd (a :: b :: c :: e :: r) ((3 : Nat) : Int) = e := rfl
    rw [e0] at h0
    rw [e1] at h1
    rw [e2] at h2
    rw [e3] at h3
    have hle : le32 (a :: b :: c :: e :: r) = a + 256 * b + 65536 * c + 16777216 * e := rfl
    rw [hle]
    unfold four
    simp only [List.take_succ_cons, List.take_zero, List.cons.injEq, and_true]
    omega
theorem le32_four (x : Int) (h : U32 x) : le32 (four x) = x := by
  have hle : le32 (four x) = x % 256 + 256 * (x / 256 % 256) + 65536 * (x / 65536 % 256) + 16777216 * (x / 16777216 % 256) := rfl
  rw [hle]
  have h0 := h.1
  have h1 := h.2
  omega
theorem le32_u32 (d : List Int) (h : Byt d) (hl : 4 ≤ d.length) : U32 (le32 d) := by
  have h0 := h.rd 0 (by omega)
  have h1 := h.rd 1 (by omega)
  have h2 := h.rd 2 (by omega)
  have h3 := h.rd 3 (by omega)
  simp only [Int.cast_ofNat_Int] at h0 h1 h2 h3
  unfold le32 U32
  omega
def payM (d : List Int) : List Int := (d.take (8 + (le32 d).toNat)).drop 8
def goodM (d : List Int) : Prop := 8 ≤ d.length ∧ 1 ≤ le32 d ∧ le32 d ≤ 600 ∧ 8 + le32 d ≤ (d.length : Int) ∧ le32 (d.drop 4) = crcM (payM d)
instance (d : List Int) : Decidable (goodM d) := by unfold goodM; infer_instance
def oneM (d : List Int) : List Int := if goodM d then payM d else []
theorem pay_length (d : List Int) (h : 0 ≤ le32 d) (h2 : 8 + le32 d ≤ (d.length : Int)) : (payM d).length = (le32 d).toNat := by
  unfold payM
  rw [List.length_drop, List.length_take]
  omega
theorem spec_one (d : List Int) (h : Byt d) (hl : d.length ≤ 1048576) : Ev (fun k => spec_l02One.f k d) (oneM d) := by
  have bad : ¬ goodM d → Ev (fun k => spec_l02One.j0 k d true) (oneM d) := fun hg => EvS (by
    unfold oneM
    simp only [spec_l02One.j0, if_true, if_neg hg]
    exact EvN)
  unfold spec_l02One.f
  by_cases h9 : (d.length : Int) < 9
  · simp only [if_pos h9]
    exact bad fun hg => by unfold goodM at hg; omega
  have h0 := h.rd 0 (by omega)
  have h1 := h.rd 1 (by omega)
  have h2 := h.rd 2 (by omega)
  have h3 := h.rd 3 (by omega)
  simp only [Int.cast_ofNat_Int] at h0 h1 h2 h3
  have hle : le32 d = rd d 0 + 256 * rd d 1 + 65536 * rd d 2 + 16777216 * rd d 3 := rfl
  simp only [if_neg h9, if_pos (show (2 : Int) < (d.length : Int) by omega), if_pos (show (3 : Int) < (d.length : Int) by omega)]
  by_cases g2 : rd d 2 = 0
  · simp only [if_pos g2]
    by_cases g3 : rd d 3 = 0
    · simp only [g3, bne_self_eq_false]
      have hn : wrap64 (wrap64 (rd d 0) + wrap64 (256 * wrap64 (rd d 1))) = le32 d := by
        rw [w64 (x := rd d 0) (by omega) (by omega), w64 (x := rd d 1) (by omega) (by omega), w64 (x := 256 * rd d 1) (by omega) (by omega), w64 (by omega) (by omega)]
        omega
      refine EvS ?_
      simp only [spec_l02One.j0, Bool.false_eq_true, if_false, if_pos (show (0 : Int) < (d.length : Int) by omega), if_pos (show (1 : Int) < (d.length : Int) by omega), hn, sIn, Option.bind_some, decide_eq_true_eq, w64 (x := (d.length : Int) - 8) (by omega) (by omega)]
      by_cases g4 : 1 ≤ le32 d ∧ le32 d ≤ 600
      · simp only [if_pos g4]
        by_cases g5 : le32 d > (d.length : Int) - 8
        · simp only [if_pos g5, oneM, if_neg (show ¬ goodM d from fun hg => by unfold goodM at hg; omega)]
          exact EvN
        · have e8 : (8 + le32 d).toNat = 8 + (le32 d).toNat := by omega
          have hpl := pay_length d (by omega) (by omega)
          have hpay : (d.take (8 + (le32 d).toNat)).drop 8 = payM d := rfl
          simp only [if_neg g5, w64 (x := 8 + le32 d) (by omega) (by omega), if_pos (show 8 ≤ 8 + le32 d by omega), if_pos (show 0 ≤ 8 + le32 d by omega), if_pos (show 8 + le32 d ≤ (d.length : Int) by omega), e8, hpay, EvB (spec_frame (payM d) (by omega))]
          have hfl := frameM_le (payM d)
          simp only [EvB (l01Same (frameM (payM d)) (d.take (8 + (le32 d).toNat)) (by omega)), decide_eq_true_eq]
          have hok : okP (payM d) := by unfold okP; omega
          have hiff : frameM (payM d) = d.take (8 + (le32 d).toNat) ↔ le32 (d.drop 4) = crcM (payM d) := by
            have hs : d.take (8 + (le32 d).toNat) = four (payM d).length ++ four (le32 (d.drop 4)) ++ payM d := by
              have s1 : d.take (8 + (le32 d).toNat) = (d.take 4 ++ (d.drop 4).take 4) ++ payM d := by
                rw [← List.take_add, ← hpay]
                have s2 := (List.take_append_drop 8 (d.take (8 + (le32 d).toNat))).symm
                rw [List.take_take, show min 8 (8 + (le32 d).toNat) = 8 by omega] at s2
                exact s2
              rw [s1, four_le32 d h (by omega), four_le32 (d.drop 4) (h.drop 4) (by rw [List.length_drop]; omega), hpl, Int.toNat_of_nonneg (by omega)]
            rw [hs]
            unfold frameM
            rw [if_pos hok]
            constructor
            · intro e
              have e := List.append_cancel_right e
              have e := List.append_cancel_left e
              have e := congrArg le32 e
              rw [le32_four _ (crcM_u32 _), le32_four _ (le32_u32 _ (h.drop 4) (by rw [List.length_drop]; omega))] at e
              exact e.symm
            · intro e
              rw [e]
          by_cases g6 : le32 (d.drop 4) = crcM (payM d)
          · have hg : goodM d := by unfold goodM; exact ⟨by omega, g4.1, g4.2, by omega, g6⟩
            simp only [if_pos (hiff.2 g6), EvB (sBytes (payM d) (by omega)), oneM, if_pos hg]
            exact EvN
          · simp only [if_neg (fun e => g6 (hiff.1 e)), oneM, if_neg (show ¬ goodM d from fun hg => g6 hg.2.2.2.2)]
            exact EvN
      · simp only [if_neg g4, oneM, if_neg (show ¬ goodM d from fun hg => g4 ⟨hg.2.1, hg.2.2.1⟩)]
        exact EvN
    · have : (rd d 3 != 0) = true := bne_iff_ne.2 g3
      simp only [this]
      exact bad fun hg => by unfold goodM at hg; omega
  · simp only [if_neg g2]
    exact bad fun hg => by unfold goodM at hg; omega
def scanL : Nat → List Int → List (List Int)
  | 0, _ => []
  | n + 1, d => if (oneM d).length = 0 then [] else oneM d :: scanL n (d.drop (8 + (oneM d).length))
def usedL : List (List Int) → Int
  | [] => 0
  | p :: r => 8 + (p.length : Int) + usedL r
theorem one_le (d : List Int) : (oneM d).length = 0 ∨ (8 + (oneM d).length ≤ d.length ∧ goodM d ∧ oneM d = payM d ∧ ((oneM d).length : Int) = le32 d) := by
  unfold oneM
  by_cases h : goodM d
  · rw [if_pos h]
    have := pay_length d (by have := h.2.1; omega) h.2.2.2.1
    have h1 := h.2.1
    have h2 := h.2.2.2.1
    exact .inr ⟨by omega, h, rfl, by omega⟩
  · rw [if_neg h]; exact .inl rfl
theorem spec_scan (d : List Int) (h : Byt d) (hl : d.length ≤ 1048576) : ∀ (n pos : Nat) (acc : List (List Int)), pos ≤ d.length → d.length < pos + n → acc.length ≤ pos → Ev (fun k => spec_ScanFrames.l0 k d acc pos) (acc ++ scanL n (d.drop pos), (pos : Int) + usedL (scanL n (d.drop pos))) := by
  intro n
  induction n with
  | zero => intro pos acc h1 h2; omega
  | succ n ih =>
    intro pos acc h1 h2 h3
    refine EvS ?_
    have hd : (d.drop pos).length = d.length - pos := List.length_drop
    simp only [spec_ScanFrames.l0, if_pos (show 0 ≤ (pos : Int) by omega), if_pos (show (pos : Int) ≤ (d.length : Int) by omega), Int.toNat_natCast, EvB (spec_one (d.drop pos) (h.drop pos) (by omega)), scanL]
    rcases one_le (d.drop pos) with hz | ⟨hz, hg, hp, hp2⟩
    · simp only [hz, if_true, Int.cast_ofNat_Int, List.append_nil, usedL, Int.add_zero]
      exact EvN
    · have hne : ¬ (oneM (d.drop pos)).length = 0 := by have := hg.2.1; omega
      have hS : (acc.length < 5864062014805) = True := eq_true (by omega)
      have ew : wrap64 (wrap64 ((pos : Int) + 8) + ((oneM (d.drop pos)).length : Int)) = ((pos + (8 + (oneM (d.drop pos)).length) : Nat) : Int) := by
        rw [w64 (x := (pos : Int) + 8) (by omega) (by omega), w64 (by omega) (by omega)]
        omega
      simp only [if_neg (show ¬ ((oneM (d.drop pos)).length : Int) = 0 by omega), if_neg hne, hS, if_true, ew]
      have := ih (pos + (8 + (oneM (d.drop pos)).length)) (acc ++ [oneM (d.drop pos)]) (by omega) (by omega) (by simp; omega)
      rw [List.drop_drop, List.append_assoc] at *
      simp only [usedL]
      have eu : (pos : Int) + (8 + ((oneM (d.drop pos)).length : Int) + usedL (scanL n (d.drop (pos + (8 + (oneM (d.drop pos)).length))))) = ((pos + (8 + (oneM (d.drop pos)).length) : Nat) : Int) + usedL (scanL n (d.drop (pos + (8 + (oneM (d.drop pos)).length)))) := by omega
      rw [eu]
      exact this
theorem impl_scan (d : List Int) (h : Byt d) (hl : d.length ≤ 1048576) : ∀ (n pos : Nat) (acc : List (List Int)), pos ≤ d.length → d.length < pos + n → acc.length ≤ pos → Ev (fun k => impl_scanFrames.l0 k d acc pos) (acc ++ scanL n (d.drop pos), (pos : Int) + usedL (scanL n (d.drop pos))) := by
  intro n
  induction n with
  | zero => intro pos acc h1 h2; omega
  | succ n ih =>
    intro pos acc h1 h2 h3
    refine EvS ?_
    have hd : (d.drop pos).length = d.length - pos := List.length_drop
    have hb := h.drop pos
    have stop : ¬ goodM (d.drop pos) → (acc ++ scanL (n + 1) (d.drop pos), (pos : Int) + usedL (scanL (n + 1) (d.drop pos))) = (acc, (pos : Int)) := fun hg => by
      have hz : (oneM (d.drop pos)).length = 0 := by unfold oneM; rw [if_neg hg]; rfl
      simp only [scanL, hz, if_true, List.append_nil, usedL, Int.add_zero]
    simp only [impl_scanFrames.l0, if_pos (show 0 ≤ (pos : Int) by omega), if_pos (show (pos : Int) ≤ (d.length : Int) by omega), Int.toNat_natCast]
    by_cases h8 : ((d.drop pos).length : Int) < 8
    · simp only [if_pos h8]
      rw [stop fun hg => by have := hg.1; omega]
      exact EvN
    have hu := le32_u32 (d.drop pos) hb (by omega)
    have hu0 := hu.1
    have hu1 := hu.2
    simp only [if_neg h8, uint32 (d.drop pos) hb (by omega), Option.bind_some]
    have J : ∀ q : Bool, q = decide (¬ (1 ≤ le32 (d.drop pos) ∧ le32 (d.drop pos) ≤ 600 ∧ 8 + le32 (d.drop pos) ≤ ((d.drop pos).length : Int))) → Ev (fun k => impl_scanFrames.j1 k d acc pos (d.drop pos) (le32 (d.drop pos)) q) (acc ++ scanL (n + 1) (d.drop pos), (pos : Int) + usedL (scanL (n + 1) (d.drop pos))) := by
      intro q hq
      subst hq
      refine EvS ?_
      by_cases hc : 1 ≤ le32 (d.drop pos) ∧ le32 (d.drop pos) ≤ 600 ∧ 8 + le32 (d.drop pos) ≤ ((d.drop pos).length : Int)
      · have e8 : (8 + le32 (d.drop pos)).toNat = 8 + (le32 (d.drop pos)).toNat := by omega
        have em : (8 + le32 (d.drop pos)) % 4294967296 = 8 + le32 (d.drop pos) := by omega
        have hpay : ((d.drop pos).take (8 + (le32 (d.drop pos)).toNat)).drop 8 = payM (d.drop pos) := rfl
        have hpl := pay_length (d.drop pos) hu0 hc.2.2
        have hS : (acc.length < 5864062014805) = True := eq_true (by omega)
        have hS2 : (([] : List Int).length + (payM (d.drop pos)).length < 140737488355328) = True := eq_true (by simp only [List.length_nil]; omega)
        simp only [impl_scanFrames.j1, hc, not_true_eq_false, and_self, decide_false, Bool.false_eq_true, if_false, em, if_pos (show 8 ≤ 8 + le32 (d.drop pos) by omega), if_pos hc.2.2, if_pos (show (4 : Int) ≤ ((d.drop pos).length : Int) by omega), e8, hpay, uint32 ((d.drop pos).drop 4) (hb.drop 4) (by rw [List.length_drop]; omega), Option.bind_some, EvB (impl_crc (payM (d.drop pos)) (by omega)), hS, hS2, if_true, List.nil_append]
        by_cases hq : le32 ((d.drop pos).drop 4) = crcM (payM (d.drop pos))
        · have hg : goodM (d.drop pos) := ⟨by omega, hc.1, hc.2.1, hc.2.2, hq⟩
          have ho : oneM (d.drop pos) = payM (d.drop pos) := by unfold oneM; rw [if_pos hg]
          have ew : wrap64 ((pos : Int) + wrap64 (8 + wrap64 (le32 (d.drop pos)))) = ((pos + (8 + (payM (d.drop pos)).length) : Nat) : Int) := by
            rw [w64 (x := le32 (d.drop pos)) (by omega) (by omega), w64 (x := 8 + le32 (d.drop pos)) (by omega) (by omega), w64 (by omega) (by omega)]
            omega
          simp only [if_pos hq, ew]
          have := ih (pos + (8 + (payM (d.drop pos)).length)) (acc ++ [payM (d.drop pos)]) (by omega) (by omega) (by simp; omega)
          simp only [scanL, ho, if_neg (show ¬ (payM (d.drop pos)).length = 0 by omega)]
          rw [List.drop_drop, List.append_assoc] at *
          simp only [usedL]
          have eu : (pos : Int) + (8 + ((payM (d.drop pos)).length : Int) + usedL (scanL n (d.drop (pos + (8 + (payM (d.drop pos)).length))))) = ((pos + (8 + (payM (d.drop pos)).length) : Nat) : Int) + usedL (scanL n (d.drop (pos + (8 + (payM (d.drop pos)).length)))) := by omega
          rw [eu]
          exact this
        · rw [stop fun hg => hq hg.2.2.2.2]
          simp only [if_neg hq]
          exact EvN
      · rw [stop fun hg => hc ⟨hg.2.1, hg.2.2.1, hg.2.2.2.1⟩]
        simp only [impl_scanFrames.j1, hc, not_false_eq_true, decide_true, if_true]
        exact EvN
    by_cases g1 : le32 (d.drop pos) < 1
    · simp only [if_pos g1]
      exact J _ (by rw [decide_eq_true]; omega)
    by_cases g2 : le32 (d.drop pos) > 600
    · simp only [if_neg g1, if_pos g2]
      exact J _ (by rw [decide_eq_true]; omega)
    simp only [if_neg g1, if_neg g2]
    refine J _ ?_
    rw [w64 (x := le32 (d.drop pos)) (by omega) (by omega), w64 (x := 8 + le32 (d.drop pos)) (by omega) (by omega)]
    by_cases g3 : ((d.drop pos).length : Int) < 8 + le32 (d.drop pos)
    · rw [decide_eq_true g3, decide_eq_true (by omega)]
    · rw [decide_eq_false g3, decide_eq_false (by omega)]
def scanM (d : List Int) : List (List Int) := scanL (d.length + 1) d
theorem implScan (d : List Int) (h : Byt d) (hl : d.length ≤ 1048576) : Ev (fun k => impl_scanFrames.f k d) (scanM d, usedL (scanM d)) := by
  have := impl_scan d h hl (d.length + 1) 0 [] (by omega) (by omega) (by simp)
  rw [show (((0 : Nat) : Int) + usedL (scanL (d.length + 1) (d.drop 0))) = usedL (scanL (d.length + 1) (d.drop 0)) by omega] at this
  exact this
theorem specScan (d : List Int) (h : Byt d) (hl : d.length ≤ 1048576) : Ev (fun k => spec_ScanFrames.f k d) (if (d.length : Int) > 20000 then ([], 0) else (scanM d, usedL (scanM d))) := by
  unfold spec_ScanFrames.f
  by_cases h2 : (d.length : Int) > 20000
  · simp only [if_pos h2]; exact EvN
  · simp only [if_neg h2]
    have := spec_scan d h hl (d.length + 1) 0 [] (by omega) (by omega) (by simp)
    rw [show (((0 : Nat) : Int) + usedL (scanL (d.length + 1) (d.drop 0))) = usedL (scanL (d.length + 1) (d.drop 0)) by omega] at this
    exact this
end Go.Proofs.YtcgojdhbphocgaaDoor.SC

namespace Go.Proofs.YtcgojdhbphocgaaDoor.DK
set_option linter.unusedVariables false
set_option linter.unusedSimpArgs false
open Go.RowKit Go.Proofs.YtcgojdhbphocgaaDoor.F Go.Proofs.YtcgojdhbphocgaaDoor.PK Go.Proofs.YtcgojdhbphocgaaDoorW.PrintWords Go.Proofs.YtcgojdhbphocgaaDoorW.PrintLast Go.Proofs.YtcgojdhbphocgaaDoorW.PrintMore
theorem nxt (i n : Nat) (h : i < n) (hn : n ≤ 9223372036854775807) : wrap64 ((i : Int) + 1) = ((i + 1 : Nat) : Int) := by rw [w64 (by omega) (by omega)]; omega
def inB (b : UInt8) : Bool := decide ((97 ≤ b.toNat ∧ b.toNat ≤ 122) ∨ (48 ≤ b.toNat ∧ b.toNat ≤ 57))
def nameM (s : ByteArray) : Bool := s.data.toList.all inB && decide (1 ≤ s.size ∧ s.size ≤ 12)
theorem bt_get (s : ByteArray) (i : Nat) (h : i < s.data.toList.length) : bt s (i : Int) = (s.data.toList[i].toNat : Int) := by
  have hs : i < s.size := by rw [← data_length]; exact h
  unfold bt
  rw [dif_pos (show (i : Int).toNat < s.size by rw [Int.toNat_natCast]; exact hs)]
  simp
  rfl
theorem spec_name (s : ByteArray) (hs : s.size ≤ 9223372036854775807) : Ev (fun k => spec_l01Name.f k s) (nameM s) := by
  have hl := data_length s
  have key := up0 (P := fun i => Ev (fun k => spec_l01Name.l0 k s i) ((s.data.toList.drop i.toNat).all inB && decide (1 ≤ s.size ∧ s.size ≤ 12))) s.size
    (EvS (by
      simp only [spec_l01Name.l0, Int.lt_irrefl, if_false, Int.toNat_natCast, spec_l01In.f]
      rw [List.drop_eq_nil_of_le (by omega), List.all_nil, Bool.true_and]
      by_cases h1 : 1 ≤ (s.size : Int)
      · simp only [if_pos h1, Option.bind_some]
        rw [show decide ((s.size : Int) ≤ 12) = decide (1 ≤ s.size ∧ s.size ≤ 12) from decide_eq_decide.2 (by omega)]
        exact EvN
      · simp only [if_neg h1, Option.bind_some]
        rw [decide_eq_false (show ¬ (1 ≤ s.size ∧ s.size ≤ 12) by omega)]
        exact EvN))
    (fun i hi ih => EvS (by
      have hil : i < s.data.toList.length := by omega
      rw [Int.toNat_natCast] at *
      rw [drop_at _ i hil, List.all_cons]
      simp only [spec_l01Name.l0, if_pos (show (i : Int) < (s.size : Int) by omega), if_pos (show 0 ≤ (i : Int) by omega), nxt i _ hi hs]
      have hb := bt_get s i hil
      generalize bt s (i : Int) = x at hb ⊢
      generalize s.data.toList[i] = b at hb ⊢
      by_cases c1 : x ≥ 97
      · by_cases c2 : x ≤ 122
        · simp only [if_pos c1, if_pos c2, show inB b = true from decide_eq_true (by omega), Bool.true_and]; exact ih
        · by_cases c3 : x ≥ 48
          · simp only [if_pos c1, if_neg c2, if_pos c3, if_neg (show ¬ x ≤ 57 by omega), show inB b = false from decide_eq_false (by omega), Bool.false_and]; exact EvN
          · omega
      · by_cases c3 : x ≥ 48
        · by_cases c4 : x ≤ 57
          · simp only [if_neg c1, if_pos c3, if_pos c4, show inB b = true from decide_eq_true (by omega), Bool.true_and]; exact ih
          · simp only [if_neg c1, if_pos c3, if_neg c4, show inB b = false from decide_eq_false (by omega), Bool.false_and]; exact EvN
        · simp only [if_neg c1, if_neg c3, show inB b = false from decide_eq_false (by omega), Bool.false_and]; exact EvN))
  unfold spec_l01Name.f nameM
  exact key
def cutB : List UInt8 := [97, 98, 99, 100, 101, 102, 103, 104, 105, 106, 107, 108, 109, 110, 111, 112, 113, 114, 115, 116, 117, 118, 119, 120, 121, 122, 48, 49, 50, 51, 52, 53, 54, 55, 56, 57]
theorem cut_in (b : UInt8) : cutB.contains b = inB b := by
  have h : ∀ n : Fin 256, cutB.contains (UInt8.ofNat n.val) = inB (UInt8.ofNat n.val) := by decide +kernel
  have := h ⟨b.toNat, b.toNat_lt⟩
  simpa using this
theorem dw_nil {α : Type} (p : α → Bool) : ∀ l : List α, l.dropWhile p = [] ↔ ∀ x ∈ l, p x = true
  | [] => by simp
  | a :: l => by
    rw [List.dropWhile_cons]
    by_cases h : p a = true
    · rw [if_pos h, dw_nil p l]
      simp [h]
    · rw [if_neg h]
      simp [h]
theorem dw_head {α : Type} (p : α → Bool) : ∀ (l : List α) (x : α) (r : List α), l.dropWhile p = x :: r → p x = false
  | [], x, r, h => by simp at h
  | a :: l, x, r, h => by
    rw [List.dropWhile_cons] at h
    by_cases hp : p a = true
    · rw [if_pos hp] at h
      exact dw_head p l x r h
    · rw [if_neg hp] at h
      injection h with h1 _
      rw [← h1]
      exact Bool.eq_false_iff.2 hp
theorem dw_mem {α : Type} (p : α → Bool) : ∀ (l : List α) (x : α), x ∈ l.dropWhile p → x ∈ l
  | [], x, h => by simp at h
  | a :: l, x, h => by
    rw [List.dropWhile_cons] at h
    by_cases hp : p a = true
    · rw [if_pos hp] at h
      exact List.mem_cons_of_mem _ (dw_mem p l x h)
    · rw [if_neg hp] at h
      exact h
theorem trim_nil (l : List UInt8) : (Go.Lib.trimS l cutB == []) = l.all inB := by
  unfold Go.Lib.trimS Go.Lib.trimLeftS Go.Lib.trimRightS
  rw [Bool.eq_iff_iff, beq_iff_eq, dw_nil, List.all_eq_true]
  constructor
  · intro h
    have hd : l.reverse.dropWhile (cutB.contains ·) = [] := by
      cases hq : l.reverse.dropWhile (cutB.contains ·) with
      | nil => rfl
      | cons x r =>
        have h1 := h x (by rw [hq]; simp)
        have h2 := dw_head (cutB.contains ·) _ _ _ hq
        rw [h1] at h2
        cases h2
    rw [dw_nil] at hd
    intro x hx
    rw [← cut_in]
    exact hd x (List.mem_reverse.2 hx)
  · intro h x hx
    rw [cut_in]
    exact h x (List.mem_reverse.1 (dw_mem _ _ _ (List.mem_reverse.1 hx)))
theorem impl_name (s : ByteArray) (hs : s.size ≤ 9223372036854775807) : impl_isFileName.f s = some (nameM s) := by
  unfold impl_isFileName.f nameM
  by_cases h1 : (s.size : Int) ≥ 1
  · by_cases h2 : (s.size : Int) ≤ 12
    · have ht : trimF.f s (⟨#[97, 98, 99, 100, 101, 102, 103, 104, 105, 106, 107, 108, 109, 110, 111, 112, 113, 114, 115, 116, 117, 118, 119, 120, 121, 122, 48, 49, 50, 51, 52, 53, 54, 55, 56, 57]⟩ : ByteArray) = some ⟨(Go.Lib.trimS s.data.toList cutB).toArray⟩ := by
        unfold trimF.f
        rw [if_pos ⟨hs, by decide, by decide⟩]
        rfl
      simp only [if_pos h1, if_pos h2, ht, Option.bind_some]
      rw [Go.Lib.toList_data, trim_nil, decide_eq_true (show 1 ≤ s.size ∧ s.size ≤ 12 by omega), Bool.and_true]
    · simp only [if_pos h1, if_neg h2]
      rw [decide_eq_false (show ¬ (1 ≤ s.size ∧ s.size ≤ 12) by omega), Bool.and_false]
  · simp only [if_neg h1]
    rw [decide_eq_false (show ¬ (1 ≤ s.size ∧ s.size ≤ 12) by omega), Bool.and_false]
end Go.Proofs.YtcgojdhbphocgaaDoor.DK

namespace Go.Proofs.YtcgojdhbphocgaaDoor.DK
set_option linter.unusedVariables false
set_option linter.unusedSimpArgs false
open Go.RowKit Go.Proofs.YtcgojdhbphocgaaDoor.F Go.Proofs.YtcgojdhbphocgaaDoor.PK Go.Proofs.YtcgojdhbphocgaaDoorW.PrintWords Go.Proofs.YtcgojdhbphocgaaDoorW.PrintLast Go.Proofs.YtcgojdhbphocgaaDoorW.PrintMore
open Go.Proofs.YtcgojdhbphocgaaDoor.BY (toByteS eqByteS)
theorem rd55 (l : List S55) (i : Nat) (h : i < l.length) : rd_T55 l (i : Int) = l[i] := getD_nat l _ i h
theorem rd83 (l : List S83) (i : Nat) (h : i < l.length) : rd_T83 l (i : Int) = l[i] := getD_nat l _ i h
def conv83 (x : S83) : S55 := ⟨x.f0, x.f1, x.f2⟩
theorem toFile (a : ByteArray) (b c : List Int) (hb : b.length ≤ 1048576) (hc : c.length ≤ 1048576) : Ev (fun k => laws_toFile.f k a b c) (a, b, c) := by
  unfold laws_toFile.f
  simp only [EvB (toByteS b hb), EvB (toByteS c hc)]
  exact EvN
theorem toFileS (l : List S83) (hl : l.length ≤ 1048576) (hs : ∀ y ∈ l, y.f1.length ≤ 1048576 ∧ y.f2.length ≤ 1048576) : Ev (fun k => laws_toFileS.f k l) (l.map conv83) := by
  have key := up (P := fun i => ∀ x : List S55, x.length = l.length → (∀ j : Nat, (j : Int) < i → x[j]? = (l.map conv83)[j]?) → Ev (fun k => laws_toFileS.l0 k l x i) (l.map conv83)) l.length
      (fun x h0 h1 => by
        have : x = l.map conv83 := List.ext_getElem? fun j => by
          by_cases hj : j < l.length
          · exact h1 j (by omega)
          · rw [List.getElem?_eq_none (by omega), List.getElem?_eq_none (by rw [List.length_map]; omega)]
        subst this
        exact EvS (by simp only [laws_toFileS.l0, Int.lt_irrefl, if_false]; exact EvN))
      (fun i hi ih x h0 h1 => by
        have hy := hs _ (List.getElem_mem hi)
        refine EvS ?_
        simp only [laws_toFileS.l0, rd83 l i hi, EvB (toFile l[i].f0 l[i].f1 l[i].f2 hy.1 hy.2), h0, Int.toNat_natCast, if_pos (show (i : Int) < (l.length : Int) by omega), if_pos (show 0 ≤ (i : Int) by omega), nxt i _ hi (by omega)]
        refine ih _ (by simpa using h0) fun j hj => ?_
        by_cases hji : j = i
        · subst hji
          rw [List.getElem?_set_self (by omega)]
          simp [List.getElem?_eq_getElem hi, conv83]
        · rw [List.getElem?_set_ne (by omega)]
          exact h1 j (by omega))
  have := key 0 (Nat.zero_le _) (List.replicate l.length z55) (by simp) (fun j hj => absurd hj (by omega))
  unfold laws_toFileS.f
  have hS : (l.length ≤ 4398046511104) = True := eq_true (by omega)
  simp only [Int.toNat_natCast, if_pos (show 0 ≤ (l.length : Int) by omega), hS, if_true]
  exact this
theorem toDisk (l : List S83) (hl : l.length ≤ 1048576) (hs : ∀ y ∈ l, y.f1.length ≤ 1048576 ∧ y.f2.length ≤ 1048576) : Ev (fun k => laws_toDisk.f k l) (l.map conv83) := by
  unfold laws_toDisk.f
  simp only [EvB (toFileS l hl hs)]
  exact EvN
theorem szByteS (l : List Int) (c : Int) (h0 : 0 ≤ c) (h1 : c ≤ 1048576) (hl : l.length ≤ 9223372036854775807) : ∃ t, laws_szByteS.f l c = some t ∧ t ≤ c ∧ (0 ≤ t → (l.length : Int) ≤ c) := by
  unfold laws_szByteS.f
  rw [w64 (by omega) (by omega)]
  split
  · exact ⟨_, rfl, by omega, by omega⟩
  · exact ⟨_, rfl, by omega, by omega⟩
theorem szFile (a : ByteArray) (b d : List Int) (c : Int) (h0 : 0 ≤ c) (h1 : c ≤ 1048576) (ha : a.size ≤ 9223372036854775807) (hb : b.length ≤ 9223372036854775807) (hd : d.length ≤ 9223372036854775807) : ∃ t, laws_szFile.f a b d c = some t ∧ t ≤ c ∧ (0 ≤ t → b.length ≤ 1048576 ∧ d.length ≤ 1048576) := by
  unfold laws_szFile.f
  rw [w64 (by omega) (by omega)]
  by_cases g : c - (a.size : Int) < 0
  · exact ⟨-1, by rw [if_pos g], by omega, by omega⟩
  obtain ⟨t, e, a1, a2⟩ := szByteS b (c - (a.size : Int)) (by omega) (by omega) hb
  by_cases g1 : t < 0
  · exact ⟨-1, by simp only [if_neg g, e, Option.bind_some, if_pos g1], by omega, by omega⟩
  obtain ⟨u, e2, b1, b2⟩ := szByteS d t (by omega) (by omega) hd
  by_cases g2 : u < 0
  · exact ⟨-1, by simp only [if_neg g, e, Option.bind_some, if_neg g1, e2, if_pos g2], by omega, by omega⟩
  · exact ⟨u, by simp only [if_neg g, e, Option.bind_some, if_neg g1, e2, if_neg g2], by omega, by omega⟩
def wfF (l : List S83) : Prop := ∀ y ∈ l, y.f0.size ≤ 9223372036854775807 ∧ y.f1.length ≤ 9223372036854775807 ∧ y.f2.length ≤ 9223372036854775807
theorem szFileS (l : List S83) (hl : l.length ≤ 9223372036854775807) (hs : wfF l) : ∃ t, Ev (fun k => laws_szFileS.f k l 1048576) t ∧ (0 ≤ t → l.length ≤ 1048576 ∧ ∀ y ∈ l, y.f1.length ≤ 1048576 ∧ y.f2.length ≤ 1048576) := by
  by_cases h : (1048576 - (l.length : Int)) < 0
  · refine ⟨-1, ?_, by omega⟩
    unfold laws_szFileS.f
    rw [w64 (by omega) (by omega)]
    simp only [if_pos h]
    exact EvN
  · have key := up (P := fun i => ∀ x, 0 ≤ x → x ≤ 1048576 → ∃ t, Ev (fun k => laws_szFileS.l0 k l x i) t ∧ (0 ≤ t → ∀ y ∈ l.drop i.toNat, y.f1.length ≤ 1048576 ∧ y.f2.length ≤ 1048576)) l.length
      (fun x g0 g1 => ⟨x, EvS (by simp only [laws_szFileS.l0, Int.lt_irrefl, if_false]; exact EvN), fun _ y hy => by rw [Int.toNat_natCast, List.drop_length] at hy; cases hy⟩)
      (fun i hi ih x g0 g1 => by
        have hz := hs _ (List.getElem_mem hi)
        obtain ⟨t, e1, e2, e3⟩ := szFile l[i].f0 l[i].f1 l[i].f2 x g0 g1 hz.1 hz.2.1 hz.2.2
        by_cases h2 : t < 0
        · refine ⟨-1, EvS ?_, by omega⟩
          simp only [laws_szFileS.l0, rd83 l i hi, e1, Option.bind_some, if_pos h2, if_pos (show (i : Int) < (l.length : Int) by omega), if_pos (show 0 ≤ (i : Int) by omega)]
          exact EvN
        · obtain ⟨t', h3, h4⟩ := ih t (by omega) (by omega)
          refine ⟨t', EvS ?_, fun ht y hy => ?_⟩
          · simp only [laws_szFileS.l0, rd83 l i hi, e1, Option.bind_some, if_neg h2, if_pos (show (i : Int) < (l.length : Int) by omega), if_pos (show 0 ≤ (i : Int) by omega), nxt i _ hi hl]
            exact h3
          · rw [Int.toNat_natCast, drop_at l i hi] at hy
            rcases List.mem_cons.1 hy with rfl | hy
            · exact e3 (by omega)
            · exact h4 ht y (by rw [Int.toNat_natCast]; exact hy))
    obtain ⟨t, h2, h3⟩ := key 0 (Nat.zero_le _) (1048576 - (l.length : Int)) (by omega) (by omega)
    refine ⟨t, ?_, fun ht => ⟨by omega, fun y hy => h3 ht y (by simpa using hy)⟩⟩
    unfold laws_szFileS.f
    rw [w64 (by omega) (by omega)]
    simp only [if_neg h]
    exact h2
theorem szDisk (l : List S83) (hl : l.length ≤ 9223372036854775807) (hs : wfF l) : ∃ t, Ev (fun k => laws_szDisk.f k l 1048576) t ∧ (0 ≤ t → l.length ≤ 1048576 ∧ ∀ y ∈ l, y.f1.length ≤ 1048576 ∧ y.f2.length ≤ 1048576) := by
  obtain ⟨t, h1, h2⟩ := szFileS l hl hs
  unfold laws_szDisk.f
  by_cases h : t < 0
  · exact ⟨-1, by simp only [EvB h1, if_pos h]; exact EvN, by omega⟩
  · exact ⟨t, by simp only [EvB h1, if_neg h]; exact EvN, h2⟩
theorem eqFile (a : ByteArray) (b c : List Int) (hb : b.length ≤ 9223372036854775807) (hc : c.length ≤ 9223372036854775807) : Ev (fun k => laws_eqFile.f k a b c a b c) true := by
  unfold laws_eqFile.f
  simp only [if_true, EvB (eqByteS b hb), EvB (eqByteS c hc)]
  exact EvN
theorem eqFileS (x : List S55) (hx : x.length ≤ 9223372036854775807) (hy : ∀ y ∈ x, y.f1.length ≤ 9223372036854775807 ∧ y.f2.length ≤ 9223372036854775807) : Ev (fun k => laws_eqFileS.f k x x) true := by
  have key := up (P := fun i => Ev (fun k => laws_eqFileS.l0 k x x i) true) x.length
    (EvS (by simp only [laws_eqFileS.l0, Int.lt_irrefl, if_false]; exact EvN))
    (fun i hi ih => EvS (by
      have e := eqFile x[i].f0 x[i].f1 x[i].f2 (hy _ (List.getElem_mem hi)).1 (hy _ (List.getElem_mem hi)).2
      simp only [laws_eqFileS.l0, rd55 x i hi, if_pos (show (i : Int) < (x.length : Int) by omega), if_pos (show 0 ≤ (i : Int) by omega), EvB e, if_true, nxt i _ hi hx]; exact ih))
  have := key 0 (Nat.zero_le _)
  unfold laws_eqFileS.f
  simp only [if_true]
  exact this
theorem eqDisk (x : List S55) (hx : x.length ≤ 9223372036854775807) (hy : ∀ y ∈ x, y.f1.length ≤ 9223372036854775807 ∧ y.f2.length ≤ 9223372036854775807) : Ev (fun k => laws_eqDisk.f k x x) true := by
  unfold laws_eqDisk.f
  simp only [EvB (eqFileS x hx hy), if_true]
  exact EvN
def okAt (l : List S55) (i : Nat) : Bool := nameM (rd_T55 l i).f0 && (decide ((rd_T55 l i).f1.length + (rd_T55 l i).f2.length ≤ 20000) && (decide (i = 0) || Op.bytesLess (rd_T55 l ((i - 1 : Nat) : Int)).f0.toList (rd_T55 l i).f0.toList))
def goD (l : List S55) : Nat → Nat → Bool
  | 0, _ => true
  | d + 1, i => okAt l i && goD l d (i + 1)
def diskM (l : List S55) : Bool := decide (l.length ≤ 8) && goD l l.length 0
def wfD (l : List S55) : Prop := ∀ y ∈ l, y.f0.size ≤ 9223372036854775807 ∧ y.f1.length ≤ 1048576 ∧ y.f2.length ≤ 1048576
theorem specGo (l : List S55) (hl : l.length ≤ 1048576) (hw : wfD l) : ∀ d i : Nat, d + i = l.length → Ev (fun k => spec_DiskOk.l0 k i l) (goD l d i) := by
  intro d
  induction d with
  | zero =>
    intro i hi
    refine EvS ?_
    simp only [spec_DiskOk.l0, if_neg (show ¬ (i : Int) < (l.length : Int) by omega)]
    exact EvN
  | succ d ih =>
    intro i hi
    have hil : i < l.length := by omega
    have hy := hw _ (List.getElem_mem hil)
    refine EvS ?_
    have hn := spec_name l[i].f0 hy.1
    have h := ih (i + 1) (by omega)
    rw [← rd55 l i hil] at hn hy
    unfold goD okAt
    simp only [spec_DiskOk.l0, if_pos (show (i : Int) < (l.length : Int) by omega), if_pos (show 0 ≤ (i : Int) by omega), EvB hn, nxt i _ hil (by omega)]
    generalize rd_T55 l (i : Int) = y at hy hn ⊢
    by_cases c1 : nameM y.f0 = true
    · by_cases c2 : (y.f1.length : Int) > 20000
      · simp only [if_pos c1, if_pos c2, decide_eq_false (show ¬ y.f1.length + y.f2.length ≤ 20000 by omega), Bool.false_and, Bool.and_false]; exact EvN
      · have hw1 : wrap64 (20000 - (y.f1.length : Int)) = 20000 - (y.f1.length : Int) := w64 (by omega) (by omega)
        by_cases c3 : (y.f2.length : Int) > 20000 - (y.f1.length : Int)
        · simp only [if_pos c1, if_neg c2, hw1, if_pos c3, decide_eq_false (show ¬ y.f1.length + y.f2.length ≤ 20000 by omega), Bool.false_and, Bool.and_false]; exact EvN
        · simp only [if_pos c1, if_neg c2, hw1, if_neg c3, c1, decide_eq_true (show y.f1.length + y.f2.length ≤ 20000 by omega), Bool.true_and]
          by_cases c4 : i = 0
          · simp only [if_neg (show ¬ (i : Int) > 0 by omega), decide_eq_true c4, Bool.true_or, Bool.true_and]; exact h
          · have hw2 : wrap64 ((i : Int) - 1) = ((i - 1 : Nat) : Int) := by rw [w64 (by omega) (by omega)]; omega
            simp only [if_pos (show (i : Int) > 0 by omega), hw2, if_pos (show 0 ≤ ((i - 1 : Nat) : Int) by omega), if_pos (show ((i - 1 : Nat) : Int) < (l.length : Int) by omega), decide_eq_false c4, Bool.false_or]
            by_cases c5 : Op.bytesLess (rd_T55 l ((i - 1 : Nat) : Int)).f0.toList y.f0.toList = true
            · simp only [if_pos c5, c5, Bool.true_and]; exact h
            · simp only [if_neg c5, Bool.eq_false_iff.2 c5, Bool.false_and]; exact EvN
    · simp only [if_neg c1, Bool.eq_false_iff.2 c1, Bool.false_and]; exact EvN
theorem implGo (l : List S55) (hl : l.length ≤ 1048576) (hw : wfD l) : ∀ d i : Nat, d + i = l.length → Ev (fun k => impl_isDisk.l0 k l (l.length : Int) i l) (goD l d i && decide (l.length ≤ 8)) := by
  intro d
  induction d with
  | zero =>
    intro i hi
    refine EvS ?_
    simp only [impl_isDisk.l0, if_neg (show ¬ (i : Int) < (l.length : Int) by omega), goD, Bool.true_and]
    rw [show decide ((l.length : Int) ≤ 8) = decide (l.length ≤ 8) from decide_eq_decide.2 (by omega)]
    exact EvN
  | succ d ih =>
    intro i hi
    have hil : i < l.length := by omega
    have hy := hw _ (List.getElem_mem hil)
    refine EvS ?_
    have hn := impl_name l[i].f0 hy.1
    have h := ih (i + 1) (by omega)
    rw [← rd55 l i hil] at hn hy
    unfold goD okAt
    simp only [impl_isDisk.l0, if_pos (show (i : Int) < (l.length : Int) by omega), if_pos (show 0 ≤ (i : Int) by omega), hn, Option.bind_some, nxt i _ hil (by omega)]
    generalize rd_T55 l (i : Int) = y at hy hn ⊢
    by_cases c1 : nameM y.f0 = true
    · have hw1 : wrap64 ((y.f1.length : Int) + (y.f2.length : Int)) = (y.f1.length : Int) + (y.f2.length : Int) := w64 (by omega) (by omega)
      by_cases c3 : (y.f1.length : Int) + (y.f2.length : Int) > 20000
      · simp only [if_pos c1, hw1, if_pos c3, decide_eq_false (show ¬ y.f1.length + y.f2.length ≤ 20000 by omega), Bool.false_and, Bool.and_false]; exact EvN
      · simp only [if_pos c1, hw1, if_neg c3, c1, decide_eq_true (show y.f1.length + y.f2.length ≤ 20000 by omega), Bool.true_and]
        by_cases c4 : i = 0
        · simp only [if_neg (show ¬ (i : Int) > 0 by omega), decide_eq_true c4, Bool.true_or, Bool.true_and]; exact h
        · have hw2 : wrap64 ((i : Int) - 1) = ((i - 1 : Nat) : Int) := by rw [w64 (by omega) (by omega)]; omega
          simp only [if_pos (show (i : Int) > 0 by omega), hw2, if_pos (show 0 ≤ ((i - 1 : Nat) : Int) by omega), if_pos (show ((i - 1 : Nat) : Int) < (l.length : Int) by omega), decide_eq_false c4, Bool.false_or]
          by_cases c5 : Op.bytesLess (rd_T55 l ((i - 1 : Nat) : Int)).f0.toList y.f0.toList = true
          · simp only [if_pos c5, c5, Bool.true_and]; exact h
          · simp only [if_neg c5, Bool.eq_false_iff.2 c5, Bool.false_and]; exact EvN
    · simp only [if_neg c1, Bool.eq_false_iff.2 c1, Bool.false_and]; exact EvN
theorem spec_disk (l : List S55) (hl : l.length ≤ 1048576) (hw : wfD l) : Ev (fun k => spec_DiskOk.f k l) (diskM l) := by
  unfold spec_DiskOk.f diskM
  by_cases h : l.length ≤ 8
  · simp only [if_neg (show ¬ (l.length : Int) > 8 by omega), decide_eq_true h, Bool.true_and]
    exact specGo l hl hw l.length 0 rfl
  · simp only [if_pos (show (l.length : Int) > 8 by omega), decide_eq_false h, Bool.false_and]
    exact EvN
theorem impl_disk (l : List S55) (hl : l.length ≤ 1048576) (hw : wfD l) : Ev (fun k => impl_isDisk.f k l) (diskM l) := by
  unfold impl_isDisk.f diskM
  rw [Bool.and_comm]
  exact implGo l hl hw l.length 0 rfl
end Go.Proofs.YtcgojdhbphocgaaDoor.DK

namespace Go.Proofs.YtcgojdhbphocgaaDoor.F
open Go.RowKit Go.Proofs.YtcgojdhbphocgaaDoorW.PrintWords Go.Proofs.YtcgojdhbphocgaaDoorW.PrintWords.Kd Go.Proofs.YtcgojdhbphocgaaDoorW.PrintMore.Kd Go.Proofs.YtcgojdhbphocgaaDoorW.PrintLast Go.Proofs.YtcgojdhbphocgaaDoorW.PrintMore
attribute [local go_sem] max2_int min2_int max_two min_two max_three min_three max_four min_four   -- for this text's walks alone
set_option linter.unusedVariables false
set_option linter.unusedSimpArgs false
end Go.Proofs.YtcgojdhbphocgaaDoor.F

namespace Go.Proofs.YtcgojdhbphocgaaDoor.DK
set_option linter.unusedVariables false
set_option linter.unusedSimpArgs false
open Go.RowKit Go.Proofs.YtcgojdhbphocgaaDoor.F Go.Proofs.YtcgojdhbphocgaaDoor.PK Go.Proofs.YtcgojdhbphocgaaDoorW.PrintWords Go.Proofs.YtcgojdhbphocgaaDoorW.PrintLast Go.Proofs.YtcgojdhbphocgaaDoorW.PrintMore
theorem rdI (l : List Int) (i : Nat) (h : i < l.length) : rd l (i : Int) = l[i] := getD_nat l _ i h
theorem bytesS (l : List Int) (hl : l.length ≤ 1000000000) : Ev (fun k => spec_l01Bytes.f k l) l := by
  have key := up0 (P := fun i => Ev (fun k => spec_l01Bytes.l0 k l (l.take i.toNat) i) l) l.length
    (EvS (by simp only [spec_l01Bytes.l0, Int.lt_irrefl, if_false, Int.toNat_natCast, List.take_length]; exact EvN))
    (fun i hi ih => EvS (by
      simp only [spec_l01Bytes.l0, if_pos (show (i : Int) < (l.length : Int) by omega), if_pos (show 0 ≤ (i : Int) by omega), Int.toNat_natCast, rdI l i hi, nxt i _ hi (by omega), if_pos (show (l.take i).length < 140737488355328 by rw [List.length_take]; omega)]
      rw [Int.toNat_natCast, List.take_add_one, List.getElem?_eq_getElem hi] at ih
      exact ih))
  unfold spec_l01Bytes.f
  exact key
theorem joinS (l m : List Int) (hl : l.length ≤ 1000000000) (hm : m.length ≤ 1000000000) : Ev (fun k => spec_l01Join.f k l m) (l ++ m) := by
  have key := up0 (P := fun i => Ev (fun k => spec_l01Join.l0 k m (l ++ m.take i.toNat) i) (l ++ m)) m.length
    (EvS (by simp only [spec_l01Join.l0, Int.lt_irrefl, if_false, Int.toNat_natCast, List.take_length]; exact EvN))
    (fun i hi ih => EvS (by
      simp only [spec_l01Join.l0, if_pos (show (i : Int) < (m.length : Int) by omega), if_pos (show 0 ≤ (i : Int) by omega), Int.toNat_natCast, rdI m i hi, nxt i _ hi (by omega), if_pos (show (l ++ m.take i).length < 140737488355328 by rw [List.length_append, List.length_take]; omega)]
      rw [Int.toNat_natCast, List.take_add_one, List.getElem?_eq_getElem hi, ← List.append_assoc] at ih
      exact ih))
  unfold spec_l01Join.f
  simp only [EvB (bytesS l hl)]
  have e : l ++ m.take (0 : Int).toNat = l := by simp
  rw [e] at key
  exact key
def isN (a : ByteArray) : ByteArray → Bool := fun s => s.toList == a.toList
theorem find_ev (l : List S55) (a : ByteArray) (hl : l.length ≤ 1048576) : Ev (fun k => spec_l03Find.f k l a) (idxF (isN a) l 0) := by
  have key := up0 (P := fun i => Ev (fun k => spec_l03Find.l0 k a i l) (idxF (isN a) (l.drop i.toNat) i)) l.length
    (EvS (by
      simp only [spec_l03Find.l0, Int.lt_irrefl, if_false, Int.toNat_natCast, List.drop_length, idxF]
      exact EvN))
    (fun i hi ih => EvS (by
      rw [Int.toNat_natCast] at *
      rw [drop_at l i hi]
      simp only [spec_l03Find.l0, if_pos (show (i : Int) < (l.length : Int) by omega), if_pos (show 0 ≤ (i : Int) by omega), rd55 l i hi, nxt i _ hi (by omega), idxF]
      by_cases h : l[i].f0.toList = a.toList
      · simp only [if_pos h, isN, beq_iff_eq.2 h, if_true]; exact EvN
      · simp only [if_neg h, isN, beq_eq_false_iff_ne.2 h, Bool.false_eq_true, if_false]
        exact ih))
  unfold spec_l03Find.f
  exact key
theorem idxF_bd (p : ByteArray → Bool) : ∀ (l : List S55) (i : Int), 0 ≤ i → idxF p l i = -1 ∨ (i ≤ idxF p l i ∧ idxF p l i < i + l.length) := by
  intro l
  induction l with
  | nil => intro i _; exact .inl rfl
  | cons x t ih =>
    intro i hi
    unfold idxF
    by_cases h : p x.f0 = true
    · rw [if_pos h]; right; simp only [List.length_cons]; omega
    · rw [if_neg h]
      rcases ih (i + 1) (by omega) with h1 | h1
      · exact .inl h1
      · right; simp only [List.length_cons]; omega
def contentM (l : List S55) (a : ByteArray) : List Int × Bool := if diskM l = true then (if idxF (isN a) l 0 < 0 then ([], false) else ((rd_T55 l (idxF (isN a) l 0)).f1 ++ (rd_T55 l (idxF (isN a) l 0)).f2, true)) else ([], false)
theorem at_bd (l : List S55) (hw : wfD l) (i : Int) (h0 : 0 ≤ i) (h1 : i < l.length) : (rd_T55 l i).f1.length ≤ 1048576 ∧ (rd_T55 l i).f2.length ≤ 1048576 := by
  obtain ⟨n, rfl⟩ := Int.eq_ofNat_of_zero_le h0
  have hn : n < l.length := by omega
  rw [rd55 l n hn]
  exact (hw _ (List.getElem_mem hn)).2
theorem spec_content (l : List S55) (a : ByteArray) (hl : l.length ≤ 1048576) (hw : wfD l) : Ev (fun k => spec_Content.f k l a) (contentM l a) := by
  unfold spec_Content.f contentM
  simp only [EvB (find_ev l a hl), EvB (spec_disk l hl hw)]
  have hb := idxF_bd (isN a) l 0 (by omega)
  generalize idxF (isN a) l 0 = i at hb ⊢
  by_cases h : diskM l = true
  · by_cases h2 : i < 0
    · simp only [if_pos h, if_pos h2]; exact EvN
    · have hr := at_bd l hw i (by omega) (by omega)
      simp only [if_pos h, if_neg h2, if_pos (show 0 ≤ i by omega), if_pos (show i < (l.length : Int) by omega), EvB (joinS (rd_T55 l i).f1 (rd_T55 l i).f2 (by omega) (by omega))]
      exact EvN
  · simp only [if_neg h]; exact EvN
theorem lt47 (n m : Nat) (h : n ≤ 1000000000) (h' : m ≤ 1000000000) : n + m < 140737488355328 := by omega
end Go.Proofs.YtcgojdhbphocgaaDoor.DK

namespace Go.Proofs.YtcgojdhbphocgaaDoor.F
open Go.Proofs.YtcgojdhbphocgaaDoor
open Go.RowKit Go.Proofs.YtcgojdhbphocgaaDoorW.PrintWords Go.Proofs.YtcgojdhbphocgaaDoorW.PrintWords.Kd Go.Proofs.YtcgojdhbphocgaaDoorW.PrintMore.Kd Go.Proofs.YtcgojdhbphocgaaDoorW.PrintLast Go.Proofs.YtcgojdhbphocgaaDoorW.PrintMore
attribute [local go_sem] max2_int min2_int max_two min_two max_three min_three max_four min_four   -- for this text's walks alone
set_option linter.unusedVariables false
set_option linter.unusedSimpArgs false
end Go.Proofs.YtcgojdhbphocgaaDoor.F

namespace Go.Proofs.YtcgojdhbphocgaaDoor.F
open Go.Proofs.YtcgojdhbphocgaaDoor
open Go.RowKit Go.Proofs.YtcgojdhbphocgaaDoorW.PrintWords Go.Proofs.YtcgojdhbphocgaaDoorW.PrintWords.Kd Go.Proofs.YtcgojdhbphocgaaDoorW.PrintMore.Kd Go.Proofs.YtcgojdhbphocgaaDoorW.PrintLast Go.Proofs.YtcgojdhbphocgaaDoorW.PrintMore
attribute [local go_sem] max2_int min2_int max_two min_two max_three min_three max_four min_four   -- for this text's walks alone
set_option linter.unusedVariables false
set_option linter.unusedSimpArgs false
end Go.Proofs.YtcgojdhbphocgaaDoor.F

namespace Go.Proofs.YtcgojdhbphocgaaDoor.F
open Go.Proofs.YtcgojdhbphocgaaDoor
open Go.RowKit Go.Proofs.YtcgojdhbphocgaaDoorW.PrintWords Go.Proofs.YtcgojdhbphocgaaDoorW.PrintWords.Kd Go.Proofs.YtcgojdhbphocgaaDoorW.PrintMore.Kd Go.Proofs.YtcgojdhbphocgaaDoorW.PrintLast Go.Proofs.YtcgojdhbphocgaaDoorW.PrintMore
attribute [local go_sem] max2_int min2_int max_two min_two max_three min_three max_four min_four   -- for this text's walks alone
set_option linter.unusedVariables false
set_option linter.unusedSimpArgs false
end Go.Proofs.YtcgojdhbphocgaaDoor.F

namespace Go.Proofs.YtcgojdhbphocgaaDoor.DK
set_option linter.unusedVariables false
set_option linter.unusedSimpArgs false
open Go.RowKit Go.Proofs.YtcgojdhbphocgaaDoor.F Go.Proofs.YtcgojdhbphocgaaDoor.PK Go.Proofs.YtcgojdhbphocgaaDoorW.PrintWords Go.Proofs.YtcgojdhbphocgaaDoorW.PrintLast Go.Proofs.YtcgojdhbphocgaaDoorW.PrintMore
def nm (x : S55) : List UInt8 := x.f0.toList
theorem goD_at (l : List S55) : ∀ d i : Nat, goD l d i = true → ∀ j, i ≤ j → j < i + d → okAt l j = true := by
  intro d
  induction d with
  | zero => intro i _ j _ _; omega
  | succ d ih =>
    intro i h j h1 h2
    unfold goD at h
    rw [Bool.and_eq_true] at h
    by_cases e : j = i
    · subst e; exact h.1
    · exact ih (i + 1) h.2 j (by omega) (by omega)
theorem idxF_at (p : ByteArray → Bool) : ∀ (l : List S55) (s : Int), (idxF p l s = -1 ∧ ∀ x ∈ l, p x.f0 = false) ∨ (∃ m : Nat, ∃ x, idxF p l s = s + m ∧ l[m]? = some x ∧ p x.f0 = true ∧ ∀ (j : Nat) (y : S55), j < m → l[j]? = some y → p y.f0 = false) := by
  intro l
  induction l with
  | nil => intro s; exact .inl ⟨rfl, fun x hx => by cases hx⟩
  | cons x t ih =>
    intro s
    unfold idxF
    by_cases h : p x.f0 = true
    · rw [if_pos h]
      exact .inr ⟨0, x, by simp, rfl, h, fun j y hj => by omega⟩
    · rw [if_neg h]
      rcases ih (s + 1) with ⟨h1, h2⟩ | ⟨m, y, h1, h2, h3, h4⟩
      · refine .inl ⟨h1, fun y hy => ?_⟩
        rcases List.mem_cons.1 hy with rfl | hy
        · exact Bool.eq_false_iff.2 h
        · exact h2 y hy
      · refine .inr ⟨m + 1, y, by rw [h1]; omega, by rw [List.getElem?_cons_succ]; exact h2, h3, fun j z hj hz => ?_⟩
        cases j with
        | zero => simp only [List.getElem?_cons_zero, Option.some.injEq] at hz; subst hz; exact Bool.eq_false_iff.2 h
        | succ j => rw [List.getElem?_cons_succ] at hz; exact h4 j z (by omega) hz
end Go.Proofs.YtcgojdhbphocgaaDoor.DK

namespace Go.Proofs.YtcgojdhbphocgaaDoor.F
open Go.Proofs.YtcgojdhbphocgaaDoor
open Go.RowKit Go.Proofs.YtcgojdhbphocgaaDoorW.PrintWords Go.Proofs.YtcgojdhbphocgaaDoorW.PrintWords.Kd Go.Proofs.YtcgojdhbphocgaaDoorW.PrintMore.Kd Go.Proofs.YtcgojdhbphocgaaDoorW.PrintLast Go.Proofs.YtcgojdhbphocgaaDoorW.PrintMore
attribute [local go_sem] max2_int min2_int max_two min_two max_three min_three max_four min_four   -- for this text's walks alone
set_option linter.unusedVariables false
set_option linter.unusedSimpArgs false
end Go.Proofs.YtcgojdhbphocgaaDoor.F

namespace Go.Proofs.YtcgojdhbphocgaaDoor.DK
set_option linter.unusedVariables false
set_option linter.unusedSimpArgs false
open Go.RowKit Go.Proofs.YtcgojdhbphocgaaDoor.F Go.Proofs.YtcgojdhbphocgaaDoor.PK Go.Proofs.YtcgojdhbphocgaaDoorW.PrintWords Go.Proofs.YtcgojdhbphocgaaDoorW.PrintLast Go.Proofs.YtcgojdhbphocgaaDoorW.PrintMore
end Go.Proofs.YtcgojdhbphocgaaDoor.DK

namespace Go.Proofs.YtcgojdhbphocgaaDoor.DK
set_option linter.unusedVariables false
set_option linter.unusedSimpArgs false
open Go.RowKit Go.Proofs.YtcgojdhbphocgaaDoor.F Go.Proofs.YtcgojdhbphocgaaDoor.PK Go.Proofs.YtcgojdhbphocgaaDoorW.PrintWords Go.Proofs.YtcgojdhbphocgaaDoorW.PrintLast Go.Proofs.YtcgojdhbphocgaaDoorW.PrintMore
theorem content_ok {l : List S55} {a : ByteArray} (h : (contentM l a).2 = true) : diskM l = true ∧ ¬ idxF (isN a) l 0 < 0 ∧ (contentM l a).1 = (rd_T55 l (idxF (isN a) l 0)).f1 ++ (rd_T55 l (idxF (isN a) l 0)).f2 := by
  unfold contentM at h ⊢
  by_cases h1 : diskM l = true
  · rw [if_pos h1] at h ⊢
    by_cases h2 : idxF (isN a) l 0 < 0
    · rw [if_pos h2] at h; cases h
    · rw [if_neg h2]; exact ⟨h1, h2, rfl⟩
  · rw [if_neg h1] at h; cases h
theorem idx_at (l : List S55) (a : ByteArray) (h : ¬ idxF (isN a) l 0 < 0) : ∃ (m : Nat) (x : S55), idxF (isN a) l 0 = m ∧ l[m]? = some x ∧ nm x = a.toList ∧ m < l.length := by
  rcases idxF_at (isN a) l 0 with ⟨h1, _⟩ | ⟨m, x, h1, h2, h3, _⟩
  · omega
  · exact ⟨m, x, by omega, h2, by simpa [isN, nm] using h3, (List.getElem?_eq_some_iff.1 h2).1⟩
theorem content_at (l : List S55) (hw : wfD l) (i : Int) (h0 : 0 ≤ i) (h1 : i < l.length) : impl_File_content.f (rd_T55 l i).f0 (rd_T55 l i).f1 (rd_T55 l i).f2 = some ((rd_T55 l i).f1 ++ (rd_T55 l i).f2) := by
  have hr := at_bd l hw i h0 h1
  unfold impl_File_content.f
  rw [Option.bind_some, if_pos (lt47 _ _ (by simp) (by omega)), Option.bind_some, if_pos (lt47 _ _ (by simp; omega) (by omega)), List.nil_append]
end Go.Proofs.YtcgojdhbphocgaaDoor.DK
