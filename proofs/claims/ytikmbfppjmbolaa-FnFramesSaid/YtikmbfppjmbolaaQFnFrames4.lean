/- The Go law FnFrames answers true at every input: the last of the merged texts, with the row. -/
import Derived.Test.YtikmbfppjmbolaaQFnFrames3
import Derived.Test.YtikmbfppjmbolaaQFnFrames2
import Derived.Test.YtikmbfppjmbolaaQFnFrames1
import Derived.Test.YtikmbfppjmbolaaRows
import Derived.WalkKit
import Derived.ProofKit
import Derived.OpenShut
import Derived.ShutString
import Derived.ChangeOld
import Derived.Below
import Derived.SizedLaws
import Derived.Test.YtikmbfppjmbolaaWSized
namespace Go.Proofs.Ytikmbfppjmbolaa.FQ
set_option linter.unusedVariables false
set_option linter.unusedSimpArgs false
open Go.RowKit Go.Proofs.Ytikmbfppjmbolaa.F Go.Proofs.Ytikmbfppjmbolaa.PK Go.Proofs.Ytikmbfppjmbolaa.BY Go.Proofs.Ytikmbfppjmbolaa.CR Go.Proofs.Ytikmbfppjmbolaa.FR Go.Proofs.Ytikmbfppjmbolaa.SC Go.Proofs.Ytikmbfppjmbolaa.FM Go.Proofs.Ytikmbfppjmbolaa.TO Go.Proofs.YtikmbfppjmbolaaW.PrintWords Go.Proofs.YtikmbfppjmbolaaW.PrintLast
theorem byt_four (x : Int) : Byt (four x) := by
  intro y hy
  simp only [four, List.mem_cons, List.not_mem_nil, or_false] at hy
  omega
theorem byt_app {a b : List Int} (ha : Byt a) (hb : Byt b) : Byt (a ++ b) := fun x hx => (List.mem_append.1 hx).elim (ha x) (hb x)
theorem byt_frame {p : List Int} (hp : Byt p) : Byt (frameM p) := by
  unfold frameM
  split
  · exact byt_app (byt_app (byt_four _) (byt_four _)) hp
  · intro x hx; cases hx
theorem rd_app (a b : List Int) (i : Nat) (h : i < a.length) : rd (a ++ b) (i : Int) = rd a (i : Int) := by
  unfold rd
  rw [Int.toNat_natCast, List.getD_eq_getElem?_getD, List.getD_eq_getElem?_getD, List.getElem?_append_left h]
/-- Four bytes ahead are told alike whatever stands behind. -/
theorem le32_app (a b : List Int) (h : 4 ≤ a.length) : le32 (a ++ b) = le32 a := by
  unfold le32
  have h0 := rd_app a b 0 (by omega)
  have h1 := rd_app a b 1 (by omega)
  have h2 := rd_app a b 2 (by omega)
  have h3 := rd_app a b 3 (by omega)
  simp only [Int.cast_ofNat_Int] at h0 h1 h2 h3
  rw [h0, h1, h2, h3]
theorem len32 (p : List Int) (h : okP p) : U32 (p.length : Int) := ⟨by omega, by have := h.2; omega⟩
theorem frame_le (p rest : List Int) (h : okP p) : le32 (frameM p ++ rest) = p.length := by
  unfold frameM
  rw [if_pos h, List.append_assoc, List.append_assoc, le32_app (four (p.length : Int)) _ (show 4 ≤ (four (p.length : Int)).length from Nat.le_refl 4), le32_four _ (len32 p h)]
theorem frame_crc (p rest : List Int) (h : okP p) : le32 ((frameM p ++ rest).drop 4) = crcM p := by
  unfold frameM
  rw [if_pos h, List.append_assoc, List.append_assoc, show ((four (p.length : Int)) ++ (four (crcM p) ++ (p ++ rest))).drop 4 = four (crcM p) ++ (p ++ rest) from List.drop_left' rfl, le32_app (four (crcM p)) _ (show 4 ≤ (four (crcM p)).length from Nat.le_refl 4), le32_four _ (crcM_u32 p)]
theorem frame_pay (p rest : List Int) (h : okP p) : payM (frameM p ++ rest) = p := by
  unfold payM
  rw [frame_le p rest h, Int.toNat_natCast, ← frameM_length p h, List.take_left]
  unfold frameM
  rw [if_pos h, show ((four (p.length : Int)) ++ four (crcM p) ++ p).drop 8 = p from List.drop_left' rfl]
theorem frame_one (p rest : List Int) (h : okP p) : oneM (frameM p ++ rest) = p := by
  unfold oneM
  have hl := frameM_length p h
  rw [if_pos, frame_pay p rest h]
  unfold goodM
  rw [frame_le p rest h, frame_crc p rest h, frame_pay p rest h, List.length_append]
  have h1 := h.1
  have h2 := h.2
  exact ⟨by omega, by omega, by omega, by omega, rfl⟩
theorem scan_fuel : ∀ (n m : Nat) (d : List Int), d.length < n → d.length < m → scanL n d = scanL m d := by
  intro n
  induction n with
  | zero => intro m d h; omega
  | succ n ih =>
    intro m d hn hm
    obtain ⟨m, rfl⟩ : ∃ q, m = q + 1 := ⟨m - 1, by omega⟩
    unfold scanL
    split
    · rfl
    · rename_i hne
      rcases one_le d with h | ⟨h, _⟩
      · exact absurd h hne
      · rw [ih m _ (by rw [List.length_drop]; omega) (by rw [List.length_drop]; omega)]
theorem scan_cons (p rest : List Int) (h : okP p) : scanM (frameM p ++ rest) = p :: scanM rest := by
  unfold scanM
  have hl := frameM_length p h
  have h1 := h.1
  rw [show (frameM p ++ rest).length + 1 = ((frameM p ++ rest).length) + 1 from rfl, scanL, frame_one p rest h, if_neg (by omega), ← hl, List.drop_left]
  rw [scan_fuel (frameM p ++ rest).length (rest.length + 1) rest (by rw [List.length_append]; omega) (by omega)]
def cat (L : List (List Int)) : List Int := (L.map frameM).flatten
theorem cat_cons (p : List Int) (L : List (List Int)) : cat (p :: L) = frameM p ++ cat L := rfl
theorem cat_app (L M : List (List Int)) : cat (L ++ M) = cat L ++ cat M := by unfold cat; simp
theorem scan_cat : ∀ (L : List (List Int)) (rest : List Int), (∀ p ∈ L, okP p) → scanM (cat L ++ rest) = L ++ scanM rest := by
  intro L
  induction L with
  | nil => intro rest _; rfl
  | cons p r ih =>
    intro rest h
    rw [cat_cons, List.append_assoc, scan_cons p _ (h p List.mem_cons_self), ih rest (fun q hq => h q (List.mem_cons_of_mem _ hq))]
    rfl
theorem scan_nil : scanM [] = [] := by
  unfold scanM scanL
  rw [if_pos]
  unfold oneM
  rw [if_neg (by unfold goodM; intro h; have := h.1; simp at this)]
  rfl
theorem cat_len : ∀ (L : List (List Int)), (∀ p ∈ L, okP p) → ((cat L).length : Int) = usedL L := by
  intro L
  induction L with
  | nil => intro _; rfl
  | cons p r ih =>
    intro h
    have := ih (fun q hq => h q (List.mem_cons_of_mem _ hq))
    have hl := frameM_length p (h p List.mem_cons_self)
    rw [cat_cons, List.length_append, usedL]
    omega
theorem frL_cat : ∀ (L : List (List Int)) (a : List Int), (∀ p ∈ L, okP p) → frL L a = a ++ cat L := by
  intro L
  induction L with
  | nil => intro a _; simp [frL, cat]
  | cons p r ih =>
    intro a h
    have hl := frameM_length p (h p List.mem_cons_self)
    unfold frL
    rw [if_neg (by omega), ih _ (fun q hq => h q (List.mem_cons_of_mem _ hq)), cat_cons, List.append_assoc]
theorem byt_cat : ∀ (L : List (List Int)), (∀ p ∈ L, Byt p) → Byt (cat L) := by
  intro L
  induction L with
  | nil => intro _ x hx; cases hx
  | cons p r ih => intro h; rw [cat_cons]; exact byt_app (byt_frame (h p List.mem_cons_self)) (ih (fun q hq => h q (List.mem_cons_of_mem _ hq)))
/-- A frame that is cut short is none. -/
theorem cut_one (p rest : List Int) (h : okP p) (m : Nat) (hm : m < 8 + p.length) : oneM ((frameM p ++ rest).take m) = [] := by
  have hl := frameM_length p h
  unfold oneM
  rw [if_neg]
  rintro ⟨h1, h2, h3, h4, _⟩
  rw [List.length_take, List.length_append] at h1 h4
  have e : le32 ((frameM p ++ rest).take m) = p.length := by
    have h5 : 4 ≤ ((frameM p ++ rest).take m).length := by rw [List.length_take, List.length_append]; omega
    have := le32_app ((frameM p ++ rest).take m) ((frameM p ++ rest).drop m) h5
    rw [List.take_append_drop, frame_le p rest h] at this
    exact this.symm
  rw [e] at h4
  omega
theorem scan_none (d : List Int) (h : oneM d = []) : scanM d = [] := by
  unfold scanM scanL
  rw [if_pos (by rw [h]; rfl)]
/-- What is scanned of frames that are cut short: those that are whole. -/
theorem scan_cut (L M : List (List Int)) (hL : ∀ p ∈ L ++ M, okP p) (m : Nat) (h1 : (cat L).length ≤ m) (h2 : ∀ p r, M = p :: r → m < (cat L).length + (8 + p.length)) : scanM ((cat (L ++ M)).take m) = L := by
  have hl : ∀ p ∈ L, okP p := fun p hp => hL p (List.mem_append_left _ hp)
  rw [cat_app, List.take_append, List.take_of_length_le h1, scan_cat L _ hl]
  cases M with
  | nil => rw [show cat ([] : List (List Int)) = [] from rfl, List.take_nil, scan_nil, List.append_nil]
  | cons p r =>
    have := h2 p r rfl
    rw [cat_cons, scan_none _ (cut_one p (cat r) (hL p (by simp)) _ (by omega)), List.append_nil]
/-- A turned byte: the frame that holds it is none, or carries another payload. -/
theorem turn_one (p rest : List Int) (h : okP p) (hp : Byt p) (j : Nat) (hj : j < 8 + p.length) (x : Int) (hx : ∀ y, (frameM p ++ rest)[j]? = some y → x ≠ y) (hb : Byt ((frameM p ++ rest).set j x)) : oneM ((frameM p ++ rest).set j x) ≠ p := by
  have hl := frameM_length p h
  have h1 := h.1
  intro he
  have hg : goodM ((frameM p ++ rest).set j x) := by
    unfold oneM at he
    split at he
    · assumption
    · rw [← he] at h1; simp at h1
  unfold oneM at he
  rw [if_pos hg] at he
  obtain ⟨g1, g2, g3, g4, g5⟩ := hg
  have hpl := pay_length _ (by omega) g4
  rw [he] at hpl
  have h32 : le32 ((frameM p ++ rest).set j x) = p.length := by omega
  have hlen : ((frameM p ++ rest).set j x).length = (frameM p ++ rest).length := List.length_set
  -- its first bytes are those of the frame
  have e1 := four_le32 _ hb (by omega)
  rw [h32] at e1
  have e2 := four_le32 _ (hb.drop 4) (by rw [List.length_drop]; omega)
  rw [g5, he] at e2
  have e3 : (((frameM p ++ rest).set j x).take (8 + p.length)).drop 8 = p := by
    unfold payM at he
    rw [h32, Int.toNat_natCast] at he
    exact he
  have e4 : ((frameM p ++ rest).set j x).take (8 + p.length) = frameM p := by
    have a1 : (((frameM p ++ rest).set j x).take (8 + p.length)).take 4 = four p.length := by rw [List.take_take, show min 4 (8 + p.length) = 4 by omega]; exact e1
    have a2 : ((((frameM p ++ rest).set j x).take (8 + p.length)).drop 4).take 4 = four (crcM p) := by
      rw [List.drop_take, List.take_take, show min 4 (8 + p.length - 4) = 4 by omega]; exact e2
    generalize ((frameM p ++ rest).set j x).take (8 + p.length) = D at a1 a2 e3
    unfold frameM
    rw [if_pos h, ← a1, ← a2]
    have b1 : (D.drop 4).drop 4 = p := by rw [List.drop_drop]; exact e3
    have b2 : D.drop 4 = (D.drop 4).take 4 ++ p := by
      have := List.take_append_drop 4 (D.drop 4)
      rw [b1] at this
      exact this.symm
    have b3 : D = D.take 4 ++ D.drop 4 := (List.take_append_drop 4 D).symm
    rw [List.append_assoc, ← b2]
    exact b3
  have e5 : ((frameM p ++ rest).set j x)[j]? = (frameM p)[j]? := by
    have h_ := congrArg (fun l => l[j]?) e4
    simp only [List.getElem?_take_of_lt hj] at h_
    exact h_
  rw [List.getElem?_set_self (by rw [List.length_append]; omega)] at e5
  have := hx x (by rw [List.getElem?_append_left (by omega)]; exact e5.symm)
  exact this rfl
end Go.Proofs.Ytikmbfppjmbolaa.FQ

namespace Go.Proofs.Ytikmbfppjmbolaa.DR
set_option linter.unusedVariables false
set_option linter.unusedSimpArgs false
open Go.RowKit Go.Proofs.Ytikmbfppjmbolaa.F Go.Proofs.Ytikmbfppjmbolaa.PK Go.Proofs.YtikmbfppjmbolaaW.PrintWords Go.Proofs.YtikmbfppjmbolaaW.PrintLast
theorem and255 (x : Int) : 0 ≤ Go.bits .and .i64 x 255 ∧ Go.bits .and .i64 x 255 ≤ 255 := by
  have h : ((BitVec.ofInt IntKind.i64.bits x) &&& (BitVec.ofInt IntKind.i64.bits 255)).toNat ≤ 255 := by
    rw [BitVec.toNat_and]
    exact Nat.le_trans Nat.and_le_right (by decide)
  have e : Go.bits .and .i64 x 255 = (((BitVec.ofInt IntKind.i64.bits x) &&& (BitVec.ofInt IntKind.i64.bits 255)).toNat : Int) := by
    show IntKind.i64.wrap (((BitVec.ofInt IntKind.i64.bits x) &&& (BitVec.ofInt IntKind.i64.bits 255)).toNat : Int) = _
    rw [IntKind.wrap_i64]
    omega
  omega
/-- Where a cursor stands. -/
def At (b : List Int) (i : Int) : Prop := 0 ≤ i ∧ i ≤ (b.length : Int)
theorem dByte (b : List Int) (i h : Int) (hi : At b i) (hb : b.length ≤ 1048576) : ∃ x i' h', spec_l01Byte.f b i h = some (x, i', h') ∧ 0 ≤ x ∧ x ≤ 255 ∧ At b i' := by
  unfold At at *
  unfold spec_l01Byte.f
  by_cases c : i < (b.length : Int)
  · simp only [if_pos c, if_pos hi.1]
    exact ⟨_, _, _, rfl, (and255 _).1, (and255 _).2, by rw [w64 (by omega) (by omega)]; omega⟩
  · simp only [if_neg c]
    exact ⟨_, _, _, rfl, (and255 _).1, (and255 _).2, hi⟩
theorem tmod_bd (x n : Int) (hx : 0 ≤ x) (hn : 0 < n) : 0 ≤ Int.tmod x n ∧ Int.tmod x n < n := ⟨Int.tmod_nonneg _ hx, Int.tmod_lt_of_pos _ hn⟩
theorem dBelow (b : List Int) (i h n : Int) (hi : At b i) (hb : b.length ≤ 1048576) : ∃ x i' h', spec_l01Below.f b i h n = some (x, i', h') ∧ 0 ≤ x ∧ (0 < n → x < n) ∧ (n ≤ 0 → x = 0) ∧ At b i' := by
  unfold spec_l01Below.f
  by_cases c : n ≤ 0
  · simp only [if_pos c]
    exact ⟨_, _, _, rfl, by omega, by omega, fun _ => rfl, hi⟩
  simp only [if_neg c]
  by_cases c2 : n ≤ 256
  · obtain ⟨x, i', h', e, h0, h1, h2⟩ := dByte b i h hi hb
    simp only [if_pos c2, e, Option.bind_some, if_neg (show ¬ n = 0 by omega)]
    have := tmod_bd x n h0 (by omega)
    exact ⟨_, _, _, rfl, this.1, fun _ => this.2, by omega, h2⟩
  · obtain ⟨x, i1, h1, e1, a0, a1, a2⟩ := dByte b i h hi hb
    obtain ⟨y, i2, h2, e2, b0, b1, b2⟩ := dByte b i1 h1 a2 hb
    obtain ⟨z, i3, h3, e3, c0, c1, c2'⟩ := dByte b i2 h2 b2 hb
    simp only [if_neg c2, e1, e2, e3, Option.bind_some, if_neg (show ¬ n = 0 by omega)]
    have hw : wrap64 (wrap64 (wrap64 (x * 65536) + wrap64 (y * 256)) + z) = x * 65536 + y * 256 + z := by
      rw [w64 (x := x * 65536) (by omega) (by omega), w64 (x := y * 256) (by omega) (by omega), w64 (x := x * 65536 + y * 256) (by omega) (by omega), w64 (by omega) (by omega)]
    rw [hw]
    have := tmod_bd (x * 65536 + y * 256 + z) n (by omega) (by omega)
    exact ⟨_, _, _, rfl, this.1, fun _ => this.2, by omega, c2'⟩
theorem dSize (l : List Int) (m : Int) (hl : l.length ≤ 1048576) (hm : 2 ≤ m) : ∃ t, spec_l01Size.f l m = some t ∧ 2 ≤ t ∧ t ≤ m := by
  unfold spec_l01Size.f
  rw [w64 (x := (l.length : Int) / 16) (by omega) (by omega), w64 (by omega) (by omega)]
  split
  · exact ⟨_, rfl, hm, by omega⟩
  · exact ⟨_, rfl, by omega, by omega⟩
theorem dNew (l : List Int) (hl : l.length ≤ 1048576) : ∃ h, Ev (fun k => spec_l01New.f k l) (l, 0, h) := by
  have key := up (P := fun i => ∀ x, ∃ h, Ev (fun k => spec_l01New.l0 k l x i) (l, 0, h)) l.length
    (fun x => ⟨x, EvS (by simp only [spec_l01New.l0, Int.lt_irrefl, if_false]; exact EvN)⟩)
    (fun i hi ih x => by
      by_cases c : (i : Int) < 4000
      · obtain ⟨h, e⟩ := ih (Go.bits .and .i64 (wrap64 ((wrap64 ((wrap64 (x * 149)) + (wrap64 (rd l i)))) + 11)) 1073741823)
        refine ⟨h, EvS ?_⟩
        simp only [spec_l01New.l0, if_pos (show (i : Int) < (l.length : Int) by omega), if_pos c, if_pos (show 0 ≤ (i : Int) by omega), show wrap64 ((i : Int) + 1) = ((i + 1 : Nat) : Int) by rw [w64 (by omega) (by omega)]; omega]
        exact e
      · exact ⟨x, EvS (by simp only [spec_l01New.l0, if_pos (show (i : Int) < (l.length : Int) by omega), if_neg c]; exact EvN)⟩)
  unfold spec_l01New.f
  exact key 0 (Nat.zero_le _) _
end Go.Proofs.Ytikmbfppjmbolaa.DR

namespace Go.Proofs.Ytikmbfppjmbolaa.DR
set_option linter.unusedVariables false
set_option linter.unusedSimpArgs false
open Go.RowKit Go.Proofs.Ytikmbfppjmbolaa.F Go.Proofs.Ytikmbfppjmbolaa.PK Go.Proofs.YtikmbfppjmbolaaW.PrintWords Go.Proofs.YtikmbfppjmbolaaW.PrintLast
theorem dPick (b : List Int) (i h : Int) (l : List Int) (hi : At b i) (hb : b.length ≤ 1048576) (hl : 0 < l.length) : ∃ x i' h', spec_l01PickInt.f b i h l = some (x, i', h') ∧ x ∈ l ∧ At b i' := by
  obtain ⟨x, i', h', e, h0, h1, _, h2⟩ := dBelow b i h (l.length : Int) hi hb
  unfold spec_l01PickInt.f
  have hx := h1 (by omega)
  simp only [e, Option.bind_some, if_pos h0, if_pos hx]
  refine ⟨_, _, _, rfl, ?_, h2⟩
  have hn : x.toNat < l.length := by omega
  have : rd l x = l[x.toNat] := by
    have := getD_nat l 0 x.toNat hn
    rw [Int.toNat_of_nonneg h0] at this
    exact this
  rw [this]
  exact List.getElem_mem hn
theorem dBytes (b : List Int) (n : Int) (hb : b.length ≤ 1048576) (hn : n ≤ 1000000) (h0 : 0 ≤ n) : ∀ (i h : Int), At b i → ∃ (x : List Int) (i' h' : Int), Ev (fun k => spec_l01DrawBytes.f k b i h n) (x, i', h') ∧ (x.length : Int) = n ∧ (∀ y ∈ x, 0 ≤ y ∧ y ≤ 255) ∧ At b i' := by
  have key : ∀ (d j : Nat) (x : List Int) (i h : Int), (d : Int) + j = n → (x.length : Int) = j → (∀ y ∈ x, 0 ≤ y ∧ y ≤ 255) → At b i → ∃ (x' : List Int) (i' h' : Int), Ev (fun k => spec_l01DrawBytes.l0 k n x j b i h) (x', i', h') ∧ (x'.length : Int) = n ∧ (∀ y ∈ x', 0 ≤ y ∧ y ≤ 255) ∧ At b i' := by
    intro d
    induction d with
    | zero =>
      intro j x i h hj hx hy hi
      exact ⟨x, i, h, EvS (by simp only [spec_l01DrawBytes.l0, if_neg (show ¬ (j : Int) < n by omega)]; exact EvN), by omega, hy, hi⟩
    | succ d ih =>
      intro j x i h hj hx hy hi
      obtain ⟨a, i1, h1, e1, _, _, _, g1⟩ := dBelow b i h 256 hi hb
      obtain ⟨c, i2, h2, e2, _, _, _, g2⟩ := dBelow b i1 h1 256 g1 hb
      obtain ⟨y, i3, h3, e3, _, g3⟩ := dPick b i2 h2 [0, 1, 255, 128, a, c] g2 hb (by simp)
      have hS : (x.length < 140737488355328) = True := eq_true (by omega)
      obtain ⟨x', i', h', r1, r2, r3, r4⟩ := ih (j + 1) (x ++ [y % 256]) i3 h3 (by omega) (by simp; omega) (fun z hz => by
        rcases List.mem_append.1 hz with hz | hz
        · exact hy z hz
        · rw [List.mem_singleton.1 hz]
          omega) g3
      refine ⟨x', i', h', EvS ?_, r2, r3, r4⟩
      simp only [spec_l01DrawBytes.l0, if_pos (show (j : Int) < n by omega), e1, e2, e3, Option.bind_some, hS, if_true, show wrap64 ((j : Int) + 1) = ((j + 1 : Nat) : Int) by rw [w64 (by omega) (by omega)]; omega]
      exact r1
  intro i h hi
  obtain ⟨x', i', h', r1, r2, r3, r4⟩ := key n.toNat 0 [] i h (by omega) rfl (fun y hy => by cases hy) hi
  exact ⟨x', i', h', by unfold spec_l01DrawBytes.f; exact r1, r2, r3, r4⟩
end Go.Proofs.Ytikmbfppjmbolaa.DR

namespace Go.Proofs.Ytikmbfppjmbolaa.Pure
set_option linter.unusedVariables false
set_option linter.unusedSimpArgs false
open Go.RowKit Go.Proofs.Ytikmbfppjmbolaa.F Go.Proofs.Ytikmbfppjmbolaa.PK Go.Proofs.YtikmbfppjmbolaaW.PrintWords Go.Proofs.YtikmbfppjmbolaaW.PrintLast
open Go.Proofs.Ytikmbfppjmbolaa.BY Go.Proofs.Ytikmbfppjmbolaa.FR Go.Proofs.Ytikmbfppjmbolaa.SC Go.Proofs.Ytikmbfppjmbolaa.FM Go.Proofs.Ytikmbfppjmbolaa.TO Go.Proofs.Ytikmbfppjmbolaa.FQ Go.Proofs.Ytikmbfppjmbolaa.DR
def goodP (p : List Int) : Prop := okP p ∧ Byt p
theorem draw (l : List Int) (hl : l.length ≤ 1048576) : ∃ L, Ev (fun k => spec_DrawRightPayloads.f k l) L ∧ L.length ≤ 7 ∧ ∀ p ∈ L, goodP p := by
  have key : ∀ (d : Nat) (y : List (List Int)) (i h : Int), At l i → y.length + d ≤ 7 → (∀ p ∈ y, goodP p) → ∃ (L : List (List Int)) (i' h' : Int), Ev (fun k => spec_l02DrawPayloads.l0 k y d l i h) (L, i', h') ∧ L.length ≤ 7 ∧ ∀ p ∈ L, goodP p := by
    intro d
    induction d with
    | zero => intro y i h hi hy hg; exact ⟨y, i, h, EvS (by simp only [spec_l02DrawPayloads.l0, if_neg (show ¬ ((0 : Nat) : Int) > 0 by omega)]; exact EvN), by omega, hg⟩
    | succ d ih =>
      intro y i h hi hy hg
      obtain ⟨x, i1, h1, e1, a0, a1, _, a2⟩ := dBelow l i h 6 hi hl
      have a1 := a1 (by omega)
      obtain ⟨p, i2, h2, e2, b1, b2, b3⟩ := dBytes l (1 + x) hl (by omega) (by omega) i1 h1 a2
      have hS : (y.length < 5864062014805) = True := eq_true (by omega)
      obtain ⟨L, i', h', e3, c1, c2⟩ := ih (y ++ [p]) i2 h2 b3 (by simp; omega) (fun q hq => by
        rcases List.mem_append.1 hq with hq | hq
        · exact hg q hq
        · rw [List.mem_singleton.1 hq]
          exact ⟨⟨by omega, by omega⟩, fun z hz => by have := b2 z hz; omega⟩)
      refine ⟨L, i', h', EvS ?_, c1, c2⟩
      simp only [spec_l02DrawPayloads.l0, if_pos (show ((d + 1 : Nat) : Int) > 0 by omega), e1, Option.bind_some, w64 (show -9223372036854775808 ≤ 1 + x by omega) (show 1 + x ≤ 9223372036854775807 by omega), EvB e2, hS, if_true, show wrap64 (((d + 1 : Nat) : Int) - 1) = (d : Int) by rw [w64 (by omega) (by omega)]; omega]
      exact e3
  obtain ⟨h, e0⟩ := dNew l hl
  obtain ⟨t, e1, t1, t2⟩ := dSize l 7 hl (by omega)
  obtain ⟨x, i1, h1, e2, a0, a1, _, a2⟩ := dBelow l 0 h t ⟨Int.le_refl _, by omega⟩ hl
  have a1 := a1 (by omega)
  obtain ⟨L, i', h', e3, c1, c2⟩ := key x.toNat [] i1 h1 a2 (by simp; omega) (fun p hp => by cases hp)
  rw [Int.toNat_of_nonneg a0] at e3
  refine ⟨L, ?_, c1, c2⟩
  unfold spec_DrawRightPayloads.f spec_l02DrawPayloads.f
  simp only [EvB e0, e1, e2, Option.bind_some, EvB e3]
  exact EvN
theorem same (x : List (List Int)) (hx : x.length ≤ 9223372036854775807) : Ev (fun k => laws_samePayloads.f k x x) true := by
  have key := up (P := fun i => Ev (fun k => laws_samePayloads.l0 k x x i) true) x.length
    (EvS (by simp only [laws_samePayloads.l0, Int.lt_irrefl, if_false]; exact EvN))
    (fun i hi ih => EvS (by simp only [laws_samePayloads.l0, if_pos (show (i : Int) < (x.length : Int) by omega), if_pos (show 0 ≤ (i : Int) by omega), if_true, nxt i _ hi hx]; exact ih))
  have := key 0 (Nat.zero_le _)
  unfold laws_samePayloads.f
  simp only [if_true]
  exact this
theorem starts (x y : List (List Int)) (hx : x.length ≤ 1000000) : Ev (fun k => laws_starts.f k (x ++ y) x) true := by
  unfold laws_starts.f
  simp only [if_pos (show (x.length : Int) ≤ ((x ++ y).length : Int) by rw [List.length_append]; omega), if_pos (show 0 ≤ (x.length : Int) by omega), Int.toNat_natCast, List.take_left, EvB (same x (by omega))]
  exact EvN
theorem str_inj (a b : List Int) (ha : Byt a) (hb : Byt b) (h : (strOfNums a).toList = (strOfNums b).toList) : a = b := by
  rw [ByteArray.toList_eq, ByteArray.toList_eq] at h
  simp only [strOfNums] at h
  have key : ∀ (a b : List Int), Byt a → Byt b → a.map (fun n => UInt8.ofNat n.toNat) = b.map (fun n => UInt8.ofNat n.toNat) → a = b := by
    intro a
    induction a with
    | nil => intro b _ _ h; cases b with | nil => rfl | cons y t => simp at h
    | cons x s ih =>
      intro b ha hb h
      cases b with
      | nil => simp at h
      | cons y t =>
        simp only [List.map_cons, List.cons.injEq] at h
        have h1 := ha x List.mem_cons_self
        have h2 := hb y List.mem_cons_self
        have h3 := congrArg UInt8.toNat h.1
        simp only [UInt8.toNat_ofNat'] at h3
        have hxy : x = y := by omega
        rw [hxy, ih t (fun z hz => ha z (List.mem_cons_of_mem _ hz)) (fun z hz => hb z (List.mem_cons_of_mem _ hz)) h.2]
  exact key a b ha hb h
theorem lawAt (l : List Int) (hw : ∀ x ∈ l, (Lit.int .u8 x).wf = true) (hl : l.length ≤ 1048576) (j : Nat) (hj : j ≤ 100) : ∃ t, laws_at.f l (j : Int) = some t ∧ 0 ≤ t ∧ t ≤ 255 := by
  unfold laws_at.f
  by_cases c : (j : Int) < (l.length : Int)
  · have := (byt_of hw).rd j (by omega)
    simp only [if_pos c, if_pos (show 0 ≤ (j : Int) by omega), w64 (show -9223372036854775808 ≤ rd l (j : Int) by omega) (show rd l (j : Int) ≤ 9223372036854775807 by omega)]
    exact ⟨_, rfl, by omega, by omega⟩
  · simp only [if_neg c, w64 (x := (j : Int) * 13) (by omega) (by omega), w64 (x := (l.length : Int) * 5) (by omega) (by omega), w64 (x := (j : Int) * 13 + (l.length : Int) * 5) (by omega) (by omega)]
    have := tmod_bd ((j : Int) * 13 + (l.length : Int) * 5) 256 (by omega) (by omega)
    exact ⟨_, rfl, by omega, by omega⟩
theorem wf_byt {l : List Int} (h : Byt l) : ∀ x ∈ l, (Lit.int .u8 x).wf = true := by
  intro x hx
  have := h x hx
  have h1 : IntKind.u8.min = 0 := by decide
  have h2 : IntKind.u8.max = 255 := by decide
  simp only [Lit.wf, Bool.and_eq_true, decide_eq_true_eq]
  omega
theorem torn_take (l : List Int) (a : Int) : tornM l a (-1) = l.take a.toNat := by
  unfold tornM
  have : (fun (i : Nat) (b : Int) => if (i : Int) = -1 then (255 - b) % 256 else b) = fun _ b => b := by
    funext i b
    rw [if_neg (by omega)]
  rw [this]
  have hk : l.take (keepN l a) = l.take a.toNat := by
    unfold keepN
    rcases Nat.le_total a.toNat l.length with h | h
    · rw [Nat.min_eq_left h]
    · rw [Nat.min_eq_right h, List.take_of_length_le (Nat.le_refl _), List.take_of_length_le h]
  rw [hk]
  apply List.ext_getElem?
  intro j
  rw [List.getElem?_mapIdx]
  cases (l.take a.toNat)[j]? <;> rfl
theorem torn_set (l : List Int) (f : Nat) (hf : f < l.length) : tornM l (l.length : Int) (f : Int) = l.set f ((255 - l[f]) % 256) := by
  have hk : keepN l (l.length : Int) = l.length := by unfold keepN; omega
  apply List.ext_getElem?
  intro j
  by_cases hj : j < l.length
  · rw [tornM_at l _ _ j (by omega) hj]
    by_cases e : j = f
    · subst e
      rw [if_pos rfl, List.getElem?_set_self hj]
    · rw [if_neg (by omega), List.getElem?_set_ne (Ne.symm e), List.getElem?_eq_getElem hj]
  · rw [List.getElem?_eq_none (by rw [tornM_length]; omega), List.getElem?_eq_none (by rw [List.length_set]; omega)]
theorem used_app : ∀ (x y : List (List Int)), usedL (x ++ y) = usedL x + usedL y := by
  intro x
  induction x with
  | nil => intro y; simp [usedL]
  | cons p r ih => intro y; simp only [List.cons_append, usedL, ih y]; omega
theorem used_nonneg : ∀ (x : List (List Int)), 0 ≤ usedL x := by
  intro x
  induction x with
  | nil => exact Int.le_refl _
  | cons p r ih => simp only [usedL]; omega
theorem FnFrames : laws_FnFrames.Pure := by
  intro l _ _ hw
  refine EvE ?_
  unfold laws_FnFrames.f laws_big.f
  by_cases hbig : (l.length : Int) > 1048576
  · simp only [decide_eq_true hbig, Option.bind_some, if_true]; exact EvN
  obtain ⟨L, eL, hL7, hLg⟩ := draw l (by omega)
  have hok : ∀ p ∈ L, okP p := fun p hp => (hLg p hp).1
  have hDl := cat_len L hok
  have hDb : Byt (cat L) := byt_cat L (fun p hp => (hLg p hp).2)
  have hD : framesM L = cat L := by
    unfold framesM
    rw [if_neg (by omega), frL_cat L [] hok, List.nil_append]
  have hDs : (cat L).length ≤ 121600 := by rw [← hD]; exact framesM_len L
  have hDs2 : (cat L).length ≤ 4256 := by
    have := frL_len L []
    rw [frL_cat L [] hok] at this
    simp only [List.nil_append, List.length_nil] at this
    omega
  have eF := impl_frames L (fun y hy => by have := (hok y hy).2; omega)
  rw [hD] at eF
  have hsc : scanM (cat L) = L := by
    have := scan_cat L [] hok
    rw [List.append_nil, scan_nil, List.append_nil] at this
    exact this
  have scanE : ∀ d : List Int, Byt d → d.length ≤ 4256 → Ev (fun k => impl_ScanFrames.f k d) (scanM d, usedL (scanM d)) := fun d hd hl => by
    unfold impl_ScanFrames.f
    simp only [if_neg (show ¬ (d.length : Int) > 20000 by omega), EvB (implScan d hd (by omega))]
    exact EvN
  have eW : Ev (fun k => impl_WholeFrames.f k (cat L)) true := by
    unfold impl_WholeFrames.f
    simp only [if_neg (show ¬ ((cat L).length : Int) > 20000 by omega), EvB (implScan (cat L) hDb (by omega)), hsc, ← hDl, BEq.rfl]
    exact EvN
  have tornE : ∀ a f : Int, impl_Torn.f (cat L) a f = some (tornM (cat L) a f) := fun a f => by
    unfold impl_Torn.f
    simp only [if_neg (show ¬ ((cat L).length : Int) > 20000 by omega), impl_torn (cat L) a f (by omega) (wf_byt hDb), Option.bind_some]
  -- the turned byte
  have J3 : Ev (fun k => laws_FnFrames.j3 k l L (cat L) false) true := by
    refine EvS ?_
    simp only [laws_FnFrames.j3, Bool.false_eq_true, if_false]
    by_cases h0 : ((cat L).length : Int) = 0
    · simp only [if_pos h0]; exact EvN
    obtain ⟨t, et, t0, t1⟩ := lawAt l hw (by omega) 4 (by omega)
    have hf := tmod_bd t ((cat L).length : Int) t0 (by omega)
    rw [show ((4 : Nat) : Int) = 4 from rfl] at et
    generalize hfe : Int.tmod t ((cat L).length : Int) = f at hf
    have hfn : f.toNat < (cat L).length := by omega
    have hts := torn_set (cat L) f.toNat hfn
    rw [Int.toNat_of_nonneg hf.1] at hts
    have hbt : Byt ((cat L).set f.toNat ((255 - (cat L)[f.toNat]) % 256)) := fun x hx => by
      rcases List.mem_or_eq_of_mem_set hx with hx | rfl
      · exact hDb x hx
      · omega
    simp only [if_neg h0, et, Option.bind_some, hfe, tornE, hts, EvB (scanE _ hbt (by rw [List.length_set]; omega))]
    -- the loop
    have loop : ∀ d i : Nat, d + i = L.length → usedL (L.take i) ≤ f → Ev (fun k => laws_FnFrames.l1 k L (usedL (L.take i)) f (scanM ((cat L).set f.toNat ((255 - (cat L)[f.toNat]) % 256))) i) true := by
      intro d
      induction d with
      | zero =>
        intro i hi hu
        rw [List.take_of_length_le (by omega), ← hDl] at hu
        omega
      | succ d ih =>
        intro i hi hu
        have hil : i < L.length := by omega
        have hsplit : L = L.take i ++ L[i] :: L.drop (i + 1) := by rw [← drop_at L i hil, List.take_append_drop]
        have hpk := hok _ (List.getElem_mem hil)
        have hpb := (hLg _ (List.getElem_mem hil)).2
        have hu1 : usedL (L.take (i + 1)) = usedL (L.take i) + 8 + (L[i].length : Int) := by
          rw [List.take_add_one, List.getElem?_eq_getElem hil, Option.toList_some, used_app]
          simp only [usedL]; omega
        have hub : usedL (L.take (i + 1)) ≤ usedL L := by
          have := used_app (L.take (i + 1)) (L.drop (i + 1))
          rw [List.take_append_drop] at this
          have := used_nonneg (L.drop (i + 1))
          omega
        have hun := used_nonneg (L.take i)
        refine EvS ?_
        simp only [laws_FnFrames.l1, if_pos (show (i : Int) < (L.length : Int) by omega), if_pos (show 0 ≤ (i : Int) by omega), rdl L i hil, if_pos (show (i : Int) ≤ (L.length : Int) by omega), Int.toNat_natCast]
        rw [show wrap64 (wrap64 (usedL (L.take i) + 8) + (L[i].length : Int)) = usedL (L.take (i + 1)) by rw [w64 (x := usedL (L.take i) + 8) (by omega) (by omega), w64 (by omega) (by omega)]; omega]
        by_cases hc : usedL (L.take (i + 1)) ≤ f
        · simp only [if_pos hc, nxt i L.length hil (by omega)]
          exact ih (i + 1) (by omega) hc
        · simp only [if_neg hc]
          have htok : ∀ p ∈ L.take i, okP p := fun p hp => hok p (List.mem_of_mem_take hp)
          have hsz := cat_len (L.take i) htok
          have hcat : cat L = cat (L.take i) ++ (frameM L[i] ++ cat (L.drop (i + 1))) := by
            rw [← cat_cons, ← cat_app, ← hsplit]
          have hset : ∀ x : Int, (cat L).set f.toNat x = cat (L.take i) ++ (frameM L[i] ++ cat (L.drop (i + 1))).set (f.toNat - (cat (L.take i)).length) x := fun x => by
            rw [hcat, List.set_append_right _ _ (by omega)]
          have hj : f.toNat - (cat (L.take i)).length < 8 + L[i].length := by omega
          have hget : ∀ y, (frameM L[i] ++ cat (L.drop (i + 1)))[f.toNat - (cat (L.take i)).length]? = some y → (255 - (cat L)[f.toNat]) % 256 ≠ y := fun y hy => by
            have h1 : (cat L)[f.toNat]? = some y := by
              rw [hcat, List.getElem?_append_right (by omega)]
              exact hy
            rw [List.getElem?_eq_getElem hfn] at h1
            have h1 := Option.some.inj h1
            have h2 := hDb _ (List.getElem_mem hfn)
            rw [h1] at h2 ⊢
            omega
          have hbs : Byt ((frameM L[i] ++ cat (L.drop (i + 1))).set (f.toNat - (cat (L.take i)).length) ((255 - (cat L)[f.toNat]) % 256)) := fun x hx => hbt x (by rw [hset]; exact List.mem_append_right _ hx)
          have hne := turn_one L[i] (cat (L.drop (i + 1))) hpk hpb _ hj _ hget hbs
          rw [hset, scan_cat (L.take i) _ htok]
          generalize hR : (frameM L[i] ++ cat (L.drop (i + 1))).set (f.toNat - (cat (L.take i)).length) ((255 - (cat L)[f.toNat]) % 256) = R at hne hbs
          have hlt : (L.take i).length = i := by rw [List.length_take]; omega
          simp only [EvB (starts (L.take i) (scanM R) (by omega)), if_true]
          by_cases hz : (((L.take i ++ scanM R).length : Nat) : Int) = (i : Int)
          · simp only [if_pos hz]; exact EvN
          · have hpos : 0 < (scanM R).length := by rw [List.length_append] at hz; omega
            simp only [if_neg hz, if_pos (show (i : Int) < ((L.take i ++ scanM R).length : Int) by rw [List.length_append]; omega)]
            have hhead : rd_L1 (L.take i ++ scanM R) (i : Int) = oneM R := by
              rw [rdl _ i (by rw [List.length_append]; omega), List.getElem_append_right (by omega)]
              have h1 : (scanM R)[0]? = some (oneM R) := by
                unfold scanM scanL
                unfold scanM scanL at hpos
                split at hpos
                · simp at hpos
                · rename_i h_; rw [if_neg h_]; rfl
              have h2 : (scanM R)[i - (L.take i).length]? = some (oneM R) := by rw [show i - (L.take i).length = 0 by omega]; exact h1
              rw [List.getElem?_eq_getElem (by omega)] at h2
              exact Option.some.inj h2
            rw [hhead]
            have hob : Byt (oneM R) := by
              unfold oneM
              split
              · exact (hbs.take _).drop _
              · intro x hx; cases hx
            have : ((strOfNums (oneM R)).toList != (strOfNums L[i]).toList) = true := bne_iff_ne.2 fun h => hne (str_inj _ _ hob hpb h)
            rw [this]
            exact EvN
    have := loop L.length 0 rfl (by simp only [List.take_zero, usedL]; omega)
    simp only [List.take_zero, usedL] at this
    exact this
  -- cut short
  obtain ⟨t, et, t0, t1⟩ := lawAt l hw (by omega) 3 (by omega)
  rw [show ((3 : Nat) : Int) = 3 from rfl] at et
  have hwl : wrap64 (((cat L).length : Int) + 1) = ((cat L).length : Int) + 1 := w64 (by omega) (by omega)
  have ha := tmod_bd t (((cat L).length : Int) + 1) t0 (by omega)
  generalize hae : Int.tmod t (((cat L).length : Int) + 1) = a at ha
  have J0 : Ev (fun k => laws_FnFrames.j0 k l L (cat L) false) true := by
    refine EvS ?_
    simp only [laws_FnFrames.j0, Bool.false_eq_true, if_false, et, Option.bind_some, hwl, if_neg (show ¬ ((cat L).length : Int) + 1 = 0 by omega), hae, tornE, torn_take, EvB (scanE _ (hDb.take a.toNat) (by rw [List.length_take]; omega))]
    have exit : ∀ i : Nat, i ≤ L.length → usedL (L.take i) ≤ a → (∀ h : i < L.length, ¬ usedL (L.take (i + 1)) ≤ a) → Ev (fun k => laws_FnFrames.j2 k l L (cat L) (scanM ((cat L).take a.toNat)) (usedL (scanM ((cat L).take a.toNat))) i (usedL (L.take i))) true := by
      intro i hi hu hn
      have htok : ∀ p ∈ L.take i, okP p := fun p hp => hok p (List.mem_of_mem_take hp)
      have hsz := cat_len (L.take i) htok
      have hcut : scanM ((cat L).take a.toNat) = L.take i := by
        have := scan_cut (L.take i) (L.drop i) (by rw [List.take_append_drop]; exact hok) a.toNat (by omega) (fun p r hr => by
          have hil : i < L.length := by
            rcases Nat.lt_or_ge i L.length with h | h
            · exact h
            · rw [List.drop_eq_nil_of_le h] at hr; cases hr
          rw [drop_at L i hil] at hr
          have hp : L[i] = p := (List.cons.inj hr).1
          have := hn hil
          rw [List.take_add_one, List.getElem?_eq_getElem hil, Option.toList_some, used_app] at this
          simp only [usedL] at this
          rw [hp] at this
          omega)
        rw [List.take_append_drop] at this
        exact this
      rw [hcut]
      have hlt : (L.take i).length = i := by rw [List.length_take]; omega
      have hst := starts (L.take i) (L.drop i) (by omega)
      rw [List.take_append_drop] at hst
      refine EvS ?_
      simp only [laws_FnFrames.j2, hlt, if_true, EvB hst, Bool.not_true]
      exact J3
    have loop : ∀ d i : Nat, d + i = L.length → usedL (L.take i) ≤ a → Ev (fun k => laws_FnFrames.l0 k l L (cat L) a (scanM ((cat L).take a.toNat)) (usedL (scanM ((cat L).take a.toNat))) i (usedL (L.take i)) i) true := by
      intro d
      induction d with
      | zero =>
        intro i hi hu
        refine EvS ?_
        simp only [laws_FnFrames.l0, if_neg (show ¬ (i : Int) < (L.length : Int) by omega)]
        exact exit i (by omega) hu (fun h => by omega)
      | succ d ih =>
        intro i hi hu
        have hil : i < L.length := by omega
        have hu1 : usedL (L.take (i + 1)) = usedL (L.take i) + 8 + (L[i].length : Int) := by
          rw [List.take_add_one, List.getElem?_eq_getElem hil, Option.toList_some, used_app]
          simp only [usedL]; omega
        have hub : usedL (L.take (i + 1)) ≤ usedL L := by
          have := used_app (L.take (i + 1)) (L.drop (i + 1))
          rw [List.take_append_drop] at this
          have := used_nonneg (L.drop (i + 1))
          omega
        have hun := used_nonneg (L.take i)
        refine EvS ?_
        simp only [laws_FnFrames.l0, if_pos (show (i : Int) < (L.length : Int) by omega), if_pos (show 0 ≤ (i : Int) by omega), rdl L i hil]
        rw [show wrap64 (wrap64 (usedL (L.take i) + 8) + (L[i].length : Int)) = usedL (L.take (i + 1)) by rw [w64 (x := usedL (L.take i) + 8) (by omega) (by omega), w64 (by omega) (by omega)]; omega]
        by_cases hc : usedL (L.take (i + 1)) ≤ a
        · simp only [if_pos hc, nxt i L.length hil (by omega)]
          exact ih (i + 1) (by omega) hc
        · simp only [if_neg hc]
          exact exit i (by omega) hu (fun _ => hc)
    have := loop L.length 0 rfl (by simp only [List.take_zero, usedL]; omega)
    simp only [List.take_zero, usedL] at this
    exact this
  have eS := scanE (cat L) hDb hDs2
  rw [hsc, ← hDl] at eS
  simp only [decide_eq_false hbig, Option.bind_some, Bool.false_eq_true, if_false, EvB eL, EvB eF, EvB eS, EvB (same L (by omega)), if_true, EvB eW, Bool.not_true]
  exact J0
end Go.Proofs.Ytikmbfppjmbolaa.Pure

namespace Go.Proofs.Ytikmbfppjmbolaa.fnFrames
open Go.ChangeShapes Go.WideShapes Go.ChangeAt Go.RowKit
open Go.ChangeMaps (open_string shut_string)
set_option linter.unusedVariables false
theorem own : ownKnob Try.prog.godebug = none := by kernel_rfl
theorem laidOut : laidOutB Try.prog = true := by kernel_rfl
def IsRow (k : IntKind) (w : World) (a : Option Addr) (len cap : Nat) (zs : List Int) : Prop :=
  (a = none ∧ len = 0 ∧ cap = 0 ∧ zs = []) ∨
  ∃ x, a = some x ∧ len ≤ cap ∧ cap ≤ maxLen ∧ zs.length = cap ∧ (∀ i, i < zs.length → w.cell? (x.add i) = some (.int k (zs.getD i 0))) ∧ ∀ n ∈ zs, (Lit.int k n).wf = true
set_option maxRecDepth 100000 in
theorem lifted (os : Os) (started : os.Started) (H : Type) (enc : TypeId × Value → H) :
    ReturnsInHanded {} Try.checked os 9 .any (Rows.fnFramesSpec.pre6 enc Try.prog Try.f9 Rows.fnFramesRow.domain false) (Rows.fnFramesSpec.post enc Try.prog Try.f9 false true false false) := by
  refine returnsInHanded_of_change_sized (C := Try.checked) own started (by kernel_rfl) Try.func9
    (ChangeSpec.witness6 (enc := enc) (C := Try.checked) false ⟨#[], #[.slice none 0 0], []⟩ 8 (by kernel_rfl) (by kernel_rfl) (by kernel_rfl) (by kernel_rfl)) ?_
  intro W base args ds gs before hval0 hW hcnd hsz0 _
  have hsz : (DataW.weightsEach Try.prog (Try.f9.params.toList ++ Rows.fnFramesSpec.plain.varTypes Try.prog) (ds ++ gs)).all (· ≤ reachBytes) = true := hsz0
  have hval : ∀ (j : Nat) t v, Try.f9.params[j]? = some t → args[j]? = some v → Value.okWide Try.prog W .any base t v := hval0
  have hW' := hW
  obtain ⟨p, q, hA0, hV, rfl, hfz, hnd⟩ := hW
  have hA : DataW.TrodAll enc Try.prog W 0 (fun _ => true) true Try.f9.params.toList args.toList ds p := hA0
  rw [Try.params9] at hA hval hsz
  obtain ⟨v0, vs0, d0, ds0, p0, q0, hargs, rfl, rfl, h0, r0⟩ := trodAll_cons hA
  obtain ⟨rfl, rfl, rfl⟩ := trodAll_nil r0
  obtain rfl : args = #[v0] := by cases args; simp_all
  obtain ⟨rfl, rfl⟩ := trodVars_none hV
  obtain ⟨a0, len0, cap0, rfl⟩ := okWide_slice Try.underlying22 (hval 0 22 v0 rfl rfl)
  have k0 := h0
  have lt0 : ∀ x ∈ p0, x.block < W.heap.size := by obtain ⟨m, hm⟩ := k0; exact DataW.trod_lt m _ _ _ hm
  obtain ⟨z0, w0⟩ : ∃ zs, IsRow .u8 W a0 len0 cap0 zs := by
    obtain ⟨fuel, hf⟩ := h0
    rcases open_ints Try.underlying22 Try.underlying5 (by kernel_rfl) hf with ⟨hcs, _⟩ | ⟨x, l, c, zs, hcs, _, hl, hm, hz, _, hcell, hwz⟩
    · simp [Value.cells] at hcs
      obtain ⟨rfl, rfl, rfl⟩ := hcs
      exact ⟨[], .inl ⟨rfl, rfl, rfl, rfl⟩⟩
    · simp [Value.cells] at hcs
      obtain ⟨rfl, rfl, rfl⟩ := hcs
      exact ⟨zs, .inr ⟨_, rfl, hl, hm, by simpa using hz, hcell, hwz⟩⟩
  have y0 : len0 * 1 ≤ 140737488351232 := Go.Proofs.YtikmbfppjmbolaaW.PrintWords.sized_ints hsz (j := 0) (t := 22) rfl rfl Try.underlying22 Try.underlying5 (by kernel_rfl) (by kernel_rfl) h0
  clear hA0 hval0 hsz0 hsz
  refine (F.laws_FnFrames.walk Pure.FnFrames a0 len0 cap0 z0 W w0 y0).mono fun e W' ⟨he, bel⟩ => ?_
  subst he
  exact ⟨_, rfl, _, _, _, [], _, [], hW', trodAll_mk1 (shut_bool Try.underlying4 _), (trodAll_cons_mk (Below.trod laidOut (by kernel_rfl) (of_decide_eq_true (by kernel_rfl)) k0 bel lt0) trodAll_mk0), rfl, bel.frame _, fun h => by cases h⟩
theorem over : Rows.fnFramesRow.holds Try.pinned (OpenSpec.ofChange Rows.fnFramesSpec) :=
  OpenClaim.holds_of_wide 9 Try.f9 rfl rfl rfl rfl rfl rfl rfl ⟨rfl, rfl, rfl, rfl, rfl⟩ rfl rfl rfl rfl rfl (by kernel_rfl) Try.func9 (by kernel_rfl)
    (of_decide_eq_true (by kernel_rfl)) (by unfold Func.isWrapper; first | (rw [if_pos (by decide +kernel)]; kernel_rfl) | (rw [if_neg (by decide +kernel)]; exact ⟨rfl, rfl⟩))
    (fun os started H enc _ => lifted os started H enc)
theorem proved : Rows.FnFramesSaid := over
#print axioms proved
end Go.Proofs.Ytikmbfppjmbolaa.fnFrames
namespace Go.Proofs.Ytikmbfppjmbolaa
/-- The row, under a short name, for the claim. -/
theorem fnFrames_holds : Rows.FnFramesSaid := fnFrames.proved
end Go.Proofs.Ytikmbfppjmbolaa
