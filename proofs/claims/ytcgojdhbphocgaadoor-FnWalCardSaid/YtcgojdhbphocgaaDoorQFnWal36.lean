/- Merged texts below the law FnWal: Go functions as Lean functions, their contracts, and plain lemmas. -/
import Derived.Test.YtcgojdhbphocgaaDoorQFnWal30
import Derived.Test.YtcgojdhbphocgaaDoorQFnWal24
import Derived.Test.YtcgojdhbphocgaaDoorQFnWal25
namespace Go.Proofs.YtcgojdhbphocgaaDoor.DR
set_option linter.unusedVariables false
set_option linter.unusedSimpArgs false
open Go.RowKit Go.Proofs.YtcgojdhbphocgaaDoor.F Go.Proofs.YtcgojdhbphocgaaDoor.PK Go.Proofs.YtcgojdhbphocgaaDoorW.PrintWords Go.Proofs.YtcgojdhbphocgaaDoorW.PrintLast
theorem and255 (x : Int) : 0 ≤ Go.bits .and .i64 x 255 ∧ Go.bits .and .i64 x 255 ≤ 255 := by
  have h : ((BitVec.ofInt IntKind.i64.bits x) &&& (BitVec.ofInt IntKind.i64.bits 255)).toNat ≤ 255 := by
    rw [BitVec.toNat_and]
    exact Nat.le_trans Nat.and_le_right (by decide)
  have e : Go.bits .and .i64 x 255 = (((BitVec.ofInt IntKind.i64.bits x) &&& (BitVec.ofInt IntKind.i64.bits 255)).toNat : Int) := by
    show IntKind.i64.wrap (((BitVec.ofInt IntKind.i64.bits x) &&& (BitVec.ofInt IntKind.i64.bits 255)).toNat : Int) = _
    rw [IntKind.wrap_i64]
    omega
  omega
def At (b : List Int) (i : Int) : Prop := 0 ≤ i ∧ i ≤ (b.length : Int)
theorem dByte (b : List Int) (i h : Int) (hi : At b i) (hb : b.length ≤ 1048576) : ∃ x i' h', spec_l01Byte.f b i h = some (x, i', h') ∧ 0 ≤ x ∧ x ≤ 255 ∧ At b i' := by
  unfold At at *
  unfold spec_l01Byte.f
  by_cases c : i < (b.length : Int)
  · simp only [if_pos c, if_pos hi.1]
    exact ⟨_, _, _, rfl, (and255 _).1, (and255 _).2, by rw [w64 (by omega) (by omega)]; omega⟩
  simp only [if_neg c]
  exact ⟨_, _, _, rfl, (and255 _).1, (and255 _).2, hi⟩
theorem tmod_bd (x n : Int) (hx : 0 ≤ x) (hn : 0 < n) : 0 ≤ Int.tmod x n ∧ Int.tmod x n < n := ⟨Int.tmod_nonneg _ hx, Int.tmod_lt_of_pos _ hn⟩
theorem dBelow (b : List Int) (i h n : Int) (hi : At b i) (hb : b.length ≤ 1048576) : ∃ x i' h', spec_l01Below.f b i h n = some (x, i', h') ∧ 0 ≤ x ∧ (0 < n → x < n) ∧ (n ≤ 0 → x = 0) ∧ At b i' := by
  unfold spec_l01Below.f
  by_cases c : n ≤ 0
  · simp only [if_pos c]
    exact ⟨_, _, _, rfl, by omega, by omega, fun _ => rfl, hi⟩
  simp only [if_neg c]
  by_cases c2 : n ≤ 256
  · obtain ⟨x, i', h', e, h0, h1, h2⟩ := dByte b i h hi hb
    simp only [if_pos c2, e, Option.bind_some, if_neg (show ¬ n = 0 by omega)]
    have := tmod_bd x n h0 (by omega)
    exact ⟨_, _, _, rfl, this.1, fun _ => this.2, by omega, h2⟩
  obtain ⟨x, i1, h1, e1, a0, a1, a2⟩ := dByte b i h hi hb
  obtain ⟨y, i2, h2, e2, b0, b1, b2⟩ := dByte b i1 h1 a2 hb
  obtain ⟨z, i3, h3, e3, c0, c1, c2'⟩ := dByte b i2 h2 b2 hb
  simp only [if_neg c2, e1, e2, e3, Option.bind_some, if_neg (show ¬ n = 0 by omega)]
  have hw : wrap64 (wrap64 (wrap64 (x * 65536) + wrap64 (y * 256)) + z) = x * 65536 + y * 256 + z := by
    rw [w64 (x := x * 65536) (by omega) (by omega), w64 (x := y * 256) (by omega) (by omega), w64 (x := x * 65536 + y * 256) (by omega) (by omega), w64 (by omega) (by omega)]
  rw [hw]
  have := tmod_bd (x * 65536 + y * 256 + z) n (by omega) (by omega)
  exact ⟨_, _, _, rfl, this.1, fun _ => this.2, by omega, c2'⟩
theorem dSize (l : List Int) (m : Int) (hl : l.length ≤ 1048576) (hm : 2 ≤ m) : ∃ t, spec_l01Size.f l m = some t ∧ 2 ≤ t ∧ t ≤ m := by
  unfold spec_l01Size.f
  rw [w64 (x := (l.length : Int) / 16) (by omega) (by omega), w64 (by omega) (by omega)]
  split
  · exact ⟨_, rfl, hm, by omega⟩
  exact ⟨_, rfl, by omega, by omega⟩
theorem dNew (l : List Int) (hl : l.length ≤ 1048576) : ∃ h, Ev (fun k => spec_l01New.f k l) (l, 0, h) := by
  have key := up (P := fun i => ∀ x, ∃ h, Ev (fun k => spec_l01New.l0 k l x i) (l, 0, h)) l.length
    (fun x => ⟨x, EvS (by simp only [spec_l01New.l0, Int.lt_irrefl, if_false]; exact EvN)⟩)
    (fun i hi ih x => by
      by_cases c : (i : Int) < 4000
      · obtain ⟨h, e⟩ := ih (Go.bits .and .i64 (wrap64 ((wrap64 ((wrap64 (x * 149)) + (wrap64 (rd l i)))) + 11)) 1073741823)
        refine ⟨h, EvS ?_⟩
        simp only [spec_l01New.l0, if_pos (show (i : Int) < (l.length : Int) by omega), if_pos c, if_pos (show 0 ≤ (i : Int) by omega), show wrap64 ((i : Int) + 1) = ((i + 1 : Nat) : Int) by rw [w64 (by omega) (by omega)]; omega]
        exact e
      exact ⟨x, EvS (by simp only [spec_l01New.l0, if_pos (show (i : Int) < (l.length : Int) by omega), if_neg c]; exact EvN)⟩)
  unfold spec_l01New.f
  exact key 0 (Nat.zero_le _) _
theorem dPick (b : List Int) (i h : Int) (l : List Int) (hi : At b i) (hb : b.length ≤ 1048576) (hl : 0 < l.length) : ∃ x i' h', spec_l01PickInt.f b i h l = some (x, i', h') ∧ x ∈ l ∧ At b i' := by
  obtain ⟨x, i', h', e, h0, h1, _, h2⟩ := dBelow b i h (l.length : Int) hi hb
  unfold spec_l01PickInt.f
  have hx := h1 (by omega)
  simp only [e, Option.bind_some, if_pos h0, if_pos hx]
  refine ⟨_, _, _, rfl, ?_, h2⟩
  have hn : x.toNat < l.length := by omega
  have : rd l x = l[x.toNat] := by
    have := getD_nat l 0 x.toNat hn
    rw [Int.toNat_of_nonneg h0] at this
    exact this
  rw [this]
  exact List.getElem_mem hn
theorem dBytes (b : List Int) (n : Int) (hb : b.length ≤ 1048576) (hn : n ≤ 1000000) (h0 : 0 ≤ n) : ∀ (i h : Int), At b i → ∃ (x : List Int) (i' h' : Int), Ev (fun k => spec_l01DrawBytes.f k b i h n) (x, i', h') ∧ (x.length : Int) = n ∧ (∀ y ∈ x, 0 ≤ y ∧ y ≤ 255) ∧ At b i' := by
  have key : ∀ (d j : Nat) (x : List Int) (i h : Int), (d : Int) + j = n → (x.length : Int) = j → (∀ y ∈ x, 0 ≤ y ∧ y ≤ 255) → At b i → ∃ (x' : List Int) (i' h' : Int), Ev (fun k => spec_l01DrawBytes.l0 k n x j b i h) (x', i', h') ∧ (x'.length : Int) = n ∧ (∀ y ∈ x', 0 ≤ y ∧ y ≤ 255) ∧ At b i' := by
    intro d
    induction d with
    | zero =>
      intro j x i h hj hx hy hi
      exact ⟨x, i, h, EvS (by simp only [spec_l01DrawBytes.l0, if_neg (show ¬ (j : Int) < n by omega)]; exact EvN), by omega, hy, hi⟩
    | succ d ih =>
      intro j x i h hj hx hy hi
      obtain ⟨a, i1, h1, e1, _, _, _, g1⟩ := dBelow b i h 256 hi hb
      obtain ⟨c, i2, h2, e2, _, _, _, g2⟩ := dBelow b i1 h1 256 g1 hb
      obtain ⟨y, i3, h3, e3, _, g3⟩ := dPick b i2 h2 [0, 1, 255, 128, a, c] g2 hb (by simp)
      have hS : (x.length < 140737488355328) = True := eq_true (by omega)
      obtain ⟨x', i', h', r1, r2, r3, r4⟩ := ih (j + 1) (x ++ [y % 256]) i3 h3 (by omega) (by simp; omega) (fun z hz => by
        rcases List.mem_append.1 hz with hz | hz
        · exact hy z hz
        rw [List.mem_singleton.1 hz]
        omega) g3
      refine ⟨x', i', h', EvS ?_, r2, r3, r4⟩
      simp only [spec_l01DrawBytes.l0, if_pos (show (j : Int) < n by omega), e1, e2, e3, Option.bind_some, hS, if_true, show wrap64 ((j : Int) + 1) = ((j + 1 : Nat) : Int) by rw [w64 (by omega) (by omega)]; omega]
      exact r1
  intro i h hi
  obtain ⟨x', i', h', r1, r2, r3, r4⟩ := key n.toNat 0 [] i h (by omega) rfl (fun y hy => by cases hy) hi
  exact ⟨x', i', h', by unfold spec_l01DrawBytes.f; exact r1, r2, r3, r4⟩
end Go.Proofs.YtcgojdhbphocgaaDoor.DR
