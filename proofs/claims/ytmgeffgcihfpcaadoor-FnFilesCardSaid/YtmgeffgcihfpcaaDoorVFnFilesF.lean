/- Merged texts below the law FnFiles: Go functions as Lean functions, their contracts, and plain lemmas. -/
import Derived.Test.YtmgeffgcihfpcaaDoorQFnFiles23
namespace Go.Proofs.YtmgeffgcihfpcaaDoor.F
open Go.RowKit Go.Proofs.YtmgeffgcihfpcaaDoorW.PrintWords Go.Proofs.YtmgeffgcihfpcaaDoorW.PrintLast Go.Proofs.YtmgeffgcihfpcaaDoorW.PrintMore
open Go.Proofs.YtmgeffgcihfpcaaDoor
set_option linter.unusedVariables false
set_option linter.unusedSimpArgs false
def wIdx (s : ByteArray) : List S74 → Nat
  | [] => 0
  | y :: r => if Op.bytesLess y.f0.toList s.toList = true then wIdx s r + 1 else 0
theorem wIdx_le (s : ByteArray) : ∀ l : List S74, wIdx s l ≤ l.length
  | [] => Nat.le_refl _
  | y :: r => by
    have := wIdx_le s r
    unfold wIdx
    split
    · simp only [List.length_cons]; omega
    · exact Nat.zero_le _
def insM (l : List S74) (x : S74) : List S74 := l.take (wIdx x.f0 l) ++ x :: l.drop (wIdx x.f0 l)
theorem sInsert (i : Nat) (P G : Nat → Prop) (v : Value) (l : List S74) (x : S74) (cx : List Value) (gv : Nat) (w0 w : World) (hB : Below w0.heap.size w0 w) (ho : Kd.S k74 74 w w0.heap.size P v l) (hlen : (l.length + 1) * 64 ≤ 140737488355328)
    (hx : k74.M w w0.heap.size G x cx) (hgv : w.heap[gv]? = some (.cells cx.toArray 74 (0, 0))) (hPG : ∀ k, G k → ¬ P k) (hgP : ¬ P gv) (hi : i ≤ l.length) :
    Calls Tryd.prog 105 #[v, .int .i64 i, .slice (some ⟨gv, 0, none⟩) 1 1] w (InsPost w0 w P G (l.take i ++ x :: l.drop i)) := by
  by_cases h : i = l.length
  · subst h
    exact sInsert_end P G v l x cx gv w0 w hB ho hlen hx hgv hPG _ rfl
  · obtain ⟨g, c, rfl, _, _, _⟩ := Kd.S_form ho (by omega)
    by_cases hr : l.length + 1 ≤ c
    · exact sInsert_room i P G g l.length c l x cx gv w0 w hB ho hlen hx hgv hPG hgP (by omega) hr _ rfl
    · exact sInsert_grow i P G g l.length c l x cx gv w0 w hB ho hlen hx hgv hPG hgP (by omega) (by omega) _ rfl
set_option maxHeartbeats 8000000 in
set_option maxRecDepth 100000 in
theorem impl_withFile.calls (P G : Nat → Prop) (v : Value) (l : List S74) (x : S74) (u1 u2 : Value) (w0 w : World) (hB : Below w0.heap.size w0 w) (ho : Kd.S k74 74 w w0.heap.size P v l) (hlen : (l.length + 1) * 64 ≤ 140737488355328)
    (hx : k74.M w w0.heap.size G x [.string x.f0, u1, u2]) (hPG : ∀ k, G k → ¬ P k) :
    Calls Tryd.prog 97 #[.agg #[v], .agg #[.string x.f0, u1, u2]] w fun e w' => ∃ v' : Value, e = .returned (.agg #[v']) ∧ Kd.S k74 74 w' w0.heap.size (fun k => P k ∨ G k ∨ (w.heap.size ≤ k ∧ k < w'.heap.size)) v' (insM l x) ∧ Below w0.heap.size w0 w' ∧ Kept w w' P := by
  obtain ⟨A, c, rfl⟩ := Kd.S_slice ho
  have HO := Zh ho
  have HX := Zh hx
  have HPG := Zh hPG
  have HB0 := Zh hB
  have HL := Zh hlen
  have HR := Zh (Kd.S_reads' ho).2.2
  have HC := Zh (Kd.S_reads' ho).2.1
  clear ho hx hPG hB hlen
  have ST := Zh (LW.St.start w)
  have hu74 := Tryd.underlying74
  have hu29 := Tryd.underlying29
  go_enter Tryd.func97, Tryd.ntmps97
  go_wp2_with fail
  replace ST := Zh (ST.out.alloc #[.slice A l.length c] 29 (g := w.heap.size) rfl)
  replace ST := Zh (ST.out.alloc #[.string x.f0, u1, u2] 74 (g := w.heap.size + 1) (by simp))
  replace ST := Zh (ST.out.alloc #[.slice none 0 0] 29 (g := w.heap.size + 2) (by simp))
  generalize hW : (((w.alloc (.cells #[.slice A l.length c] 29)).alloc (.cells #[.string x.f0, u1, u2] 74)).alloc (.cells #[.slice none 0 0] 29)) = W at ST ⊢
  clear hW
  go_loopg [5] l.length (fun gg v5 w' => ∃ i : Int, 0 ≤ i ∧ i ≤ (l.length : Int) ∧ l.length - i.toNat ≤ gg ∧ v5 = .int .i64 i ∧ Aside0 (i.toNat + wIdx x.f0 (l.drop i.toNat) = wIdx x.f0 l) ∧ Aside0 (LW.St w w' [LW.box (w.heap.size + 2) #[.slice none 0 0] 29, LW.box (w.heap.size + 1) #[.string x.f0, u1, u2] 74, LW.box w.heap.size #[.slice A l.length c] 29]))
  case atStart => exact ⟨0, Int.le_refl _, by omega, by omega, rfl, ⟨by simp⟩, ST⟩
  case round =>
    clear ST
    obtain ⟨i, hi0, hi1, hg, rfl, HA, ST⟩ := hrel
    have HI0 := Zh hi0
    have HI1 := Zh hi1
    have HG := Zh hg
    by_cases hlt : i < (l.length : Int)
    · have hltz : decide (i < (l.length : Int)) = true := decide_eq_true hlt
      obtain ⟨ad, A1, c1, A2, c2, e, hx0, hx1, hx2, _, _, _, _⟩ := at_T74 HR.out i hi0 hlt
      cases e
      have HLT := Zh hlt
      have E0 := Zh hx0
      have p0 := eq_true hi0
      have p1 := eq_true hlt
      clear hx0 hx1 hx2 hi0 hi1 hg hlt
      go_wp2_with fail
      replace ST := Zh ST.out.drew
      refine start_ (n := 16) (S := fun w' => w'.cell? ⟨w.heap.size, 0, none⟩ = some (.slice (some ad) l.length c) ∧ w'.cell? (ad.add (i.toNat * 3)) = some (.string (rd_T74 l i).f0) ∧ w'.cell? ⟨w.heap.size + 1, 0, none⟩ = some (.string x.f0)) (ds := []) #[false, false, false, false, false, false, false, false, false, false, false, false, false, false, false, false] (by kernel_rfl) rfl rfl ⟨ST.out.cell 2 rfl 0 rfl, (ST.out.b.cell (Zi w _ E0.out)).trans E0.out, ST.out.cell 1 rfl 0 rfl⟩ (fun hHeld => ?_)
      generalize wr.drew = w4 at ST hHeld ⊢
      refine pure_ (i := 0) (N := some 6) (v := ?_) (a' := ?_) #[true, false, false, false, false, false, false, false, false, false, false, false, false, false, false, false] rfl rfl (by kernel_rfl) (fun _ _ _ h => h) (Or.inl ⟨by rfl, ?_⟩) ?_ ?_
      rotate_left
      · intro w'
        go_simp
        with_reducible rfl
      rotate_left
      · simp only [Act.put, List.setIfInBounds_toArray, List.set_cons_zero, List.set_cons_succ, i64_w, i32_w]
        rfl
      refine pure_ (i := 1) (N := some 7) (v := ?_) (a' := ?_) #[true, true, false, false, false, false, false, false, false, false, false, false, false, false, false, false] rfl rfl (by kernel_rfl) (fun _ _ _ h => h) (Or.inl ⟨by rfl, ?_⟩) ?_ ?_
      rotate_left
      · intro w'
        go_simp
        with_reducible rfl
      rotate_left
      · simp only [Act.put, List.setIfInBounds_toArray, List.set_cons_zero, List.set_cons_succ, i64_w, i32_w]
        rfl
      refine take_ (i := 2) (N := some 8) (v := ?_) (a' := ?_) #[true, true, true, false, false, false, false, false, false, false, false, false, false, false, false, false] rfl rfl (by kernel_rfl) (fun _ _ _ h => h) (Or.inl ⟨by rfl, ?_⟩) hHeld ?_ ?_
      rotate_left
      · rintro w' ⟨s0, s1, s2⟩
        go_simp
        with_reducible rfl
      rotate_left
      · simp only [Act.put, List.setIfInBounds_toArray, List.set_cons_zero, List.set_cons_succ, i64_w, i32_w]
        rfl
      refine pure_ (i := 3) (N := some 9) (v := ?_) (a' := ?_) #[true, true, true, true, false, false, false, false, false, false, false, false, false, false, false, false] rfl rfl (by kernel_rfl) (fun _ _ _ h => h) (Or.inl ⟨by rfl, ?_⟩) ?_ ?_
      rotate_left
      · intro w'
        go_simp
        with_reducible rfl
      rotate_left
      · simp only [Act.put, List.setIfInBounds_toArray, List.set_cons_zero, List.set_cons_succ, i64_w, i32_w]
        rfl
      refine pure_ (i := 4) (N := some 10) (v := ?_) (a' := ?_) #[true, true, true, true, true, false, false, false, false, false, false, false, false, false, false, false] rfl rfl (by kernel_rfl) (fun _ _ _ h => h) (Or.inl ⟨by rfl, ?_⟩) ?_ ?_
      rotate_left
      · intro w'
        go_simp
        with_reducible rfl
      rotate_left
      · simp only [Act.put, List.setIfInBounds_toArray, List.set_cons_zero, List.set_cons_succ, i64_w, i32_w]
        rfl
      refine pure_ (i := 5) (N := some 11) (v := ?_) (a' := ?_) #[true, true, true, true, true, true, false, false, false, false, false, false, false, false, false, false] rfl rfl (by kernel_rfl) (fun _ _ _ h => h) (Or.inl ⟨by rfl, ?_⟩) ?_ ?_
      rotate_left
      · intro w'
        go_simp
        with_reducible rfl
      rotate_left
      · simp only [Act.put, List.setIfInBounds_toArray, List.set_cons_zero, List.set_cons_succ, i64_w, i32_w]
        rfl
      refine pure_ (i := 6) (N := some 12) (v := ?_) (a' := ?_) #[true, true, true, true, true, true, true, false, false, false, false, false, false, false, false, false] rfl rfl (by kernel_rfl) (fun _ _ _ h => h) (Or.inl ⟨by rfl, ?_⟩) ?_ ?_
      rotate_left
      · intro w'
        go_simp
        with_reducible rfl
      rotate_left
      · simp only [Act.put, List.setIfInBounds_toArray, List.set_cons_zero, List.set_cons_succ, i64_w, i32_w]
        rfl
      refine take_ (i := 7) (N := some 13) (v := ?_) (a' := ?_) #[true, true, true, true, true, true, true, true, false, false, false, false, false, false, false, false] rfl rfl (by kernel_rfl) (fun _ _ _ h => h) (Or.inl ⟨by rfl, ?_⟩) hHeld ?_ ?_
      rotate_left
      · rintro w' ⟨s0, s1, s2⟩
        go_simp
        with_reducible rfl
      rotate_left
      · simp only [Act.put, List.setIfInBounds_toArray, List.set_cons_zero, List.set_cons_succ, i64_w, i32_w]
        rfl
      refine pure_ (i := 8) (N := some 14) (v := ?_) (a' := ?_) #[true, true, true, true, true, true, true, true, true, false, false, false, false, false, false, false] rfl rfl (by kernel_rfl) (fun _ _ _ h => h) (Or.inl ⟨by rfl, ?_⟩) ?_ ?_
      rotate_left
      · intro w'
        go_simp
        with_reducible rfl
      rotate_left
      · simp only [Act.put, List.setIfInBounds_toArray, List.set_cons_zero, List.set_cons_succ, i64_w, i32_w]
        rfl
      refine pure_ (i := 9) (N := some 15) (v := ?_) (a' := ?_) #[true, true, true, true, true, true, true, true, true, true, false, false, false, false, false, false] rfl rfl (by kernel_rfl) (fun _ _ _ h => h) (Or.inl ⟨by rfl, ?_⟩) ?_ ?_
      rotate_left
      · intro w'
        go_simp
        with_reducible rfl
      rotate_left
      · simp only [Act.put, List.setIfInBounds_toArray, List.set_cons_zero, List.set_cons_succ, i64_w, i32_w]
        rfl
      refine pure_ (i := 10) (N := some 16) (v := ?_) (a' := ?_) #[true, true, true, true, true, true, true, true, true, true, true, false, false, false, false, false] rfl rfl (by kernel_rfl) (fun _ _ _ h => h) (Or.inl ⟨by rfl, ?_⟩) ?_ ?_
      rotate_left
      · intro w'
        go_simp
        with_reducible rfl
      rotate_left
      · simp only [Act.put, List.setIfInBounds_toArray, List.set_cons_zero, List.set_cons_succ, i64_w, i32_w]
        rfl
      refine take_ (i := 11) (N := some 17) (v := ?_) (a' := ?_) #[true, true, true, true, true, true, true, true, true, true, true, true, false, false, false, false] rfl rfl (by kernel_rfl) (fun _ _ _ h => h) (Or.inl ⟨by rfl, ?_⟩) hHeld ?_ ?_
      rotate_left
      · rintro w' ⟨s0, s1, s2⟩
        go_simp
        with_reducible rfl
      rotate_left
      · simp only [Act.put, List.setIfInBounds_toArray, List.set_cons_zero, List.set_cons_succ, i64_w, i32_w]
        rfl
      refine pure_ (i := 12) (N := some 18) (v := ?_) (a' := ?_) #[true, true, true, true, true, true, true, true, true, true, true, true, true, false, false, false] rfl rfl (by kernel_rfl) (fun _ _ _ h => h) (Or.inl ⟨by rfl, ?_⟩) ?_ ?_
      rotate_left
      · intro w'
        go_simp
        with_reducible rfl
      rotate_left
      · simp only [Act.put, List.setIfInBounds_toArray, List.set_cons_zero, List.set_cons_succ, i64_w, i32_w]
        rfl
      refine take_ (i := 13) (N := some 19) (v := ?_) (a' := ?_) #[true, true, true, true, true, true, true, true, true, true, true, true, true, true, false, false] rfl rfl (by kernel_rfl) (fun _ _ _ h => h) (Or.inl ⟨by rfl, ?_⟩) hHeld ?_ ?_
      rotate_left
      · rintro w' ⟨s0, s1, s2⟩
        go_simp
        with_reducible rfl
      rotate_left
      · simp only [Act.put, List.setIfInBounds_toArray, List.set_cons_zero, List.set_cons_succ, i64_w, i32_w]
        rfl
      refine pure_ (i := 14) (N := some 20) (v := ?_) (a' := ?_) #[true, true, true, true, true, true, true, true, true, true, true, true, true, true, true, false] rfl rfl (by kernel_rfl) (fun _ _ _ h => h) (Or.inl ⟨by rfl, ?_⟩) ?_ ?_
      rotate_left
      · intro w'
        go_simp
        with_reducible rfl
      rotate_left
      · simp only [Act.put, List.setIfInBounds_toArray, List.set_cons_zero, List.set_cons_succ, i64_w, i32_w]
        rfl
      refine pure_ (i := 15) (N := some 21) (v := ?_) (a' := ?_) #[true, true, true, true, true, true, true, true, true, true, true, true, true, true, true, true] rfl rfl (by kernel_rfl) (fun _ _ _ h => h) (Or.inl ⟨by rfl, ?_⟩) ?_ ?_
      rotate_left
      · intro w'
        go_simp
        with_reducible rfl
      rotate_left
      · simp only [Act.put, List.setIfInBounds_toArray, List.set_cons_zero, List.set_cons_succ, i64_w, i32_w]
        rfl
      refine done_ (by kernel_rfl) ?_
      clear hHeld
      cases hq : Op.bytesLess (rd_T74 l i).f0.toList x.f0.toList with
      | true =>
        go_wp2
        go_roundg (l.length - (i.toNat + 1))
        case measure => have := HG.out; have := HLT.out; have := HI0.out; omega
        case rel =>
          have hq2 := HA.out
          rw [List.drop_eq_getElem_cons (show i.toNat < l.length by have := HLT.out; have := HI0.out; omega)] at hq2
          have hrd : rd_T74 l i = l[i.toNat]'(by have := HLT.out; have := HI0.out; omega) := by simp [rd_T74, List.getD_eq_getElem?_getD, List.getElem?_eq_getElem (show i.toNat < l.length by have := HLT.out; have := HI0.out; omega)]
          rw [hrd] at hq
          simp only [wIdx, hq, if_true] at hq2
          exact ⟨i + 1, by have := HI0.out; omega, by have := HLT.out; omega, by have := HI0.out; omega, by have h1 := HL.out; have h2 := HLT.out; have h3 := HI0.out; rw [show wrap64 (i + 1) = i + 1 by unfold wrap64; omega], ⟨by rw [show (i + 1).toNat = i.toNat + 1 by have := HI0.out; omega]; omega⟩, ST⟩
      | false =>
        have hn : i.toNat = wIdx x.f0 l := by
          have hq2 := HA.out
          rw [List.drop_eq_getElem_cons (show i.toNat < l.length by have := HLT.out; have := HI0.out; omega)] at hq2
          have hrd : rd_T74 l i = l[i.toNat]'(by have := HLT.out; have := HI0.out; omega) := by simp [rd_T74, List.getD_eq_getElem?_getD, List.getElem?_eq_getElem (show i.toNat < l.length by have := HLT.out; have := HI0.out; omega)]
          rw [hrd] at hq
          simp only [wIdx, hq, Bool.false_eq_true, if_false] at hq2
          omega
        clear E0 p0 p1 HA HG
        have hc0 := ST.out.cell 2 rfl 0 (u := .slice (some ad) l.length c) rfl
        have hc1 := ST.out.cell 1 rfl 0 (u := .string x.f0) rfl
        have hc2 := ST.out.cell 1 rfl 1 (u := u1) rfl
        have hc3 := ST.out.cell 1 rfl 2 (u := u2) rfl
        have hl0 := ST.out.lt 2 rfl
        have hl1 := ST.out.lt 1 rfl
        go_wp2_with fail
        obtain rfl : i = ((wIdx x.f0 l : Nat) : Int) := by have := HI0.out; omega
        clear hc0 hc1 hc2 hc3 hl0 hl1
        have hb5 := Zf ST.out.b (.cells #[.string x.f0, u1, u2] 74)
        have hw4 := ST.out.b.size
        have b0 := blk_alloc (ST.out.blk 2 rfl) (.cells #[.string x.f0, u1, u2] 74)
        have b2 := blk_alloc (ST.out.blk 0 rfl) (.cells #[.string x.f0, u1, u2] 74)
        have hgv : (w4.alloc (.cells #[.string x.f0, u1, u2] 74)).heap[w4.heap.size]? = some (.cells #[.string x.f0, u1, u2] 74 (0, 0)) := by simpa using blk_new w4 (.cells #[.string x.f0, u1, u2] 74)
        generalize (w4.alloc (.cells #[.string x.f0, u1, u2] 74)) = w5 at hb5 b0 b2 hgv ⊢
        have hlt2 := ST.out.lt 0 rfl
        have hS5 := Kd.S_below (Kd.S_mono (Kd.S_bound HO.out) (fun k hk => (⟨hk.1, hk.2.2.1⟩ : P k ∧ k < w.heap.size))) hb5
        have hM5 := Kd.M_step (k74.M_mono (fun k hk => (⟨hk.1, hk.2.2.1⟩ : G k ∧ k < w.heap.size)) (k74.M_bound HX.out)) (fun k hk hlt => hb5.block k hlt)
        have hw5 := blk_lt hgv
        refine (sInsert (wIdx x.f0 l) (fun k => P k ∧ k < w.heap.size) (fun k => G k ∧ k < w.heap.size) _ l x _ w4.heap.size w0 w5 (Zl HB0.out hb5) hS5 HL.out hM5 hgv (fun k hk hp => HPG.out k hk.1 hp.1) (fun hp => by have := hp.2; omega) (wIdx_le _ _)).mono ?_
        rintro e w6 ⟨v', rfl, hS6, hB6, hK6⟩
        replace b0 := (hK6.2 _ (blk_lt b0) (fun hp => by have := hp.2; omega)).trans b0
        replace b2 := (hK6.2 _ (blk_lt b2) (fun hp => by have := hp.2; omega)).trans b2
        obtain ⟨A6, c6, hv6⟩ := Kd.S_slice hS6
        obtain ⟨n6, hn6⟩ : ∃ n6, n6 = (l.take (wIdx x.f0 l) ++ x :: l.drop (wIdx x.f0 l)).length := ⟨_, rfl⟩
        rw [← hn6] at hv6
        subst hv6
        clear hn6
        have FIN := Zh (And.intro hS6 (And.intro hB6 (And.intro hK6 (And.intro hb5 (And.intro hw5 (And.intro hw4 (And.intro hM5 b0)))))))
        have B2 := Zh b2
        have hc0 : w6.cell? ⟨w.heap.size, 0, none⟩ = some (.slice (some ad) l.length c) := (blk_cell b0 0).trans rfl
        have hf0 := Zn b0 0
        have hc2 : w6.cell? ⟨w.heap.size + 2, 0, none⟩ = some (.slice none 0 0) := (blk_cell b2 0).trans rfl
        have hf2 := Zn b2 0
        have hl0 := blk_lt b0
        have hl2 := blk_lt b2
        clear hS6 hB6 hK6 hb5 hw5 hw4 b0 b2 hM5 hS5 hgv
        go_wp2_with fail
        obtain ⟨hS6, hB6, hK6, hb5, hw5, hw4, hM5, b0⟩ := FIN.out
        have hs0 := HB0.out.size
        have hb2 := blk_put (cs' := #[.slice A6 n6 c6]) (blk_far B2.out (p := ⟨w.heap.size, 0, none⟩) (by show w.heap.size + 2 ≠ w.heap.size; omega) (.slice A6 n6 c6)) 0 (.slice A6 n6 c6) rfl
        refine Zq (results_cell_row rfl _ _ (w.heap.size + 2) 29 #[.slice A6 n6 c6] (0, 0) _ rfl hb2 Tryd.underlying29 rfl (by kernel_rfl)) rfl ?_
        refine ⟨_, rfl, Kd.S_mono (Kd.S_far (Kd.S_far hS6 (fun k hk => ?_) _) (fun k hk => ?_) _) (fun k hk => ?_), Zg (Zg hB6 hs0) (by show w0.heap.size ≤ w.heap.size + 2; omega), ⟨?_, fun k hk hn => ?_⟩⟩
        · show k ≠ w.heap.size
          rcases hk with hk | hk | hk
          · have := hk.2; omega
          · have := hk.2; omega
          · have := hk.1; omega
        · show k ≠ w.heap.size + 2
          rcases hk with hk | hk | hk
          · have := hk.2; omega
          · have := hk.2; omega
          · have := hk.1; omega
        · rcases hk with hk | hk | hk
          · exact .inl hk.1
          · exact .inr (.inl hk.1)
          · refine .inr (.inr ⟨by have := hk.1; omega, ?_⟩)
            have := hk.2
            simpa [World.setCell] using this
        · have := hK6.1
          simp only [LW.setCell_size]
          omega
        · rw [Below.heap_setCell _ _ _ k (show k ≠ w.heap.size + 2 by omega), Below.heap_setCell _ _ _ k (show k ≠ w.heap.size by omega), hK6.2 k (by omega) (fun hp => hn hp.1), hb5.block k hk]
    · have hltz : decide (i < (l.length : Int)) = false := decide_eq_false hlt
      have hn : i.toNat = wIdx x.f0 l := by
        have hq2 := HA.out
        rw [List.drop_eq_nil_of_le (by omega)] at hq2
        simpa [wIdx] using hq2
      clear hi0 hi1 hg hlt
      go_wp2_with fail
      replace ST := Zh ST.out.drew
      refine start_ (n := 16) (S := fun w' => w'.cell? ⟨w.heap.size, 0, none⟩ = some (.slice A l.length c)) (ds := []) #[false, false, false, false, false, false, false, false, false, false, false, false, false, false, false, false] (by kernel_rfl) rfl rfl (ST.out.cell 2 rfl 0 rfl) (fun hHeld => ?_)
      generalize wr.drew = w4 at ST hHeld ⊢
      refine pure_ (i := 0) (N := some 6) (v := ?_) (a' := ?_) #[true, false, false, false, false, false, false, false, false, false, false, false, false, false, false, false] rfl rfl (by kernel_rfl) (fun _ _ _ h => h) (Or.inl ⟨by rfl, ?_⟩) ?_ ?_
      rotate_left
      · intro w'
        go_simp
        with_reducible rfl
      rotate_left
      · simp only [Act.put, List.setIfInBounds_toArray, List.set_cons_zero, List.set_cons_succ, i64_w, i32_w]
        rfl
      refine pure_ (i := 1) (N := some 7) (v := ?_) (a' := ?_) #[true, true, false, false, false, false, false, false, false, false, false, false, false, false, false, false] rfl rfl (by kernel_rfl) (fun _ _ _ h => h) (Or.inl ⟨by rfl, ?_⟩) ?_ ?_
      rotate_left
      · intro w'
        go_simp
        with_reducible rfl
      rotate_left
      · simp only [Act.put, List.setIfInBounds_toArray, List.set_cons_zero, List.set_cons_succ, i64_w, i32_w]
        rfl
      refine take_ (i := 2) (N := some 8) (v := ?_) (a' := ?_) #[true, true, true, false, false, false, false, false, false, false, false, false, false, false, false, false] rfl rfl (by kernel_rfl) (fun _ _ _ h => h) (Or.inl ⟨by rfl, ?_⟩) hHeld ?_ ?_
      rotate_left
      · rintro w' s0
        go_simp
        with_reducible rfl
      rotate_left
      · simp only [Act.put, List.setIfInBounds_toArray, List.set_cons_zero, List.set_cons_succ, i64_w, i32_w]
        rfl
      refine pure_ (i := 3) (N := some 9) (v := ?_) (a' := ?_) #[true, true, true, true, false, false, false, false, false, false, false, false, false, false, false, false] rfl rfl (by kernel_rfl) (fun _ _ _ h => h) (Or.inl ⟨by rfl, ?_⟩) ?_ ?_
      rotate_left
      · intro w'
        go_simp
        with_reducible rfl
      rotate_left
      · simp only [Act.put, List.setIfInBounds_toArray, List.set_cons_zero, List.set_cons_succ, i64_w, i32_w]
        rfl
      refine pure_ (i := 4) (N := some 10) (v := ?_) (a' := ?_) #[true, true, true, true, true, false, false, false, false, false, false, false, false, false, false, false] rfl rfl (by kernel_rfl) (fun _ _ _ h => h) (Or.inl ⟨by rfl, ?_⟩) ?_ ?_
      rotate_left
      · intro w'
        go_simp
        with_reducible rfl
      rotate_left
      · simp only [Act.put, List.setIfInBounds_toArray, List.set_cons_zero, List.set_cons_succ, i64_w, i32_w]
        rfl
      refine pure_ (i := 5) (N := some 11) (v := ?_) (a' := ?_) #[true, true, true, true, true, true, false, false, false, false, false, false, false, false, false, false] rfl rfl (by kernel_rfl) (fun _ _ _ h => h) (Or.inl ⟨by rfl, ?_⟩) ?_ ?_
      rotate_left
      · intro w'
        go_simp
        with_reducible rfl
      rotate_left
      · simp only [Act.put, List.setIfInBounds_toArray, List.set_cons_zero, List.set_cons_succ, i64_w, i32_w]
        rfl
      refine pure_ (i := 6) (N := some 12) (v := undef) (a' := ?_) #[true, true, true, true, true, true, true, false, false, false, false, false, false, false, false, false] rfl rfl (by kernel_rfl) (fun _ _ _ h => h) (Or.inr ⟨by rfl, rfl⟩) ?_ ?_
      rotate_left
      · simp only [Act.put, List.setIfInBounds_toArray, List.set_cons_zero, List.set_cons_succ, i64_w, i32_w]
        rfl
      refine pure_ (i := 7) (N := some 13) (v := undef) (a' := ?_) #[true, true, true, true, true, true, true, true, false, false, false, false, false, false, false, false] rfl rfl (by kernel_rfl) (fun _ _ _ h => h) (Or.inr ⟨by rfl, rfl⟩) ?_ ?_
      rotate_left
      · simp only [Act.put, List.setIfInBounds_toArray, List.set_cons_zero, List.set_cons_succ, i64_w, i32_w]
        rfl
      refine pure_ (i := 8) (N := some 14) (v := undef) (a' := ?_) #[true, true, true, true, true, true, true, true, true, false, false, false, false, false, false, false] rfl rfl (by kernel_rfl) (fun _ _ _ h => h) (Or.inr ⟨by rfl, rfl⟩) ?_ ?_
      rotate_left
      · simp only [Act.put, List.setIfInBounds_toArray, List.set_cons_zero, List.set_cons_succ, i64_w, i32_w]
        rfl
      refine pure_ (i := 9) (N := some 15) (v := undef) (a' := ?_) #[true, true, true, true, true, true, true, true, true, true, false, false, false, false, false, false] rfl rfl (by kernel_rfl) (fun _ _ _ h => h) (Or.inr ⟨by rfl, rfl⟩) ?_ ?_
      rotate_left
      · simp only [Act.put, List.setIfInBounds_toArray, List.set_cons_zero, List.set_cons_succ, i64_w, i32_w]
        rfl
      refine pure_ (i := 10) (N := some 16) (v := undef) (a' := ?_) #[true, true, true, true, true, true, true, true, true, true, true, false, false, false, false, false] rfl rfl (by kernel_rfl) (fun _ _ _ h => h) (Or.inr ⟨by rfl, rfl⟩) ?_ ?_
      rotate_left
      · simp only [Act.put, List.setIfInBounds_toArray, List.set_cons_zero, List.set_cons_succ, i64_w, i32_w]
        rfl
      refine pure_ (i := 11) (N := some 17) (v := undef) (a' := ?_) #[true, true, true, true, true, true, true, true, true, true, true, true, false, false, false, false] rfl rfl (by kernel_rfl) (fun _ _ _ h => h) (Or.inr ⟨by rfl, rfl⟩) ?_ ?_
      rotate_left
      · simp only [Act.put, List.setIfInBounds_toArray, List.set_cons_zero, List.set_cons_succ, i64_w, i32_w]
        rfl
      refine pure_ (i := 12) (N := some 18) (v := undef) (a' := ?_) #[true, true, true, true, true, true, true, true, true, true, true, true, true, false, false, false] rfl rfl (by kernel_rfl) (fun _ _ _ h => h) (Or.inr ⟨by rfl, rfl⟩) ?_ ?_
      rotate_left
      · simp only [Act.put, List.setIfInBounds_toArray, List.set_cons_zero, List.set_cons_succ, i64_w, i32_w]
        rfl
      refine pure_ (i := 13) (N := some 19) (v := undef) (a' := ?_) #[true, true, true, true, true, true, true, true, true, true, true, true, true, true, false, false] rfl rfl (by kernel_rfl) (fun _ _ _ h => h) (Or.inr ⟨by rfl, rfl⟩) ?_ ?_
      rotate_left
      · simp only [Act.put, List.setIfInBounds_toArray, List.set_cons_zero, List.set_cons_succ, i64_w, i32_w]
        rfl
      refine pure_ (i := 14) (N := some 20) (v := undef) (a' := ?_) #[true, true, true, true, true, true, true, true, true, true, true, true, true, true, true, false] rfl rfl (by kernel_rfl) (fun _ _ _ h => h) (Or.inr ⟨by rfl, rfl⟩) ?_ ?_
      rotate_left
      · simp only [Act.put, List.setIfInBounds_toArray, List.set_cons_zero, List.set_cons_succ, i64_w, i32_w]
        rfl
      refine pure_ (i := 15) (N := some 21) (v := ?_) (a' := ?_) #[true, true, true, true, true, true, true, true, true, true, true, true, true, true, true, true] rfl rfl (by kernel_rfl) (fun _ _ _ h => h) (Or.inl ⟨by rfl, ?_⟩) ?_ ?_
      rotate_left
      · intro w'
        go_simp
        with_reducible rfl
      rotate_left
      · simp only [Act.put, List.setIfInBounds_toArray, List.set_cons_zero, List.set_cons_succ, i64_w, i32_w]
        rfl
      refine done_ (by kernel_rfl) ?_
      clear hHeld
      clear HA HG
      have hc0 := ST.out.cell 2 rfl 0 (u := .slice A l.length c) rfl
      have hc1 := ST.out.cell 1 rfl 0 (u := .string x.f0) rfl
      have hc2 := ST.out.cell 1 rfl 1 (u := u1) rfl
      have hc3 := ST.out.cell 1 rfl 2 (u := u2) rfl
      have hl0 := ST.out.lt 2 rfl
      have hl1 := ST.out.lt 1 rfl
      go_wp2_with fail
      obtain rfl : i = ((wIdx x.f0 l : Nat) : Int) := by have := HI0.out; omega
      clear hc0 hc1 hc2 hc3 hl0 hl1
      have hb5 := Zf ST.out.b (.cells #[.string x.f0, u1, u2] 74)
      have hw4 := ST.out.b.size
      have b0 := blk_alloc (ST.out.blk 2 rfl) (.cells #[.string x.f0, u1, u2] 74)
      have b2 := blk_alloc (ST.out.blk 0 rfl) (.cells #[.string x.f0, u1, u2] 74)
      have hgv : (w4.alloc (.cells #[.string x.f0, u1, u2] 74)).heap[w4.heap.size]? = some (.cells #[.string x.f0, u1, u2] 74 (0, 0)) := by simpa using blk_new w4 (.cells #[.string x.f0, u1, u2] 74)
      generalize (w4.alloc (.cells #[.string x.f0, u1, u2] 74)) = w5 at hb5 b0 b2 hgv ⊢
      have hlt2 := ST.out.lt 0 rfl
      have hS5 := Kd.S_below (Kd.S_mono (Kd.S_bound HO.out) (fun k hk => (⟨hk.1, hk.2.2.1⟩ : P k ∧ k < w.heap.size))) hb5
      have hM5 := Kd.M_step (k74.M_mono (fun k hk => (⟨hk.1, hk.2.2.1⟩ : G k ∧ k < w.heap.size)) (k74.M_bound HX.out)) (fun k hk hlt => hb5.block k hlt)
      have hw5 := blk_lt hgv
      refine (sInsert (wIdx x.f0 l) (fun k => P k ∧ k < w.heap.size) (fun k => G k ∧ k < w.heap.size) _ l x _ w4.heap.size w0 w5 (Zl HB0.out hb5) hS5 HL.out hM5 hgv (fun k hk hp => HPG.out k hk.1 hp.1) (fun hp => by have := hp.2; omega) (wIdx_le _ _)).mono ?_
      rintro e w6 ⟨v', rfl, hS6, hB6, hK6⟩
      replace b0 := (hK6.2 _ (blk_lt b0) (fun hp => by have := hp.2; omega)).trans b0
      replace b2 := (hK6.2 _ (blk_lt b2) (fun hp => by have := hp.2; omega)).trans b2
      obtain ⟨A6, c6, hv6⟩ := Kd.S_slice hS6
      obtain ⟨n6, hn6⟩ : ∃ n6, n6 = (l.take (wIdx x.f0 l) ++ x :: l.drop (wIdx x.f0 l)).length := ⟨_, rfl⟩
      rw [← hn6] at hv6
      subst hv6
      clear hn6
      have FIN := Zh (And.intro hS6 (And.intro hB6 (And.intro hK6 (And.intro hb5 (And.intro hw5 (And.intro hw4 (And.intro hM5 b0)))))))
      have B2 := Zh b2
      have hc0 : w6.cell? ⟨w.heap.size, 0, none⟩ = some (.slice A l.length c) := (blk_cell b0 0).trans rfl
      have hf0 := Zn b0 0
      have hc2 : w6.cell? ⟨w.heap.size + 2, 0, none⟩ = some (.slice none 0 0) := (blk_cell b2 0).trans rfl
      have hf2 := Zn b2 0
      have hl0 := blk_lt b0
      have hl2 := blk_lt b2
      clear hS6 hB6 hK6 hb5 hw5 hw4 b0 b2 hM5 hS5 hgv
      go_wp2_with fail
      obtain ⟨hS6, hB6, hK6, hb5, hw5, hw4, hM5, b0⟩ := FIN.out
      have hs0 := HB0.out.size
      have hb2 := blk_put (cs' := #[.slice A6 n6 c6]) (blk_far B2.out (p := ⟨w.heap.size, 0, none⟩) (by show w.heap.size + 2 ≠ w.heap.size; omega) (.slice A6 n6 c6)) 0 (.slice A6 n6 c6) rfl
      refine Zq (results_cell_row rfl _ _ (w.heap.size + 2) 29 #[.slice A6 n6 c6] (0, 0) _ rfl hb2 Tryd.underlying29 rfl (by kernel_rfl)) rfl ?_
      refine ⟨_, rfl, Kd.S_mono (Kd.S_far (Kd.S_far hS6 (fun k hk => ?_) _) (fun k hk => ?_) _) (fun k hk => ?_), Zg (Zg hB6 hs0) (by show w0.heap.size ≤ w.heap.size + 2; omega), ⟨?_, fun k hk hn => ?_⟩⟩
      · show k ≠ w.heap.size
        rcases hk with hk | hk | hk
        · have := hk.2; omega
        · have := hk.2; omega
        · have := hk.1; omega
      · show k ≠ w.heap.size + 2
        rcases hk with hk | hk | hk
        · have := hk.2; omega
        · have := hk.2; omega
        · have := hk.1; omega
      · rcases hk with hk | hk | hk
        · exact .inl hk.1
        · exact .inr (.inl hk.1)
        · refine .inr (.inr ⟨by have := hk.1; omega, ?_⟩)
          have := hk.2
          simpa [World.setCell] using this
      · have := hK6.1
        simp only [LW.setCell_size]
        omega
      · rw [Below.heap_setCell _ _ _ k (show k ≠ w.heap.size + 2 by omega), Below.heap_setCell _ _ _ k (show k ≠ w.heap.size by omega), hK6.2 k (by omega) (fun hp => hn hp.1), hb5.block k hk]
end Go.Proofs.YtmgeffgcihfpcaaDoor.F
