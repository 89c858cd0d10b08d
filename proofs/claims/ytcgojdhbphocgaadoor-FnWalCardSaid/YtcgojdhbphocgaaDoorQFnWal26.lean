/- Merged texts below the law FnWal: Go functions as Lean functions, their contracts, and plain lemmas. -/
import Derived.Test.YtcgojdhbphocgaaDoorQFnWal25
import Derived.Lib.AppendZerosOnto
import Derived.Laws.NewBlocks
namespace Go.Proofs.YtcgojdhbphocgaaDoor.F
open Go.RowKit Go.Proofs.YtcgojdhbphocgaaDoorW.PrintWords Go.Proofs.YtcgojdhbphocgaaDoorW.PrintLast Go.Proofs.YtcgojdhbphocgaaDoorW.PrintMore
set_option linter.unusedVariables false
set_option linter.unusedSimpArgs false
theorem ins_row {cur cur1 cur2 inner cx : List Value} {n i : Nat} (hin : inner.length = n * 3) (hcx : cx.length = 3) (hi : i < n) (hcl : (n + 1) * 3 ≤ cur.length) (htk : cur.take (n * 3) = inner)
    (h1 : cur1 = cur.take ((i + 1) * 3) ++ inner.drop (i * 3) ++ cur.drop ((i + 1) * 3 + (inner.drop (i * 3)).length)) (h2 : cur2 = cur1.take (i * 3) ++ cx ++ cur1.drop (i * 3 + cx.length)) :
    cur2.take ((n + 1) * 3) = inner.take (i * 3) ++ cx ++ inner.drop (i * 3) := by
  have e0 : (cur.take ((i + 1) * 3)).length = i * 3 + 3 := by rw [List.length_take]; omega
  have e1 : cur1.take (i * 3) = inner.take (i * 3) := by
    rw [h1, List.append_assoc, List.take_append_of_le_length (by omega), List.take_take, ← htk, List.take_take, Nat.min_eq_left (by omega), Nat.min_eq_left (by omega)]
  have e2 : cur1.drop (i * 3 + cx.length) = inner.drop (i * 3) ++ cur.drop ((i + 1) * 3 + (inner.drop (i * 3)).length) := by
    rw [h1, List.append_assoc, List.drop_left' (by rw [e0, hcx])]
  rw [h2, e1, e2, ← List.append_assoc, List.take_left']
  simp only [List.length_append, List.length_take, List.length_drop, hcx, hin]
  omega
def InsPost (w0 w : World) (P G : Nat → Prop) (l : List S55) (e : Ending) (w' : World) : Prop := ∃ v' : Value, e = .returned v' ∧ Kd.S k55 55 w' w0.heap.size (fun k => P k ∨ G k ∨ (w.heap.size ≤ k ∧ k < w'.heap.size)) v' l ∧ Below w0.heap.size w0 w' ∧ Kept w w' P
theorem kept_of_grown {w w1 : World} {v : Value} {P : Nat → Prop} (hg : w.grownBy w1 v.ownBlock) (h0 : ∀ k, v.ownBlock = some k → P k) : Kept w w1 P := ⟨hg.size, fun k hk hn => hg.block k hk (fun he => hn (h0 k he.symm))⟩
set_option maxHeartbeats 4000000 in
set_option maxRecDepth 100000 in
theorem sInsert_end (P G : Nat → Prop) (v : Value) (l : List S55) (x : S55) (cx : List Value) (gv : Nat) (w0 w : World) (hB : Below w0.heap.size w0 w) (ho : Kd.S k55 55 w w0.heap.size P v l) (hlen : (l.length + 1) * 64 ≤ 140737488355328)
    (hx : k55.M w w0.heap.size G x cx) (hgv : w.heap[gv]? = some (.cells cx.toArray 55 (0, 0))) (hPG : ∀ k, G k → ¬ P k) (r : List S55) (hr : r = l.take l.length ++ x :: l.drop l.length) :
    Calls Tryd.prog 108 #[v, .int .i64 l.length, .slice (some ⟨gv, 0, none⟩) 1 1] w (InsPost w0 w P G r) := by
  obtain ⟨inner, okj, hown, hin, h0, hap, hok, hrep⟩ := S_parts ho
  obtain ⟨A, c, rfl⟩ := Kd.S_slice ho
  obtain ⟨i0, hi0, hz0, hz1, hz2⟩ := info_parts info55
  have hcx : cx.length = 3 := k55.K_len (k55.K_of_M hx)
  have hone := k55.K_one (k55.K_of_M hx)
  have hnc := (Kd.S_reads' ho).2.1
  have HOW := Zh hown
  have HB := Zh hB
  have HV := Zh (World.news_of_block hgv)
  have HX := Zh hone
  have HS := Zh hB.size
  have K1 := Zh (And.intro hin (And.intro h0 (And.intro hap (And.intro hok (And.intro hrep (And.intro hx hPG))))))
  have hl63 : l.length + 1 ≤ maxLen := by simp only [maxLen]; omega
  have hll : (l.length : Int) ≤ (l.length : Int) := Int.le_refl _
  have fin : ∀ (v' : Value) (w' : World), w'.ownsRow w0.heap.size 55 3 v' (l.length + 1) (inner ++ cx) → w.grownBy w' (Value.slice A l.length c).ownBlock → (v'.ownBlock = (Value.slice A l.length c).ownBlock ∨ v'.ownBlock = some w.heap.size) → InsPost w0 w P G r (.returned v') w' := by
    intro v' w' h1 h2 h3
    subst hr
    refine ⟨v', rfl, S_putO (i := l.length) hin h0 hap hok hrep hx hPG (Nat.le_refl _) ?_ ?_ (fun k hk hn => h2.block k hk hn), hB.grown h2 hB.size (Kd.S_base ho), kept_of_grown h2 h0⟩
    · have e1 : inner.take (l.length * k55.sz) = inner := List.take_of_length_le (by omega)
      have e2 : inner.drop (l.length * k55.sz) = [] := List.drop_eq_nil_of_le (by omega)
      rw [e1, e2, List.append_nil]
      exact h1
    rcases h3 with h3 | h3
    · exact .inl h3
    exact .inr ⟨_, h3, Nat.le_refl _⟩
  have FIN := Zh fin
  clear hown hB hgv hone ho hin h0 hap hok hrep hx hPG fin K1 hr
  have hA : (A = none ∧ l.length = 0 ∧ c = 0) ∨ ∃ g, A = some ⟨g, 0, none⟩ := by
    rcases HOW.out.2 with ⟨hv, hn⟩ | ⟨g, cap, cur, hv, _⟩
    · injection hv with h1 h2 h3; exact .inl ⟨h1, h2, h3⟩
    injection hv with h1 _ _; exact .inr ⟨g, h1⟩
  rcases hA with ⟨rfl, hn0, rfl⟩ | ⟨g, rfl⟩
  all_goals
    go_enter Tryd.func108, Tryd.ntmps108
    go_wp2_with (at_builtin; refine wpList_append_own_at _ rfl _ _ 26 rfl w0.heap.size 55 i0 _ 3 64 Tryd.underlying26 hi0 hz0 hz1 hz2 rfl (by decide) _ l.length inner rfl HOW.out ⟨gv, 0, none⟩ 1 1 cx rfl (by rw [hcx]) HV.out HX.out hl63 hlen HS.out ?_; intro v' w' h1 h2 _ h3; have F := Zh (FIN.out v' w' h1 h2 h3); clear h1 h2 h3)
    all_goals (go_ret; exact F.out)
set_option maxHeartbeats 4000000 in
set_option maxRecDepth 100000 in
theorem sInsert_room (i : Nat) (P G : Nat → Prop) (g n c : Nat) (l : List S55) (x : S55) (cx : List Value) (gv : Nat) (w0 w : World) (hB : Below w0.heap.size w0 w) (ho : Kd.S k55 55 w w0.heap.size P (.slice (some ⟨g, 0, none⟩) n c) l) (hlen : (l.length + 1) * 64 ≤ 140737488355328)
    (hx : k55.M w w0.heap.size G x cx) (hgv : w.heap[gv]? = some (.cells cx.toArray 55 (0, 0))) (hPG : ∀ k, G k → ¬ P k) (hgP : ¬ P gv) (hi : i < n) (hroom : n + 1 ≤ c) (r : List S55) (hr : r = l.take i ++ x :: l.drop i) :
    Calls Tryd.prog 108 #[.slice (some ⟨g, 0, none⟩) n c, .int .i64 i, .slice (some ⟨gv, 0, none⟩) 1 1] w (InsPost w0 w P G r) := by
  obtain ⟨inner, okj, hown, hin, h0, hap, hok, hrep⟩ := S_parts ho
  have hn := (Kd.S_reads' ho).1
  have hcx : cx.length = 3 := k55.K_len (k55.K_of_M hx)
  have hone := k55.K_one (k55.K_of_M hx)
  have hPg : P g := h0 g (by simp [Value.ownBlock])
  have hvb : gv ≠ g := fun he => hgP (he ▸ hPg)
  have hcm := S_cap ho
  have hin3 : inner.length = n * 3 := by rw [hin, hn]; rfl
  obtain ⟨cur, hh, hcs, htk, hbg⟩ : ∃ cur, w.heap[g]? = some (.cells cur 55 (0, 0)) ∧ cur.size = c * 3 ∧ cur.toList.take (n * 3) = inner ∧ w0.heap.size ≤ g := by
    rcases hown.2 with ⟨hv, _⟩ | ⟨g', cap', cur, hv, hb, hh, hnc, hcm, hcs, htake⟩
    · cases hv
    injection hv with ha _ hc'
    injection ha with ha
    injection ha with hg
    subst hg; subst hc'
    exact ⟨cur, hh, hcs, by rw [hn]; exact htake, hb⟩
  have hgw : g < w.heap.size := blk_lt hh
  have hone2 : ∀ u ∈ inner, u.oneCell' = true := by
    intro u hu
    obtain ⟨q, hq⟩ := List.mem_iff_getElem?.1 hu
    have hql := (List.getElem?_eq_some_iff.1 hq).1
    have hqn : q / 3 < l.length := by omega
    have hM := hrep (q / 3) _ (List.getElem?_eq_getElem hqn)
    refine k55.K_one (k55.K_of_M hM) u (List.mem_iff_getElem?.2 ⟨q % 3, ?_⟩)
    show ((inner.drop (q / 3 * 3)).take 3)[q % 3]? = some u
    rw [List.getElem?_take, if_pos (Nat.mod_lt _ (by decide)), List.getElem?_drop, show q / 3 * 3 + q % 3 = q by omega]
    exact hq
  have hc0 : ∀ j u, inner[j]? = some u → w.cell? ⟨g, j, none⟩ = some u := fun j u hu => by
    rw [blk_cell hh j]
    rw [← htk, List.getElem?_take] at hu
    split at hu
    · simpa using hu
    cases hu
  have hsp : ∀ j, j < c * 3 → (w.cell? ⟨g, j, none⟩).isSome = true := fun j hj => by rw [blk_cell hh j, Array.getElem?_eq_getElem (by omega)]; rfl
  have hfz : ∀ j, w.frozen? ⟨g, j, none⟩ = false := fun j => Zn hh j
  have hvs : ∀ j u, cx[j]? = some u → w.cell? ⟨gv, j, none⟩ = some u := fun j u hu => by rw [blk_cell hgv j]; simpa using hu
  have hdl : (inner.drop (i * 3)).length = (n - i) * 3 := by rw [List.length_drop, hin3, Nat.sub_mul]
  have hov : ∀ lb cb, (callFunc 116 #[.slice (some ⟨gv, 0, none⟩) 1 1, .slice (some ⟨g, (i + 1) * 3, none⟩) lb cb]).run Tryd.prog w = .ok (.value (.bool false)) w := fun lb cb => by
    rw [run_callFunc_extern Tryd.func116 (by kernel_rfl) (by kernel_rfl) (by kernel_rfl) (e := Extern.SlicesOverlaps.overlaps #[26, 26] #[4]) (by kernel_rfl),
      Lib.run_overlaps_apart w 26 4 55 Tryd.underlying26 3 Tryd.sizeOf55 ⟨gv, 0, none⟩ ⟨g, (i + 1) * 3, none⟩ 1 1 lb cb hvb 55 55 3 (c * 3) (by simp [World.shape?, hgv, hcx]) (by simp [World.shape?, hh, hcs]) (by omega) (Zn hgv 0) (Zn hgv 3)]
    rfl
  have hmin1 : Nat.min (n + 1 - i) (n - i) = n - i := by simp only [Nat.min_def]; split <;> omega
  have hmin2 : Nat.min 1 (n + 1 - i) = 1 := by simp only [Nat.min_def]; split <;> omega
  have hcp1 : ∀ ty dc sc, (Builtin.copy_ #[26, 26] ty #[.slice (some ⟨g, (i + 1) * 3, none⟩) (n - i) dc, .slice (some ⟨g, i * 3, none⟩) (n + 1 - i) sc]).run Tryd.prog w.drew = .ok (goInt ((n - i : Nat) : Int)) (w.drew.setCells g ((i + 1) * 3) (inner.drop (i * 3))) := fun ty dc sc => by
    have h := run_copy_k (P := Tryd.prog) w.drew 26 26 ty 55 3 g ((i + 1) * 3) (n - i) dc ⟨g, i * 3, none⟩ (n + 1 - i) sc (inner.drop (i * 3)) Tryd.underlying26 info55s (by rw [hmin1]; exact hdl)
      (fun j u hj => by rw [Addr.add_lit]; exact hc0 (i * 3 + j) u (by rwa [List.getElem?_drop] at hj))
      (fun j hj => hsp _ (by rw [hdl, Nat.sub_mul] at hj; omega)) (fun j hj => hfz _) (fun u hu => hone2 u (List.mem_of_mem_drop hu))
    rw [hmin1] at h
    exact h
  obtain ⟨cur1, hh1, hcs1, hl1⟩ := setCells_row (inner.drop (i * 3)) ((i + 1) * 3) w.drew cur hh (by rw [hdl, Nat.sub_mul]; omega)
  obtain ⟨W1, hW1⟩ : ∃ W1, W1 = w.drew.setCells g ((i + 1) * 3) (inner.drop (i * 3)) := ⟨_, rfl⟩
  rw [← hW1] at hcp1 hh1
  have hgv1 : W1.heap[gv]? = some (.cells cx.toArray 55 (0, 0)) := by rw [hW1, setCells_far _ _ gv hvb]; exact hgv
  have hcp2 : ∀ ty dc, (Builtin.copy_ #[26, 26] ty #[.slice (some ⟨g, i * 3, none⟩) (n + 1 - i) dc, .slice (some ⟨gv, 0, none⟩) 1 1]).run Tryd.prog W1 = .ok (goInt ((1 : Nat) : Int)) (W1.setCells g (i * 3) cx) := fun ty dc => by
    have h := run_copy_k (P := Tryd.prog) W1 26 26 ty 55 3 g (i * 3) (n + 1 - i) dc ⟨gv, 0, none⟩ 1 1 cx Tryd.underlying26 info55s (by rw [hmin2, hcx])
      (fun j u hj => by rw [Addr.add_lit, Nat.zero_add, blk_cell hgv1 j]; simpa using hj)
      (fun j hj => by rw [blk_cell hh1, Array.getElem?_eq_getElem (by omega)]; rfl) (fun j hj => Zn hh1 _) hone
    rw [hmin2] at h
    exact h
  obtain ⟨cur2, hh2, hcs2, hl2⟩ := setCells_row cx (i * 3) W1 cur1 hh1 (by omega)
  have hfin : InsPost w0 w P G r (.returned (.slice (some ⟨g, 0, none⟩) (n + 1) c)) (W1.setCells g (i * 3) cx) := by
    subst hr
    have hB1 : Below w0.heap.size w0 (W1.setCells g (i * 3) cx) := by rw [hW1]; exact below_setCells hbg _ _ (below_setCells hbg _ _ (Ze hB))
    have hfar : ∀ k, k ≠ g → (W1.setCells g (i * 3) cx).heap[k]? = w.heap[k]? := fun k hk => by rw [setCells_far _ _ k hk, hW1, setCells_far _ _ k hk]; rfl
    have hsz2 : (W1.setCells g (i * 3) cx).heap.size = w.heap.size := by rw [(setCells_same g _ _ W1).2.2.2, hW1, (setCells_same g _ _ w.drew).2.2.2]; rfl
    have ho' : (Value.slice (some ⟨g, 0, none⟩) n c).ownBlock = some g := by simp [Value.ownBlock]
    refine ⟨_, rfl, S_putO (i := i) hin h0 hap hok hrep hx hPG (by omega) ⟨?_, .inr ⟨g, c, cur2, by rw [hn], hbg, hh2, by omega, by simp only [maxLen]; omega, ?_, ?_⟩⟩ (.inl (by simp [Value.ownBlock])) (fun k hk hne => hfar k (fun he => hne (by rw [ho', he]))), hB1, by omega, fun k hk hne => hfar k (fun he => hne (he ▸ hPg))⟩
    · simp only [List.length_append, List.length_take, List.length_drop, hcx, hin3]
      show min (i * 3) (n * 3) + 3 + (n * 3 - i * 3) = (l.length + 1) * 3
      omega
    · show cur2.size = c * 3; omega
    show cur2.toList.take ((l.length + 1) * 3) = inner.take (i * 3) ++ cx ++ inner.drop (i * 3)
    rw [← hn]
    exact ins_row hin3 hcx hi (by rw [Array.length_toList]; omega) htk hl1 hl2
  have FIN := Zh hfin
  have hcp1' := Zh hcp1
  have hcp2' := Zh hcp2
  have hic : i ≤ c := by omega
  have hi1c : i + 1 ≤ c := by omega
  have hinz : ¬ ((i : Int) = (n : Int)) := by omega
  have hin1 : (i : Int) ≤ (n : Int) := by omega
  have hii0 : (0 : Int) ≤ (i : Int) + 1 := by omega
  have hii1 : (i : Int) + 1 ≤ (n : Int) + 1 := by omega
  have hii2 : (i : Int) ≤ (n : Int) + 1 := by omega
  have hnn0 : (0 : Int) ≤ (n : Int) + 1 := by omega
  have hnn1 : (n : Int) + 1 ≤ (c : Int) := by omega
  have hnc : n ≤ c := by omega
  have hcgt : ¬ ((c : Int) < (n : Int) + 1) := by omega
  have hb2 : ¬ (c = i + 1) := by omega
  have hb4 : ¬ (c = i) := by omega
  have hnt : ((n : Int) + 1).toNat = n + 1 := by omega
  have hit : ((i : Int) + 1).toNat = i + 1 := by omega
  clear hown hin h0 hap hok hrep ho hx hPG hr hfin hcp1 hcp2 hone hone2 hc0 hsp hfz hvs hdl hh hh1 hh2 hl1 hl2 hcs hcs1 hcs2 htk hmin1 hmin2 hgv hgv1 hB hn hW1 hgP hPg
  clear hlen
  go_enter Tryd.func108, Tryd.ntmps108
  go_wp2_with (simp only [hov])
  have hw1 : IntKind.i64.wrap ((i : Int) + 1) = (i : Int) + 1 := by rw [IntKind.wrap_i64]; omega
  go_region_law (refine step_copy_run rfl (.tmp 73) (.tmp 76) 26 26 rfl _ _ (by simp [Act.eval, Act.put]) (by simp [Act.eval, Act.put]) (hcp1'.out _ (c - (i + 1)) (c - i)) ?_)
  go_wp2_with ((with_reducible refine gate_builtin (b := .copy) (xs := #[.tmp 80, .tmp 81]) rfl ?_); refine wpList_copy_run _ rfl (.tmp 80) (.tmp 81) 26 26 rfl _ _ rfl rfl (hcp2'.out _ _) ?_)
  go_ret
  exact FIN.out
theorem wpList_append_run {P : Program} (w : World) {ops : Array Oper} {rest : List Oper} {o : Oper} {a : Act} {Q : Exit → Act → World → Prop} (hgd : o.guard = none) (d s : Operand) (t t' : TypeId)
    (ho : o.op = .call { callee := .builtin .append, args := #[d, s], argTypes := #[t, t'] }) (v u : Value) (hd : a.eval d = v) (hs : a.eval s = u) {v' : Value} {w' : World}
    (hr : (Builtin.append_ #[t, t'] o.type #[v, u]).run P w = .ok v' w') (h : wpList P ops Q rest (a.put o.dst v') w') : wpList P ops Q (o :: rest) a w :=
  wpList_plain hgd fun _ hK => by
    unfold Oper.wp execOp
    simp only [ho, resolve, invoke, builtin, Sem.run_bind, Sem.run_pure, Result.andThen_ok, List.map_toArray, List.map_cons, List.map_nil, hd, hs, hr]
    exact hK _ _ h
theorem ins_new {cur cur1 cur2 inner cx z : List Value} {n i : Nat} (hin : inner.length = n * 3) (hcx : cx.length = 3) (hi : i < n) (hcl : (n + 1) * 3 ≤ cur.length) (h0 : cur.take (i * 3) = inner.take (i * 3))
    (h1 : cur1 = cur.take (i * 3) ++ cx ++ cur.drop (i * 3 + cx.length)) (h2 : cur2 = cur1.take ((i + 1) * 3) ++ inner.drop (i * 3) ++ cur1.drop ((i + 1) * 3 + (inner.drop (i * 3)).length)) :
    cur2.take ((n + 1) * 3) = inner.take (i * 3) ++ cx ++ inner.drop (i * 3) := by
  have e0 : (inner.take (i * 3)).length = i * 3 := by rw [List.length_take]; omega
  have e1 : cur1.take ((i + 1) * 3) = inner.take (i * 3) ++ cx := by
    rw [h1, h0, List.take_left']
    rw [List.length_append, e0, hcx]; omega
  rw [h2, e1, List.take_left']
  simp only [List.length_append, List.length_drop, hcx, hin, e0]
  omega
set_option maxHeartbeats 4000000 in
set_option maxRecDepth 100000 in
theorem sInsert_grow (i : Nat) (P G : Nat → Prop) (g n c : Nat) (l : List S55) (x : S55) (cx : List Value) (gv : Nat) (w0 w : World) (hB : Below w0.heap.size w0 w) (ho : Kd.S k55 55 w w0.heap.size P (.slice (some ⟨g, 0, none⟩) n c) l) (hlen : (l.length + 1) * 64 ≤ 140737488355328)
    (hx : k55.M w w0.heap.size G x cx) (hgv : w.heap[gv]? = some (.cells cx.toArray 55 (0, 0))) (hPG : ∀ k, G k → ¬ P k) (hgP : ¬ P gv) (hi : i < n) (hroom : c < n + 1) (r : List S55) (hr : r = l.take i ++ x :: l.drop i) :
    Calls Tryd.prog 108 #[.slice (some ⟨g, 0, none⟩) n c, .int .i64 i, .slice (some ⟨gv, 0, none⟩) 1 1] w (InsPost w0 w P G r) := by
  obtain ⟨inner, okj, hown, hin, h0, hap, hok, hrep⟩ := S_parts ho
  have hn := (Kd.S_reads' ho).1
  have hcx : cx.length = 3 := k55.K_len (k55.K_of_M hx)
  have hone := k55.K_one (k55.K_of_M hx)
  have hPg : P g := h0 g (by simp [Value.ownBlock])
  have hvb : gv ≠ g := fun he => hgP (he ▸ hPg)
  have hin3 : inner.length = n * 3 := by rw [hin, hn]; rfl
  obtain ⟨cur, hh, hcs, htk, hbg⟩ : ∃ cur, w.heap[g]? = some (.cells cur 55 (0, 0)) ∧ cur.size = c * 3 ∧ cur.toList.take (n * 3) = inner ∧ w0.heap.size ≤ g := by
    rcases hown.2 with ⟨hv, _⟩ | ⟨g', cap', cur, hv, hb, hh, hnc, hcm, hcs, htake⟩
    · cases hv
    injection hv with ha _ hc'
    injection ha with ha
    injection ha with hg
    subst hg; subst hc'
    exact ⟨cur, hh, hcs, by rw [hn]; exact htake, hb⟩
  have hgw : g < w.heap.size := blk_lt hh
  have hone2 : ∀ u ∈ inner, u.oneCell' = true := by
    intro u hu
    obtain ⟨q, hq⟩ := List.mem_iff_getElem?.1 hu
    have hql := (List.getElem?_eq_some_iff.1 hq).1
    have hqn : q / 3 < l.length := by omega
    have hM := hrep (q / 3) _ (List.getElem?_eq_getElem hqn)
    refine k55.K_one (k55.K_of_M hM) u (List.mem_iff_getElem?.2 ⟨q % 3, ?_⟩)
    show ((inner.drop (q / 3 * 3)).take 3)[q % 3]? = some u
    rw [List.getElem?_take, if_pos (Nat.mod_lt _ (by decide)), List.getElem?_drop, show q / 3 * 3 + q % 3 = q by omega]
    exact hq
  have hc0 : ∀ j u, inner[j]? = some u → w.cell? ⟨g, j, none⟩ = some u := fun j u hu => by
    rw [blk_cell hh j]
    rw [← htk, List.getElem?_take] at hu
    split at hu
    · simpa using hu
    cases hu
  have hsp : ∀ j, j < c * 3 → (w.cell? ⟨g, j, none⟩).isSome = true := fun j hj => by rw [blk_cell hh j, Array.getElem?_eq_getElem (by omega)]; rfl
  have hfz : ∀ j, w.frozen? ⟨g, j, none⟩ = false := fun j => Zn hh j
  have hvs : ∀ j u, cx[j]? = some u → w.cell? ⟨gv, j, none⟩ = some u := fun j u hu => by rw [blk_cell hgv j]; simpa using hu
  have hdl : (inner.drop (i * 3)).length = (n - i) * 3 := by rw [List.length_drop, hin3, Nat.sub_mul]
  obtain ⟨i0, hi0, hz0, hz1, hz2⟩ := info_parts info55
  have hnc : n ≤ c := (Kd.S_reads' ho).2.1
  have hgvw : gv < w.heap.size := blk_lt hgv
  have hold : (Builtin.firstCells i0.size i (.slice (some ⟨g, 0, none⟩) i c)).run Tryd.prog w.drew = .ok (inner.take (i * 3)).toArray w.drew := by
    rw [hz1]
    exact run_firstCells_some w.drew 3 i ⟨g, 0, none⟩ i c (inner.take (i * 3)) (by rw [List.length_take]; omega) (fun j v hj => by
      rw [Addr.add_lit, Nat.zero_add]
      rw [List.getElem?_take] at hj
      split at hj
      · exact hc0 j v hj
      cases hj)
  have hik : i + (n + 1 - i) = n + 1 := by omega
  obtain ⟨GC, hGC⟩ : ∃ GC, GC = grownCap w (n + 1) c 55 := ⟨_, rfl⟩
  have hGn : n + 1 ≤ GC := by rw [hGC]; exact grownCap_ge w _ _ _
  have hGm : GC ≤ maxLen := by rw [hGC]; exact grownCap_le_maxLen w (n + 1) c 55 (by simp only [maxLen]; omega)
  obtain ⟨ROW, hROW⟩ : ∃ ROW : Array Value, ROW = (inner.take (i * 3)).toArray ++ Builtin.zeroCells (Value.agg #[.string ⟨#[]⟩, .slice none 0 0, .slice none 0 0]).cells (n + 1 - i) ++ Builtin.zeroCells (Value.agg #[.string ⟨#[]⟩, .slice none 0 0, .slice none 0 0]).cells (GC - (n + 1)) := ⟨_, rfl⟩
  have hRs : ROW.size = GC * 3 := by
    rw [hROW]
    simp only [Array.size_append, List.size_toArray, List.length_take, size_zeroCells, show (Value.agg #[.string ⟨#[]⟩, .slice none 0 0, .slice none 0 0]).cells.size = 3 from rfl]
    omega
  have hRt : ROW.toList.take (i * 3) = inner.take (i * 3) := by
    rw [hROW]
    simp only [Array.toList_append]
    rw [List.append_assoc, List.take_left']
    rw [List.length_take]; omega
  obtain ⟨W1, hW1⟩ : ∃ W1, W1 = w.drew.alloc (.cells ROW 55) := ⟨_, rfl⟩
  have hrz : ∀ ty, (Builtin.append_ #[26, 3] ty #[.slice (some ⟨g, 0, none⟩) i c, .int .i64 ((n + 1 - i : Nat) : Int)]).run Tryd.prog w = .ok (.slice (some ⟨w.heap.size, 0, none⟩) (n + 1) GC) W1 := fun ty => by
    have h := Lib.run_append_grow_zeros (P := Tryd.prog) w 26 3 ty 55 i0 _ .i64 .i64 Tryd.underlying26 Tryd.underlying3 hi0 hz0 (some ⟨g, 0, none⟩) i c (inner.take (i * 3)) hold (n + 1 - i) (by omega) (by omega) (by omega) (by omega) (by rw [hz2]; omega) (by rw [hz2, hik]; exact growslice_fits hroom (by omega))
    rw [hik, ← hGC, ← hROW, ← hW1] at h
    exact h
  have hW1n : W1.heap[w.heap.size]? = some (.cells ROW 55 (0, 0)) := by rw [hW1]; exact heap_alloc_new w.drew _
  have hW1o : ∀ k, k < w.heap.size → W1.heap[k]? = w.heap[k]? := fun k hk => by rw [hW1]; exact heap_alloc_old (w := w.drew) _ hk
  have hW1s : W1.heap.size = w.heap.size + 1 := by rw [hW1]; simp
  have hB1 : Below w0.heap.size w0 W1 := by rw [hW1]; exact Zf (Ze hB) _
  have hmin2 : Nat.min 1 (n + 1 - i) = 1 := by simp only [Nat.min_def]; split <;> omega
  have hmin1 : Nat.min (n - i) (n - i) = n - i := by simp only [Nat.min_def]; split <;> omega
  have hcpA : ∀ ty dc, (Builtin.copy_ #[26, 26] ty #[.slice (some ⟨w.heap.size, i * 3, none⟩) (n + 1 - i) dc, .slice (some ⟨gv, 0, none⟩) 1 1]).run Tryd.prog W1 = .ok (goInt ((1 : Nat) : Int)) (W1.setCells w.heap.size (i * 3) cx) := fun ty dc => by
    have h := run_copy_k (P := Tryd.prog) W1 26 26 ty 55 3 w.heap.size (i * 3) (n + 1 - i) dc ⟨gv, 0, none⟩ 1 1 cx Tryd.underlying26 info55s (by rw [hmin2, hcx])
      (fun j u hj => by rw [Addr.add_lit, Nat.zero_add, blk_cell ((hW1o gv hgvw).trans hgv) j]; simpa using hj)
      (fun j hj => by rw [blk_cell hW1n, Array.getElem?_eq_getElem (by omega)]; rfl) (fun j hj => Zn hW1n _) hone
    rw [hmin2] at h
    exact h
  obtain ⟨cur1, hh1, hcs1, hl1⟩ := setCells_row cx (i * 3) W1 ROW hW1n (by omega)
  obtain ⟨W2, hW2⟩ : ∃ W2, W2 = W1.setCells w.heap.size (i * 3) cx := ⟨_, rfl⟩
  rw [← hW2] at hcpA hh1
  have hgW2 : W2.heap[g]? = some (.cells cur 55 (0, 0)) := by rw [hW2, setCells_far _ _ g (by omega)]; exact (hW1o g hgw).trans hh
  have hcpB : ∀ ty dc sc, (Builtin.copy_ #[26, 26] ty #[.slice (some ⟨w.heap.size, (i + 1) * 3, none⟩) (n - i) dc, .slice (some ⟨g, i * 3, none⟩) (n - i) sc]).run Tryd.prog W2.drew = .ok (goInt ((n - i : Nat) : Int)) (W2.drew.setCells w.heap.size ((i + 1) * 3) (inner.drop (i * 3))) := fun ty dc sc => by
    have h := run_copy_k (P := Tryd.prog) W2.drew 26 26 ty 55 3 w.heap.size ((i + 1) * 3) (n - i) dc ⟨g, i * 3, none⟩ (n - i) sc (inner.drop (i * 3)) Tryd.underlying26 info55s (by rw [hmin1]; exact hdl)
      (fun j u hj => by
        have hj2 : inner[i * 3 + j]? = some u := by rwa [List.getElem?_drop] at hj
        rw [Addr.add_lit]
        show W2.cell? ⟨g, i * 3 + j, none⟩ = some u
        rw [blk_cell hgW2]
        rw [← htk, List.getElem?_take] at hj2
        split at hj2
        · simpa using hj2
        cases hj2)
      (fun j hj => by show (W2.cell? _).isSome = true; rw [blk_cell hh1, Array.getElem?_eq_getElem (by rw [hdl, Nat.sub_mul] at hj; omega)]; rfl) (fun j hj => Zn (w := W2) hh1 _) (fun u hu => hone2 u (List.mem_of_mem_drop hu))
    rw [hmin1] at h
    exact h
  obtain ⟨cur2, hh2, hcs2, hl2⟩ := setCells_row (inner.drop (i * 3)) ((i + 1) * 3) W2.drew cur1 hh1 (by rw [hdl, Nat.sub_mul]; omega)
  obtain ⟨W3, hW3⟩ : ∃ W3, W3 = W2.drew.setCells w.heap.size ((i + 1) * 3) (inner.drop (i * 3)) := ⟨_, rfl⟩
  rw [← hW3] at hcpB hh2
  have hfin : InsPost w0 w P G r (.returned (.slice (some ⟨w.heap.size, 0, none⟩) (n + 1) GC)) W3 := by
    subst hr
    have hws : w0.heap.size ≤ w.heap.size := hB.size
    have hB3 : Below w0.heap.size w0 W3 := by rw [hW3, hW2]; exact below_setCells hws _ _ (Ze (below_setCells hws _ _ hB1))
    have hfar : ∀ k, k < w.heap.size → W3.heap[k]? = w.heap[k]? := fun k hk => by
      rw [hW3, setCells_far _ _ k (by omega)]
      show W2.heap[k]? = _
      rw [hW2, setCells_far _ _ k (by omega)]
      exact hW1o k hk
    have hs3 : W3.heap.size = w.heap.size + 1 := by
      rw [hW3, (setCells_same _ _ _ W2.drew).2.2.2]
      show W2.heap.size = _
      rw [hW2, (setCells_same _ _ _ W1).2.2.2, hW1s]
    refine ⟨_, rfl, S_putO (i := i) hin h0 hap hok hrep hx hPG (by omega) ⟨?_, .inr ⟨w.heap.size, GC, cur2, by rw [hn], hws, hh2, by omega, hGm, ?_, ?_⟩⟩ (.inr ⟨w.heap.size, by simp [Value.ownBlock], Nat.le_refl _⟩) (fun k hk hne => hfar k hk), hB3, by omega, fun k hk hne => hfar k hk⟩
    · simp only [List.length_append, List.length_take, List.length_drop, hcx, hin3]
      show min (i * 3) (n * 3) + 3 + (n * 3 - i * 3) = (l.length + 1) * 3
      omega
    · show cur2.size = GC * 3; omega
    show cur2.toList.take ((l.length + 1) * 3) = inner.take (i * 3) ++ cx ++ inner.drop (i * 3)
    rw [← hn]
    exact ins_new (z := []) hin3 hcx hi (by rw [Array.length_toList]; omega) hRt hl1 hl2
  have FIN := Zh hfin
  have hrz' := Zh hrz
  have hcpA' := Zh hcpA
  have hcpB' := Zh hcpB
  have hnb : n + 1 ≤ 9223372036854775807 := by omega
  have hinz : ¬ ((i : Int) = (n : Int)) := by omega
  have hin1 : (i : Int) ≤ (n : Int) := by omega
  have hii0 : (0 : Int) ≤ (i : Int) + 1 := by omega
  have hii1 : (i : Int) + 1 ≤ (n : Int) + 1 := by omega
  have hii2 : (i : Int) ≤ (n : Int) + 1 := by omega
  have hcgt : ((c : Int) < (n : Int) + 1) := by omega
  have hic : i ≤ c := by omega
  have hb4 : ¬ (c = i) := by omega
  have hGi : ¬ (GC = i) := by omega
  have hGi1 : ¬ (GC = i + 1) := by omega
  have hiG : i ≤ GC := by omega
  have hi1G : i + 1 ≤ GC := by omega
  have hkk : (n : Int) + 1 - (i : Int) = ((n + 1 - i : Nat) : Int) := by omega
  have hit : ((i : Int) + 1).toNat = i + 1 := by omega
  have hwn : IntKind.i64.wrap ((n : Int) + 1) = (n : Int) + 1 := by rw [IntKind.wrap_i64]; omega
  have hwk : IntKind.i64.wrap ((n : Int) + 1 - (i : Int)) = ((n + 1 - i : Nat) : Int) := by rw [IntKind.wrap_i64]; omega
  have hw1 : IntKind.i64.wrap ((i : Int) + 1) = (i : Int) + 1 := by rw [IntKind.wrap_i64]; omega
  clear hown hin h0 hap hok hrep ho hx hPG hr hfin hrz hcpA hcpB hone hone2 hc0 hsp hfz hvs hdl hh hh1 hh2 hl1 hl2 hcs hcs1 hcs2 htk hmin1 hmin2 hgv hB hB1 hn hW1 hW2 hW3 hgP hPg hlen hW1n hW1o hW1s hRs hRt hROW hGC hold hik hgW2 hi0 hz0 hz1 hz2 hGm
  go_enter Tryd.func108, Tryd.ntmps108
  go_wp2_with (first
    | ((with_reducible refine gate_builtin (b := .append) (xs := #[.tmp 34, .tmp 39]) rfl ?_); refine wpList_append_run _ rfl (.tmp 34) (.tmp 39) 26 3 rfl _ _ rfl rfl (hrz'.out _) ?_)
    | ((with_reducible refine gate_builtin (b := .copy) (xs := #[.tmp 43, .tmp 44]) rfl ?_); refine wpList_copy_run _ rfl (.tmp 43) (.tmp 44) 26 26 rfl _ _ rfl rfl (hcpA'.out _ _) ?_))
  go_region_law (refine step_copy_run rfl (.tmp 50) (.tmp 53) 26 26 rfl _ _ (by simp [Act.eval, Act.put]) (by simp [Act.eval, Act.put]) (hcpB'.out _ (GC - (i + 1)) (c - i)) ?_)
  go_wp2
  go_ret
  exact FIN.out
end Go.Proofs.YtcgojdhbphocgaaDoor.F
