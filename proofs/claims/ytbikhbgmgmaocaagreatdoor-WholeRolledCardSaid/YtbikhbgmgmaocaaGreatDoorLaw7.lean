/- Contract: a unit chooses. Conditions: it has not yet. -/
import Derived.Test.YtbikhbgmgmaocaaGreatDoorLaw6
namespace Go.Ideal.T
open Go Go.Ideal Go.Proofs

theorem firstAt_uns : ∀ (n i j : Nat), i < n → firstAt ((i : Int) + (j : Int) + 1) ((List.range' j n).map fun (i : Nat) => (i : Int) + 1) j = ((i + j : Nat) : Int)
  | 0, i, j, h => by omega
  | n + 1, i, j, h => by
    simp only [List.range'_succ, List.map_cons, firstAt]
    by_cases hi : i = 0
    · subst hi; rw [if_pos (by omega)]; simp
    · rw [if_neg (by omega)]
      have := firstAt_uns n (i - 1) (j + 1) (by omega)
      have e1 : ((i - 1 : Nat) : Int) + ((j + 1 : Nat) : Int) + 1 = (i : Int) + (j : Int) + 1 := by omega
      have e2 : i - 1 + (j + 1) = i + j := by omega
      rw [e1, e2] at this
      exact this
theorem firstAt_un {n i : Nat} (h : i < n) : firstAt ((i : Int) + 1) (uns n) 0 = (i : Int) := by
  have := firstAt_uns n i 0 h
  simpa [uns, List.range_eq_range'] using this

/-- A block of a drop. -/
def DBk (d : V) (b : Nat) : Prop := ∃ vu vc, d = .agg (dropL vu vc) ∧ (vu.bk = some b ∨ vc.bk = some b)
theorem DBk.of {vu vc : V} {b : Nat} (h : DBk (.agg (dropL vu vc)) b) : vu.bk = some b ∨ vc.bk = some b := by
  obtain ⟨a, c, e, hb⟩ := h
  simp only [dropL, V.agg.injEq, List.cons.injEq, true_and, and_true] at e
  obtain ⟨rfl, rfl⟩ := e
  exact hb

theorem con7 {h : Heap} {d : V} {n i : Nat} {cs : List Int} {k : Int} (hd : Drop h d n cs) (hi : i < n) (hz : cs[i]? = some 0) (hk1 : 1 ≤ k) (hk3 : k ≤ 3) {Q : V → Heap → Prop}
    (hq : ∀ d' h', Drop h' d' n (cs.set i k) → (∀ b, DBk d' b → h.length ≤ b) → Kept h h' none → Q (.tup [d', .int .i64 0]) h') : Con M 7 [d, .int .i64 ((i : Int) + 1), .int .i64 k, .int .i64 5] h Q := by
  have hd0 := hd
  obtain ⟨vu, vc, rfl, hu, hc, hn, hn40, hch⟩ := hd
  refine con_call rfl code7 (by show 4 ≤ 54; omega) (by decide) ?_
  show WP M 54 f7.body (argF [V.agg (dropL vu vc), _, _, _]) h (retQ [.cell 8 (some 5), .tmp 9] Q)
  have hone := dropL_one hu hc
  refine wp_seq (wp_region ?_)
  simp only [wps_go, wps_nil, wpo_mv, wx_alloc, wx_box, put_some, at_t, at_c, argF_zero, thenQ, Nat.zero_add, cells_agg, r7n0, hone, true_and, List.length_append, List.length_cons, List.length_nil]
  generalize hh : h ++ [some (Blk.cells true (dropL vu vc))] ++ [some (Blk.cells true [.int .i64 0, .int .i64 0, .int .i64 0, .nilSlice, .nilSlice])] = h1
  have k1 : Kept h h1 none := by rw [← hh, List.append_assoc]; exact Kept.grow _ _ _
  have hl1 : h1.length = h.length + 2 := by rw [← hh]; simp
  have hb : h1[h.length]? = some (some (.cells true (dropL vu vc))) := by rw [← hh]; simp
  have hb2 : h1[h.length + 1]? = some (some (.cells true zeroL)) := by rw [← hh]; simp [zeroL]
  have l1 : ldN 5 h1 (.ptr h.length 0) = some (dropL vu vc) := ldN_of hb
  unfold c7n17
  refine wp_seq (wp_seq (wp_region ?_))
  simp only [wps_go, wpo_mv, wx_loadN, wpo_scal, wpo_call, put_some, at_t, bo_op, scalV, oprV, upd_app, thenQ, unV, Option.some.injEq, exists_eq_left', Option.bind_some, Nat.reduceEqDiff, ↓reduceIte, List.map_cons, List.map_nil, r7n1, l1]
  refine con26 (hd0.kept k1) ?_
  intro h2 k2
  simp only [wps_go, wps_ff, wpo_mv, wx_pick, wpo_scal, wpo_call, put_some, at_t, at_c, bo_op, scalV, oprV, upd_app, argF_zero, argF_succ, unV, isB, Option.some.injEq, exists_eq_left', Option.bind_some, Nat.reduceEqDiff, ↓reduceIte, List.map_cons, List.map_nil, reduceCtorEq, Bool.not_true]
  refine con27 (by omega) hk3 ?_
  have e0 : (k == 0) = false := by simp; omega
  simp only [wps_go, wps_nil, wps_ff, wpo_mv, wx_pick, wpo_scal, put_some, at_t, at_c, bo_op, scalV, oprV, ofVal_int, upd_app, argF_zero, argF_succ, binV_int, intV, isB, Option.some.injEq, exists_eq_left', Nat.reduceEqDiff, ↓reduceIte, Bool.not_true, e0, Bool.false_eq_true]
  refine wp_false rfl ?_
  try simp only [WP_skip, thenQ]
  have hb' := k2.get hb (by simp)
  have ld2 := ld_of hb'
  refine wp_seq (wp_region ?_)
  simp only [wps_go, wps_nil, wpo_mv, wx_load, wx_fieldAddr, wpo_call, put_some, at_t, upd_app, argF_zero, argF_succ, thenQ, offV, Option.some.injEq, exists_eq_left', Nat.reduceEqDiff, ↓reduceIte, List.map_cons, List.map_nil, Nat.zero_add, List.getElem?_cons_zero, List.getElem?_cons_succ, r7n3, ld2, dropL]
  refine con28 (k2.arrN (k1.arrN hu)) (by rw [uns_length]; omega) ?_
  rw [firstAt_un hi]
  try simp only [I]
  unfold c7n12
  have e1 : decide ((i : Int) < 0) = false := decide_eq_false (by omega)
  refine wp_seq (wp_block (wp_seq (wp_region ?_)))
  simp only [wps_go, wps_nil, wpo_mv, wpo_scal, put_some, at_t, bo_op, scalV, oprV, ofVal_int, upd_app, thenQ, binV_int, intV, Option.some.injEq, exists_eq_left', ↓reduceIte, r7n4, e1]
  refine wp_false rfl ?_
  unfold c7n11
  have e2 : decide ((5 : Int) ≥ 100) = false := rfl
  refine wp_seq (wp_region ?_)
  simp only [wps_go, wps_nil, wpo_mv, wx_load, wx_fieldAddr, wpo_scal, put_some, at_t, bo_op, scalV, oprV, upd_app, argF_zero, argF_succ, thenQ, binV_int, intV, offV, Option.some.injEq, exists_eq_left', Nat.reduceEqDiff, ↓reduceIte, Nat.zero_add, List.getElem?_cons_zero, List.getElem?_cons_succ, r7n6, ld2, dropL, e2]
  refine wp_false rfl ?_
  unfold c7n10
  have hc2 := k2.arrN (k1.arrN hc)
  have iy := hc2.idx (k := .i64) (j := i) (by rw [ints_length]; omega)
  have ly := hc2.ld (j := i) (x := .int .i64 0) (by simp [ints, hz, I])
  have e3 : ((0 : Int) != 0) = false := rfl
  refine wp_seq (wp_region ?_)
  simp only [wps_go, wps_nil, wpo_mv, wx_indexAddr, wx_load, wx_fieldAddr, wpo_scal, put_some, at_t, bo_op, scalV, oprV, ofVal_int, upd_app, thenQ, binV_int, intV, offV, Option.some.injEq, exists_eq_left', Nat.reduceEqDiff, ↓reduceIte, Nat.zero_add, List.getElem?_cons_zero, List.getElem?_cons_succ, r7n8, ld2, dropL, iy, ly, e3]
  refine wp_false rfl ?_
  try simp only [WP_skip, thenQ, exitQ]
  unfold c7n16
  have l2 : ldN 5 h2 (.ptr h.length 0) = some (dropL vu vc) := ldN_of hb'
  refine wp_seq (wp_region ?_)
  simp only [wps_go, wps_nil, wx_loadN, wx_store, wpo_call, put_some, put_none, at_t, upd_app, thenQ, Option.some.injEq, exists_eq_left', Nat.reduceEqDiff, ↓reduceIte, List.map_cons, List.map_nil, r7n13, l2]
  refine con29 ((hd0.kept k1).kept k2) ?_
  rintro d3 h3 ⟨vu3, vc3, rfl, ou, oc, hne, _, _, _⟩ k3
  have hb3 := k3.get hb' (by simp)
  have hone3 := dropL_one ou.arr oc.arr
  obtain ⟨h4, s4, b4, k4⟩ := st_of (o := 0) (n := 5) (v := .agg (dropL vu3 vc3)) (cs' := dropL vu3 vc3) hb3 (cells_agg _) hone3 rfl (by simp [dropL]) (by simp [dropL])
  have g1 := k1.1; have g2 := k2.1; have g3 := k3.1; have g4 := k4.1
  have ou4 := ou.kept k4 (fun b hb e => by injection e with e; have := ou.bk_ge hb; omega)
  have oc4 := oc.kept k4 (fun b hb e => by injection e with e; have := oc.bk_ge hb; omega)
  simp only [Option.some.injEq, exists_eq_left', s4]
  have ld4 := ld_of b4
  have i4 := oc4.arr.idx (k := .i64) (j := i) (by rw [ints_length]; omega)
  obtain ⟨h5, s5, oc5, k5⟩ := oc4.st (j := i) (x := .int .i64 k) (by rw [ints_length]; omega) rfl rfl
  have ou5 := ou4.kept k5 (fun b hb e => hne b hb e)
  have b5 := k5.get b4 (fun e => by have := oc.bk_ge e; omega)
  have g5 := k5.1
  refine wp_seq (wp_region ?_)
  simp only [wps_go, wps_nil, wpo_mv, wx_indexAddr, wx_load, wx_fieldAddr, wx_store, put_some, put_none, at_t, upd_app, argF_zero, argF_succ, thenQ, offV, Option.some.injEq, exists_eq_left', Nat.reduceEqDiff, ↓reduceIte, Nat.zero_add, List.getElem?_cons_zero, List.getElem?_cons_succ, r7n14, ld4, dropL, i4, s5]
  have b5' : h5[h.length + 1]? = some (some (.cells true zeroL)) := by
    refine k5.get (k4.get (k3.get (k2.get hb2 (by simp)) (by simp)) (by simp)) (fun e => by have := oc.bk_ge e; omega)
  have l5 : ldN 5 h5 (.ptr h.length 0) = some (dropL vu3 vc3) := ldN_of b5
  obtain ⟨h6, s6, b6, k6⟩ := st_of (o := 0) (n := 5) (v := .agg (dropL vu3 vc3)) (cs' := dropL vu3 vc3) b5' (cells_agg _) hone3 rfl (by simp [zeroL]) (by simp [zeroL])
  have g6 := k6.1
  refine wp_seq (wp_region ?_)
  simp only [wps_go, wps_nil, wpo_mv, wx_loadN, wx_store, put_some, put_none, at_t, at_c, upd_app, thenQ, Option.some.injEq, exists_eq_left', Nat.reduceEqDiff, ↓reduceIte, r7n15, l5, s6]
  have l6 : ldN 5 h6 (.ptr (h.length + 1) 0) = some (dropL vu3 vc3) := ldN_of b6
  have hset : (ints cs).set i (.int .i64 k) = ints (cs.set i k) := by simp [ints, I, List.map_set]
  rw [hset] at oc5
  refine ⟨[.agg (dropL vu3 vc3), .int .i64 0], ?_, hq (.agg (dropL vu3 vc3)) h6 ⟨_, _, rfl, ?_, ?_, by simp [hn], hn40, ?_⟩ ?_ ?_⟩
  · have e : (match ldN 5 h6 (.ptr (h.length + 1) 0), (some [.int .i64 0] : Option (List V)) with
      | some cs, some vs => some (V.agg cs :: vs)
      | _, _ => none) = some [V.agg (dropL vu3 vc3), .int .i64 0] := by rw [l6]
    exact e
  · exact (ou5.kept k6 (fun b hb e => by injection e with e; have := ou.bk_ge hb; omega)).arr
  · exact (oc5.kept k6 (fun b hb e => by injection e with e; have := oc.bk_ge hb; omega)).arr
  · intro c hcm
    rcases List.mem_or_eq_of_mem_set hcm with hcm | rfl
    · exact hch c hcm
    · omega
  · intro b hb
    rcases hb.of with hb | hb
    · have := ou.bk_ge hb; omega
    · have := oc.bk_ge hb; omega
  · refine ⟨by omega, fun j hj _ => ?_⟩
    rw [k6.2 j (by omega) (by simp; omega), k5.2 j (by omega) (fun e => by have := oc.bk_ge e; omega), k4.2 j (by omega) (by simp; omega), k3.2 j (by omega) (by simp), k2.2 j (by omega) (by simp), k1.2 j hj (by simp)]
end Go.Ideal.T
