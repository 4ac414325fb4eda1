/- The law WholeRolled at unknown values: it comes back with true. Conditions: goes() is true (a known answer). -/
import Derived.Test.YtbikhbgmgmaocaaGreatDoorLaw12
namespace Go.Ideal.T
open Go Go.Ideal Go.Proofs

theorem uns_snoc (i : Nat) : uns (i + 1) = uns i ++ [(i : Int) + 1] := by
  simp [uns, List.range_succ]

theorem con3 {h : Heap} {v0 v1 : V} {cs ws : List Int} (hv0 : Arr h v0 (U8 cs)) (hc : ∀ c ∈ cs, 0 ≤ c ∧ c < 256) (hv1 : Arr h v1 (U32 ws)) (hw : ∀ w ∈ ws, word w) {Q : V → Heap → Prop} (hq : ∀ h', Q (.bool true) h') : Con M 3 [v0, v1] h Q := by
  refine con_call rfl code3 (by show 2 ≤ 205; omega) (by decide) ?_
  show WP M 205 f3.body (argF [v0, v1]) h (retQ [.tmp 4] Q)
  have hlen : (U8 cs).length = cs.length := by simp [U8]
  have hlen1 : (U32 ws).length = ws.length := by simp [U32]
  have s0 := hv0.sl
  rw [hlen] at s0
  have s1 := hv1.sl
  rw [hlen1] at s1
  refine wp_seq (wp_region ?_)
  simp only [wps_go, wps_nil, wpo_mv, put_some, at_c, thenQ, r3n0]
  refine wp_seq (wp_region ?_)
  simp only [wps_go, wps_nil, wpo_mv, wpo_call, put_some, at_t, upd_app, thenQ, ↓reduceIte, List.map_nil, r3n1]
  refine con_known (v := .bool true) rfl ?_
  try simp only [WP_skip, WP_exit, wps_go, wps_nil, wpd_go, wpd_nil, wpd_re, wps_tt, wps_tf, wps_ft, wps_ff, wpo_mv, wx_lenSlice, wx_indexAddr, wx_load, wx_loadN, wx_pick, wx_extract, wx_nilCheck, wx_fieldAddr, wx_isNil, wx_build, wx_from, wx_alloc, wx_box, wx_store, wpo_scal, wpo_call, put_some, put_none, at_t, at_c, bo_op, scalV, oprV, ofVal_int, ofVal_bool, upd_app, argF_zero, argF_succ, thenQ, exitQ, binV_int, intV, unV, isB, ptrV, offV, Option.some.injEq, exists_eq_left', exists_eq_left, Option.bind_some, Nat.reduceEqDiff, ↓reduceIte, List.map_cons, List.map_nil, reduceCtorEq, Bool.not_true, Bool.not_false, beq_self_eq_true, Nat.reduceAdd, Nat.zero_add, List.getElem?_cons_zero, List.getElem?_cons_succ, cells_agg, extV]
  unfold c3n77
  refine wp_seq (wp_seq (wp_region ?_))
  by_cases h0 : cs.length = 0
  · have e0 : ((cs.length : Int) == 0) = true := by simp [h0]
    simp only [wps_go, wps_nil, wps_ft, wps_ff, wpo_mv, wx_lenSlice, wx_pick, wpo_scal, put_some, at_t, at_c, bo_op, scalV, oprV, ofVal_int, upd_app, argF_zero, thenQ, binV_int, intV, unV, isB, Option.some.injEq, exists_eq_left', Option.bind_some, Nat.reduceEqDiff, ↓reduceIte, reduceCtorEq, Bool.not_true, r3n2, s0, e0]
    refine wp_true rfl (wp_seq (wp_region ?_))
    simp only [wps_go, wps_nil, wpo_mv, put_some, at_t, upd_app, thenQ, Nat.reduceEqDiff, ↓reduceIte, r3n3]
    exact ⟨[_], rfl, hq _⟩
  have e0 : ((cs.length : Int) == 0) = false := by
    have : ¬ ((cs.length : Int) = 0) := by omega
    simpa using this
  by_cases h40 : 40 < cs.length
  · have e1 : decide ((cs.length : Int) > 40) = true := decide_eq_true (by omega)
    simp only [wps_go, wps_nil, wps_ft, wps_ff, wpo_mv, wx_lenSlice, wx_pick, wpo_scal, put_some, at_t, at_c, bo_op, scalV, oprV, ofVal_int, upd_app, argF_zero, thenQ, binV_int, intV, unV, isB, Option.some.injEq, exists_eq_left', Option.bind_some, Nat.reduceEqDiff, ↓reduceIte, reduceCtorEq, Bool.not_true, r3n2, s0, e0, e1, Bool.false_eq_true]
    refine wp_true rfl (wp_seq (wp_region ?_))
    simp only [wps_go, wps_nil, wpo_mv, put_some, at_t, upd_app, thenQ, Nat.reduceEqDiff, ↓reduceIte, r3n3]
    exact ⟨[_], rfl, hq _⟩
  have e1 : decide ((cs.length : Int) > 40) = false := decide_eq_false (by omega)
  by_cases h300 : 300 < ws.length
  · have e2 : decide ((ws.length : Int) > 300) = true := decide_eq_true (by omega)
    simp only [wps_go, wps_nil, wps_ff, wpo_mv, wx_lenSlice, wx_pick, wpo_scal, put_some, at_t, at_c, bo_op, scalV, oprV, ofVal_int, upd_app, argF_zero, argF_succ, thenQ, binV_int, intV, unV, isB, Option.some.injEq, exists_eq_left', Option.bind_some, Nat.reduceEqDiff, ↓reduceIte, reduceCtorEq, Bool.not_true, r3n2, s0, s1, e0, e1, e2, Bool.false_eq_true]
    refine wp_true rfl (wp_seq (wp_region ?_))
    simp only [wps_go, wps_nil, wpo_mv, put_some, at_t, upd_app, thenQ, Nat.reduceEqDiff, ↓reduceIte, r3n3]
    exact ⟨[_], rfl, hq _⟩
  have e2 : decide ((ws.length : Int) > 300) = false := decide_eq_false (by omega)
  simp only [wps_go, wps_nil, wps_ff, wpo_mv, wx_lenSlice, wx_pick, wpo_scal, put_some, at_t, at_c, bo_op, scalV, oprV, ofVal_int, upd_app, argF_zero, argF_succ, thenQ, binV_int, intV, unV, isB, Option.some.injEq, exists_eq_left', Option.bind_some, Nat.reduceEqDiff, ↓reduceIte, reduceCtorEq, Bool.not_true, r3n2, s0, s1, e0, e1, e2, Bool.false_eq_true]
  refine wp_false rfl ?_
  try simp only [WP_skip, thenQ]
  refine wp_seq (wp_region ?_)
  simp only [wps_go, wps_nil, wpo_mv, put_some, at_c, thenQ, r3n4]
  unfold c3n76
  refine wp_seq (wp_seq (wp_region ?_))
  simp only [wps_go, wps_nil, wpo_mv, wx_lenSlice, put_some, at_t, at_c, upd_app, argF_zero, thenQ, Option.some.injEq, exists_eq_left', ↓reduceIte, reduceCtorEq, r3n5, s0]
  refine wp_block ?_
  refine wp_loop (fun k F h' => Kept h h' none ∧ ∃ i, k = cs.length - i ∧ i ≤ cs.length ∧ F 0 = v0 ∧ F 1 = v1 ∧ F 48 = .int .i64 (cs.length : Int) ∧ F 49 = .int .i64 (i : Int) ∧ Own h.length h' (F 6) (ints (uns i))) (by decide) ?_ cs.length
    ⟨Kept.refl _ _, 0, by omega, by omega, rfl, rfl, rfl, rfl, .inl ⟨rfl, rfl⟩⟩
  rintro k F h1 ⟨hk, i, rfl, hi, F0, F1, F48, F49, ho⟩
  have hk1 := hk.1
  unfold c3n11
  refine wp_seq (wp_region ?_)
  simp only [wps_go, wps_nil, wpo_scal, put_some, bo_op, scalV, oprV, thenQ, binV_int, intV, Option.some.injEq, exists_eq_left', r3n6, F48, F49]
  refine wp_seq (wp_cond (p := (i : Int) < cs.length) rfl (fun hlt => ?_) (fun hlt => ?_))
  · have hi : i < cs.length := by omega
    have hw3 : IntKind.i64.wrap ((i : Int) + 1) = (i : Int) + 1 := wrap_in (by omega) (by omega)
    have hw3' : IntKind.i64.wrap ((i : Int) + 1) = ((i + 1 : Nat) : Int) := by rw [hw3]; rfl
    simp only [WP_skip, thenQ]
    unfold c3n10
    refine wp_seq (wp_block (wp_seq (wp_region ?_)))
    simp only [wps_go, wps_nil, wpo_mv, put_some, at_t, upd_app, thenQ, Nat.reduceEqDiff, ↓reduceIte, r3n7, F49]
    refine wp_region ?_
    simp only [wps_go, wps_nil, wpo_mv, wpo_scal, put_some, at_t, bo_op, scalV, oprV, ofVal_int, upd_app, thenQ, exitQ, binV_int, intV, Option.some.injEq, exists_eq_left', Nat.reduceEqDiff, ↓reduceIte, Nat.zero_add, r3n8, hw3, wx_buildSlice, fillF, cells_int, List.length_cons, List.length_nil, Nat.reduceLeDiff, and_self, List.take_zero, List.nil_append, List.cons_append, List.drop_succ_cons, List.drop_nil, allOne, List.all_cons, List.all_nil, V.one, Bool.and_true, true_and]
    have kg := Kept.grow h1 [some (Blk.cells true [.int .i64 ((i : Int) + 1)])] none
    refine wpo_append (base := h.length) (xs := ints (uns i)) (ys := ints [(i : Int) + 1]) (ho.keptN kg) (.inr ⟨h1.length, 0, 1, false, true, _, rfl, by simp; rfl, by simp [ints], by simp [ints, I], by simp [ints]⟩) (by simp; omega) (by simp [ints, uns_length]; omega) ?_
    intro v' h2 o1 o2 _
    rw [← ints_append, ← uns_snoc] at o1
    try simp only [WP_skip, WP_exit, wps_go, wps_nil, wpd_go, wpd_nil, wpd_re, wps_tt, wps_tf, wps_ft, wps_ff, wpo_mv, wx_lenSlice, wx_indexAddr, wx_load, wx_loadN, wx_pick, wx_extract, wx_nilCheck, wx_fieldAddr, wx_isNil, wx_build, wx_from, wx_alloc, wx_box, wx_store, wpo_scal, wpo_call, put_some, put_none, at_t, at_c, bo_op, scalV, oprV, ofVal_int, ofVal_bool, upd_app, argF_zero, argF_succ, thenQ, exitQ, binV_int, intV, unV, isB, ptrV, offV, Option.some.injEq, exists_eq_left', exists_eq_left, Option.bind_some, Nat.reduceEqDiff, ↓reduceIte, List.map_cons, List.map_nil, reduceCtorEq, Bool.not_true, Bool.not_false, beq_self_eq_true, Nat.reduceAdd, Nat.zero_add, List.getElem?_cons_zero, List.getElem?_cons_succ, cells_agg, extV]
    refine wp_region ?_
    simp only [wps_go, wps_nil, wpo_mv, wpo_scal, put_some, at_t, bo_op, scalV, oprV, ofVal_int, upd_app, thenQ, binV_int, intV, Option.some.injEq, exists_eq_left', Nat.reduceEqDiff, ↓reduceIte, reduceCtorEq, r3n9, F49, hw3']
    have k3 : Kept h h2 none := by
      refine ⟨by have := o2.1; simp at this; omega, fun j hj _ => ?_⟩
      rw [o2.2 j (by simp; omega) (fun e => by have := ho.bk_ge e; omega), List.getElem?_append_left (by omega), hk.2 j hj (by simp)]
    exact ⟨cs.length - (i + 1), by omega, k3, i + 1, by trivial, by omega, F0, F1, F48, by trivial, o1⟩
  · have hi : i = cs.length := by omega
    subst hi
    simp only [WP_exit, thenQ, exitQ, ↓reduceIte]
    refine wp_seq (wp_region ?_)
    simp only [wps_go, wps_nil, wpo_mv, wx_extract, wx_alloc, wx_store, wpo_call, put_some, put_none, at_t, at_c, upd_app, thenQ, Nat.reduceEqDiff, ↓reduceIte, List.map_cons, List.map_nil, extV, r3n12]
    refine con6 ho.arr (by omega) ?_
    rintro d2 h2 hd2 hb2 k2
    have hd2' := hd2
    obtain ⟨vu, vc, hde, hu, hcc, hrest⟩ := hd2'
    have hde : d2 = .agg (dropL vu vc) := hde
    subst hde
    have k3 : Kept h2 (h2 ++ [some (Blk.cells true [.int .i64 0, .int .i64 0, .int .i64 0, .nilSlice, .nilSlice])]) none := Kept.grow _ _ _
    obtain ⟨h4, s4, b4, k4⟩ := st_of (h := h2 ++ [some (Blk.cells true [.int .i64 0, .int .i64 0, .int .i64 0, .nilSlice, .nilSlice])]) (b := h2.length) (o := 0) (n := 5) (v := .agg (dropL vu vc)) (cs := zeroL) (cs' := dropL vu vc) (by simp [zeroL]) (cells_agg _) (dropL_one hu hcc) rfl (by simp [zeroL]) (by simp [zeroL])
    have hk2 := k2.1
    have hdlt : ∀ b, DBk (.agg (dropL vu vc)) b → b ≠ h2.length := fun b hb => by have := hb.lt hd2; omega
    have hd4 : Drop h4 (.agg (dropL vu vc)) cs.length (List.replicate cs.length 0) :=
      ⟨vu, vc, rfl, k4.arr (k3.arrN hu) (fun b hb e => by injection e with e; exact hdlt b ⟨_, _, rfl, .inl hb⟩ e.symm), k4.arr (k3.arrN hcc) (fun b hb e => by injection e with e; exact hdlt b ⟨_, _, rfl, .inr hb⟩ e.symm), hrest⟩
    have kv : ∀ {v : V} {xs : List V}, Arr h v xs → Arr h4 v xs ∧ ∀ b, v.bk = some b → b ≠ h2.length := by
      intro v xs a
      have hb : ∀ b, v.bk = some b → b ≠ h2.length := fun b hb => by have := a.bk_lt hb; omega
      exact ⟨k4.arr (k3.arrN (k2.arrN (hk.arrN a))) (fun b hb' e => by injection e with e; exact hb b hb' e.symm), hb⟩
    have n0 : ((0 : Int) != 0) = false := rfl
    simp only [Option.some.injEq, exists_eq_left', List.getElem?_cons_zero, List.getElem?_cons_succ, s4]
    unfold c3n75
    refine wp_seq (wp_seq (wp_region ?_))
    simp only [wps_go, wps_nil, wpo_mv, wpo_scal, put_some, at_t, bo_op, scalV, oprV, ofVal_int, upd_app, thenQ, binV_int, intV, Option.some.injEq, exists_eq_left', ↓reduceIte, r3n13, n0]
    refine wp_false rfl ?_
    try simp only [WP_skip, thenQ]
    refine wp_seq (wp_region ?_)
    simp only [wps_go, wps_nil, wpo_mv, put_some, at_c, thenQ, r3n15]
    exact choose3 hq F0 F1 rfl rfl rfl b4 hd4 hdlt (kv hv0).1 (kv hv0).2 hc (kv hv1).1 (kv hv1).2 hw (by omega)
#print axioms con3
end Go.Ideal.T
