/- Contracts: who chose best; a drop laid down. Conditions: units one to forty. -/
import Derived.Test.YtbikhbgmgmaocaaGreatDoorLaw5
namespace Go.Ideal.T
open Go Go.Ideal Go.Proofs

def best (cs : List Int) : List Int := if whoFrom 3 0 cs = [] then whoFrom 2 0 cs else whoFrom 3 0 cs

theorem con9 {h : Heap} {d : V} {n : Nat} {cs : List Int} (hd : Drop h d n cs) {Q : V → Heap → Prop} (hq : ∀ v' h', Own h.length h' v' (ints (best cs)) → Kept h h' none → Q v' h') : Con M 9 [d] h Q := by
  have hd0 := hd
  obtain ⟨vu, vc, rfl, hu, hc, hn, hn40, hch⟩ := hd
  refine con_call rfl code9 (by show 1 ≤ 15; omega) (by decide) ?_
  show WP M 15 f9.body (argF [V.agg (dropL vu vc)]) h (retQ [.tmp 2] Q)
  have hone := dropL_one hu hc
  refine wp_seq (wp_region ?_)
  simp only [wps_go, wps_nil, wpo_mv, wx_box, put_some, at_t, at_c, argF_zero, thenQ, cells_agg, r9n0, hone, true_and]
  generalize hh : h ++ [some (Blk.cells true (dropL vu vc))] = h1
  have k1 : Kept h h1 none := by rw [← hh]; exact Kept.grow _ _ _
  have hl1 : h1.length = h.length + 1 := by rw [← hh]; simp
  have hb : h1[h.length]? = some (some (.cells true (dropL vu vc))) := by rw [← hh]; simp
  have l1 : ldN 5 h1 (.ptr h.length 0) = some (dropL vu vc) := ldN_of hb
  unfold c9n9
  refine wp_seq (wp_seq (wp_region ?_))
  simp only [wps_go, wps_nil, wx_loadN, wpo_scal, wpo_call, put_some, at_t, bo_op, scalV, oprV, upd_app, thenQ, unV, Option.some.injEq, exists_eq_left', Option.bind_some, Nat.reduceEqDiff, ↓reduceIte, List.map_cons, List.map_nil, r9n1, l1]
  refine con26 (hd0.kept k1) ?_
  intro h2 k2
  try simp only [Option.some.injEq, exists_eq_left', Bool.not_true]
  refine wp_false rfl ?_
  try simp only [WP_skip, thenQ]
  unfold c9n8
  have l2 : ldN 5 h2 (.ptr h.length 0) = some (dropL vu vc) := ldN_of (k2.get hb (by simp))
  refine wp_seq (wp_seq (wp_region ?_))
  simp only [wps_go, wps_nil, wpo_mv, wx_loadN, wpo_call, put_some, at_t, at_c, upd_app, thenQ, Option.some.injEq, exists_eq_left', Nat.reduceEqDiff, ↓reduceIte, List.map_cons, List.map_nil, r9n3, l2]
  refine con30 ((hd0.kept k1).kept k2) ?_
  intro v3 h3 o3 k3
  have s3 := o3.arr.sl
  rw [ints_length] at s3
  try simp only [WP_skip, WP_exit, wps_go, wps_nil, wpd_go, wpd_nil, wpd_re, wps_tt, wps_tf, wps_ft, wps_ff, wpo_mv, wx_lenSlice, wx_indexAddr, wx_load, wx_loadN, wx_pick, wx_extract, wx_nilCheck, wx_fieldAddr, wx_isNil, wx_build, wx_from, wx_alloc, wx_box, wx_store, wpo_scal, wpo_call, put_some, put_none, at_t, at_c, bo_op, scalV, oprV, ofVal_int, ofVal_bool, upd_app, argF_zero, argF_succ, thenQ, exitQ, binV_int, intV, unV, isB, ptrV, offV, Option.some.injEq, exists_eq_left', exists_eq_left, Option.bind_some, Nat.reduceEqDiff, ↓reduceIte, List.map_cons, List.map_nil, reduceCtorEq, Bool.not_true, Bool.not_false, beq_self_eq_true, Nat.reduceAdd, Nat.zero_add, List.getElem?_cons_zero, List.getElem?_cons_succ, cells_agg, extV]
  unfold c9n6
  refine wp_seq (wp_region ?_)
  simp only [wps_go, wps_nil, wpo_mv, wx_lenSlice, wpo_scal, put_some, at_t, bo_op, scalV, oprV, ofVal_int, upd_app, thenQ, binV_int, intV, Option.some.injEq, exists_eq_left', ↓reduceIte, r9n4, s3]
  refine wp_cond (p := ((whoFrom 3 0 cs).length : Int) > 0) rfl (fun hlt => ?_) (fun hlt => ?_)
  · refine wp_seq (wp_region ?_)
    simp only [wps_go, wps_nil, wpo_mv, put_some, at_t, upd_app, thenQ, Nat.reduceEqDiff, ↓reduceIte, r9n5]
    have hne : whoFrom 3 0 cs ≠ [] := by intro e; rw [e] at hlt; simp at hlt
    rw [best, if_neg hne] at hq
    refine ⟨[_], rfl, hq _ _ (o3.mono ?_) ((k1.trans k2).trans k3)⟩
    have := k2.1; omega
  · have he : whoFrom 3 0 cs = [] := by
      have : (whoFrom 3 0 cs).length = 0 := by omega
      exact List.length_eq_zero_iff.1 this
    try simp only [WP_skip, thenQ]
    have l3 : ldN 5 h3 (.ptr h.length 0) = some (dropL vu vc) := ldN_of (k3.get (k2.get hb (by simp)) (by simp))
    refine wp_seq (wp_region ?_)
    simp only [wps_go, wps_nil, wpo_mv, wx_loadN, wpo_call, put_some, at_t, at_c, upd_app, thenQ, Option.some.injEq, exists_eq_left', Nat.reduceEqDiff, ↓reduceIte, List.map_cons, List.map_nil, r9n7, l3]
    refine con30 (((hd0.kept k1).kept k2).kept k3) ?_
    intro v4 h4 o4 k4
    try simp only [WP_skip, WP_exit, wps_go, wps_nil, wpd_go, wpd_nil, wpd_re, wps_tt, wps_tf, wps_ft, wps_ff, wpo_mv, wx_lenSlice, wx_indexAddr, wx_load, wx_loadN, wx_pick, wx_extract, wx_nilCheck, wx_fieldAddr, wx_isNil, wx_build, wx_from, wx_alloc, wx_box, wx_store, wpo_scal, wpo_call, put_some, put_none, at_t, at_c, bo_op, scalV, oprV, ofVal_int, ofVal_bool, upd_app, argF_zero, argF_succ, thenQ, exitQ, binV_int, intV, unV, isB, ptrV, offV, Option.some.injEq, exists_eq_left', exists_eq_left, Option.bind_some, Nat.reduceEqDiff, ↓reduceIte, List.map_cons, List.map_nil, reduceCtorEq, Bool.not_true, Bool.not_false, beq_self_eq_true, Nat.reduceAdd, Nat.zero_add, List.getElem?_cons_zero, List.getElem?_cons_succ, cells_agg, extV]
    rw [best, if_pos he] at hq
    refine ⟨[_], rfl, hq _ _ (o4.mono ?_) (((k1.trans k2).trans k3).trans k4)⟩
    have := k2.1; have := k3.1; omega

theorem con6 {h : Heap} {v : V} {n : Nat} (hv : Arr h v (ints (uns n))) (hn40 : n ≤ 40) {Q : V → Heap → Prop}
    (hq : ∀ d' h', Drop h' d' n (List.replicate n 0) → (∀ b vu vc, d' = .agg (dropL vu vc) → (vu.bk = some b ∨ vc.bk = some b) → h.length ≤ b) → Kept h h' none → Q (.tup [d', .int .i64 0]) h') : Con M 6 [.int .i64 1, .int .i64 1, .int .i64 100, v] h Q := by
  refine con_call rfl code6 (by show 4 ≤ 25; omega) (by decide) ?_
  show WP M 25 f6.body (argF [_, _, _, v]) h (retQ [.cell 8 (some 5), .tmp 9] Q)
  refine wp_seq (wp_region ?_)
  simp only [wps_go, wps_nil, wpo_mv, wx_alloc, put_some, at_c, thenQ, r6n0]
  generalize hh : h ++ [some (Blk.cells true [.int .i64 0, .int .i64 0, .int .i64 0, .nilSlice, .nilSlice])] = h1
  have k1 : Kept h h1 none := by rw [← hh]; exact Kept.grow _ _ _
  have hl1 : h1.length = h.length + 1 := by rw [← hh]; simp
  have hb : h1[h.length]? = some (some (.cells true zeroL)) := by rw [← hh]; simp [zeroL]
  refine wp_seq ?_
  show wpd M h1.length r6n1 _ (h1 ++ [none, none]) _
  have k2 : Kept h1 (h1 ++ [none, none]) none := Kept.grow _ _ _
  generalize hh2 : h1 ++ [none, none] = h2 at k2
  have hl2 : h2.length = h1.length + 2 := by rw [← hh2]; simp
  have hn0 : h2[h1.length + 0]? = some none := by rw [← hh2]; simp
  have hn1 : h2[h1.length + 1]? = some none := by rw [← hh2]; simp
  have hv2 := k2.arrN (k1.arrN hv)
  have s2 := hv2.sl
  rw [ints_length, uns_length] at s2
  simp only [wpd_go, wpd_nil, wpo_mv, wx_lenSlice, wx_build, wx_store, wpo_call, put_some, put_none, at_t, upd_app, argF_zero, argF_succ, thenQ, Option.some.injEq, exists_eq_left', Nat.reduceEqDiff, ↓reduceIte, List.map_cons, List.map_nil, reduceCtorEq, r6n1, s2]
  refine con25 hv2 (by rw [ints_length, uns_length]; omega) ?_
  intro v3 h3 o3 k3
  have hn03 := k3.get hn0 (by simp)
  have hn13 := k3.get hn1 (by simp)
  rw [wpo_makeSliceS (n := n) (l := .t 17) (k := .i64) rfl (by omega) hn03, flat_one]
  generalize hh4 : h3.set (h1.length + 0) (some (Blk.cells true (List.replicate n (.int .i64 0)))) = h4
  have hlt3 := lt_of_get hn03
  have hlt3' := lt_of_get hn13
  have k4 : Kept h3 h4 (some (h1.length + 0)) := by rw [← hh4]; exact Kept.set
  have b4 : h4[h1.length + 0]? = some (some (.cells true (List.replicate n (.int .i64 0)))) := by rw [← hh4]; exact List.getElem?_set_self hlt3
  have hn14 := k4.get hn13 (by simp)
  have c3 := o3.arr.cells
  have c4 : (V.slice (h1.length + 0) 0 1 n n false).cells = [V.slice (h1.length + 0) 0 1 n n false] := rfl
  have fill : ∀ (F : FE), F 11 = .int .i64 1 → F 12 = .int .i64 1 → F 13 = .int .i64 100 → F 15 = v3 → F 18 = .slice (h1.length + 0) 0 1 n n false →
      fillF F [(0, 1, (.t 11)), (1, 1, (.t 12)), (2, 1, (.t 13)), (3, 1, (.t 15)), (4, 1, (.t 18))] [(.int .i64 0), (.int .i64 0), (.int .i64 0), .nilSlice, .nilSlice] = some (dropL v3 (.slice (h1.length + 0) 0 1 n n false)) := by
    intro F e1 e2 e3 e4 e5
    simp [fillF, Opd.at, e1, e2, e3, e4, e5, cells_int, cells_slice, c3, dropL]
  try simp only [WP_skip, WP_exit, wps_go, wps_nil, wpd_go, wpd_nil, wpd_re, wps_tt, wps_tf, wps_ft, wps_ff, wpo_mv, wx_lenSlice, wx_indexAddr, wx_load, wx_loadN, wx_pick, wx_extract, wx_nilCheck, wx_fieldAddr, wx_isNil, wx_build, wx_from, wx_alloc, wx_box, wx_store, wpo_scal, wpo_call, put_some, put_none, at_t, at_c, bo_op, scalV, oprV, ofVal_int, ofVal_bool, upd_app, argF_zero, argF_succ, thenQ, exitQ, binV_int, intV, unV, isB, ptrV, offV, Option.some.injEq, exists_eq_left', exists_eq_left, Option.bind_some, Nat.reduceEqDiff, ↓reduceIte, List.map_cons, List.map_nil, reduceCtorEq, Bool.not_true, Bool.not_false, beq_self_eq_true, Nat.reduceAdd, Nat.zero_add, List.getElem?_cons_zero, List.getElem?_cons_succ, cells_agg, extV]
  rw [fill _ rfl rfl rfl rfl rfl]
  simp only [Option.some.injEq, exists_eq_left']
  rw [wpo_allocS hn14]
  generalize hh5 : h4.set (h1.length + 1) (some (Blk.cells true [.int .i64 0, .int .i64 0, .int .i64 0, .nilSlice, .nilSlice])) = h5
  have hlt4 := lt_of_get hn14
  have k5 : Kept h4 h5 (some (h1.length + 1)) := by rw [← hh5]; exact Kept.set
  have b5 : h5[h1.length + 1]? = some (some (.cells true zeroL)) := by rw [← hh5]; exact List.getElem?_set_self hlt4
  have o3b : ∀ b, v3.bk = some b → h2.length ≤ b := fun b hb => o3.bk_ge hb
  have p5 : Own h2.length h5 v3 (ints (uns n)) := (o3.kept k4 (fun b hb e => by injection e with e; have := o3b b hb; omega)).kept k5 (fun b hb e => by injection e with e; have := o3b b hb; omega)
  have q5 : h5[h1.length + 0]? = some (some (.cells true (List.replicate n (.int .i64 0)))) := k5.get b4 (by simp)
  have hrep : List.replicate n (V.int .i64 0) = ints (List.replicate n 0) := by simp [ints, I]
  have arr0 : ∀ {h' : Heap}, h'[h1.length + 0]? = some (some (.cells true (List.replicate n (.int .i64 0)))) → Arr h' (.slice (h1.length + 0) 0 1 n n false) (ints (List.replicate n 0)) := by
    intro h' hb'
    rw [hrep] at hb'
    exact .inr ⟨_, 0, n, false, true, _, by simp [ints], hb', by simp, by simp, by simp [ints]⟩
  have hone : allOne (dropL v3 (.slice (h1.length + 0) 0 1 n n false)) = true := dropL_one p5.arr (arr0 q5)
  obtain ⟨h6, s6, b6, k6⟩ := st_of (o := 0) (n := 5) (v := .agg (dropL v3 (.slice (h1.length + 0) 0 1 n n false))) (cs' := dropL v3 (.slice (h1.length + 0) 0 1 n n false)) b5 (cells_agg _) hone rfl (by simp [zeroL]) (by simp [zeroL])
  rw [s6]
  simp only [Option.some.injEq, exists_eq_left']
  have p6 : Own h2.length h6 v3 (ints (uns n)) := p5.kept k6 (fun b hb e => by injection e with e; have := o3b b hb; omega)
  have q6 := k6.get q5 (by simp)
  have l6 : ldN 5 h6 (.ptr (h1.length + 1) 0) = some (dropL v3 (.slice (h1.length + 0) 0 1 n n false)) := ldN_of b6
  have hd6 : Drop h6 (.agg (dropL v3 (.slice (h1.length + 0) 0 1 n n false))) n (List.replicate n 0) :=
    ⟨_, _, rfl, p6.arr, arr0 q6, by simp, hn40, fun c hc => by rw [List.eq_of_mem_replicate hc]; omega⟩
  unfold c6n5
  refine wp_seq (wp_seq (wp_region ?_))
  simp only [wps_go, wps_nil, wx_loadN, wpo_scal, wpo_call, put_some, at_t, bo_op, scalV, oprV, upd_app, thenQ, unV, Option.some.injEq, exists_eq_left', Option.bind_some, ↓reduceIte, List.map_cons, List.map_nil, r6n2, l6]
  refine con26 hd6 ?_
  intro h7 k7
  try simp only [Option.some.injEq, exists_eq_left', Bool.not_true]
  refine wp_false rfl ?_
  try simp only [WP_skip, thenQ]
  have e1 := k1.1; have e2 := k2.1; have e3 := k3.1; have e4 := k4.1; have e5 := k5.1; have e6 := k6.1; have e7 := k7.1
  have b7 : h7[h.length]? = some (some (.cells true zeroL)) := by
    refine k7.get (k6.get (k5.get (k4.get (k3.get (k2.get hb (by simp)) (by simp)) ?_) ?_) ?_) (by simp) <;> (intro e; injection e with e; omega)
  have l7 : ldN 5 h7 (.ptr (h1.length + 1) 0) = some (dropL v3 (.slice (h1.length + 0) 0 1 n n false)) := ldN_of (k7.get b6 (by simp))
  obtain ⟨h8, s8, b8, k8⟩ := st_of (o := 0) (n := 5) (v := .agg (dropL v3 (.slice (h1.length + 0) 0 1 n n false))) (cs' := dropL v3 (.slice (h1.length + 0) 0 1 n n false)) b7 (cells_agg _) hone rfl (by simp [zeroL]) (by simp [zeroL])
  refine wp_seq (wp_region ?_)
  simp only [wps_go, wps_nil, wpo_mv, wx_loadN, wx_store, put_some, put_none, at_t, at_c, upd_app, thenQ, Option.some.injEq, exists_eq_left', Nat.reduceEqDiff, ↓reduceIte, r6n4, l7, s8]
  have l8 : ldN 5 h8 (.ptr h.length 0) = some (dropL v3 (.slice (h1.length + 0) 0 1 n n false)) := ldN_of b8
  have e8 := k8.1
  refine ⟨[.agg (dropL v3 (.slice (h1.length + 0) 0 1 n n false)), .int .i64 0], ?_, hq (.agg (dropL v3 (.slice (h1.length + 0) 0 1 n n false))) h8 ⟨_, _, rfl, ?_, ?_, by simp, hn40, fun c hc => by rw [List.eq_of_mem_replicate hc]; omega⟩ ?_ ?_⟩
  · have e : (match ldN 5 h8 (.ptr h.length 0), (some [.int .i64 0] : Option (List V)) with
      | some cs, some vs => some (V.agg cs :: vs)
      | _, _ => none) = some [V.agg (dropL v3 (.slice (h1.length + 0) 0 1 n n false)), .int .i64 0] := by rw [l8]
    exact e
  · exact ((p6.keptN k7).kept k8 (fun b hb e => by injection e with e; have := o3b b hb; omega)).arr
  · exact arr0 (k8.get (k7.get q6 (by simp)) (by simp; omega))
  · intro b vu vc he hb'
    simp only [dropL, V.agg.injEq, List.cons.injEq, true_and, and_true] at he
    obtain ⟨rfl, rfl⟩ := he
    rcases hb' with hb' | hb'
    · have := o3b b hb'; omega
    · simp only [V.bk, Option.some.injEq] at hb'; omega
  · refine ⟨by omega, fun j hj _ => ?_⟩
    rw [k8.2 j (by omega) (by simp; omega), k7.2 j (by omega) (by simp), k6.2 j (by omega) (by simp; omega), k5.2 j (by omega) (by simp; omega), k4.2 j (by omega) (by simp; omega), k3.2 j (by omega) (by simp), k2.2 j (by omega) (by simp), k1.2 j hj (by simp)]
end Go.Ideal.T
