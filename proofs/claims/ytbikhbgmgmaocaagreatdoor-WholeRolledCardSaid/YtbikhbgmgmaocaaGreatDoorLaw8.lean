/- Contracts: words that wait; who gets it. Conditions: units one to forty, words that are words. -/
import Derived.Test.YtbikhbgmgmaocaaGreatDoorLaw7
namespace Go.Ideal.T
open Go Go.Ideal Go.Proofs

theorem con11 {h : Heap} {s : Nat} {v : V} {ws : List Int} (hs : h[s]? = some (some (.cells true [.nilSlice]))) (hv : Arr h v (ints ws)) (hw : ∀ w ∈ ws, word w) (hl : ws.length ≤ 4096) {Q : V → Heap → Prop}
    (hq : ∀ wv h', h'[s]? = some (some (.cells true [wv])) → Own h.length h' wv (ints ws) → Kept h h' (some s) → Q (.int .i64 0) h') : Con M 11 [.ptr s 0, v] h Q := by
  refine con_call rfl code11 (by show 2 ≤ 35; omega) (by decide) ?_
  show WP M 35 f11.body (argF [.ptr s 0, v]) h (retQ [.tmp 4] Q)
  have s0 := hv.sl
  rw [ints_length] at s0
  refine wp_seq (wp_region ?_)
  simp only [wps_go, wps_nil, wpo_mv, put_some, at_c, thenQ, r11n0]
  unfold c11n15
  refine wp_seq (wp_seq (wp_region ?_))
  simp only [wps_go, wps_nil, wpo_mv, wx_lenSlice, put_some, at_t, at_c, upd_app, argF_zero, argF_succ, thenQ, Option.some.injEq, exists_eq_left', Nat.reduceEqDiff, ↓reduceIte, r11n1, s0]
  refine wp_block ?_
  refine wp_loop (fun k F h' => h' = h ∧ ∃ i, k = ws.length - i ∧ i ≤ ws.length ∧ F 0 = .ptr s 0 ∧ F 1 = v ∧ F 7 = v ∧ F 8 = .int .i64 (ws.length : Int) ∧ F 9 = .int .i64 (i : Int)) (by decide) ?_ ws.length ⟨rfl, 0, by omega, by omega, rfl, rfl, rfl, rfl, rfl⟩
  rintro k F _ ⟨rfl, i, rfl, hi, F0, F1, F7, F8, F9⟩
  unfold c11n9
  refine wp_seq (wp_region ?_)
  simp only [wps_go, wps_nil, wpo_scal, put_some, bo_op, scalV, oprV, thenQ, binV_int, intV, Option.some.injEq, exists_eq_left', r11n2, F8, F9]
  refine wp_seq (wp_cond (p := (i : Int) < ws.length) rfl (fun hc => ?_) (fun hc => ?_))
  · have hi : i < ws.length := by omega
    simp only [WP_skip, thenQ]
    unfold c11n8
    have a0 := hv.idx (k := .i64) (j := i) (by rw [ints_length]; exact hi)
    have l0 := hv.ld (ints_get ws i hi)
    refine wp_seq (wp_block (wp_seq (wp_region ?_)))
    simp only [wps_go, wps_nil, wpo_mv, wx_indexAddr, wx_load, put_some, at_t, upd_app, thenQ, Option.some.injEq, exists_eq_left', Nat.reduceEqDiff, ↓reduceIte, r11n3, F7, F9, a0, l0]
    unfold c11n6
    obtain ⟨w0, w1⟩ := hw ws[i] (List.getElem_mem hi)
    refine wp_seq (wp_region ?_)
    simp only [wps_go, wps_nil, wpo_mv, wpo_scal, wpo_call, put_some, at_t, bo_op, scalV, oprV, upd_app, thenQ, unV, Option.bind_some, ↓reduceIte, List.map_cons, List.map_nil, r11n4]
    refine con31 w0 w1 ?_
    try simp only [Option.some.injEq, exists_eq_left', Bool.not_true]
    refine wp_false rfl ?_
    try simp only [WP_skip, thenQ, exitQ]
    refine wp_region ?_
    have hw' : IntKind.i64.wrap ((i : Int) + 1) = ((i + 1 : Nat) : Int) := by rw [wrap_in (by omega) (by omega)]; rfl
    simp only [wps_go, wps_nil, wpo_mv, wpo_scal, put_some, at_t, bo_op, scalV, oprV, ofVal_int, upd_app, thenQ, binV_int, intV, Option.some.injEq, exists_eq_left', Nat.reduceEqDiff, ↓reduceIte, reduceCtorEq, r11n7, F9, hw']
    exact ⟨ws.length - (i + 1), by omega, by trivial, i + 1, rfl, by omega, F0, F1, F7, F8, rfl⟩
  · simp only [WP_exit, thenQ, exitQ, ↓reduceIte]
    unfold c11n14
    rename_i hh
    have e0 : ld hh (.ptr s (0 + 0)) = some .nilSlice := by simp only [ld, hs]; rfl
    have e1 : IntKind.i64.wrap (4096 - ((0 : Nat) : Int)) = 4096 := rfl
    have e2 : decide ((ws.length : Int) > 4096) = false := decide_eq_false (by omega)
    refine wp_seq (wp_seq (wp_region ?_))
    have sl0 : V.sl .nilSlice = some 0 := rfl
    simp only [wps_go, wps_nil, wpo_mv, wx_lenSlice, wx_load, wx_nilCheck, wx_fieldAddr, wpo_scal, put_some, at_t, bo_op, scalV, oprV, ofVal_int, upd_app, thenQ, binV_int, intV, ptrV, offV, Option.some.injEq, exists_eq_left', Nat.reduceEqDiff, ↓reduceIte, reduceCtorEq, Nat.zero_add, r11n10, F0, F1, s0, e0, sl0, e1, e2]
    refine wp_false rfl ?_
    try simp only [WP_skip, thenQ]
    refine wp_seq (wp_region ?_)
    simp only [wps_go, wps_nil, wpo_mv, wx_load, wx_nilCheck, wx_fieldAddr, wx_store, put_some, put_none, at_t, upd_app, thenQ, ptrV, offV, Option.some.injEq, exists_eq_left', Nat.reduceEqDiff, ↓reduceIte, reduceCtorEq, Nat.zero_add, r11n12, F0, F1, e0]
    refine wpo_append (base := hh.length) (xs := []) (ys := ints ws) (.inl ⟨rfl, rfl⟩) hv (Nat.le_refl _) (by simp [ints]; omega) ?_
    intro v2 h2 o2 k2 _
    have k2 : Kept hh h2 none := k2
    simp only [List.nil_append] at o2
    have b2 := k2.get hs (by simp)
    have hlt := lt_of_get hs
    obtain ⟨h3, s3, b3, k3⟩ := st_of (o := 0) (n := 1) (v := v2) (cs' := [v2]) b2 o2.arr.cells (one_one o2.arr.one) rfl (by simp) (by simp)
    simp only [Option.some.injEq, exists_eq_left', s3]
    refine wp_seq (wp_region ?_)
    simp only [wps_go, wps_nil, wpo_mv, put_some, at_c, thenQ, r11n13]
    refine ⟨[_], rfl, hq v2 h3 b3 (o2.kept k3 (fun b hb e => by injection e with e; have := o2.bk_ge hb; omega)) ?_⟩
    have g2 := k2.1; have g3 := k3.1
    refine ⟨by omega, fun j hj hne => ?_⟩
    rw [k3.2 j (by omega) hne, k2.2 j hj (by simp)]

/-! ### Who gets it -/
def maxL : List Int → Int
  | [] => 0
  | x :: xs => maxFrom x xs
theorem maxFrom_mem : ∀ (xs : List Int) (m : Int), maxFrom m xs = m ∨ maxFrom m xs ∈ xs
  | [], m => .inl rfl
  | y :: ys, m => by
    simp only [maxFrom]
    rcases maxFrom_mem ys (if y > m then y else m) with h | h
    · rw [h]
      split
      · right; simp
      · left; rfl
    · right; exact List.mem_cons_of_mem _ h
theorem maxL_mem {xs : List Int} (h : xs ≠ []) : maxL xs ∈ xs := by
  cases xs with
  | nil => exact (h rfl).elim
  | cons x xs =>
    rcases maxFrom_mem xs x with e | e
    · simp only [maxL]; rw [e]; simp
    · exact List.mem_cons_of_mem _ e
theorem firstAt_mem {x : Int} : ∀ {xs : List Int} (i : Nat), x ∈ xs → ∃ j, j < xs.length ∧ firstAt x xs i = ((i + j : Nat) : Int)
  | [], i, h => by simp at h
  | y :: ys, i, h => by
    simp only [firstAt]
    by_cases e : x = y
    · rw [if_pos e]; exact ⟨0, by simp, by simp⟩
    · rw [if_neg e]
      have h : x ∈ ys := by simpa [e] using h
      obtain ⟨j, h1, h2⟩ := firstAt_mem (i + 1) h
      exact ⟨j + 1, by simpa using h1, by rw [h2]; congr 1; omega⟩

def awardV (l ws : List Int) : V := match l with
  | [] => .tup [.int .i64 0, .int .i64 0, .bool true]
  | [u] => .tup [.int .i64 u, .int .i64 0, .bool true]
  | l => match rolls ws l.length with
    | some p => .tup [.int .i64 (l.getD (firstAt (maxL p.1) p.1 0).toNat 0), .int .i64 p.2, .bool true]
    | none => .tup [.int .i64 0, .int .i64 0, .bool false]

theorem con13 {h : Heap} {d v : V} {n : Nat} {cs ws : List Int} (hd : Drop h d n cs) (hv : Arr h v (ints ws)) (hw : ∀ w ∈ ws, word w) (hl : ws.length < 4294967296) {Q : V → Heap → Prop}
    (hq : ∀ h', Kept h h' none → Q (awardV (best cs) ws) h') : Con M 13 [d, v] h Q := by
  have hd0 := hd
  obtain ⟨vu, vc, rfl, hu, hc, hn, hn40, hch⟩ := hd
  refine con_call rfl code13 (by show 2 ≤ 40; omega) (by decide) ?_
  show WP M 40 f13.body (argF [V.agg (dropL vu vc), v]) h (retQ [.tmp 4, .tmp 5, .tmp 6] Q)
  have hone := dropL_one hu hc
  refine wp_seq (wp_region ?_)
  simp only [wps_go, wps_nil, wpo_mv, wx_box, put_some, at_t, at_c, argF_zero, thenQ, cells_agg, r13n0, hone, true_and]
  generalize hh : h ++ [some (Blk.cells true (dropL vu vc))] = h1
  have k1 : Kept h h1 none := by rw [← hh]; exact Kept.grow _ _ _
  have hb : h1[h.length]? = some (some (.cells true (dropL vu vc))) := by rw [← hh]; simp
  have l1 : ldN 5 h1 (.ptr h.length 0) = some (dropL vu vc) := ldN_of hb
  refine wp_seq (wp_region ?_)
  simp only [wps_go, wps_nil, wpo_mv, wx_loadN, wpo_call, put_some, at_t, upd_app, thenQ, Option.some.injEq, exists_eq_left', Nat.reduceEqDiff, ↓reduceIte, List.map_cons, List.map_nil, r13n1, l1]
  refine con9 (hd0.kept k1) ?_
  intro v2 h2 o2 k2
  have s2 := o2.arr.sl
  rw [ints_length] at s2
  have hlen : (best cs).length ≤ 40 := by
    have a := who_len 3 cs 0
    have b := who_len 2 cs 0
    unfold best
    split <;> omega
  try simp only [WP_skip, WP_exit, wps_go, wps_nil, wpd_go, wpd_nil, wpd_re, wps_tt, wps_tf, wps_ft, wps_ff, wpo_mv, wx_lenSlice, wx_indexAddr, wx_load, wx_loadN, wx_pick, wx_extract, wx_nilCheck, wx_fieldAddr, wx_isNil, wx_build, wx_from, wx_alloc, wx_box, wx_store, wpo_scal, wpo_call, put_some, put_none, at_t, at_c, bo_op, scalV, oprV, ofVal_int, ofVal_bool, upd_app, argF_zero, argF_succ, thenQ, exitQ, binV_int, intV, unV, isB, ptrV, offV, Option.some.injEq, exists_eq_left', exists_eq_left, Option.bind_some, Nat.reduceEqDiff, ↓reduceIte, List.map_cons, List.map_nil, reduceCtorEq, Bool.not_true, Bool.not_false, beq_self_eq_true, Nat.reduceAdd, Nat.zero_add, List.getElem?_cons_zero, List.getElem?_cons_succ, cells_agg, extV]
  unfold c13n14
  refine wp_seq (wp_seq (wp_region ?_))
  simp only [wps_go, wps_nil, wpo_mv, wx_lenSlice, put_some, at_t, upd_app, thenQ, Option.some.injEq, exists_eq_left', ↓reduceIte, r13n2, s2]
  unfold c13n8
  refine wp_block (wp_seq (wp_region ?_))
  generalize hbest : best cs = l at *
  simp only [wps_go, wps_nil, wpo_mv, wpo_scal, put_some, at_t, bo_op, scalV, oprV, ofVal_int, upd_app, thenQ, binV_int, intV, Option.some.injEq, exists_eq_left', ↓reduceIte, r13n3]
  have hcase : l = [] ∨ (∃ u, l = [u]) ∨ 2 ≤ l.length := by
    rcases l with _ | ⟨u, _ | ⟨w, l⟩⟩
    · exact .inl rfl
    · exact .inr (.inl ⟨u, rfl⟩)
    · exact .inr (.inr (by simp))
  rcases hcase with rfl | ⟨u, rfl⟩ | h2l
  · refine wp_true rfl ?_
    refine wp_seq (wp_region ?_)
    simp only [wps_go, wps_nil, wpo_mv, put_some, at_c, thenQ, r13n4]
    exact ⟨[_, _, _], rfl, hq _ (k1.trans k2)⟩
  · refine wp_false rfl ?_
    unfold c13n7
    refine wp_seq (wp_region ?_)
    simp only [wps_go, wps_nil, wpo_mv, wpo_scal, put_some, at_t, bo_op, scalV, oprV, ofVal_int, upd_app, thenQ, binV_int, intV, Option.some.injEq, exists_eq_left', Nat.reduceEqDiff, ↓reduceIte, r13n5]
    refine wp_true rfl ?_
    have a0 : idxV 1 v2 (.int .i64 0) = some (v2.elem 1 0) := o2.arr.idx (k := .i64) (j := 0) (by simp [ints])
    have l0 := o2.arr.ld (j := 0) (x := .int .i64 u) (by simp [ints, I])
    refine wp_seq (wp_region ?_)
    simp only [wps_go, wps_nil, wpo_mv, wx_indexAddr, wx_load, put_some, at_t, at_c, upd_app, thenQ, Option.some.injEq, exists_eq_left', Nat.reduceEqDiff, ↓reduceIte, r13n6, a0, l0]
    exact ⟨[_, _, _], rfl, hq _ (k1.trans k2)⟩
  · have e0 : ((l.length : Int) == 0) = false := by simp; intro e; rw [e] at h2l; simp at h2l
    have e1 : ((l.length : Int) == 1) = false := by
      have : ¬ ((l.length : Int) = 1) := by omega
      simpa using this
    have haw : awardV l ws = (match rolls ws l.length with
      | some p => V.tup [.int .i64 (l.getD (firstAt (maxL p.1) p.1 0).toNat 0), .int .i64 p.2, .bool true]
      | none => .tup [.int .i64 0, .int .i64 0, .bool false]) := by
      rcases l with _ | ⟨u, _ | ⟨w, l⟩⟩
      · simp at h2l
      · simp at h2l
      · rfl
    refine wp_false (by show V.bool _ = _; rw [e0]) ?_
    unfold c13n7
    refine wp_seq (wp_region ?_)
    simp only [wps_go, wps_nil, wpo_mv, wpo_scal, put_some, at_t, bo_op, scalV, oprV, ofVal_int, upd_app, thenQ, binV_int, intV, Option.some.injEq, exists_eq_left', Nat.reduceEqDiff, ↓reduceIte, r13n5]
    refine wp_false (by show V.bool _ = _; rw [e1]) ?_
    try simp only [WP_skip, thenQ, exitQ]
    refine wp_seq (wp_region ?_)
    simp only [wps_go, wps_nil, wpo_mv, wx_lenSlice, wx_extract, wpo_call, put_some, at_t, upd_app, argF_zero, argF_succ, thenQ, Option.some.injEq, exists_eq_left', Nat.reduceEqDiff, ↓reduceIte, List.map_cons, List.map_nil, extV, r13n9, s2]
    refine con33 ((k1.trans k2).arrN hv) hw hl hlen ?_ ?_
    · intro rs us hr v3 h3 o3 k3
      obtain ⟨hrl, hul⟩ := rolls_len hr
      simp only at hrl hul
      have hrne : rs ≠ [] := by intro e; rw [e] at hrl; simp at hrl; omega
      obtain ⟨j, hj, hfj⟩ := firstAt_mem 0 (maxL_mem hrne)
      rw [Nat.zero_add] at hfj
      simp only [Option.some.injEq, exists_eq_left', List.getElem?_cons_zero, List.getElem?_cons_succ, I]
      unfold c13n13
      refine wp_seq (wp_seq (wp_region ?_))
      simp only [wps_go, wps_nil, wpo_mv, wpo_scal, put_some, at_t, bo_op, scalV, oprV, upd_app, thenQ, unV, Option.some.injEq, exists_eq_left', Option.bind_some, ↓reduceIte, Bool.not_true, r13n10]
      refine wp_false rfl ?_
      try simp only [WP_skip, thenQ]
      refine wp_seq (wp_region ?_)
      simp only [wps_go, wps_nil, wpo_mv, wx_indexAddr, wx_load, wpo_call, put_some, at_t, at_c, upd_app, thenQ, Nat.reduceEqDiff, ↓reduceIte, List.map_cons, List.map_nil, r13n12]
      obtain ⟨x, xs, rfl⟩ : ∃ x xs, rs = x :: xs := by
        cases rs with
        | nil => exact (hrne rfl).elim
        | cons x xs => exact ⟨x, xs, rfl⟩
      simp only [List.length_cons] at hrl
      refine con34 o3.arr (by omega) ?_
      try simp only [WP_skip, WP_exit, wps_go, wps_nil, wpd_go, wpd_nil, wpd_re, wps_tt, wps_tf, wps_ft, wps_ff, wpo_mv, wx_lenSlice, wx_indexAddr, wx_load, wx_loadN, wx_pick, wx_extract, wx_nilCheck, wx_fieldAddr, wx_isNil, wx_build, wx_from, wx_alloc, wx_box, wx_store, wpo_scal, wpo_call, put_some, put_none, at_t, at_c, bo_op, scalV, oprV, ofVal_int, ofVal_bool, upd_app, argF_zero, argF_succ, thenQ, exitQ, binV_int, intV, unV, isB, ptrV, offV, Option.some.injEq, exists_eq_left', exists_eq_left, Option.bind_some, Nat.reduceEqDiff, ↓reduceIte, List.map_cons, List.map_nil, reduceCtorEq, Bool.not_true, Bool.not_false, beq_self_eq_true, Nat.reduceAdd, Nat.zero_add, List.getElem?_cons_zero, List.getElem?_cons_succ, cells_agg, extV]
      refine con28 o3.arr (by simp; omega) ?_
      rw [show firstAt (maxFrom x xs) (x :: xs) 0 = (j : Int) from hfj]
      have hjl : j < l.length := by simp only [List.length_cons] at hj; omega
      have o2' := o2.keptN k3
      have a0 := o2'.arr.idx (k := .i64) (j := j) (by rw [ints_length]; exact hjl)
      have l0 := o2'.arr.ld (j := j) (x := .int .i64 l[j]) (by simp [ints, I, hjl])
      simp only [Option.some.injEq, exists_eq_left', I, a0, l0]
      have hq := hq h3 ((k1.trans k2).trans k3)
      rw [haw, hr] at hq
      simp only [hfj, Int.toNat_natCast] at hq
      have e5 : l.getD j 0 = l[j] := by simp [hjl]
      rw [e5] at hq
      exact ⟨[_, _, _], rfl, hq⟩
    · intro hr h3 k3
      simp only [Option.some.injEq, exists_eq_left', List.getElem?_cons_zero, List.getElem?_cons_succ, I]
      unfold c13n13
      refine wp_seq (wp_seq (wp_region ?_))
      simp only [wps_go, wps_nil, wpo_mv, wpo_scal, put_some, at_t, bo_op, scalV, oprV, upd_app, thenQ, unV, Option.some.injEq, exists_eq_left', Option.bind_some, ↓reduceIte, Bool.not_false, r13n10]
      refine wp_true rfl ?_
      refine wp_seq (wp_region ?_)
      simp only [wps_go, wps_nil, wpo_mv, put_some, at_c, thenQ, r13n11]
      have hq := hq h3 ((k1.trans k2).trans k3)
      rw [haw, hr] at hq
      exact ⟨[_, _, _], rfl, hq⟩
end Go.Ideal.T
