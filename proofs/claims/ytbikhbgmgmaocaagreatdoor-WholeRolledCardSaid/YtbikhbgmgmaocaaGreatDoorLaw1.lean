/- Contracts: numbers that may be, copies, places, draws. Conditions: as each says. -/
import Derived.Test.YtbikhbgmgmaocaaGreatDoorCodes
import Derived.Test.YtbikhbgmgmaocaaGreatDoorIfD
namespace Go.Ideal.T
open Go Go.Ideal Go.Proofs

theorem con27 {h : Heap} {n : Int} (h0 : 0 ≤ n) (h1 : n ≤ 3) {Q : V → Heap → Prop} (hq : Q (.bool true) h) : Con M 27 [I n] h Q := by
  refine con_call rfl code27 (by show 1 ≤ 9; omega) (by decide) ?_
  show WP M 9 f27.body (argF [I n]) h (retQ [.tmp 2] Q)
  refine wp_seq (wp_region ?_)
  simp only [wps_go, wps_nil, wpo_mv, put_some, at_c, thenQ, r27n0]
  refine wp_seq (wp_region ?_)
  have e0 : decide (n ≥ 0) = true := decide_eq_true h0
  have e1 : decide (n ≤ 3) = true := decide_eq_true h1
  simp only [wps_go, wps_nil, wps_tt, wpo_mv, wx_pick, wpo_scal, put_some, at_t, at_c, bo_op, scalV, oprV, ofVal_int, upd_app, argF_zero, thenQ, binV_int, intV, isB, Option.some.injEq, exists_eq_left', Nat.reduceEqDiff, ↓reduceIte, reduceCtorEq, r27n1, I, e0, e1]
  exact ⟨[.bool true], rfl, hq⟩

theorem con31 {h : Heap} {n : Int} (h0 : 0 ≤ n) (h1 : n < 4294967296) {Q : V → Heap → Prop} (hq : Q (.bool true) h) : Con M 31 [I n] h Q := by
  refine con_call rfl code31 (by show 1 ≤ 9; omega) (by decide) ?_
  show WP M 9 f31.body (argF [I n]) h (retQ [.tmp 2] Q)
  refine wp_seq (wp_region ?_)
  simp only [wps_go, wps_nil, wpo_mv, put_some, at_c, thenQ, r31n0]
  refine wp_seq (wp_region ?_)
  have e0 : decide (n ≥ 0) = true := decide_eq_true h0
  have e1 : decide (n < 4294967296) = true := decide_eq_true h1
  simp only [wps_go, wps_nil, wps_tt, wpo_mv, wx_pick, wpo_scal, put_some, at_t, at_c, bo_op, scalV, oprV, ofVal_int, upd_app, argF_zero, thenQ, binV_int, intV, isB, Option.some.injEq, exists_eq_left', Nat.reduceEqDiff, ↓reduceIte, reduceCtorEq, r31n1, I, e0, e1]
  exact ⟨[.bool true], rfl, hq⟩

theorem con10 {h : Heap} {Q : V → Heap → Prop} (hq : Q (.ptr h.length 0) (h ++ [some (.cells true [.nilSlice])])) : Con M 10 [] h Q := by
  refine con_call rfl code10 (by show 0 ≤ 3; omega) (by decide) ?_
  show WP M 3 f10.body (argF []) h (retQ [.tmp 0] Q)
  refine wp_seq (wp_region ?_)
  simp only [wps_go, wps_nil, wpo_mv, put_some, at_c, thenQ, r10n0]
  refine wp_seq (wp_region ?_)
  simp only [wps_go, wps_nil, wpo_mv, wx_build, wx_box, put_some, at_t, upd_app, thenQ, Option.some.injEq, exists_eq_left', ↓reduceIte, r10n1, fillF, V.cells, allOne, List.all_cons, List.all_nil, V.one, Bool.and_true]
  exact ⟨trivial, [_], rfl, hq⟩

theorem con14 {h : Heap} {s : Nat} {wv : V} {ws : List Int} (hs : h[s]? = some (some (.cells true [wv]))) (hw : Arr h wv (ints ws)) {Q : V → Heap → Prop} (hq : Q (I ws.length) h) : Con M 14 [.ptr s 0] h Q := by
  refine con_call rfl code14 (by show 1 ≤ 8; omega) (by decide) ?_
  show WP M 8 f14.body (argF [.ptr s 0]) h (retQ [.tmp 2] Q)
  have e0 : ld h (.ptr s (0 + 0)) = some wv := by simp only [ld, hs]; rfl
  have e1 := hw.sl
  rw [ints_length] at e1
  refine wp_seq (wp_region ?_)
  simp only [wps_go, wps_nil, wpo_mv, put_some, at_c, thenQ, r14n0]
  refine wp_seq (wp_region ?_)
  simp only [wps_go, wps_nil, wpo_mv, wx_lenSlice, wx_load, wx_nilCheck, wx_fieldAddr, put_some, at_t, upd_app, argF_zero, thenQ, ptrV, offV, Option.some.injEq, exists_eq_left', ↓reduceIte, reduceCtorEq, Nat.zero_add, r14n1, e0, e1]
  exact ⟨[_], rfl, hq⟩

theorem con25 {h : Heap} {v : V} {xs : List V} (hv : Arr h v xs) (hl : xs.length < 2147483648) {Q : V → Heap → Prop} (hq : ∀ v' h', Own h.length h' v' xs → Kept h h' none → Q v' h') : Con M 25 [v] h Q := by
  refine con_call rfl code25 (by show 1 ≤ 8; omega) (by decide) ?_
  show WP M 8 f25.body (argF [v]) h (retQ [.tmp 2] Q)
  refine wp_seq (wp_region ?_)
  simp only [wps_go, wps_nil, wpo_mv, put_some, at_c, thenQ, r25n0]
  unfold c25n4
  refine wp_seq (wp_seq (wp_region ?_))
  have hv' := hv
  rcases hv' with ⟨rfl, rfl⟩ | ⟨b, o, c, m, w, cs, rfl, hb, _⟩
  · simp only [wps_go, wps_nil, wpo_mv, wx_isNil, put_some, at_t, upd_app, argF_zero, thenQ, Option.some.injEq, exists_eq_left', ↓reduceIte, reduceCtorEq, r25n1, nilV]
    refine wp_true rfl (wp_seq (wp_region ?_))
    simp only [wps_go, wps_nil, wpo_mv, put_some, at_c, thenQ, r25n2]
    exact ⟨[_], rfl, hq _ _ (Own.nil _ _) (Kept.refl _ _)⟩
  · simp only [wps_go, wps_nil, wpo_mv, wx_isNil, put_some, at_t, upd_app, argF_zero, thenQ, Option.some.injEq, exists_eq_left', ↓reduceIte, reduceCtorEq, r25n1, nilV]
    refine wp_false rfl ?_
    show WP M 8 (.seq (.region r25n3) .ret) _ _ _
    refine wp_seq (wp_region ?_)
    simp only [wps_go, wps_nil, wpo_mv, put_some, at_t, upd_app, argF_zero, thenQ, Option.some.injEq, exists_eq_left', ↓reduceIte, reduceCtorEq, r25n3, wx_buildSlice, fillF, allOne, List.all_nil, true_and]
    refine wpo_append (base := h.length) (xs := []) (ys := xs) (.inr ⟨h.length, false, by omega, rfl, by simp⟩) (hv.grow _) (by simp) (by simpa using hl) ?_
    intro v' h' ho hk _
    simp only [List.nil_append] at ho
    try simp only [WP_skip, WP_exit, wps_go, wps_nil, wpd_go, wpd_nil, wpd_re, wps_tt, wps_tf, wps_ft, wps_ff, wpo_mv, wx_lenSlice, wx_indexAddr, wx_load, wx_loadN, wx_pick, wx_extract, wx_nilCheck, wx_fieldAddr, wx_isNil, wx_build, wx_from, wx_alloc, wx_box, wx_store, wpo_scal, wpo_call, put_some, put_none, at_t, at_c, bo_op, scalV, oprV, ofVal_int, ofVal_bool, upd_app, argF_zero, argF_succ, thenQ, exitQ, binV_int, intV, unV, isB, ptrV, offV, Option.some.injEq, exists_eq_left', exists_eq_left, Option.bind_some, Nat.reduceEqDiff, ↓reduceIte, List.map_cons, List.map_nil, reduceCtorEq, Bool.not_true, Bool.not_false, beq_self_eq_true, Nat.reduceAdd, Nat.zero_add, List.getElem?_cons_zero, List.getElem?_cons_succ, cells_agg, extV]
    refine ⟨[_], rfl, hq _ _ ho ?_⟩
    refine ⟨by have := hk.1; simp at this; omega, fun j hj _ => ?_⟩
    have := hk.2 j (by simp; omega) (by show some h.length ≠ some j; simp; omega)
    rw [this, List.getElem?_append_left hj]

/-- The first place of a number. -/
def firstAt (x : Int) : List Int → Nat → Int
  | [], _ => -1
  | y :: ys, i => if x = y then (i : Int) else firstAt x ys (i + 1)

theorem con28 {h : Heap} {v : V} {xs : List Int} {x : Int} (hv : Arr h v (ints xs)) (hl : xs.length < 4294967296) {Q : V → Heap → Prop} (hq : Q (I (firstAt x xs 0)) h) : Con M 28 [v, I x] h Q := by
  refine con_call rfl code28 (by show 2 ≤ 19; omega) (by decide) ?_
  show WP M 19 f28.body (argF [v, I x]) h (retQ [.tmp 4] Q)
  have s0 := hv.sl
  simp only [ints_length] at s0
  refine wp_seq (wp_region ?_)
  simp only [wps_go, wps_nil, wpo_mv, put_some, at_c, thenQ, r28n0]
  unfold c28n11
  refine wp_seq (wp_seq (wp_region ?_))
  simp only [wps_go, wps_nil, wpo_mv, wx_lenSlice, put_some, at_t, at_c, upd_app, argF_zero, thenQ, Option.some.injEq, exists_eq_left', ↓reduceIte, reduceCtorEq, r28n1, s0]
  refine wp_block ?_
  refine wp_loop (fun k F h' => h' = h ∧ ∃ i, k = xs.length - i ∧ i ≤ xs.length ∧ F 0 = v ∧ F 1 = I x ∧ F 7 = .int .i64 (xs.length : Int) ∧ F 8 = .int .i64 (i : Int) ∧ firstAt x xs 0 = firstAt x (xs.drop i) i) (by decide) ?_ xs.length ⟨rfl, 0, by omega, by omega, rfl, rfl, rfl, rfl, rfl⟩
  rintro k F _ ⟨rfl, i, rfl, hi, F0, F1, F7, F8, hf⟩
  unfold c28n9
  refine wp_seq (wp_region ?_)
  simp only [wps_go, wps_nil, wpo_scal, put_some, bo_op, scalV, oprV, thenQ, binV_int, intV, Option.some.injEq, exists_eq_left', r28n2, F7, F8]
  refine wp_seq (wp_cond (p := (i : Int) < xs.length) rfl (fun hc => ?_) (fun hc => ?_))
  · have hi : i < xs.length := by omega
    have hd : xs.drop i = xs[i] :: xs.drop (i + 1) := List.drop_eq_getElem_cons hi
    unfold c28n8
    refine wp_seq (wp_block (wp_seq (wp_region ?_)))
    simp only [wps_go, wps_nil, wpo_mv, put_some, at_t, upd_app, thenQ, Nat.reduceEqDiff, ↓reduceIte, r28n3, F8]
    unfold c28n6
    have a0 := hv.idx (k := .i64) (j := i) (by rw [ints_length]; exact hi)
    have l0 := hv.ld (ints_get xs i hi)
    simp only [I] at l0
    refine wp_seq (wp_region ?_)
    simp only [wps_go, wps_nil, wpo_mv, wx_indexAddr, wx_load, wpo_scal, put_some, at_t, bo_op, scalV, oprV, upd_app, thenQ, binV_int, intV, Option.some.injEq, exists_eq_left', Nat.reduceEqDiff, ↓reduceIte, reduceCtorEq, r28n4, F0, F1, a0, l0, I]
    refine wp_if (q := x == xs[i]) rfl (fun hc => ?_) (fun hc => ?_)
    · have he : x = xs[i] := by simpa using hc
      refine wp_seq (wp_region ?_)
      simp only [wps_go, wps_nil, wpo_mv, put_some, at_t, upd_app, thenQ, Nat.reduceEqDiff, ↓reduceIte, r28n5]
      refine ⟨[_], rfl, ?_⟩
      rw [hf, hd, firstAt, if_pos he] at hq
      exact hq
    · have he : x ≠ xs[i] := by simpa using hc
      show WP M 19 (.region r28n7) _ _ _
      refine wp_region ?_
      have hw : IntKind.i64.wrap ((i : Int) + 1) = ((i + 1 : Nat) : Int) := by rw [wrap_in (by omega) (by omega)]; rfl
      simp only [wps_go, wps_nil, wpo_mv, wpo_scal, put_some, at_t, bo_op, scalV, oprV, ofVal_int, upd_app, thenQ, binV_int, intV, Option.some.injEq, exists_eq_left', Nat.reduceEqDiff, ↓reduceIte, reduceCtorEq, r28n7, F8, hw]
      refine ⟨xs.length - (i + 1), by omega, by trivial, i + 1, rfl, by omega, F0, F1, F7, rfl, ?_⟩
      rw [hf, hd, firstAt, if_neg he]
  · have hi : i = xs.length := by omega
    subst hi
    show WP M 19 (.seq (.region r28n10) .ret) _ _ _
    refine wp_seq (wp_region ?_)
    simp only [wps_go, wps_nil, wpo_mv, put_some, at_c, thenQ, r28n10]
    refine ⟨[_], rfl, ?_⟩
    rw [hf, List.drop_length, firstAt] at hq
    exact hq

/-! ### A fair draw, of a hundred -/
def fair : List Int → Option (Int × Nat)
  | [] => none
  | x :: xs => if x < 4294967200 then some (x % 100, 1) else (fair xs).map fun p => (p.1, p.2 + 1)
def fairV : Option (Int × Nat) → V
  | some p => .tup [I p.1, I p.2, .bool true]
  | none => .tup [I 0, I 0, .bool false]
def word (n : Int) : Prop := 0 ≤ n ∧ n < 4294967296

theorem con32 {h : Heap} {v : V} {ws : List Int} (hv : Arr h v (ints ws)) (hw : ∀ w ∈ ws, word w) (hl : ws.length < 4294967296) {Q : V → Heap → Prop} (hq : Q (fairV (fair ws)) h) : Con M 32 [v, I 100] h Q := by
  refine con_call rfl code32 (by show 2 ≤ 40; omega) (by decide) ?_
  show WP M 40 f32.body (argF [v, I 100]) h (retQ [.tmp 4, .tmp 5, .tmp 6] Q)
  have s0 := hv.sl
  simp only [ints_length] at s0
  refine wp_seq (wp_region ?_)
  simp only [wps_go, wps_nil, wpo_mv, put_some, at_c, thenQ, r32n0]
  unfold c32n17
  refine wp_seq (wp_seq (wp_region ?_))
  have e0 : decide ((100 : Int) < 1) = false := rfl
  have e1 : decide ((100 : Int) > 4294967296) = false := rfl
  simp only [wps_go, wps_nil, wps_ff, wpo_mv, wx_pick, wpo_scal, put_some, at_t, at_c, bo_op, scalV, oprV, ofVal_int, upd_app, argF_zero, argF_succ, thenQ, binV_int, intV, isB, Option.some.injEq, exists_eq_left', Nat.reduceEqDiff, ↓reduceIte, r32n1, I, e0, e1, Bool.false_eq_true]
  refine wp_false rfl ?_
  show WP M 40 (.seq (.region r32n3) (.seq .skip c32n16)) _ _ _
  refine wp_seq (wp_region ?_)
  have e2 : ((100 : Int) = 0) = False := by simp
  have e3 : Int.tmod 4294967296 100 = 96 := rfl
  have e4 : IntKind.i64.wrap (4294967296 - 96) = 4294967200 := rfl
  simp only [wps_go, wps_nil, wpo_mv, wpo_scal, put_some, at_t, bo_op, scalV, oprV, ofVal_int, upd_app, argF_zero, argF_succ, thenQ, binV_int, intV, Option.some.injEq, exists_eq_left', Nat.reduceEqDiff, ↓reduceIte, r32n3, e2, e3, e4]
  show WP M 40 c32n16 _ _ _
  unfold c32n16
  refine wp_seq (wp_seq (wp_region ?_))
  simp only [wps_go, wps_nil, wpo_mv, wx_lenSlice, put_some, at_t, at_c, upd_app, argF_zero, thenQ, Option.some.injEq, exists_eq_left', ↓reduceIte, reduceCtorEq, r32n4, s0]
  refine wp_block ?_
  refine wp_loop (fun k F h' => h' = h ∧ ∃ i, k = ws.length - i ∧ i ≤ ws.length ∧ F 0 = v ∧ F 1 = I 100 ∧ F 7 = I 4294967200 ∧ F 19 = v ∧ F 20 = .int .i64 (ws.length : Int) ∧ F 21 = .int .i64 (i : Int) ∧ fair ws = (fair (ws.drop i)).map fun p => (p.1, p.2 + i)) (by decide) ?_ ws.length
    ⟨rfl, 0, by omega, by omega, rfl, rfl, rfl, rfl, rfl, rfl, by simp⟩
  rintro k F _ ⟨rfl, i, rfl, hi, F0, F1, F7, F19, F20, F21, hf⟩
  unfold c32n14
  refine wp_seq (wp_region ?_)
  simp only [wps_go, wps_nil, wpo_scal, put_some, bo_op, scalV, oprV, thenQ, binV_int, intV, Option.some.injEq, exists_eq_left', r32n5, F20, F21]
  refine wp_seq (wp_cond (p := (i : Int) < ws.length) rfl (fun hc => ?_) (fun hc => ?_))
  · have hi : i < ws.length := by omega
    have hd : ws.drop i = ws[i] :: ws.drop (i + 1) := List.drop_eq_getElem_cons hi
    unfold c32n13
    have a0 := hv.idx (k := .i64) (j := i) (by rw [ints_length]; exact hi)
    have l0 := hv.ld (ints_get ws i hi)
    refine wp_seq (wp_block (wp_seq (wp_region ?_)))
    simp only [wps_go, wps_nil, wpo_mv, wx_indexAddr, wx_load, put_some, at_t, upd_app, thenQ, Option.some.injEq, exists_eq_left', Nat.reduceEqDiff, ↓reduceIte, r32n6, F19, F21, a0, l0]
    unfold c32n11
    obtain ⟨w0, w1⟩ := hw ws[i] (List.getElem_mem hi)
    refine wp_seq (wp_block (wp_seq (wp_region ?_)))
    simp only [wps_go, wps_nil, wpo_mv, wpo_scal, wpo_call, put_some, at_t, bo_op, scalV, oprV, upd_app, thenQ, unV, Option.bind_some, ↓reduceIte, List.map_cons, List.map_nil, r32n7]
    refine con31 w0 w1 ?_
    try simp only [Option.some.injEq, exists_eq_left', Bool.not_true]
    unfold c32n9
    refine wp_false rfl ?_
    refine wp_seq (wp_region ?_)
    simp only [wps_go, wps_nil, wpo_mv, wpo_scal, put_some, at_t, bo_op, scalV, oprV, upd_app, thenQ, binV_int, intV, Option.some.injEq, exists_eq_left', Nat.reduceEqDiff, ↓reduceIte, r32n8, F7, I]
    refine wp_cond (p := ws[i] ≥ 4294967200) rfl (fun hc => ?_) (fun hc => ?_)
    · simp only [WP_exit, thenQ, exitQ, Nat.reduceEqDiff, ↓reduceIte]
      have hw' : IntKind.i64.wrap ((i : Int) + 1) = ((i + 1 : Nat) : Int) := by rw [wrap_in (by omega) (by omega)]; rfl
      refine wp_region ?_
      simp only [wps_go, wps_nil, wpo_mv, wpo_scal, put_some, at_t, bo_op, scalV, oprV, ofVal_int, upd_app, thenQ, binV_int, intV, Option.some.injEq, exists_eq_left', Nat.reduceEqDiff, ↓reduceIte, reduceCtorEq, r32n12, F21, hw']
      refine ⟨ws.length - (i + 1), by omega, by trivial, i + 1, rfl, by omega, F0, F1, F7, F19, F20, rfl, ?_⟩
      rw [hf, hd, fair, if_neg (by omega), Option.map_map]
      congr 1
      funext p
      simp; omega
    · simp only [WP_skip, thenQ, exitQ]
      have hw' : IntKind.i64.wrap ((i : Int) + 1) = ((i + 1 : Nat) : Int) := by rw [wrap_in (by omega) (by omega)]; rfl
      have hm : Int.tmod ws[i] 100 = ws[i] % 100 := Int.tmod_eq_emod_of_nonneg w0
      refine wp_seq (wp_region ?_)
      simp only [wps_go, wps_nil, wpo_mv, wpo_scal, put_some, at_t, at_c, bo_op, scalV, oprV, ofVal_int, upd_app, thenQ, binV_int, intV, Option.some.injEq, exists_eq_left', Nat.reduceEqDiff, ↓reduceIte, r32n10, F1, I, e2, hw', hm]
      refine ⟨[_, _, _], rfl, ?_⟩
      rw [hf, hd, fair, if_pos (by omega)] at hq
      have e5 : ((1 + i : Nat) : Int) = ((i + 1 : Nat) : Int) := by omega
      simp only [Option.map_some, fairV, I, e5] at hq
      exact hq
  · have hi : i = ws.length := by omega
    subst hi
    simp only [WP_exit, thenQ, exitQ, ↓reduceIte]
    refine wp_seq (wp_region ?_)
    simp only [wps_go, wps_nil, wpo_mv, put_some, at_c, thenQ, r32n15]
    refine ⟨[_, _, _], rfl, ?_⟩
    rw [hf, List.drop_length, fair] at hq
    exact hq
end Go.Ideal.T
