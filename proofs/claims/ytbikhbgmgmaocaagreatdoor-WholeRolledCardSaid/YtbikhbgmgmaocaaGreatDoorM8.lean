/- Are two rows the same? Conditions: two slices of whole numbers. -/
import Derived.Test.YtbikhbgmgmaocaaGreatDoorCodes
namespace Go.Ideal.T
open Go Go.Ideal Go.Proofs

theorem con8 {h : Heap} {v0 v1 : V} {xs ys : List Int} (h0 : Arr h v0 (ints xs)) (h1 : Arr h v1 (ints ys)) (hl : xs.length < 4294967296) {Q : V → Heap → Prop} (hq : Q (.bool (decide (xs = ys))) h) : Con M 8 [v0, v1] h Q := by
  refine con_call rfl code8 (by show 2 ≤ 26; omega) (by decide) ?_
  show WP M 26 f8.body (argF [v0, v1]) h (retQ [.tmp 4] Q)
  have s0 := h0.sl
  have s1 := h1.sl
  simp only [ints_length] at s0 s1
  refine wp_seq (wp_region ?_)
  simp only [wps_go, wps_nil, wpo_mv, put_some, at_c, thenQ, r8n0]
  unfold c8n13
  refine wp_seq (wp_seq (wp_region ?_))
  simp only [wps_go, wps_nil, wpo_mv, wx_lenSlice, wpo_scal, put_some, at_t, bo_op, scalV, oprV, upd_app, argF_zero, argF_succ, thenQ, binV_int, intV, Option.some.injEq, exists_eq_left', Nat.reduceEqDiff, ↓reduceIte, reduceCtorEq, r8n1, s0, s1]
  refine wp_if (q := (xs.length : Int) != (ys.length : Int)) rfl (fun hc => ?_) (fun hc => ?_)
  · have hne : xs ≠ ys := by intro e; subst e; simp at hc
    refine wp_seq (wp_region ?_)
    simp only [wps_go, wps_nil, wpo_mv, put_some, at_c, thenQ, r8n2]
    refine ⟨[.bool false], rfl, ?_⟩
    rw [decide_eq_false hne] at hq
    exact hq
  · have hlen : xs.length = ys.length := by
      have : (xs.length : Int) = ys.length := by simpa using hc
      omega
    show WP M 26 c8n12 _ _ _
    unfold c8n12
    refine wp_seq (wp_seq (wp_region ?_))
    simp only [wps_go, wps_nil, wpo_mv, wx_lenSlice, put_some, at_t, at_c, upd_app, argF_zero, thenQ, Option.some.injEq, exists_eq_left', ↓reduceIte, reduceCtorEq, r8n3, s0]
    refine wp_block ?_
    refine wp_loop (fun k F h' => h' = h ∧ ∃ i, k = xs.length - i ∧ i ≤ xs.length ∧ F 0 = v0 ∧ F 1 = v1 ∧ F 12 = .int .i64 (xs.length : Int) ∧ F 13 = .int .i64 (i : Int) ∧ xs.take i = ys.take i) (by decide) ?_ xs.length ⟨rfl, 0, by omega, by omega, rfl, rfl, rfl, rfl, rfl⟩
    rintro k F _ ⟨rfl, i, rfl, hi, F0, F1, F12, F13, ht⟩
    refine wp_seq (wp_region ?_)
    simp only [wps_go, wps_nil, wpo_scal, put_some, bo_op, scalV, oprV, thenQ, binV_int, intV, Option.some.injEq, exists_eq_left', r8n4, F12, F13]
    unfold c8n10
    refine wp_seq (wp_cond (p := (i : Int) < xs.length) rfl (fun hc => ?_) (fun hc => ?_))
    · have hi : i < xs.length := by omega
      have hi' : i < ys.length := by omega
      refine wp_seq (wp_block (wp_seq (wp_region ?_)))
      simp only [wps_go, wps_nil, wpo_mv, put_some, at_t, upd_app, thenQ, Nat.reduceEqDiff, ↓reduceIte, r8n5, F13]
      unfold c8n8
      refine wp_seq ?_
      refine wp_draw0 ?_
      have a0 := h0.idx (k := .i64) (j := i) (by rw [ints_length]; exact hi)
      have a1 := h1.idx (k := .i64) (j := i) (by rw [ints_length]; exact hi')
      have l0 := h0.ld (ints_get xs i hi)
      have l1 := h1.ld (ints_get ys i hi')
      simp only [I] at l0 l1
      simp only [wpd_go, wpd_nil, wpo_mv, wx_indexAddr, wx_load, wpo_scal, put_some, at_t, bo_op, scalV, oprV, upd_app, thenQ, binV_int, intV, Option.some.injEq, exists_eq_left', Nat.reduceEqDiff, ↓reduceIte, reduceCtorEq, r8n6, F0, F1, a0, a1, l0, l1]
      refine wp_if (q := xs[i] != ys[i]) rfl (fun hc => ?_) (fun hc => ?_)
      · have hne : xs ≠ ys := by intro e; subst e; simp at hc
        refine wp_seq (wp_region ?_)
        simp only [wps_go, wps_nil, wpo_mv, put_some, at_c, thenQ, r8n7]
        refine ⟨[.bool false], rfl, ?_⟩
        rw [decide_eq_false hne] at hq
        exact hq
      · have he : xs[i] = ys[i] := by simpa using hc
        show WP M 26 (.region r8n9) _ _ _
        refine wp_region ?_
        have hw : IntKind.i64.wrap ((i : Int) + 1) = ((i + 1 : Nat) : Int) := by rw [wrap_in (by omega) (by omega)]; rfl
        simp only [wps_go, wps_nil, wpo_mv, wpo_scal, put_some, at_t, bo_op, scalV, oprV, ofVal_int, upd_app, thenQ, binV_int, intV, Option.some.injEq, exists_eq_left', Nat.reduceEqDiff, ↓reduceIte, reduceCtorEq, r8n9, F13, hw]
        refine ⟨xs.length - (i + 1), by omega, by trivial, i + 1, rfl, by omega, F0, F1, F12, rfl, ?_⟩
        rw [List.take_succ_eq_append_getElem hi, List.take_succ_eq_append_getElem hi', ht, he]
    · have hi : i = xs.length := by omega
      subst hi
      show WP M 26 (.seq (.region r8n11) .ret) _ _ _
      refine wp_seq (wp_region ?_)
      simp only [wps_go, wps_nil, wpo_mv, put_some, at_c, thenQ, r8n11]
      refine ⟨[.bool true], rfl, ?_⟩
      have he : xs = ys := by
        rw [List.take_length, hlen, List.take_length] at ht
        exact ht
      rw [decide_eq_true he] at hq
      exact hq
end Go.Ideal.T
