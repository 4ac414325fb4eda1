/- Contract: so many rolls. Conditions: at most forty. -/
import Derived.Test.YtbikhbgmgmaocaaGreatDoorLaw2
namespace Go.Ideal.T
open Go Go.Ideal Go.Proofs

/-- So many rolls, one behind another: what they are, and how many words they took. -/
def rolls (ws : List Int) : Nat → Option (List Int × Nat)
  | 0 => some ([], 0)
  | n + 1 => match rolls ws n with
    | some p => match fair (ws.drop p.2) with
      | some q => some (p.1 ++ [q.1 + 1], p.2 + q.2)
      | none => none
    | none => none
theorem rolls_none {ws : List Int} {n : Nat} (h : rolls ws n = none) : ∀ m, n ≤ m → rolls ws m = none := by
  intro m hm
  induction hm with
  | refl => exact h
  | step _ ih => simp only [rolls, ih]
theorem rolls_len {ws : List Int} : ∀ {n : Nat} {p : List Int × Nat}, rolls ws n = some p → p.1.length = n ∧ p.2 ≤ ws.length
  | 0, p, h => by simp only [rolls, Option.some.injEq] at h; subst h; simp
  | n + 1, p, h => by
    simp only [rolls] at h
    split at h
    · rename_i q hq
      split at h
      · rename_i r hr
        injection h with h; subst h
        obtain ⟨h1, h2⟩ := rolls_len hq
        have := fair_le hr
        simp at this ⊢; omega
      · cases h
    · cases h

theorem con33 {h : Heap} {v : V} {ws : List Int} {n : Nat} (hv : Arr h v (ints ws)) (hw : ∀ w ∈ ws, word w) (hl : ws.length < 4294967296) (hn : n ≤ 40) {Q : V → Heap → Prop}
    (hq : ∀ l u, rolls ws n = some (l, u) → ∀ v' h', Own h.length h' v' (ints l) → Kept h h' none → Q (.tup [v', I u, .bool true]) h')
    (hx : rolls ws n = none → ∀ h', Kept h h' none → Q (.tup [.nilSlice, I 0, .bool false]) h') : Con M 33 [v, I n] h Q := by
  refine con_call rfl code33 (by show 2 ≤ 46; omega) (by decide) ?_
  show WP M 46 f33.body (argF [v, I n]) h (retQ [.tmp 4, .tmp 5, .tmp 6] Q)
  refine wp_seq (wp_region ?_)
  simp only [wps_go, wps_nil, wpo_mv, put_some, at_c, thenQ, r33n0]
  unfold c33n18
  refine wp_seq (wp_seq (wp_region ?_))
  have e0 : decide ((n : Int) < 0) = false := decide_eq_false (by omega)
  have e1 : decide ((n : Int) > 40) = false := decide_eq_false (by omega)
  simp only [wps_go, wps_nil, wps_ff, wpo_mv, wx_pick, wpo_scal, put_some, at_t, at_c, bo_op, scalV, oprV, ofVal_int, upd_app, argF_zero, argF_succ, thenQ, binV_int, intV, isB, Option.some.injEq, exists_eq_left', Nat.reduceEqDiff, ↓reduceIte, r33n1, I, e0, e1, Bool.false_eq_true]
  refine wp_false rfl ?_
  try simp only [WP_skip, thenQ]
  refine wp_seq (wp_region ?_)
  have hmk : ∀ (F : FE) (Q : V → Heap → Prop), F 19 = .int .i64 (n : Int) → wpo M 0 none (.makeSlice 1 [.int .i64 0] (.t 19)) F h Q = Q (.slice h.length 0 1 n n false) (h ++ [some (.cells true (List.replicate n (.int .i64 0)))]) := by
    intro F Q hF
    rw [wpo_makeSlice (n := n) (l := .t 19) hF (by omega), flat_one]
  simp only [wps_go, wps_nil, wpo_mv, put_some, at_t, upd_app, argF_zero, argF_succ, thenQ, Nat.reduceEqDiff, ↓reduceIte, r33n3]
  rw [hmk _ _ rfl]
  try simp only [WP_skip, WP_exit, wps_go, wps_nil, wpd_go, wpd_nil, wpd_re, wps_tt, wps_tf, wps_ft, wps_ff, wpo_mv, wx_lenSlice, wx_indexAddr, wx_load, wx_loadN, wx_pick, wx_extract, wx_nilCheck, wx_fieldAddr, wx_isNil, wx_build, wx_from, wx_alloc, wx_box, wx_store, wpo_scal, wpo_call, put_some, put_none, at_t, at_c, bo_op, scalV, oprV, ofVal_int, ofVal_bool, upd_app, argF_zero, argF_succ, thenQ, exitQ, binV_int, intV, unV, isB, ptrV, offV, Option.some.injEq, exists_eq_left', exists_eq_left, Option.bind_some, Nat.reduceEqDiff, ↓reduceIte, List.map_cons, List.map_nil, reduceCtorEq, Bool.not_true, Bool.not_false, beq_self_eq_true, Nat.reduceAdd, Nat.zero_add, List.getElem?_cons_zero, List.getElem?_cons_succ, cells_agg, extV]
  refine wp_seq (wp_region ?_)
  simp only [wps_go, wps_nil, wpo_mv, put_some, at_c, thenQ, r33n4]
  unfold c33n17
  refine wp_seq (wp_seq (wp_region ?_))
  simp only [wps_go, wps_nil, wpo_mv, put_some, at_t, at_c, upd_app, argF_zero, argF_succ, thenQ, Nat.reduceEqDiff, ↓reduceIte, r33n5]
  refine wp_block ?_
  refine wp_loop (fun k F h' => Kept h h' none ∧ ∃ i l u, k = n - i ∧ i ≤ n ∧ rolls ws i = some (l, u) ∧ F 0 = v ∧ F 1 = I n ∧ Own h.length h' (F 7) (ints (l ++ List.replicate (n - i) 0)) ∧ F 8 = I u ∧ F 21 = I n ∧ F 22 = I i) (by decide) ?_ n
    ⟨Kept.grow _ _ _, 0, [], 0, by omega, by omega, rfl, rfl, rfl, (.inr ⟨h.length, false, Nat.le_refl _, (by show V.slice h.length 0 1 n n false = _; simp [ints]), by simp [ints, I]⟩), rfl, rfl, rfl⟩
  rintro k F h' ⟨hk, i, l, u, rfl, hi, hr, F0, F1, ho, F8, F21, F22⟩
  obtain ⟨hll, hul⟩ := rolls_len hr
  simp only at hll hul
  simp only [I] at F1 F8 F21 F22
  unfold c33n15
  refine wp_seq (wp_region ?_)
  simp only [wps_go, wps_nil, wpo_scal, put_some, bo_op, scalV, oprV, thenQ, binV_int, intV, Option.some.injEq, exists_eq_left', r33n6, F21, F22]
  refine wp_seq (wp_cond (p := (i : Int) < n) rfl (fun hc => ?_) (fun hc => ?_))
  · have hi : i < n := by omega
    simp only [WP_skip, thenQ]
    unfold c33n14
    refine wp_seq (wp_block (wp_seq (wp_region ?_)))
    simp only [wps_go, wps_nil, wpo_mv, put_some, at_t, upd_app, thenQ, Nat.reduceEqDiff, ↓reduceIte, r33n7, F22]
    have hv' := hk.arrN hv
    obtain ⟨wv, q1, q2, q3, _, _⟩ := hv'.from (k := .i64) (l := u) (by rw [ints_length]; exact hul)
    have hdrop : (ints ws).drop u = ints (ws.drop u) := by simp [ints, List.map_drop]
    rw [hdrop] at q2
    refine wp_seq (wp_region ?_)
    simp only [wps_go, wps_nil, wpo_mv, wx_extract, wx_from, wpo_call, put_some, at_t, at_c, upd_app, thenQ, Option.some.injEq, exists_eq_left', Nat.reduceEqDiff, ↓reduceIte, List.map_cons, List.map_nil, reduceCtorEq, extV, r33n8, F0, F8, q1]
    refine con32 q2 (fun w hx => hw w (List.mem_of_mem_drop hx)) (by simp; omega) ?_
    cases hf : fair (ws.drop u) with
    | none =>
      simp only [Option.some.injEq, exists_eq_left', List.getElem?_cons_zero, List.getElem?_cons_succ, fairV, List.getElem?_cons_zero, List.getElem?_cons_succ, I]
      unfold c33n12
      refine wp_seq (wp_seq (wp_region ?_))
      simp only [wps_go, wps_nil, wpo_mv, wpo_scal, put_some, at_t, bo_op, scalV, oprV, upd_app, thenQ, unV, Option.some.injEq, exists_eq_left', Option.bind_some, ↓reduceIte, Bool.not_false, r33n9]
      refine wp_true rfl ?_
      refine wp_seq (wp_region ?_)
      simp only [wps_go, wps_nil, wpo_mv, put_some, at_c, thenQ, r33n10]
      refine ⟨[_, _, _], rfl, hx ?_ _ hk⟩
      refine rolls_none (n := i + 1) ?_ n (by omega)
      simp only [rolls, hr, hf]
    | some p =>
      obtain ⟨d, c⟩ := p
      have hd := fair_pos (fun w hx => hw w (List.mem_of_mem_drop hx)) hf
      have hcl := fair_le hf
      simp only [List.length_drop] at hcl hd
      simp only [Option.some.injEq, exists_eq_left', List.getElem?_cons_zero, List.getElem?_cons_succ, fairV, List.getElem?_cons_zero, List.getElem?_cons_succ, I]
      unfold c33n12
      refine wp_seq (wp_seq (wp_region ?_))
      simp only [wps_go, wps_nil, wpo_mv, wpo_scal, put_some, at_t, bo_op, scalV, oprV, upd_app, thenQ, unV, Option.some.injEq, exists_eq_left', Option.bind_some, ↓reduceIte, Bool.not_true, r33n9]
      refine wp_false rfl ?_
      simp only [WP_skip, thenQ]
      refine wp_region ?_
      have hw1 : IntKind.i64.wrap (d + 1) = d + 1 := wrap_in (by omega) (by omega)
      have hw2 : IntKind.i64.wrap ((u : Int) + (c : Int)) = ((u + c : Nat) : Int) := by rw [wrap_in (by omega) (by omega)]; rfl
      have hlen : (ints (l ++ List.replicate (n - i) 0)).length = n := by simp [ints]; omega
      have ix := ho.arr.idx (k := .i64) (j := i) (by omega)
      obtain ⟨h2, s1, s2, s3⟩ := ho.st (j := i) (x := .int .i64 (d + 1)) (by omega) rfl rfl
      simp only [wps_go, wps_nil, wpo_mv, wx_indexAddr, wx_store, wpo_scal, put_some, put_none, at_t, bo_op, scalV, oprV, ofVal_int, upd_app, thenQ, exitQ, binV_int, intV, Option.some.injEq, exists_eq_left', Nat.reduceEqDiff, ↓reduceIte, r33n11, F8, hw1, hw2, ix, s1]
      refine wp_region ?_
      have hw3 : IntKind.i64.wrap ((i : Int) + 1) = ((i + 1 : Nat) : Int) := by rw [wrap_in (by omega) (by omega)]; rfl
      simp only [wps_go, wps_nil, wpo_mv, wpo_scal, put_some, at_t, bo_op, scalV, oprV, ofVal_int, upd_app, thenQ, binV_int, intV, Option.some.injEq, exists_eq_left', Nat.reduceEqDiff, ↓reduceIte, reduceCtorEq, r33n13, F22, hw3]
      refine ⟨n - (i + 1), by omega, ⟨?_, ?_⟩, i + 1, l ++ [d + 1], u + c, rfl, by omega, ?_, F0, F1, ?_, rfl, F21, rfl⟩
      · have := s3.1; have := hk.1; omega
      · intro j hj _
        rw [s3.2 j (by have := hk.1; omega) (fun e => by have := ho.bk_ge e; omega), hk.2 j hj (by simp)]
      · simp only [rolls, hr, hf]
      · have e1 : (ints (l ++ List.replicate (n - i) 0)).set i (.int .i64 (d + 1)) = ints (l ++ [d + 1] ++ List.replicate (n - (i + 1)) 0) := by
          have e2 : n - i = (n - (i + 1)) + 1 := by omega
          rw [e2, List.replicate_succ]
          simp only [ints, List.map_append, List.map_cons, List.map_nil]
          rw [List.set_append_right _ _ (by simp; omega)]
          simp [hll, I]
        rw [← e1]; exact s2
  · have hi : i = n := by omega
    subst hi
    simp only [WP_exit, thenQ, exitQ, ↓reduceIte]
    refine wp_seq (wp_region ?_)
    simp only [wps_go, wps_nil, wpo_mv, put_some, at_t, at_c, upd_app, thenQ, Nat.reduceEqDiff, ↓reduceIte, r33n16, F8]
    simp only [Nat.sub_self, List.replicate_zero, List.append_nil] at ho
    exact ⟨[_, _, _], rfl, hq l u hr _ h' ho hk⟩
end Go.Ideal.T
