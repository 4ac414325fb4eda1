/- Contracts: a draw below a hundred, the greatest, rolls. Conditions: as each says. -/
import Derived.Test.YtbikhbgmgmaocaaGreatDoorLaw1
namespace Go.Ideal.T
open Go Go.Ideal Go.Proofs

def used (o : Option (Int × Nat)) : Nat := match o with
  | some p => p.2
  | none => 0
theorem fair_le : ∀ {ws : List Int} {p : Int × Nat}, fair ws = some p → p.2 ≤ ws.length
  | [], p, h => by simp [fair] at h
  | x :: xs, p, h => by
    simp only [fair] at h
    split at h
    · injection h with h; subst h; simp
    · simp only [Option.map_eq_some_iff] at h
      obtain ⟨q, h1, rfl⟩ := h
      have := fair_le h1
      simp; omega
theorem fair_pos : ∀ {ws : List Int} {p : Int × Nat}, (∀ w ∈ ws, word w) → fair ws = some p → 0 ≤ p.1 ∧ p.1 < 100
  | [], p, _, h => by simp [fair] at h
  | x :: xs, p, hw, h => by
    simp only [fair] at h
    split at h
    · injection h with h; subst h; simp only; omega
    · simp only [Option.map_eq_some_iff] at h
      obtain ⟨q, h1, rfl⟩ := h
      exact fair_pos (p := q) (fun w hx => hw w (List.mem_cons_of_mem _ hx)) h1
def belowV (o : Option (Int × Nat)) : V := match o with
  | some p => .tup [I p.1, .bool true]
  | none => .tup [I 0, .bool false]

theorem con12 {h : Heap} {s : Nat} {wv : V} {ws : List Int} (hs : h[s]? = some (some (.cells true [wv]))) (hv : Arr h wv (ints ws)) (hw : ∀ w ∈ ws, word w) (hl : ws.length < 4294967296) {Q : V → Heap → Prop}
    (hq : ∀ wv', (∀ b, b ≠ s → ∀ h', h'[b]? = h[b]? → wv.bk = some b → Arr h' wv' (ints (ws.drop (used (fair ws))))) → (wv.bk = none → ∀ h', Arr h' wv' (ints (ws.drop (used (fair ws))))) → (∀ b, wv'.bk = some b → wv.bk = some b) → Q (belowV (fair ws)) (h.set s (some (.cells true [wv'])))) : Con M 12 [.ptr s 0, I 100] h Q := by
  refine con_call rfl code12 (by show 2 ≤ 30; omega) (by decide) ?_
  show WP M 30 f12.body (argF [.ptr s 0, I 100]) h (retQ [.tmp 4, .tmp 5] Q)
  have e0 : ld h (.ptr s (0 + 0)) = some wv := by simp only [ld, hs]; rfl
  have hlt := lt_of_get hs
  have hu : used (fair ws) ≤ ws.length := by
    cases hf : fair ws with
    | none => simp [used]
    | some p => exact fair_le hf
  obtain ⟨wv', q1, q2, q3, q4, q5⟩ := hv.from (k := .i64) (l := used (fair ws)) (by rw [ints_length]; exact hu)
  have e2 : st 1 h (.ptr s (0 + 0)) wv' = some (h.set s (some (.cells true [wv']))) := by
    simp [st, q4, allOne, q5, hs]
  have hdrop : (ints ws).drop (used (fair ws)) = ints (ws.drop (used (fair ws))) := by simp [ints, List.map_drop]
  rw [hdrop] at q2
  have hq := hq wv' (fun b _ h' hb hk => q2.other fun b' hb' => by
    have := q3 b' hb'
    rw [hk] at this; injection this with this; subst this; exact hb) (fun hn h' => q2.other fun b' hb' => by
    have := q3 b' hb'
    rw [hn] at this; cases this) q3
  refine wp_seq (wp_region ?_)
  simp only [wps_go, wps_nil, wpo_mv, put_some, at_c, thenQ, r12n0]
  unfold c12n4
  refine wp_seq (wp_region ?_)
  simp only [wps_go, wps_nil, wpo_mv, wx_load, wx_extract, wx_nilCheck, wx_fieldAddr, wpo_call, put_some, at_t, upd_app, argF_zero, argF_succ, thenQ, ptrV, offV, Option.some.injEq, exists_eq_left', Nat.reduceEqDiff, ↓reduceIte, List.map_cons, List.map_nil, reduceCtorEq, Nat.zero_add, extV, r12n1, e0]
  refine con32 hv hw hl ?_
  cases hf : fair ws with
  | none =>
    simp only [hf, used, belowV] at hq q1 e2
    simp only [Option.some.injEq, exists_eq_left', List.getElem?_cons_zero, List.getElem?_cons_succ, fairV, List.getElem?_cons_zero, List.getElem?_cons_succ, I]
    refine wp_seq (wp_region ?_)
    have q1 : fromV 1 wv (.int .i64 0) = some wv' := q1
    simp only [wps_go, wps_nil, wpo_mv, wx_load, wx_nilCheck, wx_fieldAddr, wx_from, wx_store, put_some, put_none, at_t, upd_app, argF_zero, thenQ, ptrV, offV, Option.some.injEq, exists_eq_left', Nat.reduceEqDiff, ↓reduceIte, reduceCtorEq, Nat.zero_add, r12n2, e0, q1, e2]
    refine wp_seq (wp_region ?_)
    simp only [wps_go, wps_nil, wpo_mv, put_some, at_t, upd_app, thenQ, Nat.reduceEqDiff, ↓reduceIte, r12n3]
    exact ⟨[_, _], rfl, hq⟩
  | some p =>
    simp only [hf, used, belowV] at hq q1 e2
    simp only [Option.some.injEq, exists_eq_left', List.getElem?_cons_zero, List.getElem?_cons_succ, fairV, List.getElem?_cons_zero, List.getElem?_cons_succ, I]
    refine wp_seq (wp_region ?_)
    simp only [wps_go, wps_nil, wpo_mv, wx_load, wx_nilCheck, wx_fieldAddr, wx_from, wx_store, put_some, put_none, at_t, upd_app, argF_zero, thenQ, ptrV, offV, Option.some.injEq, exists_eq_left', Nat.reduceEqDiff, ↓reduceIte, reduceCtorEq, Nat.zero_add, r12n2, e0, q1, e2]
    refine wp_seq (wp_region ?_)
    simp only [wps_go, wps_nil, wpo_mv, put_some, at_t, upd_app, thenQ, Nat.reduceEqDiff, ↓reduceIte, r12n3]
    exact ⟨[_, _], rfl, hq⟩

/-- The greatest. -/
def maxFrom (m : Int) : List Int → Int
  | [] => m
  | y :: ys => maxFrom (if y > m then y else m) ys
theorem con34 {h : Heap} {v : V} {x : Int} {xs : List Int} (hv : Arr h v (ints (x :: xs))) (hl : xs.length < 2147483648) {Q : V → Heap → Prop} (hq : Q (I (maxFrom x xs)) h) : Con M 34 [v] h Q := by
  refine con_call rfl code34 (by show 1 ≤ 25; omega) (by decide) ?_
  show WP M 25 f34.body (argF [v]) h (retQ [.tmp 2] Q)
  have s0 := hv.sl
  simp only [ints_length, List.length_cons] at s0
  have a0 := hv.idx (k := .i64) (j := 0) (by simp [ints])
  have l0 := hv.ld (ints_get (x :: xs) 0 (by simp))
  simp only [List.getElem_cons_zero] at l0
  refine wp_seq (wp_region ?_)
  simp only [wps_go, wps_nil, wpo_mv, put_some, at_c, thenQ, r34n0]
  unfold c34n11
  refine wp_seq (wp_seq (wp_region ?_))
  have e0 : decide (((xs.length + 1 : Nat) : Int) < 1) = false := by simp; omega
  simp only [wps_go, wps_nil, wpo_mv, wx_lenSlice, wpo_scal, put_some, at_t, bo_op, scalV, oprV, ofVal_int, upd_app, argF_zero, thenQ, binV_int, intV, Option.some.injEq, exists_eq_left', ↓reduceIte, reduceCtorEq, r34n1, s0, e0]
  refine wp_false rfl ?_
  show WP M 25 (.seq (.region r34n3) c34n10) _ _ _
  refine wp_seq (wp_region ?_)
  have a0' : idxV 1 v (.int .i64 0) = some (v.elem 1 0) := a0
  simp only [wps_go, wps_nil, wpo_mv, wx_indexAddr, wx_load, put_some, at_t, at_c, upd_app, argF_zero, thenQ, Option.some.injEq, exists_eq_left', ↓reduceIte, reduceCtorEq, r34n3, a0', l0]
  unfold c34n10
  refine wp_seq (wp_seq (wp_region ?_))
  simp only [wps_go, wps_nil, wpo_mv, put_some, at_c, thenQ, r34n4]
  refine wp_block ?_
  refine wp_loop (fun k F h' => h' = h ∧ ∃ i m, k = xs.length - i ∧ i ≤ xs.length ∧ F 0 = v ∧ F 3 = I m ∧ F 4 = .int .i64 ((i + 1 : Nat) : Int) ∧ maxFrom x xs = maxFrom m (xs.drop i)) (by decide) ?_ xs.length ⟨rfl, 0, x, by omega, by omega, rfl, rfl, rfl, rfl⟩
  rintro k F _ ⟨rfl, i, m, rfl, hi, F0, F3, F4, hf⟩
  unfold c34n8
  refine wp_seq (wp_seq (wp_region ?_))
  simp only [wps_go, wps_nil, wpo_mv, wx_lenSlice, wpo_scal, put_some, at_t, bo_op, scalV, oprV, upd_app, thenQ, binV_int, intV, Option.some.injEq, exists_eq_left', Nat.reduceEqDiff, ↓reduceIte, reduceCtorEq, r34n5, F0, F4, s0]
  refine wp_cond (p := ((i + 1 : Nat) : Int) < ((xs.length + 1 : Nat) : Int)) rfl (fun hc => ?_) (fun hc => ?_)
  · have hi : i < xs.length := by omega
    have hd : xs.drop i = xs[i] :: xs.drop (i + 1) := List.drop_eq_getElem_cons hi
    have a1 := hv.idx (k := .i64) (j := i + 1) (by simp [ints]; omega)
    have l1 := hv.ld (ints_get (x :: xs) (i + 1) (by simp; omega))
    simp only [List.getElem_cons_succ] at l1
    simp only [WP_skip, thenQ]
    refine wp_seq (wp_block (wp_region ?_))
    simp only [wps_go, wps_nil, wpo_mv, wx_indexAddr, wx_load, wpo_scal, put_some, at_t, bo_op, scalV, oprV, upd_app, thenQ, exitQ, Option.some.injEq, exists_eq_left', Nat.reduceEqDiff, ↓reduceIte, reduceCtorEq, r34n6, F0, F3, F4, a1, l1, I]
    refine wp_region ?_
    have hw : IntKind.i64.wrap (((i + 1 : Nat) : Int) + 1) = ((i + 1 + 1 : Nat) : Int) := by rw [wrap_in (by omega) (by omega)]; rfl
    simp only [wps_go, wps_nil, wpo_mv, wpo_scal, put_some, at_t, bo_op, scalV, oprV, ofVal_int, upd_app, thenQ, binV_int, intV, Option.some.injEq, exists_eq_left', Nat.reduceEqDiff, ↓reduceIte, reduceCtorEq, r34n7, F4, hw]
    refine ⟨xs.length - (i + 1), by omega, by trivial, i + 1, _, rfl, by omega, F0, rfl, rfl, ?_⟩
    rw [hf, hd, maxFrom]
  · have hi : i = xs.length := by omega
    subst hi
    simp only [WP_exit, thenQ, exitQ, ↓reduceIte]
    refine wp_seq (wp_region ?_)
    simp only [wps_go, wps_nil, wpo_mv, put_some, at_t, upd_app, thenQ, Nat.reduceEqDiff, ↓reduceIte, r34n9, F3]
    refine ⟨[_], rfl, ?_⟩
    rw [hf, List.drop_length, maxFrom] at hq
    exact hq
end Go.Ideal.T
