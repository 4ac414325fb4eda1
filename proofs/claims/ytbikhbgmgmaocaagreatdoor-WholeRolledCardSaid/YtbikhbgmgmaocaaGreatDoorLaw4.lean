/- Contracts: a drop that is right; who chose what; who chose best. Conditions: units one to forty. -/
import Derived.Test.YtbikhbgmgmaocaaGreatDoorLaw3
namespace Go.Ideal.T
open Go Go.Ideal Go.Proofs

/-- Units from one on. -/
def uns (n : Nat) : List Int := (List.range n).map fun (i : Nat) => (i : Int) + 1
theorem uns_length (n : Nat) : (uns n).length = n := by simp [uns]
theorem uns_get {n i : Nat} (hi : i < (uns n).length) : (uns n)[i] = (i : Int) + 1 := by simp [uns]
/-- A drop of so many units, with what they chose. -/
def Drop (h : Heap) (d : V) (n : Nat) (cs : List Int) : Prop := ∃ vu vc, d = .agg [.int .i64 1, .int .i64 1, .int .i64 100, vu, vc] ∧ Arr h vu (ints (uns n)) ∧ Arr h vc (ints cs) ∧ cs.length = n ∧ n ≤ 40 ∧ ∀ c ∈ cs, 0 ≤ c ∧ c ≤ 3
theorem Drop.kept {h h' : Heap} {d : V} {n : Nat} {cs : List Int} (a : Drop h d n cs) (k : Kept h h' none) : Drop h' d n cs := by
  obtain ⟨vu, vc, a1, a2, a3, a4⟩ := a
  exact ⟨vu, vc, a1, k.arrN a2, k.arrN a3, a4⟩

theorem con26 {h : Heap} {d : V} {n : Nat} {cs : List Int} (hd : Drop h d n cs) {Q : V → Heap → Prop} (hq : ∀ h', Kept h h' none → Q (.bool true) h') : Con M 26 [d] h Q := by
  obtain ⟨vu, vc, rfl, hu, hc, hn, hn40, hch⟩ := hd
  refine con_call rfl code26 (by show 1 ≤ 51; omega) (by decide) ?_
  show WP M 51 f26.body (argF [_]) h (retQ [.tmp 2] Q)
  have hone : allOne [.int .i64 1, .int .i64 1, .int .i64 100, vu, vc] = true := by
    show (true && (true && (true && (vu.one && (vc.one && true))))) = true
    rw [hu.one, hc.one]; rfl
  refine wp_seq (wp_region ?_)
  simp only [wps_go, wps_nil, wpo_mv, wx_box, put_some, at_t, at_c, argF_zero, thenQ, cells_agg, r26n0, hone, true_and]
  generalize hh : h ++ [some (Blk.cells true [.int .i64 1, .int .i64 1, .int .i64 100, vu, vc])] = h1
  have k1 : Kept h h1 none := by rw [← hh]; exact Kept.grow _ _ _
  have hb : h1[h.length]? = some (some (.cells true [.int .i64 1, .int .i64 1, .int .i64 100, vu, vc])) := by rw [← hh]; simp
  have ld1 := ld_of hb
  have hu1 := k1.arrN hu
  have hc1 := k1.arrN hc
  have su := hu1.sl
  have sc := hc1.sl
  simp only [ints_length, uns_length] at su sc
  rw [hn] at sc
  unfold c26n16
  refine wp_seq (wp_seq (wp_region ?_))
  have e0 : decide ((1 : Int) < 1) = false := rfl
  have e1 : decide ((n : Int) > 40) = false := decide_eq_false (by omega)
  have e2 : ((n : Int) != (n : Int)) = false := by simp
  simp only [wps_go, wps_nil, wps_ff, wpo_mv, wx_lenSlice, wx_load, wx_pick, wx_fieldAddr, wpo_scal, put_some, at_t, at_c, bo_op, scalV, oprV, ofVal_int, upd_app, thenQ, binV_int, intV, isB, offV, Option.some.injEq, exists_eq_left', Nat.reduceEqDiff, ↓reduceIte, Nat.zero_add, List.getElem?_cons_zero, List.getElem?_cons_succ, r26n1, ld1, e0, e1, e2, su, sc, Bool.false_eq_true]
  refine wp_false rfl ?_
  try simp only [WP_skip, thenQ]
  refine wp_seq (wp_region ?_)
  simp only [wps_go, wps_nil, wpo_mv, put_some, at_c, thenQ, r26n3]
  unfold c26n15
  refine wp_seq (wp_seq (wp_region ?_))
  simp only [wps_go, wps_nil, wpo_mv, wx_lenSlice, wx_load, wx_fieldAddr, put_some, at_t, at_c, upd_app, thenQ, offV, Option.some.injEq, exists_eq_left', Nat.reduceEqDiff, ↓reduceIte, Nat.zero_add, List.getElem?_cons_zero, List.getElem?_cons_succ, r26n4, ld1, su]
  refine wp_block ?_
  refine wp_loop (fun k F h' => h' = h1 ∧ ∃ i, k = n - i ∧ i ≤ n ∧ F 1 = .ptr h.length 0 ∧ F 3 = .int .i64 (i : Int) ∧ F 30 = vu ∧ F 31 = .int .i64 (n : Int) ∧ F 32 = .int .i64 (i : Int)) (by decide) ?_ n ⟨rfl, 0, by omega, by omega, rfl, rfl, rfl, rfl, rfl⟩
  rintro k F h' ⟨hh', i, rfl, hi, F1, F3, F30, F31, F32⟩
  subst hh'
  unfold c26n13
  refine wp_seq (wp_region ?_)
  simp only [wps_go, wps_nil, wpo_scal, put_some, bo_op, scalV, oprV, thenQ, binV_int, intV, Option.some.injEq, exists_eq_left', r26n5, F31, F32]
  refine wp_seq (wp_cond (p := (i : Int) < n) rfl (fun hc => ?_) (fun hc => ?_))
  · have hi : i < n := by omega
    simp only [WP_skip, thenQ]
    unfold c26n12
    have ix := hu1.idx (k := .i64) (j := i) (by rw [ints_length, uns_length]; exact hi)
    have lx := hu1.ld (ints_get (uns n) i (by rw [uns_length]; exact hi))
    rw [uns_get] at lx
    simp only [I] at lx
    refine wp_seq (wp_block (wp_seq (wp_region ?_)))
    simp only [wps_go, wps_nil, wpo_mv, wx_indexAddr, wx_load, put_some, at_t, upd_app, thenQ, Option.some.injEq, exists_eq_left', Nat.reduceEqDiff, ↓reduceIte, r26n6, F30, F32, ix, lx]
    unfold c26n10
    have iy := hc1.idx (k := .i64) (j := i) (by rw [ints_length]; omega)
    have ly := hc1.ld (ints_get cs i (by omega))
    have e3 : decide ((i : Int) + 1 ≤ i) = false := decide_eq_false (by omega)
    have hcm := hch cs[i] (List.getElem_mem (by omega))
    refine wp_seq (wp_seq (wp_region ?_))
    simp only [wps_go, wps_nil, wps_ff, wpo_mv, wx_indexAddr, wx_load, wx_pick, wx_fieldAddr, wpo_scal, wpo_call, put_some, at_t, at_c, bo_op, scalV, oprV, upd_app, thenQ, binV_int, intV, unV, isB, offV, Option.some.injEq, exists_eq_left', Option.bind_some, Nat.reduceEqDiff, ↓reduceIte, List.map_cons, List.map_nil, reduceCtorEq, Nat.zero_add, List.getElem?_cons_zero, List.getElem?_cons_succ, r26n7, F1, F3, ld1, e3, iy, ly]
    refine con27 hcm.1 hcm.2 ?_
    simp only [Option.some.injEq, exists_eq_left', Bool.not_true]
    refine wp_false rfl ?_
    try simp only [WP_skip, thenQ]
    refine wp_region ?_
    simp only [wps_go, wps_nil, wpo_mv, put_some, at_t, upd_app, thenQ, exitQ, Nat.reduceEqDiff, ↓reduceIte, r26n9]
    refine wp_region ?_
    have hw3 : IntKind.i64.wrap ((i : Int) + 1) = ((i + 1 : Nat) : Int) := by rw [wrap_in (by omega) (by omega)]; rfl
    simp only [wps_go, wps_nil, wpo_mv, wpo_scal, put_some, at_t, bo_op, scalV, oprV, ofVal_int, upd_app, thenQ, binV_int, intV, Option.some.injEq, exists_eq_left', Nat.reduceEqDiff, ↓reduceIte, r26n11, F32, hw3]
    exact ⟨n - (i + 1), by omega, by trivial, i + 1, rfl, by omega, F1, rfl, F30, F31, rfl⟩
  · simp only [WP_exit, thenQ, exitQ, ↓reduceIte]
    refine wp_seq (wp_region ?_)
    simp only [wps_go, wps_nil, wpo_mv, put_some, at_c, thenQ, r26n14]
    exact ⟨[_], rfl, hq _ k1⟩

/-- Those that chose it. -/
def whoFrom (what : Int) (i : Nat) : List Int → List Int
  | [] => []
  | c :: cs => if c = what then ((i : Int) + 1) :: whoFrom what (i + 1) cs else whoFrom what (i + 1) cs
theorem who_len (what : Int) : ∀ (cs : List Int) (i : Nat), (whoFrom what i cs).length ≤ cs.length
  | [], i => by simp [whoFrom]
  | c :: cs, i => by
    have := who_len what cs (i + 1)
    simp only [whoFrom]
    split <;> simp <;> omega

theorem con30 {h : Heap} {d : V} {n : Nat} {cs : List Int} {what : Int} (hd : Drop h d n cs) {Q : V → Heap → Prop} (hq : ∀ v' h', Own h.length h' v' (ints (whoFrom what 0 cs)) → Kept h h' none → Q v' h') : Con M 30 [d, .int .i64 what] h Q := by
  obtain ⟨vu, vc, rfl, hu, hc, hn, hn40, hch⟩ := hd
  refine con_call rfl code30 (by show 2 ≤ 29; omega) (by decide) ?_
  show WP M 29 f30.body (argF [_, _]) h (retQ [.tmp 4] Q)
  have hone : allOne [.int .i64 1, .int .i64 1, .int .i64 100, vu, vc] = true := by
    show (true && (true && (true && (vu.one && (vc.one && true))))) = true
    rw [hu.one, hc.one]; rfl
  refine wp_seq (wp_region ?_)
  simp only [wps_go, wps_nil, wpo_mv, wx_box, put_some, at_t, at_c, argF_zero, thenQ, cells_agg, r30n0, hone, true_and]
  generalize hh : h ++ [some (Blk.cells true [.int .i64 1, .int .i64 1, .int .i64 100, vu, vc])] = h1
  have k1 : Kept h h1 none := by rw [← hh]; exact Kept.grow _ _ _
  have hb : h1[h.length]? = some (some (.cells true [.int .i64 1, .int .i64 1, .int .i64 100, vu, vc])) := by rw [← hh]; simp
  have hl1 : h1.length = h.length + 1 := by rw [← hh]; simp
  have ld1 := ld_of hb
  have hu1 := k1.arrN hu
  have su := hu1.sl
  simp only [ints_length, uns_length] at su
  refine wp_seq (wp_region ?_)
  simp only [wps_go, wps_nil, wpo_mv, put_some, at_c, thenQ, r30n1]
  unfold c30n12
  refine wp_seq (wp_seq (wp_region ?_))
  simp only [wps_go, wps_nil, wpo_mv, wx_lenSlice, wx_load, wx_fieldAddr, put_some, at_t, at_c, upd_app, thenQ, offV, Option.some.injEq, exists_eq_left', Nat.reduceEqDiff, ↓reduceIte, Nat.zero_add, List.getElem?_cons_zero, List.getElem?_cons_succ, r30n2, ld1, su]
  refine wp_block ?_
  refine wp_loop (fun k F h' => Kept h1 h' none ∧ ∃ i l, k = n - i ∧ i ≤ n ∧ F 1 = .int .i64 what ∧ F 2 = .ptr h.length 0 ∧ F 9 = vu ∧ F 10 = .int .i64 (n : Int) ∧ F 11 = .int .i64 (i : Int) ∧ Own h1.length h' (F 5) (ints l) ∧ l.length ≤ i ∧ whoFrom what 0 cs = l ++ whoFrom what i (cs.drop i)) (by decide) ?_ n
    ⟨Kept.refl _ _, 0, [], by omega, by omega, rfl, rfl, rfl, rfl, rfl, .inl ⟨rfl, rfl⟩, by simp, rfl⟩
  rintro k F h' ⟨hk, i, l, rfl, hi, F1, F2, F9, F10, F11, ho, hll, hw⟩
  unfold c30n10
  refine wp_seq (wp_region ?_)
  simp only [wps_go, wps_nil, wpo_scal, put_some, bo_op, scalV, oprV, thenQ, binV_int, intV, Option.some.injEq, exists_eq_left', r30n3, F10, F11]
  refine wp_seq (wp_cond (p := (i : Int) < n) rfl (fun hlt => ?_) (fun hlt => ?_))
  · have hi : i < n := by omega
    have hu2 := hk.arrN hu1
    have hc2 := hk.arrN (k1.arrN hc)
    have ld2 := ld_of (hk.get hb (by simp))
    have hdr : cs.drop i = cs[i] :: cs.drop (i + 1) := List.drop_eq_getElem_cons (by omega)
    simp only [WP_skip, thenQ]
    unfold c30n9
    have ix := hu2.idx (k := .i64) (j := i) (by rw [ints_length, uns_length]; exact hi)
    have lx := hu2.ld (ints_get (uns n) i (by rw [uns_length]; exact hi))
    rw [uns_get] at lx
    simp only [I] at lx
    refine wp_seq (wp_block (wp_seq (wp_region ?_)))
    simp only [wps_go, wps_nil, wpo_mv, wx_indexAddr, wx_load, put_some, at_t, upd_app, thenQ, Option.some.injEq, exists_eq_left', Nat.reduceEqDiff, ↓reduceIte, r30n4, F9, F11, ix, lx]
    unfold c30n7
    have iy := hc2.idx (k := .i64) (j := i) (by rw [ints_length]; omega)
    have ly := hc2.ld (ints_get cs i (by omega))
    simp only [I] at ly
    refine wp_seq (wp_region ?_)
    simp only [wps_go, wps_nil, wpo_mv, wx_indexAddr, wx_load, wx_fieldAddr, wpo_scal, put_some, at_t, bo_op, scalV, oprV, upd_app, thenQ, binV_int, intV, offV, Option.some.injEq, exists_eq_left', Nat.reduceEqDiff, ↓reduceIte, Nat.zero_add, List.getElem?_cons_zero, List.getElem?_cons_succ, r30n5, F1, F2, ld2, iy, ly]
    have hw3 : IntKind.i64.wrap ((i : Int) + 1) = ((i + 1 : Nat) : Int) := by rw [wrap_in (by omega) (by omega)]; rfl
    refine wp_if (q := cs[i] == what) rfl (fun hc => ?_) (fun hc => ?_)
    · have he : cs[i] = what := by simpa using hc
      refine wp_region ?_
      simp only [wps_go, wps_nil, wpo_mv, put_some, at_t, upd_app, thenQ, exitQ, Option.some.injEq, exists_eq_left', Nat.reduceEqDiff, ↓reduceIte, Nat.zero_add, r30n6, wx_buildSlice, fillF, V.cells, List.length_cons, List.length_nil, Nat.reduceLeDiff, and_self, List.take_zero, List.nil_append, List.cons_append, List.drop_succ_cons, List.drop_nil, allOne, List.all_cons, List.all_nil, V.one, Bool.and_true, true_and]
      have ho2 := ho.keptN (Kept.grow h' [some (Blk.cells true [.int .i64 ((i : Int) + 1)])] none)
      refine wpo_append (base := h1.length) (xs := ints l) (ys := ints [(i : Int) + 1]) ho2 (.inr ⟨h'.length, 0, 1, false, true, _, rfl, by simp; rfl, by simp [ints], by simp [ints, I], by simp [ints]⟩) (by have := hk.1; simp; omega) (by simp [ints]; omega) ?_
      intro v' h2 o1 o2 _
      rw [← ints_append] at o1
      try simp only [WP_skip, WP_exit, wps_go, wps_nil, wpd_go, wpd_nil, wpd_re, wps_tt, wps_tf, wps_ft, wps_ff, wpo_mv, wx_lenSlice, wx_indexAddr, wx_load, wx_loadN, wx_pick, wx_extract, wx_nilCheck, wx_fieldAddr, wx_isNil, wx_build, wx_from, wx_alloc, wx_box, wx_store, wpo_scal, wpo_call, put_some, put_none, at_t, at_c, bo_op, scalV, oprV, ofVal_int, ofVal_bool, upd_app, argF_zero, argF_succ, thenQ, exitQ, binV_int, intV, unV, isB, ptrV, offV, Option.some.injEq, exists_eq_left', exists_eq_left, Option.bind_some, Nat.reduceEqDiff, ↓reduceIte, List.map_cons, List.map_nil, reduceCtorEq, Bool.not_true, Bool.not_false, beq_self_eq_true, Nat.reduceAdd, Nat.zero_add, List.getElem?_cons_zero, List.getElem?_cons_succ, cells_agg, extV]
      refine wp_region ?_
      simp only [wps_go, wps_nil, wpo_mv, wpo_scal, put_some, at_t, bo_op, scalV, oprV, ofVal_int, upd_app, thenQ, binV_int, intV, Option.some.injEq, exists_eq_left', Nat.reduceEqDiff, ↓reduceIte, r30n8, F11, hw3]
      have k3 : Kept h1 h2 none := by
        refine ⟨by have := o2.1; have := hk.1; simp at *; omega, fun j hj _ => ?_⟩
        have hj' := Nat.lt_of_lt_of_le hj hk.1
        rw [o2.2 j (by simp; omega) (fun e => by have := ho.bk_ge e; omega), List.getElem?_append_left hj', hk.2 j hj (by simp)]
      refine ⟨n - (i + 1), by omega, k3, i + 1, l ++ [(i : Int) + 1], rfl, by omega, F1, F2, F9, F10, rfl, o1, by simp; omega, ?_⟩
      rw [hw, hdr, whoFrom, if_pos he]
      simp
    · have he : cs[i] ≠ what := by simpa using hc
      simp only [WP_skip, thenQ, exitQ]
      refine wp_region ?_
      simp only [wps_go, wps_nil, wpo_mv, wpo_scal, put_some, at_t, bo_op, scalV, oprV, ofVal_int, upd_app, thenQ, binV_int, intV, Option.some.injEq, exists_eq_left', Nat.reduceEqDiff, ↓reduceIte, r30n8, F11, hw3]
      refine ⟨n - (i + 1), by omega, hk, i + 1, l, rfl, by omega, F1, F2, F9, F10, rfl, ho, by omega, ?_⟩
      rw [hw, hdr, whoFrom, if_neg he]
  · have hi : i = n := by omega
    subst hi
    simp only [WP_exit, thenQ, exitQ, ↓reduceIte]
    refine wp_seq (wp_region ?_)
    simp only [wps_go, wps_nil, wpo_mv, put_some, at_t, upd_app, thenQ, Nat.reduceEqDiff, ↓reduceIte, r30n11]
    rw [← hn, List.drop_length, whoFrom, List.append_nil] at hw
    rw [hw] at hq
    exact ⟨[_], rfl, hq _ _ (ho.mono (by omega)) (k1.trans hk)⟩
end Go.Ideal.T
