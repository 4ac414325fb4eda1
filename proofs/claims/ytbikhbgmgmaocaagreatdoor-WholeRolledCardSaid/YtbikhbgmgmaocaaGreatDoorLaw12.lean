/- The law: all choose. Conditions: at most forty units. -/
import Derived.Test.YtbikhbgmgmaocaaGreatDoorLaw11
namespace Go.Ideal.T
open Go Go.Ideal Go.Proofs

theorem who_snoc (w c : Int) : ∀ (xs : List Int) (i : Nat), whoFrom w i (xs ++ [c]) = whoFrom w i xs ++ (if c = w then [((i + xs.length : Nat) : Int) + 1] else [])
  | [], i => by simp only [List.nil_append, whoFrom]; split <;> simp
  | x :: xs, i => by
    have := who_snoc w c xs (i + 1)
    simp only [List.cons_append, whoFrom, this]
    have e : i + 1 + xs.length = i + (x :: xs).length := by simp; omega
    rw [e]
    split <;> simp
/-- What all have chosen when i have. -/
def csT (ks : List Int) (i : Nat) : List Int := ks.take i ++ List.replicate (ks.length - i) 0
theorem csT_get {ks : List Int} {i : Nat} (h : i < ks.length) : (csT ks i)[i]? = some 0 := by
  unfold csT
  rw [List.getElem?_append_right (by simp; omega)]
  have : i - (ks.take i).length = 0 := by simp; omega
  rw [this, List.getElem?_replicate]
  rw [if_pos (by omega)]
theorem csT_set {ks : List Int} {i : Nat} (h : i < ks.length) : (csT ks i).set i ks[i] = csT ks (i + 1) := by
  unfold csT
  have e : ks.length - i = (ks.length - (i + 1)) + 1 := by omega
  rw [List.set_append_right _ _ (by simp; omega), e, List.replicate_succ]
  have : i - (ks.take i).length = 0 := by simp; omega
  rw [this, List.set_cons_zero, List.take_succ_eq_append_getElem h, List.append_assoc]
  rfl
theorem csT_skip {ks : List Int} {i : Nat} (h : i < ks.length) (hz : ks[i] = 0) : csT ks (i + 1) = csT ks i := by
  have := csT_set h
  rw [hz] at this
  rw [← this]
  apply List.ext_getElem?
  intro j
  rw [List.getElem?_set]
  split
  · rename_i e; subst e
    rw [csT_get h]
    split
    · rfl
    · rename_i hl
      have := (List.getElem?_eq_some_iff.1 (csT_get h)).1
      omega
  · rfl

theorem choose3 {F : FE} {h : Heap} {Q : V → Heap → Prop} (hq : ∀ h', Q (.bool true) h') {dp : Nat} {vu vc v0 v1 : V} {cs ws : List Int}
    (F0 : F 0 = v0) (F1 : F 1 = v1) (F8 : F 8 = .ptr dp 0) (F10 : F 10 = .nilSlice) (F11 : F 11 = .nilSlice)
    (hdp : h[dp]? = some (some (.cells true (dropL vu vc)))) (hd : Drop h (.agg (dropL vu vc)) cs.length (List.replicate cs.length 0)) (hdd : ∀ b, DBk (.agg (dropL vu vc)) b → b ≠ dp)
    (hv0 : Arr h v0 (U8 cs)) (hb0 : ∀ b, v0.bk = some b → b ≠ dp) (hc : ∀ c ∈ cs, 0 ≤ c ∧ c < 256)
    (hv1 : Arr h v1 (U32 ws)) (hb1 : ∀ b, v1.bk = some b → b ≠ dp) (hw : ∀ w ∈ ws, word w) (hl : ws.length ≤ 300) : WP M 205 c3n74 F h (retQ [.tmp 4] Q) := by
  have hn40 : cs.length ≤ 40 := by
    obtain ⟨_, _, _, _, _, _, a, _⟩ := hd
    exact a
  have hlen : (U8 cs).length = cs.length := by simp [U8]
  have sv := hv0.sl
  rw [hlen] at sv
  obtain ⟨ks, hks⟩ : ∃ ks, ks = cs.map fun c => c % 4 := ⟨_, rfl⟩
  have hkl : ks.length = cs.length := by rw [hks]; simp
  unfold c3n74
  refine wp_seq (wp_seq (wp_region ?_))
  simp only [wps_go, wps_nil, wpo_mv, wx_lenSlice, put_some, at_t, at_c, upd_app, thenQ, Option.some.injEq, exists_eq_left', ↓reduceIte, r3n16, F0, sv]
  refine wp_block ?_
  refine wp_loop (fun k F' h' => Kept h h' (some dp) ∧ ∃ i vu vc, k = cs.length - i ∧ i ≤ cs.length ∧ F' 1 = v1 ∧ F' 8 = .ptr dp 0 ∧ F' 65 = v0 ∧ F' 66 = .int .i64 (cs.length : Int) ∧ F' 67 = .int .i64 (i : Int) ∧
      h'[dp]? = some (some (.cells true (dropL vu vc))) ∧ Drop h' (.agg (dropL vu vc)) cs.length (csT ks i) ∧ Own h.length h' (F' 10) (ints (whoFrom 3 0 (ks.take i))) ∧ Own h.length h' (F' 11) (ints (whoFrom 2 0 (ks.take i))) ∧
      (∀ b, (F' 10).bk = some b → (F' 11).bk ≠ some b) ∧ (∀ b, DBk (.agg (dropL vu vc)) b → b ≠ dp ∧ (F' 10).bk ≠ some b ∧ (F' 11).bk ≠ some b)) (by decide) ?_ cs.length
    ⟨Kept.refl _ _, 0, vu, vc, by omega, by omega, F1, F8, rfl, rfl, rfl, hdp, (by rw [csT, List.take_zero, List.nil_append, hkl]; exact hd), .inl ⟨F10, rfl⟩, .inl ⟨F11, rfl⟩,
      (fun b hb => by have hb : (F 10).bk = some b := hb; rw [F10] at hb; cases hb),
      fun b hb => ⟨hdd b hb, (by show (F 10).bk ≠ some b; rw [F10]; simp [V.bk]), (by show (F 11).bk ≠ some b; rw [F11]; simp [V.bk])⟩⟩
  clear F0 F1 F8 F10 F11
  rintro k F h1 ⟨hk, i, vu1, vc1, rfl, hi, F1, F8, F65, F66, F67, hdp1, hd1, on, og, hng, hdb⟩
  have hlt := lt_of_get hdp
  have hk1 := hk.1
  unfold c3n34
  refine wp_seq (wp_region ?_)
  simp only [wps_go, wps_nil, wpo_scal, put_some, bo_op, scalV, oprV, thenQ, binV_int, intV, Option.some.injEq, exists_eq_left', r3n17, F66, F67]
  refine wp_seq (wp_cond (p := (i : Int) < cs.length) rfl (fun hc' => ?_) (fun hc' => ?_))
  · have hi : i < cs.length := by omega
    have hik : i < ks.length := by omega
    have hki : ks[i] = cs[i] % 4 := by simp [hks]
    obtain ⟨c0, c1⟩ := hc cs[i] (List.getElem_mem hi)
    have hv1' := hk.arr hv0 (fun b hb e => by injection e with e; exact hb0 b hb e.symm)
    have ix := hv1'.idx (k := .i64) (j := i) (by rw [hlen]; exact hi)
    have lx := hv1'.ld (j := i) (x := .int .u8 cs[i]) (by simp [U8, hi])
    have hm : Int.tmod cs[i] 4 = ks[i] := by rw [hki]; exact Int.tmod_eq_emod_of_nonneg c0
    have hk0 : 0 ≤ ks[i] ∧ ks[i] ≤ 3 := by rw [hki]; omega
    have hww : IntKind.i64.wrap ks[i] = ks[i] := wrap_in (by omega) (by omega)
    have e4 : ((4 : Int) = 0) = False := by simp
    have hw3 : IntKind.i64.wrap ((i : Int) + 1) = (i : Int) + 1 := wrap_in (by omega) (by omega)
    have hw3' : IntKind.i64.wrap ((i : Int) + 1) = ((i + 1 : Nat) : Int) := by rw [hw3]; rfl
    have tk : ks.take (i + 1) = ks.take i ++ [ks[i]] := List.take_succ_eq_append_getElem hik
    have tl : (ks.take i).length = i := by simp; omega
    have s3 := who_snoc 3 ks[i] (ks.take i) 0
    have s2 := who_snoc 2 ks[i] (ks.take i) 0
    rw [← tk, tl, Nat.zero_add] at s3 s2
    have wl3 : (whoFrom 3 0 (ks.take i)).length ≤ i := by have := who_len 3 (ks.take i) 0; omega
    have wl2 : (whoFrom 2 0 (ks.take i)).length ≤ i := by have := who_len 2 (ks.take i) 0; omega
    simp only [WP_skip, thenQ]
    unfold c3n33
    refine wp_seq (wp_block (wp_seq (wp_region ?_)))
    simp only [wps_go, wps_nil, wpo_mv, wx_indexAddr, wx_load, put_some, at_t, upd_app, thenQ, Option.some.injEq, exists_eq_left', Nat.reduceEqDiff, ↓reduceIte, r3n18, F65, F67, ix, lx]
    refine wp_seq (wp_region ?_)
    simp only [wps_go, wps_nil, wpo_mv, wpo_scal, put_some, at_t, bo_op, scalV, oprV, ofVal_int, upd_app, thenQ, binV_int, intV, Option.some.injEq, exists_eq_left', Option.bind_some, ↓reduceIte, r3n19, e4, hm, conv5, hww]
    unfold c3n31
    refine wp_seq (wp_seq (wp_region ?_))
    simp only [wps_go, wps_nil, wpo_mv, wpo_scal, put_some, at_t, bo_op, scalV, oprV, ofVal_int, upd_app, thenQ, binV_int, intV, Option.some.injEq, exists_eq_left', ↓reduceIte, r3n20]
    refine wp_if (q := ks[i] == 0) rfl (fun hz => ?_) (fun hz => ?_)
    · have hz : ks[i] = 0 := by simpa using hz
      simp only [WP_exit, thenQ, exitQ, ↓reduceIte]
      refine wp_region ?_
      rw [hz] at s3 s2
      simp only [if_neg (show ¬ ((0 : Int) = 3) by omega), if_neg (show ¬ ((0 : Int) = 2) by omega), List.append_nil] at s3 s2
      simp only [wps_go, wps_nil, wpo_mv, wpo_scal, put_some, at_t, bo_op, scalV, oprV, ofVal_int, upd_app, thenQ, binV_int, intV, Option.some.injEq, exists_eq_left', Nat.reduceEqDiff, ↓reduceIte, r3n32, F67, hw3']
      refine ⟨cs.length - (i + 1), by omega, hk, i + 1, vu1, vc1, by trivial, by omega, F1, F8, F65, F66, by trivial, hdp1, ?_, ?_, ?_, hng, hdb⟩
      · rw [csT_skip hik hz]; exact hd1
      · rw [s3]; exact on
      · rw [s2]; exact og
    · have hz : ks[i] ≠ 0 := by simpa using hz
      have l1 : ldN 5 h1 (.ptr dp 0) = some (dropL vu1 vc1) := ldN_of hdp1
      simp only [WP_skip, thenQ]
      refine wp_seq (wp_region ?_)
      simp only [wps_go, wps_nil, wpo_mv, wx_loadN, wx_extract, wx_store, wpo_scal, wpo_call, put_some, put_none, at_t, at_c, bo_op, scalV, oprV, ofVal_int, upd_app, thenQ, binV_int, intV, Option.some.injEq, exists_eq_left', Nat.reduceEqDiff, ↓reduceIte, List.map_cons, List.map_nil, extV, r3n21, F8, l1, hw3]
      refine con7 hd1 hi (csT_get hik) (by omega) hk0.2 ?_
      rintro d2 h2 hd2 hb2 k2
      rw [csT_set hik] at hd2
      obtain ⟨vu2, vc2, hde, hu2, hc2, hrest⟩ := hd2
      have hde : d2 = .agg (dropL vu2 vc2) := hde
      subst hde
      have hd2 : Drop h2 (.agg (dropL vu2 vc2)) cs.length (csT ks (i + 1)) := ⟨vu2, vc2, rfl, hu2, hc2, hrest⟩
      have hlt1 := lt_of_get hdp1
      obtain ⟨h3, s3', b3, k3⟩ := st_of (o := 0) (n := 5) (v := .agg (dropL vu2 vc2)) (cs' := dropL vu2 vc2) (k2.get hdp1 (by simp)) (cells_agg _) (dropL_one hu2 hc2) rfl (by simp [dropL]) (by simp [dropL])
      have hk2 := k2.1
      have hk3 := k3.1
      have hdb3 : ∀ b, DBk (.agg (dropL vu2 vc2)) b → b ≠ dp := fun b hb => by have := hb2 b hb; omega
      have dropK : ∀ {hx hy : Heap} {kk : Option Nat}, Drop hx (.agg (dropL vu2 vc2)) cs.length (csT ks (i + 1)) → Kept hx hy kk → (∀ b, DBk (.agg (dropL vu2 vc2)) b → kk ≠ some b) → Drop hy (.agg (dropL vu2 vc2)) cs.length (csT ks (i + 1)) := by
        rintro hx hy kk ⟨a, b, e, a2, a3, a4⟩ kx hne
        have e' := e
        simp only [dropL, V.agg.injEq, List.cons.injEq, true_and, and_true] at e'
        obtain ⟨rfl, rfl⟩ := e'
        exact ⟨_, _, e, kx.arr a2 (fun b hb => hne b ⟨_, _, rfl, .inl hb⟩), kx.arr a3 (fun b hb => hne b ⟨_, _, rfl, .inr hb⟩), a4⟩
      have hd3 := dropK hd2 k3 (fun b hb e => by injection e with e; exact hdb3 b hb e.symm)
      have on3 := (on.keptN k2).kept k3 (fun b hb e => by injection e with e; have := on.bk_ge hb; omega)
      have og3 := (og.keptN k2).kept k3 (fun b hb e => by injection e with e; have := og.bk_ge hb; omega)
      have kk3 : Kept h h3 (some dp) := (hk.transN k2).trans k3
      have hdn : ∀ b, DBk (.agg (dropL vu2 vc2)) b → (F 10).bk ≠ some b ∧ (F 11).bk ≠ some b := fun b hb =>
        ⟨fun e => by have := hb2 b hb; have := on.arr.bk_lt e; omega, fun e => by have := hb2 b hb; have := og.arr.bk_lt e; omega⟩
      have e0 : ((0 : Int) != 0) = false := rfl
      simp only [Option.some.injEq, exists_eq_left', List.getElem?_cons_zero, List.getElem?_cons_succ, s3']
      unfold c3n30
      refine wp_seq (wp_seq (wp_region ?_))
      simp only [wps_go, wps_nil, wpo_mv, wpo_scal, put_some, at_t, bo_op, scalV, oprV, ofVal_int, upd_app, thenQ, binV_int, intV, Option.some.injEq, exists_eq_left', ↓reduceIte, r3n22, e0]
      refine wp_false rfl ?_
      try simp only [WP_skip, thenQ]
      unfold c3n29
      refine wp_seq (wp_seq (wp_region ?_))
      simp only [wps_go, wps_nil, wpo_mv, wpo_scal, put_some, at_t, bo_op, scalV, oprV, ofVal_int, upd_app, thenQ, binV_int, intV, Option.some.injEq, exists_eq_left', Nat.reduceEqDiff, ↓reduceIte, r3n24]
      refine wp_if (q := ks[i] == 3) rfl (fun h3c => ?_) (fun h3c => ?_)
      · have h3c : ks[i] = 3 := by simpa using h3c
        rw [h3c] at s3 s2
        simp only [if_pos, if_neg (show ¬ ((3 : Int) = 2) by omega), List.append_nil] at s3 s2
        refine wp_region ?_
        simp only [wps_go, wps_nil, wpo_mv, wpo_scal, put_some, at_t, bo_op, scalV, oprV, ofVal_int, upd_app, thenQ, binV_int, intV, Option.some.injEq, exists_eq_left', Nat.reduceEqDiff, ↓reduceIte, Nat.zero_add, r3n25, hw3, wx_buildSlice, fillF, cells_int, List.length_cons, List.length_nil, Nat.reduceLeDiff, and_self, List.take_zero, List.nil_append, List.cons_append, List.drop_succ_cons, List.drop_nil, allOne, List.all_cons, List.all_nil, V.one, Bool.and_true, true_and]
        have kg := Kept.grow h3 [some (Blk.cells true [.int .i64 ((i : Int) + 1)])] none
        refine wpo_append (base := h.length) (xs := ints (whoFrom 3 0 (ks.take i))) (ys := ints [(i : Int) + 1]) (on3.keptN kg) (.inr ⟨h3.length, 0, 1, false, true, _, rfl, by simp; rfl, by simp [ints], by simp [ints, I], by simp [ints]⟩) (by simp; omega) (by simp [ints]; omega) ?_
        intro v' h4 o1 o2 o3
        rw [← ints_append, ← s3] at o1
        have o2 : Kept (h3 ++ [some (Blk.cells true [.int .i64 ((i : Int) + 1)])]) h4 (F 10).bk := o2
        have o3 : ∀ b, v'.bk = some b → (F 10).bk = some b ∨ (h3 ++ [some (Blk.cells true [.int .i64 ((i : Int) + 1)])]).length ≤ b := o3
        have k4 : Kept h3 h4 (F 10).bk := ⟨by have := o2.1; simp at this; omega, fun j hj hne => by rw [o2.2 j (by simp; omega) hne, List.getElem?_append_left hj]⟩
        have kk4 : Kept h h4 (some dp) := ⟨by have := k4.1; omega, fun j hj hne => by rw [k4.2 j (by omega) (fun e => by have := on.bk_ge e; omega), kk3.2 j hj hne]⟩
        try simp only [WP_skip, WP_exit, wps_go, wps_nil, wpd_go, wpd_nil, wpd_re, wps_tt, wps_tf, wps_ft, wps_ff, wpo_mv, wx_lenSlice, wx_indexAddr, wx_load, wx_loadN, wx_pick, wx_extract, wx_nilCheck, wx_fieldAddr, wx_isNil, wx_build, wx_from, wx_alloc, wx_box, wx_store, wpo_scal, wpo_call, put_some, put_none, at_t, at_c, bo_op, scalV, oprV, ofVal_int, ofVal_bool, upd_app, argF_zero, argF_succ, thenQ, exitQ, binV_int, intV, unV, isB, ptrV, offV, Option.some.injEq, exists_eq_left', exists_eq_left, Option.bind_some, Nat.reduceEqDiff, ↓reduceIte, List.map_cons, List.map_nil, reduceCtorEq, Bool.not_true, Bool.not_false, beq_self_eq_true, Nat.reduceAdd, Nat.zero_add, List.getElem?_cons_zero, List.getElem?_cons_succ, cells_agg, extV]
        unfold c3n28
        refine wp_seq (wp_region ?_)
        simp only [wps_go, wps_nil, wpo_mv, wpo_scal, put_some, at_t, bo_op, scalV, oprV, ofVal_int, upd_app, thenQ, binV_int, intV, Option.some.injEq, exists_eq_left', Nat.reduceEqDiff, ↓reduceIte, r3n26]
        refine wp_false (by show V.bool _ = _; rw [h3c]; rfl) ?_
        try simp only [WP_skip, thenQ, exitQ]
        refine wp_region ?_
        simp only [wps_go, wps_nil, wpo_mv, wpo_scal, put_some, at_t, bo_op, scalV, oprV, ofVal_int, upd_app, thenQ, binV_int, intV, Option.some.injEq, exists_eq_left', Nat.reduceEqDiff, ↓reduceIte, r3n32, F67, hw3']
        refine ⟨cs.length - (i + 1), by omega, kk4, i + 1, vu2, vc2, by trivial, by omega, F1, F8, F65, F66, by trivial, k4.get b3 (fun e => by have := on.bk_ge e; omega), dropK hd3 k4 (fun b hb => (hdn b hb).1), o1, ?_, ?_, ?_⟩
        · rw [s2]; exact og3.kept k4 (fun b hb e => hng b e hb)
        · intro b hb e
          rcases o3 b hb with hb | hb
          · exact hng b hb e
          · have := og3.arr.bk_lt e; simp at hb; omega
        · intro b hb
          refine ⟨hdb3 b hb, fun e => ?_, (hdn b hb).2⟩
          rcases o3 b e with e | e
          · exact (hdn b hb).1 e
          · have := hb.lt hd3; simp at e; omega
      · have h3c : ks[i] ≠ 3 := by simpa using h3c
        rw [if_neg h3c, List.append_nil] at s3
        try simp only [WP_skip, thenQ]
        unfold c3n28
        refine wp_seq (wp_region ?_)
        simp only [wps_go, wps_nil, wpo_mv, wpo_scal, put_some, at_t, bo_op, scalV, oprV, ofVal_int, upd_app, thenQ, binV_int, intV, Option.some.injEq, exists_eq_left', Nat.reduceEqDiff, ↓reduceIte, r3n26]
        refine wp_if (q := ks[i] == 2) rfl (fun h2c => ?_) (fun h2c => ?_)
        · have h2c : ks[i] = 2 := by simpa using h2c
          rw [if_pos h2c] at s2
          refine wp_region ?_
          simp only [wps_go, wps_nil, wpo_mv, wpo_scal, put_some, at_t, bo_op, scalV, oprV, ofVal_int, upd_app, thenQ, exitQ, binV_int, intV, Option.some.injEq, exists_eq_left', Nat.reduceEqDiff, ↓reduceIte, Nat.zero_add, r3n27, hw3, wx_buildSlice, fillF, cells_int, List.length_cons, List.length_nil, Nat.reduceLeDiff, and_self, List.take_zero, List.nil_append, List.cons_append, List.drop_succ_cons, List.drop_nil, allOne, List.all_cons, List.all_nil, V.one, Bool.and_true, true_and]
          have kg := Kept.grow h3 [some (Blk.cells true [.int .i64 ((i : Int) + 1)])] none
          refine wpo_append (base := h.length) (xs := ints (whoFrom 2 0 (ks.take i))) (ys := ints [(i : Int) + 1]) (og3.keptN kg) (.inr ⟨h3.length, 0, 1, false, true, _, rfl, by simp; rfl, by simp [ints], by simp [ints, I], by simp [ints]⟩) (by simp; omega) (by simp [ints]; omega) ?_
          intro v' h4 o1 o2 o3
          rw [← ints_append, ← s2] at o1
          have o2 : Kept (h3 ++ [some (Blk.cells true [.int .i64 ((i : Int) + 1)])]) h4 (F 11).bk := o2
          have o3 : ∀ b, v'.bk = some b → (F 11).bk = some b ∨ (h3 ++ [some (Blk.cells true [.int .i64 ((i : Int) + 1)])]).length ≤ b := o3
          have k4 : Kept h3 h4 (F 11).bk := ⟨by have := o2.1; simp at this; omega, fun j hj hne => by rw [o2.2 j (by simp; omega) hne, List.getElem?_append_left hj]⟩
          have kk4 : Kept h h4 (some dp) := ⟨by have := k4.1; omega, fun j hj hne => by rw [k4.2 j (by omega) (fun e => by have := og.bk_ge e; omega), kk3.2 j hj hne]⟩
          try simp only [WP_skip, WP_exit, wps_go, wps_nil, wpd_go, wpd_nil, wpd_re, wps_tt, wps_tf, wps_ft, wps_ff, wpo_mv, wx_lenSlice, wx_indexAddr, wx_load, wx_loadN, wx_pick, wx_extract, wx_nilCheck, wx_fieldAddr, wx_isNil, wx_build, wx_from, wx_alloc, wx_box, wx_store, wpo_scal, wpo_call, put_some, put_none, at_t, at_c, bo_op, scalV, oprV, ofVal_int, ofVal_bool, upd_app, argF_zero, argF_succ, thenQ, exitQ, binV_int, intV, unV, isB, ptrV, offV, Option.some.injEq, exists_eq_left', exists_eq_left, Option.bind_some, Nat.reduceEqDiff, ↓reduceIte, List.map_cons, List.map_nil, reduceCtorEq, Bool.not_true, Bool.not_false, beq_self_eq_true, Nat.reduceAdd, Nat.zero_add, List.getElem?_cons_zero, List.getElem?_cons_succ, cells_agg, extV]
          refine wp_region ?_
          simp only [wps_go, wps_nil, wpo_mv, wpo_scal, put_some, at_t, bo_op, scalV, oprV, ofVal_int, upd_app, thenQ, binV_int, intV, Option.some.injEq, exists_eq_left', Nat.reduceEqDiff, ↓reduceIte, r3n32, F67, hw3']
          refine ⟨cs.length - (i + 1), by omega, kk4, i + 1, vu2, vc2, by trivial, by omega, F1, F8, F65, F66, by trivial, k4.get b3 (fun e => by have := og.bk_ge e; omega), dropK hd3 k4 (fun b hb => (hdn b hb).2), ?_, o1, ?_, ?_⟩
          · rw [s3]; exact on3.kept k4 (fun b hb e => hng b hb e)
          · intro b hb e
            rcases o3 b e with e | e
            · exact hng b hb e
            · have := on3.arr.bk_lt hb; simp at e; omega
          · intro b hb
            refine ⟨hdb3 b hb, (hdn b hb).1, fun e => ?_⟩
            rcases o3 b e with e | e
            · exact (hdn b hb).2 e
            · have := hb.lt hd3; simp at e; omega
        · have h2c : ks[i] ≠ 2 := by simpa using h2c
          rw [if_neg h2c, List.append_nil] at s2
          try simp only [WP_skip, thenQ, exitQ]
          refine wp_region ?_
          simp only [wps_go, wps_nil, wpo_mv, wpo_scal, put_some, at_t, bo_op, scalV, oprV, ofVal_int, upd_app, thenQ, binV_int, intV, Option.some.injEq, exists_eq_left', Nat.reduceEqDiff, ↓reduceIte, r3n32, F67, hw3']
          refine ⟨cs.length - (i + 1), by omega, kk3, i + 1, vu2, vc2, by trivial, by omega, F1, F8, F65, F66, by trivial, b3, hd3, ?_, ?_, hng, fun b hb => ⟨hdb3 b hb, (hdn b hb).1, (hdn b hb).2⟩⟩
          · rw [s3]; exact on3
          · rw [s2]; exact og3
  · have hi : i = cs.length := by omega
    subst hi
    have hT : csT ks cs.length = ks := by
      unfold csT
      rw [← hkl, List.take_length, Nat.sub_self]; simp
    rw [hT] at hd1
    rw [← hkl, List.take_length] at on og
    simp only [WP_exit, thenQ, exitQ, ↓reduceIte]
    exact best3 hq F1 F8 rfl rfl hdp1 hd1 on.arr og.arr (hk.arr hv1 (fun b hb e => by injection e with e; exact hb1 b hb e.symm)) hw hl
end Go.Ideal.T
