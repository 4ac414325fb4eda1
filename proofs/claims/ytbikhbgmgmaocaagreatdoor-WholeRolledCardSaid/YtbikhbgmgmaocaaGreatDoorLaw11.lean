/- The law's words and the best. Conditions: who chose best is known, a drop in its place. -/
import Derived.Test.YtbikhbgmgmaocaaGreatDoorLaw10
namespace Go.Ideal.T
open Go Go.Ideal Go.Proofs

theorem und3 : Tryz.prog.underlying 3 = some (.int .i64) := by kernel_rfl
theorem und5 : Tryz.prog.underlying 5 = some (.int .u8) := by kernel_rfl
theorem und36 : Tryz.prog.underlying 36 = some (.int .u32) := by kernel_rfl
theorem conv36 (k : IntKind) (n : Int) : convV M.P 36 3 (.int k n) = some (.int .i64 (IntKind.i64.wrap n)) := by
  show convV Tryz.prog 36 3 _ = _
  simp only [convV, und3, und36]
theorem conv5 (k : IntKind) (n : Int) : convV M.P 5 3 (.int k n) = some (.int .i64 (IntKind.i64.wrap n)) := by
  show convV Tryz.prog 5 3 _ = _
  simp only [convV, und3, und5]
def U32 (ws : List Int) : List V := ws.map fun w => .int .u32 w
def U8 (ws : List Int) : List V := ws.map fun w => .int .u8 w

/-- What stays about: the drop, and who chose best. -/
structure Scene (h : Heap) (dp n : Nat) (vu vc g : V) (cs : List Int) : Prop where
  hdp : h[dp]? = some (some (.cells true (dropL vu vc)))
  hd : Drop h (.agg (dropL vu vc)) n cs
  hg : Arr h g (ints (best cs))
theorem Scene.kept {h h' : Heap} {dp n : Nat} {vu vc g : V} {cs : List Int} (a : Scene h dp n vu vc g cs) (k : Kept h h' none) : Scene h' dp n vu vc g cs :=
  ⟨k.get a.hdp (by simp), a.hd.kept k, k.arrN a.hg⟩
theorem DBk.lt {h : Heap} {vu vc : V} {n : Nat} {cs : List Int} (hd : Drop h (.agg (dropL vu vc)) n cs) {b : Nat} (hb : DBk (.agg (dropL vu vc)) b) : b < h.length := by
  obtain ⟨vu', vc', e, a2, a3, _⟩ := hd
  simp only [dropL, V.agg.injEq, List.cons.injEq, true_and, and_true] at e
  obtain ⟨rfl, rfl⟩ := e
  rcases hb.of with hb | hb
  · exact a2.bk_lt hb
  · exact a3.bk_lt hb

theorem feed3 {F : FE} {h : Heap} {Q : V → Heap → Prop} (hq : ∀ h', Q (.bool true) h') {dp s n : Nat} {vu vc g row : V} {cs ws : List Int}
    (F8 : F 8 = .ptr dp 0) (F11 : F 11 = g) (F15 : F 15 = .ptr s 0) (F16 : F 16 = row) (sc : Scene h dp n vu vc g cs)
    (hs : h[s]? = some (some (.cells true [.nilSlice]))) (hr : Arr h row (ints ws)) (hds : ∀ b, DBk (.agg (dropL vu vc)) b → b ≠ s) (hdps : dp ≠ s) (hgs : ∀ b, g.bk = some b → b ≠ s) (hrs : ∀ b, row.bk = some b → b ≠ s)
    (hw : ∀ w ∈ ws, word w) (hl : ws.length ≤ 300) : WP M 205 c3n70 F h (retQ [.tmp 4] Q) := by
  unfold c3n70
  refine wp_seq (wp_seq (wp_region ?_))
  have n0 : nilV .ptr (.ptr s 0) = some false := rfl
  have n1 : (false != false) = false := rfl
  simp only [wps_go, wps_nil, wps_ff, wpo_mv, wx_pick, wx_isNil, wpo_scal, wpo_call, put_some, at_t, at_c, bo_op, scalV, oprV, ofVal_int, upd_app, thenQ, isB, Option.some.injEq, exists_eq_left', Nat.reduceEqDiff, ↓reduceIte, List.map_cons, List.map_nil, reduceCtorEq, r3n48, F15, F16, n0, n1]
  refine con11 hs hr hw (by omega) ?_
  intro wv h1 hs1 o1 k1
  have e0 : ((0 : Int) != 0) = false := rfl
  simp only [binV_int, intV, Option.some.injEq, exists_eq_left', e0]
  refine wp_false rfl ?_
  try simp only [WP_skip, thenQ]
  refine wp_seq (wp_region ?_)
  simp only [wps_go, wps_nil, wpo_mv, put_some, at_c, thenQ, r3n50]
  have hlt := lt_of_get hs
  have hg1 := k1.arr sc.hg (fun b hb e => by injection e with e; exact hgs b hb e.symm)
  have sg := hg1.sl
  rw [ints_length] at sg
  have hd1 : Drop h1 (.agg (dropL vu vc)) n cs := by
    obtain ⟨vu', vc', e, a2, a3, a4⟩ := sc.hd
    have e' := e
    simp only [dropL, V.agg.injEq, List.cons.injEq, true_and, and_true] at e'
    obtain ⟨rfl, rfl⟩ := e'
    exact ⟨_, _, e, k1.arr a2 (fun b hb e => by injection e with e; exact hds b ⟨_, _, rfl, .inl hb⟩ e.symm), k1.arr a3 (fun b hb e => by injection e with e; exact hds b ⟨_, _, rfl, .inr hb⟩ e.symm), a4⟩
  have hdp1 := k1.get sc.hdp (by intro e; injection e with e; exact hdps e.symm)
  have hr1 := k1.arr hr (fun b hb e => by injection e with e; exact hrs b hb e.symm)
  have hwb : ∀ b, wv.bk = some b → b ≠ s := fun b hb => by have := o1.bk_ge hb; omega
  have fin : ∀ (F' : FE), F' 8 = .ptr dp 0 → F' 11 = g → F' 15 = .ptr s 0 → F' 16 = row → F' 19 = .int .i64 (unit0 (best cs)) → F' 20 = .int .i64 0 → F' 21 = .bool true → WP M 205 c3n68 F' h1 (retQ [.tmp 4] Q) :=
    fun F' G8 G11 G15 G16 G19 G20 G21 => rolls3 hq G8 G11 G15 G16 G19 G20 G21 hdp1 hd1 hds hdps hg1 hgs hr1 hrs hs1 o1.arr hwb hw hl
  unfold c3n69
  refine wp_seq (wp_seq (wp_region ?_))
  simp only [wps_go, wps_nil, wpo_mv, wx_lenSlice, wpo_scal, put_some, at_t, bo_op, scalV, oprV, ofVal_int, upd_app, thenQ, binV_int, intV, Option.some.injEq, exists_eq_left', Nat.reduceEqDiff, ↓reduceIte, r3n51, F11, sg]
  refine wp_if (q := ((best cs).length : Int) == 1) rfl (fun hc => ?_) (fun hc => ?_)
  · have h1l : (best cs).length = 1 := by
      have : ((best cs).length : Int) = 1 := by simpa using hc
      omega
    obtain ⟨u, hu⟩ : ∃ u, best cs = [u] := List.length_eq_one_iff.1 h1l
    rw [hu] at hg1
    have ix : idxV 1 g (.int .i64 0) = some (g.elem 1 0) := hg1.idx (k := .i64) (j := 0) (by simp [ints])
    have lx := hg1.ld (j := 0) (x := .int .i64 u) (by simp [ints, I])
    refine wp_region ?_
    simp only [wps_go, wps_nil, wpo_mv, wx_indexAddr, wx_load, put_some, at_t, at_c, upd_app, thenQ, Option.some.injEq, exists_eq_left', Nat.reduceEqDiff, ↓reduceIte, r3n52, F11, ix, lx]
    refine fin _ F8 F11 F15 F16 ?_ rfl rfl
    rw [hu]; rfl
  · have h1l : (best cs).length ≠ 1 := by
      intro e
      simp [e] at hc
    try simp only [WP_skip, thenQ]
    refine fin _ F8 F11 F15 F16 ?_ rfl rfl
    have : unit0 (best cs) = 0 := by
      generalize best cs = l at h1l
      rcases l with _ | ⟨a, _ | ⟨b, l⟩⟩
      · rfl
      · simp at h1l
      · rfl
    rw [this]; rfl

theorem words3 {F : FE} {h : Heap} {Q : V → Heap → Prop} (hq : ∀ h', Q (.bool true) h') {dp s n : Nat} {vu vc g v1 : V} {cs ws : List Int}
    (F1 : F 1 = v1) (F8 : F 8 = .ptr dp 0) (F11 : F 11 = g) (F15 : F 15 = .ptr s 0) (F16 : F 16 = .nilSlice) (sc : Scene h dp n vu vc g cs) (hv : Arr h v1 (U32 ws))
    (hs : h[s]? = some (some (.cells true [.nilSlice]))) (hds : ∀ b, DBk (.agg (dropL vu vc)) b → b ≠ s) (hdps : dp ≠ s) (hgs : ∀ b, g.bk = some b → b ≠ s)
    (hw : ∀ w ∈ ws, word w) (hl : ws.length ≤ 300) : WP M 205 c3n71 F h (retQ [.tmp 4] Q) := by
  have hlen : (U32 ws).length = ws.length := by simp [U32]
  have sv := hv.sl
  rw [hlen] at sv
  unfold c3n71
  refine wp_seq (wp_seq (wp_region ?_))
  simp only [wps_go, wps_nil, wpo_mv, wx_lenSlice, put_some, at_t, at_c, upd_app, thenQ, Option.some.injEq, exists_eq_left', ↓reduceIte, r3n41, F1, sv]
  refine wp_block ?_
  refine wp_loop (fun k F' h' => Kept h h' none ∧ ∃ i, k = ws.length - i ∧ i ≤ ws.length ∧ F' 8 = .ptr dp 0 ∧ F' 11 = g ∧ F' 15 = .ptr s 0 ∧ F' 112 = v1 ∧ F' 113 = .int .i64 (ws.length : Int) ∧ F' 114 = .int .i64 (i : Int) ∧ Own h.length h' (F' 16) (ints (ws.take i))) (by decide) ?_ ws.length
    ⟨Kept.refl _ _, 0, by omega, by omega, F8, F11, F15, rfl, rfl, rfl, .inl ⟨F16, rfl⟩⟩
  clear F1 F8 F11 F15 F16
  rintro k F h1 ⟨hk, i, rfl, hi, F8, F11, F15, F112, F113, F114, ho⟩
  unfold c3n47
  refine wp_seq (wp_region ?_)
  simp only [wps_go, wps_nil, wpo_scal, put_some, bo_op, scalV, oprV, thenQ, binV_int, intV, Option.some.injEq, exists_eq_left', r3n42, F113, F114]
  refine wp_seq (wp_cond (p := (i : Int) < ws.length) rfl (fun hc => ?_) (fun hc => ?_))
  · have hi : i < ws.length := by omega
    have hv1 := hk.arrN hv
    have ix := hv1.idx (k := .i64) (j := i) (by rw [hlen]; exact hi)
    have lx := hv1.ld (j := i) (x := .int .u32 ws[i]) (by simp [U32, hi])
    obtain ⟨w0, w1⟩ := hw ws[i] (List.getElem_mem hi)
    have hww : IntKind.i64.wrap ws[i] = ws[i] := wrap_in (by omega) (by omega)
    simp only [WP_skip, thenQ]
    unfold c3n46
    refine wp_seq (wp_block (wp_seq (wp_region ?_)))
    simp only [wps_go, wps_nil, wpo_mv, wx_indexAddr, wx_load, put_some, at_t, upd_app, thenQ, Option.some.injEq, exists_eq_left', Nat.reduceEqDiff, ↓reduceIte, r3n43, F112, F114, ix, lx]
    refine wp_region ?_
    simp only [wps_go, wps_nil, wpo_mv, wpo_scal, put_some, at_t, bo_op, scalV, oprV, upd_app, thenQ, exitQ, Option.some.injEq, exists_eq_left', Option.bind_some, Nat.reduceEqDiff, ↓reduceIte, Nat.zero_add, r3n44, conv36, hww, wx_buildSlice, fillF, cells_int, List.length_cons, List.length_nil, Nat.reduceLeDiff, and_self, List.take_zero, List.nil_append, List.cons_append, List.drop_succ_cons, List.drop_nil, allOne, List.all_cons, List.all_nil, V.one, Bool.and_true, true_and]
    have ho2 := ho.keptN (Kept.grow h1 [some (Blk.cells true [.int .i64 ws[i]])] none)
    refine wpo_append (base := h.length) (xs := ints (ws.take i)) (ys := ints [ws[i]]) ho2 (.inr ⟨h1.length, 0, 1, false, true, _, rfl, by simp; rfl, by simp [ints], by simp [ints, I], by simp [ints]⟩) (by have := hk.1; simp; omega) (by simp [ints]; omega) ?_
    intro v' h2 o1 o2 _
    rw [← ints_append] at o1
    try simp only [WP_skip, WP_exit, wps_go, wps_nil, wpd_go, wpd_nil, wpd_re, wps_tt, wps_tf, wps_ft, wps_ff, wpo_mv, wx_lenSlice, wx_indexAddr, wx_load, wx_loadN, wx_pick, wx_extract, wx_nilCheck, wx_fieldAddr, wx_isNil, wx_build, wx_from, wx_alloc, wx_box, wx_store, wpo_scal, wpo_call, put_some, put_none, at_t, at_c, bo_op, scalV, oprV, ofVal_int, ofVal_bool, upd_app, argF_zero, argF_succ, thenQ, exitQ, binV_int, intV, unV, isB, ptrV, offV, Option.some.injEq, exists_eq_left', exists_eq_left, Option.bind_some, Nat.reduceEqDiff, ↓reduceIte, List.map_cons, List.map_nil, reduceCtorEq, Bool.not_true, Bool.not_false, beq_self_eq_true, Nat.reduceAdd, Nat.zero_add, List.getElem?_cons_zero, List.getElem?_cons_succ, cells_agg, extV]
    have hw3 : IntKind.i64.wrap ((i : Int) + 1) = ((i + 1 : Nat) : Int) := by rw [wrap_in (by omega) (by omega)]; rfl
    refine wp_region ?_
    simp only [wps_go, wps_nil, wpo_mv, wpo_scal, put_some, at_t, bo_op, scalV, oprV, ofVal_int, upd_app, thenQ, binV_int, intV, Option.some.injEq, exists_eq_left', Nat.reduceEqDiff, ↓reduceIte, r3n45, F114, hw3]
    have k3 : Kept h h2 none := by
      refine ⟨by have := o2.1; have := hk.1; simp at *; omega, fun j hj _ => ?_⟩
      have hj' := Nat.lt_of_lt_of_le hj hk.1
      rw [o2.2 j (by simp; omega) (fun e => by have := ho.bk_ge e; omega), List.getElem?_append_left hj', hk.2 j hj (by simp)]
    refine ⟨ws.length - (i + 1), by omega, k3, i + 1, by trivial, by omega, F8, F11, F15, F112, F113, by trivial, ?_⟩
    rw [List.take_succ_eq_append_getElem hi]
    exact o1
  · have hi : i = ws.length := by omega
    subst hi
    rw [List.take_length] at ho
    have hlt := lt_of_get hs
    simp only [WP_exit, thenQ, exitQ, ↓reduceIte]
    exact feed3 hq F8 F11 F15 rfl (sc.kept hk) (hk.get hs (by simp)) ho.arr hds hdps hgs (fun b hb => by have := ho.bk_ge hb; omega) hw hl

theorem best3 {F : FE} {h : Heap} {Q : V → Heap → Prop} (hq : ∀ h', Q (.bool true) h') {dp n : Nat} {vu vc need greed v1 : V} {cs ws : List Int}
    (F1 : F 1 = v1) (F8 : F 8 = .ptr dp 0) (F10 : F 10 = need) (F11 : F 11 = greed)
    (hdp : h[dp]? = some (some (.cells true (dropL vu vc)))) (hd : Drop h (.agg (dropL vu vc)) n cs) (hn : Arr h need (ints (whoFrom 3 0 cs))) (hg : Arr h greed (ints (whoFrom 2 0 cs)))
    (hv : Arr h v1 (U32 ws)) (hw : ∀ w ∈ ws, word w) (hl : ws.length ≤ 300) : WP M 205 c3n73 F h (retQ [.tmp 4] Q) := by
  have hcs : cs.length ≤ 40 := by
    obtain ⟨_, _, _, _, _, hn, hn40, _⟩ := hd
    omega
  -- behind the choice of who chose best
  have go : ∀ (F' : FE) (g : V), F' 1 = v1 → F' 8 = .ptr dp 0 → F' 11 = g → Arr h g (ints (best cs)) → WP M 205 c3n72 F' h (retQ [.tmp 4] Q) := by
    intro F' g G1 G8 G11 hgb
    have l0 : ldN 5 h (.ptr dp 0) = some (dropL vu vc) := ldN_of hdp
    unfold c3n72
    refine wp_seq (wp_seq (wp_region ?_))
    simp only [wps_go, wps_nil, wpo_mv, wx_loadN, wpo_scal, wpo_call, put_some, at_t, bo_op, scalV, oprV, upd_app, thenQ, unV, Option.some.injEq, exists_eq_left', Option.bind_some, Nat.reduceEqDiff, ↓reduceIte, List.map_cons, List.map_nil, r3n37, G8, l0]
    refine con9 hd ?_
    intro v2 h2 o2 k2
    simp only [G11]
    have hb40 : (best cs).length ≤ 40 := by
      have a := who_len 3 cs 0
      have b := who_len 2 cs 0
      unfold best
      split <;> omega
    refine con8 o2.arr (k2.arrN hgb) (by omega) ?_
    have e0 : decide (best cs = best cs) = true := decide_eq_true rfl
    simp only [Option.some.injEq, exists_eq_left']
    refine wp_false rfl ?_
    try simp only [WP_skip, thenQ]
    refine wp_seq (wp_region ?_)
    simp only [wps_go, wps_nil, wpo_mv, wpo_call, put_some, at_t, upd_app, thenQ, ↓reduceIte, List.map_nil, r3n39]
    refine con10 ?_
    try simp only [WP_skip, WP_exit, wps_go, wps_nil, wpd_go, wpd_nil, wpd_re, wps_tt, wps_tf, wps_ft, wps_ff, wpo_mv, wx_lenSlice, wx_indexAddr, wx_load, wx_loadN, wx_pick, wx_extract, wx_nilCheck, wx_fieldAddr, wx_isNil, wx_build, wx_from, wx_alloc, wx_box, wx_store, wpo_scal, wpo_call, put_some, put_none, at_t, at_c, bo_op, scalV, oprV, ofVal_int, ofVal_bool, upd_app, argF_zero, argF_succ, thenQ, exitQ, binV_int, intV, unV, isB, ptrV, offV, Option.some.injEq, exists_eq_left', exists_eq_left, Option.bind_some, Nat.reduceEqDiff, ↓reduceIte, List.map_cons, List.map_nil, reduceCtorEq, Bool.not_true, Bool.not_false, beq_self_eq_true, Nat.reduceAdd, Nat.zero_add, List.getElem?_cons_zero, List.getElem?_cons_succ, cells_agg, extV]
    have k3 : Kept h2 (h2 ++ [some (Blk.cells true [.nilSlice])]) none := Kept.grow _ _ _
    have sc0 : Scene h dp n vu vc g cs := ⟨hdp, hd, hgb⟩
    have g2 := k2.1
    refine wp_seq (wp_region ?_)
    simp only [wps_go, wps_nil, wpo_mv, put_some, at_c, thenQ, r3n40]
    refine words3 (s := h2.length) hq G1 G8 G11 rfl rfl ((sc0.kept k2).kept k3) ((k2.trans k3).arrN hv) (by simp) (fun b hb => by have := hb.lt hd; omega) (by have := lt_of_get hdp; omega) (fun b hb => by have := hgb.bk_lt hb; omega) hw hl
  have sn := hn.sl
  rw [ints_length] at sn
  unfold c3n73
  refine wp_seq (wp_seq (wp_region ?_))
  simp only [wps_go, wps_nil, wpo_mv, wx_lenSlice, wpo_scal, put_some, at_t, bo_op, scalV, oprV, ofVal_int, upd_app, thenQ, binV_int, intV, Option.some.injEq, exists_eq_left', ↓reduceIte, r3n35, F10, sn]
  refine wp_cond (p := ((whoFrom 3 0 cs).length : Int) > 0) rfl (fun hc => ?_) (fun hc => ?_)
  · have hne : whoFrom 3 0 cs ≠ [] := by intro e; rw [e] at hc; simp at hc
    refine wp_region ?_
    simp only [wps_go, wps_nil, wpo_mv, put_some, at_t, upd_app, thenQ, Nat.reduceEqDiff, ↓reduceIte, r3n36, F10]
    refine go _ need F1 F8 rfl ?_
    rw [best, if_neg hne]; exact hn
  · have he : whoFrom 3 0 cs = [] := by
      have : (whoFrom 3 0 cs).length = 0 := by omega
      exact List.length_eq_zero_iff.1 this
    try simp only [WP_skip, thenQ]
    refine go _ greed F1 F8 F11 ?_
    rw [best, if_pos he]; exact hg
end Go.Ideal.T
