/- The law's rolls, and the award held against them. Conditions: who chose best is known. -/
import Derived.Test.YtbikhbgmgmaocaaGreatDoorLaw9
namespace Go.Ideal.T
open Go Go.Ideal Go.Proofs

theorem rolls3 {F : FE} {h : Heap} {Q : V → Heap → Prop} (hq : ∀ h', Q (.bool true) h') {dp s n : Nat} {vu vc g row wv : V} {cs ws : List Int}
    (F8 : F 8 = .ptr dp 0) (F11 : F 11 = g) (F15 : F 15 = .ptr s 0) (F16 : F 16 = row) (F19 : F 19 = .int .i64 (unit0 (best cs))) (F20 : F 20 = .int .i64 0) (F21 : F 21 = .bool true)
    (hdp : h[dp]? = some (some (.cells true (dropL vu vc)))) (hd : Drop h (.agg (dropL vu vc)) n cs) (hds : ∀ b, DBk (.agg (dropL vu vc)) b → b ≠ s) (hdps : dp ≠ s)
    (hg : Arr h g (ints (best cs))) (hgs : ∀ b, g.bk = some b → b ≠ s) (hr : Arr h row (ints ws)) (hrs : ∀ b, row.bk = some b → b ≠ s)
    (hs : h[s]? = some (some (.cells true [wv]))) (hwv : Arr h wv (ints ws)) (hws : ∀ b, wv.bk = some b → b ≠ s) (hw : ∀ w ∈ ws, word w) (hl : ws.length ≤ 300) : WP M 205 c3n68 F h (retQ [.tmp 4] Q) := by
  have hlen : (best cs).length ≤ 40 := by
    obtain ⟨_, _, _, _, _, hn, hn40, _⟩ := hd
    have a := who_len 3 cs 0
    have b := who_len 2 cs 0
    unfold best
    split <;> omega
  generalize hbest : best cs = l at *
  unfold c3n68
  refine wp_seq (wp_seq (wp_region ?_))
  simp only [wps_go, wps_nil, wpo_mv, put_some, at_c, thenQ, r3n53]
  refine wp_block ?_
  refine wp_loop (fun k F' h' => Kept h h' (some s) ∧ F' 8 = .ptr dp 0 ∧ F' 11 = g ∧ F' 15 = .ptr s 0 ∧ F' 16 = row ∧ ∃ wv u, h'[s]? = some (some (.cells true [wv])) ∧ Arr h' wv (ints (ws.drop u)) ∧ (∀ b, wv.bk = some b → b ≠ s) ∧ u ≤ ws.length ∧
      ((∃ i rs, k = l.length - i + 1 ∧ i ≤ l.length ∧ F' 22 = .int .i64 (i : Int) ∧ F' 21 = .bool true ∧ rolls ws i = some (rs, u) ∧ F' 20 = .int .i64 (maxFrom 0 rs) ∧ F' 19 = .int .i64 (lead l rs) ∧ (l.length ≤ 1 → i = 0)) ∨
       (∃ i : Nat, k = 0 ∧ i ≤ l.length ∧ F' 22 = .int .i64 (i : Int) ∧ F' 21 = .bool false ∧ rolls ws l.length = none ∧ 2 ≤ l.length ∧ ∃ x, F' 19 = .int .i64 x))) (by decide) ?_ (l.length + 1)
    ⟨Kept.refl _ _, F8, F11, F15, F16, wv, 0, hs, hwv, hws, by omega, .inl ⟨0, [], by omega, by omega, rfl, F21, rfl, F20, F19, fun _ => rfl⟩⟩
  clear F8 F11 F15 F16 F19 F20 F21
  rintro k F h1 ⟨hk, F8, F11, F15, F16, wv, u, hs1, hwv1, hws1, hu, hst⟩
  have hg1 := hk.arr hg (fun b hb e => by injection e with e; exact hgs b hb e.symm)
  have sg := hg1.sl
  rw [ints_length] at sg
  -- what comes behind the loop
  have after : ∀ (F' : FE), F' 8 = .ptr dp 0 → F' 15 = .ptr s 0 → F' 16 = row → (∃ en unit, F' 21 = .bool en ∧ F' 19 = .int .i64 unit ∧
      (en = false → awardV l ws = .tup [.int .i64 0, .int .i64 0, .bool false]) ∧ (en = true → awardV l ws = .tup [.int .i64 unit, .int .i64 u, .bool true])) →
      WP M 205 (.seq (.region r3n63) c3n67) F' h1 (retQ [.tmp 4] Q) := by
    rintro F' G8 G15 G16 ⟨en, unit, G21, G19, hno, hyes⟩
    have l1 : ldN 5 h1 (.ptr dp 0) = some (dropL vu vc) := ldN_of (hk.get hdp (by intro e; injection e with e; exact hdps e.symm))
    have hr1 := hk.arr hr (fun b hb e => by injection e with e; exact hrs b hb e.symm)
    have hd1 : Drop h1 (.agg (dropL vu vc)) n cs := by
      obtain ⟨vu', vc', e, a2, a3, a4⟩ := hd
      have e' := e
      simp only [dropL, V.agg.injEq, List.cons.injEq, true_and, and_true] at e'
      obtain ⟨rfl, rfl⟩ := e'
      exact ⟨_, _, e, hk.arr a2 (fun b hb e => by injection e with e; exact hds b ⟨_, _, rfl, .inl hb⟩ e.symm), hk.arr a3 (fun b hb e => by injection e with e; exact hds b ⟨_, _, rfl, .inr hb⟩ e.symm), a4⟩
    refine wp_seq (wp_region ?_)
    simp only [wps_go, wps_nil, wpo_mv, wx_loadN, wx_extract, wpo_call, put_some, at_t, upd_app, thenQ, Option.some.injEq, exists_eq_left', Nat.reduceEqDiff, ↓reduceIte, List.map_cons, List.map_nil, extV, r3n63, G8, G16, l1]
    refine con13 hd1 hr1 hw (by omega) ?_
    intro h2 k2
    rw [hbest]
    have hs2 := k2.get hs1 (by simp)
    have hwv2 := k2.arrN hwv1
    have hr2 := k2.arrN hr1
    cases en
    · rw [hno rfl]
      simp only [Option.some.injEq, exists_eq_left', List.getElem?_cons_zero, List.getElem?_cons_succ]
      exact end3 hq (en := false) (unit := unit) (won := 0) (use := 0) (done := false) G15 G16 G19 G21 rfl rfl rfl hs2 hwv2 hr2 hu hl (fun _ => ⟨rfl, rfl, rfl⟩) (fun e => by cases e)
    · rw [hyes rfl]
      simp only [Option.some.injEq, exists_eq_left', List.getElem?_cons_zero, List.getElem?_cons_succ]
      exact end3 hq (en := true) (unit := unit) (won := unit) (use := u) (done := true) G15 G16 G19 G21 rfl rfl rfl hs2 hwv2 hr2 hu hl (fun e => by cases e) (fun _ => ⟨rfl, rfl, rfl⟩)
  have awB : 2 ≤ l.length → awardV l ws = (match rolls ws l.length with
      | some p => V.tup [.int .i64 (l.getD (firstAt (maxL p.1) p.1 0).toNat 0), .int .i64 p.2, .bool true]
      | none => .tup [.int .i64 0, .int .i64 0, .bool false]) := by
    intro h2l
    rcases l with _ | ⟨a, _ | ⟨b, l⟩⟩
    · simp at h2l
    · simp at h2l
    · rfl
  unfold c3n62
  rcases hst with ⟨i, rs, rfl, hi, F22, F21, hro, F20, F19, hone⟩ | ⟨i, rfl, hi, F22, F21, hro, h2l, x, F19⟩
  · obtain ⟨hrl, _⟩ := rolls_len hro
    simp only at hrl
    by_cases hgo : i < l.length ∧ 1 < l.length
    · obtain ⟨hi, h1l⟩ := hgo
      have e0 : decide ((i : Int) < (l.length : Int)) = true := decide_eq_true (by omega)
      have e1 : decide ((l.length : Int) > 1) = true := decide_eq_true (by omega)
      refine wp_seq (wp_seq (wp_region ?_))
      simp only [wps_go, wps_nil, wps_tt, wpo_mv, wx_lenSlice, wx_pick, wpo_scal, put_some, at_t, at_c, bo_op, scalV, oprV, ofVal_int, upd_app, thenQ, binV_int, intV, isB, Option.some.injEq, exists_eq_left', Nat.reduceEqDiff, ↓reduceIte, r3n54, F11, F21, F22, sg, e0, e1]
      refine wp_true rfl ?_
      simp only [WP_skip, thenQ]
      unfold c3n61
      refine wp_seq (wp_block (wp_seq (wp_region ?_)))
      simp only [wps_go, wps_nil, wpo_mv, wx_extract, wpo_call, put_some, at_t, at_c, upd_app, thenQ, Nat.reduceEqDiff, ↓reduceIte, List.map_cons, List.map_nil, extV, r3n55, F15]
      refine con12 hs1 hwv1 (fun w hx => hw w (List.mem_of_mem_drop hx)) (by simp; omega) ?_
      intro wv' a1 a2 a3
      have hlt := lt_of_get hs1
      have k2 : Kept h1 (h1.set s (some (.cells true [wv']))) (some s) := Kept.set
      have hs2 : (h1.set s (some (Blk.cells true [wv'])))[s]? = some (some (.cells true [wv'])) := List.getElem?_set_self hlt
      have hwv2 : Arr (h1.set s (some (.cells true [wv']))) wv' (ints ((ws.drop u).drop (used (fair (ws.drop u))))) := by
        cases hb : wv.bk with
        | none => exact a2 hb _
        | some b =>
          have hbs := hws1 b hb
          exact a1 b hbs _ (k2.2 b (hwv1.bk_lt hb) (fun e => by injection e with e; exact hbs e.symm)) hb
      have hws2 : ∀ b, wv'.bk = some b → b ≠ s := fun b hb => hws1 b (a3 b hb)
      have hk2 := hk.trans k2
      generalize h1.set s (some (Blk.cells true [wv'])) = h2 at *
      have hgo : ∀ (z : Nat), z = i → IntKind.i64.wrap ((z : Int) + 1) = ((i + 1 : Nat) : Int) := by intro z hz; subst hz; rw [wrap_in (by omega) (by omega)]; rfl
      have hw3 := hgo i rfl
      cases hf : fair (ws.drop u) with
      | none =>
        simp only [hf, used, List.drop_zero] at hwv2
        have hrn : rolls ws l.length = none := rolls_none (n := i + 1) (by simp only [rolls, hro, hf]) _ (by omega)
        simp only [Option.some.injEq, exists_eq_left', List.getElem?_cons_zero, List.getElem?_cons_succ, belowV, I]
        refine wp_seq (wp_region ?_)
        simp only [wps_go, wps_nil, wpo_mv, put_some, at_t, upd_app, thenQ, ↓reduceIte, r3n56]
        unfold c3n59
        refine wp_seq (wp_region ?_)
        simp only [wps_go, wps_nil, wps_tf, wpo_mv, wx_pick, put_some, at_t, at_c, upd_app, thenQ, isB, Option.some.injEq, exists_eq_left', Nat.reduceEqDiff, ↓reduceIte, reduceCtorEq, r3n57]
        refine wp_false rfl ?_
        try simp only [WP_skip, thenQ, exitQ]
        refine wp_region ?_
        simp only [wps_go, wps_nil, wpo_mv, wpo_scal, put_some, at_t, bo_op, scalV, oprV, ofVal_int, upd_app, thenQ, binV_int, intV, Option.some.injEq, exists_eq_left', Nat.reduceEqDiff, ↓reduceIte, r3n60, F22, hw3]
        exact ⟨0, by omega, hk2, F8, F11, F15, F16, wv', u, hs2, hwv2, hws2, hu, .inr ⟨i + 1, by trivial, by omega, by trivial, by trivial, hrn, by omega, _, F19⟩⟩
      | some p =>
        obtain ⟨dd, c⟩ := p
        simp only [hf, used] at hwv2
        rw [List.drop_drop] at hwv2
        have hp := fair_pos (fun w hx => hw w (List.mem_of_mem_drop hx)) hf
        have hcl := fair_le hf
        simp only [List.length_drop] at hcl hp
        have hro2 : rolls ws (i + 1) = some (rs ++ [dd + 1], u + c) := by simp only [rolls, hro, hf]
        have hw1 : IntKind.i64.wrap (dd + 1) = dd + 1 := wrap_in (by omega) (by omega)
        have hge := rolls_ge hw hro
        have hls := lead_snoc (l := l) (rs := rs) (x := dd + 1) hge (by omega)
        have hms := maxFrom_snoc rs 0 (dd + 1)
        simp only [Option.some.injEq, exists_eq_left', List.getElem?_cons_zero, List.getElem?_cons_succ, belowV, I]
        refine wp_seq (wp_region ?_)
        simp only [wps_go, wps_nil, wpo_mv, put_some, at_t, upd_app, thenQ, ↓reduceIte, r3n56]
        unfold c3n59
        refine wp_seq (wp_region ?_)
        simp only [wps_go, wps_nil, wps_tt, wpo_mv, wx_pick, wpo_scal, put_some, at_t, at_c, bo_op, scalV, oprV, ofVal_int, upd_app, thenQ, binV_int, intV, isB, Option.some.injEq, exists_eq_left', Nat.reduceEqDiff, ↓reduceIte, r3n57, F20, hw1]
        refine wp_cond (p := dd + 1 > maxFrom 0 rs) rfl (fun hc => ?_) (fun hc => ?_)
        · rw [if_pos hc] at hls hms
          have hg2 := hk2.arr hg (fun b hb e => by injection e with e; exact hgs b hb e.symm)
          have ix := hg2.idx (k := .i64) (j := i) (by rw [ints_length]; exact hi)
          have lx := hg2.ld (j := i) (x := .int .i64 l[i]) (by simp [ints, I, hi])
          refine wp_draw0 ?_
          simp only [wpd_go, wpd_nil, wpo_mv, wx_indexAddr, wx_load, wpo_scal, put_some, at_t, bo_op, scalV, oprV, ofVal_int, upd_app, thenQ, exitQ, binV_int, intV, Option.some.injEq, exists_eq_left', Nat.reduceEqDiff, ↓reduceIte, r3n58, F11, F22, hw1, ix, lx]
          refine wp_region ?_
          simp only [wps_go, wps_nil, wpo_mv, wpo_scal, put_some, at_t, bo_op, scalV, oprV, ofVal_int, upd_app, thenQ, binV_int, intV, Option.some.injEq, exists_eq_left', Nat.reduceEqDiff, ↓reduceIte, r3n60, F22, hw3]
          refine ⟨l.length - (i + 1) + 1, by omega, hk2, F8, F11, F15, F16, wv', u + c, hs2, hwv2, hws2, by omega, .inl ⟨i + 1, rs ++ [dd + 1], by trivial, by omega, by trivial, by trivial, hro2, ?_, ?_, by omega⟩⟩
          · rw [hms]
          · rw [hls, hrl]
            have : l.getD i 0 = l[i] := by simp [hi]
            rw [this]
        · rw [if_neg hc] at hls hms
          try simp only [WP_skip, thenQ, exitQ]
          refine wp_region ?_
          simp only [wps_go, wps_nil, wpo_mv, wpo_scal, put_some, at_t, bo_op, scalV, oprV, ofVal_int, upd_app, thenQ, binV_int, intV, Option.some.injEq, exists_eq_left', Nat.reduceEqDiff, ↓reduceIte, r3n60, F22, hw3]
          refine ⟨l.length - (i + 1) + 1, by omega, hk2, F8, F11, F15, F16, wv', u + c, hs2, hwv2, hws2, by omega, .inl ⟨i + 1, rs ++ [dd + 1], by trivial, by omega, by trivial, by trivial, hro2, ?_, ?_, by omega⟩⟩
          · rw [hms]; exact F20
          · rw [hls]; exact F19
    · have hend : F 19 = .int .i64 (lead l rs) → WP M 205 (.seq (.region r3n63) c3n67) F h1 (retQ [.tmp 4] Q) → True := fun _ _ => trivial
      have fin : ∃ en unit, F 21 = .bool en ∧ F 19 = .int .i64 unit ∧
          (en = false → awardV l ws = .tup [.int .i64 0, .int .i64 0, .bool false]) ∧ (en = true → awardV l ws = .tup [.int .i64 unit, .int .i64 u, .bool true]) := by
        refine ⟨true, lead l rs, F21, F19, (fun e => by cases e), fun _ => ?_⟩
        by_cases h1l : l.length ≤ 1
        · have h0 := hone h1l
          subst h0
          simp only [rolls, Option.some.injEq, Prod.mk.injEq] at hro
          obtain ⟨rfl, rfl⟩ := hro
          rcases l with _ | ⟨a, _ | ⟨b, l⟩⟩
          · rfl
          · rfl
          · simp at h1l
        · have hil : i = l.length := by omega
          subst hil
          rw [awB (by omega), hro]
          have hge := rolls_ge hw hro
          have hne : rs ≠ [] := by intro e; subst e; simp at hrl; omega
          simp only [← maxL_zero hge]
          cases rs with
          | nil => exact (hne rfl).elim
          | cons a b => rfl
      by_cases hil : i < l.length
      · have e0 : decide ((i : Int) < (l.length : Int)) = true := decide_eq_true (by omega)
        have e1 : decide ((l.length : Int) > 1) = false := decide_eq_false (by omega)
        refine wp_seq (wp_seq (wp_region ?_))
        simp only [wps_go, wps_nil, wps_tt, wps_tf, wpo_mv, wx_lenSlice, wx_pick, wpo_scal, put_some, at_t, at_c, bo_op, scalV, oprV, ofVal_int, upd_app, thenQ, binV_int, intV, isB, Option.some.injEq, exists_eq_left', Nat.reduceEqDiff, ↓reduceIte, reduceCtorEq, r3n54, F11, F22, sg, e0, e1]
        refine wp_false rfl ?_
        simp only [WP_exit, thenQ, exitQ, ↓reduceIte]
        exact after _ F8 F15 F16 fin
      · have e0 : decide ((i : Int) < (l.length : Int)) = false := decide_eq_false (by omega)
        refine wp_seq (wp_seq (wp_region ?_))
        simp only [wps_go, wps_nil, wps_tf, wpo_mv, wx_lenSlice, wx_pick, wpo_scal, put_some, at_t, at_c, bo_op, scalV, oprV, upd_app, thenQ, binV_int, intV, isB, Option.some.injEq, exists_eq_left', Nat.reduceEqDiff, ↓reduceIte, reduceCtorEq, r3n54, F11, F22, sg, e0]
        refine wp_false rfl ?_
        simp only [WP_exit, thenQ, exitQ, ↓reduceIte]
        exact after _ F8 F15 F16 fin
  · have fin : ∃ en unit, F 21 = .bool en ∧ F 19 = .int .i64 unit ∧
        (en = false → awardV l ws = .tup [.int .i64 0, .int .i64 0, .bool false]) ∧ (en = true → awardV l ws = .tup [.int .i64 unit, .int .i64 u, .bool true]) :=
      ⟨false, x, F21, F19, (fun _ => by rw [awB h2l, hro]), fun e => by cases e⟩
    have e1 : decide ((l.length : Int) > 1) = true := decide_eq_true (by omega)
    by_cases hil : i < l.length
    · have e0 : decide ((i : Int) < (l.length : Int)) = true := decide_eq_true (by omega)
      refine wp_seq (wp_seq (wp_region ?_))
      simp only [wps_go, wps_nil, wps_tt, wpo_mv, wx_lenSlice, wx_pick, wpo_scal, put_some, at_t, at_c, bo_op, scalV, oprV, ofVal_int, upd_app, thenQ, binV_int, intV, isB, Option.some.injEq, exists_eq_left', Nat.reduceEqDiff, ↓reduceIte, r3n54, F11, F21, F22, sg, e0, e1]
      refine wp_false rfl ?_
      simp only [WP_exit, thenQ, exitQ, ↓reduceIte]
      exact after _ F8 F15 F16 fin
    · have e0 : decide ((i : Int) < (l.length : Int)) = false := decide_eq_false (by omega)
      refine wp_seq (wp_seq (wp_region ?_))
      simp only [wps_go, wps_nil, wps_tf, wpo_mv, wx_lenSlice, wx_pick, wpo_scal, put_some, at_t, at_c, bo_op, scalV, oprV, upd_app, thenQ, binV_int, intV, isB, Option.some.injEq, exists_eq_left', Nat.reduceEqDiff, ↓reduceIte, reduceCtorEq, r3n54, F11, F22, sg, e0]
      refine wp_false rfl ?_
      simp only [WP_exit, thenQ, exitQ, ↓reduceIte]
      exact after _ F8 F15 F16 fin
end Go.Ideal.T
