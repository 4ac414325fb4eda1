/-
  The ideal machine, part 11: the laws of the built-in functions that write. Conditions: none (lemmas).
-/
import Derived.Test.YtbikhbgmgmaocaaGreatDoorIdT
namespace Go.Ideal
open Go.RowKit

section
variable {P : Program} {B : Nat} {w0 : World} {ρ : LMap} {h h' : Heap} {w : World} {e : Env} {a : Act} {o : Oper}
variable {rc : Nat → List V → IM V} {tok : Nat} {slot : Option Nat} {v : V}

theorem zeroCells_size (z : Array Value) (n : Nat) : (Builtin.zeroCells z n).size = n * z.size := by simp [Builtin.zeroCells]

/-- The end of an append of the model: what is to be appended is known. -/
theorem append_end {sz n : Nat} {x : V} {new : List V} {us : List Value} {xv : Value} {el : TypeId} {z : List V} (R : Rel B w0 ρ h w) (hel : cElem P el = some sz) (hz : cZero P el = some z) (hzn : z.length = sz)
    (hx : VRel ρ x xv) (hn : VRelL ρ new us) (hnl : new.length = n * sz) (hone : allOne new = true) (hr : (appendCells sz x n new).run h = some (v, h')) {appended : Sem (Array Value)}
    (happ : ∀ w' : World, w'.heap = w.heap → appended.run P w' = .ok us.toArray w') {body : Sem Value}
    (hb : ∀ base sl sc, xv = .slice base sl sc → (sl + n ≤ sc → body.run P w =
        (appended.run P w).andThen fun new w => ((match base with | some ad => storeCells (ad.add (sl * sz)) new.toList | none => (pure () : Sem Unit)).run P w).andThen fun _ w => .ok (.slice base (sl + n) sc) w) ∧
      (¬ sl + n ≤ sc → sl + n < big → ¬ Builtin.nextslicecap (sl + n) sc * ((P.info? el).map (·.bytes)).getD 0 > 2 ^ 48 → body.run P w =
        ((choose (.appendCap (sl + n) sc el)).run P w).andThen fun newCap w => ((Builtin.firstCells sz sl (.slice base sl sc)).run P w).andThen fun old w => (appended.run P w).andThen fun new w =>
        ((zeroValue el).run P w).andThen fun zv w => .ok (.slice (some ⟨w.heap.size, 0, none⟩) (sl + n) newCap) { w with heap := w.heap.push (.cells (old ++ new ++ Builtin.zeroCells zv.cells (newCap - (sl + n))) el) })) :
    ∃ ρ' u w', body.run P w = .ok u w' ∧ Ext ρ ρ' ∧ VRel ρ' v u ∧ Rel B w0 ρ' h' w' := by
  obtain ⟨inf, hi, hs, hp, hb0, hb1⟩ := cElem_info hel
  obtain ⟨zv, hzr, hzz, hzs⟩ := cZero_size hz
  have hxs : ∃ base sl sc, xv = .slice base sl sc := by
    unfold appendCells at hr
    split at hr
    · simp only [VRel] at hx; exact ⟨_, _, _, hx⟩
    · simp only [VRel] at hx; obtain ⟨l, ad, m, _, h2, _⟩ := hx; exact ⟨_, _, _, h2⟩
    · simp at hr
  obtain ⟨base, sl, sc, rfl⟩ := hxs
  have hA := append_rel (P := P) (el := el) hp R hx hn hnl hone hr
  by_cases hc : sl + n ≤ sc
  · obtain ⟨ρ', w', h1, h2, h3, h4⟩ := hA.1 hc
    refine ⟨ρ', .slice base (sl + n) sc, w', ?_, h2, h3, h4⟩
    rw [(hb base sl sc rfl).1 hc, happ w rfl]
    simp only [Result.andThen_ok]
    cases base <;> simp only at h1 ⊢ <;> rw [h1] <;> rfl
  · obtain ⟨hbig, h1⟩ := hA.2 (by omega)
    have hnc := nextslicecap_le (need := sl + n) (old := sc) (by omega)
    have hno : ¬ Builtin.nextslicecap (sl + n) sc * ((P.info? el).map (·.bytes)).getD 0 > 2 ^ 48 := by
      rw [hi]; simp only [Option.map_some, Option.getD_some]
      unfold big at hbig
      have : Builtin.nextslicecap (sl + n) sc * inf.bytes ≤ (4 * 2147483648 + 2048) * 4096 := Nat.mul_le_mul (by omega) hb1
      omega
    rw [(hb base sl sc rfl).2 hc hbig hno]
    let newCap := (Question.appendCap (sl + n) sc el).cut (w.tape w.drawn (.appendCap (sl + n) sc el))
    have hcap : sl + n ≤ newCap := by simp only [newCap, Question.cut]; omega
    obtain ⟨ρ', old, q1, q2, q3, q4⟩ := h1 (w.drawn + 1) newCap (Builtin.zeroCells zv.cells (newCap - (sl + n))) hcap (by rw [zeroCells_size, hzs, hzn])
    refine ⟨ρ', _, _, ?_, q2, q3, q4⟩
    simp only [run_choose, Question.forced, Bool.false_eq_true, if_false, Result.andThen_ok]
    rw [q1 { w with drawn := w.drawn + 1 } rfl]
    simp only [Result.andThen_ok]
    rw [happ { w with drawn := w.drawn + 1 } rfl]
    simp only [Result.andThen_ok, hzr]
    rfl

theorem two_args {c : Call} {x y : Operand} (hx : c.args.toList = [x, y]) : c.args = #[x, y] := by apply Array.ext'; simpa using hx
theorem two_types {c : Call} {t u : TypeId} (hx : c.argTypes.toList = [t, u]) : c.argTypes = #[t, u] := by apply Array.ext'; simpa using hx

theorem append_exec {c : Call} {x y : Operand} {t u : TypeId} (ho : o.op = .call c) (hc : c.callee = .builtin .append) (hx : c.args.toList = [x, y]) (hts : c.argTypes.toList = [t, u])
    {ρ' : LMap} {u' : Value} {w' : World} (hr : (Builtin.append_ #[t, u] o.type #[a.eval x, a.eval y]).run P w = .ok u' w') (h1 : Ext ρ ρ') (h2 : VRel ρ' v u') (h3 : Rel B w0 ρ' h' w') :
    Good B w0 ρ v h' ((execOp a.eval o).run P w) := by
  refine ⟨ρ', u', w', .inl ?_, h1, h2, h3⟩
  simp only [execOp, ho, resolve, hc, two_args hx, two_types hts, Sem.run_bind, Sem.run_pure, Result.andThen_ok, invoke, builtin]
  have e1 : (#[x, y].map a.eval) = #[a.eval x, a.eval y] := by simp
  rw [e1, hr]; rfl

theorem append_sound {c : Call} {x y : Operand} {x' y' : Opd} {t u el el2 : TypeId} {n : Nat} {z : List V} (ho : o.op = .call c) (hc : c.callee = .builtin .append) (hx : c.args.toList = [x, y]) (hts : c.argTypes.toList = [t, u])
    (ht : P.underlying t = some (.slice el)) (hu : P.underlying u = some (.slice el2)) (hn : cElem P el = some n) (hz : cZero P el = some z) (hzn : z.length = n) (hx' : cOpd x = some x') (hy' : cOpd y = some y')
    (hr : (iop P rc tok slot e (.append n x' y')).run h = some (v, h')) (he : EnvRel ρ e a) (R : Rel B w0 ρ h w) :
    Good B w0 ρ v h' ((execOp a.eval o).run P w) := by
  have hxr := ev_rel hx' he
  have hyr := ev_rel hy' he
  simp only [iop] at hr
  obtain ⟨⟨k, new⟩, h1, hsc, hr2⟩ := IM.run_bind_some hr
  clear hr
  obtain ⟨rfl, hlen, us, hfc, hnew, hnl, hone, ya, yc, hyv⟩ := firstCells_rel (P := P) R hsc hyr
  obtain ⟨inf, hi, _, _, hbp, _⟩ := cElem_info hn
  obtain ⟨ρ', u', w', q1, q2, q3, q4⟩ := append_end (P := P) (body := Builtin.append_ #[t, u] o.type #[a.eval x, a.eval y]) (appended := Builtin.firstCells n k (a.eval y)) R hn hz hzn hxr hnew hnl hone hr2 hfc (by
    intro base sl sc hbv
    simp only [Builtin.append_, List.getElem?_toArray, List.getElem?_cons_zero, List.getElem?_cons_succ, Sem.run_bind, run_underlying ht, run_underlying hu, Result.andThen_ok, hbv, run_sizeOf' hn, Sem.run_pure, Bool.false_eq_true, if_false, hlen, Bool.not_false, if_true, hi, Option.map_some, Option.getD_some]
    refine ⟨fun hc => ?_, fun hc hbg hno => ?_⟩
    · simp only [if_pos hc, Sem.run_bind]
      cases base <;> simp only [Sem.run_bind, Sem.run_pure] <;> rfl
    · have hb0 : ¬ (((sl + k : Nat) : Int) > IntKind.i64.max ∧ (False ∨ inf.bytes = 0)) := by
        rintro ⟨_, hh | hh⟩
        · exact hh
        · omega
      simp only [if_neg hc, Sem.run_bind, run_typeInfo hi, Result.andThen_ok, if_neg hb0, if_neg hno, run_askRoom, newRow, run_newObj, Sem.run_pure])
  exact append_exec ho hc hx hts q1 q2 q3 q4

theorem strCells_rel (s : ByteArray) : VRelL ρ (s.data.toList.map fun c => V.int .u8 c.toNat) (s.data.toList.map fun b => Value.int .u8 b.toNat) :=
  VRelL_of_get (by simp) fun i q hq => by
    rw [List.getElem?_map] at hq ⊢
    cases hg : s.data.toList[i]? with
    | none => rw [hg] at hq; cases hq
    | some q' => rw [hg] at hq; simp at hq; subst hq; exact ⟨_, rfl, by simp [VRel]⟩

theorem extract_all (s : ByteArray) : s.extract 0 s.size = s := by simp

theorem appendStr_sound {c : Call} {x y : Operand} {x' y' : Opd} {t u el : TypeId} {z : List V} (ho : o.op = .call c) (hc : c.callee = .builtin .append) (hx : c.args.toList = [x, y]) (hts : c.argTypes.toList = [t, u])
    (ht : P.underlying t = some (.slice el)) (hu : P.underlying u = some .string) (hn : cElem P el = some 1) (hz : cZero P el = some z) (hzn : z.length = 1) (hx' : cOpd x = some x') (hy' : cOpd y = some y')
    (hr : (iop P rc tok slot e (.appendStr x' y')).run h = some (v, h')) (he : EnvRel ρ e a) (R : Rel B w0 ρ h w) :
    Good B w0 ρ v h' ((execOp a.eval o).run P w) := by
  have hxr := ev_rel hx' he
  have hyr := ev_rel hy' he
  simp only [iop] at hr
  split at hr
  · rename_i s hv
    rw [hv] at hyr; simp only [VRel] at hyr
    obtain ⟨inf, hi, _, _, hbp, _⟩ := cElem_info hn
    have hsz : s.data.toList.length = s.size := rfl
    have hlen : ∀ w' : World, (Builtin.lenOf (a.eval y)).run P w' = .ok s.size w' := fun w' => by rw [hyr]; rfl
    have hfc : ∀ w' : World, w'.heap = w.heap → (Builtin.firstCells 1 s.size (a.eval y)).run P w' = .ok (s.data.toList.map fun b => Value.int .u8 b.toNat).toArray w' := fun w' _ => by
      rw [hyr]; simp only [Builtin.firstCells, Sem.run_pure, extract_all]
      congr 1; apply Array.ext'; simp
    obtain ⟨ρ', u', w', q1, q2, q3, q4⟩ := append_end (P := P) (body := Builtin.append_ #[t, u] o.type #[a.eval x, a.eval y]) (appended := Builtin.firstCells 1 s.size (a.eval y)) R hn hz hzn hxr (strCells_rel s) (by simp [hsz])
        (by unfold allOne; rw [List.all_map]; exact List.all_eq_true.2 fun _ _ => rfl) hr hfc (by
      intro base sl sc hbv
      simp only [Builtin.append_, List.getElem?_toArray, List.getElem?_cons_zero, List.getElem?_cons_succ, Sem.run_bind, run_underlying ht, run_underlying hu, Result.andThen_ok, hbv, run_sizeOf' hn, Sem.run_pure, Bool.false_eq_true, if_false, hlen, Bool.not_false, if_true, hi, Option.map_some, Option.getD_some]
      refine ⟨fun hc => ?_, fun hc hbg hno => ?_⟩
      · simp only [if_pos hc, Sem.run_bind]
        cases base <;> simp only [Sem.run_bind, Sem.run_pure] <;> rfl
      · have hb0 : ¬ (((sl + s.size : Nat) : Int) > IntKind.i64.max ∧ (False ∨ inf.bytes = 0)) := by
          rintro ⟨_, hh | hh⟩
          · exact hh
          · omega
        simp only [if_neg hc, Sem.run_bind, run_typeInfo hi, Result.andThen_ok, if_neg hb0, if_neg hno, run_askRoom, newRow, run_newObj, Sem.run_pure])
    exact append_exec ho hc hx hts q1 q2 q3 q4
  · simp at hr

theorem appendZ_sound {c : Call} {x y : Operand} {x' y' : Opd} {t u el : TypeId} {n : Nat} {z : List V} (ho : o.op = .call c) (hc : c.callee = .builtin .append) (hx : c.args.toList = [x, y]) (hts : c.argTypes.toList = [t, u])
    (ht : P.underlying t = some (.slice el)) (hu : P.underlying u = some (.int .i64)) (hn : cElem P el = some n) (hz : cZero P el = some z) (hzn : z.length = n) (hx' : cOpd x = some x') (hy' : cOpd y = some y')
    (hr : (iop P rc tok slot e (.appendZ n z x' y')).run h = some (v, h')) (he : EnvRel ρ e a) (R : Rel B w0 ρ h w) :
    Good B w0 ρ v h' ((execOp a.eval o).run P w) := by
  have hxr := ev_rel hx' he
  have hyr := ev_rel hy' he
  simp only [iop] at hr
  split at hr
  · rename_i k hv
    rw [hv] at hyr
    have hyr := VRel_int hyr
    split at hr
    · rename_i hk
      obtain ⟨inf, hi, _, hnp, hbp, hbm⟩ := cElem_info hn
      obtain ⟨zv, hzr, hzz, hzs⟩ := cZero_size hz
      have hbig : k < 2147483648 := by have := hk.2; unfold big at this; omega
      have hw : IntKind.i64.wrap k = k := IntWalk.i64_in k (by omega)
      have h2 : k * (inf.bytes : Int) ≤ 2147483648 * 4096 := by apply Int.mul_le_mul <;> omega
      have hno1 : ¬ k < 0 := by omega
      have hno2 : ¬ k * (inf.bytes : Int) > 2 ^ 48 := by omega
      let appended : Sem (Array Value) := if k.toNat * n = 0 then pure #[] else do pure (Builtin.zeroCells (← zeroValue el).cells k.toNat)
      have hfc : ∀ w' : World, w'.heap = w.heap → appended.run P w' = .ok (List.replicate k.toNat zv.cells.toList).flatten.toArray w' := fun w' _ => by
        by_cases h0 : k.toNat * n = 0
        · have h1 : k.toNat = 0 := by
            rcases Nat.mul_eq_zero.1 h0 with h2 | h2
            · exact h2
            · omega
          simp only [appended, if_pos h0, Sem.run_pure, h1]
          simp
        · simp only [appended, if_neg h0, Sem.run_bind, hzr, Result.andThen_ok, Sem.run_pure]
          congr 1
          apply Array.ext'
          rw [← zeros_list]; rfl
      obtain ⟨ρ', u', w', q1, q2, q3, q4⟩ := append_end (P := P) (body := Builtin.append_ #[t, u] o.type #[a.eval x, a.eval y]) (appended := appended) R hn hz hzn hxr (VRelL_reps (hzz ρ) k.toNat) (by simp [hzn])
          (allOne_reps (cZero_one hz) _) hr hfc (by
        intro base sl sc hbv
        simp only [Builtin.append_, List.getElem?_toArray, List.getElem?_cons_zero, List.getElem?_cons_succ, Sem.run_bind, run_underlying ht, run_underlying hu, Result.andThen_ok, hbv, hyr, run_sizeOf' hn, Sem.run_pure, if_true, asInt, asIntOf, hw, if_neg hno1, run_typeInfo hi, if_neg hno2, Bool.not_true, Bool.false_eq_true, if_false, hi, Option.map_some, Option.getD_some]
        refine ⟨fun hc => ?_, fun hc hbg hno => ?_⟩
        · by_cases h0 : k.toNat * n = 0
          · simp only [if_pos hc, Sem.run_bind, appended, if_pos h0]
            cases base <;> simp only [Sem.run_bind, Sem.run_pure, Result.andThen_ok] <;> rfl
          · simp only [if_pos hc, Sem.run_bind, appended, if_neg h0]
            cases base <;> simp only [Sem.run_bind, Sem.run_pure, hzr, Result.andThen_ok] <;> rfl
        · have hb0 : ¬ (((sl + k.toNat : Nat) : Int) > IntKind.i64.max ∧ (True ∨ inf.bytes = 0)) := by
            rintro ⟨hh, _⟩
            have h3 : IntKind.i64.max = 9223372036854775807 := by decide
            rw [h3] at hh
            unfold big at hbg
            omega
          by_cases h0 : k.toNat * n = 0
          · simp only [if_neg hc, Sem.run_bind, run_typeInfo hi, Result.andThen_ok, if_neg hb0, if_neg hno, run_askRoom, newRow, run_newObj, Sem.run_pure, appended, if_pos h0]
          · simp only [if_neg hc, Sem.run_bind, run_typeInfo hi, Result.andThen_ok, if_neg hb0, if_neg hno, run_askRoom, newRow, run_newObj, Sem.run_pure, appended, if_neg h0])
      exact append_exec ho hc hx hts q1 q2 q3 q4
    · simp at hr
  · simp at hr

/-! ### Copying, clearing, bytes as a string -/
theorem putCells_nil {b off : Nat} (hr : (putCells b off []).run h = some ((), h')) (R : Rel B w0 ρ h w) : Rel B w0 ρ h' w := by
  simp only [putCells] at hr
  obtain ⟨z, hz, hr⟩ := get_inv hr
  split at hr
  · rename_i cs
    split at hr
    · simp only [IM.run] at hr
      rw [hz] at hr
      simp only [Option.some.injEq, Prod.mk.injEq, true_and] at hr
      subst hr
      have e1 : List.take off cs ++ [] ++ List.drop (off + ([] : List V).length) cs = cs := by simp
      rw [e1]
      have : h.set b (some (.cells true cs)) = h := by
        apply List.ext_getElem?
        intro i
        rw [List.getElem?_set]
        split
        · rename_i hi; subst hi
          split
          · exact hz.symm
          · rename_i hge; rw [List.getElem?_eq_none (by omega)]
        · rfl
      rw [this]; exact R
    · simp at hr
  · simp at hr

theorem copy_sound {c : Call} {x y : Operand} {x' y' : Opd} {t u el : TypeId} {n : Nat} (ho : o.op = .call c) (hc : c.callee = .builtin .copy) (hx : c.args.toList = [x, y]) (hts : c.argTypes.toList = [t, u])
    (ht : P.underlying t = some (.slice el)) (hn : cElem P el = some n) (hx' : cOpd x = some x') (hy' : cOpd y = some y')
    (hr : (iop P rc tok slot e (.copy n x' y')).run h = some (v, h')) (he : EnvRel ρ e a) (R : Rel B w0 ρ h w) :
    Good B w0 ρ v h' ((execOp a.eval o).run P w) := by
  have hxr := ev_rel hx' he
  have hyr := ev_rel hy' he
  simp only [iop] at hr
  obtain ⟨⟨k, new⟩, h1, hsc, hr2⟩ := IM.run_bind_some hr
  clear hr
  obtain ⟨rfl, hlen, us, hfc, hnew, hnl, hone, ya, yc, hyv⟩ := firstCells_rel (P := P) R hsc hyr
  obtain ⟨inf, hi, _, hnp, _, _⟩ := cElem_info hn
  have hfirst : ∀ m, m ≤ k → ∃ us', (Builtin.firstCells n m (a.eval y)).run P w = .ok us'.toArray w ∧ us' = us.take (m * n) := by
    intro m hm
    have := hfc w rfl
    rw [hyv] at this ⊢
    cases ya with
    | none =>
      simp only [Builtin.firstCells, Sem.run_pure] at this ⊢
      injection this with h1 _
      have : us = [] := by simpa using h1.symm
      exact ⟨[], rfl, by rw [this]; simp⟩
    | some ad =>
      simp only [Builtin.firstCells] at this ⊢
      -- fewer cells
      obtain ⟨rfl2, h1⟩ := sliceCells_inv hsc
      rcases h1 with ⟨e1, _, _⟩ | ⟨b, off, cap, more, own, ds, e1, hb, hle, e2⟩
      · rw [e1] at hyr; simp only [VRel] at hyr; rw [hyv] at hyr; cases hyr
      · rw [e1] at hyr; simp only [VRel] at hyr
        obtain ⟨l, ad', m', hl, e3, g1, g2, g3, g4, g5, g6⟩ := hyr
        rw [hyv] at e3; injection e3 with e3 e4 e5; injection e3 with e3; subst e3
        have hmn : m * n ≤ k * n := Nat.mul_le_mul_right _ hm
        rcases g6 with rfl | g6
        · obtain ⟨l', hl', C, T, fr, q1, q2, q3, q4, q5, q6⟩ := R.live b _ hb
          rw [hl] at hl'; injection hl' with hl'; subst hl'
          have r1 := run_loadCells (P := P) (r := l.blk) (off := l.off + off) (n := m * n) q1 (by omega)
          have r2 := run_loadCells (P := P) (r := l.blk) (off := l.off + off) (n := k * n) q1 (by omega)
          rw [r2] at this
          injection this with h1 _
          have h3 : us = (C.toList.drop (l.off + off)).take (k * n) := by simpa using h1.symm
          exact ⟨_, r1, by rw [h3, List.take_take]; congr 1; omega⟩
        · have h0 : k = 0 := by omega
          subst h0
          have h0 : m = 0 := by omega
          subst h0
          exact ⟨[], by simp [loadCells, loadCellsFrom], by simp⟩
  have exec : ∀ {ρ' : LMap} {u' : Value} {w' : World}, (Builtin.copy_ #[t, u] o.type #[a.eval x, a.eval y]).run P w = .ok u' w' → Ext ρ ρ' → VRel ρ' v u' → Rel B w0 ρ' h' w' → Good B w0 ρ v h' ((execOp a.eval o).run P w) := by
    intro ρ' u' w' hr h1 h2 h3
    refine ⟨ρ', u', w', .inl ?_, h1, h2, h3⟩
    simp only [execOp, ho, resolve, hc, two_args hx, two_types hts, Sem.run_bind, Sem.run_pure, Result.andThen_ok, invoke, builtin]
    have e1 : (#[x, y].map a.eval) = #[a.eval x, a.eval y] := by simp
    rw [e1, hr]; rfl
  split at hr2
  · rename_i hv
    obtain ⟨rfl, rfl⟩ := pure_inv hr2
    rw [hv] at hxr; simp only [VRel] at hxr
    obtain ⟨us', hf, _⟩ := hfirst 0 (Nat.zero_le _)
    refine exec (ρ' := ρ) (u' := .int .i64 0) (w' := w) ?_ (.refl ρ) (by simp [VRel]) R
    simp only [Builtin.copy_, List.getElem?_toArray, List.getElem?_cons_zero, List.getElem?_cons_succ, Sem.run_bind, run_underlying ht, Result.andThen_ok, hxr, hlen, run_sizeOf' hn, Sem.run_pure]
    rw [show Nat.min k 0 = 0 from Nat.min_zero k, hf]
    rfl
  · rename_i b off sz' len cap more hv
    split at hr2
    · rename_i hs; subst hs
      obtain ⟨_, h2, hp, hr3⟩ := IM.run_bind_some hr2
      clear hr2
      obtain ⟨rfl, rfl⟩ := pure_inv hr3
      rw [hv] at hxr; simp only [VRel] at hxr
      obtain ⟨l, ad, m, hl, hu, g1, g2, g3, g4, g5, g6⟩ := hxr
      obtain ⟨us', hf, hus'⟩ := hfirst (min k len) (Nat.min_le_left _ _)
      have hrel : VRelL ρ (new.take (min k len * sz')) us' := by rw [hus']; exact VRelL_take _ hnew
      have base : ∀ {w' : World}, (storeCells ad us').run P w = .ok () w' → (Builtin.copy_ #[t, u] o.type #[a.eval x, a.eval y]).run P w = .ok (.int .i64 (min k len : Nat)) w' := by
        intro w' hst
        simp only [Builtin.copy_, List.getElem?_toArray, List.getElem?_cons_zero, List.getElem?_cons_succ, Sem.run_bind, run_underlying ht, Result.andThen_ok, hu, hlen, run_sizeOf' hn, Sem.run_pure]
        rw [show Nat.min k len = min k len from rfl, hf]
        simp only [Result.andThen_ok, hst]
        rfl
      rcases g6 with rfl | g6
      · obtain ⟨w', hw, hR⟩ := put_rel (P := P) R hp hl hrel (allOne_take _ hone)
        exact exec (ρ' := ρ) (w' := w') (base hw) (.refl ρ) (by simp [VRel]) hR
      · have h0 : min k len = 0 := by omega
        have hus0 : us' = [] := by rw [hus', h0]; simp
        rw [h0, Nat.zero_mul, List.take_zero] at hp
        have hR := putCells_nil hp R
        refine exec (ρ' := ρ) (w' := w) (base (by rw [hus0]; rfl)) (.refl ρ) (by simp [VRel]) hR
    · simp at hr2
  · simp at hr2

theorem clear_sound {c : Call} {x : Operand} {x' : Opd} {t el : TypeId} {n : Nat} {z : List V} (ho : o.op = .call c) (hc : c.callee = .builtin .clear) (hx : c.args.toList = [x]) (hts : c.argTypes.toList = [t])
    (ht : P.underlying t = some (.slice el)) (hz : cZero P el = some z) (hx' : cOpd x = some x')
    (hr : (iop P rc tok slot e (.clear n z x')).run h = some (v, h')) (he : EnvRel ρ e a) (R : Rel B w0 ρ h w) :
    Good B w0 ρ v h' ((execOp a.eval o).run P w) := by
  have hxr := ev_rel hx' he
  have e1 : c.args = #[x] := by apply Array.ext'; simpa using hx
  have e2 : c.argTypes = #[t] := by apply Array.ext'; simpa using hts
  obtain ⟨zv, hzr, hzz, hzs⟩ := cZero_size hz
  have exec : ∀ {ρ' : LMap} {w' : World}, v = .undef → (Builtin.clear_ #[t] o.type #[a.eval x]).run P w = .ok (.tuple #[]) w' → Ext ρ ρ' → Rel B w0 ρ' h' w' → Good B w0 ρ v h' ((execOp a.eval o).run P w) := by
    intro ρ' w' hv hr h1 h3
    refine ⟨ρ', .tuple #[], w', .inl ?_, h1, by rw [hv]; exact VRel_undef, h3⟩
    simp only [execOp, ho, resolve, hc, e1, e2, Sem.run_bind, Sem.run_pure, Result.andThen_ok, invoke, builtin]
    have e1 : (#[x].map a.eval) = #[a.eval x] := by simp
    rw [e1, hr]; rfl
  simp only [iop] at hr
  split at hr
  · rename_i hv
    obtain ⟨rfl, rfl⟩ := pure_inv hr
    rw [hv] at hxr; simp only [VRel] at hxr
    refine exec (ρ' := ρ) (w' := w) rfl ?_ (.refl ρ) R
    simp [Builtin.clear_, run_underlying ht, hxr]
  · rename_i b off sz' len cap more hv
    split at hr
    · rename_i hs; subst hs
      obtain ⟨_, h2, hp, hr3⟩ := IM.run_bind_some hr
      clear hr
      obtain ⟨rfl, rfl⟩ := pure_inv hr3
      rw [hv] at hxr; simp only [VRel] at hxr
      obtain ⟨l, ad, m, hl, hu, g1, g2, g3, g4, g5, g6⟩ := hxr
      by_cases h0 : len = 0
      · subst h0
        rw [List.replicate_zero, List.flatten_nil] at hp
        refine exec (ρ' := ρ) (w' := w) rfl ?_ (.refl ρ) (putCells_nil hp R)
        simp [Builtin.clear_, run_underlying ht, hu]
      · have had : ad = ⟨l.blk, l.off + off, none⟩ := by
          rcases g6 with g6 | g6
          · exact g6
          · omega
        subst had
        obtain ⟨w', hw, hR⟩ := put_rel (P := P) R hp hl (VRelL_reps (hzz ρ) len) (allOne_reps (cZero_one hz) _)
        refine exec (ρ' := ρ) (w' := w') rfl ?_ (.refl ρ) hR
        have e3 : (Builtin.zeroCells zv.cells len).toList = (List.replicate len zv.cells.toList).flatten := zeros_list _ _
        obtain ⟨len, rfl⟩ : ∃ k, len = k + 1 := ⟨len - 1, by omega⟩
        simp only [Builtin.clear_, List.getElem?_toArray, List.getElem?_cons_zero, Sem.run_bind, run_underlying ht, Result.andThen_ok, hu, hzr, e3, hw, Sem.run_pure]
    · simp at hr
  · simp at hr

theorem bytesOf_rel : ∀ {vs : List V} {l : List UInt8} {us : List Value}, bytesOf vs = some l → VRelL ρ vs us → ∃ ns : List Int, us = ns.map (Value.int .u8) ∧ l = ns.map fun n => UInt8.ofNat n.toNat
  | [], l, us, h, hu => by simp [bytesOf] at h; subst h; rw [VRelL_nil] at hu; subst hu; exact ⟨[], rfl, rfl⟩
  | v :: vs, l, us, h, hu => by
    rw [VRelL_cons] at hu
    obtain ⟨u, us', rfl, h1, h2⟩ := hu
    unfold bytesOf at h
    split at h
    · rename_i e; cases e
    · rename_i n vs' e
      injection e with e1 e2; subst e1 e2
      simp only [Option.map_eq_some_iff] at h
      obtain ⟨l', hl', rfl⟩ := h
      obtain ⟨ns, rfl, rfl⟩ := bytesOf_rel hl' h2
      exact ⟨n :: ns, by simp [VRel_int h1], rfl⟩
    · cases h

theorem foldl_push : ∀ (ns : List Int) (s : ByteArray), ns.foldl (fun r n => r.push (UInt8.ofNat n.toNat)) s = ⟨(s.data.toList ++ ns.map fun n => UInt8.ofNat n.toNat).toArray⟩
  | [], s => by simp
  | n :: ns, s => by
    rw [List.foldl_cons, foldl_push ns]
    simp [ByteArray.push]

theorem bytesStr_sound {s t el : TypeId} {x : Operand} {y : Opd} (ho : o.op = .convert s t x) (hs : P.underlying s = some (.slice el)) (ht : P.underlying t = some .string) (hel : P.underlying el = some (.int .u8)) (hy : cOpd x = some y)
    (hr : (iop P rc tok slot e (.bytesStr y)).run h = some (v, h')) (he : EnvRel ρ e a) (R : Rel B w0 ρ h w) :
    Good B w0 ρ v h' ((execOp a.eval o).run P w) := by
  have hx := ev_rel hy he
  simp only [iop] at hr
  obtain ⟨⟨k, cs⟩, h1, hsc, hr2⟩ := IM.run_bind_some hr
  clear hr
  obtain ⟨rfl, hlen, us, hfc, hnew, hnl, hone, ya, yc, hyv⟩ := firstCells_rel (P := P) R hsc hx
  split at hr2
  · rename_i l hl
    obtain ⟨rfl, rfl⟩ := pure_inv hr2
    obtain ⟨ns, rfl, rfl⟩ := bytesOf_rel hl hnew
    refine Good.plain (u := .string ⟨(ns.map fun n => UInt8.ofNat n.toNat).toArray⟩) ?_ (by simp [VRel]) R
    have hconv : (convert s t (a.eval x)).run P w = .ok (.string ⟨(ns.map fun n => UInt8.ofNat n.toNat).toArray⟩) w := by
      have h3 := hfc w rfl
      rw [hyv] at h3 ⊢
      rw [run_convert_bytes_string w s t el ya k yc hs hel ht]
      cases ya with
      | none =>
        simp only [Builtin.firstCells, Sem.run_pure] at h3
        injection h3 with h3 _
        have : ns = [] := by
          have := congrArg Array.size h3
          simpa using this.symm
        subst this
        rfl
      | some ad =>
        simp only [Builtin.firstCells, Nat.mul_one] at h3
        rw [run_bytesToString w ad k yc ns h3, foldl_push]
        rfl
    simp only [execOp, ho, Sem.run_bind, hconv, Result.andThen_ok, Sem.run_pure]
  · simp at hr2
end
end Go.Ideal
