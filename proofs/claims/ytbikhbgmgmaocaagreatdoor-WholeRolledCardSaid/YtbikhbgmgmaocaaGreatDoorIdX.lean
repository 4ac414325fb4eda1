/-
  The ideal machine, part 13: the laws of deleting from a map, and of ranging over one. Conditions: none (lemmas).
-/
import Derived.Test.YtbikhbgmgmaocaaGreatDoorIdW
namespace Go.Ideal
open Go.RowKit

section
variable {P : Program} {B : Nat} {w0 : World} {ρ : LMap} {h h' : Heap} {w : World} {e : Env} {a : Act} {o : Oper}
variable {rc : Nat → List V → IM V} {tok : Nat} {slot : Option Nat} {v : V}

theorem delete_sound {ik : Bool} {c : Call} {x k : Operand} {x' k' : Opd} {t u kt el : TypeId} {d : TypeDesc} (ho : o.op = .call c) (hc : c.callee = .builtin .delete) (hx : c.args.toList = [x, k]) (hts : c.argTypes.toList = [t, u])
    (ht : P.underlying t = some (.map kt el)) (hkt : P.underlying kt = some d) (hd : KeyD ik d) (hx' : cOpd x = some x') (hk' : cOpd k = some k')
    (hr : (iop P rc tok slot e (.delete ik x' k')).run h = some (v, h')) (he : EnvRel ρ e a) (R : Rel B w0 ρ h w) :
    Good B w0 ρ v h' ((execOp a.eval o).run P w) := by
  have hxr := ev_rel hx' he
  have hkr := ev_rel hk' he
  have exec : ∀ {w' : World}, v = .undef → (Builtin.delete_ #[t, u] o.type #[a.eval x, a.eval k]).run P w = .ok (.tuple #[]) w' → Rel B w0 ρ h' w' → Good B w0 ρ v h' ((execOp a.eval o).run P w) := by
    intro w' hv hr h3
    refine ⟨ρ, .tuple #[], w', .inl ?_, .refl ρ, by rw [hv]; exact VRel_undef, h3⟩
    simp only [execOp, ho, resolve, hc, two_args hx, two_types hts, Sem.run_bind, Sem.run_pure, Result.andThen_ok, invoke, builtin]
    have e1 : (#[x, k].map a.eval) = #[a.eval x, a.eval k] := by simp
    rw [e1, hr]; rfl
  simp only [iop] at hr
  split at hr
  · rename_i hv
    rw [hv] at hxr; simp only [VRel] at hxr
    split at hr
    · obtain ⟨rfl, rfl⟩ := pure_inv hr
      refine exec rfl ?_ R
      simp only [Builtin.delete_, List.getElem?_toArray, List.getElem?_cons_zero, List.getElem?_cons_succ, Sem.run_bind, run_underlying ht, Result.andThen_ok, hxr, run_checkKey hkt hd, Sem.run_pure]
    · simp at hr
  · rename_i b hv
    rw [hv] at hxr; simp only [VRel] at hxr
    obtain ⟨l, hl, hu⟩ := hxr
    obtain ⟨q, hq, hr⟩ := get_inv hr
    split at hr
    · rename_i es clock
      split at hr
      · rename_i hok
        obtain ⟨us, g1, g2, g3, g4, g5⟩ := map_block R hq hl
        obtain ⟨r, r1, r2⟩ := run_findKey (P := P) hkt hd hkr hok g2 w
        have hget : (getObj l.blk).run P w = .ok (.map us clock) w := by simp only [getObj, Sem.run, g1]
        have hset : ∀ Y, (setObj l.blk Y).run P w = .ok () (setBlk w l.blk Y) := fun Y => by simp only [setObj, Sem.run, g1]; rfl
        have hlen := entriesRel_length g2
        have hX : ∃ Y, w.heap[l.blk]? = some Y ∧ ∀ c t f, Y ≠ .cells c t f := ⟨_, g1, fun _ _ _ => by simp⟩
        rcases r2 with ⟨q1, rfl⟩ | ⟨j, vv, u, q1, rfl, q3, en, q4, q5⟩
        · rw [q1] at hr
          obtain ⟨_, hr⟩ := set_inv hr
          obtain ⟨rfl, rfl⟩ := pure_inv hr
          refine exec (w' := setBlk w l.blk (.map us clock)) rfl ?_ (turn_obj R hq rfl rfl hl ⟨g3, g4⟩ g5 hX ⟨us, by rw [setBlk_get, if_pos ⟨rfl, blk_lt g1⟩], g2, g3, g4, g5⟩)
          simp only [Builtin.delete_, List.getElem?_toArray, List.getElem?_cons_zero, List.getElem?_cons_succ, Sem.run_bind, run_underlying ht, Result.andThen_ok, hu, hget, run_checkKey hkt hd, r1, hset, Sem.run_pure]
        · rw [q1] at hr
          obtain ⟨_, hr⟩ := set_inv hr
          obtain ⟨rfl, rfl⟩ := pure_inv hr
          have hj : j < us.size := by
            rcases Nat.lt_or_ge j us.size with h1 | h1
            · exact h1
            · rw [List.getElem?_eq_none (by simpa using h1)] at q4; cases q4
          have eus : (us.eraseIdxIfInBounds j).toList = us.toList.eraseIdx j := by
            unfold Array.eraseIdxIfInBounds
            rw [dif_pos hj]; simp
          refine exec (w' := setBlk w l.blk (.map (us.eraseIdxIfInBounds j) clock)) rfl ?_ (turn_obj R hq rfl rfl hl ⟨g3, g4⟩ g5 hX ⟨_, by rw [setBlk_get, if_pos ⟨rfl, blk_lt g1⟩], ?_, g3, g4, g5⟩)
          · simp only [Builtin.delete_, List.getElem?_toArray, List.getElem?_cons_zero, List.getElem?_cons_succ, Sem.run_bind, run_underlying ht, Result.andThen_ok, hu, hget, run_checkKey hkt hd, r1, hset, Sem.run_pure]
          · rw [eus]
            refine entriesRel_of ?_ fun i p q hp hq => ?_
            · simp only [List.length_eraseIdx, hlen]
            · rw [List.getElem?_eraseIdx] at hp hq
              split at hp
              · rename_i hij
                rw [if_pos hij] at hq
                exact entriesRel_get g2 i p q hp hq
              · rename_i hij
                rw [if_neg hij] at hq
                exact entriesRel_get g2 (i + 1) p q hp hq
      · simp at hr
    · simp at hr
  · simp at hr

theorem range_sound {t kt el : TypeId} {x : Operand} {x' : Opd} (ho : o.op = .range t x) (ht : P.underlying t = some (.map kt el)) (hx' : cOpd x = some x')
    (hr : (iop P rc tok slot e (.range x')).run h = some (v, h')) (he : EnvRel ρ e a) (R : Rel B w0 ρ h w) :
    Good B w0 ρ v h' ((execOp a.eval o).run P w) := by
  have hxr := ev_rel hx' he
  simp only [iop] at hr
  split at hr
  · rename_i hv
    rw [hv] at hxr; simp only [VRel] at hxr
    have hmk : (mkBlk 0 none (.iter none 0 [] 0)).run h = some (h.length, h ++ [some (.iter none 0 [] 0)]) := rfl
    simp only [IM.run, Option.some.injEq, Prod.mk.injEq] at hr
    obtain ⟨rfl, rfl⟩ := hr
    obtain ⟨he2, hR⟩ := make_rel (l := ⟨w.heap.size, 0, 0, 1⟩) (x := .mapIter none 0 #[] 0) w.drawn R hmk rfl ⟨none, push_new _ _ _, rfl, rfl, R.bound, rfl⟩
    refine ⟨_, .pointer (some ⟨w.heap.size, 0, none⟩), _, .inl ?_, he2, by simp only [VRel]; exact ⟨_, by simp [upd]; rfl, by simp⟩, hR⟩
    simp only [execOp, ho, Instr.range, Sem.run_bind, run_underlying ht, Result.andThen_ok, hxr, Sem.run_pure, run_newObj]
    rfl
  · rename_i b hv
    rw [hv] at hxr; simp only [VRel] at hxr
    obtain ⟨l, hl, hu⟩ := hxr
    obtain ⟨q, hq, hr⟩ := get_inv hr
    split at hr
    · rename_i es clock
      obtain ⟨us, g1, g2, g3, g4, g5⟩ := map_block R hq hl
      have hget : (getObj l.blk).run P w = .ok (.map us clock) w := by simp only [getObj, Sem.run, g1]
      have hmk : (mkBlk 0 none (.iter (some b) clock [] clock)).run h = some (h.length, h ++ [some (.iter (some b) clock [] clock)]) := rfl
      simp only [IM.run, Option.some.injEq, Prod.mk.injEq] at hr
      obtain ⟨rfl, rfl⟩ := hr
      have hbl : b ≠ h.length := by have := R.lt hl; omega
      obtain ⟨he2, hR⟩ := make_rel (l := ⟨w.heap.size, 0, 0, 1⟩) (x := .mapIter (some l.blk) clock #[] clock) w.drawn R hmk rfl
        ⟨some l.blk, push_new _ _ _, rfl, rfl, R.bound, l, by simp [upd, hbl, hl], rfl⟩
      refine ⟨_, .pointer (some ⟨w.heap.size, 0, none⟩), _, .inl ?_, he2, by simp only [VRel]; exact ⟨_, by simp [upd]; rfl, by simp⟩, hR⟩
      simp only [execOp, ho, Instr.range, Sem.run_bind, run_underlying ht, Result.andThen_ok, hu, hget, Sem.run_pure, run_newObj]
      rfl
    · simp at hr
  · simp at hr

theorem entriesRel_filter {p : Nat → Bool} : ∀ {es : List (V × V × Nat)} {us : List MapEntry}, entriesRel ρ es us → entriesRel ρ (es.filter fun y => p y.2.2) (us.filter fun y => p y.born)
  | [], us, h => by simp only [entriesRel] at h; subst h; simp [entriesRel]
  | x :: es, us, h => by
    obtain ⟨u, us', rfl, h1, h2, h3, h4⟩ := h
    have ih := entriesRel_filter (p := p) h4
    rw [List.filter_cons, List.filter_cons, h3]
    split
    · exact ⟨u, _, rfl, h1, h2, h3, ih⟩
    · exact ih

theorem entriesRel_all {p : Nat → Bool} : ∀ {es : List (V × V × Nat)} {us : List MapEntry}, entriesRel ρ es us → (es.all fun y => p y.2.2) = us.all fun y => p y.born
  | [], us, h => by simp only [entriesRel] at h; subst h; rfl
  | x :: es, us, h => by
    obtain ⟨u, us', rfl, h1, h2, h3, h4⟩ := h
    rw [List.all_cons, List.all_cons, h3, entriesRel_all h4]

theorem iter_block {b : Nat} {l : Loc} {m : Option Nat} {since stepped : Nat} {seen : List Nat} (R : Rel B w0 ρ h w) (hb : h[b]? = some (some (.iter m since seen stepped))) (hl : ρ b = some l) :
    ∃ m', w.heap[l.blk]? = some (.mapIter m' since seen.toArray stepped) ∧ l.off = 0 ∧ l.ext = 1 ∧ B ≤ l.blk ∧ iterM ρ m m' := by
  obtain ⟨l', hl', q⟩ := R.live b _ hb
  rw [hl] at hl'; injection hl' with hl'; subst hl'
  exact q

theorem next_sound {x : Operand} {x' : Opd} (ho : o.op = .next x false) (hx' : cOpd x = some x')
    (hr : (iop P rc tok slot e (.next x')).run h = some (v, h')) (he : EnvRel ρ e a) (R : Rel B w0 ρ h w) :
    Good B w0 ρ v h' ((execOp a.eval o).run P w) := by
  have hxr := ev_rel hx' he
  simp only [iop] at hr
  split at hr
  · rename_i r hv
    rw [hv] at hxr
    obtain ⟨l, hl, hu⟩ := VRel_ptr hxr
    obtain ⟨q, hq, hr⟩ := get_inv hr
    have over : VRel ρ (.tup [.bool false]) (.tuple #[.bool false]) := by simp only [VRel]; exact ⟨_, rfl, VRelL_cons'.2 ⟨by simp [VRel], by simp [VRelL_nil]⟩⟩
    split at hr
    · rename_i since seen stepped
      obtain ⟨m', g1, g2, g3, g4, g5⟩ := iter_block R hq hl
      simp only [iterM] at g5; subst g5
      have hget : (getObj l.blk).run P w = .ok (.mapIter none since seen.toArray stepped) w := by simp only [getObj, Sem.run, g1]
      obtain ⟨rfl, rfl⟩ := pure_inv hr
      refine Good.plain (u := .tuple #[.bool false]) ?_ over R
      simp only [execOp, ho, Instr.next, hu, g2, Nat.add_zero, Sem.run_bind, hget, Result.andThen_ok, Sem.run_pure]
    · rename_i m since seen last
      obtain ⟨m', g1, g2, g3, g4, k, hk, rfl⟩ := iter_block R hq hl
      have hget : (getObj l.blk).run P w = .ok (.mapIter (some k.blk) since seen.toArray last) w := by simp only [getObj, Sem.run, g1]
      obtain ⟨q2, hq2, hr⟩ := get_inv hr
      split at hr
      · rename_i es clock
        obtain ⟨us, k1, k2, k3, k4, k5⟩ := map_block R hq2 hk
        have hget2 : (getObj k.blk).run P w = .ok (.map us clock) w := by simp only [getObj, Sem.run, k1]
        split at hr
        · simp at hr
        · rename_i hcond
          have hall := entriesRel_all (p := fun n => decide (n ≥ last)) k2
          have hflt := entriesRel_filter (p := fun n => !seen.contains n) k2
          have e2 : us.isEmpty = es.isEmpty := by
            have := entriesRel_length k2
            cases es with
            | nil => have h0 : us.toList = [] := List.length_eq_zero_iff.1 this.symm; have : us = #[] := by apply Array.ext'; simpa using h0
                     subst this; rfl
            | cons p ps =>
              have h0 : us.size ≠ 0 := by simp at this; omega
              simp [Array.isEmpty, h0]
          have hcond' : (!seen.toArray.isEmpty && !us.isEmpty && us.all fun y => decide (y.born ≥ last)) = false := by
            rw [Bool.not_eq_true] at hcond
            rw [e2, ← Array.all_toList, ← hall]
            simpa using hcond
          have hfu : (us.filter fun y => !seen.toArray.contains y.born).toList = us.toList.filter fun y => !seen.contains y.born := by
            rw [Array.toList_filter]; simp
          split at hr
          · rename_i hnil
            obtain ⟨rfl, rfl⟩ := pure_inv hr
            rw [hnil] at hflt
            simp only [entriesRel] at hflt
            have hfu0 : (us.filter fun y => !seen.toArray.contains y.born) = #[] := by apply Array.ext'; rw [hfu, hflt]
            refine Good.plain (u := .tuple #[.bool false]) ?_ over R
            simp only [execOp, ho, Instr.next, hu, g2, Nat.add_zero, Sem.run_bind, hget, hget2, Result.andThen_ok, hcond', Bool.false_eq_true, if_false, hfu0]
            simp [Question.forced]
          · rename_i y hy
            rw [hy] at hflt
            obtain ⟨u, us', e3, h1, h2, h3, h4⟩ := hflt
            simp only [entriesRel] at h4; subst h4
            split at hr
            · rename_i hlt
              have hfu1 : (us.filter fun y => !seen.toArray.contains y.born) = #[u] := by apply Array.ext'; rw [hfu, e3]
              have hset : ∀ Y, (setObj l.blk Y).run P w = .ok () (setBlk w l.blk Y) := fun Y => by simp only [setObj, Sem.run, g1]; rfl
              obtain ⟨_, hr⟩ := set_inv hr
              obtain ⟨rfl, rfl⟩ := pure_inv hr
              have hlt' : u.born < since := by rw [← h3]; exact hlt
              refine ⟨ρ, .tuple #[.bool true, u.key, u.val], setBlk w l.blk (.mapIter (some k.blk) since (seen ++ [y.2.2]).toArray clock), .inl ?_, .refl ρ, ?_, ?_⟩
              · have c1 : (#[u].filter fun m => decide (m.born < since)) = #[u] := by simp [hlt']
                have c2 : (#[u].filter fun m => decide (m.born ≥ since)) = #[] := by simp; omega
                simp only [execOp, ho, Instr.next, hu, g2, Nat.add_zero, Sem.run_bind, hget, hget2, Result.andThen_ok, hcond', Bool.false_eq_true, if_false, hfu1, c1, c2]
                simp [Question.forced, hset, h3]
              · simp only [VRel]
                exact ⟨_, rfl, VRelL_cons'.2 ⟨by simp [VRel], VRelL_cons'.2 ⟨h1, VRelL_cons'.2 ⟨h2, by simp [VRelL_nil]⟩⟩⟩⟩
              · refine turn_obj R hq rfl rfl hl ⟨g2, g3⟩ g4 ⟨_, g1, fun _ _ _ => by simp⟩ ⟨some k.blk, by rw [setBlk_get, if_pos ⟨rfl, blk_lt g1⟩], g2, g3, g4, k, hk, rfl⟩
            · simp at hr
          · simp at hr
      · simp at hr
    · simp at hr
  · simp at hr

theorem entriesRel_find {p : Nat → Bool} : ∀ {es : List (V × V × Nat)} {us : List MapEntry} {y : V × V × Nat}, entriesRel ρ es us → (es.find? fun y => p y.2.2) = some y → ∃ u, (us.find? fun y => p y.born) = some u ∧ VRel ρ y.1 u.key ∧ VRel ρ y.2.1 u.val
  | [], us, y, h, hf => by simp at hf
  | x :: es, us, y, h, hf => by
    obtain ⟨u, us', rfl, h1, h2, h3, h4⟩ := h
    rw [List.find?_cons] at hf ⊢
    rw [← h3]
    split at hf
    · rename_i hp
      injection hf with hf; subst hf
      exact ⟨u, rfl, h1, h2⟩
    · rename_i hp
      exact entriesRel_find h4 hf

theorem entry_sound {x : Operand} {x' : Opd} (ho : o.op = .entry x) (hx' : cOpd x = some x')
    (hr : (iop P rc tok slot e (.entry x')).run h = some (v, h')) (he : EnvRel ρ e a) (R : Rel B w0 ρ h w) :
    Good B w0 ρ v h' ((execOp a.eval o).run P w) := by
  have hxr := ev_rel hx' he
  simp only [iop] at hr
  split at hr
  · rename_i r hv
    rw [hv] at hxr
    obtain ⟨l, hl, hu⟩ := VRel_ptr hxr
    obtain ⟨q, hq, hr⟩ := get_inv hr
    split at hr
    · rename_i m since seen stepped
      obtain ⟨m', g1, g2, g3, g4, k, hk, rfl⟩ := iter_block R hq hl
      have hget : (getObj l.blk).run P w = .ok (.mapIter (some k.blk) since seen.toArray stepped) w := by simp only [getObj, Sem.run, g1]
      obtain ⟨q2, hq2, hr⟩ := get_inv hr
      split at hr
      · rename_i es clock
        obtain ⟨us, k1, k2, k3, k4, k5⟩ := map_block R hq2 hk
        have hget2 : (getObj k.blk).run P w = .ok (.map us clock) w := by simp only [getObj, Sem.run, k1]
        split at hr
        · rename_i hcl
          split at hr
          · rename_i st hst
            split at hr
            · rename_i y hy
              obtain ⟨rfl, rfl⟩ := pure_inv hr
              obtain ⟨u, u1, u2, u3⟩ := entriesRel_find (p := fun n => n == st) k2 hy
              refine Good.plain (u := .tuple #[u.key, u.val]) ?_ (by simp only [VRel]; exact ⟨_, rfl, VRelL_cons'.2 ⟨u2, VRelL_cons'.2 ⟨u3, by simp [VRelL_nil]⟩⟩⟩) R
              have hback : seen.toArray.back? = some st := by rw [← hst]; simp
              have hfind : (us.find? fun y => y.born == st) = some u := by rw [← Array.find?_toList]; exact u1
              simp only [execOp, ho, Instr.entry, hu, g2, Nat.add_zero, Sem.run_bind, hget, hget2, Result.andThen_ok, hback, hcl, bne_self_eq_false, Bool.false_eq_true, if_false, hfind, Sem.run_pure]
            · simp at hr
          · simp at hr
        · simp at hr
      · simp at hr
    · simp at hr
  · simp at hr
end
end Go.Ideal
