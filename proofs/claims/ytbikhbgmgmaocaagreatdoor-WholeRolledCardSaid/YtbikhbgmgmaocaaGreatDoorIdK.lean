/-
  The ideal machine, part 15: regions in the order of their text, control, calls. Conditions: none (lemmas).
-/
import Derived.Test.YtbikhbgmgmaocaaGreatDoorIdS
import Derived.Conc.LoneSelect
import Derived.Conc.LoneCalls
namespace Go.Ideal
open Go.RowKit

def CallOk (P : Program) (B : Nat) (w0 : World) (rc : Nat → List V → IM V) : Prop :=
  ∀ (f : Nat) (args : List V) (h : Heap) (v : V) (h' : Heap) (ρ : LMap) (w : World) (argsR : Array Value), (rc f args).run h = some (v, h') → VRelL ρ args argsR.toList → Rel B w0 ρ h w →
    (∃ fn, P.funcs[f]? = some fn ∧ fn.body.isNone = false ∧ (fn.name == "runtime.NumGoroutine") = false) ∧
    Calls P f argsR w (fun e w' => ∃ ρ' u, e = .returned u ∧ Ext ρ ρ' ∧ VRel ρ' v u ∧ Rel B w0 ρ' h' w')

section
variable {P : Program} {B : Nat} {w0 : World} {ρ : LMap} {h h' : Heap} {w : World} {e : Env} {a : Act} {o : Oper}
variable {rc : Nat → List V → IM V} {tok : Nat} {slot : Option Nat} {v : V}

theorem call_inv {f : Nat} {ys : List Opd} (hc : cOp P o = some (.call f ys)) : ∃ c, o.op = .call c ∧ c.callee = .value (.func f) ∧ cOpds c.args.toList = some ys := by
  unfold cOp cBin at hc
  split at hc
  case h_29 c ho =>
    split at hc
    · rename_i g hcal
      simp only [Option.map_eq_some_iff] at hc
      obtain ⟨zs, hz, he⟩ := hc
      injection he with h1 h2; subst h1 h2
      exact ⟨c, ho, hcal, hz⟩
    all_goals (repeat' split at hc)
    all_goals (simp [Option.map_eq_some_iff] at hc)
  all_goals (repeat' split at hc)
  all_goals (simp [Option.map_eq_some_iff] at hc)

theorem callV_inv {f : Opd} {ys : List Opd} (hc : cOp P o = some (.callV f ys)) : ∃ c t, o.op = .call c ∧ c.callee = .value (.tmp t) ∧ f = .t t ∧ cOpds c.args.toList = some ys := by
  unfold cOp cBin at hc
  split at hc
  case h_29 c ho =>
    split at hc
    · simp [Option.map_eq_some_iff] at hc
    · rename_i t hcal
      simp only [Option.map_eq_some_iff] at hc
      obtain ⟨zs, hz, he⟩ := hc
      injection he with h1 h2; subst h1 h2
      exact ⟨c, t, ho, hcal, rfl, hz⟩
    all_goals (repeat' split at hc)
    all_goals (simp [Option.map_eq_some_iff] at hc)
  all_goals (repeat' split at hc)
  all_goals (simp [Option.map_eq_some_iff] at hc)

theorem run_callFunc {f : Nat} {fn : Func} (hf : P.funcs[f]? = some fn) (hb : fn.body.isNone = false) (hn : (fn.name == "runtime.NumGoroutine") = false) (args : Array Value) (w : World) :
    (callFunc f args).run P w = .ok (.enter f args) w := by
  simp only [callFunc, Sem.run_bind, run_program, Result.andThen_ok, hf, hn, Bool.false_eq_true, if_false, hb, Sem.run_pure]

theorem enter_wp {f : Nat} {args : List V} {argsR : Array Value} (HC : CallOk P B w0 rc) (hr : (rc f args).run h = some (v, h')) (ha : VRelL ρ args argsR.toList) (R : Rel B w0 ρ h w)
    (hx : (execOp a.eval o).run P w = .ok (.enter f argsR) w) {next : Act → World → Prop} {Q : Exit → Act → World → Prop} (hn : ∀ ρ' u w', Ext ρ ρ' → VRel ρ' v u → Rel B w0 ρ' h' w' → next (a.put o.dst u) w') : o.wp P a w next Q := by
  obtain ⟨_, hcalls⟩ := HC f args h v h' ρ w argsR hr ha R
  unfold Oper.wp
  rw [hx, Oper.upon_enter]
  refine hcalls.mono fun e w' he => ?_
  obtain ⟨ρ', u, rfl, h1, h2, h3⟩ := he
  exact hn ρ' u w' h1 h2 h3

/-- **What an operation does.** -/
theorem op_wp {x : IOp} (HC : CallOk P B w0 rc) (hc : cOp P o = some x) (hr : (iop P rc tok slot e x).run h = some (v, h')) (he : EnvRel ρ e a) (R : Rel B w0 ρ h w)
    {next : Act → World → Prop} {Q : Exit → Act → World → Prop} (hn : ∀ ρ' u w', Ext ρ ρ' → VRel ρ' v u → Rel B w0 ρ' h' w' → next (a.put o.dst u) w') : o.wp P a w next Q := by
  by_cases hcall : x.isCall = false
  · obtain ⟨ρ', u, w', h1, h2, h3, h4⟩ := op_sound hc hcall hr he R
    unfold Oper.wp
    rcases h1 with h1 | ⟨h1, rfl⟩
    · rw [h1, Oper.upon_value]; exact hn ρ' u w' h2 h3 h4
    · rw [h1, Oper.upon_skip]; exact hn ρ' undef w' h2 h3 h4
  · cases x <;> simp [IOp.isCall] at hcall
    case call f ys =>
      obtain ⟨c, ho, hcal, hys⟩ := call_inv hc
      simp only [iop] at hr
      have ha : VRelL ρ (ys.map (Opd.ev e)) (c.args.map a.eval).toList := by simpa using evs_rel hys he
      obtain ⟨⟨fn, h1, h2, h3⟩, _⟩ := HC f _ h v h' ρ w _ hr ha R
      refine enter_wp HC hr ha R ?_ hn
      simp only [execOp, ho, resolve, hcal, Act.eval, Deferred.ofValue, Sem.run_bind, Sem.run_pure, Result.andThen_ok, invoke, Array.empty_append, Array.append_empty]
      exact run_callFunc h1 h2 h3 _ _
    case callV f ys =>
      obtain ⟨c, t, ho, hcal, rfl, hys⟩ := callV_inv hc
      simp only [iop] at hr
      split at hr
      · rename_i g first cap hfv
        have hfr : VRel ρ ((Opd.t t).ev e) (a.eval (.tmp t)) := he.getD t
        rw [hfv] at hfr; simp only [VRel] at hfr
        obtain ⟨us, ws, hu, hus, hws⟩ := hfr
        have ha : VRelL ρ (first ++ ys.map (Opd.ev e) ++ cap) (us ++ c.args.map a.eval ++ ws).toList := by
          simp only [Array.toList_append, Array.toList_map]
          exact VRelL_append (VRelL_append hus (evs_rel hys he)) hws
        obtain ⟨⟨fn, h1, h2, h3⟩, _⟩ := HC g _ h v h' ρ w _ hr ha R
        refine enter_wp HC hr ha R ?_ hn
        simp only [execOp, ho, resolve, hcal, Sem.run_bind, hu, Deferred.ofValue, Sem.run_pure, Result.andThen_ok, invoke]
        exact run_callFunc h1 h2 h3 _ _
      · simp at hr

/-! ### Guards -/
theorem VRel_bool {b : Bool} {x : V} {u : Value} (hx : VRel ρ x u) (hu : u = .bool b) : x = .bool b := by
  subst hu
  cases x <;> simp only [VRel] at hx <;> first
    | (injection hx with hx; rw [hx]; done)
    | (cases hx; done)
    | (obtain ⟨l, _, hx⟩ := hx; cases hx; done)
    | (obtain ⟨l, ad, m, _, hx, _⟩ := hx; cases hx; done)
    | (obtain ⟨us, ws, hx, _⟩ := hx; cases hx; done)
    | (obtain ⟨us, hx, _⟩ := hx; cases hx; done)

theorem wanted_rel {ops : Array Oper} {g : Option (Nat × Bool)} (hg : guardT ops o.guard = some g) (he : EnvRel ρ e a) : Region.wanted o (yielded ops a.tmps) = wantedI e g := by
  unfold guardT at hg
  unfold Region.wanted
  split at hg
  · rename_i hn
    injection hg with hg; subst hg
    rw [hn]; rfl
  · rename_i j want hn
    split at hg
    · rename_i t ht
      injection hg with hg; subst hg
      rw [hn]
      simp only [yielded, ht, Option.bind_some, wantedI]
      cases hv : e[t]? with
      | none =>
        have : a.tmps[t]? = none := by
          have hl := VRelL_length he
          rw [List.getElem?_eq_none_iff] at hv
          rw [Array.getElem?_eq_none]; simp at hl; omega
        rw [this]; rfl
      | some x =>
        obtain ⟨u, hu, hxu⟩ := VRelL_get he t x hv
        have hu' : a.tmps[t]? = some u := by simpa using hu
        rw [hu']
        cases x
        case bool b => simp only [VRel] at hxu; subst hxu; rfl
        all_goals
          have hne : ∀ b, u ≠ .bool b := fun b hb => by have := VRel_bool hxu hb; cases this
          cases u <;> first | rfl | exact absurd rfl (hne _)
    · cases hg

theorem putT_rel {ρ' : LMap} {dst : Option Nat} {x : V} {u : Value} (he : EnvRel ρ' e a) (hx : VRel ρ' x u) : EnvRel ρ' (putT e dst x) (a.put dst u) := by
  unfold EnvRel
  cases dst with
  | none => exact he
  | some d => simp only [putT, Act.put, Array.toList_setIfInBounds]; exact VRelL_set hx d he

theorem put_defers {dst : Option Nat} {u : Value} : (a.put dst u).defers = a.defers := by cases dst <;> rfl

/-- **A region in the order of its text.** -/
theorem steps_sound {ops : Array Oper} (HC : CallOk P B w0 rc) : ∀ (l : List Oper) (k : Nat) {ss : List Step} {e e' : Env} {a : Act} {ρ : LMap} {h h' : Heap} {w : World} {Q : Exit → Act → World → Prop},
    (∀ j, l[j]? = ops[k + j]?) → plainSteps P ops l = some ss → (steps P rc ss e).run h = some (e', h') → EnvRel ρ e a → Rel B w0 ρ h w →
    (∀ ρ' a' w', Ext ρ ρ' → EnvRel ρ' e' a' → a'.defers = a.defers → Rel B w0 ρ' h' w' → Q .normal a' w') → wpOps P ops Q (List.range' k l.length) a w
  | [], k, ss, e, e', a, ρ, h, h', w, Q, _, hs, hr, he, R, hQ => by
    simp [plainSteps] at hs; subst hs
    simp only [steps] at hr
    obtain ⟨rfl, rfl⟩ := pure_inv hr
    exact hQ ρ a w (.refl ρ) he rfl R
  | o :: l, k, ss, e, e', a, ρ, h, h', w, Q, hl, hs, hr, he, R, hQ => by
    have h0 : ops[k]? = some o := by simpa using (hl 0).symm
    have hl' : ∀ j, l[j]? = ops[(k + 1) + j]? := fun j => by have := hl (j + 1); simpa [Nat.add_assoc, Nat.add_comm 1 j] using this
    simp only [plainSteps] at hs
    split at hs
    · rename_i x g ss' hx hg hss
      injection hs with hs; subst hs
      simp only [steps] at hr
      rw [List.length_cons, List.range'_succ]
      simp only [wpOps, h0, wanted_rel hg he]
      split at hr
      · rename_i hw
        rw [if_pos hw]
        obtain ⟨v, h1, h2, h3⟩ := IM.run_bind_some hr
        left
        exact op_wp HC hx h2 he R fun ρ' u w' q1 q2 q3 =>
          steps_sound HC l (k + 1) hl' hss h3 (putT_rel (he.ext q1) q2) q3 fun ρ2 a2 w2 p1 p2 p3 p4 => hQ ρ2 a2 w2 (q1.trans p1) p2 (p3.trans put_defers) p4
      · rename_i hw
        rw [if_neg hw]
        exact steps_sound HC l (k + 1) hl' hss hr (putT_rel he VRel_undef) R fun ρ2 a2 w2 p1 p2 p3 p4 => hQ ρ2 a2 w2 p1 p2 (p3.trans put_defers) p4
    · cases hs

/-! ### A select of one case and a default -/
theorem after_comm (E : Array Event) (g : Goroutine) (cases : Array CommCase) (bl : Bool) (sh : CommShape) (w : World) (es0 : Array Event) :
    ∃ es, GStep.after E (.comm g cases bl sh w es0) = .comm g cases bl sh w es := ⟨_, rfl⟩

open Go.Conc in
theorem comm_step {b : Frame} {k : List Item} {cs : List Frame} {ops : Array Oper} {i : Nat} {rest : List Nat} {cases : Array CommCase} (ho : ops[i]? = some o) (hg : o.guard = none)
    (hr : (execOp a.eval o).run P w = .ok (.comm cases false .select) w) : ∃ es, stepG P true (G (b.at a (.inRegion ops (i :: rest) :: k)) cs) w = .comm (G (b.at a (.inRegion ops (i :: rest) :: k)) cs) cases false .select w es := by
  have hw : Region.wanted o (yielded ops a.tmps) = true := by simp [Region.wanted, hg]
  have h1 := stepG_op (P := P) (b := b) (k := k) (cs := cs) (w := w) (rest := rest) ho hw
  unfold G
  rw [h1]
  simp only [stepG.apply, if_true, Sem.runT_eq, hr]
  exact after_comm _ _ _ _ _ _ _

theorem zeroV_run {t : TypeId} {z : V} (hz : cZeroV P t = some z) : ∃ zv, (∀ w, (zeroValue t).run P w = .ok zv w) ∧ ∀ ρ, VRel ρ z zv := cZeroV_info hz

theorem run_select {c : SelectCase} {zv : Value} {bl : Bool} (ho : o.op = .select #[c] bl) (hz : ∀ w, (zeroValue c.elem).run P w = .ok zv w) (w : World) :
    (execOp a.eval o).run P w = .ok (.comm #[{ chan := a.eval c.chan, send := c.send.map a.eval, zero := zv }] bl .select) w := by
  simp only [execOp, ho]
  rw [Array.mapM_eq_mapM_toList]
  simp [hz]

/-- **A select**: one step. -/
theorem sel_sound {s : ISel} {ops : Array Oper} {rest : List Nat} (h0 : ops[0]? = some o) (hg : o.guard = none) (hs : cSel P o.op = some s) (hr : (isel e s).run h = some (v, h')) (he : EnvRel ρ e a) (R : Rel B w0 ρ h w) :
    ∃ u w', VRel ρ v u ∧ Rel B w0 ρ h' w' ∧ ∀ (b : Frame) (k : List Item) (cs : List Frame),
      step P (lone (b.at a (.inRegion ops (0 :: rest) :: k)) cs w) = .next (lone (b.at (a.put o.dst u) (.inRegion ops rest :: k)) cs w') := by
  unfold cSel at hs
  split at hs
  · rename_i cs0 hop
    split at hs
    · rename_i c hcs
      have e1 : cs0 = #[c] := by apply Array.ext'; simpa using hcs
      subst e1
      have hfin : ∀ (u : Value) (b : Frame) (k : List Item), (b.at a (.inRegion ops (0 :: rest) :: k)).finish u = b.at (a.put o.dst u) (.inRegion ops rest :: k) := by
        intro u b k; rw [Frame.finish_at, h0]; rfl
      have tup2 : ∀ (n : Int) (bb : Bool), VRel ρ (.tup [.int .i64 n, .bool bb]) (.tuple #[goInt n, .bool bb]) := fun n bb => by
        simp only [VRel]; exact ⟨_, rfl, VRelL_cons'.2 ⟨by simp [VRel, goInt], VRelL_cons'.2 ⟨by simp [VRel], by simp [VRelL_nil]⟩⟩⟩
      have tup3 : ∀ (n : Int) (bb : Bool) {x : V} {u : Value}, VRel ρ x u → VRel ρ (.tup [.int .i64 n, .bool bb, x]) (.tuple #[goInt n, .bool bb, u]) := fun n bb x u hx => by
        simp only [VRel]; exact ⟨_, rfl, VRelL_cons'.2 ⟨by simp [VRel, goInt], VRelL_cons'.2 ⟨by simp [VRel], VRelL_cons'.2 ⟨hx, by simp [VRelL_nil]⟩⟩⟩⟩
      split at hs
      · rename_i x hsend
        split at hs
        · rename_i ch x' z hch hx hz
          injection hs with hs; subst hs
          have hchr := ev_rel hch he
          have hxr := ev_rel hx he
          obtain ⟨zv, hzr, hzz⟩ := zeroV_run hz
          have hrun := run_select (a := a) hop hzr w
          rw [hsend] at hrun
          simp only [isel] at hr
          split at hr
          · rename_i b0 hv
            rw [hv] at hchr; simp only [VRel] at hchr
            obtain ⟨l, hl, hu⟩ := hchr
            obtain ⟨q, hq, hr⟩ := get_inv hr
            split at hr
            · rename_i cap buf
              obtain ⟨l', hl', us, p1, p2, g1, g2, g3, g4, g5⟩ := R.live b0 _ hq
              rw [hl] at hl'; injection hl' with hl'; subst hl'
              have hlen := VRelL_length g2
              simp only [Array.length_toList] at hlen
              rw [hu] at hrun
              split at hr
              · rename_i hroom
                obtain ⟨_, hr⟩ := set_inv hr
                obtain ⟨rfl, rfl⟩ := pure_inv hr
                refine ⟨.tuple #[goInt 0, .bool false], setBlk w l.blk (.chan cap (us.push (a.eval x)) false (p1 + 1) p2 false), tup2 0 false, ?_, fun b k cs => ?_⟩
                · refine turn_obj R hq rfl rfl hl ⟨g3, g4⟩ g5 ⟨_, g1, fun _ _ _ => by simp⟩ ⟨_, _, _, by rw [setBlk_get, if_pos ⟨rfl, blk_lt g1⟩], ?_, g3, g4, g5⟩
                  rw [Array.toList_push]; exact VRelL_append g2 (VRelL_cons'.2 ⟨hxr, by simp [VRelL_nil]⟩)
                · obtain ⟨es, hstep⟩ := comm_step (b := b) (k := k) (cs := cs) (rest := rest) h0 hg hrun
                  have := Go.Conc.step_lone_select_send_room (c := l.blk) (v := a.eval x) (z' := zv) hstep g1 (by omega)
                  rw [hfin] at this
                  exact this
              · rename_i hroom
                obtain ⟨rfl, rfl⟩ := pure_inv hr
                refine ⟨.tuple #[goInt (-1), .bool false], w, tup2 _ false, R, fun b k cs => ?_⟩
                obtain ⟨es, hstep⟩ := comm_step (b := b) (k := k) (cs := cs) (rest := rest) h0 hg hrun
                have := Go.Conc.step_lone_select_send_full (c := l.blk) (v := a.eval x) (z' := zv) hstep g1 (by omega)
                rw [hfin] at this
                exact this
            · simp at hr
          · simp at hr
        · cases hs
      · rename_i hsend
        split at hs
        · rename_i ch z hch hz
          injection hs with hs; subst hs
          have hchr := ev_rel hch he
          obtain ⟨zv, hzr, hzz⟩ := zeroV_run hz
          have hrun := run_select (a := a) hop hzr w
          rw [hsend] at hrun
          simp only [isel] at hr
          split at hr
          · rename_i b0 hv
            rw [hv] at hchr; simp only [VRel] at hchr
            obtain ⟨l, hl, hu⟩ := hchr
            obtain ⟨q, hq, hr⟩ := get_inv hr
            rw [hu] at hrun
            split at hr
            · rename_i cap x buf
              obtain ⟨l', hl', us, p1, p2, g1, g2, g3, g4, g5⟩ := R.live b0 _ hq
              rw [hl] at hl'; injection hl' with hl'; subst hl'
              rw [VRelL_cons] at g2
              obtain ⟨u0, us0, e2, g6, g7⟩ := g2
              have hus : us = (u0 :: us0).toArray := by apply Array.ext'; simpa using e2
              subst hus
              obtain ⟨_, hr⟩ := set_inv hr
              obtain ⟨rfl, rfl⟩ := pure_inv hr
              refine ⟨.tuple #[goInt 0, .bool true, u0], setBlk w l.blk (.chan cap us0.toArray false p1 (p2 + 1) false), tup3 0 true g6, ?_, fun b k cs => ?_⟩
              · exact turn_obj R hq rfl rfl hl ⟨g3, g4⟩ g5 ⟨_, g1, fun _ _ _ => by simp⟩ ⟨_, _, _, by rw [setBlk_get, if_pos ⟨rfl, blk_lt g1⟩], by simpa using g7, g3, g4, g5⟩
              · obtain ⟨es, hstep⟩ := comm_step (b := b) (k := k) (cs := cs) (rest := rest) h0 hg hrun
                have := Go.Conc.step_lone_select_recv_buf (c := l.blk) (z := zv) hstep g1 (by simp)
                rw [hfin] at this
                have e3 : ((u0 :: us0).toArray.extract 1 (u0 :: us0).toArray.size) = us0.toArray := by simp
                rw [e3] at this
                exact this
            · rename_i cap
              obtain ⟨l', hl', us, p1, p2, g1, g2, g3, g4, g5⟩ := R.live b0 _ hq
              rw [hl] at hl'; injection hl' with hl'; subst hl'
              rw [VRelL_nil] at g2
              have hus : us = #[] := by apply Array.ext'; simpa using g2
              subst hus
              obtain ⟨rfl, rfl⟩ := pure_inv hr
              refine ⟨.tuple #[goInt (-1), .bool false, zv], w, tup3 _ false (hzz ρ), R, fun b k cs => ?_⟩
              obtain ⟨es, hstep⟩ := comm_step (b := b) (k := k) (cs := cs) (rest := rest) h0 hg hrun
              have := Go.Conc.step_lone_select_default (c := l.blk) (z := zv) hstep g1
              rw [hfin] at this
              exact this
            · simp at hr
          · simp at hr
        · cases hs
    · cases hs
  · cases hs
end
end Go.Ideal
