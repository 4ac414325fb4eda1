/-
  The ideal machine, part 16: code and calls. Conditions: none (lemmas).
-/
import Derived.Test.YtbikhbgmgmaocaaGreatDoorIdK
import Derived.LoopN
import Derived.Scope
namespace Go.Ideal
open Go.RowKit

def Out.toExit : Out → Exit
  | .norm => .normal
  | .exit id => .exit id
  | .ret => .ret

/-- What is asked of regions that draw. -/
def DrawOk (P : Program) (B : Nat) (w0 : World) (rc : Nat → List V → IM V) : Prop :=
  ∀ (id : Nat) (ops : Array Oper) (k : Nat) (ss : List DStep) (e e' : Env) (out : Out) (n : Nat) (h h' : Heap) (ρ : LMap) (a : Act) (w : World) (Q : Exit → Act → World → Prop),
    drawSteps P ops = some (k, ss) → (exec P rc n (.draw k ss) e).run h = some ((out, e'), h') → EnvRel ρ e a → Rel B w0 ρ h w →
    (∀ ρ' a' w', Ext ρ ρ' → EnvRel ρ' e' a' → a'.defers = a.defers → Rel B w0 ρ' h' w' → Q out.toExit a' w') → (Code.region id ops true).wp P Q a w

section
variable {P : Program} {B : Nat} {w0 : World} {rc : Nat → List V → IM V}

theorem code_sound (HC : CallOk P B w0 rc) (HD : DrawOk P B w0 rc) (n : Nat) : ∀ (c : Code) {ic : ICode} {e e' : Env} {out : Out} {h h' : Heap} {ρ : LMap} {a : Act} {w : World} {Q : Exit → Act → World → Prop},
    cCode P c = some ic → (exec P rc n ic e).run h = some ((out, e'), h') → EnvRel ρ e a → Rel B w0 ρ h w →
    (∀ ρ' a' w', Ext ρ ρ' → EnvRel ρ' e' a' → a'.defers = a.defers → Rel B w0 ρ' h' w' → Q out.toExit a' w') → c.wp P Q a w := by
  intro c
  induction c with
  | skip =>
    intro ic e e' out h h' ρ a w Q hc hr he R hQ
    simp [cCode] at hc; subst hc
    simp only [exec] at hr
    obtain ⟨h1, rfl⟩ := pure_inv hr
    injection h1 with h1 h2; subst h1 h2
    exact wp_skip (hQ ρ a w (.refl ρ) he rfl R)
  | label l =>
    intro ic e e' out h h' ρ a w Q hc hr he R hQ
    simp [cCode] at hc; subst hc
    simp only [exec] at hr
    obtain ⟨h1, rfl⟩ := pure_inv hr
    injection h1 with h1 h2; subst h1 h2
    exact wp_label (hQ ρ a w (.refl ρ) he rfl R)
  | exit id =>
    intro ic e e' out h h' ρ a w Q hc hr he R hQ
    simp [cCode] at hc; subst hc
    simp only [exec] at hr
    obtain ⟨h1, rfl⟩ := pure_inv hr
    injection h1 with h1 h2; subst h1 h2
    exact wp_exit (hQ ρ a w (.refl ρ) he rfl R)
  | ret =>
    intro ic e e' out h h' ρ a w Q hc hr he R hQ
    simp [cCode] at hc; subst hc
    simp only [exec] at hr
    obtain ⟨h1, rfl⟩ := pure_inv hr
    injection h1 with h1 h2; subst h1 h2
    exact wp_ret (hQ ρ a w (.refl ρ) he rfl R)
  | goto l => intro ic e e' out h h' ρ a w Q hc; simp [cCode] at hc
  | refuse y => intro ic e e' out h h' ρ a w Q hc; simp [cCode] at hc
  | rangeFunc f ps x y _ _ => intro ic e e' out h h' ρ a w Q hc; simp [cCode] at hc
  | region id ops draw =>
    intro ic e e' out h h' ρ a w Q hc hr he R hQ
    cases draw with
    | true =>
      simp only [cCode, Option.map_eq_some_iff] at hc
      obtain ⟨⟨k, ss⟩, hd, rfl⟩ := hc
      exact HD id ops k ss e e' out n h h' ρ a w Q hd hr he R hQ
    | false =>
      simp only [cCode] at hc
      split at hc
      · rename_i hnil
        injection hc with hc; subst hc
        simp only [exec, steps] at hr
        obtain ⟨e1, h1, h2, h3⟩ := IM.run_bind_some hr
        obtain ⟨rfl, rfl⟩ := pure_inv h2
        obtain ⟨h4, rfl⟩ := pure_inv h3
        injection h4 with h4 h5; subst h4 h5
        refine wp_region ?_
        have : ops.size = 0 := by have := congrArg List.length hnil; simpa using this
        rw [this]
        exact hQ ρ a w (.refl ρ) he rfl R
      · rename_i o os hops
        have h0 : ops[0]? = some o := by rw [← Array.getElem?_toList, hops]; rfl
        have hsz : ops.size = os.length + 1 := by have := congrArg List.length hops; simpa using this
        split at hc
        · rename_i s hs
          split at hc
          · rename_i hg
            simp only [Option.map_eq_some_iff] at hc
            obtain ⟨ss, hss, rfl⟩ := hc
            simp only [exec] at hr
            obtain ⟨v, h1, h2, h3⟩ := IM.run_bind_some hr
            obtain ⟨e1, h4, h5, h6⟩ := IM.run_bind_some h3
            obtain ⟨h7, rfl⟩ := pure_inv h6
            injection h7 with h7 h8; subst h7 h8
            have hg' : o.guard = none := by simpa using hg
            obtain ⟨u, w1, q1, q2, q3⟩ := sel_sound (rest := List.range' 1 os.length) h0 hg' hs h2 he R
            have hrest := steps_sound (Q := Q) HC os 1 (fun j => by rw [← Array.getElem?_toList, hops, Nat.add_comm]; rfl) hss h5 (putT_rel he q1) q2
              (fun ρ' a' w' p1 p2 p3 p4 => hQ ρ' a' w' p1 p2 (p3.trans put_defers) p4)
            intro b k cs
            obtain ⟨ex, a', w', r1, r2⟩ := wp_ops _ _ _ hrest b k cs
            refine ⟨ex, a', w', r1, .of_steps (.head step_region (.one ?_)) r2⟩
            rw [show List.range ops.size = 0 :: List.range' 1 os.length by rw [hsz, List.range_eq_range', List.range'_succ]]
            exact q3 b k cs
          · cases hc
        · rename_i hs
          simp only [Option.map_eq_some_iff] at hc
          obtain ⟨ss, hss, rfl⟩ := hc
          simp only [exec] at hr
          obtain ⟨e1, h1, h2, h3⟩ := IM.run_bind_some hr
          obtain ⟨h4, rfl⟩ := pure_inv h3
          injection h4 with h4 h5; subst h4 h5
          refine wp_region ?_
          rw [hsz, List.range_eq_range']
          exact steps_sound HC (o :: os) 0 (fun j => by rw [← Array.getElem?_toList, hops, Nat.zero_add]) hss h2 he R hQ
  | seq x y ihx ihy =>
    intro ic e e' out h h' ρ a w Q hc hr he R hQ
    simp only [cCode] at hc
    split at hc
    · rename_i x' y' hx hy
      injection hc with hc; subst hc
      simp only [exec] at hr
      obtain ⟨⟨o1, e1⟩, h1, h2, h3⟩ := IM.run_bind_some hr
      refine wp_seq (ihx hx h2 he R fun ρ' a' w' p1 p2 p3 p4 => ?_)
      cases o1 with
      | norm => exact ihy hy h3 p2 p4 fun ρ2 a2 w2 q1 q2 q3 q4 => hQ ρ2 a2 w2 (p1.trans q1) q2 (q3.trans p3) q4
      | exit id =>
        obtain ⟨h4, rfl⟩ := pure_inv h3
        injection h4 with h4 h5; subst h4 h5
        exact hQ ρ' a' w' p1 p2 p3 p4
      | ret =>
        obtain ⟨h4, rfl⟩ := pure_inv h3
        injection h4 with h4 h5; subst h4 h5
        exact hQ ρ' a' w' p1 p2 p3 p4
    · cases hc
  | cond t x y ihx ihy =>
    intro ic e e' out h h' ρ a w Q hc hr he R hQ
    simp only [cCode] at hc
    split at hc
    · rename_i t' x' y' ht hx hy
      injection hc with hc; subst hc
      have htr := ev_rel ht he
      simp only [exec] at hr
      split at hr
      · rename_i hv
        rw [hv] at htr; simp only [VRel] at htr
        exact wp_cond_true htr (ihx hx hr he R hQ)
      · rename_i hv
        rw [hv] at htr; simp only [VRel] at htr
        exact wp_cond_false htr (ihy hy hr he R hQ)
      · simp at hr
    · cases hc
  | block id x ih =>
    intro ic e e' out h h' ρ a w Q hc hr he R hQ
    simp only [cCode, Option.map_eq_some_iff] at hc
    obtain ⟨x', hx, rfl⟩ := hc
    simp only [exec] at hr
    obtain ⟨⟨o1, e1⟩, h1, h2, h3⟩ := IM.run_bind_some hr
    refine wp_block (ih hx h2 he R fun ρ' a' w' p1 p2 p3 p4 => ?_)
    cases o1 with
    | norm =>
      obtain ⟨h4, rfl⟩ := pure_inv h3
      injection h4 with h4 h5; subst h4 h5
      exact hQ ρ' a' w' p1 p2 p3 p4
    | exit id' =>
      simp only at h3
      simp only [Out.toExit, Exit.inBlock]
      split at h3
      · rename_i hid
        obtain ⟨h4, rfl⟩ := pure_inv h3
        injection h4 with h4 h5; subst h4 h5
        rw [if_pos hid]; exact hQ ρ' a' w' p1 p2 p3 p4
      · rename_i hid
        obtain ⟨h4, rfl⟩ := pure_inv h3
        injection h4 with h4 h5; subst h4 h5
        rw [if_neg hid]; exact hQ ρ' a' w' p1 p2 p3 p4
    | ret =>
      obtain ⟨h4, rfl⟩ := pure_inv h3
      injection h4 with h4 h5; subst h4 h5
      exact hQ ρ' a' w' p1 p2 p3 p4
  | loop x ih =>
    intro ic e e' out h h' ρ a w Q hc hr he R hQ
    simp only [cCode, Option.map_eq_some_iff] at hc
    obtain ⟨x', hx, rfl⟩ := hc
    simp only [exec] at hr
    have key : ∀ (m : Nat) {e : Env} {h : Heap} {ρ : LMap} {a : Act} {w : World}, (loopN (exec P rc n x') m e).run h = some ((out, e'), h') → EnvRel ρ e a → Rel B w0 ρ h w →
        (∀ ρ' a' w', Ext ρ ρ' → EnvRel ρ' e' a' → a'.defers = a.defers → Rel B w0 ρ' h' w' → Q out.toExit a' w') → Code.rounds P x Q m a w := by
      intro m
      induction m with
      | zero => intro e h ρ a w hr; simp [loopN] at hr
      | succ m ihm =>
        intro e h ρ a w hr he R hQ
        rw [rounds_succ]
        simp only [loopN] at hr
        obtain ⟨⟨o1, e1⟩, h1, h2, h3⟩ := IM.run_bind_some hr
        refine ih hx h2 he R fun ρ' a' w' p1 p2 p3 p4 => ?_
        cases o1 with
        | norm => exact ihm h3 p2 p4 fun ρ2 a2 w2 q1 q2 q3 q4 => hQ ρ2 a2 w2 (p1.trans q1) q2 (q3.trans p3) q4
        | exit id =>
          obtain ⟨h4, rfl⟩ := pure_inv h3
          injection h4 with h4 h5; subst h4 h5
          exact hQ ρ' a' w' p1 p2 p3 p4
        | ret =>
          obtain ⟨h4, rfl⟩ := pure_inv h3
          injection h4 with h4 h5; subst h4 h5
          exact hQ ρ' a' w' p1 p2 p3 p4
    exact wp_loop_rounds n (key n hr he R hQ)
  | scope x ih =>
    intro ic e e' out h h' ρ a w Q hc hr he R hQ
    simp only [cCode] at hc
    refine wp_scope_straight (ih hc hr he R fun ρ' a' w' p1 p2 p3 p4 => ?_)
    cases out <;> exact hQ ρ' a' w' p1 p2 p3 p4

def resOne (tmps : Array Value) : ResultVar → Sem Value
  | .tmp t => pure (tmps.getD t undef)
  | .cell p t => do loadVar t (← asAddr (tmps.getD p undef))

theorem results_eq (fn : Func) (tmps : Array Value) : results fn tmps = (do
    let vs ← fn.results.mapM (resOne tmps)
    pure (if h : vs.size = 1 then vs[0] else .tuple vs)) := by
  unfold results
  congr 1

theorem results_sound {ρ : LMap} {h h' : Heap} {w : World} {e : Env} {a : Act} : ∀ {rs : List ResultVar} {irs : List IRes} {vs : List V}, cRes P rs = some irs → (resultsOf e irs).run h = some (vs, h') → EnvRel ρ e a → Rel B w0 ρ h w →
    h' = h ∧ ∃ us, (rs.mapM (resOne a.tmps)).run P w = .ok us w ∧ VRelL ρ vs us
  | [], irs, vs, hc, hr, he, R => by
    simp [cRes] at hc; subst hc
    simp only [resultsOf] at hr
    obtain ⟨rfl, rfl⟩ := pure_inv hr
    exact ⟨rfl, [], by simp, by simp [VRelL_nil]⟩
  | .tmp t :: rs, irs, vs, hc, hr, he, R => by
    simp only [cRes, Option.map_eq_some_iff] at hc
    obtain ⟨irs', hi, rfl⟩ := hc
    simp only [resultsOf] at hr
    obtain ⟨vs', h1, h2, h3⟩ := IM.run_bind_some hr
    obtain ⟨rfl, us, q1, q2⟩ := results_sound hi h2 he R
    obtain ⟨rfl, rfl⟩ := pure_inv h3
    refine ⟨rfl, a.tmps.getD t undef :: us, ?_, VRelL_cons'.2 ⟨he.getD t, q2⟩⟩
    simp only [List.mapM_cons, resOne, Sem.run_bind, Sem.run_pure, Result.andThen_ok]
    rw [q1]; rfl
  | .cell p t :: rs, irs, vs, hc, hr, he, R => by
    simp only [cRes] at hc
    have step : ∀ {n : Option Nat} {irs' : List IRes}, ((n = none ∧ cAgg P t = some false) ∨ (∃ k, n = some k ∧ cAgg P t = some true ∧ cSize P t = some k)) → cRes P rs = some irs' → irs = .cell p n :: irs' →
        h' = h ∧ ∃ us, ((ResultVar.cell p t :: rs).mapM (resOne a.tmps)).run P w = .ok us w ∧ VRelL ρ vs us := by
      intro n irs' hn hi hirs
      subst hirs
      simp only [resultsOf] at hr
      have hp := he.getD p
      split at hr
      · rename_i b off hv
        rw [hv] at hp
        obtain ⟨l, hl, hu⟩ := VRel_ptr hp
        obtain ⟨v1, h1, h2, h3⟩ := IM.run_bind_some hr
        obtain ⟨rfl, u, q1, q2⟩ := loadAt_sound R hl hn h2
        obtain ⟨vs', h4, h5, h6⟩ := IM.run_bind_some h3
        obtain ⟨rfl, us, q3, q4⟩ := results_sound hi h5 he R
        obtain ⟨rfl, rfl⟩ := pure_inv h6
        refine ⟨rfl, u :: us, ?_, VRelL_cons'.2 ⟨q2, q4⟩⟩
        simp only [List.mapM_cons, resOne, Sem.run_bind, hu, asAddr, Sem.run_pure, Result.andThen_ok, q1]
        rw [q3]; rfl
      · simp at hr
    split at hc
    · rename_i n irs' ha hs hi
      injection hc with hc
      exact step (.inr ⟨n, rfl, ha, hs⟩) hi hc.symm
    · rename_i irs' hi ha
      injection hc with hc
      exact step (.inl ⟨rfl, by assumption⟩) (by assumption) hc.symm
    · cases hc

/-- One call, its own calls by rc. -/
def icallB (P : Program) (code : Nat → Option IFunc) (rc : Nat → List V → IM V) (n : Nat) (f : Nat) (args : List V) : IM V := match code f with
  | none => .fail
  | some fn => (exec P rc n fn.body (args ++ List.replicate (fn.ntmps - args.length) .undef)).bind fun p => match p.1 with
    | .exit _ => .fail
    | _ => (resultsOf p.2 fn.results).bind fun vs => match vs with
      | [v] => .pure v
      | vs => .pure (.tup vs)

/-- **One call.** -/
theorem body_sound {code : Nat → Option IFunc} (hcode : ∀ f ir, code f = some ir → cFunc P f = some ir) (HC : CallOk P B w0 rc) (HD : DrawOk P B w0 rc) (n : Nat) : CallOk P B w0 (icallB P code rc n) := by
    intro f args h v h' ρ w argsR hr ha R
    unfold icallB at hr
    split at hr
    · simp at hr
    · rename_i ir hir
      have hcf := hcode f ir hir
      unfold cFunc at hcf
      split at hcf
      · cases hcf
      · rename_i fn hfn
        split at hcf
        · cases hcf
        · rename_i c hbody
          split at hcf
          · cases hcf
          · rename_i hname
            split at hcf
            · rename_i ic irs hic hirs
              injection hcf with hcf; subst hcf
              refine ⟨⟨fn, hfn, by rw [hbody]; rfl, by simpa using hname⟩, ?_⟩
              obtain ⟨⟨out, e1⟩, h1, h2, h3⟩ := IM.run_bind_some hr
              have hlen := VRelL_length ha
              simp only [Array.length_toList] at hlen
              refine calls_of_wp hfn hbody ?_
              have he : EnvRel ρ (args ++ List.replicate (fn.ntmps - args.length) .undef) { tmps := argsR ++ Array.replicate (fn.ntmps - argsR.size) undef, defers := [] } := by
                unfold EnvRel
                simp only [Array.toList_append, Array.toList_replicate]
                rw [hlen]
                exact VRelL_append ha (VRelL_replicate VRel_undef _)
              refine code_sound HC HD n c hic h2 he R fun ρ' a' w' p1 p2 p3 p4 => ?_
              have fin : IM.run ((resultsOf e1 irs).bind (fun vs => match vs with | [v] => IM.pure v | vs => .pure (.tup vs))) h1 = some (v, h') → a'.defers = [] ∧ ∃ u, (results fn a'.tmps).run P w' = .ok u w' ∧
                  ∃ ρ2 u2, Ending.returned u = .returned u2 ∧ Ext ρ ρ2 ∧ VRel ρ2 v u2 ∧ Rel B w0 ρ2 h' w' := by
                intro hres
                obtain ⟨vs, h4, h5, h6⟩ := IM.run_bind_some hres
                obtain ⟨rfl, us, q1, q2⟩ := results_sound hirs h5 p2 p4
                have hrun : ((results fn a'.tmps).run P w') = .ok (if h : us.toArray.size = 1 then us.toArray[0] else .tuple us.toArray) w' := by
                  rw [results_eq, Array.mapM_eq_mapM_toList]
                  simp only [Sem.run_bind, Sem.run_map]
                  rw [q1]
                  rfl
                refine ⟨p3, _, hrun, ρ', _, rfl, p1, ?_, ?_⟩
                · have hvl := VRelL_length q2
                  split at h6
                  · rename_i v1
                    obtain ⟨rfl, rfl⟩ := pure_inv h6
                    rw [VRelL_cons] at q2
                    obtain ⟨u, us', rfl, q3, q4⟩ := q2
                    rw [VRelL_nil] at q4; subst q4
                    simpa using q3
                  · rename_i vs hne
                    obtain ⟨rfl, rfl⟩ := pure_inv h6
                    have : ¬ us.toArray.size = 1 := by
                      intro h1
                      simp at h1
                      rw [h1] at hvl
                      obtain ⟨v1, rfl⟩ := List.length_eq_one_iff.1 hvl
                      exact hne v1 rfl
                    rw [dif_neg this]
                    simp only [VRel]; exact ⟨_, rfl, q2⟩
                · split at h6
                  · obtain ⟨_, rfl⟩ := pure_inv h6; exact p4
                  · obtain ⟨_, rfl⟩ := pure_inv h6; exact p4
              cases out with
              | norm => exact fin h3
              | ret => exact fin h3
              | exit id => simp at h3
            · cases hcf

/-- **Calls.** -/
theorem call_sound {code : Nat → Option IFunc} (hcode : ∀ f ir, code f = some ir → cFunc P f = some ir) (HD : ∀ rc, CallOk P B w0 rc → DrawOk P B w0 rc) : ∀ n, CallOk P B w0 (icall P code n)
  | 0 => by intro f args h v h' ρ w argsR hr; simp [icall] at hr
  | n + 1 => body_sound hcode (call_sound hcode HD n) (HD _ (call_sound hcode HD n)) n
end
end Go.Ideal
