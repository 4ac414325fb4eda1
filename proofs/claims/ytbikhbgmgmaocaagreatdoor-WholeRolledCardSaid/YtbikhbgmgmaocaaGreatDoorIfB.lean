/-
  The ideal machine, part 27: weakest preconditions: single operations; calls; code without its remarks. Conditions: none (definitions and lemmas).
-/
import Derived.Test.YtbikhbgmgmaocaaGreatDoorIfA
namespace Go.Ideal

/-! ### Rules -/
section
variable {M : Mach} {N tok : Nat} {slot : Option Nat} {F : FE} {h : Heap} {Q : V → Heap → Prop}
theorem argF_zero (v : V) (l : List V) : argF (v :: l) 0 = v := rfl
theorem argF_succ (v : V) (l : List V) (i : Nat) : argF (v :: l) (i + 1) = argF l i := rfl
theorem upd_app (F : FE) (d : Nat) (v : V) (i : Nat) : F.upd d v i = if i = d then v else F i := rfl
theorem put_some (F : FE) (d : Nat) (v : V) : F.put (some d) v = F.upd d v := rfl
theorem put_none (F : FE) (v : V) : F.put none v = F := rfl
theorem at_t (F : FE) (i : Nat) : (Opd.t i).at F = F i := rfl
theorem at_c (F : FE) (v : V) : (Opd.c v).at F = v := rfl
theorem at_in (F : FE) (x : Opd) : (x.inF F).ev [] = x.at F := rfl

theorem wps_nil {K : FE → Heap → Prop} : wps M [] F h K = K F h := by rw [wps]
theorem wps_go {d : Option Nat} {x : IOp} {ss : List Step} {K : FE → Heap → Prop} : wps M (⟨d, none, x⟩ :: ss) F h K = wpo M 0 none x F h fun v h' => wps M ss (F.put d v) h' K := by
  rw [wps.eq_def]; exact Eq.refl _
theorem wps_if {d : Option Nat} {t : Nat} {w : Bool} {x : IOp} {ss : List Step} {K : FE → Heap → Prop} : wps M (⟨d, some (t, w), x⟩ :: ss) F h K =
    (match (match F t with | .bool b => b == w | _ => false) with
    | true => wpo M 0 none x F h fun v h' => wps M ss (F.put d v) h' K
    | false => wps M ss (F.put d .undef) h K) := rfl
theorem wpd_nil {K : FE → Heap → Prop} : wpd M tok [] F h K = K F h := by rw [wpd]
theorem wpd_go {id : Nat} {d : Option Nat} {x : IOp} {ss : List DStep} {K : FE → Heap → Prop} : wpd M tok (⟨id, slot, d, none, x, []⟩ :: ss) F h K = wpo M tok slot x F h fun v h' => wpd M tok ss (F.put d v) h' K := by
  simp [wpd, wantF, wpr]
theorem wpd_re {id i2 d2 : Nat} {d : Option Nat} {x y : IOp} {ss : List DStep} {K : FE → Heap → Prop} : wpd M tok (⟨id, slot, d, none, x, [⟨i2, d2, none, y⟩]⟩ :: ss) F h K =
    wpo M tok slot x F h fun v h' => wpo M tok none y (F.put d v) h' (fun w h2 => h2 = h' ∧ V.beq w (F.put d v d2) = true) ∧ wpd M tok ss (F.put d v) h' K := by
  simp [wpd, wantF, wpr]
theorem wpo_eq {x : IOp} {v : V} {h' : Heap} (hl : x.low = true) (hr : (iop M.P (fun _ _ => .fail) tok slot [] (x.inF F)).run h = some (v, h')) : wpo M tok slot x F h Q = Q v h' := by
  have : wpo M tok slot x F h Q = ∃ v h', (iop M.P (fun _ _ => .fail) tok slot [] (x.inF F)).run h = some (v, h') ∧ Q v h' := by
    cases x <;> first
      | (simp [IOp.low] at hl; done)
      | rfl
  rw [this, hr]
  apply propext
  constructor
  · rintro ⟨a, b, e, q⟩
    injection e with e; injection e with e1 e2
    rw [e1, e2]; exact q
  · intro q; exact ⟨v, h', rfl, q⟩
theorem wpo_mv {x : Opd} : wpo M tok slot (.mv x) F h Q = Q (x.at F) h := by
  exact wpo_eq rfl (by simp [IOp.inF, iop, at_in])
theorem wpo_pick {c a b : Opd} {q : Bool} (hc : c.at F = .bool q) : wpo M tok slot (.pick c a b) F h Q = Q (if q = true then a.at F else b.at F) h := by
  cases q <;> exact wpo_eq rfl (by simp [IOp.inF, iop, at_in, hc])
theorem wpo_scal {o : Oper} : wpo M tok slot (.scal o) F h Q = ∃ v, scalV M.P o.op F = some v ∧ Q v h := by
  rw [wpo.eq_def]
theorem wpo_call {f : Nat} {args : List Opd} : wpo M tok slot (.call f args) F h Q = Con M f (args.map (Opd.at F)) h Q := rfl
theorem wpo_extract {i : Nat} {x : Opd} {vs : List V} {v : V} (hx : x.at F = .tup vs) (hv : vs[i]? = some v) : wpo M tok slot (.extract i x) F h Q = Q v h := by
  exact wpo_eq rfl (by simp [IOp.inF, iop, at_in, hx, hv, IM.lift])
theorem wpo_nilCheck {x : Opd} {b o : Nat} (hx : x.at F = .ptr b o) : wpo M tok slot (.nilCheck x) F h Q = Q (.ptr b o) h := by
  exact wpo_eq rfl (by simp [IOp.inF, iop, at_in, hx])
theorem wpo_fieldAddr {x : Opd} {off b o : Nat} (hx : x.at F = .ptr b o) : wpo M tok slot (.fieldAddr off x) F h Q = Q (.ptr b (o + off)) h := by
  exact wpo_eq rfl (by simp [IOp.inF, iop, at_in, hx])
theorem wpo_alloc {z : List V} : wpo M tok none (.alloc z) F h Q = Q (.ptr h.length 0) (h ++ [some (.cells true z)]) := by
  exact wpo_eq rfl (by simp [IOp.inF, iop, mkBlk, IM.bind, IM.run])
theorem wpo_box {x : Opd} {cs : List V} (hx : (x.at F).cells = cs) (ho : allOne cs = true) : wpo M tok none (.box x) F h Q = Q (.ptr h.length 0) (h ++ [some (.cells true cs)]) := by
  exact wpo_eq rfl (by simp [IOp.inF, iop, at_in, hx, ho, mkBlk, IM.bind, IM.run])
theorem wpo_build {z cs : List V} {ps : List (Nat × Nat × Opd)} (hc : fillParts [] (inFP F ps) z = some cs) : wpo M tok slot (.build z ps) F h Q = Q (.agg cs) h := by
  exact wpo_eq rfl (by simp [IOp.inF, iop, hc])
theorem wpo_buildSlice {sz len : Nat} {z cs : List V} {ps : List (Nat × Nat × Opd)} (hc : fillParts [] (inFP F ps) z = some cs) (ho : allOne cs = true) :
    wpo M tok none (.buildSlice sz len z ps) F h Q = Q (.slice h.length 0 sz len len false) (h ++ [some (.cells true cs)]) := by
  exact wpo_eq rfl (by simp [IOp.inF, iop, hc, ho, mkBlk, IM.bind, IM.run])

/-- The length of a slice. -/
def V.sl : V → Option Nat
  | .nilSlice => some 0
  | .slice _ _ _ n _ _ => some n
  | _ => none
theorem wpo_lenSlice {x : Opd} {n : Nat} (hx : (x.at F).sl = some n) : wpo M tok slot (.lenSlice x) F h Q = Q (.int .i64 n) h := by
  have hx' : ((x.inF F).ev []).sl = some n := hx
  refine wpo_eq rfl ?_
  simp only [IOp.inF, iop]
  generalize (x.inF F).ev [] = v at hx'
  cases v <;> simp [V.sl] at hx'
  · subst hx'; simp
  · subst hx'; simp
/-- Where a slice's place is. -/
def V.elem (sz : Nat) : V → Nat → V
  | .slice b o _ _ _ _, j => .ptr b (o + j * sz)
  | _, _ => .nil
def V.szIs (sz : Nat) : V → Prop
  | .slice _ _ sz' _ _ _ => sz' = sz
  | _ => True
theorem wpo_indexAddr {sz : Nat} {x i : Opd} {n j : Nat} {k : IntKind} (hx : (x.at F).sl = some n) (hs : (x.at F).szIs sz) (hi : i.at F = .int k (j : Int)) (hj : j < n) : wpo M tok slot (.indexAddr sz x i) F h Q = Q ((x.at F).elem sz j) h := by
  have hx' : ((x.inF F).ev []).sl = some n := hx
  have hs' : ((x.inF F).ev []).szIs sz := hs
  have hi' : (i.inF F).ev [] = .int k (j : Int) := hi
  show wpo M tok slot (.indexAddr sz x i) F h Q = Q (((x.inF F).ev []).elem sz j) h
  refine wpo_eq rfl ?_
  simp only [IOp.inF, iop]
  rw [hi']
  generalize (x.inF F).ev [] = v at hx' hs'
  cases v <;> simp [V.sl] at hx'
  · omega
  · subst hx'
    simp only [V.szIs] at hs'
    subst hs'
    have : (j : Int) < _ := Int.ofNat_lt.2 hj
    simp [V.elem, hj]

/-- What stands at an address. -/
def ld (h : Heap) : V → Option V
  | .ptr b o => match h[b]? with
    | some (some (.cells _ cs)) => cs[o]?
    | _ => none
  | _ => none
def ldN (n : Nat) (h : Heap) : V → Option (List V)
  | .ptr b o => match h[b]? with
    | some (some (.cells _ cs)) => if o + n ≤ cs.length then some ((cs.drop o).take n) else none
    | _ => none
  | _ => none
theorem wpo_load {x : Opd} {v : V} (hx : ld h (x.at F) = some v) : wpo M tok slot (.load none x) F h Q = Q v h := by
  have hx' : ld h ((x.inF F).ev []) = some v := hx
  refine wpo_eq rfl ?_
  simp only [IOp.inF, iop]
  generalize (x.inF F).ev [] = p at hx'
  cases p <;> simp only [ld] at hx' <;> try (cases hx'; done)
  rename_i b o
  split at hx'
  · rename_i w cs hb
    have hl := (List.getElem?_eq_some_iff.1 hx').1
    have h1 : o + 1 ≤ cs.length := by omega
    have h2 : ((cs.drop o).take 1)[0]? = some v := by simp [hx']
    simp only [loadAt, getCells, IM.bind, IM.run, hb, if_pos h1, h2, IM.lift]
  · cases hx'
theorem wpo_loadN {n : Nat} {x : Opd} {cs : List V} (hx : ldN n h (x.at F) = some cs) : wpo M tok slot (.load (some n) x) F h Q = Q (.agg cs) h := by
  have hx' : ldN n h ((x.inF F).ev []) = some cs := hx
  refine wpo_eq rfl ?_
  simp only [IOp.inF, iop]
  generalize (x.inF F).ev [] = p at hx'
  cases p <;> simp only [ldN] at hx' <;> try (cases hx'; done)
  split at hx'
  · rename_i w cs hb
    split at hx'
    · rename_i h1
      injection hx' with hx'
      subst hx'
      simp only [loadAt, getCells, IM.bind, IM.run, hb, if_pos h1]
    · cases hx'
  · cases hx'
theorem wpo_store {n : Nat} {a x : Opd} {b o : Nat} {cs vs : List V} (ha : a.at F = .ptr b o) (hv : (x.at F).cells = vs) (hn : vs.length = n) (ho : allOne vs = true) (hb : h[b]? = some (some (.cells true cs))) (hl : o + n ≤ cs.length) :
    wpo M tok slot (.store n a x) F h Q = Q .undef (h.set b (some (.cells true (cs.take o ++ vs ++ cs.drop (o + n))))) := by
  subst hn
  refine wpo_eq rfl ?_
  simp [IOp.inF, iop, at_in, ha, hv, ho, putCells, IM.bind, IM.run, hb, hl]
theorem wpo_isNil {k : NilK} {neg : Bool} {x : Opd} (hx : k = .slice ∧ x.at F = .nilSlice ∨ k = .ptr ∧ x.at F = .nil) : wpo M tok slot (.isNil k neg x) F h Q = Q (.bool (!neg)) h := by
  refine wpo_eq rfl ?_
  rcases hx with ⟨rfl, hx⟩ | ⟨rfl, hx⟩ <;> simp [IOp.inF, iop, at_in, hx]
theorem wpo_isSome {k : NilK} {neg : Bool} {x : Opd} (hx : k = .slice ∧ (∃ b o sz n c m, x.at F = .slice b o sz n c m) ∨ k = .ptr ∧ ∃ b o, x.at F = .ptr b o) : wpo M tok slot (.isNil k neg x) F h Q = Q (.bool neg) h := by
  refine wpo_eq rfl ?_
  rcases hx with ⟨rfl, b, o, sz, n, c, m, hx⟩ | ⟨rfl, b, o, hx⟩ <;> simp [IOp.inF, iop, at_in, hx]
/-- Any other operation, by its run. -/
theorem wpo_low {x : IOp} {v : V} {h' : Heap} (hl : x.low = true) (hr : (iop M.P (fun _ _ => .fail) tok slot [] (x.inF F)).run h = some (v, h')) (q : Q v h') : wpo M tok slot x F h Q := by
  cases x <;> first
    | (simp [IOp.low] at hl; done)
    | exact ⟨v, h', hr, q⟩

/-! #### Code -/
variable {K : Out → FE → Heap → Prop}
theorem wp_region {ss : List Step} (hw : wps M ss F h fun F h => K .norm F h) : WP M N (.region ss) F h K := hw
theorem wp_seq {a b : ICode} (hw : WP M N a F h (thenQ (fun F h => WP M N b F h K) K)) : WP M N (.seq a b) F h K := hw
theorem wp_block {id : Nat} {a : ICode} (hw : WP M N a F h (exitQ id K)) : WP M N (.block id a) F h K := hw
theorem wp_true {c : Opd} {a b : ICode} (hc : c.at F = .bool true) (hw : WP M N a F h K) : WP M N (.cond c a b) F h K := by simp only [WP, hc]; exact hw
theorem wp_false {c : Opd} {a b : ICode} (hc : c.at F = .bool false) (hw : WP M N b F h K) : WP M N (.cond c a b) F h K := by simp only [WP, hc]; exact hw
theorem wp_cond {c : Opd} {a b : ICode} {p : Prop} [Decidable p] (hc : c.at F = .bool (decide p)) (ht : p → WP M N a F h K) (hf : ¬ p → WP M N b F h K) : WP M N (.cond c a b) F h K := by
  by_cases hp : p
  · exact wp_true (by rw [hc, decide_eq_true hp]) (ht hp)
  · exact wp_false (by rw [hc, decide_eq_false hp]) (hf hp)

theorem WP_skip : WP M N .skip F h K = K .norm F h := rfl
theorem WP_exit {id : Nat} : WP M N (.exit id) F h K = K (.exit id) F h := rfl
theorem WP_ret : WP M N .ret F h K = K .ret F h := rfl
theorem wp_draw0 {ss : List DStep} (hw : wpd M h.length ss F h fun F h => K .norm F h) : WP M N (.draw 0 ss) F h K := by
  show wpd M h.length ss F (h ++ []) _
  rw [List.append_nil]; exact hw
theorem wp_if {c : Opd} {a b : ICode} {q : Bool} (hc : c.at F = .bool q) (ht : q = true → WP M N a F h K) (hf : q = false → WP M N b F h K) : WP M N (.cond c a b) F h K := by
  cases q
  · exact wp_false hc (hf rfl)
  · exact wp_true hc (ht rfl)
theorem wps_mono {ss : List Step} {K K' : FE → Heap → Prop} (hk : ∀ F h, K F h → K' F h) : ∀ {F : FE} {h : Heap}, wps M ss F h K → wps M ss F h K' := by
  have wo : ∀ {tok slot x F h} {Q Q' : V → Heap → Prop}, (∀ v h, Q v h → Q' v h) → wpo M tok slot x F h Q → wpo M tok slot x F h Q' := by
    intro tok slot x F h Q Q' hq hw
    cases x <;> first
      | (obtain ⟨v, a, b⟩ := hw; exact ⟨v, a, hq _ _ b⟩)
      | exact Con.mono hw hq
      | (obtain ⟨v, h', a, b⟩ := hw; exact ⟨v, h', a, hq _ _ b⟩)
      | skip
    case callV f l =>
      simp only [wpo] at hw ⊢
      split at hw
      · exact hw.mono hq
      · exact hw.elim
  induction ss with
  | nil => intro F h hw; exact hk _ _ hw
  | cons s ss ih =>
    intro F h hw
    simp only [wps] at hw ⊢
    cases hg : wantF F s.guard
    · simp only [hg] at hw; exact ih hw
    · simp only [hg] at hw; exact wo (fun v h hw => ih hw) hw
end

/-! ### Code without its remarks -/
def bare (o : Oper) : Oper := { dst := none, op := o.op, type := o.type, pos := "", after := #[], guard := none }
def IOp.er : IOp → IOp
  | .scal o => .scal (bare o)
  | x => x
def Step.er (s : Step) : Step := { s with op := s.op.er }
def RStep.er (s : RStep) : RStep := { s with op := s.op.er }
def DStep.er (s : DStep) : DStep := { s with op := s.op.er, again := s.again.map RStep.er }
def ICode.er : ICode → ICode
  | .region ss => .region (ss.map Step.er)
  | .draw k ss => .draw k (ss.map DStep.er)
  | .sel d s ss => .sel d s (ss.map Step.er)
  | .seq a b => .seq a.er b.er
  | .cond c a b => .cond c a.er b.er
  | .block id a => .block id a.er
  | .loop a => .loop a.er
  | c => c
def IFunc.er (f : IFunc) : IFunc := { f with body := f.body.er }

section
variable {P : Program} {rc : Nat → List V → IM V}
theorem iop_er (tok : Nat) (slot : Option Nat) (e : Env) (x : IOp) : iop P rc tok slot e x.er = iop P rc tok slot e x := by
  cases x <;> try rfl
theorem steps_er : ∀ (ss : List Step) (e : Env), steps P rc (ss.map Step.er) e = steps P rc ss e
  | [], e => rfl
  | s :: ss, e => by
    simp only [List.map_cons, steps, Step.er, iop_er, steps_er ss]
theorem dval_er (tok : Nat) (e : Env) (slot : Option Nat) (g : Option (Nat × Bool)) (x : IOp) : dval P rc tok e slot g x.er = dval P rc tok e slot g x := by
  simp only [dval, iop_er]
theorem rchecks_er (tok : Nat) (e : Env) : ∀ (rs : List RStep), rchecks P rc tok e (rs.map RStep.er) = rchecks P rc tok e rs
  | [] => rfl
  | r :: rs => by simp only [List.map_cons, rchecks, RStep.er, dval_er, rchecks_er tok e rs]
theorem dsteps_er (tok : Nat) : ∀ (ss : List DStep) (e : Env), dsteps P rc tok (ss.map DStep.er) e = dsteps P rc tok ss e
  | [], e => rfl
  | s :: ss, e => by simp only [List.map_cons, dsteps, DStep.er, dval_er, rchecks_er, dsteps_er tok ss]
theorem exec_er (n : Nat) : ∀ (c : ICode) (e : Env), exec P rc n c.er e = exec P rc n c e := by
  intro c
  induction c with
  | region ss => intro e; simp only [ICode.er, exec, steps_er]
  | draw k ss => intro e; simp only [ICode.er, exec, dsteps_er]
  | sel d s ss => intro e; simp only [ICode.er, exec, steps_er]
  | seq a b iha ihb => intro e; simp only [ICode.er, exec, iha, ihb]
  | cond c a b iha ihb => intro e; simp only [ICode.er, exec, iha, ihb]
  | block id a iha => intro e; simp only [ICode.er, exec, iha]
  | loop a iha =>
    intro e
    simp only [ICode.er, exec]
    have : exec P rc n a.er = exec P rc n a := funext iha
    rw [this]
  | _ => intro e; rfl
end

/-! ### Calls -/
def resF (h : Heap) (F : FE) : List IRes → Option (List V)
  | [] => some []
  | .tmp t :: rs => (resF h F rs).map (F t :: ·)
  | .cell t none :: rs => match ld h (F t), resF h F rs with
    | some v, some vs => some (v :: vs)
    | _, _ => none
  | .cell t (some n) :: rs => match ldN n h (F t), resF h F rs with
    | some cs, some vs => some (.agg cs :: vs)
    | _, _ => none
def oneV : List V → V
  | [v] => v
  | vs => .tup vs
theorem loadAt_run {h : Heap} {b o : Nat} {n : Option Nat} {v : V} (hv : (match n with | none => ld h (.ptr b o) | some n => (ldN n h (.ptr b o)).map V.agg) = some v) : (loadAt b o n).run h = some (v, h) := by
  cases n with
  | none =>
    simp only [ld] at hv
    split at hv
    · rename_i w cs hb
      have hl := (List.getElem?_eq_some_iff.1 hv).1
      have h1 : o + 1 ≤ cs.length := by omega
      have h2 : ((cs.drop o).take 1)[0]? = some v := by simp [hv]
      simp only [loadAt, getCells, IM.bind, IM.run, hb, if_pos h1, h2, IM.lift]
    · cases hv
  | some n =>
    simp only [ldN] at hv
    split at hv
    · rename_i w cs hb
      split at hv
      · rename_i h1
        simp only [Option.map_some, Option.some.injEq] at hv
        subst hv
        simp only [loadAt, getCells, IM.bind, IM.run, hb, if_pos h1]
      · cases hv
    · cases hv
theorem res_run {F : FE} {e : Env} (R : RelF F e) {h : Heap} : ∀ (rs : List IRes) {vs : List V}, resF h F rs = some vs → (resultsOf e rs).run h = some (vs, h)
  | [], vs, hr => by simp only [resF, Option.some.injEq] at hr; subst hr; rfl
  | .tmp t :: rs, vs, hr => by
    simp only [resF, Option.map_eq_some_iff] at hr
    obtain ⟨us, q, rfl⟩ := hr
    simp only [resultsOf, IM.run_bind, res_run R rs q, Option.bind_some, IM.run, ← R t]
  | .cell t none :: rs, vs, hr => by
    simp only [resF] at hr
    split at hr
    · rename_i v us h1 h2
      injection hr with hr; subst hr
      simp only [resultsOf, ← R t]
      cases hF : F t <;> simp only [hF, ld] at h1 <;> try (cases h1; done)
      rename_i b o
      have h1' : ld h (.ptr b o) = some v := h1
      simp only [IM.run_bind, loadAt_run (n := none) h1', Option.bind_some, res_run R rs h2, IM.run]
    · cases hr
  | .cell t (some n) :: rs, vs, hr => by
    simp only [resF] at hr
    split at hr
    · rename_i v us h1 h2
      injection hr with hr; subst hr
      simp only [resultsOf, ← R t]
      cases hF : F t <;> simp only [hF, ldN] at h1 <;> try (cases h1; done)
      rename_i b o
      have h1' : (ldN n h (.ptr b o)).map V.agg = some (.agg v) := by simp only [ldN, h1]; rfl
      simp only [IM.run_bind, loadAt_run (n := some n) h1', Option.bind_some, res_run R rs h2, IM.run]
    · cases hr

/-- What the body must bring about. -/
def retQ (rs : List IRes) (Q : V → Heap → Prop) : Out → FE → Heap → Prop := fun o F h => match o with
  | .exit _ => False
  | _ => ∃ vs, resF h F rs = some vs ∧ Q (oneV vs) h
/-- **A call**, by what its code brings about. -/
theorem con_call {M : Mach} {f : Nat} {args : List V} {h : Heap} {Q : V → Heap → Prop} {fn : IFunc} (hm : (M.m.all fun p => p.1 != f) = true) (hc : (M.code f).map IFunc.er = some fn) (hN : args.length ≤ fn.ntmps) (hb : bdC fn.ntmps fn.body = true)
    (hw : WP M fn.ntmps fn.body (argF args) h (retQ fn.results Q)) : Con M f args h Q := by
  simp only [Option.map_eq_some_iff] at hc
  obtain ⟨g, hg, rfl⟩ := hc
  obtain ⟨o, F', e', h', q1, q2, q3, n0, q4⟩ := WP_run _ hw hb (argF_rel args (g.ntmps - args.length)) (by
    have : args.length ≤ g.ntmps := hN
    show (args ++ List.replicate (g.ntmps - args.length) V.undef).length = g.ntmps
    simp; omega)
  have look0 : look f args M.m = none := by
    generalize M.m = m at hm
    clear hg q4
    induction m with
    | nil => rfl
    | cons p m ih =>
      simp only [List.all_cons, Bool.and_eq_true] at hm
      have : (p.1 == f) = false := by simpa using hm.1
      simp only [look, this, Bool.false_and, Bool.false_eq_true, if_false]
      exact ih hm.2
  have fin : o ≠ .norm ∨ True → (∀ i, o ≠ .exit i) → Con M f args h Q := by
    intro _ ho
    have q1 : ∃ vs, resF h' F' g.results = some vs ∧ Q (oneV vs) h' := by
      cases o
      · exact q1
      · exact (ho _ rfl).elim
      · exact q1
    obtain ⟨vs, r1, r2⟩ := q1
    refine ⟨oneV vs, h', r2, n0 + 1, fun n hn => ?_⟩
    obtain ⟨n, rfl⟩ : ∃ i, n = i + 1 := ⟨n - 1, by omega⟩
    have q4 := q4 n (by omega)
    simp only [IFunc.er, exec_er] at q4
    simp only [Mach.rc, mcall, look0, icallB, hg, IM.run_bind]
    simp only [Mach.rc] at q4
    rw [q4]
    simp only [Option.bind_some]
    have tail : ((resultsOf e' g.results).bind fun vs => match vs with
      | [v] => IM.pure v
      | vs => .pure (.tup vs)).run h' = some (oneV vs, h') := by
      rw [IM.run_bind, res_run q2 _ r1, Option.bind_some]
      cases vs with
      | nil => rfl
      | cons v vs => cases vs <;> rfl
    cases o
    · exact tail
    · exact (ho _ rfl).elim
    · exact tail
  cases o
  · exact fin (.inr trivial) (fun i q => by cases q)
  · exact q1.elim
  · exact fin (.inr trivial) (fun i q => by cases q)
/-- A known answer is a call. -/
theorem con_known {M : Mach} {f : Nat} {args : List V} {v : V} {h : Heap} {Q : V → Heap → Prop} (hl : look f args M.m = some v) (q : Q v h) : Con M f args h Q := by
  refine ⟨v, h, q, 1, fun n hn => ?_⟩
  obtain ⟨n, rfl⟩ : ∃ i, n = i + 1 := ⟨n - 1, by omega⟩
  simp only [Mach.rc, mcall, hl]; rfl
end Go.Ideal
