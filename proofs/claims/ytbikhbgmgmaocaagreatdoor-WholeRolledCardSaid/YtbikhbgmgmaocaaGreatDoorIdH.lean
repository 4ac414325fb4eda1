/-
  The ideal machine, part 21: the same run, heap in hand: for evaluation. Conditions: none (lemmas).
-/
import Derived.Test.YtbikhbgmgmaocaaGreatDoorIdG
namespace Go.Ideal

abbrev RcR := Nat → List V → Heap → Option (V × Heap)

def iopR (P : Program) (rc : RcR) (tok : Nat) (slot : Option Nat) (e : Env) (x : IOp) (h : Heap) : Option (V × Heap) := match x with
  | .call f args => rc f (args.map (Opd.ev e)) h
  | .callV f args => match f.ev e with
    | .fn (.func g) first cap => rc g (first ++ args.map (Opd.ev e) ++ cap) h
    | _ => none
  | x => (iop P (fun _ _ => .fail) tok slot e x).run h

def stepsR (P : Program) (rc : RcR) : List Step → Env → Heap → Option (Env × Heap)
  | [], e, h => some (e, h)
  | s :: ss, e, h =>
    if wantedI e s.guard then match iopR P rc 0 none e s.op h with
      | some (v, h1) => stepsR P rc ss (putT e s.dst v) h1
      | none => none
    else stepsR P rc ss (putT e s.dst .undef) h

def dvalR (P : Program) (rc : RcR) (tok : Nat) (e : Env) (slot : Option Nat) (g : Option (Nat × Bool)) (x : IOp) (h : Heap) : Option (V × Heap) :=
  if wantedI e g then iopR P rc tok slot e x h else some (.undef, h)

def rchecksR (P : Program) (rc : RcR) (tok : Nat) (e : Env) : List RStep → Heap → Option (Unit × Heap)
  | [], h => some ((), h)
  | r :: rs, h => match dvalR P rc tok e none r.guard r.op h with
    | some (v, h1) => if V.beq v (e.getD r.dst .undef) then rchecksR P rc tok e rs h1 else none
    | none => none

def dstepsR (P : Program) (rc : RcR) (tok : Nat) : List DStep → Env → Heap → Option (Env × Heap)
  | [], e, h => some (e, h)
  | s :: ss, e, h => match dvalR P rc tok e s.slot s.guard s.op h with
    | some (v, h1) => match rchecksR P rc tok (putT e s.dst v) s.again h1 with
      | some (_, h2) => dstepsR P rc tok ss (putT e s.dst v) h2
      | none => none
    | none => none

def loopR (body : Env → Heap → Option ((Out × Env) × Heap)) : Nat → Env → Heap → Option ((Out × Env) × Heap)
  | 0, _, _ => none
  | k + 1, e, h => match body e h with
    | some ((.norm, e1), h1) => loopR body k e1 h1
    | r => r

def execR (P : Program) (rc : RcR) (n : Nat) : ICode → Env → Heap → Option ((Out × Env) × Heap)
  | .skip, e, h => some ((.norm, e), h)
  | .region ss, e, h => match stepsR P rc ss e h with
    | some (e1, h1) => some ((.norm, e1), h1)
    | none => none
  | .draw k ss, e, h => match dstepsR P rc h.length ss e (h ++ List.replicate k none) with
    | some (e1, h1) => some ((.norm, e1), h1)
    | none => none
  | .sel dst s ss, e, h => match (isel e s).run h with
    | some (v, h1) => match stepsR P rc ss (putT e dst v) h1 with
      | some (e1, h2) => some ((.norm, e1), h2)
      | none => none
    | none => none
  | .seq a b, e, h => match execR P rc n a e h with
    | some ((.norm, e1), h1) => execR P rc n b e1 h1
    | r => r
  | .cond c a b, e, h => match c.ev e with
    | .bool true => execR P rc n a e h
    | .bool false => execR P rc n b e h
    | _ => none
  | .block id a, e, h => match execR P rc n a e h with
    | some ((.exit id', e1), h1) => if id' = id then some ((.norm, e1), h1) else some ((.exit id', e1), h1)
    | r => r
  | .loop a, e, h => loopR (execR P rc n a) n e h
  | .exit id, e, h => some ((.exit id, e), h)
  | .ret, e, h => some ((.ret, e), h)

def resultsR (e : Env) (rs : List IRes) (h : Heap) : Option (V × Heap) := ((resultsOf e rs).bind fun vs => match vs with
  | [v] => .pure v
  | vs => .pure (.tup vs)).run h

def icallR (P : Program) (code : Nat → Option IFunc) (rc : RcR) (n : Nat) (f : Nat) (args : List V) (h : Heap) : Option (V × Heap) := match code f with
  | none => none
  | some fn => match execR P rc n fn.body (args ++ List.replicate (fn.ntmps - args.length) .undef) h with
    | none => none
    | some ((.exit _, _), _) => none
    | some ((_, e), h1) => resultsR e fn.results h1

def mcallR (P : Program) (code : Nat → Option IFunc) (m : Memo) : Nat → RcR
  | 0, _, _, _ => none
  | n + 1, f, args, h => match look f args m with
    | some v => some (v, h)
    | none => icallR P code (mcallR P code m n) n f args h

section
variable {P : Program} {rc : Nat → List V → IM V} {rcR : RcR}

theorem iopR_eq (hrc : ∀ f a h, rcR f a h = (rc f a).run h) (tok : Nat) (slot : Option Nat) (e : Env) (x : IOp) (h : Heap) : iopR P rcR tok slot e x h = (iop P rc tok slot e x).run h := by
  cases x
  case call f args => simp only [iopR, iop, hrc]
  case callV f args =>
    simp only [iopR, iop]
    cases f.ev e
    case fn g first cap => cases g <;> first | exact hrc _ _ _ | rfl
    all_goals rfl
  all_goals rfl

theorem stepsR_eq (hrc : ∀ f a h, rcR f a h = (rc f a).run h) : ∀ (ss : List Step) (e : Env) (h : Heap), stepsR P rcR ss e h = (steps P rc ss e).run h
  | [], e, h => rfl
  | s :: ss, e, h => by
    simp only [stepsR, steps]
    split
    · rw [IM.run_bind, iopR_eq hrc]
      cases (iop P rc 0 none e s.op).run h with
      | none => rfl
      | some p => exact stepsR_eq hrc ss _ _
    · exact stepsR_eq hrc ss _ _

theorem dvalR_eq (hrc : ∀ f a h, rcR f a h = (rc f a).run h) (tok : Nat) (e : Env) (slot : Option Nat) (g : Option (Nat × Bool)) (x : IOp) (h : Heap) : dvalR P rcR tok e slot g x h = (dval P rc tok e slot g x).run h := by
  unfold dvalR dval
  split
  · exact iopR_eq hrc _ _ _ _ _
  · rfl
theorem rchecksR_eq (hrc : ∀ f a h, rcR f a h = (rc f a).run h) (tok : Nat) (e : Env) : ∀ (rs : List RStep) (h : Heap), rchecksR P rcR tok e rs h = (rchecks P rc tok e rs).run h
  | [], h => rfl
  | r :: rs, h => by
    simp only [rchecksR, rchecks, IM.run_bind, dvalR_eq hrc]
    cases (dval P rc tok e none r.guard r.op).run h with
    | none => rfl
    | some p =>
      simp only [Option.bind_some]
      split
      · exact rchecksR_eq hrc tok e rs _
      · rfl
theorem dstepsR_eq (hrc : ∀ f a h, rcR f a h = (rc f a).run h) (tok : Nat) : ∀ (ss : List DStep) (e : Env) (h : Heap), dstepsR P rcR tok ss e h = (dsteps P rc tok ss e).run h
  | [], e, h => rfl
  | s :: ss, e, h => by
    simp only [dstepsR, dsteps, IM.run_bind, dvalR_eq hrc]
    cases (dval P rc tok e s.slot s.guard s.op).run h with
    | none => rfl
    | some p =>
      simp only [Option.bind_some, rchecksR_eq hrc]
      cases (rchecks P rc tok (putT e s.dst p.1) s.again).run p.2 with
      | none => rfl
      | some q => exact dstepsR_eq hrc tok ss _ _

theorem loopR_eq {body : Env → IM (Out × Env)} {bodyR : Env → Heap → Option ((Out × Env) × Heap)} (hb : ∀ e h, bodyR e h = (body e).run h) : ∀ (k : Nat) (e : Env) (h : Heap), loopR bodyR k e h = (loopN body k e).run h
  | 0, e, h => rfl
  | k + 1, e, h => by
    simp only [loopR, loopN, IM.run_bind, hb]
    cases hr : (body e).run h with
    | none => rfl
    | some p =>
      obtain ⟨⟨o, e1⟩, h1⟩ := p
      cases o
      · exact loopR_eq hb k e1 h1
      · rfl
      · rfl

theorem execR_eq (hrc : ∀ f a h, rcR f a h = (rc f a).run h) (n : Nat) : ∀ (c : ICode) (e : Env) (h : Heap), execR P rcR n c e h = (exec P rc n c e).run h := by
  intro c
  induction c with
  | skip => intro e h; rfl
  | exit id => intro e h; rfl
  | ret => intro e h; rfl
  | region ss =>
    intro e h
    simp only [execR, exec, IM.run_bind, stepsR_eq hrc]
    cases (steps P rc ss e).run h <;> rfl
  | draw k ss =>
    intro e h
    simp only [execR, exec, IM.run, IM.run_bind, dstepsR_eq hrc]
    cases (dsteps P rc h.length ss e).run (h ++ List.replicate k none) <;> rfl
  | sel dst s ss =>
    intro e h
    simp only [execR, exec, IM.run_bind]
    cases (isel e s).run h with
    | none => rfl
    | some p =>
      simp only [Option.bind_some, stepsR_eq hrc]
      cases (steps P rc ss (putT e dst p.1)).run p.2 <;> rfl
  | seq a b iha ihb =>
    intro e h
    simp only [execR, exec, IM.run_bind, iha]
    cases (exec P rc n a e).run h with
    | none => rfl
    | some p =>
      obtain ⟨⟨o, e1⟩, h1⟩ := p
      cases o
      · exact ihb e1 h1
      · rfl
      · rfl
  | cond c a b iha ihb =>
    intro e h
    simp only [execR, exec]
    cases c.ev e
    case bool v => cases v <;> first | exact iha e h | exact ihb e h
    all_goals rfl
  | block id a iha =>
    intro e h
    simp only [execR, exec, IM.run_bind, iha]
    cases (exec P rc n a e).run h with
    | none => rfl
    | some p =>
      obtain ⟨⟨o, e1⟩, h1⟩ := p
      cases o
      · rfl
      · simp only [Option.bind_some]; split <;> rfl
      · rfl
  | loop a iha =>
    intro e h
    simp only [execR, exec]
    exact loopR_eq iha n e h

theorem icallR_eq {code : Nat → Option IFunc} (hrc : ∀ f a h, rcR f a h = (rc f a).run h) (n f : Nat) (args : List V) (h : Heap) : icallR P code rcR n f args h = (icallB P code rc n f args).run h := by
  unfold icallR icallB
  cases code f with
  | none => rfl
  | some fn =>
    simp only [execR_eq hrc, IM.run_bind]
    cases (exec P rc n fn.body (args ++ List.replicate (fn.ntmps - args.length) .undef)).run h with
    | none => rfl
    | some p =>
      obtain ⟨⟨o, e1⟩, h1⟩ := p
      cases o <;> rfl

theorem mcallR_eq {code : Nat → Option IFunc} {m : Memo} : ∀ (n f : Nat) (args : List V) (h : Heap), mcallR P code m n f args h = (mcall P code m n f args).run h
  | 0, f, args, h => rfl
  | n + 1, f, args, h => by
    simp only [mcallR, mcall]
    cases look f args m with
    | some v => rfl
    | none => exact icallR_eq (mcallR_eq n) n f args h
end
end Go.Ideal
