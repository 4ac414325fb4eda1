/-
  The ideal machine, part 22: the translation without the look at the drawn orders, for evaluation; the look by itself. Conditions: none (definitions and lemmas).
-/
import Derived.Test.YtbikhbgmgmaocaaGreatDoorIdH
namespace Go.Ideal

section
variable (P : Program)
def drawStepsF (ops : Array Oper) : Option (Nat × List DStep) :=
  match cOps P ops.toList with
  | none => none
  | some xs =>
    let sl := slotsOf (xs.map IOp.cls) 0
    let bef := befores ops.toList
    match dstepsOf ops xs sl.1 bef (orderGo (xs.map IOp.cls) bef ops.size []) [] with
    | some ss => some (sl.2, ss)
    | none => none
def drawFine (ops : Array Oper) : Bool := match drawStepsF P ops with
  | some p => drawOk p.1 (befores ops.toList) ops p.2
  | none => true

def cCodeF : Code → Option ICode
  | .skip => some .skip
  | .region _ ops false => match ops.toList with
    | [] => some (.region [])
    | o :: os => match cSel P o.op with
      | some s => if o.guard.isNone then (plainSteps P ops os).map (.sel o.dst s) else none
      | none => (plainSteps P ops (o :: os)).map .region
  | .region _ ops true => (drawStepsF P ops).map fun p => .draw p.1 p.2
  | .seq a b => match cCodeF a, cCodeF b with
    | some a, some b => some (.seq a b)
    | _, _ => none
  | .cond c a b => match cOpd c, cCodeF a, cCodeF b with
    | some c, some a, some b => some (.cond c a b)
    | _, _, _ => none
  | .block id a => (cCodeF a).map (.block id)
  | .loop a => (cCodeF a).map .loop
  | .scope a => cCodeF a
  | .label _ => some .skip
  | .exit id => some (.exit id)
  | .ret => some .ret
  | _ => none
def fineCode : Code → Bool
  | .region _ ops true => drawFine P ops
  | .seq a b => fineCode a && fineCode b
  | .cond _ a b => fineCode a && fineCode b
  | .block _ a => fineCode a
  | .loop a => fineCode a
  | .scope a => fineCode a
  | _ => true

def cFuncF (f : Nat) : Option IFunc := match P.funcs[f]? with
  | none => none
  | some fn => match fn.body with
    | none => none
    | some c => if fn.name == "runtime.NumGoroutine" then none else match cCodeF P c, cRes P fn.results.toList with
      | some c, some rs => some { ntmps := fn.ntmps, results := rs, body := c }
      | _, _ => none
def fineFunc (f : Nat) : Bool := match P.funcs[f]? with
  | none => true
  | some fn => match fn.body with
    | none => true
    | some c => fineCode P c
end

section
variable {P : Program}
theorem drawSteps_eq {ops : Array Oper} (h : drawFine P ops = true) : drawSteps P ops = drawStepsF P ops := by
  unfold drawFine drawStepsF at h
  unfold drawSteps drawStepsF
  cases hx : cOps P ops.toList with
  | none => rfl
  | some xs =>
    simp only [hx] at h
    simp only
    cases hs : dstepsOf ops xs (slotsOf (xs.map IOp.cls) 0).1 (befores ops.toList) (orderGo (xs.map IOp.cls) (befores ops.toList) ops.size []) [] with
    | none => rfl
    | some ss =>
      simp only [hs] at h
      simp only [if_pos h]

theorem cCode_eq : ∀ {c : Code}, fineCode P c = true → cCode P c = cCodeF P c := by
  intro c
  induction c with
  | region a ops d =>
    intro h
    cases d
    · rfl
    · simp only [fineCode] at h
      simp only [cCode, cCodeF, drawSteps_eq h]
  | seq a b iha ihb =>
    intro h
    simp only [fineCode, Bool.and_eq_true] at h
    simp only [cCode, cCodeF, iha h.1, ihb h.2]
    rfl
  | cond x a b iha ihb =>
    intro h
    simp only [fineCode, Bool.and_eq_true] at h
    simp only [cCode, cCodeF, iha h.1, ihb h.2]
    rfl
  | block id a iha => intro h; simp only [cCode, cCodeF, iha h]
  | loop a iha => intro h; simp only [cCode, cCodeF, iha h]
  | scope a iha => intro h; simp only [cCode, cCodeF]; exact iha h
  | _ => intro _; rfl

theorem cFunc_eq {f : Nat} (h : fineFunc P f = true) : cFunc P f = cFuncF P f := by
  unfold fineFunc at h
  unfold cFunc cFuncF
  cases hf : P.funcs[f]? with
  | none => rfl
  | some fn =>
    simp only [hf] at h
    simp only
    cases hc : fn.body with
    | none => rfl
    | some c =>
      simp only [hc] at h
      simp only [cCode_eq h]
      rfl
end

/-- The code of some functions alone. -/
def cOf (P : Program) (fs : List Nat) (f : Nat) : Option IFunc := if fs.contains f then cFuncF P f else none
theorem cOf_code {P : Program} {fs : List Nat} (h : fs.all (fineFunc P) = true) : ∀ f ir, cOf P fs f = some ir → cFunc P f = some ir := by
  intro f ir hf
  unfold cOf at hf
  split at hf
  · rename_i hc
    rw [cFunc_eq (List.all_eq_true.1 h f (by simpa using hc)), hf]
  · cases hf
theorem fine_append {P : Program} {as bs : List Nat} (ha : as.all (fineFunc P) = true) (hb : bs.all (fineFunc P) = true) : (as ++ bs).all (fineFunc P) = true := by
  rw [List.all_append, ha, hb]; rfl
end Go.Ideal
