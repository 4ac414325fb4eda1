/-
  The ideal machine, part 25: code made ready, for evaluation by the kernel. Conditions: none (definitions and lemmas).
-/
import Derived.Test.YtbikhbgmgmaocaaGreatDoorIdA
namespace Go.Ideal

noncomputable def obp {α β γ : Type} (o : Option (α × β)) (f : α → β → Option γ) : Option γ := @Option.rec (α × β) (fun _ => Option γ) none (fun p => @Prod.rec α β (fun _ => Option γ) f p) o
theorem obp_some {α β γ : Type} {o : Option (α × β)} {f : α → β → Option γ} {r : γ} (h : obp o f = some r) : ∃ a b, o = some (a, b) ∧ f a b = some r := by
  cases o with
  | none => cases h
  | some p => exact ⟨p.1, p.2, rfl, h⟩
noncomputable def kWant (t : Nat) (w : Bool) (e : TE) : Bool := @Option.rec Bool (fun _ => Bool) false (fun b => cond w b (!b)) (e.at (path t)).asBool
theorem kWant_eq (t : Nat) (w : Bool) (e : TE) : kWant t w e = wantedT e (some (t, w)) := by
  unfold kWant
  simp only [wantedT]
  rw [path_at]
  cases e.get t with
  | none => rfl
  | some v =>
    cases v <;> try rfl
    rename_i b
    cases b <;> cases w <;> rfl
noncomputable def putK (e : TE) (d : Option Nat) (v : V) : TE := @Option.rec Nat (fun _ => TE) e (fun d => e.put v (path d)) d
theorem putK_eq (e : TE) (d : Option Nat) (v : V) : putK e d v = putTT e d v := by
  cases d
  · rfl
  · exact path_put _ _ _

/-- An operation and its guard. -/
noncomputable def kGuard (t : Nat) (w : Bool) (k : KO) : KF := fun rc tok e h => cond (kWant t w e) (k.go rc tok e h) (some (.undef, h))
noncomputable def kval (P : Program) (slot : Option Nat) (g : Option (Nat × Bool)) (x : IOp) : KO := match g with
  | none => kop P slot x
  | some (t, w) => .mk (kGuard t w (kop P slot x))

inductive KS where
  | mk (f : RcT → TE → TH → Option (TE × TH))
noncomputable def KS.go (k : KS) : RcT → TE → TH → Option (TE × TH) := @KS.rec (fun _ => RcT → TE → TH → Option (TE × TH)) (fun f => f) k
noncomputable def kStepD (k : KO) (d : Nat) (next : KS) : RcT → TE → TH → Option (TE × TH) := fun rc e h => obp (k.go rc 0 e h) fun v h1 => next.go rc (e.put v (path d)) h1
noncomputable def kStepN (k : KO) (next : KS) : RcT → TE → TH → Option (TE × TH) := fun rc e h => obp (k.go rc 0 e h) fun _ h1 => next.go rc e h1
noncomputable def kstep (P : Program) (s : Step) (next : KS) : KS := match s.dst with
  | some d => .mk (kStepD (kval P none s.guard s.op) d next)
  | none => .mk (kStepN (kval P none s.guard s.op) next)
noncomputable def ksteps (P : Program) (ss : List Step) : KS := @List.rec Step (fun _ => KS) (.mk fun _ e h => some (e, h)) (fun s _ ih => kstep P s ih) ss

inductive KD where
  | mk (f : RcT → Nat → TE → TH → Option (TE × TH))
noncomputable def KD.go (k : KD) : RcT → Nat → TE → TH → Option (TE × TH) := @KD.rec (fun _ => RcT → Nat → TE → TH → Option (TE × TH)) (fun f => f) k
/-- A look, once more. -/
noncomputable def kRe (k : KO) (d : Nat) (next : KD) : RcT → Nat → TE → TH → Option (TE × TH) := fun rc tok e h => obp (k.go rc tok e h) fun v h1 => cond (V.beq v (e.at (path d))) (next.go rc tok e h1) none
noncomputable def kres (P : Program) (rs : List RStep) (next : KD) : KD := @List.rec RStep (fun _ => KD) next (fun r _ ih => .mk (kRe (kval P none r.guard r.op) r.dst ih)) rs
noncomputable def kDStepD (k : KO) (d : Nat) (next : KD) : RcT → Nat → TE → TH → Option (TE × TH) := fun rc tok e h => obp (k.go rc tok e h) fun v h1 => next.go rc tok (e.put v (path d)) h1
noncomputable def kDStepN (k : KO) (next : KD) : RcT → Nat → TE → TH → Option (TE × TH) := fun rc tok e h => obp (k.go rc tok e h) fun _ h1 => next.go rc tok e h1
noncomputable def kdstep (P : Program) (s : DStep) (next : KD) : KD := match s.dst with
  | some d => .mk (kDStepD (kval P s.slot s.guard s.op) d (kres P s.again next))
  | none => .mk (kDStepN (kval P s.slot s.guard s.op) (kres P s.again next))
noncomputable def kdsteps (P : Program) (ss : List DStep) : KD := @List.rec DStep (fun _ => KD) (.mk fun _ _ e h => some (e, h)) (fun s _ ih => kdstep P s ih) ss

abbrev KR := Option ((Out × TE) × TH)
inductive KC where
  | mk (f : RcT → Nat → TE → TH → KR)
noncomputable def KC.go (k : KC) : RcT → Nat → TE → TH → KR := @KC.rec (fun _ => RcT → Nat → TE → TH → KR) (fun f => f) k
/-- What came out: on, or as it is. -/
noncomputable def onNorm (r : KR) (f : TE → TH → KR) : KR := @Option.rec ((Out × TE) × TH) (fun _ => KR) none (fun p => @Prod.rec (Out × TE) TH (fun _ => KR) (fun oe h => @Prod.rec Out TE (fun _ => KR) (fun o e =>
  @Out.rec (fun _ => KR) (f e h) (fun id => some ((.exit id, e), h)) (some ((.ret, e), h)) o) oe) p) r
noncomputable def onExit (id : Nat) (r : KR) : KR := @Option.rec ((Out × TE) × TH) (fun _ => KR) none (fun p => @Prod.rec (Out × TE) TH (fun _ => KR) (fun oe h => @Prod.rec Out TE (fun _ => KR) (fun o e =>
  @Out.rec (fun _ => KR) (some ((.norm, e), h)) (fun id' => cond (Nat.beq id' id) (some ((.norm, e), h)) (some ((.exit id', e), h))) (some ((.ret, e), h)) o) oe) p) r
noncomputable def kLoop (b : KC) (rc : RcT) (n : Nat) (k : Nat) : TE → TH → KR := @Nat.rec (fun _ => TE → TH → KR) (fun _ _ => none) (fun _ ih e h => onNorm (b.go rc n e h) ih) k
noncomputable def kRegion (s : KS) : RcT → Nat → TE → TH → KR := fun rc _ e h => obp (s.go rc e h) fun e1 h1 => some ((.norm, e1), h1)
noncomputable def kDraw (k : Nat) (s : KD) : RcT → Nat → TE → TH → KR := fun rc _ e h => obp (s.go rc h.n e (h.pushes k)) fun e1 h1 => some ((.norm, e1), h1)
noncomputable def kSel (dst : Option Nat) (s : ISel) (k : KS) : RcT → Nat → TE → TH → KR := fun rc _ e h => obp ((isel [] (iselT e s)).runT h) fun v h1 => obp (k.go rc (putK e dst v) h1) fun e1 h2 => some ((.norm, e1), h2)
noncomputable def kSeq (a b : KC) : RcT → Nat → TE → TH → KR := fun rc n e h => onNorm (a.go rc n e h) (b.go rc n)
noncomputable def kCond (c : Opd) (a b : KC) : RcT → Nat → TE → TH → KR := fun rc n e h => ob (evK c e).asBool fun q => cond q (a.go rc n e h) (b.go rc n e h)
noncomputable def kBlock (id : Nat) (a : KC) : RcT → Nat → TE → TH → KR := fun rc n e h => onExit id (a.go rc n e h)
noncomputable def kLoopC (a : KC) : RcT → Nat → TE → TH → KR := fun rc n e h => kLoop a rc n n e h
noncomputable def kcode (P : Program) (c : ICode) : KC := @ICode.rec (fun _ => KC)
  (.mk fun _ _ e h => some ((.norm, e), h))
  (fun ss => .mk (kRegion (ksteps P ss)))
  (fun k ss => .mk (kDraw k (kdsteps P ss)))
  (fun dst s ss => .mk (kSel dst s (ksteps P ss)))
  (fun _ _ a b => .mk (kSeq a b))
  (fun c _ _ a b => .mk (kCond c a b))
  (fun id _ a => .mk (kBlock id a))
  (fun _ a => .mk (kLoopC a))
  (fun id => .mk fun _ _ e h => some ((.exit id, e), h))
  (.mk fun _ _ e h => some ((.ret, e), h)) c

inductive KFn where
  | mk (n : Nat) (res : List IRes) (body : KC)
noncomputable def setAllK (t : TE) (i : Nat) (xs : List V) : TE := @List.rec V (fun _ => TE → Nat → TE) (fun t _ => t) (fun x _ ih t i => ih (t.put x (path i)) (Nat.succ i)) xs t i
def startK (n : Nat) : TE := Tr.rep .undef n n
noncomputable def kResults (res : List IRes) (e : TE) (h : TH) : Option (V × TH) := match res with
  | [.tmp t] => some (e.at (path t), h)
  | rs => ((resultsT e rs).bind fun vs => match vs with
      | [v] => .pure v
      | vs => .pure (.tup vs)).runT h
noncomputable def kfn (P : Program) (code : Nat → Option IFunc) (f : Nat) : Option KFn := ob (code f) fun fn => some (.mk fn.ntmps fn.results (kcode P fn.body))
noncomputable def onDone (r : KR) (f : TE → TH → Option (V × TH)) : Option (V × TH) := @Option.rec ((Out × TE) × TH) (fun _ => Option (V × TH)) none (fun p => @Prod.rec (Out × TE) TH (fun _ => Option (V × TH)) (fun oe h => @Prod.rec Out TE (fun _ => Option (V × TH)) (fun o e =>
  @Out.rec (fun _ => Option (V × TH)) (f e h) (fun _ => none) (f e h) o) oe) p) r
noncomputable def icallK (P : Program) (code : Nat → Option IFunc) (rc : RcT) (n : Nat) (f : Nat) (args : List V) (h : TH) : Option (V × TH) := ob (kfn P code f) fun k => @KFn.rec (fun _ => Option (V × TH)) (fun m res body =>
  onDone (body.go rc n (setAllK (startK (Nat.add args.length (Nat.sub m args.length))) 0 args) h) (kResults res)) k
noncomputable def lookK (f : Nat) (args : List V) (m : Memo) : Option V := @List.rec (Nat × List V × V) (fun _ => Option V) none (fun p _ ih => cond (Nat.beq p.1 f) (cond (V.beqs p.2.1 args) (some p.2.2) ih) ih) m
noncomputable def mcallK (P : Program) (code : Nat → Option IFunc) (m : Memo) (n : Nat) : RcT := @Nat.rec (fun _ => RcT) (fun _ _ _ => none) (fun n ih f args h => @Option.rec V (fun _ => Option (V × TH)) (icallK P code ih n f args h) (fun v => some (v, h)) (lookK f args m)) n

section
variable {P : Program} {rcK rcT : RcT}
theorem kval_sub (hrc : ∀ f a, Sub (rcK f a) (rcT f a)) (slot : Option Nat) (g : Option (Nat × Bool)) (x : IOp) (tok : Nat) (e : TE) : Sub ((kval P slot g x).go rcK tok e) (dvalT P rcT tok e slot g x) := by
  intro h r hr
  unfold kval at hr
  cases g with
  | none => exact kop_sub hrc slot x tok e h r hr
  | some p =>
    obtain ⟨t, w⟩ := p
    have hr : cond (kWant t w e) ((kop P slot x).go rcK tok e h) (some (.undef, h)) = some r := hr
    rw [kWant_eq] at hr
    unfold dvalT
    cases hw : wantedT e (some (t, w))
    · rw [hw] at hr; exact hr
    · rw [hw] at hr; exact kop_sub hrc slot x tok e h r hr

theorem ksteps_sub (hrc : ∀ f a, Sub (rcK f a) (rcT f a)) : ∀ (ss : List Step) (e : TE), Sub ((ksteps P ss).go rcK e) (stepsT P rcT ss e)
  | [], e => fun h r hr => hr
  | s :: ss, e => by
    intro h r hr
    have hr : (kstep P s (ksteps P ss)).go rcK e h = some r := hr
    have key : ∀ v h1, dvalT P rcT 0 e none s.guard s.op h = some (v, h1) → (ksteps P ss).go rcK (putTT e s.dst v) h1 = some r → stepsT P rcT (s :: ss) e h = some r := by
      intro v h1 q1 q2
      have q2 := ksteps_sub hrc ss _ _ _ q2
      unfold dvalT at q1
      simp only [stepsT]
      cases hw : wantedT e s.guard
      · simp only [hw, Option.some.injEq, Prod.mk.injEq] at q1
        obtain ⟨rfl, rfl⟩ := q1
        exact q2
      · simp only [hw] at q1
        simp only [q1]
        exact q2
    unfold kstep at hr
    split at hr
    · rename_i d hd
      have hr : obp ((kval P none s.guard s.op).go rcK 0 e h) (fun v h1 => (ksteps P ss).go rcK (e.put v (path d)) h1) = some r := hr
      obtain ⟨v, h1, q1, q2⟩ := obp_some hr
      refine key v h1 (kval_sub hrc _ _ _ _ _ _ _ q1) ?_
      rw [path_put] at q2
      simp only [hd, putTT]; exact q2
    · rename_i hd
      have hr : obp ((kval P none s.guard s.op).go rcK 0 e h) (fun _ h1 => (ksteps P ss).go rcK e h1) = some r := hr
      obtain ⟨v, h1, q1, q2⟩ := obp_some hr
      refine key v h1 (kval_sub hrc _ _ _ _ _ _ _ q1) ?_
      simp only [hd, putTT]; exact q2

theorem kres_sub (hrc : ∀ f a, Sub (rcK f a) (rcT f a)) (next : KD) (tok : Nat) (e : TE) (h2 : TH) (r : TE × TH) : ∀ (rs : List RStep) (h : TH), (kres P rs next).go rcK tok e h = some r → ∃ h1, rchecksT P rcT tok e rs h = some ((), h1) ∧ next.go rcK tok e h1 = some r
  | [], h, hr => ⟨h, rfl, hr⟩
  | s :: rs, h, hr => by
    have hr : obp ((kval P none s.guard s.op).go rcK tok e h) (fun v h1 => cond (V.beq v (e.at (path s.dst))) ((kres P rs next).go rcK tok e h1) none) = some r := hr
    obtain ⟨v, h1, q1, q2⟩ := obp_some hr
    rw [path_at] at q2
    cases hb : V.beq v ((e.get s.dst).getD .undef)
    · rw [hb] at q2; cases q2
    · rw [hb] at q2
      obtain ⟨h3, q3, q4⟩ := kres_sub hrc next tok e h2 r rs h1 q2
      exact ⟨h3, by simp only [rchecksT, kval_sub hrc _ _ _ _ _ _ _ q1, hb]; exact q3, q4⟩

theorem kdsteps_sub (hrc : ∀ f a, Sub (rcK f a) (rcT f a)) (tok : Nat) : ∀ (ss : List DStep) (e : TE), Sub ((kdsteps P ss).go rcK tok e) (dstepsT P rcT tok ss e)
  | [], e => fun h r hr => hr
  | s :: ss, e => by
    intro h r hr
    have hr : (kdstep P s (kdsteps P ss)).go rcK tok e h = some r := hr
    have key : ∀ v h1, dvalT P rcT tok e s.slot s.guard s.op h = some (v, h1) → (kres P s.again (kdsteps P ss)).go rcK tok (putTT e s.dst v) h1 = some r → dstepsT P rcT tok (s :: ss) e h = some r := by
      intro v h1 q1 q2
      obtain ⟨h2, q3, q4⟩ := kres_sub hrc _ tok _ h1 r _ _ q2
      simp only [dstepsT, q1, q3]
      exact kdsteps_sub hrc tok ss _ _ _ q4
    unfold kdstep at hr
    split at hr
    · rename_i d hd
      have hr : obp ((kval P s.slot s.guard s.op).go rcK tok e h) (fun v h1 => (kres P s.again (kdsteps P ss)).go rcK tok (e.put v (path d)) h1) = some r := hr
      obtain ⟨v, h1, q1, q2⟩ := obp_some hr
      refine key v h1 (kval_sub hrc _ _ _ _ _ _ _ q1) ?_
      rw [path_put] at q2
      simp only [hd, putTT]; exact q2
    · rename_i hd
      have hr : obp ((kval P s.slot s.guard s.op).go rcK tok e h) (fun _ h1 => (kres P s.again (kdsteps P ss)).go rcK tok e h1) = some r := hr
      obtain ⟨v, h1, q1, q2⟩ := obp_some hr
      refine key v h1 (kval_sub hrc _ _ _ _ _ _ _ q1) ?_
      simp only [hd, putTT]; exact q2

theorem onNorm_some {r : KR} {f : TE → TH → KR} {q : (Out × TE) × TH} (h : onNorm r f = some q) : (∃ e h1, r = some ((.norm, e), h1) ∧ f e h1 = some q) ∨ (∃ o e h1, r = some ((o, e), h1) ∧ o ≠ .norm ∧ q = ((o, e), h1)) := by
  cases r with
  | none => cases h
  | some p =>
    obtain ⟨⟨o, e⟩, h1⟩ := p
    cases o
    · exact .inl ⟨e, h1, rfl, h⟩
    · rename_i id
      have h : some ((Out.exit id, e), h1) = some q := h
      injection h with h
      exact .inr ⟨_, e, h1, rfl, (fun q => by cases q), h.symm⟩
    · have h : some ((Out.ret, e), h1) = some q := h
      injection h with h
      exact .inr ⟨_, e, h1, rfl, (fun q => by cases q), h.symm⟩

theorem kLoop_sub {b : KC} {n : Nat} {bodyT : TE → TH → KR} (hb : ∀ e, Sub (b.go rcK n e) (bodyT e)) : ∀ (k : Nat) (e : TE), Sub (kLoop b rcK n k e) (loopT bodyT k e)
  | 0, e => by intro h r hr; cases hr
  | k + 1, e => by
    intro h r hr
    have hr : onNorm (b.go rcK n e h) (kLoop b rcK n k) = some r := hr
    simp only [loopT]
    rcases onNorm_some hr with ⟨e1, h1, q1, q2⟩ | ⟨o, e1, h1, q1, q2, q3⟩
    · simp only [hb _ _ _ q1]
      exact kLoop_sub hb k _ _ _ q2
    · simp only [hb _ _ _ q1, q3]
      cases o <;> first | exact (q2 rfl).elim | rfl

theorem kcode_sub (hrc : ∀ f a, Sub (rcK f a) (rcT f a)) (n : Nat) : ∀ (c : ICode) (e : TE), Sub ((kcode P c).go rcK n e) (execT P rcT n c e) := by
  intro c
  induction c with
  | skip => intro e h r hr; exact hr
  | exit id => intro e h r hr; exact hr
  | ret => intro e h r hr; exact hr
  | region ss =>
    intro e h r hr
    have hr : obp ((ksteps P ss).go rcK e h) (fun e1 h1 => some ((Out.norm, e1), h1)) = some r := hr
    obtain ⟨e1, h1, q1, q2⟩ := obp_some hr
    simp only [execT, ksteps_sub hrc _ _ _ _ q1]; exact q2
  | draw k ss =>
    intro e h r hr
    have hr : obp ((kdsteps P ss).go rcK h.n e (h.pushes k)) (fun e1 h1 => some ((Out.norm, e1), h1)) = some r := hr
    obtain ⟨e1, h1, q1, q2⟩ := obp_some hr
    simp only [execT, kdsteps_sub hrc _ _ _ _ _ q1]; exact q2
  | sel dst s ss =>
    intro e h r hr
    have hr : obp ((isel [] (iselT e s)).runT h) (fun v h1 => obp ((ksteps P ss).go rcK (putK e dst v) h1) fun e1 h2 => some ((Out.norm, e1), h2)) = some r := hr
    obtain ⟨v, h1, q1, q2⟩ := obp_some hr
    obtain ⟨e1, h2, q3, q4⟩ := obp_some q2
    rw [putK_eq] at q3
    simp only [execT, q1, ksteps_sub hrc _ _ _ _ q3]; exact q4
  | seq a b iha ihb =>
    intro e h r hr
    have hr : onNorm ((kcode P a).go rcK n e h) ((kcode P b).go rcK n) = some r := hr
    simp only [execT]
    rcases onNorm_some hr with ⟨e1, h1, q1, q2⟩ | ⟨o, e1, h1, q1, q2, q3⟩
    · simp only [iha _ _ _ q1]
      exact ihb _ _ _ q2
    · simp only [iha _ _ _ q1, q3]
      cases o <;> first | exact (q2 rfl).elim | rfl
  | cond c a b iha ihb =>
    intro e h r hr
    have hr : ob (evK c e).asBool (fun q => cond q ((kcode P a).go rcK n e h) ((kcode P b).go rcK n e h)) = some r := hr
    obtain ⟨q, q1, q2⟩ := ob_some hr
    have q1 := V.asBool_eq q1
    rw [evK_eq] at q1
    simp only [execT, q1]
    cases q
    · exact ihb _ _ _ q2
    · exact iha _ _ _ q2
  | block id a iha =>
    intro e h r hr
    have hr : onExit id ((kcode P a).go rcK n e h) = some r := hr
    simp only [execT]
    cases hq : (kcode P a).go rcK n e h with
    | none => rw [hq] at hr; cases hr
    | some p =>
      obtain ⟨⟨o, e1⟩, h1⟩ := p
      rw [hq] at hr
      simp only [iha _ _ _ hq]
      cases o
      · exact hr
      · rename_i id'
        have hr : cond (Nat.beq id' id) (some ((Out.norm, e1), h1)) (some ((Out.exit id', e1), h1)) = some r := hr
        simp only
        cases hb : Nat.beq id' id
        · rw [hb] at hr; exact hr
        · rw [hb] at hr; exact hr
      · exact hr
  | loop a iha =>
    intro e h r hr
    have hr : kLoop (kcode P a) rcK n n e h = some r := hr
    simp only [execT]
    exact kLoop_sub iha n e h r hr

theorem setAllK_eq : ∀ (xs : List V) (t : TE) (i : Nat), setAllK t i xs = t.setAll i xs
  | [], t, i => rfl
  | x :: xs, t, i => by
    show setAllK (t.put x (path i)) (i + 1) xs = _
    rw [path_put, setAllK_eq xs]; rfl
theorem lookK_eq (f : Nat) (args : List V) : ∀ (m : Memo), lookK f args m = look f args m
  | [] => rfl
  | p :: m => by
    show cond (Nat.beq p.1 f) (cond (V.beqs p.2.1 args) (some p.2.2) (lookK f args m)) (lookK f args m) = _
    rw [lookK_eq f args m]
    have e : (p.1 == f) = Nat.beq p.1 f := by rw [Bool.eq_iff_iff]; simp
    simp only [look, e]
    cases Nat.beq p.1 f <;> cases V.beqs p.2.1 args <;> rfl

theorem icallK_sub {code : Nat → Option IFunc} (hrc : ∀ f a, Sub (rcK f a) (rcT f a)) (n f : Nat) (args : List V) : Sub (icallK P code rcK n f args) (icallT P code rcT n f args) := by
  intro h r hr
  obtain ⟨k, q1, q2⟩ := ob_some hr
  obtain ⟨fn, q3, q4⟩ := ob_some q1
  injection q4 with q4
  subst q4
  have q2 : onDone ((kcode P fn.body).go rcK n (setAllK (startK (args.length + (fn.ntmps - args.length))) 0 args) h) (kResults fn.results) = some r := q2
  have fin : ∀ e h1, kResults fn.results e h1 = some r → ((resultsT e fn.results).bind fun vs => match vs with
      | [v] => IM.pure v
      | vs => .pure (.tup vs)).runT h1 = some r := by
    intro e h1 q
    unfold kResults at q
    split at q
    · rename_i t ht
      rw [path_at] at q
      simp only [ht, resultsT, IM.bind, IM.runT]; exact q
    · exact q
  unfold icallT
  simp only [q3]
  rw [setAllK_eq] at q2
  have q5 : (startK (args.length + (fn.ntmps - args.length))).setAll 0 args = startT (args.length + (fn.ntmps - args.length)) args := rfl
  rw [q5] at q2
  cases hq : (kcode P fn.body).go rcK n (startT (args.length + (fn.ntmps - args.length)) args) h with
  | none => rw [hq] at q2; cases q2
  | some p =>
    obtain ⟨⟨o, e1⟩, h1⟩ := p
    rw [hq] at q2
    simp only [kcode_sub hrc _ _ _ _ _ hq]
    cases o
    · exact fin _ _ q2
    · cases q2
    · exact fin _ _ q2

theorem mcallK_sub {code : Nat → Option IFunc} {m : Memo} : ∀ (n f : Nat) (args : List V), Sub (mcallK P code m n f args) (mcallT P code m n f args)
  | 0, f, args => by intro h r hr; cases hr
  | n + 1, f, args => by
    intro h r hr
    have hr : @Option.rec V (fun _ => Option (V × TH)) (icallK P code (mcallK P code m n) n f args h) (fun v => some (v, h)) (lookK f args m) = some r := hr
    rw [lookK_eq] at hr
    simp only [mcallT]
    cases hl : look f args m with
    | none => rw [hl] at hr; exact icallK_sub (mcallK_sub n) n f args h r hr
    | some v => rw [hl] at hr; exact hr

/-- Does a run from nothing give just this? -/
noncomputable def gives (P : Program) (code : Nat → Option IFunc) (m : Memo) (n f : Nat) (args : List V) (v : V) : Bool := @Option.rec (V × TH) (fun _ => Bool) false (fun p => V.beq p.1 v) (mcallK P code m n f args .nil)
/-- **A known answer, by a run of the ready-made code.** -/
theorem known_of_gives {code : Nat → Option IFunc} (hm : P.follows .mixedOrders = true) (hcode : ∀ f ir, code f = some ir → cFunc P f = some ir) {m : Memo} (hk : MemoOk P m) {n f : Nat} {args : List V} {v : V} {vs : List Value} {u : Value}
    (ha : toVals args = some vs) (hv : v.toVal = some u) (hr : gives P code m n f args v = true) : Known P f args v := by
  unfold gives at hr
  cases hq : mcallK P code m n f args .nil with
  | none => rw [hq] at hr; cases hr
  | some p =>
    rw [hq] at hr
    have hb := V.beq_eq hr
    obtain ⟨h', q1, q2⟩ := mcallT_like n f args _ _ _ _ RelH.nil (mcallK_sub n f args _ _ hq)
    refine known_of_run hm hcode hk ha hv (n := n) (m := m) (code := code) ?_
    rw [q1, ← hb]; rfl
end
end Go.Ideal
