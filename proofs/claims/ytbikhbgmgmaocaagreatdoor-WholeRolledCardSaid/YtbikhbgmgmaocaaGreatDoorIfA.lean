/-
  The ideal machine, part 26: what code brings about (weakest preconditions), for proofs on code at unknown values. Conditions: none (definitions and lemmas).
-/
import Derived.Test.YtbikhbgmgmaocaaGreatDoorIeA
namespace Go.Ideal

/-! ### Temporaries as a function -/
abbrev FE := Nat → V
def FE.upd (F : FE) (d : Nat) (v : V) : FE := fun i => if i = d then v else F i
def FE.put (F : FE) : Option Nat → V → FE
  | some d, v => F.upd d v
  | none, _ => F
def Opd.at (F : FE) : Opd → V
  | .t i => F i
  | .c v => v
def RelF (F : FE) (e : Env) : Prop := ∀ i, F i = e.getD i .undef
theorem at_eq {F : FE} {e : Env} (R : RelF F e) (x : Opd) : x.ev e = x.at F := by
  cases x
  · exact (R _).symm
  · rfl
theorem RelF.put {F : FE} {e : Env} (R : RelF F e) {d : Option Nat} (hd : ∀ t, d = some t → t < e.length) (v : V) : RelF (F.put d v) (putT e d v) := by
  cases d with
  | none => exact R
  | some t =>
    intro i
    have ht := hd t rfl
    simp only [FE.put, FE.upd, putT]
    split
    · rename_i h; subst h; simp [ht]
    · rename_i h
      rw [R i]
      simp only [List.getD_eq_getElem?_getD, List.getElem?_set]
      rw [if_neg (fun q => h q.symm)]
theorem put_length (e : Env) (d : Option Nat) (v : V) : (putT e d v).length = e.length := by
  cases d <;> simp [putT]

/-- Operands put in. -/
def Opd.inF (F : FE) (x : Opd) : Opd := .c (x.at F)
def argF (args : List V) : FE := fun i => args.getD i .undef
theorem argF_rel (args : List V) (k : Nat) : RelF (argF args) (args ++ List.replicate k .undef) := by
  intro i
  simp only [argF, List.getD_eq_getElem?_getD]
  by_cases h : i < args.length
  · rw [List.getElem?_append_left h]
  · rw [List.getElem?_append_right (by omega), List.getElem?_eq_none (by omega), List.getElem?_replicate]
    split <;> rfl

/-! ### The machine -/
structure Mach where
  P : Program
  code : Nat → Option IFunc
  m : Memo
def Mach.rc (M : Mach) (n : Nat) : Nat → List V → IM V := mcall M.P M.code M.m n

/-- A call comes back, with what Q says. -/
def Con (M : Mach) (f : Nat) (args : List V) (h : Heap) (Q : V → Heap → Prop) : Prop := ∃ v h', Q v h' ∧ ∃ n0, ∀ n, n0 ≤ n → (M.rc n f args).run h = some (v, h')
theorem Con.mono {M : Mach} {f : Nat} {args : List V} {h : Heap} {Q Q' : V → Heap → Prop} (c : Con M f args h Q) (hq : ∀ v h', Q v h' → Q' v h') : Con M f args h Q' := by
  obtain ⟨v, h', q, r⟩ := c
  exact ⟨v, h', hq v h' q, r⟩

/-! ### Operations -/
def inFP (F : FE) : List (Nat × Nat × Opd) → List (Nat × Nat × Opd)
  | [] => []
  | p :: ps => (p.1, p.2.1, p.2.2.inF F) :: inFP F ps
def IOp.inF (F : FE) : IOp → IOp
  | .mv x => .mv (x.inF F)
  | .pick c a b => .pick (c.inF F) (a.inF F) (b.inF F)
  | .scal o => .scal o
  | .field off n agg x => .field off n agg (x.inF F)
  | .extract i x => .extract i (x.inF F)
  | .build z ps => .build z (inFP F ps)
  | .mkFn f a b => .mkFn f (a.map (Opd.inF F)) (b.map (Opd.inF F))
  | .fieldAddr off x => .fieldAddr off (x.inF F)
  | .indexAddr sz x i => .indexAddr sz (x.inF F) (i.inF F)
  | .indexAddrA len sz x i => .indexAddrA len sz (x.inF F) (i.inF F)
  | .slice sz x lo hi mx => .slice sz (x.inF F) (lo.map (Opd.inF F)) (hi.map (Opd.inF F)) (mx.map (Opd.inF F))
  | .sliceA len sz x lo hi => .sliceA len sz (x.inF F) (lo.map (Opd.inF F)) (hi.map (Opd.inF F))
  | .nilCheck x => .nilCheck (x.inF F)
  | .arrayPtr len sz x => .arrayPtr len sz (x.inF F)
  | .isNil k neg x => .isNil k neg (x.inF F)
  | .lenSlice x => .lenSlice (x.inF F)
  | .cap x => .cap (x.inF F)
  | .lenMap x => .lenMap (x.inF F)
  | .lenChan x => .lenChan (x.inF F)
  | .load n x => .load n (x.inF F)
  | .lookup ik z x k ok => .lookup ik z (x.inF F) (k.inF F) ok
  | .alloc z => .alloc z
  | .box x => .box (x.inF F)
  | .buildSlice sz len z ps => .buildSlice sz len z (inFP F ps)
  | .makeSlice sz z l => .makeSlice sz z (l.inF F)
  | .makeMap => .makeMap
  | .makeChan x => .makeChan (x.inF F)
  | .strBytes x => .strBytes (x.inF F)
  | .bytesStr x => .bytesStr (x.inF F)
  | .store n x v => .store n (x.inF F) (v.inF F)
  | .append sz x y => .append sz (x.inF F) (y.inF F)
  | .appendStr x y => .appendStr (x.inF F) (y.inF F)
  | .appendZ sz z x n => .appendZ sz z (x.inF F) (n.inF F)
  | .never => .never
  | .copy sz x y => .copy sz (x.inF F) (y.inF F)
  | .mapUpdate ik x k v => .mapUpdate ik (x.inF F) (k.inF F) (v.inF F)
  | .delete ik x k => .delete ik (x.inF F) (k.inF F)
  | .range x => .range (x.inF F)
  | .next x => .next (x.inF F)
  | .entry x => .entry (x.inF F)
  | .clear sz z x => .clear sz z (x.inF F)
  | .call f l => .call f l
  | .callV f l => .callV f l
theorem ev_nilF (F : FE) (x : Opd) : (x.inF F).ev [] = x.at F := rfl
theorem bound_inF {F : FE} {e : Env} (R : RelF F e) (d : Nat) (x : Option Opd) : boundOf [] d (x.map (Opd.inF F)) = boundOf e d x := by
  cases x
  · rfl
  · simp only [Option.map_some, boundOf, ev_nilF, at_eq R]
theorem fill_inF {F : FE} {e : Env} (R : RelF F e) : ∀ (ps : List (Nat × Nat × Opd)) (cs : List V), fillParts [] (inFP F ps) cs = fillParts e ps cs
  | [], cs => rfl
  | (a, b, x) :: ps, cs => by
    have e1 : (x.inF F).ev [] = x.ev e := by rw [ev_nilF, at_eq R]
    simp only [inFP, fillParts, e1]
    split
    · exact fill_inF R ps _
    · rfl
theorem slice_inF {F : FE} {e : Env} (R : RelF F e) (sz : Nat) (lo hi mx : Option Opd) (x : V) : sliceOf sz [] (lo.map (Opd.inF F)) (hi.map (Opd.inF F)) (mx.map (Opd.inF F)) x = sliceOf sz e lo hi mx x := by
  unfold sliceOf
  simp only [bound_inF R]
  cases mx <;> rfl
theorem map_inF {F : FE} (l : List Opd) : (l.map (Opd.inF F)).map (Opd.ev []) = l.map (Opd.at F) := by
  simp only [List.map_map]; rfl
theorem map_at {F : FE} {e : Env} (R : RelF F e) (l : List Opd) : l.map (Opd.ev e) = l.map (Opd.at F) := List.map_congr_left fun x _ => at_eq R x
theorem iop_inF {P : Program} {F : FE} {e : Env} (R : RelF F e) (rc : Nat → List V → IM V) (tok : Nat) (slot : Option Nat) (x : IOp) (hx : x.low = true) : iop P (fun _ _ => .fail) tok slot [] (x.inF F) = iop P rc tok slot e x := by
  cases x <;> first
    | (simp [IOp.low] at hx; done)
    | rfl
    | (simp only [IOp.inF, iop, ev_nilF, at_eq R, fill_inF R, slice_inF R, bound_inF R, map_inF, map_at R]; done)
    | (simp only [IOp.inF, iop, ev_nilF, at_eq R]; rfl)

/-! #### Scalars -/
def intV (op : BinOp) (k : IntKind) (a b : Int) : Option V := match op with
  | .add => some (.int k (k.wrap (a + b)))
  | .sub => some (.int k (k.wrap (a - b)))
  | .mul => some (.int k (k.wrap (a * b)))
  | .quo => if b = 0 then none else some (.int k (k.wrap (a.tdiv b)))
  | .rem => if b = 0 then none else some (.int k (a.tmod b))
  | .and => some (.int k (k.wrap (BitVec.ofInt k.bits a &&& BitVec.ofInt k.bits b).toNat))
  | .or => some (.int k (k.wrap (BitVec.ofInt k.bits a ||| BitVec.ofInt k.bits b).toNat))
  | .xor => some (.int k (k.wrap (BitVec.ofInt k.bits a ^^^ BitVec.ofInt k.bits b).toNat))
  | .andNot => some (.int k (k.wrap (BitVec.ofInt k.bits a &&& ~~~BitVec.ofInt k.bits b).toNat))
  | .eql => some (.bool (a == b))
  | .neq => some (.bool (a != b))
  | .lss => some (.bool (decide (a < b)))
  | .leq => some (.bool (decide (a ≤ b)))
  | .gtr => some (.bool (decide (a > b)))
  | .geq => some (.bool (decide (a ≥ b)))
  | _ => none
def strV (op : BinOp) (a b : ByteArray) : Option V := match op with
  | .eql => some (.bool (a.toList == b.toList))
  | .neq => some (.bool (!(a.toList == b.toList)))
  | _ => none
def binV (op : BinOp) (u v : V) : Option V := match u, v with
  | .int k a, .int j b => if k = j then intV op k a b else none
  | .str a, .str b => strV op a b
  | _, _ => none
def unV (op : UnOp) (u : V) : Option V := match op, u with
  | .not, .bool b => some (.bool !b)
  | .neg, .int k n => some (.int k (k.wrap (0 - n)))
  | _, _ => none
def convV (P : Program) (src dst : TypeId) (u : V) : Option V := match P.underlying src, P.underlying dst, u with
  | some _, some (.int k), .int _ n => some (.int k (k.wrap n))
  | _, _, _ => none
def oprV (F : FE) : Operand → Option V
  | .tmp t => some (F t)
  | .const v => V.ofVal v
  | _ => none
def scalV (P : Program) (o : Op) (F : FE) : Option V := match o with
  | .binOp op _ x y _ => match oprV F x, oprV F y with
    | some u, some v => binV op u v
    | _, _ => none
  | .unOp op _ x => (oprV F x).bind (unV op)
  | .convert src dst x => (oprV F x).bind (convV P src dst)
  | .call c => match c.callee, c.args.toList with
    | .builtin .max, [x, y] => match oprV F x, oprV F y with
      | some (.int k a), some (.int j b) => if k = j then some (.int k (if b > a then b else a)) else none
      | _, _ => none
    | _, _ => none
  | _ => none

section
variable {P : Program}
/-- What an operand of the model holds. -/
def rhoE (e : Env) : Operand → Option Value
  | .tmp t => (e.getD t .undef).toVal
  | .const v => some v
  | _ => none
theorem iop_rho (rc : Nat → List V → IM V) (tok : Nat) (slot : Option Nat) (e : Env) (o : Oper) : iop P rc tok slot e (.scal o) = (if o.op.operands.all fun x => (rhoE e x).isSome then
    match pureSem P (execOp (fun x => (rhoE e x).getD undef) o) with
    | some (.value v) => IM.lift (V.ofVal v)
    | _ => .fail
  else .fail) := by
  have : (fun (x : Operand) => match x with
      | .tmp t => (e.getD t .undef).toVal
      | .const v => some v
      | _ => (none : Option Value)) = rhoE e := by
    funext x; cases x <;> rfl
  unfold iop
  rw [← this]
  rfl
theorem rho_of {F : FE} {e : Env} (R : RelF F e) {x : Operand} {v : V} (hx : oprV F x = some v) {u : Value} (hu : v.toVal = some u) : rhoE e x = some u := by
  cases x with
  | tmp t =>
    simp only [oprV, Option.some.injEq] at hx
    subst hx
    simp only [rhoE, ← R t, hu]
  | const c =>
    simp only [oprV] at hx
    have := VRel.val _ hu (VRel_ofVal (ρ := fun _ => none) hx)
    simp only [rhoE, this]
  | func f => simp [oprV] at hx
  | global g => simp [oprV] at hx
theorem scal_iop {rc : Nat → List V → IM V} {tok : Nat} {slot : Option Nat} {e : Env} {o : Oper} {v : V} {u : Value} (h1 : (o.op.operands.all fun x => (rhoE e x).isSome) = true) (h2 : pureSem P (execOp (fun x => (rhoE e x).getD undef) o) = some (.value u)) (h3 : V.ofVal u = some v) (h : Heap) :
    (iop P rc tok slot e (.scal o)).run h = some (v, h) := by
  rw [iop_rho, if_pos h1, h2]
  simp only [h3, IM.lift, IM.run]

theorem exec_binS {op : BinOp} {t ty : TypeId} {x y : Operand} {o : Oper} (ho : o.op = .binOp op t x y ty) {ρ : Operand → Value} {a b : ByteArray} (hx : ρ x = .string a) (hy : ρ y = .string b) :
    pureSem P (execOp ρ o) = pureSem P ((do eqGuard op t x y (.string a) (.string b); binOp op t (.string a) (.string b)) >>= fun v => (pure (.value v) : Sem Next)) := by
  unfold execOp
  rw [ho]
  simp only [hx, hy]

theorem intV_sem {op : BinOp} {k : IntKind} {a b : Int} {v : V} (h : intV op k a b = some v) (t : TypeId) (x y : Operand) :
    ∃ u, V.ofVal u = some v ∧ pureSem P ((do eqGuard op t x y (.int k a) (.int k b); binOp op t (.int k a) (.int k b)) >>= fun v => (pure (.value v) : Sem Next)) = some (.value u) := by
  have div : ∀ op, (op = .quo ∨ op = .rem) → pureSem P ((do eqGuard op t x y (.int k a) (.int k b); binOp op t (.int k a) (.int k b)) >>= fun v => (pure (.value v) : Sem Next)) = (pureSem P (Op.intDiv op k a b)).map Next.value := by
    intro op ho
    rw [pure_val]
    rcases ho with rfl | rfl <;> (cases k <;> rfl)
  cases op
  case quo =>
    simp only [intV] at h
    split at h
    · cases h
    · rename_i hb
      injection h with h; subst h
      exact ⟨_, rfl, by rw [div _ (.inl rfl)]; unfold Op.intDiv; rw [if_neg hb]; rfl⟩
  case rem =>
    simp only [intV] at h
    split at h
    · cases h
    · rename_i hb
      injection h with h; subst h
      exact ⟨_, rfl, by rw [div _ (.inr rfl)]; unfold Op.intDiv; rw [if_neg hb]; rfl⟩
  all_goals
    simp only [intV] at h
    first
      | (injection h with h; subst h; exact ⟨.int k _, rfl, by cases k <;> rfl⟩)
      | (injection h with h; subst h; exact ⟨.bool _, rfl, by cases k <;> rfl⟩)
      | cases h
theorem strV_sem {op : BinOp} {a b : ByteArray} {v : V} (h : strV op a b = some v) (t : TypeId) (x y : Operand) :
    ∃ u, V.ofVal u = some v ∧ pureSem P ((do eqGuard op t x y (.string a) (.string b); binOp op t (.string a) (.string b)) >>= fun v => (pure (.value v) : Sem Next)) = some (.value u) := by
  cases op <;> simp only [strV] at h <;> first
    | (injection h with h; subst h; exact ⟨.bool _, rfl, rfl⟩)
    | cases h

theorem scalV_run {F : FE} {e : Env} (R : RelF F e) {o : Oper} {v : V} (hs : scalV P o.op F = some v) (rc : Nat → List V → IM V) (tok : Nat) (slot : Option Nat) (h : Heap) : (iop P rc tok slot e (.scal o)).run h = some (v, h) := by
  unfold scalV at hs
  split at hs
  · rename_i op t x y ty ho
    split at hs
    · rename_i u w hu hw
      unfold binV at hs
      split at hs
      · rename_i k a j b
        split at hs
        · rename_i hk
          subst hk
          have r1 := rho_of R hu (u := .int k a) rfl
          have r2 := rho_of R hw (u := .int k b) rfl
          obtain ⟨q, q1, q2⟩ := intV_sem (P := P) hs t x y
          refine scal_iop (u := q) ?_ ?_ q1 h
          · simp [ho, Op.operands, r1, r2]
          · rw [exec_bin ho (by rw [r1]; rfl) (by rw [r2]; rfl)]; exact q2
        · cases hs
      · rename_i a b
        have r1 := rho_of R hu (u := .string a) rfl
        have r2 := rho_of R hw (u := .string b) rfl
        obtain ⟨q, q1, q2⟩ := strV_sem (P := P) hs t x y
        refine scal_iop (u := q) ?_ ?_ q1 h
        · simp [ho, Op.operands, r1, r2]
        · rw [exec_binS ho (by rw [r1]; rfl) (by rw [r2]; rfl)]; exact q2
      · cases hs
    · cases hs
  · rename_i op t x ho
    simp only [Option.bind_eq_some_iff] at hs
    obtain ⟨u, hu, hs⟩ := hs
    unfold unV at hs
    split at hs
    · rename_i b
      injection hs with hs; subst hs
      have r1 := rho_of R hu (u := .bool b) rfl
      refine scal_iop (u := .bool !b) ?_ ?_ rfl h
      · simp [ho, Op.operands, r1]
      · unfold execOp; rw [ho]; simp only [r1, Option.getD_some]; rfl
    · rename_i k n
      injection hs with hs; subst hs
      have r1 := rho_of R hu (u := .int k n) rfl
      refine scal_iop (u := .int k (k.wrap (0 - n))) ?_ ?_ rfl h
      · simp [ho, Op.operands, r1]
      · unfold execOp; rw [ho]; simp only [r1, Option.getD_some]; rfl
    · cases hs
  · rename_i src dst x ho
    simp only [Option.bind_eq_some_iff] at hs
    obtain ⟨u, hu, hs⟩ := hs
    unfold convV at hs
    split at hs
    · rename_i d k j n h1 h2
      injection hs with hs; subst hs
      have r1 := rho_of R hu (u := .int j n) rfl
      refine scal_iop (u := .int k (k.wrap n)) ?_ ?_ rfl h
      · simp [ho, Op.operands, r1]
      · unfold execOp
        rw [ho]
        simp only [r1, Option.getD_some]
        rw [pure_val]
        unfold convert
        rw [pure_bind, pure_under, h1, Option.bind_some, pure_bind, pure_under, h2, Option.bind_some]
        rfl
    · cases hs
  · rename_i c ho
    split at hs
    · rename_i x y hc hx
      split at hs
      · rename_i k a j b hu hw
        split at hs
        · rename_i hk
          subst hk
          injection hs with hs; subst hs
          have r1 := rho_of R hu (u := .int k a) rfl
          have r2 := rho_of R hw (u := .int k b) rfl
          have hx' : c.args = #[x, y] := by apply Array.ext'; simpa using hx
          refine scal_iop (u := .int k (if b > a then b else a)) ?_ ?_ rfl h
          · simp [ho, Op.operands, Call.operands, hc, hx', r1, r2]
          · unfold execOp
            rw [ho]
            show pureSem P (resolve _ c o.type >>= fun d => invoke d.target d.args) = _
            have : resolve (fun x => (rhoE e x).getD undef) c o.type = (Sem.pure { target := .builtin .max c.argTypes o.type (c.args.map fun | .const _ => true | _ => false), args := #[.int k a, .int k b] } : Sem Deferred) := by
              unfold resolve
              simp only [hc, hx', List.map_toArray, List.map_cons, List.map_nil, r1, r2, Option.getD_some]
              rfl
            rw [this]
            rfl
        · cases hs
      · cases hs
    · cases hs
  · cases hs
end

/-- One operation. -/
def wpo (M : Mach) (tok : Nat) (slot : Option Nat) (x : IOp) (F : FE) (h : Heap) (Q : V → Heap → Prop) : Prop := match x with
  | .scal o => ∃ v, scalV M.P o.op F = some v ∧ Q v h
  | .call f args => Con M f (args.map (Opd.at F)) h Q
  | .callV f args => match f.at F with
    | .fn (.func g) first cap => Con M g (first ++ args.map (Opd.at F) ++ cap) h Q
    | _ => False
  | x => ∃ v h', (iop M.P (fun _ _ => .fail) tok slot [] (x.inF F)).run h = some (v, h') ∧ Q v h'
theorem wpo_run {M : Mach} {tok : Nat} {slot : Option Nat} {x : IOp} {F : FE} {h : Heap} {Q : V → Heap → Prop} (hw : wpo M tok slot x F h Q) :
    ∃ v h', Q v h' ∧ ∃ n0, ∀ n, n0 ≤ n → ∀ e, RelF F e → (iop M.P (M.rc n) tok slot e x).run h = some (v, h') := by
  unfold wpo at hw
  split at hw
  · obtain ⟨v, h1, q⟩ := hw
    exact ⟨v, h, q, 0, fun n _ e R => scalV_run R h1 _ _ _ _⟩
  · obtain ⟨v, h', q, n0, r⟩ := hw
    exact ⟨v, h', q, n0, fun n hn e R => by simp only [iop, map_at R]; exact r n hn⟩
  · split at hw
    · rename_i g first cap hf
      obtain ⟨v, h', q, n0, r⟩ := hw
      exact ⟨v, h', q, n0, fun n hn e R => by simp only [iop, map_at R, at_eq R, hf]; exact r n hn⟩
    · exact hw.elim
  · rename_i h1 h2 h3
    obtain ⟨v, h', r, q⟩ := hw
    refine ⟨v, h', q, 0, fun n _ e R => ?_⟩
    rw [← iop_inF R (M.rc n) tok slot x (by cases x <;> first | rfl | exact (h1 _ rfl).elim | exact (h2 _ _ rfl).elim | exact (h3 _ _ rfl).elim)]
    exact r
def wantF (F : FE) : Option (Nat × Bool) → Bool
  | none => true
  | some (t, w) => match F t with
    | .bool b => b == w
    | _ => false
theorem wantF_eq {F : FE} {e : Env} (R : RelF F e) (g : Option (Nat × Bool)) : wantedI e g = wantF F g := by
  cases g with
  | none => rfl
  | some p =>
    obtain ⟨t, w⟩ := p
    simp only [wantedI, wantF, R t, List.getD_eq_getElem?_getD]
    cases e[t]? with
    | none => rfl
    | some v => cases v <;> rfl
def wps (M : Mach) : List Step → FE → Heap → (FE → Heap → Prop) → Prop
  | [], F, h, Q => Q F h
  | s :: ss, F, h, Q => match wantF F s.guard with
    | true => wpo M 0 none s.op F h fun v h' => wps M ss (F.put s.dst v) h' Q
    | false => wps M ss (F.put s.dst .undef) h Q
/-- Looks that are made once more. -/
def wpr (M : Mach) (tok : Nat) : List RStep → FE → Heap → Prop
  | [], _, _ => True
  | r :: rs, F, h => (match wantF F r.guard with
    | true => wpo M tok none r.op F h fun w h' => h' = h ∧ V.beq w (F r.dst) = true
    | false => V.beq .undef (F r.dst) = true) ∧ wpr M tok rs F h
/-- Steps of a region that draws. -/
def wpd (M : Mach) (tok : Nat) : List DStep → FE → Heap → (FE → Heap → Prop) → Prop
  | [], F, h, Q => Q F h
  | s :: ss, F, h, Q => match wantF F s.guard with
    | true => wpo M tok s.slot s.op F h fun v h' => wpr M tok s.again (F.put s.dst v) h' ∧ wpd M tok ss (F.put s.dst v) h' Q
    | false => wpr M tok s.again (F.put s.dst .undef) h ∧ wpd M tok ss (F.put s.dst .undef) h Q

/-- All that a code writes lies below N. -/
def dstLt (N : Nat) : Option Nat → Bool
  | none => true
  | some t => decide (t < N)
def bdC (N : Nat) : ICode → Bool
  | .region ss => ss.all fun s => dstLt N s.dst
  | .draw _ ss => ss.all fun s => dstLt N s.dst
  | .sel .. => false
  | .seq a b => bdC N a && bdC N b
  | .cond _ a b => bdC N a && bdC N b
  | .block _ a => bdC N a
  | .loop a => bdC N a
  | _ => true

/-- A loop comes to an end. -/
def wpl (M : Mach) (N : Nat) (a : ICode) (F : FE) (h : Heap) (Q : Out → FE → Heap → Prop) : Prop :=
  ∀ e, RelF F e → e.length = N → ∃ o F' e' h', Q o F' h' ∧ RelF F' e' ∧ e'.length = N ∧ ∃ n0, ∀ n, n0 ≤ n → ∀ j, n0 ≤ j → (loopN (exec M.P (M.rc n) n a) j e).run h = some ((o, e'), h')
/-- On, or out. -/
def thenQ (K : FE → Heap → Prop) (Q : Out → FE → Heap → Prop) : Out → FE → Heap → Prop := fun o F h => match o with
  | .norm => K F h
  | o => Q o F h
def exitQ (id : Nat) (Q : Out → FE → Heap → Prop) : Out → FE → Heap → Prop := fun o F h => match o with
  | .exit i => if i = id then Q .norm F h else Q (.exit i) F h
  | o => Q o F h
/-- **What must hold for code to bring about Q.** -/
def WP (M : Mach) (N : Nat) : ICode → FE → Heap → (Out → FE → Heap → Prop) → Prop
  | .skip, F, h, Q => Q .norm F h
  | .region ss, F, h, Q => wps M ss F h fun F h => Q .norm F h
  | .draw k ss, F, h, Q => wpd M h.length ss F (h ++ List.replicate k none) fun F h => Q .norm F h
  | .sel .., _, _, _ => False
  | .seq a b, F, h, Q => WP M N a F h (thenQ (fun F h => WP M N b F h Q) Q)
  | .cond c a b, F, h, Q => match c.at F with
    | .bool true => WP M N a F h Q
    | .bool false => WP M N b F h Q
    | _ => False
  | .block id a, F, h, Q => WP M N a F h (exitQ id Q)
  | .loop a, F, h, Q => wpl M N a F h Q
  | .exit id, F, h, Q => Q (.exit id) F h
  | .ret, F, h, Q => Q .ret F h

/-! ### It is so -/
section
variable {M : Mach} {N : Nat}
theorem dstLt_lt {N : Nat} {d : Option Nat} (h : dstLt N d = true) : ∀ t, d = some t → t < N := by
  intro t ht; subst ht; simpa [dstLt] using h

theorem wps_run : ∀ (ss : List Step) {F : FE} {e : Env} {h : Heap} {Q : FE → Heap → Prop}, wps M ss F h Q → (ss.all fun s => dstLt N s.dst) = true → RelF F e → e.length = N →
    ∃ F' e' h', Q F' h' ∧ RelF F' e' ∧ e'.length = N ∧ ∃ n0, ∀ n, n0 ≤ n → (steps M.P (M.rc n) ss e).run h = some (e', h')
  | [], F, e, h, Q, hw, _, R, hl => ⟨F, e, h, hw, R, hl, 0, fun _ _ => rfl⟩
  | s :: ss, F, e, h, Q, hw, hb, R, hl => by
    simp only [List.all_cons, Bool.and_eq_true] at hb
    have hd := dstLt_lt hb.1
    simp only [wps] at hw
    cases hg : wantF F s.guard
    · simp only [hg] at hw
      obtain ⟨F', e', h', q1, q2, q3, n0, q4⟩ := wps_run ss hw hb.2 (R.put (by rw [hl]; exact hd) .undef) (by rw [put_length, hl])
      refine ⟨F', e', h', q1, q2, q3, n0, fun n hn => ?_⟩
      simp only [steps, wantF_eq R, hg, Bool.false_eq_true, if_false]
      exact q4 n hn
    · simp only [hg] at hw
      obtain ⟨v, h1, r1, n1, r2⟩ := wpo_run hw
      obtain ⟨F', e', h', q1, q2, q3, n0, q4⟩ := wps_run ss r1 hb.2 (R.put (by rw [hl]; exact hd) v) (by rw [put_length, hl])
      refine ⟨F', e', h', q1, q2, q3, max n0 n1, fun n hn => ?_⟩
      simp only [steps, wantF_eq R, hg, if_true, IM.run_bind, r2 n (by omega) e R, Option.bind_some]
      exact q4 n (by omega)

theorem wpr_run (tok : Nat) : ∀ (rs : List RStep) {F : FE} {e : Env} {h : Heap}, wpr M tok rs F h → RelF F e → ∃ n0, ∀ n, n0 ≤ n → (rchecks M.P (M.rc n) tok e rs).run h = some ((), h)
  | [], F, e, h, _, R => ⟨0, fun _ _ => rfl⟩
  | r :: rs, F, e, h, hw, R => by
    simp only [wpr] at hw
    obtain ⟨hw, hr⟩ := hw
    obtain ⟨n0, q0⟩ := wpr_run tok rs hr R
    have hF : e.getD r.dst .undef = F r.dst := (R _).symm
    cases hg : wantF F r.guard
    · simp only [hg] at hw
      refine ⟨n0, fun n hn => ?_⟩
      simp only [rchecks, dval, wantF_eq R, hg, Bool.false_eq_true, if_false, IM.bind, hF, hw, if_true]
      exact q0 n hn
    · simp only [hg] at hw
      obtain ⟨w, h', ⟨rfl, q1⟩, n1, q2⟩ := wpo_run hw
      refine ⟨max n0 n1, fun n hn => ?_⟩
      simp only [rchecks, dval, wantF_eq R, hg, if_true, IM.run_bind, q2 n (by omega) e R, Option.bind_some, hF, q1]
      exact q0 n (by omega)
theorem wpd_run (tok : Nat) : ∀ (ss : List DStep) {F : FE} {e : Env} {h : Heap} {Q : FE → Heap → Prop}, wpd M tok ss F h Q → (ss.all fun s => dstLt N s.dst) = true → RelF F e → e.length = N →
    ∃ F' e' h', Q F' h' ∧ RelF F' e' ∧ e'.length = N ∧ ∃ n0, ∀ n, n0 ≤ n → (dsteps M.P (M.rc n) tok ss e).run h = some (e', h')
  | [], F, e, h, Q, hw, _, R, hl => ⟨F, e, h, hw, R, hl, 0, fun _ _ => rfl⟩
  | s :: ss, F, e, h, Q, hw, hb, R, hl => by
    simp only [List.all_cons, Bool.and_eq_true] at hb
    have hd := dstLt_lt hb.1
    simp only [wpd] at hw
    cases hg : wantF F s.guard
    · simp only [hg] at hw
      obtain ⟨hr, hw⟩ := hw
      have R' := R.put (by rw [hl]; exact hd) .undef
      obtain ⟨n1, p1⟩ := wpr_run tok _ hr R'
      obtain ⟨F', e', h', q1, q2, q3, n0, q4⟩ := wpd_run tok ss hw hb.2 R' (by rw [put_length, hl])
      refine ⟨F', e', h', q1, q2, q3, max n0 n1, fun n hn => ?_⟩
      simp only [dsteps, dval, wantF_eq R, hg, Bool.false_eq_true, if_false, IM.bind, IM.run_bind, p1 n (by omega), Option.bind_some]
      exact q4 n (by omega)
    · simp only [hg] at hw
      obtain ⟨v, h1, ⟨hr, r1⟩, n1, r2⟩ := wpo_run hw
      have R' := R.put (by rw [hl]; exact hd) v
      obtain ⟨n2, p1⟩ := wpr_run tok _ hr R'
      obtain ⟨F', e', h', q1, q2, q3, n0, q4⟩ := wpd_run tok ss r1 hb.2 R' (by rw [put_length, hl])
      refine ⟨F', e', h', q1, q2, q3, max n0 (max n1 n2), fun n hn => ?_⟩
      simp only [dsteps, dval, wantF_eq R, hg, if_true, IM.run_bind, r2 n (by omega) e R, Option.bind_some, p1 n (by omega)]
      exact q4 n (by omega)

/-- **Soundness.** -/
theorem WP_run : ∀ (c : ICode) {F : FE} {e : Env} {h : Heap} {Q : Out → FE → Heap → Prop}, WP M N c F h Q → bdC N c = true → RelF F e → e.length = N →
    ∃ o F' e' h', Q o F' h' ∧ RelF F' e' ∧ e'.length = N ∧ ∃ n0, ∀ n, n0 ≤ n → (exec M.P (M.rc n) n c e).run h = some ((o, e'), h') := by
  intro c
  induction c with
  | skip => intro F e h Q hw _ R hl; exact ⟨_, F, e, h, hw, R, hl, 0, fun _ _ => rfl⟩
  | exit id => intro F e h Q hw _ R hl; exact ⟨_, F, e, h, hw, R, hl, 0, fun _ _ => rfl⟩
  | ret => intro F e h Q hw _ R hl; exact ⟨_, F, e, h, hw, R, hl, 0, fun _ _ => rfl⟩
  | sel d s ss => intro F e h Q hw _ R hl; exact hw.elim
  | region ss =>
    intro F e h Q hw hb R hl
    obtain ⟨F', e', h', q1, q2, q3, n0, q4⟩ := wps_run ss hw hb R hl
    exact ⟨_, F', e', h', q1, q2, q3, n0, fun n hn => by simp only [exec, IM.run_bind, q4 n hn, Option.bind_some]; rfl⟩
  | draw k ss =>
    intro F e h Q hw hb R hl
    obtain ⟨F', e', h', q1, q2, q3, n0, q4⟩ := wpd_run _ ss hw hb R hl
    exact ⟨_, F', e', h', q1, q2, q3, n0, fun n hn => by simp only [exec, IM.run, IM.run_bind, q4 n hn, Option.bind_some]⟩
  | seq a b iha ihb =>
    intro F e h Q hw hb R hl
    simp only [bdC, Bool.and_eq_true] at hb
    obtain ⟨o, F', e', h', q1, q2, q3, n0, q4⟩ := iha hw hb.1 R hl
    cases o
    · obtain ⟨o2, F2, e2, h2, r1, r2, r3, n1, r4⟩ := ihb q1 hb.2 q2 q3
      exact ⟨o2, F2, e2, h2, r1, r2, r3, max n0 n1, fun n hn => by simp only [exec, IM.run_bind, q4 n (by omega), Option.bind_some]; exact r4 n (by omega)⟩
    · exact ⟨_, F', e', h', q1, q2, q3, n0, fun n hn => by simp only [exec, IM.run_bind, q4 n hn, Option.bind_some]; rfl⟩
    · exact ⟨_, F', e', h', q1, q2, q3, n0, fun n hn => by simp only [exec, IM.run_bind, q4 n hn, Option.bind_some]; rfl⟩
  | cond c a b iha ihb =>
    intro F e h Q hw hb R hl
    simp only [bdC, Bool.and_eq_true] at hb
    simp only [WP] at hw
    split at hw
    · rename_i hc
      obtain ⟨o, F', e', h', q1, q2, q3, n0, q4⟩ := iha hw hb.1 R hl
      exact ⟨o, F', e', h', q1, q2, q3, n0, fun n hn => by simp only [exec, at_eq R, hc]; exact q4 n hn⟩
    · rename_i hc
      obtain ⟨o, F', e', h', q1, q2, q3, n0, q4⟩ := ihb hw hb.2 R hl
      exact ⟨o, F', e', h', q1, q2, q3, n0, fun n hn => by simp only [exec, at_eq R, hc]; exact q4 n hn⟩
    · exact hw.elim
  | block id a iha =>
    intro F e h Q hw hb R hl
    obtain ⟨o, F', e', h', q1, q2, q3, n0, q4⟩ := iha hw hb R hl
    cases o
    · exact ⟨_, F', e', h', q1, q2, q3, n0, fun n hn => by simp only [exec, IM.run_bind, q4 n hn, Option.bind_some]; rfl⟩
    · rename_i i
      simp only [exitQ] at q1
      by_cases hi : i = id
      · rw [if_pos hi] at q1
        exact ⟨_, F', e', h', q1, q2, q3, n0, fun n hn => by simp only [exec, IM.run_bind, q4 n hn, Option.bind_some, if_pos hi]; rfl⟩
      · rw [if_neg hi] at q1
        exact ⟨_, F', e', h', q1, q2, q3, n0, fun n hn => by simp only [exec, IM.run_bind, q4 n hn, Option.bind_some, if_neg hi]; rfl⟩
    · exact ⟨_, F', e', h', q1, q2, q3, n0, fun n hn => by simp only [exec, IM.run_bind, q4 n hn, Option.bind_some]; rfl⟩
  | loop a iha =>
    intro F e h Q hw hb R hl
    obtain ⟨o, F', e', h', q1, q2, q3, n0, q4⟩ := hw e R hl
    exact ⟨o, F', e', h', q1, q2, q3, n0, fun n hn => q4 n hn n hn⟩

/-- **Loops**: an invariant with a measure. -/
theorem wp_loop (I : Nat → FE → Heap → Prop) {a : ICode} {Q : Out → FE → Heap → Prop} (hb : bdC N a = true)
    (step : ∀ k F h, I k F h → WP M N a F h (thenQ (fun F' h' => ∃ k', k' < k ∧ I k' F' h') Q)) :
    ∀ (k : Nat) {F : FE} {h : Heap}, I k F h → WP M N (.loop a) F h Q := by
  intro k
  induction k using Nat.strongRecOn with
  | _ k ih =>
    intro F h hI e R hl
    obtain ⟨o, F', e', h', q1, q2, q3, n0, q4⟩ := WP_run a (step k F h hI) hb R hl
    cases o
    · obtain ⟨k', hk, hI'⟩ := q1
      obtain ⟨o2, F2, e2, h2, r1, r2, r3, n1, r4⟩ := ih k' hk hI' e' q2 q3
      refine ⟨o2, F2, e2, h2, r1, r2, r3, max n0 n1 + 1, fun n hn j hj => ?_⟩
      obtain ⟨j, rfl⟩ : ∃ i, j = i + 1 := ⟨j - 1, by omega⟩
      simp only [loopN, IM.run_bind, q4 n (by omega), Option.bind_some]
      exact r4 n (by omega) j (by omega)
    · refine ⟨_, F', e', h', q1, q2, q3, n0 + 1, fun n hn j hj => ?_⟩
      obtain ⟨j, rfl⟩ : ∃ i, j = i + 1 := ⟨j - 1, by omega⟩
      simp only [loopN, IM.run_bind, q4 n (by omega), Option.bind_some]; rfl
    · refine ⟨_, F', e', h', q1, q2, q3, n0 + 1, fun n hn j hj => ?_⟩
      obtain ⟨j, rfl⟩ : ∃ i, j = i + 1 := ⟨j - 1, by omega⟩
      simp only [loopN, IM.run_bind, q4 n (by omega), Option.bind_some]; rfl
end
end Go.Ideal
