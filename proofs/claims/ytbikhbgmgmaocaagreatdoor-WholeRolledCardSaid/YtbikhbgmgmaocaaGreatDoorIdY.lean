/-
  The ideal machine, part 17: what an operation hangs on; operations that change places. Conditions: none (lemmas).
-/
import Derived.Test.YtbikhbgmgmaocaaGreatDoorIdC
import Derived.Orders
namespace Go.Ideal

/-! ### What an operation hangs on -/
def Agree (l : List Nat) (e e' : Env) : Prop := ∀ t ∈ l, e[t]? = e'[t]?
theorem Agree.symm {l : List Nat} {e e' : Env} (h : Agree l e e') : Agree l e' e := fun t ht => (h t ht).symm
theorem Agree.mono {l l' : List Nat} {e e' : Env} (h : Agree l e e') (hl : ∀ t ∈ l', t ∈ l) : Agree l' e e' := fun t ht => h t (hl t ht)
theorem Agree.getD {l : List Nat} {e e' : Env} (h : Agree l e e') {t : Nat} (ht : t ∈ l) : e.getD t .undef = e'.getD t .undef := by
  simp only [List.getD_eq_getElem?_getD, h t ht]

theorem agree_put {d : Option Nat} {l : List Nat} {v : V} {e : Env} (h : dstNot d l = true) : Agree l (putT e d v) e := by
  intro t ht
  cases d with
  | none => rfl
  | some d =>
    simp only [dstNot, Bool.not_eq_true', List.contains_eq_mem, decide_eq_false_iff_not] at h
    have hne : d ≠ t := fun he => h (he ▸ ht)
    simp only [putT, List.getElem?_set_ne hne]

theorem put_comm {d d' : Option Nat} {v v' : V} {e : Env} (h : dstApart d d' = true) : putT (putT e d v) d' v' = putT (putT e d' v') d v := by
  cases d with
  | none => rfl
  | some d =>
    cases d' with
    | none => rfl
    | some d' =>
      simp only [dstApart, bne_iff_ne, ne_eq] at h
      simp only [putT]
      exact List.set_comm _ _ h

theorem ev_congr {x : Opd} {e e' : Env} (h : Agree x.uses e e') : x.ev e = x.ev e' := by
  cases x with
  | t i => exact h.getD (by simp [Opd.uses])
  | c v => rfl
theorem evs_congr {l : List Opd} {e e' : Env} (h : Agree (usesL l) e e') : l.map (Opd.ev e) = l.map (Opd.ev e') :=
  List.map_congr_left fun x hx => ev_congr (h.mono fun _ ht => List.mem_flatMap.2 ⟨x, hx, ht⟩)
theorem bound_congr {d : Nat} {x : Option Opd} {e e' : Env} (h : Agree (usesO x) e e') : boundOf e d x = boundOf e' d x := by
  cases x with
  | none => rfl
  | some x => simp only [boundOf, ev_congr (show Agree x.uses e e' from h)]
theorem fill_congr {e e' : Env} : ∀ {ps : List (Nat × Nat × Opd)} {cs : List V}, Agree (usesP ps) e e' → fillParts e ps cs = fillParts e' ps cs
  | [], _, _ => rfl
  | (off, size, x) :: ps, cs, h => by
    have h1 : x.ev e = x.ev e' := ev_congr (h.mono fun _ ht => by simp [usesP, ht])
    have h2 : Agree (usesP ps) e e' := h.mono fun _ ht => by simp [usesP] at ht ⊢; exact .inr ht
    simp only [fillParts, h1]
    split
    · exact fill_congr h2
    · rfl

section
variable {P : Program} {rc : Nat → List V → IM V} {tok k : Nat} {slot : Option Nat} {e e' : Env}

def scalRun (P : Program) (o : Oper) (ρ : Operand → Option Value) : IM V :=
  if o.op.operands.all fun x => (ρ x).isSome then
    match pureSem P (execOp (fun x => (ρ x).getD undef) o) with
    | some (.value v) => IM.lift (V.ofVal v)
    | _ => .fail
  else .fail
def scalRho (e : Env) : Operand → Option Value
  | .tmp t => (e.getD t .undef).toVal
  | .const v => some v
  | _ => none
theorem scal_eq {o : Oper} : iop P rc tok slot e (.scal o) = scalRun P o (scalRho e) := rfl

theorem scal_congr {o : Oper} (hs : (IOp.scal o).noSel = true) (h : Agree (IOp.scal o).uses e e') : iop P rc tok slot e (.scal o) = iop P rc tok slot e' (.scal o) := by
  have hns : ∀ cs b, o.op ≠ .select cs b := fun cs b hb => by simp [IOp.noSel, hb] at hs
  rw [scal_eq, scal_eq]
  have key : ∀ x ∈ o.op.operands, scalRho e x = scalRho e' x := by
    intro x hx
    cases x with
    | tmp t =>
      have : t ∈ (IOp.scal o).uses := by
        simp only [IOp.uses, List.mem_filterMap]
        exact ⟨.tmp t, by simpa using hx, rfl⟩
      simp only [scalRho, h.getD this]
    | _ => rfl
  have h1 : (o.op.operands.all fun x => (scalRho e x).isSome) = (o.op.operands.all fun x => (scalRho e' x).isSome) := by
    rw [Bool.eq_iff_iff, Array.all_eq_true', Array.all_eq_true']
    exact ⟨fun g x hx => by rw [← key x hx]; exact g x hx, fun g x hx => by rw [key x hx]; exact g x hx⟩
  have h2 := execOp_congr (ρ := fun x => (scalRho e x).getD undef) (ρ' := fun x => (scalRho e' x).getD undef) o hns (fun x hx => by simp only [key x hx])
  unfold scalRun
  rw [h1, h2]

theorem iop_congr {x : IOp} (hs : x.noSel = true) (h : Agree x.uses e e') : iop P rc tok slot e x = iop P rc tok slot e' x := by
  cases x
  case scal o => exact scal_congr hs h
  all_goals
    simp only [IOp.uses] at h
    try simp only [iop]
  case mv x => rw [ev_congr h]
  case pick c a b =>
    rw [ev_congr (x := c) (h.mono fun t ht => by simp [ht]), ev_congr (x := a) (h.mono fun t ht => by simp [ht]), ev_congr (x := b) (h.mono fun t ht => by simp [ht])]
  case build z ps => rw [fill_congr h]
  case mkFn f a b => rw [evs_congr (l := a) (h.mono fun t ht => by simp [ht]), evs_congr (l := b) (h.mono fun t ht => by simp [ht])]
  case slice sz x lo hi mx =>
    have hl : Agree (usesO lo) e e' := h.mono fun t ht => by simp [ht]
    have hh : Agree (usesO hi) e e' := h.mono fun t ht => by simp [ht]
    have hm : Agree (usesO mx) e e' := h.mono fun t ht => by simp [ht]
    rw [ev_congr (x := x) (h.mono fun t ht => by simp [ht])]
    unfold sliceOf
    simp only [bound_congr hl, bound_congr hh, bound_congr hm]
  case sliceA len sz x lo hi =>
    have hl : Agree (usesO lo) e e' := h.mono fun t ht => by simp [ht]
    have hh : Agree (usesO hi) e e' := h.mono fun t ht => by simp [ht]
    rw [ev_congr (x := x) (h.mono fun t ht => by simp [ht])]
    simp only [bound_congr hl, bound_congr hh]
  case buildSlice sz len z ps => rw [fill_congr h]
  case mapUpdate ik x y z =>
    rw [ev_congr (x := x) (h.mono fun t ht => by simp [ht]), ev_congr (x := y) (h.mono fun t ht => by simp [ht]), ev_congr (x := z) (h.mono fun t ht => by simp [ht])]
  case call f l => rw [evs_congr h]
  case callV f l => rw [ev_congr (x := f) (h.mono fun t ht => by simp [ht]), evs_congr (l := l) (h.mono fun t ht => by simp [ht])]
  all_goals first
    | rw [ev_congr h]
    | (rename_i x y; rw [ev_congr (x := x) (h.mono fun t ht => by simp [ht]), ev_congr (x := y) (h.mono fun t ht => by simp [ht])])
    | (rename_i x y _; rw [ev_congr (x := x) (h.mono fun t ht => by simp [ht]), ev_congr (x := y) (h.mono fun t ht => by simp [ht])])

theorem wanted_congr {g : Option (Nat × Bool)} (h : Agree (gUses g) e e') : wantedI e g = wantedI e' g := by
  cases g with
  | none => rfl
  | some p => obtain ⟨t, b⟩ := p; simp only [wantedI, h t (by simp [gUses])]

theorem dval_congr {g : Option (Nat × Bool)} {x : IOp} (hs : x.noSel = true) (h : Agree (gUses g ++ x.uses) e e') : dval P rc tok e slot g x = dval P rc tok e' slot g x := by
  unfold dval
  rw [wanted_congr (h.mono fun t ht => by simp [ht]), iop_congr hs (h.mono fun t ht => by simp [ht])]

/-! ### The classes -/
theorem IM.pure_inv {α : Type} {h h' : Heap} {x v : α} (hr : (IM.pure x).run h = some (v, h')) : v = x ∧ h' = h := by
  simp only [IM.run_pure, Option.some.injEq, Prod.mk.injEq] at hr; exact ⟨hr.1.symm, hr.2.symm⟩
theorem IM.get_inv {β : Type} {h h' : Heap} {b : Nat} {k : Blk → IM β} {x : β} (hr : (IM.get b k).run h = some (x, h')) : ∃ y, h[b]? = some (some y) ∧ (k y).run h = some (x, h') := by
  simp only [IM.run] at hr
  split at hr
  · exact ⟨_, by assumption, hr⟩
  · cases hr
theorem IM.getCells_heap {h h' : Heap} {b o n : Nat} {vs : List V} (hr : (getCells b o n).run h = some (vs, h')) : h' = h := by
  unfold getCells at hr
  obtain ⟨y, _, hr⟩ := IM.get_inv hr
  split at hr
  · split at hr
    · exact (IM.pure_inv hr).2
    · simp at hr
  · simp at hr
theorem iop_plain {x : IOp} (hc : x.cls = .plain) {h h' : Heap} {v : V} (hr : (iop P rc tok slot e x).run h = some (v, h')) : h' = h ∧ ∀ h2, (iop P rc tok slot e x).run h2 = some (v, h2) := by
  cases x <;> simp only [IOp.cls] at hc <;> try cases hc
  all_goals (simp only [iop] at hr ⊢)
  all_goals (try unfold IM.lift at hr)
  all_goals (repeat' split at hr)
  all_goals (first | (simp only [IM.run_fail] at hr; cases hr; done) | skip)
  all_goals (simp only [IM.run_pure, Option.some.injEq, Prod.mk.injEq] at hr; obtain ⟨rfl, rfl⟩ := hr; refine ⟨rfl, fun h2 => ?_⟩)
  all_goals (simp_all [IM.lift])

theorem iop_read {x : IOp} (hc : x.cls = .read) {h h' : Heap} {v : V} (hr : (iop P rc tok slot e x).run h = some (v, h')) : h' = h := by
  cases x <;> simp only [IOp.cls] at hc <;> try cases hc
  all_goals (simp only [iop] at hr)
  case lenMap x =>
    split at hr
    · exact (IM.pure_inv hr).2
    · obtain ⟨y, _, hr⟩ := IM.get_inv hr
      split at hr
      · exact (IM.pure_inv hr).2
      · simp at hr
    · simp at hr
  case lenChan x =>
    split at hr
    · obtain ⟨y, _, hr⟩ := IM.get_inv hr
      split at hr
      · exact (IM.pure_inv hr).2
      · simp at hr
    · simp at hr
  case load n x =>
    split at hr
    · unfold loadAt at hr
      split at hr
      · obtain ⟨a, h1, h2, h3⟩ := IM.run_bind_some hr
        have := IM.getCells_heap h2; subst this
        unfold IM.lift at h3
        split at h3
        · exact (IM.pure_inv h3).2
        · simp at h3
      · obtain ⟨a, h1, h2, h3⟩ := IM.run_bind_some hr
        have := IM.getCells_heap h2; subst this
        exact (IM.pure_inv h3).2
    · simp at hr
  case lookup ik z x k ok =>
    split at hr
    · split at hr
      · exact (IM.pure_inv hr).2
      · simp at hr
    · obtain ⟨y, _, hr⟩ := IM.get_inv hr
      split at hr
      · split at hr
        · split at hr
          · exact (IM.pure_inv hr).2
          · exact (IM.pure_inv hr).2
        · simp at hr
      · simp at hr
    · simp at hr
  case sliceA len sz x lo hi =>
    split at hr
    · split at hr
      · obtain ⟨a, h1, h2, h3⟩ := IM.run_bind_some hr
        have := IM.getCells_heap h2; subst this
        exact (IM.pure_inv h3).2
      · simp at hr
    · simp at hr

theorem iop_read_slot {x : IOp} (hc : x.cls = .read) {s s' : Option Nat} : iop P rc tok s e x = iop P rc tok s' e x := by
  cases x <;> simp only [IOp.cls] at hc <;> first | (cases hc; done) | rfl

/-- What a make does. -/
theorem iop_make {x : IOp} {s : Nat} (hc : x.cls = .make) {h h' : Heap} {v : V} (hr : (iop P rc tok (some s) e x).run h = some (v, h')) :
    h[tok + s]? = some none ∧ ∃ y, h' = h.set (tok + s) (some y) ∧ ∀ h2 : Heap, h2[tok + s]? = some none → (iop P rc tok (some s) e x).run h2 = some (v, h2.set (tok + s) (some y)) := by
  cases x <;> simp only [IOp.cls] at hc <;> try cases hc
  all_goals (simp only [iop, mkBlk, IM.bind] at hr ⊢)
  all_goals (repeat' split at hr)
  all_goals (first | (simp only [IM.run_fail] at hr; cases hr; done) | skip)
  all_goals (simp only [IM.run] at hr; split at hr)
  all_goals (first | (cases hr; done) | skip)
  all_goals (simp only [Option.some.injEq, Prod.mk.injEq] at hr; obtain ⟨rfl, rfl⟩ := hr; refine ⟨by assumption, _, rfl, fun h2 hh => ?_⟩)
  all_goals (simp_all [IM.run])

end
end Go.Ideal
