/-
  The ideal machine, part 18: two steps of a region that draws change places. Conditions: none (lemmas).
-/
import Derived.Test.YtbikhbgmgmaocaaGreatDoorIdY
namespace Go.Ideal

theorem ba_eqv {s t : ByteArray} (h : (s == t) = true) : s = t := by
  have h1 : (s.data == t.data) = true := h
  have h2 := eq_of_beq h1
  cases s; cases t; simp_all
mutual
theorem V.beq_eq : ∀ {a b : V}, V.beq a b = true → a = b
  | .bool a, b, h => by cases b <;> simp [V.beq] at h; rw [h]
  | .int k a, b, h => by cases b <;> simp [V.beq] at h; rw [h.1, h.2]
  | .str a, b, h => by cases b <;> simp [V.beq] at h; rw [ba_eqv h]
  | .nil, b, h => by cases b <;> simp [V.beq] at h; rfl
  | .ptr a c, b, h => by cases b <;> simp [V.beq] at h; rw [h.1, h.2]
  | .nilSlice, b, h => by cases b <;> simp [V.beq] at h; rfl
  | .slice a c d e f g, b, h => by cases b <;> simp [V.beq] at h; simp [h]
  | .nilMap, b, h => by cases b <;> simp [V.beq] at h; rfl
  | .map a, b, h => by cases b <;> simp [V.beq] at h; rw [h]
  | .nilChan, b, h => by cases b <;> simp [V.beq] at h; rfl
  | .chan a, b, h => by cases b <;> simp [V.beq] at h; rw [h]
  | .nilFn, b, h => by cases b <;> simp [V.beq] at h; rfl
  | .fn f a c, b, h => by cases b <;> simp [V.beq] at h
  | .agg as, b, h => by cases b <;> simp [V.beq] at h; rw [V.beqs_eq h]
  | .tup as, b, h => by cases b <;> simp [V.beq] at h; rw [V.beqs_eq h]
theorem V.beqs_eq : ∀ {a b : List V}, V.beqs a b = true → a = b
  | [], b, h => by cases b <;> simp [V.beqs] at h; rfl
  | a :: as, b, h => by
    cases b <;> simp [V.beqs] at h
    rw [V.beq_eq h.1, V.beqs_eq h.2]
end

section
variable {P : Program} {rc : Nat → List V → IM V} {tok k : Nat} {slot : Option Nat} {e e' : Env} {h h' : Heap}

theorem dval_plain {g : Option (Nat × Bool)} {x : IOp} (hc : x.cls = .plain) {v : V} (hr : (dval P rc tok e slot g x).run h = some (v, h')) : h' = h ∧ ∀ h2, (dval P rc tok e slot g x).run h2 = some (v, h2) := by
  unfold dval at hr ⊢
  split at hr
  · rename_i hw; simp only [hw, if_true]; exact iop_plain hc hr
  · rename_i hw
    obtain ⟨rfl, rfl⟩ := IM.pure_inv hr
    refine ⟨rfl, fun h2 => by rw [if_neg hw]; rfl⟩
theorem dval_read {g : Option (Nat × Bool)} {x : IOp} (hc : x.cls = .read) {v : V} (hr : (dval P rc tok e slot g x).run h = some (v, h')) : h' = h := by
  unfold dval at hr
  split at hr
  · exact iop_read hc hr
  · exact (IM.pure_inv hr).2
theorem dval_read_slot {g : Option (Nat × Bool)} {x : IOp} (hc : x.cls = .read) {s s' : Option Nat} : dval P rc tok e s g x = dval P rc tok e s' g x := by
  unfold dval; rw [iop_read_slot hc]

/-! ### Rechecks -/
theorem rechecks_inv : ∀ {rs : List RStep}, (∀ r ∈ rs, r.op.cls = .read) → (rchecks P rc tok e rs).run h = some ((), h') →
    h' = h ∧ ∀ r ∈ rs, ∃ v, (dval P rc tok e none r.guard r.op).run h = some (v, h) ∧ V.beq v (e.getD r.dst .undef) = true
  | [], _, hr => by simp only [rchecks] at hr; exact ⟨(IM.pure_inv hr).2, fun r hm => by cases hm⟩
  | r :: rs, hc, hr => by
    simp only [rchecks] at hr
    obtain ⟨v, h1, h2, h3⟩ := IM.run_bind_some hr
    have := (dval_read (hc r (by simp)) h2).symm; subst this
    split at h3
    · rename_i hb
      obtain ⟨rfl, h4⟩ := rechecks_inv (fun r hm => hc r (by simp [hm])) h3
      refine ⟨rfl, fun q hq => ?_⟩
      rcases List.mem_cons.1 hq with rfl | hq
      · exact ⟨v, h2, hb⟩
      · exact h4 q hq
    · simp at h3
theorem rechecks_run : ∀ {rs : List RStep}, (∀ r ∈ rs, ∃ v, (dval P rc tok e none r.guard r.op).run h = some (v, h) ∧ V.beq v (e.getD r.dst .undef) = true) → (rchecks P rc tok e rs).run h = some ((), h)
  | [], _ => rfl
  | r :: rs, hg => by
    obtain ⟨v, h1, h2⟩ := hg r (by simp)
    simp only [rchecks, IM.run_bind, h1, Option.bind_some, h2, if_true]
    exact rechecks_run fun r hm => hg r (by simp [hm])
theorem rechecks_congr : ∀ {rs : List RStep}, (∀ r ∈ rs, r.op.noSel = true ∧ Agree (r.dst :: r.looks) e e') → rchecks P rc tok e rs = rchecks P rc tok e' rs
  | [], _ => rfl
  | r :: rs, hg => by
    obtain ⟨h1, h2⟩ := hg r (by simp)
    have h3 : dval P rc tok e none r.guard r.op = dval P rc tok e' none r.guard r.op := dval_congr h1 (h2.mono fun _ ht => by simp [RStep.looks] at ht ⊢; exact .inr ht)
    have h4 : e.getD r.dst .undef = e'.getD r.dst .undef := h2.getD (by simp)
    have h5 := rechecks_congr (rs := rs) fun r hm => hg r (by simp [hm])
    simp only [rchecks, h3, h4, h5]

theorem dsteps_inv {s : DStep} {ss : List DStep} {r : Env × Heap} (hc : ∀ q ∈ s.again, q.op.cls = .read) (hr : (dsteps P rc tok (s :: ss) e).run h = some r) :
    ∃ v h1, (dval P rc tok e s.slot s.guard s.op).run h = some (v, h1) ∧ (rchecks P rc tok (putT e s.dst v) s.again).run h1 = some ((), h1) ∧ (dsteps P rc tok ss (putT e s.dst v)).run h1 = some r := by
  simp only [dsteps] at hr
  obtain ⟨v, h1, h2, h3⟩ := IM.run_bind_some hr
  obtain ⟨⟨⟩, h4, h5, h6⟩ := IM.run_bind_some h3
  obtain ⟨rfl, _⟩ := rechecks_inv hc h5
  exact ⟨v, _, h2, h5, h6⟩
theorem dsteps_run {s : DStep} {ss : List DStep} {r : Option (Env × Heap)} {v : V} {h1 : Heap} (h2 : (dval P rc tok e s.slot s.guard s.op).run h = some (v, h1)) (h3 : (rchecks P rc tok (putT e s.dst v) s.again).run h1 = some ((), h1))
    (h4 : (dsteps P rc tok ss (putT e s.dst v)).run h1 = r) : (dsteps P rc tok (s :: ss) e).run h = r := by
  simp only [dsteps, IM.run_bind, h2, Option.bind_some, h3, h4]

/-! ### Two steps change places -/
def DStep.less (i : DStep) (id : Nat) : DStep := { i with again := i.again.filter fun r => r.id != id }
def SameStep (a i : DStep) : Prop := ∀ r ∈ i.again, r.id = a.id → r.op = a.op ∧ r.guard = a.guard ∧ a.dst = some r.dst

theorem over_one {h : Heap} {p : Nat} {y : Blk} (hp : h[p]? = some none) : IM.over h (List.replicate p none ++ [some y]) = h.set p (some y) := by
  apply List.ext_getElem?
  intro j
  rw [IM.over_get, List.getElem?_set]
  have hlt : p < h.length := by
    rcases Nat.lt_or_ge p h.length with h3 | h3
    · exact h3
    · rw [List.getElem?_eq_none h3] at hp; cases hp
  by_cases hj : p = j
  · subst hj; simp only [hp, hlt]; simp
  · rw [if_neg hj]
    cases hh : h[j]? with
    | none => rfl
    | some b =>
      cases b with
      | some x => rfl
      | none =>
        simp only [Option.map_some, Option.some.injEq]
        rcases Nat.lt_or_ge j p with h3 | h3
        · rw [List.getElem?_append_left (by simpa using h3)]; simp [h3]
        · rw [List.getElem?_eq_none (by simp; omega)]; rfl

theorem run_aside {α : Type} {m : IM α} {x : α} {p : Nat} {y : Blk} (hr : m.run h = some (x, h')) (hp' : h'[p]? = some none) (hp : p < h.length) : m.run (h.set p (some y)) = some (x, h'.set p (some y)) := by
  have h0 : h[p]? = some none := by
    cases hh : h[p]? with
    | none => rw [List.getElem?_eq_none_iff] at hh; omega
    | some b =>
      cases b with
      | none => rfl
      | some z => obtain ⟨q, hq⟩ := (IM.run_grows hr).2 p z hh; rw [hp'] at hq; cases hq
  rw [← over_one h0, ← over_one hp']
  refine IM.run_over hr (fun j hj => ?_) fun j z hz => ?_
  · rw [List.getElem?_eq_none (by simp; omega)]; rfl
  · by_cases hj : j = p
    · subst hj; rw [hp'] at hz; cases hz
    · rcases Nat.lt_or_ge j p with h3 | h3
      · rw [List.getElem?_append_left (by simpa using h3)]; simp [h3]
      · rw [List.getElem?_eq_none (by simp; omega)]; rfl

theorem swap {bef : List (List Nat)} {a i : DStep} {rest : List DStep} {r : Env × Heap} (hs : swapOk k bef a i = true) (hbef : ∀ r ∈ i.again, r.id ≠ a.id → a.id ∉ bef.getD r.id []) (hsame : SameStep a i) (hlen : tok + k ≤ h.length)
    (hr : (dsteps P rc tok (a :: i :: rest) e).run h = some r) : (dsteps P rc tok (i.less a.id :: a :: rest) e).run h = some r := by
  unfold swapOk at hs
  simp only [Bool.and_eq_true] at hs
  obtain ⟨⟨⟨⟨⟨⟨c1, c2⟩, c3⟩, c4⟩, c5⟩, c6⟩, c7⟩ := hs
  simp only [List.all_eq_true, Bool.and_eq_true, beq_iff_eq] at c6
  have c3' : ∀ va vi, putT (putT e a.dst va) i.dst vi = putT (putT e i.dst vi) a.dst va := fun va vi => put_comm c3
  have ca : ∀ q ∈ a.again, q.op.cls = .read := fun q hq => (c6 q hq).2
  have ci : ∀ q ∈ i.again, q.op.cls = .read := by
    intro q hq
    cases hcls : i.op.cls <;> simp only [hcls, Bool.and_eq_true, List.isEmpty_iff] at c7
    · rw [c7] at hq; cases hq
    · rw [c7.1.1] at hq; cases hq
    · rw [c7.1] at hq; cases hq
    · simp only [List.all_eq_true, Bool.and_eq_true, beq_iff_eq] at c7; exact (c7.1.2 q hq).2
  obtain ⟨va, h1, hva, hca, hr1⟩ := dsteps_inv ca hr
  obtain ⟨vi, h3, hvi, hci, hr2⟩ := dsteps_inv ci hr1
  -- i sees nothing of a's value; a sees nothing of i's
  have ei : dval P rc tok (putT e a.dst va) i.slot i.guard i.op = dval P rc tok e i.slot i.guard i.op := dval_congr c5 (agree_put c1)
  have ea : dval P rc tok (putT e i.dst vi) a.slot a.guard a.op = dval P rc tok e a.slot a.guard a.op := dval_congr c4 (agree_put c2)
  have eca : rchecks P rc tok (putT (putT e i.dst vi) a.dst va) a.again = rchecks P rc tok (putT e a.dst va) a.again := by
    rw [← c3']
    exact rechecks_congr fun q hq => ⟨(c6 q hq).1.2, agree_put (c6 q hq).1.1⟩
  rw [ei] at hvi
  have noAgain : i.again = [] → (rchecks P rc tok (putT e i.dst vi) (i.less a.id).again) = .pure () := fun h0 => by simp [DStep.less, h0, rchecks]
  cases hcls : i.op.cls <;> simp only [hcls, Bool.and_eq_true, List.isEmpty_iff] at c7
  · -- plain
    obtain ⟨rfl, hp⟩ := dval_plain hcls hvi
    refine dsteps_run (v := vi) (h1 := h) (hp h) (by rw [show (i.less a.id).dst = i.dst from rfl, noAgain c7]; rfl) ?_
    refine dsteps_run (v := va) (h1 := h3) (by rw [show (i.less a.id).dst = i.dst from rfl, ea]; exact hva) (by rw [show (i.less a.id).dst = i.dst from rfl, eca]; exact hca) ?_
    rw [show (i.less a.id).dst = i.dst from rfl, ← c3']; exact hr2
  · -- read
    have := dval_read hcls hvi; subst this
    have hh : h3 = h := by
      have hc := c7.2
      simp only [Bool.or_eq_true, beq_iff_eq] at hc
      rcases hc with hc | hc
      · exact (dval_plain hc hva).1
      · exact dval_read hc hva
    subst hh
    refine dsteps_run (v := vi) (h1 := h3) hvi (by rw [show (i.less a.id).dst = i.dst from rfl, noAgain c7.1.1]; rfl) ?_
    refine dsteps_run (v := va) (h1 := h3) (by rw [show (i.less a.id).dst = i.dst from rfl, ea]; exact hva) (by rw [show (i.less a.id).dst = i.dst from rfl, eca]; exact hca) ?_
    rw [show (i.less a.id).dst = i.dst from rfl, ← c3']; exact hr2
  · -- make
    obtain ⟨c7a, c7b⟩ := c7
    split at c7b
    · rename_i s hslot
      simp only [decide_eq_true_eq] at c7b
      unfold dval at hvi
      split at hvi
      · rename_i hw
        rw [hslot] at hvi
        obtain ⟨q1, y, rfl, q3⟩ := iop_make hcls hvi
        have hplt : tok + s < h.length := by omega
        have h0 : h[tok + s]? = some none := by
          cases hh : h[tok + s]? with
          | none => rw [List.getElem?_eq_none_iff] at hh; omega
          | some b =>
            cases b with
            | none => rfl
            | some z => obtain ⟨q, hq⟩ := (IM.run_grows hva).2 _ z hh; rw [q1] at hq; cases hq
        refine dsteps_run (v := vi) (h1 := h.set (tok + s) (some y)) (by
          show (dval P rc tok e i.slot i.guard i.op).run h = _
          unfold dval; rw [if_pos hw, hslot]; exact q3 h h0) (by rw [show (i.less a.id).dst = i.dst from rfl, noAgain c7a]; rfl) ?_
        refine dsteps_run (v := va) (h1 := h1.set (tok + s) (some y)) (by rw [show (i.less a.id).dst = i.dst from rfl, ea]; exact run_aside hva q1 hplt)
          (by rw [show (i.less a.id).dst = i.dst from rfl, eca]; exact run_aside hca q1 (Nat.lt_of_lt_of_le hplt (IM.run_grows hva).1)) ?_
        rw [show (i.less a.id).dst = i.dst from rfl, ← c3']; exact hr2
      · rename_i hw
        obtain ⟨rfl, rfl⟩ := IM.pure_inv hvi
        refine dsteps_run (v := .undef) (h1 := h) (by
          show (dval P rc tok e i.slot i.guard i.op).run h = _
          unfold dval; rw [if_neg hw]; rfl) (by rw [show (i.less a.id).dst = i.dst from rfl, noAgain c7a]; rfl) ?_
        refine dsteps_run (v := va) (h1 := h3) (by rw [show (i.less a.id).dst = i.dst from rfl, ea]; exact hva) (by rw [show (i.less a.id).dst = i.dst from rfl, eca]; exact hca) ?_
        rw [show (i.less a.id).dst = i.dst from rfl, ← c3']; exact hr2
    · cases c7b
  · -- act
    obtain ⟨⟨c8, c9⟩, c10⟩ := c7
    simp only [List.all_eq_true, Bool.and_eq_true, Bool.or_eq_true, beq_iff_eq] at c9
    have hh : h1 = h := by
      simp only [Bool.or_eq_true, Bool.and_eq_true, beq_iff_eq] at c10
      rcases c10 with hc | hc
      · exact (dval_plain hc.1 hva).1
      · exact dval_read hc.1.1 hva
    subst hh
    obtain ⟨_, hrs⟩ := rechecks_inv ci hci
    have hci' : (rchecks P rc tok (putT e i.dst vi) (i.less a.id).again).run h3 = some ((), h3) := by
      refine rechecks_run fun q hq => ?_
      simp only [DStep.less, List.mem_filter, bne_iff_ne, ne_eq] at hq
      obtain ⟨v, g1, g2⟩ := hrs q hq.1
      have hoff : q.off a.dst = true := by
        rcases (c9 q hq.1).1.1 with h4 | h4
        · exact absurd h4 hq.2
        · rcases h4 with h4 | h4
          · exact h4
          · exact absurd (by simpa using h4) (hbef q hq.1 hq.2)
      rw [c3'] at g1 g2
      have hag := agree_put (v := va) (e := putT e i.dst vi) hoff
      refine ⟨v, ?_, ?_⟩
      · rw [← dval_congr (c9 q hq.1).1.2 (hag.mono fun _ ht => by simp only [RStep.looks] at ht ⊢; exact List.mem_cons_of_mem _ ht)]; exact g1
      · rw [← hag.getD (by simp)]; exact g2
    refine dsteps_run (v := vi) (h1 := h3) hvi hci' ?_
    rw [show (i.less a.id).dst = i.dst from rfl]
    simp only [Bool.or_eq_true, Bool.and_eq_true, beq_iff_eq] at c10
    rcases c10 with hc | ⟨⟨hc1, hc2⟩, hc3⟩
    · refine dsteps_run (v := va) (h1 := h3) (by rw [ea]; exact (dval_plain hc.1 hva).2 h3) (by rw [c8]; rfl) ?_
      rw [← c3']; exact hr2
    · rw [List.any_eq_true] at hc3
      obtain ⟨q, hq, hqid⟩ := hc3
      simp only [beq_iff_eq] at hqid
      obtain ⟨e1, e2, e3⟩ := hsame q hq hqid
      obtain ⟨v, g1, g2⟩ := hrs q hq
      have g2' := V.beq_eq g2
      have hput : putT (putT e i.dst vi) a.dst v = putT (putT e i.dst vi) a.dst va := by
        rw [g2', c3', e3]
        simp only [putT]
        by_cases hlt : q.dst < (putT e i.dst vi).length
        · simp only [List.getD_eq_getElem?_getD, putT] at hlt ⊢
          rw [List.getElem?_set_self hlt]; rfl
        · simp only [putT] at hlt
          rw [List.set_eq_of_length_le (by omega), List.set_eq_of_length_le (by omega)]
      refine dsteps_run (v := v) (h1 := h3) ?_ (by rw [c8]; rfl) ?_
      · rw [e1, e2, c3'] at g1
        rw [dval_read_slot hc1 (s' := none)]
        rw [dval_congr (e' := putT e i.dst vi) c4 (agree_put hc2)] at g1
        exact g1
      · rw [hput, ← c3']; exact hr2

end
end Go.Ideal
