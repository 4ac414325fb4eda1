/-
  The ideal machine, part 19: regions that draw their order. Conditions: none (lemmas).
-/
import Derived.Test.YtbikhbgmgmaocaaGreatDoorIdZ
import Derived.Test.YtbikhbgmgmaocaaGreatDoorIdL
namespace Go.Ideal
open Go.RowKit

section
variable {P : Program} {rc : Nat → List V → IM V} {tok k : Nat} {ops : Array Oper}

def RGood (P : Program) (ops : Array Oper) (r : RStep) : Prop := ∃ o, ops[r.id]? = some o ∧ cOp P o = some r.op ∧ guardT ops o.guard = some r.guard ∧ o.dst = some r.dst
structure DGood (P : Program) (ops : Array Oper) (s : DStep) : Prop where
  op : ∃ o, ops[s.id]? = some o ∧ cOp P o = some s.op ∧ guardT ops o.guard = some s.guard ∧ o.dst = s.dst
  again : ∀ r ∈ s.again, RGood P ops r ∧ r.op.cls = .read

theorem DGood.same {a i : DStep} (ha : DGood P ops a) (hi : DGood P ops i) : SameStep a i := by
  intro r hr hid
  obtain ⟨o, h1, h2, h3, h4⟩ := ha.op
  obtain ⟨⟨o', g1, g2, g3, g4⟩, _⟩ := hi.again r hr
  rw [hid, h1] at g1; injection g1 with g1; subst g1
  rw [h2] at g2; rw [h3] at g3
  injection g2 with g2; injection g3 with g3
  exact ⟨g2.symm, g3.symm, by rw [← h4, g4]⟩

def DStep.lessAll (i : DStep) (pre : List DStep) : DStep := { i with again := i.again.filter fun r => pre.all fun a => r.id != a.id }
theorem lessAll_nil {i : DStep} : i.lessAll [] = i := by
  unfold DStep.lessAll
  have : (i.again.filter fun r => ([] : List DStep).all fun a => r.id != a.id) = i.again := List.filter_eq_self.2 fun _ _ => rfl
  rw [this]
theorem lessAll_cons {i a : DStep} {pre : List DStep} : i.lessAll (a :: pre) = (i.lessAll pre).less a.id := by
  unfold DStep.lessAll DStep.less
  simp only [List.filter_filter, List.all_cons]

theorem all_filter {α : Type} {l : List α} {p q : α → Bool} (h : l.all p = true) : (l.filter q).all p = true := by
  rw [List.all_eq_true] at h ⊢
  exact fun x hx => h x (List.mem_filter.1 hx).1

theorem swapOk_less {a i : DStep} {pre : List DStep} (hn : ∀ b ∈ pre, b.id ≠ a.id) {bef : List (List Nat)} (hs : swapOk k bef a i = true) : swapOk k bef a (i.lessAll pre) = true := by
  unfold swapOk at hs ⊢
  simp only [Bool.and_eq_true] at hs ⊢
  obtain ⟨h1, h2⟩ := hs
  refine ⟨h1, ?_⟩
  cases hcls : i.op.cls <;> simp only [hcls, show (i.lessAll pre).op = i.op from rfl, show (i.lessAll pre).slot = i.slot from rfl, Bool.and_eq_true, List.isEmpty_iff] at h2 ⊢
  · simp [DStep.lessAll, h2]
  · exact ⟨⟨by simp [DStep.lessAll, h2.1.1], h2.1.2⟩, h2.2⟩
  · exact ⟨by simp [DStep.lessAll, h2.1], h2.2⟩
  · obtain ⟨⟨h3, h4⟩, h5⟩ := h2
    refine ⟨⟨h3, all_filter h4⟩, ?_⟩
    simp only [Bool.or_eq_true, Bool.and_eq_true] at h5 ⊢
    rcases h5 with ⟨h5, h6⟩ | ⟨h5, h6⟩
    · exact .inl ⟨h5, all_filter h6⟩
    · refine .inr ⟨h5, ?_⟩
      rw [List.any_eq_true] at h6 ⊢
      obtain ⟨r, hr, hid⟩ := h6
      refine ⟨r, ?_, hid⟩
      simp only [DStep.lessAll, List.mem_filter]
      refine ⟨hr, ?_⟩
      rw [List.all_eq_true]
      intro b hb
      simp only [beq_iff_eq] at hid
      simp only [bne_iff_ne, ne_eq, hid]
      exact fun he => hn b hb he.symm

theorem DGood.less {i : DStep} {pre : List DStep} (hi : DGood P ops i) : DGood P ops (i.lessAll pre) :=
  ⟨hi.op, fun r hr => hi.again r (List.mem_filter.1 hr).1⟩

/-- What is made once more behind i, and lies behind a, lies in pre. -/
def AgOk (bef : List (List Nat)) (i : DStep) : List DStep → Prop
  | [] => True
  | a :: pre => (∀ r ∈ i.again, r.id ≠ a.id → a.id ∈ bef.getD r.id [] → ∃ q ∈ pre, q.id = r.id) ∧ AgOk bef i pre

/-- **A step goes to the front.** -/
theorem move {bef : List (List Nat)} {i : DStep} {post : List DStep} {r : Env × Heap} (hi : DGood P ops i) : ∀ {pre : List DStep} {e : Env} {h : Heap}, (∀ a ∈ pre, DGood P ops a ∧ swapOk k bef a i = true) → pre.Pairwise (fun a b => a.id ≠ b.id) → AgOk bef i pre → tok + k ≤ h.length →
    (dsteps P rc tok (pre ++ i :: post) e).run h = some r → (dsteps P rc tok (i.lessAll pre :: (pre ++ post)) e).run h = some r
  | [], e, h, _, _, _, _, hr => by rw [lessAll_nil]; exact hr
  | a :: pre, e, h, hp, hd, hag, hl, hr => by
    obtain ⟨ha, hs⟩ := hp a (by simp)
    rw [List.pairwise_cons] at hd
    obtain ⟨va, h1, h2, h3, h4⟩ := dsteps_inv (fun q hq => (ha.again q hq).2) hr
    have h5 := move hi (fun b hb => hp b (by simp [hb])) hd.2 hag.2 (Nat.le_trans hl (IM.run_grows h2).1) h4
    rw [lessAll_cons]
    refine swap (swapOk_less (fun b hb => (hd.1 b hb).symm) hs) (fun q hq hne hin => ?_) (ha.same hi.less) hl (dsteps_run h2 h3 h5)
    simp only [DStep.lessAll, List.mem_filter, List.all_eq_true, bne_iff_ne, ne_eq] at hq
    obtain ⟨b, hb, hbid⟩ := hag.1 q hq.1 hne hin
    exact hq.2 b hb hbid.symm

/-! ### Edges -/
def EdgOk (ops : Array Oper) : (Nat → Prop) → List DStep → Prop
  | _, [] => True
  | L, s :: ss => (∀ o, ops[s.id]? = some o → ∀ x ∈ o.after, Region.binds .any x = true → L x.on) ∧ EdgOk ops (fun j => L j ∨ j = s.id) ss

theorem EdgOk.mono : ∀ {ss : List DStep} {L M : Nat → Prop}, (∀ j, L j → M j) → EdgOk ops L ss → EdgOk ops M ss
  | [], _, _, _, _ => trivial
  | _ :: _, _, _, hm, h => ⟨fun o ho x hx hb => hm _ (h.1 o ho x hx hb), h.2.mono fun j hj => hj.imp (hm j) id⟩
theorem EdgOk.drop {i : DStep} {post : List DStep} : ∀ {pre : List DStep} {L : Nat → Prop}, EdgOk ops L (pre ++ i :: post) → EdgOk ops (fun j => L j ∨ j = i.id) (pre ++ post)
  | [], _, h => h.2
  | a :: pre, L, h => ⟨fun o ho x hx hb => .inl (h.1 o ho x hx hb), (EdgOk.drop h.2).mono fun j hj => by
      rcases hj with (h1 | h1) | h1
      · exact .inl (.inl h1)
      · exact .inr h1
      · exact .inl (.inr h1)⟩
theorem edgesOk_spec : ∀ {ss : List DStep} {done : List Nat}, edgesOk ops done ss = true → EdgOk ops (fun j => j ∈ done) ss
  | [], _, _ => trivial
  | s :: ss, done, h => by
    simp only [edgesOk, Bool.and_eq_true] at h
    refine ⟨fun o ho x hx hb => ?_, (edgesOk_spec h.2).mono fun j hj => ?_⟩
    · have h1 := h.1
      rw [ho] at h1
      simp only [Option.map_some, Option.getD_some, Array.all_eq_true'] at h1
      have := h1 x hx
      simpa [hb] using this
    · rcases List.mem_cons.1 hj with h1 | h1
      · exact .inr h1
      · exact .inl h1

/-! ### The run -/
structure Inv (P : Program) (ops : Array Oper) (k : Nat) (bef : List (List Nat)) (rem : List DStep) (listed : Array Bool) : Prop where
  size : listed.size = ops.size
  cover : ∀ i, i < ops.size → listed.getD i true = false → ∃ s ∈ rem, s.id = i
  un : ∀ s ∈ rem, listed.getD s.id true = false
  good : ∀ s ∈ rem, DGood P ops s
  pairs : rem.Pairwise (fun a i => pairOk k bef a i = true)
  closed : ∀ i, i < ops.size → listed.getD i true = true → ∀ j ∈ bef.getD i [], listed.getD j true = true
  edges : EdgOk ops (fun j => listed.getD j false = true) rem
  own : ∀ s ∈ rem, ∀ r ∈ s.again, r.id ≠ s.id

theorem getD_of {l : Array Bool} {i : Nat} (h : l.getD i false = true) : l.getD i true = true := by
  rw [Array.getD_eq_getD_getElem?] at h ⊢
  cases hh : l[i]? with
  | none => rfl
  | some b => rw [hh] at h; exact h
theorem getD_set {l : Array Bool} {i j : Nat} {d : Bool} : (l.setIfInBounds i true).getD j d = if i = j ∧ j < l.size then true else l.getD j d := by
  rw [Array.getD_eq_getD_getElem?, Array.getD_eq_getD_getElem?, Array.getElem?_setIfInBounds]
  by_cases h : i = j
  · subst h
    by_cases hl : i < l.size
    · simp [hl]
    · simp [hl]
  · simp [h]
theorem getD_lt {l : Array Bool} {i : Nat} (h : l.getD i true = false) : i < l.size := by
  rw [Array.getD_eq_getD_getElem?] at h
  rcases Nat.lt_or_ge i l.size with h1 | h1
  · exact h1
  · rw [Array.getElem?_eq_none h1] at h; cases h

theorem ready_iff {listed : Array Bool} {i : Nat} : i ∈ Region.ready .any ops listed ↔ i < ops.size ∧ listed.getD i true = false ∧ ∃ o, ops[i]? = some o ∧ ∀ x ∈ o.after, Region.binds .any x = true → listed.getD x.on false = true := by
  unfold Region.ready
  rw [List.mem_filter, List.mem_range]
  refine and_congr_right fun _ => ?_
  rw [Bool.and_eq_true]
  refine and_congr (by simp) ?_
  cases ho : ops[i]? with
  | none => simp
  | some o =>
    simp only [Option.map_some, Option.getD_some, Array.all_eq_true', Option.some.injEq, exists_eq_left']
    refine forall_congr' fun x => forall_congr' fun _ => ?_
    cases hb : Region.binds .any x <;> simp

theorem befOk_spec {bef : List (List Nat)} (hb : befOk ops bef = true) {i j : Nat} {o : Oper} (ho : ops[i]? = some o) (hj : j ∈ bef.getD i []) :
    ∃ x ∈ o.after, Region.binds .any x = true ∧ (x.on = j ∨ j ∈ bef.getD x.on []) := by
  unfold befOk at hb
  rw [List.all_eq_true] at hb
  have hi : i < ops.size := by
    rcases Nat.lt_or_ge i ops.size with h1 | h1
    · exact h1
    · rw [Array.getElem?_eq_none h1] at ho; cases ho
  have h1 := hb i (List.mem_range.2 hi)
  rw [List.all_eq_true] at h1
  have h2 := h1 j hj
  rw [ho] at h2
  simp only [Option.map_some, Option.getD_some, Array.any_eq_true', Bool.and_eq_true, Bool.or_eq_true, beq_iff_eq, List.contains_eq_mem, decide_eq_true_eq] at h2
  exact h2

theorem Inv.next {bef : List (List Nat)} {pre post : List DStep} {s : DStep} {listed : Array Bool} (hb : befOk ops bef = true) (H : Inv P ops k bef (pre ++ s :: post) listed) (hr : s.id ∈ Region.ready .any ops listed) :
    Inv P ops k bef (pre ++ post) (listed.setIfInBounds s.id true) := by
  obtain ⟨hlt, hun, o, ho, hed⟩ := ready_iff.1 hr
  have hmem : ∀ q ∈ pre ++ post, q ∈ pre ++ s :: post := fun q hq => by
    rcases List.mem_append.1 hq with h1 | h1
    · exact List.mem_append_left _ h1
    · exact List.mem_append_right _ (List.mem_cons_of_mem _ h1)
  have hne : ∀ q ∈ pre ++ post, q.id ≠ s.id := by
    have hp := H.pairs
    rw [List.pairwise_append] at hp
    obtain ⟨h1, h2, h3⟩ := hp
    rw [List.pairwise_cons] at h2
    intro q hq
    rcases List.mem_append.1 hq with h4 | h4
    · have := h3 q h4 s (by simp)
      simp only [pairOk, Bool.and_eq_true, bne_iff_ne, ne_eq] at this
      exact this.1.1.1
    · have := h2.1 q h4
      simp only [pairOk, Bool.and_eq_true, bne_iff_ne, ne_eq] at this
      exact fun he => this.1.1.1 he.symm
  refine ⟨by simpa using H.size, fun i hi hl => ?_, fun q hq => ?_, fun q hq => H.good q (hmem q hq), ?_, fun i hi hl j hj => ?_, ?_, fun q hq => H.own q (hmem q hq)⟩
  · rw [getD_set] at hl
    split at hl
    · cases hl
    · rename_i hn
      obtain ⟨q, hq, hid⟩ := H.cover i hi hl
      refine ⟨q, ?_, hid⟩
      rcases List.mem_append.1 hq with h1 | h1
      · exact List.mem_append_left _ h1
      · rcases List.mem_cons.1 h1 with rfl | h1
        · exact absurd ⟨hid, by rw [H.size]; exact hi⟩ hn
        · exact List.mem_append_right _ h1
  · rw [getD_set, if_neg fun h => hne q hq h.1.symm]
    exact H.un q (hmem q hq)
  · have hp := H.pairs
    rw [List.pairwise_append] at hp ⊢
    obtain ⟨h1, h2, h3⟩ := hp
    rw [List.pairwise_cons] at h2
    exact ⟨h1, h2.2, fun a ha b hb => h3 a ha b (by simp [hb])⟩
  · rw [getD_set] at hl ⊢
    split
    · rfl
    · split at hl
      · rename_i h1
        obtain ⟨rfl, _⟩ := h1
        obtain ⟨x, hx, hbd, hor⟩ := befOk_spec hb ho hj
        have hon := getD_of (hed x hx hbd)
        rcases hor with rfl | hor
        · exact hon
        · rcases Nat.lt_or_ge x.on ops.size with h4 | h4
          · exact H.closed x.on h4 hon j hor
          · have := hed x hx hbd
            rw [Array.getD_eq_getD_getElem?, Array.getElem?_eq_none (by rw [H.size]; exact h4)] at this
            cases this
      · exact H.closed i hi hl j hj
  · refine (EdgOk.drop H.edges).mono fun j hj => ?_
    rw [getD_set]
    rcases hj with h1 | h1
    · split
      · rfl
      · exact h1
    · rw [if_pos ⟨h1.symm, by rw [h1]; exact getD_lt hun⟩]

theorem draws {B : Nat} {w0 : World} {Q : Exit → Act → World → Prop} {bef : List (List Nat)} {e' : Env} {h' : Heap} (HC : CallOk P B w0 rc) (hb : befOk ops bef = true) :
    ∀ (n : Nat) {rem : List DStep} {listed : Array Bool} {e : Env} {h : Heap} {ρ : LMap} {a : Act} {w : World}, rem.length = n → Inv P ops k bef rem listed → tok + k ≤ h.length →
      (dsteps P rc tok rem e).run h = some (e', h') → EnvRel ρ e a → Rel B w0 ρ h w →
      (∀ ρ' a' w', Ext ρ ρ' → EnvRel ρ' e' a' → a'.defers = a.defers → Rel B w0 ρ' h' w' → Q .normal a' w') → wpAny P .any ops Q n listed a w := by
  have fin : ∀ {rem : List DStep} {listed : Array Bool} {e : Env} {h : Heap} {ρ : LMap} {a : Act} {w : World}, rem = [] → (dsteps P rc tok rem e).run h = some (e', h') → EnvRel ρ e a → Rel B w0 ρ h w →
      (∀ ρ' a' w', Ext ρ ρ' → EnvRel ρ' e' a' → a'.defers = a.defers → Rel B w0 ρ' h' w' → Q .normal a' w') → Q .normal a w := by
    intro rem listed e h ρ a w hrem hr he R hQ
    subst hrem
    simp only [dsteps] at hr
    obtain ⟨rfl, rfl⟩ := pure_inv hr
    exact hQ ρ a w (.refl ρ) he rfl R
  intro n
  induction n with
  | zero =>
    intro rem listed e h ρ a w hn H hl hr he R hQ
    have hrem : rem = [] := List.length_eq_zero_iff.1 hn
    refine ⟨?_, fin (listed := listed) hrem hr he R hQ⟩
    rw [List.eq_nil_iff_forall_not_mem]
    intro i hi
    obtain ⟨h1, h2, _⟩ := ready_iff.1 hi
    obtain ⟨s, hs, _⟩ := H.cover i h1 h2
    rw [hrem] at hs; cases hs
  | succ n ih =>
    intro rem listed e h ρ a w hn H hl hr he R hQ
    refine ⟨fun h0 => ?_, fun i hi => ?_⟩
    · exfalso
      cases rem with
      | nil => cases hn
      | cons s ss =>
        obtain ⟨o, ho, _⟩ := (H.good s (by simp)).op
        have : s.id ∈ Region.ready .any ops listed := ready_iff.2 ⟨by rw [← H.size]; exact getD_lt (H.un s (by simp)), H.un s (by simp), o, ho, fun x hx hbd => H.edges.1 o ho x hx hbd⟩
        rw [h0] at this; cases this
    · obtain ⟨h1, h2, o, ho, hed⟩ := ready_iff.1 hi
      obtain ⟨s, hs, hid⟩ := H.cover i h1 h2
      subst hid
      obtain ⟨pre, post, rfl⟩ := List.append_of_mem hs
      have hgs := H.good s (by simp)
      have hpw := H.pairs
      rw [List.pairwise_append] at hpw
      obtain ⟨p1, p2, p3⟩ := hpw
      have hpre : ∀ q ∈ pre, DGood P ops q ∧ swapOk k bef q s = true := by
        intro q hq
        refine ⟨H.good q (by simp [hq]), ?_⟩
        have hp := p3 q hq s (by simp)
        simp only [pairOk, Bool.and_eq_true, Bool.or_eq_true, List.contains_eq_mem, decide_eq_true_eq] at hp
        rcases hp.1.1.2 with hp | hp
        · exfalso
          obtain ⟨x, hx, hbd, hor⟩ := befOk_spec hb ho hp
          have hon := hed x hx hbd
          have hqu := H.un q (by simp [hq])
          rcases hor with hor | hor
          · rw [hor] at hon; rw [getD_of hon] at hqu; cases hqu
          · rcases Nat.lt_or_ge x.on ops.size with h4 | h4
            · rw [H.closed x.on h4 (getD_of hon) q.id hor] at hqu; cases hqu
            · rw [Array.getD_eq_getD_getElem?, Array.getElem?_eq_none (by rw [H.size]; exact h4)] at hon
              cases hon
        · exact hp
      have hd : pre.Pairwise (fun a b => a.id ≠ b.id) := p1.imp fun {a b} hab => by
        simp only [pairOk, Bool.and_eq_true, bne_iff_ne, ne_eq] at hab; exact hab.1.1.1
      have hag : AgOk bef s pre := by
        -- a read that is made once more: it has been listed, or stands in pre
        have hrd : ∀ r ∈ s.again, (∃ q ∈ pre, q.id = r.id) ∨ listed.getD r.id true = true := by
          intro r hr'
          obtain ⟨⟨o', go, _⟩, _⟩ := hgs.again r hr'
          have hlt : r.id < ops.size := by
            rcases Nat.lt_or_ge r.id ops.size with h4 | h4
            · exact h4
            · rw [Array.getElem?_eq_none h4] at go; cases go
          cases hli : listed.getD r.id true with
          | true => exact .inr rfl
          | false =>
            obtain ⟨q, hq, hqid⟩ := H.cover r.id hlt hli
            rcases List.mem_append.1 hq with h4 | h4
            · exact .inl ⟨q, h4, hqid⟩
            · rcases List.mem_cons.1 h4 with h4 | h4
              · exact absurd (by rw [← hqid, h4]) (H.own s (by simp) r hr')
              · have := (List.pairwise_cons.1 p2).1 q h4
                simp only [pairOk, Bool.and_eq_true, List.all_eq_true, bne_iff_ne, ne_eq] at this
                exact absurd hqid.symm (this.2 r hr')
        have hun : ∀ q ∈ pre, listed.getD q.id true = false := fun q hq => H.un q (by simp [hq])
        have key : ∀ l : List DStep, (∀ q ∈ l, q ∈ pre) → l.Pairwise (fun a i => pairOk k bef a i = true) → (∀ r ∈ s.again, (∃ q ∈ pre, q.id = r.id) → (∃ q ∈ l, q.id = r.id) ∨ ∀ b ∈ l, b.id ∉ bef.getD r.id []) → AgOk bef s l := by
          intro l
          induction l with
          | nil => intro _ _ _; trivial
          | cons b l ihl =>
            intro hl1 hl2 hl3
            rw [List.pairwise_cons] at hl2
            refine ⟨fun r hr' hne hin => ?_, ihl (fun q hq => hl1 q (by simp [hq])) hl2.2 fun r hr' hex => ?_⟩
            · rcases hrd r hr' with hex | hli
              · rcases hl3 r hr' hex with ⟨q, hq, hqid⟩ | hno
                · rcases List.mem_cons.1 hq with rfl | hq
                  · exact absurd hqid.symm hne
                  · exact ⟨q, hq, hqid⟩
                · exact absurd hin (hno b (by simp))
              · obtain ⟨⟨o', go, _⟩, _⟩ := hgs.again r hr'
                have hlt : r.id < ops.size := by
                  rcases Nat.lt_or_ge r.id ops.size with h4 | h4
                  · exact h4
                  · rw [Array.getElem?_eq_none h4] at go; cases go
                have h5 := H.closed r.id hlt hli b.id hin
                rw [hun b (hl1 b (by simp))] at h5; cases h5
            · rcases hl3 r hr' hex with ⟨q, hq, hqid⟩ | hno
              · rcases List.mem_cons.1 hq with rfl | hq
                · refine .inr fun c hc => ?_
                  have := hl2.1 c hc
                  simp only [pairOk, Bool.and_eq_true, Bool.not_eq_true', List.contains_eq_mem, decide_eq_false_iff_not] at this
                  rw [← hqid]; exact this.1.2
                · exact .inl ⟨q, hq, hqid⟩
              · exact .inr fun c hc => hno c (by simp [hc])
        exact key pre (fun q hq => hq) p1 fun r _ hex => .inl hex
      have hmv := move hgs hpre hd hag hl hr
      obtain ⟨v, h3, g1, g2, g3⟩ := dsteps_inv (fun q hq => (hgs.less.again q hq).2) hmv
      obtain ⟨o', q1, q2, q3, q4⟩ := hgs.op
      rw [ho] at q1; injection q1 with q1; subst q1
      have hlen : (pre ++ post).length = n := by simp at hn ⊢; omega
      unfold wpOp
      rw [ho]
      simp only [wanted_rel q3 he]
      have g1' : (dval P rc tok e s.slot s.guard s.op).run h = some (v, h3) := g1
      have g3' : (dsteps P rc tok (pre ++ post) (putT e o.dst v)).run h3 = some (e', h') := by rw [q4]; exact g3
      unfold dval at g1'
      split at g1'
      · rename_i hw
        rw [if_pos hw]
        left
        exact op_wp HC q2 g1' he R fun ρ' u w' r1 r2 r3 => ih hlen (H.next hb hi) (Nat.le_trans hl (IM.run_grows g1).1) g3' (putT_rel (he.ext r1) r2) r3
          fun ρ2 a2 w2 t1 t2 t3 t4 => hQ ρ2 a2 w2 (r1.trans t1) t2 (t3.trans put_defers) t4
      · rename_i hw
        rw [if_neg hw]
        obtain ⟨rfl, rfl⟩ := pure_inv g1'
        exact ih hlen (H.next hb hi) hl g3' (putT_rel he VRel_undef) R fun ρ2 a2 w2 t1 t2 t3 t4 => hQ ρ2 a2 w2 t1 t2 (t3.trans put_defers) t4

/-! ### The steps are good -/
theorem cOps_get : ∀ {l : List Oper} {xs : List IOp}, cOps P l = some xs → ∀ (i : Nat) (o : Oper) (x : IOp), l[i]? = some o → xs[i]? = some x → cOp P o = some x
  | [], xs, _, i, o, x, ho, _ => by simp at ho
  | o :: l, xs, h, i, o', x, ho, hx => by
    simp only [cOps] at h
    split at h
    · rename_i y ys hy hys
      injection h with h; subst h
      cases i with
      | zero => simp at ho hx; subst ho hx; exact hy
      | succ i => simp at ho hx; exact cOps_get hys i o' x ho hx
    · cases h

theorem rstepOf_good {xs : List IOp} (hxs : cOps P ops.toList = some xs) {i : Nat} {r : RStep} (h : rstepOf ops xs i = some r) : RGood P ops r := by
  unfold rstepOf at h
  split at h
  · rename_i o x ho hx
    split at h
    · rename_i g d hg hd
      injection h with h; subst h
      exact ⟨o, ho, cOps_get hxs i o x (by simpa using ho) hx, hg, hd⟩
    · cases h
  · cases h
theorem rstepsOf_good {xs : List IOp} (hxs : cOps P ops.toList = some xs) : ∀ {is : List Nat} {rs : List RStep}, rstepsOf ops xs is = some rs → ∀ r ∈ rs, RGood P ops r
  | [], rs, h, r, hr => by simp [rstepsOf] at h; subst h; cases hr
  | i :: is, rs, h, r, hr => by
    simp only [rstepsOf] at h
    split at h
    · rename_i q qs hq hqs
      injection h with h; subst h
      rcases List.mem_cons.1 hr with rfl | hr
      · exact rstepOf_good hxs hq
      · exact rstepsOf_good hxs hqs r hr
    · cases h
theorem dstepOf_good {xs : List IOp} (hxs : cOps P ops.toList = some xs) {slot : Option Nat} {bef reads : List Nat} {i : Nat} {s : DStep} (h : dstepOf ops xs slot bef reads i = some s) :
    (∃ o, ops[s.id]? = some o ∧ cOp P o = some s.op ∧ guardT ops o.guard = some s.guard ∧ o.dst = s.dst) ∧ ∀ r ∈ s.again, RGood P ops r := by
  unfold dstepOf at h
  split at h
  · rename_i o x ho hx
    split at h
    · rename_i g ag hg hag
      injection h with h; subst h
      refine ⟨⟨o, ho, cOps_get hxs i o x (by simpa using ho) hx, hg, rfl⟩, fun r hr => ?_⟩
      split at hag
      · exact rstepsOf_good hxs hag r hr
      · injection hag with hag; rw [← hag] at hr; cases hr
    · cases h
  · cases h
theorem dstepsOf_good {xs : List IOp} (hxs : cOps P ops.toList = some xs) {sl : List (Option Nat)} {bef : List (List Nat)} : ∀ {is reads : List Nat} {ss : List DStep}, dstepsOf ops xs sl bef is reads = some ss →
    ∀ s ∈ ss, (∃ o, ops[s.id]? = some o ∧ cOp P o = some s.op ∧ guardT ops o.guard = some s.guard ∧ o.dst = s.dst) ∧ ∀ r ∈ s.again, RGood P ops r
  | [], _, ss, h, s, hs => by simp [dstepsOf] at h; subst h; cases hs
  | i :: is, reads, ss, h, s, hs => by
    simp only [dstepsOf] at h
    split at h
    · rename_i q qs hq hqs
      injection h with h; subst h
      rcases List.mem_cons.1 hs with rfl | hs
      · exact dstepOf_good hxs hq
      · exact dstepsOf_good hxs hqs s hs
    · cases h

theorem pairsOk_spec {bef : List (List Nat)} : ∀ {ss : List DStep}, pairsOk k bef ss = true → ss.Pairwise fun a i => pairOk k bef a i = true
  | [], _ => .nil
  | a :: ss, h => by
    simp only [pairsOk, Bool.and_eq_true, List.all_eq_true] at h
    exact .cons h.1 (pairsOk_spec h.2)

theorem reserve_some {h : Heap} {k i : Nat} {x : Blk} (hi : (h ++ List.replicate k none)[i]? = some (some x)) : h[i]? = some (some x) := by
  rcases Nat.lt_or_ge i h.length with h1 | h1
  · rwa [List.getElem?_append_left h1] at hi
  · rw [List.getElem?_append_right h1, List.getElem?_replicate] at hi
    split at hi <;> simp at hi
theorem Rel.reserve {B : Nat} {w0 : World} {ρ : LMap} {h : Heap} {w : World} (R : Rel B w0 ρ h w) (k : Nat) : Rel B w0 ρ (h ++ List.replicate k none) w where
  below := R.below
  bound := R.bound
  dom := fun i hi => R.dom i (by simp at hi; omega)
  empty := fun i hi => by
    rcases Nat.lt_or_ge i h.length with h1 | h1
    · rw [List.getElem?_append_left h1] at hi; exact R.empty i hi
    · exact R.dom i h1
  live := fun i x hi => R.live i x (reserve_some hi)
  disj := fun i j x y l m hij hi hj => R.disj i j x y l m hij (reserve_some hi) (reserve_some hj)

/-- **Regions that draw their order.** -/
theorem draw_ok {B : Nat} {w0 : World} (hm : P.follows .mixedOrders = true) (HC : CallOk P B w0 rc) : DrawOk P B w0 rc := by
  intro id ops k ss e e' out n h h' ρ a w Q hd hr he R hQ
  unfold drawSteps at hd
  split at hd
  · cases hd
  · rename_i xs hxs
    simp only at hd
    split at hd
    · rename_i ss' hss
      split at hd
      · rename_i hok
        injection hd with hd
        injection hd with hd1 hd2
        subst hd2
        rw [hd1] at hok
        unfold drawOk at hok
        simp only [Bool.and_eq_true, beq_iff_eq] at hok
        obtain ⟨⟨⟨⟨⟨c1, c2⟩, c3⟩, c4⟩, c5⟩, c6⟩ := hok
        simp only [exec, IM.run] at hr
        obtain ⟨e1, h1, h2, h3⟩ := IM.run_bind_some hr
        obtain ⟨h4, rfl⟩ := pure_inv h3
        injection h4 with h4 h5; subst h4 h5
        refine wp_region_any hm ?_
        have R1 : Rel B w0 ρ (h ++ List.replicate k none) { w with drawn := w.drawn + 1 } := (R.reserve k).drawn _
        have hgood := dstepsOf_good hxs hss
        refine draws HC c3 ops.size c1 ⟨by simp, fun i hi _ => ?_, fun s hs => ?_, fun s hs => ⟨(hgood s hs).1, fun r hr' => ⟨(hgood s hs).2 r hr', ?_⟩⟩, pairsOk_spec c5, fun i hi hl => ?_, (edgesOk_spec c4).mono (fun j hj => by cases hj), fun s hs r hr' => ?_⟩
          (by simp) h2 he R1 hQ
        · rw [List.all_eq_true] at c2
          have := c2 i (List.mem_range.2 hi)
          rw [List.any_eq_true] at this
          obtain ⟨s, hs, hid⟩ := this
          exact ⟨s, hs, by simpa using hid⟩
        · obtain ⟨o, ho, _⟩ := (hgood s hs).1
          have hlt : s.id < ops.size := by
            rcases Nat.lt_or_ge s.id ops.size with h1 | h1
            · exact h1
            · rw [Array.getElem?_eq_none h1] at ho; cases ho
          rw [Array.getD_eq_getD_getElem?]
          simp [hlt]
        · rw [List.all_eq_true] at c6
          have := c6 s hs
          rw [List.all_eq_true] at this
          have := this r hr'
          simp only [Bool.and_eq_true, beq_iff_eq] at this
          exact this.1
        · rw [Array.getD_eq_getD_getElem?] at hl
          simp [hi] at hl
        · rw [List.all_eq_true] at c6
          have := c6 s hs
          rw [List.all_eq_true] at this
          have := this r hr'
          simp only [Bool.and_eq_true, bne_iff_ne, ne_eq] at this
          exact this.2
      · cases hd
    · cases hd

end
end Go.Ideal
