/-
  The ideal machine, part 20: calls whose answers are known: whole numbers and texts in, and out. Conditions: none (lemmas).
-/
import Derived.Test.YtbikhbgmgmaocaaGreatDoorIdJ
namespace Go.Ideal
open Go.RowKit

/-- A table of known answers. -/
abbrev Memo := List (Nat × List V × V)
def look (f : Nat) (args : List V) : Memo → Option V
  | [] => none
  | p :: m => if p.1 == f && V.beqs p.2.1 args then some p.2.2 else look f args m

/-- The machine with a table. -/
def mcall (P : Program) (code : Nat → Option IFunc) (m : Memo) : Nat → Nat → List V → IM V
  | 0, _, _ => .fail
  | n + 1, f, args => match look f args m with
    | some v => .pure v
    | none => icallB P code (mcall P code m n) n f args

/-- What the table says is so, in every world. -/
def Known (P : Program) (f : Nat) (args : List V) (v : V) : Prop :=
  ∃ (vs : List Value) (u : Value), toVals args = some vs ∧ v.toVal = some u ∧
    (∃ fn, P.funcs[f]? = some fn ∧ fn.body.isNone = false ∧ (fn.name == "runtime.NumGoroutine") = false) ∧
    ∀ w : World, Calls P f vs.toArray w fun e w' => e = .returned u ∧ Below w.heap.size w w'
def MemoOk (P : Program) (m : Memo) : Prop := ∀ p ∈ m, Known P p.1 p.2.1 p.2.2

mutual
theorem VRel_toVal {ρ : LMap} : ∀ {v : V} {u : Value}, v.toVal = some u → VRel ρ v u
  | .bool b, _, h => by simp [V.toVal] at h; subst h; simp [VRel]
  | .int k n, _, h => by simp [V.toVal] at h; subst h; simp [VRel]
  | .str s, _, h => by simp [V.toVal] at h; subst h; simp [VRel]
  | .nil, _, h => by simp [V.toVal] at h; subst h; simp [VRel]
  | .nilSlice, _, h => by simp [V.toVal] at h; subst h; simp [VRel]
  | .nilMap, _, h => by simp [V.toVal] at h; subst h; simp [VRel]
  | .nilChan, _, h => by simp [V.toVal] at h; subst h; simp [VRel]
  | .nilFn, _, h => by simp [V.toVal] at h; subst h; simp [VRel]
  | .ptr .., _, h => by simp [V.toVal] at h
  | .slice .., _, h => by simp [V.toVal] at h
  | .map _, _, h => by simp [V.toVal] at h
  | .chan _, _, h => by simp [V.toVal] at h
  | .fn .., _, h => by simp [V.toVal] at h
  | .agg cs, _, h => by
    simp only [V.toVal, Option.map_eq_some_iff] at h
    obtain ⟨l, h1, rfl⟩ := h
    simp only [VRel]; exact ⟨_, rfl, VRelL_toVals h1⟩
  | .tup cs, _, h => by
    simp only [V.toVal, Option.map_eq_some_iff] at h
    obtain ⟨l, h1, rfl⟩ := h
    simp only [VRel]; exact ⟨_, rfl, VRelL_toVals h1⟩
theorem VRelL_toVals {ρ : LMap} : ∀ {vs : List V} {us : List Value}, toVals vs = some us → VRelL ρ vs us
  | [], _, h => by simp [toVals] at h; subst h; simp [VRelL_nil]
  | v :: vs, _, h => by
    simp only [toVals] at h
    split at h
    · rename_i a as ha has
      injection h with h; subst h
      exact VRelL_cons'.2 ⟨VRel_toVal ha, VRelL_toVals has⟩
    · cases h
end

theorem look_inv {f : Nat} {args : List V} {v : V} : ∀ {m : Memo}, look f args m = some v → (f, args, v) ∈ m
  | [], h => by simp [look] at h
  | p :: m, h => by
    simp only [look] at h
    split at h
    · rename_i hc
      injection h with h
      simp only [Bool.and_eq_true, beq_iff_eq] at hc
      have := V.beqs_eq hc.2
      refine List.mem_cons.2 (.inl ?_)
      obtain ⟨a, b, c⟩ := p
      simp only at hc this h
      rw [hc.1, this, h]
    · exact List.mem_cons_of_mem _ (look_inv h)

section
variable {P : Program} {code : Nat → Option IFunc}

/-- **The machine with a table.** -/
theorem mcall_sound (hm : P.follows .mixedOrders = true) (hcode : ∀ f ir, code f = some ir → cFunc P f = some ir) {m : Memo} (hk : MemoOk P m) {B : Nat} {w0 : World} : ∀ n, CallOk P B w0 (mcall P code m n)
  | 0 => by intro f args h v h' ρ w argsR hr; simp [mcall] at hr
  | n + 1 => by
    intro f args h v h' ρ w argsR hr ha R
    simp only [mcall] at hr
    split at hr
    · rename_i v' hl
      obtain ⟨rfl, rfl⟩ := pure_inv hr
      obtain ⟨vs, u, h1, h2, h3, h4⟩ := hk _ (look_inv hl)
      have hav := VRelL.val args h1 ha
      have hargs : argsR = vs.toArray := by apply Array.ext'; simpa using hav
      refine ⟨h3, ?_⟩
      rw [hargs]
      refine (h4 w).mono fun e w' he => ?_
      obtain ⟨rfl, hb⟩ := he
      refine ⟨ρ, u, rfl, .refl ρ, VRel_toVal h2, R.world (hb.mono R.bound) fun i x k hi hd hk => ?_⟩
      obtain ⟨l, q1, q2⟩ := R.live i x hi
      rw [hk] at q1; injection q1 with q1; subst q1
      exact SameAt.of_eq (hb.block k.blk (q2.lt hd))
    · exact body_sound hcode (mcall_sound hm hcode hk n) (draw_ok hm (mcall_sound hm hcode hk n)) n f args h v h' ρ w argsR hr ha R

theorem Rel.none (w : World) : Rel w.heap.size w (fun _ => none) [] w where
  below := .refl _ _
  bound := Nat.le_refl _
  dom := fun _ _ => rfl
  empty := fun i hi => by simp at hi
  live := fun i x hi => by simp at hi
  disj := fun i j x y l k _ hi => by simp at hi

/-- An answer, by a run from nothing. -/
theorem known_of_run (hm : P.follows .mixedOrders = true) (hcode : ∀ f ir, code f = some ir → cFunc P f = some ir) {m : Memo} (hk : MemoOk P m) {n f : Nat} {args : List V} {v : V} {vs : List Value} {u : Value}
    (ha : toVals args = some vs) (hv : v.toVal = some u) (hr : ((mcall P code m n f args).run []).map (·.1) = some v) : Known P f args v := by
  simp only [Option.map_eq_some_iff] at hr
  obtain ⟨⟨v', h'⟩, hr, rfl⟩ := hr
  have key : ∀ w : World, _ := fun w => mcall_sound hm hcode hk (B := w.heap.size) (w0 := w) n f args [] v' h' (fun _ => none) w vs.toArray hr (VRelL_toVals ha) (Rel.none w)
  refine ⟨vs, u, ha, hv, (key default).1, fun w => (key w).2.mono fun e w' he => ?_⟩
  obtain ⟨ρ', u', rfl, h1, h2, h3⟩ := he
  exact ⟨by rw [VRel.val v' hv h2], h3.below⟩

theorem memo_nil : MemoOk P [] := fun p hp => by cases hp
theorem memo_cons {m : Memo} {f : Nat} {args : List V} {v : V} (h : Known P f args v) (hk : MemoOk P m) : MemoOk P ((f, args, v) :: m) := fun p hp => by
  rcases List.mem_cons.1 hp with rfl | hp
  · exact h
  · exact hk p hp
end
end Go.Ideal
