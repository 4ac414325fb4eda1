/-
  The ideal machine, part 23: the same run over trees of places (temporaries, heap): for evaluation. Conditions: none (definitions and lemmas).
-/
import Derived.Test.YtbikhbgmgmaocaaGreatDoorIdF
namespace Go.Ideal

inductive Tr (α : Type) where
  | leaf
  | node (v : α) (l r : Tr α)

namespace Tr
variable {α : Type}
def get : Tr α → Nat → Option α
  | .leaf, _ => none
  | .node v l r, n => cond (Nat.beq n 0) (some v) (cond (Nat.beq (n % 2) 1) (l.get (n / 2)) (r.get (n / 2 - 1)))
def set : Tr α → Nat → α → Tr α
  | .leaf, _, _ => .leaf
  | .node v l r, n, x => cond (Nat.beq n 0) (.node x l r) (cond (Nat.beq (n % 2) 1) (.node v (l.set (n / 2) x) r) (.node v l (r.set (n / 2 - 1) x)))
def push : Tr α → Nat → α → Tr α
  | .leaf, _, x => .node x .leaf .leaf
  | .node v l r, n, x => cond (Nat.beq (n % 2) 1) (.node v (l.push (n / 2) x) r) (.node v l (r.push (n / 2 - 1) x))
/-- n places, all alike. -/
def rep (x : α) : Nat → Nat → Tr α
  | 0, _ => .leaf
  | f + 1, n => cond (Nat.beq n 0) .leaf (.node x (rep x f (n / 2)) (rep x f ((n - 1) / 2)))
def setAll : Tr α → Nat → List α → Tr α
  | t, _, [] => t
  | t, i, x :: xs => setAll (t.set i x) (i + 1) xs

theorem get_set (x : α) : ∀ (t : Tr α) (n m : Nat), (t.set n x).get m = if m = n then (t.get m).map (fun _ => x) else t.get m
  | .leaf, n, m => by simp [set, get]
  | .node v l r, n, m => by
    have ih1 := get_set x l
    have ih2 := get_set x r
    unfold set
    cases h0 : Nat.beq n 0
    · simp only [cond_false]
      have hn : n ≠ 0 := by intro h; subst h; simp at h0
      cases h1 : Nat.beq (n % 2) 1
      · have h1' : n % 2 = 0 := by have := Nat.ne_of_beq_eq_false h1; omega
        simp only [cond_false, get, ih2]
        cases g0 : Nat.beq m 0
        · have hm := Nat.ne_of_beq_eq_false g0
          cases g1 : Nat.beq (m % 2) 1
          · have g1' : m % 2 = 0 := by have := Nat.ne_of_beq_eq_false g1; omega
            simp only [cond_false]
            have : (m / 2 - 1 = n / 2 - 1) = (m = n) := by apply propext; omega
            simp only [this]
          · have g1' := Nat.eq_of_beq_eq_true g1
            have : m ≠ n := by omega
            simp [this]
        · have := Nat.eq_of_beq_eq_true g0
          have : m ≠ n := by omega
          simp [this]
      · have h1' := Nat.eq_of_beq_eq_true h1
        simp only [cond_true, get, ih1]
        cases g0 : Nat.beq m 0
        · have hm := Nat.ne_of_beq_eq_false g0
          cases g1 : Nat.beq (m % 2) 1
          · have g1' : m % 2 = 0 := by have := Nat.ne_of_beq_eq_false g1; omega
            have : m ≠ n := by omega
            simp [this]
          · have g1' := Nat.eq_of_beq_eq_true g1
            simp only [cond_false, cond_true]
            have : (m / 2 = n / 2) = (m = n) := by apply propext; omega
            simp only [this]
        · have := Nat.eq_of_beq_eq_true g0
          have : m ≠ n := by omega
          simp [this]
    · have hn := Nat.eq_of_beq_eq_true h0
      subst hn
      simp only [cond_true, get]
      cases g0 : Nat.beq m 0
      · have hm := Nat.ne_of_beq_eq_false g0
        simp [hm]
      · have := Nat.eq_of_beq_eq_true g0
        simp [this]

/-- Just n places. -/
def Full (t : Tr α) (n : Nat) : Prop := ∀ i, (t.get i).isSome = decide (i < n)
theorem Full.lt {t : Tr α} {n i : Nat} {x : α} (h : t.Full n) (hi : t.get i = some x) : i < n := by
  have := h i; rw [hi] at this; simpa using this

theorem get_push (x : α) : ∀ (t : Tr α) (n : Nat), t.Full n → ∀ m, (t.push n x).get m = if m = n then some x else t.get m
  | .leaf, n, hf, m => by
    have : n = 0 := by
      rcases Nat.eq_zero_or_pos n with h | h
      · exact h
      · have := hf 0; simp [get, h] at this
    subst this
    simp only [push, get]
    cases g0 : Nat.beq m 0
    · have hm := Nat.ne_of_beq_eq_false g0
      simp [hm]
    · have := Nat.eq_of_beq_eq_true g0
      simp [this]
  | .node v l r, n, hf, m => by
    have hn : n ≠ 0 := by intro h; have := hf 0; simp [get, h] at this
    have fl : l.Full (n / 2) := fun i => by
      have := hf (2 * i + 1)
      have e0 : Nat.beq (2 * i + 1) 0 = false := rfl
      have e1 : (2 * i + 1) % 2 = 1 := by omega
      have e2 : (2 * i + 1) / 2 = i := by omega
      simp only [get, e0, e1, e2, cond_false] at this
      have q : Nat.beq 1 1 = true := rfl
      rw [q, cond_true] at this
      rw [this]; congr 1; apply propext; omega
    have fr : r.Full ((n - 1) / 2) := fun i => by
      have := hf (2 * i + 2)
      have e0 : Nat.beq (2 * i + 2) 0 = false := rfl
      have e1 : (2 * i + 2) % 2 = 0 := by omega
      have e2 : (2 * i + 2) / 2 - 1 = i := by omega
      simp only [get, e0, e1, e2, cond_false] at this
      have q : Nat.beq 0 1 = false := rfl
      rw [q, cond_false] at this
      rw [this]; congr 1; apply propext; omega
    unfold push
    cases h1 : Nat.beq (n % 2) 1
    · have h1' : n % 2 = 0 := by have := Nat.ne_of_beq_eq_false h1; omega
      have e : (n - 1) / 2 = n / 2 - 1 := by omega
      rw [e] at fr
      simp only [cond_false, get]
      cases g0 : Nat.beq m 0
      · have hm := Nat.ne_of_beq_eq_false g0
        cases g1 : Nat.beq (m % 2) 1
        · have g1' : m % 2 = 0 := by have := Nat.ne_of_beq_eq_false g1; omega
          simp only [cond_false, get_push x r _ fr]
          have : (m / 2 - 1 = n / 2 - 1) = (m = n) := by apply propext; omega
          simp only [this]
        · have g1' := Nat.eq_of_beq_eq_true g1
          have : m ≠ n := by omega
          simp [this]
      · have := Nat.eq_of_beq_eq_true g0
        have : m ≠ n := by omega
        simp [this]
    · have h1' := Nat.eq_of_beq_eq_true h1
      simp only [cond_true, get]
      cases g0 : Nat.beq m 0
      · have hm := Nat.ne_of_beq_eq_false g0
        cases g1 : Nat.beq (m % 2) 1
        · have g1' : m % 2 = 0 := by have := Nat.ne_of_beq_eq_false g1; omega
          have : m ≠ n := by omega
          simp [this]
        · have g1' := Nat.eq_of_beq_eq_true g1
          simp only [cond_false, cond_true, get_push x l _ fl]
          have : (m / 2 = n / 2) = (m = n) := by apply propext; omega
          simp only [this]
      · have := Nat.eq_of_beq_eq_true g0
        have : m ≠ n := by omega
        simp [this]

theorem get_rep (x : α) : ∀ (f n : Nat), n ≤ f → ∀ i, (rep x f n).get i = if i < n then some x else none
  | 0, n, h, i => by have : n = 0 := by omega
                     subst this; simp [rep, get]
  | f + 1, n, h, i => by
    unfold rep
    cases h0 : Nat.beq n 0
    · have hn := Nat.ne_of_beq_eq_false h0
      simp only [cond_false, get, get_rep x f (n / 2) (by omega), get_rep x f ((n - 1) / 2) (by omega)]
      cases g0 : Nat.beq i 0
      · have hm := Nat.ne_of_beq_eq_false g0
        cases g1 : Nat.beq (i % 2) 1
        · have g1' : i % 2 = 0 := by have := Nat.ne_of_beq_eq_false g1; omega
          simp only [cond_false]
          have : (i / 2 - 1 < (n - 1) / 2) = (i < n) := by apply propext; omega
          simp only [this]
        · have g1' := Nat.eq_of_beq_eq_true g1
          simp only [cond_false, cond_true]
          have : (i / 2 < n / 2) = (i < n) := by apply propext; omega
          simp only [this]
      · have := Nat.eq_of_beq_eq_true g0
        have : i < n := by omega
        simp [this]
    · have := Nat.eq_of_beq_eq_true h0
      subst this
      simp [get]
end Tr

/-- A tree that is a list. -/
def RelT {α : Type} (t : Tr α) (l : List α) : Prop := ∀ i, t.get i = l[i]?
theorem RelT.full {α : Type} {t : Tr α} {l : List α} (h : RelT t l) : t.Full l.length := fun i => by
  rw [h i]; by_cases hi : i < l.length <;> simp [hi]
theorem RelT.set {α : Type} {t : Tr α} {l : List α} (h : RelT t l) (n : Nat) (x : α) : RelT (t.set n x) (l.set n x) := fun i => by
  rw [Tr.get_set, h i, List.getElem?_set]
  by_cases e : i = n
  · subst e
    by_cases hi : i < l.length <;> simp [hi]
  · have : ¬ n = i := fun q => e q.symm
    simp [e, this]
theorem RelT.push {α : Type} {t : Tr α} {l : List α} (h : RelT t l) (x : α) : RelT (t.push l.length x) (l ++ [x]) := fun i => by
  rw [Tr.get_push x t _ h.full, h i]
  by_cases e : i = l.length
  · subst e; simp
  · simp only [e, if_false]
    by_cases hi : i < l.length
    · rw [List.getElem?_append_left hi]
    · rw [List.getElem?_eq_none (by omega), List.getElem?_eq_none (by simp; omega)]
theorem RelT.rep {α : Type} (x : α) (n : Nat) : RelT (Tr.rep x n n) (List.replicate n x) := fun i => by
  rw [Tr.get_rep x n n (Nat.le_refl _), List.getElem?_replicate]
theorem RelT.setAll {α : Type} : ∀ (xs : List α) {t : Tr α} {l : List α} (i : Nat), RelT t l → i + xs.length ≤ l.length → RelT (t.setAll i xs) (l.take i ++ xs ++ l.drop (i + xs.length))
  | [], t, l, i, h, hl => by simpa [Tr.setAll] using h
  | x :: xs, t, l, i, h, hl => by
    have := RelT.setAll xs (i + 1) (h.set i x) (by simp at hl ⊢; omega)
    simp only [Tr.setAll]
    simp only [List.length_cons] at hl
    have e : (l.set i x).take (i + 1) ++ xs ++ (l.set i x).drop (i + 1 + xs.length) = l.take i ++ x :: xs ++ l.drop (i + (xs.length + 1)) := by
      have e1 : (l.set i x).take (i + 1) = l.take i ++ [x] := by
        rw [List.take_set, List.take_succ_eq_append_getElem (by omega : i < l.length), List.set_append_right _ _ (by simp; omega)]
        have : i - (l.take i).length = 0 := by simp; omega
        rw [this]; rfl
      have e2 : (l.set i x).drop (i + 1 + xs.length) = l.drop (i + (xs.length + 1)) := by
        rw [List.drop_set_of_lt (by omega)]; congr 1; omega
      rw [e1, e2]; simp
    rw [e] at this
    simpa using this

/-! ### The heap -/
structure TH where
  n : Nat
  t : Tr (Option Blk)
def RelH (t : TH) (h : Heap) : Prop := t.n = h.length ∧ RelT t.t h
def TH.nil : TH := ⟨0, .leaf⟩
theorem RelH.nil : RelH .nil [] := ⟨rfl, fun i => by simp [TH.nil, Tr.get]⟩
def TH.push (t : TH) (x : Option Blk) : TH := ⟨Nat.succ t.n, t.t.push t.n x⟩
def TH.set (t : TH) (b : Nat) (x : Blk) : TH := ⟨t.n, t.t.set b (some x)⟩
def TH.pushes : TH → Nat → TH
  | t, 0 => t
  | t, k + 1 => (t.push none).pushes k
theorem RelH.push {t : TH} {h : Heap} (R : RelH t h) (x : Option Blk) : RelH (t.push x) (h ++ [x]) := ⟨by simp [TH.push, R.1], by
  have := R.2.push x
  rw [← R.1] at this
  exact this⟩
theorem RelH.set {t : TH} {h : Heap} (R : RelH t h) (b : Nat) (x : Blk) : RelH (t.set b x) (h.set b (some x)) := ⟨by simp [TH.set, R.1], R.2.set b (some x)⟩
theorem RelH.pushes : ∀ (k : Nat) {t : TH} {h : Heap}, RelH t h → RelH (t.pushes k) (h ++ List.replicate k none)
  | 0, t, h, R => by simpa [TH.pushes] using R
  | k + 1, t, h, R => by
    have := RelH.pushes k (R.push none)
    simp only [TH.pushes]
    rw [List.append_assoc] at this
    exact this

def IM.runT {α : Type} : IM α → TH → Option (α × TH)
  | .pure a, h => some (a, h)
  | .get b k, h => match h.t.get b with
    | some (some x) => (k x).runT h
    | _ => none
  | .set b x k, h => match h.t.get b with
    | some (some _) => k.runT (h.set b x)
    | _ => none
  | .alloc x k, h => (k h.n).runT (h.push (some x))
  | .reserve n k, h => (k h.n).runT (h.pushes n)
  | .fill b x k, h => match h.t.get b with
    | some none => k.runT (h.set b x)
    | _ => none
  | .fail, _ => none

theorem IM.runT_sound {α : Type} : ∀ (m : IM α) {t t' : TH} {h : Heap} {a : α}, RelH t h → m.runT t = some (a, t') → ∃ h', m.run h = some (a, h') ∧ RelH t' h' := by
  intro m
  induction m with
  | pure a => intro t t' h b R e; simp only [runT, Option.some.injEq, Prod.mk.injEq] at e; obtain ⟨rfl, rfl⟩ := e; exact ⟨h, rfl, R⟩
  | get b k ih =>
    intro t t' h a R e
    simp only [runT, R.2 b] at e
    simp only [run]
    split at e
    · rename_i x hx
      simp only [hx]
      exact ih x R e
    · cases e
  | set b x k ih =>
    intro t t' h a R e
    simp only [runT, R.2 b] at e
    simp only [run]
    split at e
    · rename_i y hx
      simp only [hx]
      exact ih (R.set b x) e
    · cases e
  | alloc x k ih =>
    intro t t' h a R e
    simp only [runT] at e
    simp only [run]
    rw [R.1] at e
    exact ih _ (R.push (some x)) e
  | reserve n k ih =>
    intro t t' h a R e
    simp only [runT] at e
    simp only [run]
    rw [R.1] at e
    exact ih _ (R.pushes n) e
  | fill b x k ih =>
    intro t t' h a R e
    simp only [runT, R.2 b] at e
    simp only [run]
    split at e
    · rename_i hx
      simp only [hx]
      exact ih (R.set b x) e
    · cases e
  | fail => intro t t' h a R e; cases e

/-! ### Operands put in -/
abbrev TE := Tr V
def Opd.evT (e : TE) : Opd → V
  | .t i => (e.get i).getD .undef
  | .c v => v
def Opd.in (e : TE) (x : Opd) : Opd := .c (x.evT e)
def inP (e : TE) : List (Nat × Nat × Opd) → List (Nat × Nat × Opd)
  | [] => []
  | p :: ps => (p.1, p.2.1, p.2.2.in e) :: inP e ps
def IOp.in (e : TE) : IOp → IOp
  | .mv x => .mv (x.in e)
  | .pick c a b => .pick (c.in e) (a.in e) (b.in e)
  | .scal o => .scal o
  | .field off n agg x => .field off n agg (x.in e)
  | .extract i x => .extract i (x.in e)
  | .build z ps => .build z (inP e ps)
  | .mkFn f a b => .mkFn f (a.map (Opd.in e)) (b.map (Opd.in e))
  | .fieldAddr off x => .fieldAddr off (x.in e)
  | .indexAddr sz x i => .indexAddr sz (x.in e) (i.in e)
  | .indexAddrA len sz x i => .indexAddrA len sz (x.in e) (i.in e)
  | .slice sz x lo hi mx => .slice sz (x.in e) (lo.map (Opd.in e)) (hi.map (Opd.in e)) (mx.map (Opd.in e))
  | .sliceA len sz x lo hi => .sliceA len sz (x.in e) (lo.map (Opd.in e)) (hi.map (Opd.in e))
  | .nilCheck x => .nilCheck (x.in e)
  | .arrayPtr len sz x => .arrayPtr len sz (x.in e)
  | .isNil k neg x => .isNil k neg (x.in e)
  | .lenSlice x => .lenSlice (x.in e)
  | .cap x => .cap (x.in e)
  | .lenMap x => .lenMap (x.in e)
  | .lenChan x => .lenChan (x.in e)
  | .load n x => .load n (x.in e)
  | .lookup ik z x k ok => .lookup ik z (x.in e) (k.in e) ok
  | .alloc z => .alloc z
  | .box x => .box (x.in e)
  | .buildSlice sz len z ps => .buildSlice sz len z (inP e ps)
  | .makeSlice sz z l => .makeSlice sz z (l.in e)
  | .makeMap => .makeMap
  | .makeChan x => .makeChan (x.in e)
  | .strBytes x => .strBytes (x.in e)
  | .bytesStr x => .bytesStr (x.in e)
  | .store n x v => .store n (x.in e) (v.in e)
  | .append sz x y => .append sz (x.in e) (y.in e)
  | .appendStr x y => .appendStr (x.in e) (y.in e)
  | .appendZ sz z x n => .appendZ sz z (x.in e) (n.in e)
  | .never => .never
  | .copy sz x y => .copy sz (x.in e) (y.in e)
  | .mapUpdate ik x k v => .mapUpdate ik (x.in e) (k.in e) (v.in e)
  | .delete ik x k => .delete ik (x.in e) (k.in e)
  | .range x => .range (x.in e)
  | .next x => .next (x.in e)
  | .entry x => .entry (x.in e)
  | .clear sz z x => .clear sz z (x.in e)
  | .call f l => .call f l
  | .callV f l => .callV f l

def scalT (P : Program) (e : TE) (o : Oper) : IM V :=
  let ρ : Operand → Option Value := fun
    | .tmp t => ((e.get t).getD .undef).toVal
    | .const v => some v
    | _ => none
  if o.op.operands.all fun x => (ρ x).isSome then
    match pureSem P (execOp (fun x => (ρ x).getD undef) o) with
    | some (.value v) => IM.lift (V.ofVal v)
    | _ => .fail
  else .fail

theorem ev_nil (e : TE) (x : Opd) : (x.in e).ev [] = x.evT e := rfl
theorem evT_eq {t : TE} {e : Env} (R : RelT t e) (x : Opd) : x.evT t = x.ev e := by
  cases x
  · simp [Opd.evT, Opd.ev, R _]
  · rfl
theorem bound_in {t : TE} {e : Env} (R : RelT t e) (d : Nat) (x : Option Opd) : boundOf [] d (x.map (Opd.in t)) = boundOf e d x := by
  cases x
  · rfl
  · simp only [Option.map_some, boundOf, ev_nil, evT_eq R]
theorem fill_in {t : TE} {e : Env} (R : RelT t e) : ∀ (ps : List (Nat × Nat × Opd)) (cs : List V), fillParts [] (inP t ps) cs = fillParts e ps cs
  | [], cs => rfl
  | (a, b, x) :: ps, cs => by
    simp only [inP, fillParts, ev_nil, evT_eq R]
    split
    · exact fill_in R ps _
    · rfl
theorem slice_in {t : TE} {e : Env} (R : RelT t e) (sz : Nat) (lo hi mx : Option Opd) (x : V) : sliceOf sz [] (lo.map (Opd.in t)) (hi.map (Opd.in t)) (mx.map (Opd.in t)) x = sliceOf sz e lo hi mx x := by
  unfold sliceOf
  simp only [bound_in R]
  cases mx <;> rfl
theorem map_in {t : TE} {e : Env} (R : RelT t e) (l : List Opd) : (l.map (Opd.in t)).map (Opd.ev []) = l.map (Opd.ev e) := by
  simp only [List.map_map]
  apply List.map_congr_left
  intro x _
  exact evT_eq R x

section
variable {P : Program}
theorem scalT_eq {t : TE} {e : Env} (R : RelT t e) (rc : Nat → List V → IM V) (tok : Nat) (slot : Option Nat) (o : Oper) : scalT P t o = iop P rc tok slot e (.scal o) := by
  have hg : ∀ i, (t.get i).getD .undef = e.getD i .undef := fun i => by rw [R i]; simp
  unfold scalT iop
  simp only [hg]
  rfl

/-- No call, no scalar. -/
def IOp.low : IOp → Bool
  | .scal _ | .call .. | .callV .. => false
  | _ => true

theorem iop_in {t : TE} {e : Env} (R : RelT t e) (rc : Nat → List V → IM V) (tok : Nat) (slot : Option Nat) (x : IOp) (hx : x.low = true) : iop P (fun _ _ => .fail) tok slot [] (x.in t) = iop P rc tok slot e x := by
  cases x <;> first
    | (simp [IOp.low] at hx; done)
    | rfl
    | (simp only [IOp.in, iop, ev_nil, evT_eq R, fill_in R, slice_in R, bound_in R, map_in R])

/-! ### The run -/
abbrev RcT := Nat → List V → TH → Option (V × TH)

def iopT (P : Program) (rc : RcT) (tok : Nat) (slot : Option Nat) (e : TE) (x : IOp) (h : TH) : Option (V × TH) := match x with
  | .call f args => rc f (args.map (Opd.evT e)) h
  | .callV f args => match f.evT e with
    | .fn (.func g) first cap => rc g (first ++ args.map (Opd.evT e) ++ cap) h
    | _ => none
  | .scal o => (scalT P e o).runT h
  | x => (iop P (fun _ _ => .fail) tok slot [] (x.in e)).runT h

def putTT (e : TE) (dst : Option Nat) (v : V) : TE := match dst with
  | some d => e.set d v
  | none => e
def wantedT (e : TE) : Option (Nat × Bool) → Bool
  | none => true
  | some (t, want) => match e.get t with
    | some (.bool b) => b == want
    | _ => false

def stepsT (P : Program) (rc : RcT) : List Step → TE → TH → Option (TE × TH)
  | [], e, h => some (e, h)
  | s :: ss, e, h => match wantedT e s.guard with
    | true => match iopT P rc 0 none e s.op h with
      | some (v, h1) => stepsT P rc ss (putTT e s.dst v) h1
      | none => none
    | false => stepsT P rc ss (putTT e s.dst .undef) h

def dvalT (P : Program) (rc : RcT) (tok : Nat) (e : TE) (slot : Option Nat) (g : Option (Nat × Bool)) (x : IOp) (h : TH) : Option (V × TH) := match wantedT e g with
  | true => iopT P rc tok slot e x h
  | false => some (.undef, h)

def rchecksT (P : Program) (rc : RcT) (tok : Nat) (e : TE) : List RStep → TH → Option (Unit × TH)
  | [], h => some ((), h)
  | r :: rs, h => match dvalT P rc tok e none r.guard r.op h with
    | some (v, h1) => match V.beq v ((e.get r.dst).getD .undef) with
      | true => rchecksT P rc tok e rs h1
      | false => none
    | none => none

def dstepsT (P : Program) (rc : RcT) (tok : Nat) : List DStep → TE → TH → Option (TE × TH)
  | [], e, h => some (e, h)
  | s :: ss, e, h => match dvalT P rc tok e s.slot s.guard s.op h with
    | some (v, h1) => match rchecksT P rc tok (putTT e s.dst v) s.again h1 with
      | some (_, h2) => dstepsT P rc tok ss (putTT e s.dst v) h2
      | none => none
    | none => none

def loopT (body : TE → TH → Option ((Out × TE) × TH)) : Nat → TE → TH → Option ((Out × TE) × TH)
  | 0, _, _ => none
  | k + 1, e, h => match body e h with
    | some ((.norm, e1), h1) => loopT body k e1 h1
    | r => r

def iselT (e : TE) : ISel → ISel
  | .send ch v => .send (ch.in e) (v.in e)
  | .recv ch z => .recv (ch.in e) z
def resultsT (e : TE) : List IRes → IM (List V)
  | [] => .pure []
  | .tmp t :: rs => (resultsT e rs).bind fun vs => .pure ((e.get t).getD .undef :: vs)
  | .cell t n :: rs => match (e.get t).getD .undef with
    | .ptr b o => (loadAt b o n).bind fun v => (resultsT e rs).bind fun vs => .pure (v :: vs)
    | _ => .fail

def execT (P : Program) (rc : RcT) (n : Nat) : ICode → TE → TH → Option ((Out × TE) × TH)
  | .skip, e, h => some ((.norm, e), h)
  | .region ss, e, h => match stepsT P rc ss e h with
    | some (e1, h1) => some ((.norm, e1), h1)
    | none => none
  | .draw k ss, e, h => match dstepsT P rc h.n ss e (h.pushes k) with
    | some (e1, h1) => some ((.norm, e1), h1)
    | none => none
  | .sel dst s ss, e, h => match (isel [] (iselT e s)).runT h with
    | some (v, h1) => match stepsT P rc ss (putTT e dst v) h1 with
      | some (e1, h2) => some ((.norm, e1), h2)
      | none => none
    | none => none
  | .seq a b, e, h => match execT P rc n a e h with
    | some ((.norm, e1), h1) => execT P rc n b e1 h1
    | r => r
  | .cond c a b, e, h => match c.evT e with
    | .bool true => execT P rc n a e h
    | .bool false => execT P rc n b e h
    | _ => none
  | .block id a, e, h => match execT P rc n a e h with
    | some ((.exit id', e1), h1) => match Nat.beq id' id with
      | true => some ((.norm, e1), h1)
      | false => some ((.exit id', e1), h1)
    | r => r
  | .loop a, e, h => loopT (execT P rc n a) n e h
  | .exit id, e, h => some ((.exit id, e), h)
  | .ret, e, h => some ((.ret, e), h)

def startT (n : Nat) (args : List V) : TE := (Tr.rep .undef n n).setAll 0 args

def icallT (P : Program) (code : Nat → Option IFunc) (rc : RcT) (n : Nat) (f : Nat) (args : List V) (h : TH) : Option (V × TH) := match code f with
  | none => none
  | some fn => match execT P rc n fn.body (startT (args.length + (fn.ntmps - args.length)) args) h with
    | none => none
    | some ((.exit _, _), _) => none
    | some ((_, e), h1) => ((resultsT e fn.results).bind fun vs => match vs with
      | [v] => .pure v
      | vs => .pure (.tup vs)).runT h1

def mcallT (P : Program) (code : Nat → Option IFunc) (m : Memo) : Nat → RcT
  | 0, _, _, _ => none
  | n + 1, f, args, h => match look f args m with
    | some v => some (v, h)
    | none => icallT P code (mcallT P code m n) n f args h

section
variable {P : Program} {rc : Nat → List V → IM V} {rcT : RcT}

/-- What a tree run yields, the run yields. -/
def Like {α : Type} (m : IM α) (r : TH → Option (α × TH)) : Prop := ∀ (t t' : TH) (h : Heap) (a : α), RelH t h → r t = some (a, t') → ∃ h', m.run h = some (a, h') ∧ RelH t' h'
def LikeE {β : Type} (m : IM (β × Env)) (r : TH → Option ((β × TE) × TH)) : Prop := ∀ (t t' : TH) (h : Heap) (o : β) (e : TE), RelH t h → r t = some ((o, e), t') → ∃ h' e', m.run h = some ((o, e'), h') ∧ RelH t' h' ∧ RelT e e'
def LikeS (m : IM Env) (r : TH → Option (TE × TH)) : Prop := ∀ (t t' : TH) (h : Heap) (e : TE), RelH t h → r t = some (e, t') → ∃ h' e', m.run h = some (e', h') ∧ RelH t' h' ∧ RelT e e'

theorem Like.run {α : Type} (m : IM α) : Like m m.runT := fun _ _ _ _ R e => m.runT_sound R e

theorem wantedT_eq {t : TE} {e : Env} (R : RelT t e) (g : Option (Nat × Bool)) : wantedT t g = wantedI e g := by
  cases g
  · rfl
  · simp only [wantedT, wantedI, R _]
    rfl
theorem putTT_rel {t : TE} {e : Env} (R : RelT t e) (d : Option Nat) (v : V) : RelT (putTT t d v) (putT e d v) := by
  cases d
  · exact R
  · exact R.set _ _

theorem iopT_like (hrc : ∀ f a, Like (rc f a) (rcT f a)) {te : TE} {e : Env} (R : RelT te e) (tok : Nat) (slot : Option Nat) (x : IOp) : Like (iop P rc tok slot e x) (iopT P rcT tok slot te x) := by
  have hm : ∀ l : List Opd, l.map (Opd.evT te) = l.map (Opd.ev e) := fun l => List.map_congr_left fun x _ => evT_eq R x
  by_cases hl : x.low = true
  · have : iopT P rcT tok slot te x = (iop P rc tok slot e x).runT := by
      rw [← iop_in R rc tok slot x hl]
      cases x <;> first
        | (simp [IOp.low] at hl; done)
        | rfl
    rw [this]; exact Like.run _
  · cases x <;> first
      | (simp [IOp.low] at hl; done)
      | skip
    case scal o =>
      have : iopT P rcT tok slot te (.scal o) = (iop P rc tok slot e (.scal o)).runT := by
        rw [← scalT_eq R rc tok slot o]; rfl
      rw [this]; exact Like.run _
    case call f args =>
      have : iopT P rcT tok slot te (.call f args) = rcT f (args.map (Opd.ev e)) := by
        funext h; simp only [iopT, hm]
      rw [this]; exact hrc _ _
    case callV f args =>
      intro t t' h a RH hr
      simp only [iopT, evT_eq R, hm] at hr
      simp only [iop]
      split at hr
      · rename_i g first cap hf
        simp only [hf]
        exact hrc _ _ _ _ _ _ RH hr
      · cases hr

theorem stepsT_like (hrc : ∀ f a, Like (rc f a) (rcT f a)) : ∀ (ss : List Step) {te : TE} {e : Env}, RelT te e → LikeS (steps P rc ss e) (stepsT P rcT ss te)
  | [], te, e, R => by
    intro t t' h e1 RH hr
    simp only [stepsT, Option.some.injEq, Prod.mk.injEq] at hr
    obtain ⟨rfl, rfl⟩ := hr
    exact ⟨h, e, rfl, RH, R⟩
  | s :: ss, te, e, R => by
    intro t t' h e1 RH hr
    simp only [stepsT, wantedT_eq R] at hr
    simp only [steps]
    cases hw : wantedI e s.guard
    · simp only [hw] at hr
      simp only [Bool.false_eq_true, if_false]
      exact stepsT_like hrc ss (putTT_rel R _ _) _ _ _ _ RH hr
    · simp only [hw] at hr
      simp only [if_true, IM.run_bind]
      cases hi : iopT P rcT 0 none te s.op t with
      | none => simp only [hi] at hr; cases hr
      | some p =>
        obtain ⟨v, h1⟩ := p
        simp only [hi] at hr
        obtain ⟨h2, q1, q2⟩ := iopT_like hrc R 0 none s.op _ _ _ _ RH hi
        simp only [q1, Option.bind_some]
        exact stepsT_like hrc ss (putTT_rel R _ _) _ _ _ _ q2 hr

theorem dvalT_like (hrc : ∀ f a, Like (rc f a) (rcT f a)) {te : TE} {e : Env} (R : RelT te e) (tok : Nat) (slot : Option Nat) (g : Option (Nat × Bool)) (x : IOp) : Like (dval P rc tok e slot g x) (dvalT P rcT tok te slot g x) := by
  intro t t' h a RH hr
  simp only [dvalT, wantedT_eq R] at hr
  simp only [dval]
  cases hw : wantedI e g
  · simp only [hw, Option.some.injEq, Prod.mk.injEq] at hr
    obtain ⟨rfl, rfl⟩ := hr
    exact ⟨h, rfl, RH⟩
  · simp only [hw] at hr
    exact iopT_like hrc R tok slot x _ _ _ _ RH hr

theorem rchecksT_like (hrc : ∀ f a, Like (rc f a) (rcT f a)) (tok : Nat) {te : TE} {e : Env} (R : RelT te e) : ∀ (rs : List RStep), Like (rchecks P rc tok e rs) (rchecksT P rcT tok te rs)
  | [] => by
    intro t t' h a RH hr
    simp only [rchecksT, Option.some.injEq, Prod.mk.injEq] at hr
    obtain ⟨-, rfl⟩ := hr
    exact ⟨h, rfl, RH⟩
  | r :: rs => by
    intro t t' h a RH hr
    simp only [rchecksT] at hr
    simp only [rchecks, IM.run_bind]
    cases hi : dvalT P rcT tok te none r.guard r.op t with
    | none => simp only [hi] at hr; cases hr
    | some p =>
      obtain ⟨v, h1⟩ := p
      simp only [hi] at hr
      obtain ⟨h2, q1, q2⟩ := dvalT_like hrc R tok none r.guard r.op _ _ _ _ RH hi
      have hg : (te.get r.dst).getD .undef = e.getD r.dst .undef := by rw [R _]; simp
      rw [hg] at hr
      simp only [q1, Option.bind_some]
      cases hb : V.beq v (e.getD r.dst .undef)
      · simp only [hb] at hr; cases hr
      · simp only [hb] at hr
        simp only [if_true]
        exact rchecksT_like hrc tok R rs _ _ _ _ q2 hr

theorem dstepsT_like (hrc : ∀ f a, Like (rc f a) (rcT f a)) (tok : Nat) : ∀ (ss : List DStep) {te : TE} {e : Env}, RelT te e → LikeS (dsteps P rc tok ss e) (dstepsT P rcT tok ss te)
  | [], te, e, R => by
    intro t t' h e1 RH hr
    simp only [dstepsT, Option.some.injEq, Prod.mk.injEq] at hr
    obtain ⟨rfl, rfl⟩ := hr
    exact ⟨h, e, rfl, RH, R⟩
  | s :: ss, te, e, R => by
    intro t t' h e1 RH hr
    simp only [dstepsT] at hr
    simp only [dsteps, IM.run_bind]
    cases hi : dvalT P rcT tok te s.slot s.guard s.op t with
    | none => simp only [hi] at hr; cases hr
    | some p =>
      obtain ⟨v, h1⟩ := p
      simp only [hi] at hr
      obtain ⟨h2, q1, q2⟩ := dvalT_like hrc R tok s.slot s.guard s.op _ _ _ _ RH hi
      simp only [q1, Option.bind_some]
      cases hc : rchecksT P rcT tok (putTT te s.dst v) s.again h1 with
      | none => simp only [hc] at hr; cases hr
      | some p =>
        obtain ⟨u, h3⟩ := p
        simp only [hc] at hr
        obtain ⟨h4, q3, q4⟩ := rchecksT_like hrc tok (putTT_rel R s.dst v) s.again _ _ _ _ q2 hc
        simp only [q3, Option.bind_some]
        exact dstepsT_like hrc tok ss (putTT_rel R _ _) _ _ _ _ q4 hr

theorem loopT_like {body : Env → IM (Out × Env)} {bodyT : TE → TH → Option ((Out × TE) × TH)} (hb : ∀ {te e}, RelT te e → LikeE (body e) (bodyT te)) : ∀ (k : Nat) {te : TE} {e : Env}, RelT te e → LikeE (loopN body k e) (loopT bodyT k te)
  | 0, te, e, R => by intro t t' h o e1 RH hr; cases hr
  | k + 1, te, e, R => by
    intro t t' h o e1 RH hr
    simp only [loopT] at hr
    simp only [loopN, IM.run_bind]
    cases hi : bodyT te t with
    | none => simp only [hi] at hr; cases hr
    | some p =>
      obtain ⟨⟨o1, e2⟩, h1⟩ := p
      simp only [hi] at hr
      obtain ⟨h2, e3, q1, q2, q3⟩ := hb R _ _ _ _ _ RH hi
      simp only [q1, Option.bind_some]
      cases o1
      · exact loopT_like hb k q3 _ _ _ _ _ q2 hr
      · simp only [Option.some.injEq, Prod.mk.injEq] at hr
        obtain ⟨⟨rfl, rfl⟩, rfl⟩ := hr
        exact ⟨h2, e3, rfl, q2, q3⟩
      · simp only [Option.some.injEq, Prod.mk.injEq] at hr
        obtain ⟨⟨rfl, rfl⟩, rfl⟩ := hr
        exact ⟨h2, e3, rfl, q2, q3⟩

theorem isel_in {t : TE} {e : Env} (R : RelT t e) (s : ISel) : isel [] (iselT t s) = isel e s := by
  cases s <;> simp only [iselT, isel, ev_nil, evT_eq R]
theorem resultsT_eq {t : TE} {e : Env} (R : RelT t e) : ∀ (rs : List IRes), resultsT t rs = resultsOf e rs
  | [] => rfl
  | .tmp i :: rs => by
    have hg : (t.get i).getD .undef = e.getD i .undef := by rw [R _]; simp
    simp only [resultsT, resultsOf, resultsT_eq R rs, hg]
  | .cell i n :: rs => by
    have hg : (t.get i).getD .undef = e.getD i .undef := by rw [R _]; simp
    simp only [resultsT, resultsOf, resultsT_eq R rs, hg]
    rfl

theorem execT_like (hrc : ∀ f a, Like (rc f a) (rcT f a)) (n : Nat) : ∀ (c : ICode) {te : TE} {e : Env}, RelT te e → LikeE (exec P rc n c e) (execT P rcT n c te) := by
  intro c
  induction c with
  | skip => intro te e R t t' h o e1 RH hr; simp only [execT, Option.some.injEq, Prod.mk.injEq] at hr; obtain ⟨⟨rfl, rfl⟩, rfl⟩ := hr; exact ⟨h, e, rfl, RH, R⟩
  | exit id => intro te e R t t' h o e1 RH hr; simp only [execT, Option.some.injEq, Prod.mk.injEq] at hr; obtain ⟨⟨rfl, rfl⟩, rfl⟩ := hr; exact ⟨h, e, rfl, RH, R⟩
  | ret => intro te e R t t' h o e1 RH hr; simp only [execT, Option.some.injEq, Prod.mk.injEq] at hr; obtain ⟨⟨rfl, rfl⟩, rfl⟩ := hr; exact ⟨h, e, rfl, RH, R⟩
  | region ss =>
    intro te e R t t' h o e1 RH hr
    simp only [execT] at hr
    simp only [exec, IM.run_bind]
    cases hi : stepsT P rcT ss te t with
    | none => simp only [hi] at hr; cases hr
    | some p =>
      obtain ⟨e2, h1⟩ := p
      simp only [hi, Option.some.injEq, Prod.mk.injEq] at hr
      obtain ⟨⟨rfl, rfl⟩, rfl⟩ := hr
      obtain ⟨h2, e3, q1, q2, q3⟩ := stepsT_like hrc ss R _ _ _ _ RH hi
      exact ⟨h2, e3, by simp only [q1, Option.bind_some]; rfl, q2, q3⟩
  | draw k ss =>
    intro te e R t t' h o e1 RH hr
    simp only [execT] at hr
    simp only [exec, IM.run, IM.run_bind]
    rw [RH.1] at hr
    cases hi : dstepsT P rcT h.length ss te (t.pushes k) with
    | none => simp only [hi] at hr; cases hr
    | some p =>
      obtain ⟨e2, h1⟩ := p
      simp only [hi, Option.some.injEq, Prod.mk.injEq] at hr
      obtain ⟨⟨rfl, rfl⟩, rfl⟩ := hr
      obtain ⟨h2, e3, q1, q2, q3⟩ := dstepsT_like hrc h.length ss R _ _ _ _ (RH.pushes k) hi
      exact ⟨h2, e3, by simp only [q1, Option.bind_some], q2, q3⟩
  | sel dst s ss =>
    intro te e R t t' h o e1 RH hr
    simp only [execT, isel_in R] at hr
    simp only [exec, IM.run_bind]
    cases hi : (isel e s).runT t with
    | none => simp only [hi] at hr; cases hr
    | some p =>
      obtain ⟨v, h1⟩ := p
      simp only [hi] at hr
      obtain ⟨h2, q1, q2⟩ := IM.runT_sound _ RH hi
      simp only [q1, Option.bind_some]
      cases hj : stepsT P rcT ss (putTT te dst v) h1 with
      | none => simp only [hj] at hr; cases hr
      | some p =>
        obtain ⟨e2, h3⟩ := p
        simp only [hj, Option.some.injEq, Prod.mk.injEq] at hr
        obtain ⟨⟨rfl, rfl⟩, rfl⟩ := hr
        obtain ⟨h4, e3, q3, q4, q5⟩ := stepsT_like hrc ss (putTT_rel R dst v) _ _ _ _ q2 hj
        exact ⟨h4, e3, by simp only [q3, Option.bind_some]; rfl, q4, q5⟩
  | seq a b iha ihb =>
    intro te e R t t' h o e1 RH hr
    simp only [execT] at hr
    simp only [exec, IM.run_bind]
    cases hi : execT P rcT n a te t with
    | none => simp only [hi] at hr; cases hr
    | some p =>
      obtain ⟨⟨o1, e2⟩, h1⟩ := p
      simp only [hi] at hr
      obtain ⟨h2, e3, q1, q2, q3⟩ := iha R _ _ _ _ _ RH hi
      simp only [q1, Option.bind_some]
      cases o1
      · exact ihb q3 _ _ _ _ _ q2 hr
      · simp only [Option.some.injEq, Prod.mk.injEq] at hr
        obtain ⟨⟨rfl, rfl⟩, rfl⟩ := hr
        exact ⟨h2, e3, rfl, q2, q3⟩
      · simp only [Option.some.injEq, Prod.mk.injEq] at hr
        obtain ⟨⟨rfl, rfl⟩, rfl⟩ := hr
        exact ⟨h2, e3, rfl, q2, q3⟩
  | cond c a b iha ihb =>
    intro te e R t t' h o e1 RH hr
    simp only [execT, evT_eq R] at hr
    simp only [exec]
    split at hr
    · rename_i hc; simp only [hc]; exact iha R _ _ _ _ _ RH hr
    · rename_i hc; simp only [hc]; exact ihb R _ _ _ _ _ RH hr
    · cases hr
  | block id a iha =>
    intro te e R t t' h o e1 RH hr
    simp only [execT] at hr
    simp only [exec, IM.run_bind]
    cases hi : execT P rcT n a te t with
    | none => simp only [hi] at hr; cases hr
    | some p =>
      obtain ⟨⟨o1, e2⟩, h1⟩ := p
      simp only [hi] at hr
      obtain ⟨h2, e3, q1, q2, q3⟩ := iha R _ _ _ _ _ RH hi
      simp only [q1, Option.bind_some]
      cases o1
      · simp only [Option.some.injEq, Prod.mk.injEq] at hr
        obtain ⟨⟨rfl, rfl⟩, rfl⟩ := hr
        exact ⟨h2, e3, rfl, q2, q3⟩
      · rename_i id'
        simp only at hr
        cases hb : Nat.beq id' id
        · have := Nat.ne_of_beq_eq_false hb
          simp only [hb, Option.some.injEq, Prod.mk.injEq] at hr
          obtain ⟨⟨rfl, rfl⟩, rfl⟩ := hr
          exact ⟨h2, e3, by simp only [this, if_false]; rfl, q2, q3⟩
        · have := Nat.eq_of_beq_eq_true hb
          simp only [hb, Option.some.injEq, Prod.mk.injEq] at hr
          obtain ⟨⟨rfl, rfl⟩, rfl⟩ := hr
          exact ⟨h2, e3, by simp only [this, if_true]; rfl, q2, q3⟩
      · simp only [Option.some.injEq, Prod.mk.injEq] at hr
        obtain ⟨⟨rfl, rfl⟩, rfl⟩ := hr
        exact ⟨h2, e3, rfl, q2, q3⟩
  | loop a iha =>
    intro te e R
    simp only [execT, exec]
    exact loopT_like (fun R => iha R) n R

theorem startT_rel (n : Nat) (args : List V) : RelT (startT (args.length + n) args) (args ++ List.replicate n .undef) := by
  have := RelT.setAll args 0 (RelT.rep V.undef (args.length + n)) (by simp)
  simpa [startT, List.drop_replicate] using this

theorem icallT_like {code : Nat → Option IFunc} (hrc : ∀ f a, Like (rc f a) (rcT f a)) (n f : Nat) (args : List V) : Like (icallB P code rc n f args) (icallT P code rcT n f args) := by
  intro t t' h v RH hr
  unfold icallT at hr
  unfold icallB
  cases hc : code f with
  | none => simp only [hc] at hr; cases hr
  | some fn =>
    simp only [hc] at hr
    simp only [IM.run_bind]
    cases hi : execT P rcT n fn.body (startT (args.length + (fn.ntmps - args.length)) args) t with
    | none => simp only [hi] at hr; cases hr
    | some p =>
      obtain ⟨⟨o1, e2⟩, h1⟩ := p
      simp only [hi] at hr
      obtain ⟨h2, e3, q1, q2, q3⟩ := execT_like hrc n fn.body (startT_rel _ args) _ _ _ _ _ RH hi
      simp only [q1, Option.bind_some]
      cases o1
      · simp only [resultsT_eq q3] at hr
        exact IM.runT_sound _ q2 hr
      · cases hr
      · simp only [resultsT_eq q3] at hr
        exact IM.runT_sound _ q2 hr

theorem mcallT_like {code : Nat → Option IFunc} {m : Memo} : ∀ (n f : Nat) (args : List V), Like (mcall P code m n f args) (mcallT P code m n f args)
  | 0, f, args => by intro t t' h v RH hr; cases hr
  | n + 1, f, args => by
    intro t t' h v RH hr
    simp only [mcallT] at hr
    simp only [mcall]
    cases hl : look f args m with
    | some u =>
      simp only [hl, Option.some.injEq, Prod.mk.injEq] at hr
      obtain ⟨rfl, rfl⟩ := hr
      exact ⟨h, rfl, RH⟩
    | none =>
      simp only [hl] at hr
      exact icallT_like (mcallT_like n) n f args _ _ _ _ RH hr
end
end
end Go.Ideal
