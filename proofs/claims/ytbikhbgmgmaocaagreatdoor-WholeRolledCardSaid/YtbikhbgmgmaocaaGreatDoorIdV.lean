/-
  The ideal machine, part 1: values, blocks, heaps; computations as trees over a heap; the frame law. Conditions: none (definitions and lemmas).
-/
import GoSem.Step
namespace Go.Ideal

/-- Values of the ideal machine. Blocks are numbered; a pointer is a block and a cell in it; a slice bears its element's cells, its length, a capacity, and whether there may be more. -/
inductive V where
  | bool (b : Bool)
  | int (k : IntKind) (n : Int)
  | str (s : ByteArray)
  | nil
  | ptr (b o : Nat)
  | nilSlice
  | slice (b o sz len cap : Nat) (more : Bool)
  | nilMap
  | map (b : Nat)
  | nilChan
  | chan (b : Nat)
  | nilFn
  | fn (f : Fn) (first cap : List V)
  | agg (cs : List V)
  | tup (vs : List V)
  deriving Inhabited

def V.undef : V := .tup []

/-- The cells of a value. -/
def V.cells : V → List V
  | .agg cs => cs
  | v => [v]

/-- May it lie in one cell? -/
def V.one : V → Bool
  | .agg _ | .tup _ => false
  | _ => true

/-- What a block holds. 'own': it may be written. -/
inductive Blk where
  | cells (own : Bool) (cs : List V)
  | dead
  | map (es : List (V × V × Nat)) (clock : Nat)
  | iter (m : Option Nat) (since : Nat) (seen : List Nat) (stepped : Nat)
  | chan (cap : Nat) (buf : List V)
  deriving Inhabited

abbrev Heap := List (Option Blk)

/-- A computation over a heap. -/
inductive IM (α : Type) : Type where
  | pure (a : α)
  | get (b : Nat) (k : Blk → IM α)
  | set (b : Nat) (x : Blk) (k : IM α)
  | alloc (x : Blk) (k : Nat → IM α)
  | reserve (n : Nat) (k : Nat → IM α)
  | fill (b : Nat) (x : Blk) (k : IM α)
  | fail

namespace IM
variable {α β γ : Type}

def bind : IM α → (α → IM β) → IM β
  | .pure a, f => f a
  | .get b k, f => .get b fun x => (k x).bind f
  | .set b x k, f => .set b x (k.bind f)
  | .alloc x k, f => .alloc x fun n => (k n).bind f
  | .reserve m k, f => .reserve m fun n => (k n).bind f
  | .fill b x k, f => .fill b x (k.bind f)
  | .fail, _ => .fail

instance : Monad IM where
  pure := IM.pure
  bind := IM.bind

def getB (b : Nat) : IM Blk := .get b .pure
def setB (b : Nat) (x : Blk) : IM Unit := .set b x (.pure ())
def allocB (x : Blk) : IM Nat := .alloc x .pure
def lift : Option α → IM α
  | some a => .pure a
  | none => .fail
def guard (c : Bool) : IM Unit := if c then .pure () else .fail

/-- The run. -/
def run : IM α → Heap → Option (α × Heap)
  | .pure a, h => some (a, h)
  | .get b k, h => match h[b]? with
    | some (some x) => (k x).run h
    | _ => none
  | .set b x k, h => match h[b]? with
    | some (some _) => k.run (h.set b (some x))
    | _ => none
  | .alloc x k, h => (k h.length).run (h ++ [some x])
  | .reserve n k, h => (k h.length).run (h ++ List.replicate n none)
  | .fill b x k, h => match h[b]? with
    | some none => k.run (h.set b (some x))
    | _ => none
  | .fail, _ => none

@[simp] theorem pure_def (a : α) : (Pure.pure a : IM α) = .pure a := rfl
@[simp] theorem bind_def (m : IM α) (f : α → IM β) : (m >>= f) = m.bind f := rfl
@[simp] theorem run_pure (a : α) (h : Heap) : (IM.pure a).run h = some (a, h) := rfl
@[simp] theorem run_fail (h : Heap) : (IM.fail : IM α).run h = none := rfl

theorem run_bind (m : IM α) (f : α → IM β) (h : Heap) :
    (m.bind f).run h = (m.run h).bind fun p => (f p.1).run p.2 := by
  induction m generalizing h with
  | pure a => rfl
  | get b k ih => simp only [bind, run]; split <;> simp_all
  | set b x k ih => simp only [bind, run]; split <;> simp_all
  | alloc x k ih => simp only [bind, run]; exact ih _ _
  | reserve n k ih => simp only [bind, run]; exact ih _ _
  | fill b x k ih => simp only [bind, run]; split <;> simp_all
  | fail => rfl

theorem run_bind_some {m : IM α} {f : α → IM β} {h h' : Heap} {b : β} (e : (m.bind f).run h = some (b, h')) :
    ∃ a h1, m.run h = some (a, h1) ∧ (f a).run h1 = some (b, h') := by
  rw [run_bind] at e
  cases hm : m.run h with
  | none => rw [hm] at e; cases e
  | some p => rw [hm] at e; exact ⟨p.1, p.2, rfl, e⟩

/-! ### The frame: what more the heap holds in places that were empty, and stay empty, changes nothing -/

/-- h, and in its empty places what X has. -/
def over (h X : Heap) : Heap := h.mapIdx fun i b => match b with
  | some x => some x
  | none => (X[i]?).join

theorem over_length (h X : Heap) : (over h X).length = h.length := by simp [over]
theorem over_get (h X : Heap) (i : Nat) : (over h X)[i]? = (h[i]?).map fun b => match b with
    | some x => some x
    | none => (X[i]?).join := by simp [over]
theorem over_some {h X : Heap} {i : Nat} {x : Blk} (e : h[i]? = some (some x)) : (over h X)[i]? = some (some x) := by simp [over_get, e]
theorem over_none {h X : Heap} {i : Nat} (e : h[i]? = some none) : (over h X)[i]? = some (X[i]?).join := by simp [over_get, e]

/-- X has nothing where h has something. -/
def Apart (h X : Heap) : Prop := ∀ (i : Nat) (x : Blk), h[i]? = some (some x) → (X[i]?).join = none
/-- X speaks of no places from n on. -/
def Within (n : Nat) (X : Heap) : Prop := ∀ (i : Nat), n ≤ i → (X[i]?).join = none

theorem over_set {h X : Heap} {b : Nat} {x : Blk} : over (h.set b (some x)) X = (over h X).set b (some x) := by
  apply List.ext_getElem?
  intro i
  rw [over_get, List.getElem?_set, List.getElem?_set, over_length, over_get]
  by_cases e : b = i
  · subst e
    by_cases hl : b < h.length <;> simp [hl]
  · simp [e]

theorem over_append {h X : Heap} {l : Heap} (hX : Within h.length X) : over (h ++ l) X = over h X ++ l := by
  apply List.ext_getElem?
  intro i
  rw [over_get]
  by_cases hi : i < h.length
  · rw [List.getElem?_append_left hi, List.getElem?_append_left (by rw [over_length]; exact hi), over_get]
  · rw [List.getElem?_append_right (by omega), List.getElem?_append_right (by rw [over_length]; omega), over_length]
    cases hl : l[i - h.length]? with
    | none => rfl
    | some b => cases b with
      | some x => rfl
      | none => simp [hX i (by omega)]

/-- Places never empty again, and never fewer. -/
theorem run_grows {m : IM α} : ∀ {h h' : Heap} {a : α}, m.run h = some (a, h') →
    h.length ≤ h'.length ∧ ∀ (i : Nat) (x : Blk), h[i]? = some (some x) → ∃ y : Blk, h'[i]? = some (some y) := by
  induction m with
  | pure a => intro h h' a' e; simp only [run, Option.some.injEq, Prod.mk.injEq] at e; obtain ⟨_, rfl⟩ := e; exact ⟨Nat.le_refl _, fun i x hx => ⟨x, hx⟩⟩
  | get b k ih => intro h h' a' e; simp only [run] at e; split at e
                  · exact ih _ e
                  · cases e
  | set b x k ih =>
    intro h h' a' e; simp only [run] at e; split at e
    · obtain ⟨h1, h2⟩ := ih e
      refine ⟨by simpa using h1, fun i y hy => ?_⟩
      by_cases hb : b = i
      · subst hb
        have hlt : b < h.length := by
          rcases Nat.lt_or_ge b h.length with h3 | h3
          · exact h3
          · rw [List.getElem?_eq_none h3] at hy; cases hy
        exact h2 b x (by simp [hlt])
      · exact h2 i y (by simp [hb, hy])
    · cases e
  | alloc x k ih =>
    intro h h' a' e; simp only [run] at e
    obtain ⟨h1, h2⟩ := ih _ e
    refine ⟨by simp at h1; omega, fun i y hy => h2 i y ?_⟩
    have hlt : i < h.length := by
      rcases Nat.lt_or_ge i h.length with h3 | h3
      · exact h3
      · rw [List.getElem?_eq_none h3] at hy; cases hy
    rw [List.getElem?_append_left hlt]; exact hy
  | reserve n k ih =>
    intro h h' a' e; simp only [run] at e
    obtain ⟨h1, h2⟩ := ih _ e
    refine ⟨by simp at h1; omega, fun i y hy => h2 i y ?_⟩
    have hlt : i < h.length := by
      rcases Nat.lt_or_ge i h.length with h3 | h3
      · exact h3
      · rw [List.getElem?_eq_none h3] at hy; cases hy
    rw [List.getElem?_append_left hlt]; exact hy
  | fill b x k ih =>
    intro h h' a' e; simp only [run] at e; split at e
    · rename_i hb0
      obtain ⟨h1, h2⟩ := ih e
      refine ⟨by simpa using h1, fun i y hy => ?_⟩
      by_cases hb : b = i
      · subst hb; rw [hb0] at hy; cases hy
      · exact h2 i y (by simp [hb, hy])
    · cases e
  | fail => intro h h' a' e; cases e

/-- **The frame law.** -/
theorem run_over {m : IM α} {X : Heap} : ∀ {h h' : Heap} {a : α}, m.run h = some (a, h') → Within h.length X → Apart h' X →
    m.run (over h X) = some (a, over h' X) := by
  induction m with
  | pure a => intro h h' a' e _ _; simp only [run, Option.some.injEq, Prod.mk.injEq] at e; obtain ⟨rfl, rfl⟩ := e; rfl
  | get b k ih =>
    intro h h' a' e hw ha; simp only [run] at e; split at e
    · rename_i x hx
      simp only [run, over_some hx]; exact ih _ e hw ha
    · cases e
  | set b x k ih =>
    intro h h' a' e hw ha; simp only [run] at e; split at e
    · rename_i y hy
      simp only [run, over_some hy]; rw [← over_set]; exact ih e (by simpa using hw) ha
    · cases e
  | alloc x k ih =>
    intro h h' a' e hw ha; simp only [run] at e
    simp only [run]
    rw [over_length, ← over_append hw]
    exact ih _ e (fun i hi => hw i (by simp at hi; omega)) ha
  | reserve n k ih =>
    intro h h' a' e hw ha; simp only [run] at e
    simp only [run]
    rw [over_length, ← over_append hw]
    exact ih _ e (fun i hi => hw i (by simp at hi; omega)) ha
  | fill b x k ih =>
    intro h h' a' e hw ha; simp only [run] at e; split at e
    · rename_i hb0
      have hlt : b < h.length := by
        rcases Nat.lt_or_ge b h.length with h3 | h3
        · exact h3
        · rw [List.getElem?_eq_none h3] at hb0; cases hb0
      obtain ⟨y, hy⟩ := (run_grows e).2 b x (by simp [hlt])
      simp only [run, over_none hb0, ha b y hy]; rw [← over_set]; exact ih e (by simpa using hw) ha
    · cases e
  | fail => intro h h' a' e; cases e

end IM
end Go.Ideal
