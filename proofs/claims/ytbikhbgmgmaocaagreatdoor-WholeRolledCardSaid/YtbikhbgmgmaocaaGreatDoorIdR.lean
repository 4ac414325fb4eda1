/-
  The ideal machine, part 4: how its values and heap stand to the model's. Conditions: none (definitions and lemmas).
-/
import Derived.Test.YtbikhbgmgmaocaaGreatDoorIdE
import Derived.Below
namespace Go.Ideal
open Go.RowKit

/-- Where a block lies: a row of cells 'off .. off + len' of a block of the model, up to 'off + ext' its own. -/
structure Loc where
  blk : Nat
  off : Nat
  len : Nat
  ext : Nat

abbrev LMap := Nat → Option Loc

mutual
def VRel (ρ : LMap) : V → Value → Prop
  | .bool b, u => u = .bool b
  | .int k n, u => u = .int k n
  | .str s, u => u = .string s
  | .nil, u => u = .pointer none
  | .ptr b o, u => ∃ l, ρ b = some l ∧ u = .pointer (some ⟨l.blk, l.off + o, none⟩)
  | .nilSlice, u => u = .slice none 0 0
  | .slice b o sz n c more, u => ∃ l a m, ρ b = some l ∧ u = .slice (some a) n m ∧ n ≤ c ∧ c ≤ m ∧ o + c * sz ≤ l.len ∧ o + m * sz ≤ l.ext ∧
      (more = false → m = c) ∧ (a = ⟨l.blk, l.off + o, none⟩ ∨ m = 0)
  | .nilMap, u => u = .map none
  | .map b, u => ∃ l, ρ b = some l ∧ u = .map (some l.blk)
  | .nilChan, u => u = .chan none
  | .chan b, u => ∃ l, ρ b = some l ∧ u = .chan (some l.blk)
  | .nilFn, u => u = .nilFunc
  | .fn f first cap, u => ∃ us ws, u = .func f us ws ∧ VRelL ρ first us.toList ∧ VRelL ρ cap ws.toList
  | .agg cs, u => ∃ us, u = .agg us ∧ VRelL ρ cs us.toList
  | .tup cs, u => ∃ us, u = .tuple us ∧ VRelL ρ cs us.toList
def VRelL (ρ : LMap) : List V → List Value → Prop
  | [], us => us = []
  | v :: vs, us => ∃ u us', us = u :: us' ∧ VRel ρ v u ∧ VRelL ρ vs us'
end

theorem VRelL_nil {ρ : LMap} {us : List Value} : VRelL ρ [] us ↔ us = [] := by simp [VRelL]
theorem VRelL_cons {ρ : LMap} {v : V} {vs : List V} {us : List Value} : VRelL ρ (v :: vs) us ↔ ∃ u us', us = u :: us' ∧ VRel ρ v u ∧ VRelL ρ vs us' := by simp [VRelL]
theorem VRelL_cons' {ρ : LMap} {v : V} {vs : List V} {u : Value} {us : List Value} : VRelL ρ (v :: vs) (u :: us) ↔ VRel ρ v u ∧ VRelL ρ vs us := by
  rw [VRelL_cons]; constructor
  · rintro ⟨u', us', h, h1, h2⟩; obtain ⟨rfl, rfl⟩ := List.cons.inj h; exact ⟨h1, h2⟩
  · rintro ⟨h1, h2⟩; exact ⟨u, us, rfl, h1, h2⟩

theorem VRelL_length {ρ : LMap} : ∀ {vs : List V} {us : List Value}, VRelL ρ vs us → vs.length = us.length
  | [], us, h => by rw [VRelL_nil] at h; subst h; rfl
  | v :: vs, us, h => by rw [VRelL_cons] at h; obtain ⟨u, us', rfl, _, h2⟩ := h; simp [VRelL_length h2]

theorem VRelL_get {ρ : LMap} : ∀ {vs : List V} {us : List Value}, VRelL ρ vs us → ∀ (i : Nat) (v : V), vs[i]? = some v → ∃ u, us[i]? = some u ∧ VRel ρ v u
  | [], us, h, i, v, hi => by simp at hi
  | w :: vs, us, h, i, v, hi => by
    rw [VRelL_cons] at h; obtain ⟨u, us', rfl, h1, h2⟩ := h
    cases i with
    | zero => simp at hi; subst hi; exact ⟨u, by simp, h1⟩
    | succ i => simp at hi; simpa using VRelL_get h2 i v hi

theorem VRelL_of_get {ρ : LMap} : ∀ {vs : List V} {us : List Value}, vs.length = us.length → (∀ (i : Nat) (v : V), vs[i]? = some v → ∃ u, us[i]? = some u ∧ VRel ρ v u) → VRelL ρ vs us
  | [], us, h, _ => by rw [VRelL_nil]; exact List.length_eq_zero_iff.1 h.symm
  | v :: vs, [], h, _ => by simp at h
  | v :: vs, u :: us, h, g => by
    rw [VRelL_cons']
    refine ⟨?_, VRelL_of_get (by simpa using h) fun i w hw => by simpa using g (i + 1) w (by simpa using hw)⟩
    obtain ⟨u', h1, h2⟩ := g 0 v (by simp)
    simp at h1; subst h1; exact h2

theorem VRelL_append {ρ : LMap} : ∀ {vs ws : List V} {us xs : List Value}, VRelL ρ vs us → VRelL ρ ws xs → VRelL ρ (vs ++ ws) (us ++ xs)
  | [], ws, us, xs, h, g => by rw [VRelL_nil] at h; subst h; exact g
  | v :: vs, ws, us, xs, h, g => by
    rw [VRelL_cons] at h; obtain ⟨u, us', rfl, h1, h2⟩ := h
    exact VRelL_cons'.2 ⟨h1, VRelL_append h2 g⟩

theorem VRelL_take {ρ : LMap} : ∀ {vs : List V} {us : List Value} (n : Nat), VRelL ρ vs us → VRelL ρ (vs.take n) (us.take n)
  | [], us, n, h => by rw [VRelL_nil] at h; subst h; simp [VRelL_nil]
  | v :: vs, us, 0, h => by simp [VRelL_nil]
  | v :: vs, us, n + 1, h => by
    rw [VRelL_cons] at h; obtain ⟨u, us', rfl, h1, h2⟩ := h
    exact VRelL_cons'.2 ⟨h1, VRelL_take n h2⟩

theorem VRelL_drop {ρ : LMap} : ∀ {vs : List V} {us : List Value} (n : Nat), VRelL ρ vs us → VRelL ρ (vs.drop n) (us.drop n)
  | [], us, n, h => by rw [VRelL_nil] at h; subst h; simp [VRelL_nil]
  | v :: vs, us, 0, h => by simpa using h
  | v :: vs, us, n + 1, h => by
    rw [VRelL_cons] at h; obtain ⟨u, us', rfl, h1, h2⟩ := h
    simpa using VRelL_drop n h2

theorem VRelL_set {ρ : LMap} {v : V} {u : Value} (hv : VRel ρ v u) : ∀ {vs : List V} {us : List Value} (n : Nat), VRelL ρ vs us → VRelL ρ (vs.set n v) (us.set n u)
  | [], us, n, h => by rw [VRelL_nil] at h; subst h; simp [VRelL_nil]
  | w :: vs, us, 0, h => by
    rw [VRelL_cons] at h; obtain ⟨u', us', rfl, h1, h2⟩ := h
    simpa using VRelL_cons'.2 ⟨hv, h2⟩
  | w :: vs, us, n + 1, h => by
    rw [VRelL_cons] at h; obtain ⟨u', us', rfl, h1, h2⟩ := h
    simpa using VRelL_cons'.2 ⟨h1, VRelL_set hv n h2⟩

theorem VRelL_replicate {ρ : LMap} {v : V} {u : Value} (hv : VRel ρ v u) : ∀ (n : Nat), VRelL ρ (List.replicate n v) (List.replicate n u)
  | 0 => by simp [VRelL_nil]
  | n + 1 => by rw [List.replicate_succ, List.replicate_succ]; exact VRelL_cons'.2 ⟨hv, VRelL_replicate hv n⟩

/-- More blocks have found their place. -/
def Ext (ρ ρ' : LMap) : Prop := ∀ i l, ρ i = some l → ρ' i = some l
theorem Ext.refl (ρ : LMap) : Ext ρ ρ := fun _ _ h => h
theorem Ext.trans {a b c : LMap} (h : Ext a b) (g : Ext b c) : Ext a c := fun i l e => g i l (h i l e)

mutual
theorem VRel.ext {ρ ρ' : LMap} (h : Ext ρ ρ') : ∀ (v : V) {u : Value}, VRel ρ v u → VRel ρ' v u
  | .bool b, _, e => by simpa [VRel] using e
  | .int k n, _, e => by simpa [VRel] using e
  | .str s, _, e => by simpa [VRel] using e
  | .nil, _, e => by simpa [VRel] using e
  | .nilSlice, _, e => by simpa [VRel] using e
  | .nilMap, _, e => by simpa [VRel] using e
  | .nilChan, _, e => by simpa [VRel] using e
  | .nilFn, _, e => by simpa [VRel] using e
  | .ptr b o, _, e => by
    simp only [VRel] at e ⊢
    obtain ⟨l, h1, h2⟩ := e; exact ⟨l, h _ _ h1, h2⟩
  | .slice b o sz n c m, _, e => by
    simp only [VRel] at e ⊢
    obtain ⟨l, a, k, h1, h2⟩ := e; exact ⟨l, a, k, h _ _ h1, h2⟩
  | .map b, _, e => by
    simp only [VRel] at e ⊢
    obtain ⟨l, h1, h2⟩ := e; exact ⟨l, h _ _ h1, h2⟩
  | .chan b, _, e => by
    simp only [VRel] at e ⊢
    obtain ⟨l, h1, h2⟩ := e; exact ⟨l, h _ _ h1, h2⟩
  | .fn f a b, _, e => by
    simp only [VRel] at e ⊢
    obtain ⟨us, ws, h1, h2, h3⟩ := e; exact ⟨us, ws, h1, VRelL.ext h a h2, VRelL.ext h b h3⟩
  | .agg cs, _, e => by
    simp only [VRel] at e ⊢
    obtain ⟨us, h1, h2⟩ := e; exact ⟨us, h1, VRelL.ext h cs h2⟩
  | .tup cs, _, e => by
    simp only [VRel] at e ⊢
    obtain ⟨us, h1, h2⟩ := e; exact ⟨us, h1, VRelL.ext h cs h2⟩
theorem VRelL.ext {ρ ρ' : LMap} (h : Ext ρ ρ') : ∀ (vs : List V) {us : List Value}, VRelL ρ vs us → VRelL ρ' vs us
  | [], _, e => by rw [VRelL_nil] at e ⊢; exact e
  | v :: vs, _, e => by
    rw [VRelL_cons] at e ⊢
    obtain ⟨u, us', h1, h2, h3⟩ := e; exact ⟨u, us', h1, VRel.ext h v h2, VRelL.ext h vs h3⟩
end

/-! ### Scalars -/
mutual
theorem VRel.val {ρ : LMap} : ∀ (v : V) {u w : Value}, v.toVal = some w → VRel ρ v u → u = w
  | .bool b, _, _, e, h => by simp [V.toVal] at e; simp [VRel] at h; rw [← e, h]
  | .int k n, _, _, e, h => by simp [V.toVal] at e; simp [VRel] at h; rw [← e, h]
  | .str s, _, _, e, h => by simp [V.toVal] at e; simp [VRel] at h; rw [← e, h]
  | .nil, _, _, e, h => by simp [V.toVal] at e; simp [VRel] at h; rw [← e, h]
  | .nilSlice, _, _, e, h => by simp [V.toVal] at e; simp [VRel] at h; rw [← e, h]
  | .nilMap, _, _, e, h => by simp [V.toVal] at e; simp [VRel] at h; rw [← e, h]
  | .nilChan, _, _, e, h => by simp [V.toVal] at e; simp [VRel] at h; rw [← e, h]
  | .nilFn, _, _, e, h => by simp [V.toVal] at e; simp [VRel] at h; rw [← e, h]
  | .ptr b o, _, _, e, h => by simp [V.toVal] at e
  | .slice b o sz n c m, _, _, e, h => by simp [V.toVal] at e
  | .map b, _, _, e, h => by simp [V.toVal] at e
  | .chan b, _, _, e, h => by simp [V.toVal] at e
  | .fn f a b, _, _, e, h => by simp [V.toVal] at e
  | .agg cs, _, _, e, h => by
    simp only [V.toVal, Option.map_eq_some_iff] at e
    simp only [VRel] at h
    obtain ⟨l, e1, rfl⟩ := e
    obtain ⟨us, rfl, h2⟩ := h
    rw [← VRelL.val cs e1 h2]
  | .tup cs, _, _, e, h => by
    simp only [V.toVal, Option.map_eq_some_iff] at e
    simp only [VRel] at h
    obtain ⟨l, e1, rfl⟩ := e
    obtain ⟨us, rfl, h2⟩ := h
    rw [← VRelL.val cs e1 h2]
theorem VRelL.val {ρ : LMap} : ∀ (vs : List V) {us ws : List Value}, toVals vs = some ws → VRelL ρ vs us → us = ws
  | [], _, _, e, h => by simp [toVals] at e; rw [VRelL_nil] at h; rw [e, h]
  | v :: vs, _, _, e, h => by
    rw [VRelL_cons] at h
    obtain ⟨u, us', rfl, h2, h3⟩ := h
    simp only [toVals] at e
    split at e
    · rename_i a as ha has
      simp at e; subst e
      rw [VRel.val v ha h2, VRelL.val vs has h3]
    · cases e
end

theorem VRel_ofCell {ρ : LMap} {u : Value} {v : V} (h : V.ofCell u = some v) : VRel ρ v u := by
  unfold V.ofCell at h
  split at h <;> first | (injection h with h; subst h; simp [VRel]; done) | cases h

theorem VRelL_ofCells {ρ : LMap} : ∀ {us : List Value} {vs : List V}, V.ofCells us = some vs → VRelL ρ vs us
  | [], _, h => by simp [V.ofCells] at h; subst h; simp [VRelL_nil]
  | u :: us, _, h => by
    simp only [V.ofCells] at h
    split at h
    · rename_i a as ha has
      simp at h; subst h
      exact VRelL_cons'.2 ⟨VRel_ofCell ha, VRelL_ofCells has⟩
    · cases h

theorem VRel_ofVal {ρ : LMap} {u : Value} {v : V} (h : V.ofVal u = some v) : VRel ρ v u := by
  unfold V.ofVal at h
  split at h
  · simp only [Option.map_eq_some_iff] at h
    obtain ⟨l, h1, rfl⟩ := h
    simp only [VRel]; exact ⟨_, rfl, VRelL_ofCells h1⟩
  · simp only [Option.map_eq_some_iff] at h
    obtain ⟨l, h1, rfl⟩ := h
    simp only [VRel]; exact ⟨_, rfl, VRelL_ofCells h1⟩
  · exact VRel_ofCell h

theorem VRel_undef {ρ : LMap} : VRel ρ .undef undef := by simp [V.undef, undef, VRel, VRelL_nil]

/-- The cells of a value. -/
theorem VRel_cells {ρ : LMap} {v : V} {u : Value} (h : VRel ρ v u) : VRelL ρ v.cells u.cells.toList := by
  cases v <;> simp only [V.cells] <;> simp only [VRel] at h
  case agg cs => obtain ⟨us, rfl, h2⟩ := h; simpa [Value.cells] using h2
  case ptr b o => obtain ⟨l, h1, rfl⟩ := h; simp only [Value.cells]; exact VRelL_cons'.2 ⟨by simp only [VRel]; exact ⟨l, h1, rfl⟩, by simp [VRelL_nil]⟩
  case map b => obtain ⟨l, h1, rfl⟩ := h; simp only [Value.cells]; exact VRelL_cons'.2 ⟨by simp only [VRel]; exact ⟨l, h1, rfl⟩, by simp [VRelL_nil]⟩
  case chan b => obtain ⟨l, h1, rfl⟩ := h; simp only [Value.cells]; exact VRelL_cons'.2 ⟨by simp only [VRel]; exact ⟨l, h1, rfl⟩, by simp [VRelL_nil]⟩
  case slice => obtain ⟨l, a, m, h1, rfl, h2⟩ := h; simp only [Value.cells]; exact VRelL_cons'.2 ⟨by simp only [VRel]; exact ⟨l, a, m, h1, rfl, h2⟩, by simp [VRelL_nil]⟩
  case fn => obtain ⟨us, ws, rfl, h2⟩ := h; simp only [Value.cells]; exact VRelL_cons'.2 ⟨by simp only [VRel]; exact ⟨us, ws, rfl, h2⟩, by simp [VRelL_nil]⟩
  case tup => obtain ⟨us, rfl, h2⟩ := h; simp only [Value.cells]; exact VRelL_cons'.2 ⟨by simp only [VRel]; exact ⟨us, rfl, h2⟩, by simp [VRelL_nil]⟩
  all_goals (subst h; simp only [Value.cells]; exact VRelL_cons'.2 ⟨by simp [VRel], by simp [VRelL_nil]⟩)

/-- A value that lies in one cell. -/
theorem VRel_one {ρ : LMap} {v : V} {u : Value} (h : VRel ρ v u) (h1 : v.one = true) : u.cells = #[u] ∧ ∀ x, u ≠ .agg x ∧ u ≠ .tuple x := by
  cases v <;> simp [V.one] at h1 <;> simp only [VRel] at h
  case ptr b o => obtain ⟨l, _, rfl⟩ := h; simp [Value.cells]
  case map b => obtain ⟨l, _, rfl⟩ := h; simp [Value.cells]
  case chan b => obtain ⟨l, _, rfl⟩ := h; simp [Value.cells]
  case slice => obtain ⟨l, a, m, _, rfl, _⟩ := h; simp [Value.cells]
  case fn => obtain ⟨us, ws, rfl, _⟩ := h; simp [Value.cells]
  all_goals (subst h; simp [Value.cells])

/-! ### Blocks -/
def entriesRel (ρ : LMap) : List (V × V × Nat) → List MapEntry → Prop
  | [], us => us = []
  | e :: es, us => ∃ u us', us = u :: us' ∧ VRel ρ e.1 u.key ∧ VRel ρ e.2.1 u.val ∧ e.2.2 = u.born ∧ entriesRel ρ es us'

def Blk.own : Blk → Bool
  | .cells o _ => o
  | _ => true
def Blk.isDead : Blk → Bool
  | .dead => true
  | _ => false

def iterM (ρ : LMap) : Option Nat → Option Nat → Prop
  | none, m' => m' = none
  | some b, m' => ∃ k, ρ b = some k ∧ m' = some k.blk

def BlkOk (B : Nat) (ρ : LMap) (w : World) (l : Loc) : Blk → Prop
  | .cells own cs => ∃ C T fr, w.heap[l.blk]? = some (.cells C T fr) ∧ cs.length = l.len ∧ l.len ≤ l.ext ∧ l.off + l.ext ≤ C.size ∧
      VRelL ρ cs ((C.toList.drop l.off).take l.len) ∧
      (own = true → B ≤ l.blk ∧ ∀ i, l.off ≤ i → i < l.off + l.ext → ¬(fr.1 ≤ i ∧ i < fr.2)) ∧ allOne cs = true
  | .dead => True
  | .map es clock => ∃ us, w.heap[l.blk]? = some (.map us clock) ∧ entriesRel ρ es us.toList ∧ l.off = 0 ∧ l.ext = 1 ∧ B ≤ l.blk
  | .iter m since seen stepped => ∃ m', w.heap[l.blk]? = some (.mapIter m' since seen.toArray stepped) ∧ l.off = 0 ∧ l.ext = 1 ∧ B ≤ l.blk ∧
      iterM ρ m m'
  | .chan cap buf => ∃ us a b, w.heap[l.blk]? = some (.chan cap us false a b false) ∧ VRelL ρ buf us.toList ∧ l.off = 0 ∧ l.ext = 1 ∧ B ≤ l.blk

def Disj (l l' : Loc) : Prop := l.blk ≠ l'.blk ∨ l.off + l.ext ≤ l'.off ∨ l'.off + l'.ext ≤ l.off

structure Rel (B : Nat) (w0 : World) (ρ : LMap) (h : Heap) (w : World) : Prop where
  below : Below B w0 w
  bound : B ≤ w.heap.size
  dom : ∀ i : Nat, h.length ≤ i → ρ i = none
  empty : ∀ i : Nat, h[i]? = some none → ρ i = none
  live : ∀ (i : Nat) (x : Blk), h[i]? = some (some x) → ∃ l, ρ i = some l ∧ BlkOk B ρ w l x
  disj : ∀ (i j : Nat) (x y : Blk) (l k : Loc), i ≠ j → h[i]? = some (some x) → h[j]? = some (some y) → x.isDead = false → y.isDead = false →
    (x.own || y.own) = true → ρ i = some l → ρ j = some k → Disj l k

end Go.Ideal
