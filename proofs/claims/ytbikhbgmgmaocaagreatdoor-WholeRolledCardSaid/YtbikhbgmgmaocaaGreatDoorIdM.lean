/-
  The ideal machine, part 5: memory: rows of cells of the model read and written; how the relation is kept. Conditions: none (lemmas).
-/
import Derived.Test.YtbikhbgmgmaocaaGreatDoorIdR
import Derived.Laws.Sem
import Derived.Laws.Rows
namespace Go.Ideal
open Go.RowKit

def setBlk (w : World) (r : Nat) (o : Obj) : World := { w with heap := w.heap.setIfInBounds r o }

theorem setBlk_get (w : World) (r : Nat) (o : Obj) (k : Nat) : (setBlk w r o).heap[k]? = if r = k ∧ r < w.heap.size then some o else w.heap[k]? := by
  simp only [setBlk, Array.getElem?_setIfInBounds]
  by_cases h : r = k
  · subst h
    by_cases h2 : r < w.heap.size
    · simp [h2]
    · simp [h2]
  · simp [h]
theorem setBlk_size (w : World) (r : Nat) (o : Obj) : (setBlk w r o).heap.size = w.heap.size := by simp [setBlk]
theorem blk_lt {w : World} {r : Nat} {o : Obj} (h : w.heap[r]? = some o) : r < w.heap.size := by
  rcases Nat.lt_or_ge r w.heap.size with h1 | h1
  · exact h1
  · rw [Array.getElem?_eq_none h1] at h; cases h

theorem cell_of {w : World} {r off : Nat} {C : Array Value} {T : TypeId} {fr : Nat × Nat} (h : w.heap[r]? = some (.cells C T fr)) :
    w.cell? ⟨r, off, none⟩ = C[off]? := by simp [World.cell?, h]
theorem frozen_of {w : World} {r off : Nat} {C : Array Value} {T : TypeId} {fr : Nat × Nat} (h : w.heap[r]? = some (.cells C T fr)) (hf : ¬(fr.1 ≤ off ∧ off < fr.2)) :
    w.frozen? ⟨r, off, none⟩ = false := by
  simp only [World.frozen?, h]
  rcases fr with ⟨lo, hi⟩
  simp at hf ⊢
  exact hf

theorem add_eq (r off i : Nat) : (⟨r, off, none⟩ : Addr).add i = ⟨r, off + i, none⟩ := by
  unfold Addr.add; split
  · subst_vars; rfl
  · rfl

section
variable {P : Program}

theorem run_loadCellsFrom {w : World} {r off : Nat} {C : Array Value} {T : TypeId} {fr : Nat × Nat} (h : w.heap[r]? = some (.cells C T fr)) :
    ∀ (n i : Nat) (acc : Array Value), off + i + n ≤ C.size →
      (loadCellsFrom ⟨r, off, none⟩ i n acc).run P w = .ok (acc ++ ((C.toList.drop (off + i)).take n).toArray) w
  | 0, i, acc, _ => by simp [loadCellsFrom]
  | n + 1, i, acc, hb => by
    have hlt : off + i < C.size := by omega
    have hc : w.cell? ⟨r, off + i, none⟩ = some C[off + i] := by rw [cell_of h]; simp [hlt]
    simp only [loadCellsFrom, Sem.run_bind, add_eq, run_load, hc, Result.andThen_ok]
    rw [run_loadCellsFrom h n (i + 1) (acc.push C[off + i]) (by omega)]
    congr 1
    apply Array.ext'
    have h2 : C.toList.drop (off + i) = C[off + i] :: C.toList.drop (off + (i + 1)) := by
      rw [List.drop_eq_getElem_cons (by simpa using hlt)]; simp [Nat.add_assoc]
    simp [h2]

theorem run_loadCells {w : World} {r off n : Nat} {C : Array Value} {T : TypeId} {fr : Nat × Nat} (h : w.heap[r]? = some (.cells C T fr)) (hb : off + n ≤ C.size) :
    (loadCells ⟨r, off, none⟩ n).run P w = .ok ((C.toList.drop off).take n).toArray w := by
  unfold loadCells
  rw [run_loadCellsFrom h n 0 #[] (by omega)]
  simp

/-- Cells written into a list. -/
def splice {α : Type} (o : Nat) (vs cs : List α) : List α := cs.take o ++ vs ++ cs.drop (o + vs.length)

theorem splice_length {α : Type} {o : Nat} {vs cs : List α} (h : o + vs.length ≤ cs.length) : (splice o vs cs).length = cs.length := by
  simp [splice]; omega
theorem splice_get {α : Type} {o : Nat} {vs cs : List α} (h : o + vs.length ≤ cs.length) (i : Nat) :
    (splice o vs cs)[i]? = if o ≤ i ∧ i < o + vs.length then vs[i - o]? else cs[i]? := by
  unfold splice
  rw [List.append_assoc]
  by_cases h1 : i < o
  · rw [List.getElem?_append_left (by simp; omega), if_neg (by omega)]
    simp [h1]
  · rw [List.getElem?_append_right (by simp; omega)]
    have e : (cs.take o).length = o := by simp; omega
    rw [e]
    by_cases h2 : i < o + vs.length
    · rw [List.getElem?_append_left (by omega), if_pos (by omega)]
    · rw [List.getElem?_append_right (by omega), if_neg (by omega)]
      rw [List.getElem?_drop]; congr 1; omega
theorem splice_cons {α : Type} {o : Nat} {v : α} {vs cs : List α} (h : o + (vs.length + 1) ≤ cs.length) : splice (o + 1) vs (cs.set o v) = splice o (v :: vs) cs := by
  apply List.ext_getElem?
  intro i
  rw [splice_get (by simp; omega), splice_get (by simpa using h), List.getElem?_set]
  by_cases h1 : i = o
  · subst h1
    have hlt : i < cs.length := by omega
    rw [if_neg (by omega), if_pos rfl, if_pos hlt, if_pos (by rw [List.length_cons]; omega)]; simp
  · by_cases h2 : o + 1 ≤ i ∧ i < o + 1 + vs.length
    · rw [if_pos h2, if_pos (by rw [List.length_cons]; omega), show i - o = (i - (o + 1)) + 1 from by omega]; simp
    · rw [if_neg h2, if_neg (by omega), if_neg (by rw [List.length_cons]; omega)]

theorem setCell_eq {w : World} {r off : Nat} {C : Array Value} {T : TypeId} {fr : Nat × Nat} (h : w.heap[r]? = some (.cells C T fr)) (v : Value) :
    w.setCell ⟨r, off, none⟩ v = setBlk w r (.cells (C.toList.set off v).toArray T fr) := by
  have hlt := blk_lt h
  have hC : w.heap[r] = .cells C T fr := by simpa [Array.getElem?_eq_getElem hlt] using h
  unfold World.setCell setBlk
  congr 1
  apply Array.ext (by simp)
  intro i h1 h2
  have e1 : C.setIfInBounds off v = (C.toList.set off v).toArray := by apply Array.ext'; simp
  rw [Array.getElem_modify, Array.getElem_setIfInBounds (by simpa using h1)]
  by_cases e : r = i
  · subst e
    simp [hC, e1]
  · simp [e]

theorem setBlk_setBlk (w : World) (r : Nat) (a b : Obj) : setBlk (setBlk w r a) r b = setBlk w r b := by
  simp [setBlk]
theorem setBlk_self {w : World} {r : Nat} {o : Obj} (h : w.heap[r]? = some o) : setBlk w r o = w := by
  have hlt := blk_lt h
  unfold setBlk
  have : w.heap.setIfInBounds r o = w.heap := by
    apply Array.ext (by simp)
    intro i h1 h2
    rw [Array.getElem_setIfInBounds h2]
    by_cases e : r = i
    · subst e; simp; simpa [Array.getElem?_eq_getElem hlt] using h.symm
    · simp [e]
  rw [this]

theorem run_storeCells {r off : Nat} {T : TypeId} {fr : Nat × Nat} :
    ∀ (vs : List Value) (i : Nat) (w : World) (C : Array Value), w.heap[r]? = some (.cells C T fr) → off + i + vs.length ≤ C.size →
      (∀ j, off + i ≤ j → j < off + i + vs.length → ¬(fr.1 ≤ j ∧ j < fr.2)) → (∀ v ∈ vs, ∀ x, v ≠ .agg x ∧ v ≠ .tuple x) →
      (storeCells ⟨r, off, none⟩ vs i).run P w = .ok () (setBlk w r (.cells (splice (off + i) vs C.toList).toArray T fr))
  | [], i, w, C, h, _, _, _ => by
    have e : (splice (off + i) ([] : List Value) C.toList).toArray = C := by apply Array.ext'; simp [splice]
    rw [e, setBlk_self h]
    simp only [storeCells, Sem.run_pure]
  | v :: vs, i, w, C, h, hb, hf, ho => by
    simp only [List.length_cons] at hb hf
    have hlt : off + i < C.size := by omega
    have hc : w.cell? ⟨r, off + i, none⟩ = some C[off + i] := by rw [cell_of h]; simp [hlt]
    have hone : v.oneCell' = true := by
      have := ho v (by simp)
      cases v <;> simp [Value.oneCell'] <;> simp at this
    simp only [storeCells, Sem.run_bind, add_eq]
    rw [run_store P w _ v .plain hone, hc]
    simp only [frozen_of h (hf (off + i) (by omega) (by omega)), Bool.false_eq_true, if_false, Result.andThen_ok]
    rw [setCell_eq h]
    rw [run_storeCells vs (i + 1) (setBlk w r (.cells (C.toList.set (off + i) v).toArray T fr)) (C.toList.set (off + i) v).toArray
      (by rw [setBlk_get, if_pos ⟨rfl, blk_lt h⟩]) (by simp; omega) (fun j h1 h2 => hf j (by omega) (by omega)) (fun v hv => ho v (by simp [hv]))]
    rw [setBlk_setBlk]
    congr 4
    have := splice_cons (o := off + i) (v := v) (vs := vs) (cs := C.toList) (by simpa using (by omega : off + i + (vs.length + 1) ≤ C.size))
    simpa [Nat.add_assoc] using this
end

/-! ### The relation kept -/
def SameAt (w w' : World) (k : Loc) : Prop := ∀ o, w.heap[k.blk]? = some o → w'.heap[k.blk]? = some o ∨
  ∃ C C' T fr, o = .cells C T fr ∧ w'.heap[k.blk]? = some (.cells C' T fr) ∧ C'.size = C.size ∧ ∀ i, k.off ≤ i → i < k.off + k.ext → C'[i]? = C[i]?

theorem SameAt.of_eq {w w' : World} {k : Loc} (h : w'.heap[k.blk]? = w.heap[k.blk]?) : SameAt w w' k := fun _ ho => .inl (h.trans ho)

theorem range_eq {C C' : Array Value} {off n m : Nat} (hm : m ≤ n) (h : ∀ i, off ≤ i → i < off + n → C'[i]? = C[i]?) :
    (C'.toList.drop off).take m = (C.toList.drop off).take m := by
  apply List.ext_getElem?
  intro i
  rw [List.getElem?_take, List.getElem?_take, List.getElem?_drop, List.getElem?_drop]
  by_cases hi : i < m
  · have := h (off + i) (by omega) (by omega)
    simpa [hi] using this
  · simp [hi]

mutual
theorem entriesRel.ext {ρ ρ' : LMap} (h : Ext ρ ρ') : ∀ {es : List (V × V × Nat)} {us : List MapEntry}, entriesRel ρ es us → entriesRel ρ' es us
  | [], _, e => e
  | x :: es, _, e => by
    obtain ⟨u, us', h1, h2, h3, h4, h5⟩ := e
    exact ⟨u, us', h1, h2.ext h, h3.ext h, h4, h5.ext h⟩
end

theorem BlkOk.ext {B : Nat} {ρ ρ' : LMap} {w : World} {l : Loc} {x : Blk} (he : Ext ρ ρ') (h : BlkOk B ρ w l x) : BlkOk B ρ' w l x := by
  cases x with
  | cells own cs =>
    obtain ⟨C, T, fr, h1, h2, h3, h4, h5, h6⟩ := h
    exact ⟨C, T, fr, h1, h2, h3, h4, h5.ext he, h6⟩
  | dead => trivial
  | map es clock =>
    obtain ⟨us, h1, h2, h3⟩ := h
    exact ⟨us, h1, h2.ext he, h3⟩
  | iter m since seen stepped =>
    obtain ⟨m', h1, h2, h3, h4, h5⟩ := h
    refine ⟨m', h1, h2, h3, h4, ?_⟩
    cases m with
    | none => exact h5
    | some b => obtain ⟨k, hk, h6⟩ := h5; exact ⟨k, he _ _ hk, h6⟩
  | chan cap buf =>
    obtain ⟨us, a, b, h1, h2, h3⟩ := h
    exact ⟨us, a, b, h1, h2.ext he, h3⟩

theorem BlkOk.same {B : Nat} {ρ : LMap} {w w' : World} {l : Loc} {x : Blk} (h : BlkOk B ρ w l x) (hs : SameAt w w' l) : BlkOk B ρ w' l x := by
  cases x with
  | cells own cs =>
    obtain ⟨C, T, fr, h1, h2, h3, h4, h5, h6⟩ := h
    rcases hs _ h1 with h7 | ⟨C1, C', T1, fr1, e, h7, h8, h9⟩
    · exact ⟨C, T, fr, h7, h2, h3, h4, h5, h6⟩
    · injection e with e1 e2 e3
      subst e1 e2 e3
      exact ⟨C', T, fr, h7, h2, h3, by omega, by rw [range_eq h3 h9]; exact h5, h6⟩
  | dead => trivial
  | map es clock =>
    obtain ⟨us, h1, h2⟩ := h
    rcases hs _ h1 with h7 | ⟨C1, C', T1, fr1, e, _⟩
    · exact ⟨us, h7, h2⟩
    · cases e
  | iter m since seen stepped =>
    obtain ⟨m', h1, h2⟩ := h
    rcases hs _ h1 with h7 | ⟨C1, C', T1, fr1, e, _⟩
    · exact ⟨m', h7, h2⟩
    · cases e
  | chan cap buf =>
    obtain ⟨us, a, b, h1, h2⟩ := h
    rcases hs _ h1 with h7 | ⟨C1, C', T1, fr1, e, _⟩
    · exact ⟨us, a, b, h7, h2⟩
    · cases e

section
variable {B : Nat} {w0 : World} {ρ : LMap} {h : Heap} {w : World}

theorem Rel.lt (R : Rel B w0 ρ h w) {i : Nat} {l : Loc} (e : ρ i = some l) : i < h.length := by
  rcases Nat.lt_or_ge i h.length with h1 | h1
  · exact h1
  · rw [R.dom i h1] at e; cases e

/-- The world turns nothing that is related. -/
theorem Rel.world (R : Rel B w0 ρ h w) {w' : World} (hb : Below B w w')
    (hs : ∀ (i : Nat) (x : Blk) (k : Loc), h[i]? = some (some x) → x.isDead = false → ρ i = some k → SameAt w w' k) : Rel B w0 ρ h w' where
  below := R.below.trans hb
  bound := Nat.le_trans R.bound hb.size
  dom := R.dom
  empty := R.empty
  live := fun i x hx => by
    obtain ⟨l, h1, h2⟩ := R.live i x hx
    refine ⟨l, h1, ?_⟩
    cases x with
    | dead => trivial
    | _ => exact h2.same (hs i _ l hx rfl h1)
  disj := R.disj

/-- One block becomes another one, in its place. -/
theorem Rel.turn (R : Rel B w0 ρ h w) {w' : World} {b : Nat} {x y : Blk} {l : Loc} (hx : h[b]? = some (some x)) (hx0 : x.isDead = false) (ho : x.own = true) (hl : ρ b = some l) (hb : Below B w w')
    (hs : ∀ (i : Nat) (x : Blk) (k : Loc), i ≠ b → h[i]? = some (some x) → x.isDead = false → ρ i = some k → Disj l k → SameAt w w' k)
    (hy : BlkOk B ρ w' l y) : Rel B w0 ρ (h.set b (some y)) w' := by
  have hlt := R.lt hl
  have get : ∀ (i : Nat) (z : Blk), i ≠ b → (h.set b (some y))[i]? = some (some z) → h[i]? = some (some z) := fun i z hne e => by
    rwa [List.getElem?_set_ne (Ne.symm hne)] at e
  refine ⟨R.below.trans hb, Nat.le_trans R.bound hb.size, fun i hi => R.dom i (by simpa using hi), fun i hi => ?_, fun i z hz => ?_, fun i j z u k k' hij hz hu hz0 hu0 hown hk hk' => ?_⟩
  · by_cases e : b = i
    · subst e; rw [List.getElem?_set_self hlt] at hi; cases hi
    · rw [List.getElem?_set_ne e] at hi; exact R.empty i hi
  · by_cases e : i = b
    · subst e
      rw [List.getElem?_set_self hlt] at hz
      injection hz with hz; injection hz with hz; subst hz
      exact ⟨l, hl, hy⟩
    · have hz' := get i z e hz
      obtain ⟨k, hk, h2⟩ := R.live i z hz'
      refine ⟨k, hk, ?_⟩
      cases z with
      | dead => trivial
      | _ => exact h2.same (hs i _ k e hz' rfl hk (R.disj b i x _ l k (Ne.symm e) hx hz' hx0 rfl (by simp [ho]) hl hk))
  · by_cases e1 : i = b
    · subst e1
      rw [hl] at hk; injection hk with hk; subst hk
      exact R.disj i j x u l k' hij hx (get j u (Ne.symm hij) hu) hx0 hu0 (by simp [ho]) hl hk'
    · by_cases e2 : j = b
      · subst e2
        rw [hl] at hk'; injection hk' with hk'; subst hk'
        exact R.disj i j z x k l hij (get i z e1 hz) hx hz0 hx0 (by simp [ho]) hk hl
      · exact R.disj i j z u k k' hij (get i z e1 hz) (get j u e2 hu) hz0 hu0 hown hk hk'

def upd (ρ : LMap) (b : Nat) (l : Loc) : LMap := fun i => if i = b then some l else ρ i
theorem upd_ext {ρ : LMap} {b : Nat} (l : Loc) (h : ρ b = none) : Ext ρ (upd ρ b l) := fun i k e => by
  unfold upd; split
  · subst_vars; rw [h] at e; cases e
  · exact e

/-- A new block: behind the heap (h ++ [..]) or in an empty place of it. 'h'' differs from h in place b alone. -/
theorem Rel.fresh (R : Rel B w0 ρ h w) {h' : Heap} {w' : World} {b : Nat} {y : Blk} {l : Loc} (hn : ρ b = none)
    (hb' : h'[b]? = some (some y)) (hlen : ∀ i : Nat, h'.length ≤ i → h.length ≤ i) (hsame : ∀ i : Nat, i ≠ b → h'[i]? = h[i]?)
    (hb : Below B w w')
    (hs : ∀ (i : Nat) (x : Blk) (k : Loc), h[i]? = some (some x) → x.isDead = false → ρ i = some k → SameAt w w' k)
    (hy : BlkOk B (upd ρ b l) w' l y)
    (hd : ∀ (i : Nat) (x : Blk) (k : Loc), h[i]? = some (some x) → x.isDead = false → ρ i = some k → Disj l k) : Rel B w0 (upd ρ b l) h' w' := by
  have hlt : b < h'.length := by
    rcases Nat.lt_or_ge b h'.length with h1 | h1
    · exact h1
    · rw [List.getElem?_eq_none h1] at hb'; cases hb'
  have he := upd_ext l hn
  refine ⟨R.below.trans hb, Nat.le_trans R.bound hb.size, fun i hi => ?_, fun i hi => ?_, fun i z hz => ?_, fun i j z u k k' hij hz hu hz0 hu0 hown hk hk' => ?_⟩
  · unfold upd; rw [if_neg (by omega)]; exact R.dom i (hlen i hi)
  · by_cases e : i = b
    · subst e; rw [hb'] at hi; cases hi
    · unfold upd; rw [if_neg e]; rw [hsame i e] at hi; exact R.empty i hi
  · by_cases e : i = b
    · subst e
      rw [hb'] at hz; injection hz with hz; injection hz with hz; subst hz
      exact ⟨l, by simp [upd], hy⟩
    · rw [hsame i e] at hz
      obtain ⟨k, hk, h2⟩ := R.live i z hz
      refine ⟨k, by simp [upd, e, hk], ?_⟩
      cases z with
      | dead => trivial
      | _ => exact (h2.same (hs i _ k hz rfl hk)).ext he
  · by_cases e1 : i = b
    · subst e1
      have hji : j ≠ i := Ne.symm hij
      rw [hsame j hji] at hu
      simp only [upd, if_true, Option.some.injEq] at hk; subst hk
      simp only [upd, if_neg hji] at hk'
      exact hd j u k' hu hu0 hk'
    · rw [hsame i e1] at hz
      simp only [upd, if_neg e1] at hk
      by_cases e2 : j = b
      · subst e2
        simp only [upd, if_true, Option.some.injEq] at hk'; subst hk'
        have := hd i z k hz hz0 hk
        unfold Disj at *; omega
      · rw [hsame j e2] at hu
        simp only [upd, if_neg e2] at hk'
        exact R.disj i j z u k k' hij hz hu hz0 hu0 hown hk hk'
end
end Go.Ideal
