/-
  The ideal machine, part 28: slices of whole numbers, read and grown. Conditions: none (definitions and lemmas).
-/
import Derived.Test.YtbikhbgmgmaocaaGreatDoorIfB
namespace Go.Ideal

/-- A scalar operation, bare. -/
def bo (op : Op) (t : TypeId) : Oper := { dst := none, op := op, type := t, pos := "", after := #[], guard := none }
theorem bo_op (op : Op) (t : TypeId) : (bo op t).op = op := rfl

/-! ### Whole numbers in words of 64 -/
def inW (n : Int) : Prop := -9223372036854775808 ≤ n ∧ n < 9223372036854775808
theorem wrap_in {n : Int} (h1 : -9223372036854775808 ≤ n) (h2 : n < 9223372036854775808) : IntKind.i64.wrap n = n := by
  simp only [IntKind.wrap, IntKind.bits, IntKind.signed, Int.reducePow, Nat.reduceSub, Bool.true_and, ge_iff_le, decide_eq_true_eq]
  split <;> omega
def I (n : Int) : V := .int .i64 n
def ints (l : List Int) : List V := l.map I
theorem ints_length (l : List Int) : (ints l).length = l.length := by simp [ints]
theorem ints_get (l : List Int) (i : Nat) (h : i < l.length) : (ints l)[i]? = some (I l[i]) := by simp [ints, h]
theorem ints_append (a b : List Int) : ints (a ++ b) = ints a ++ ints b := by simp [ints]
theorem ints_one (l : List Int) : allOne (ints l) = true := by
  simp only [allOne, ints, List.all_map, List.all_eq_true]
  intro x _; rfl

theorem ofVal_int (k : IntKind) (n : Int) : V.ofVal (.int k n) = some (.int k n) := rfl
theorem ofVal_bool (b : Bool) : V.ofVal (.bool b) = some (.bool b) := rfl
theorem ofVal_str (b : ByteArray) : V.ofVal (.string b) = some (.str b) := rfl
theorem cells_agg (l : List V) : (V.agg l).cells = l := rfl
theorem cells_int (k : IntKind) (n : Int) : (V.int k n).cells = [.int k n] := rfl
theorem cells_slice (b o sz n c : Nat) (m : Bool) : (V.slice b o sz n c m).cells = [.slice b o sz n c m] := rfl
theorem ld_of {h : Heap} {b : Nat} {w : Bool} {cs : List V} (hb : h[b]? = some (some (.cells w cs))) : ∀ o, ld h (.ptr b o) = cs[o]? := fun o => by simp only [ld, hb]
theorem ldN_of {h : Heap} {b : Nat} {w : Bool} {cs : List V} (hb : h[b]? = some (some (.cells w cs))) : ldN cs.length h (.ptr b 0) = some cs := by simp [ldN, hb]
theorem binV_int (op : BinOp) (k : IntKind) (a b : Int) : binV op (.int k a) (.int k b) = intV op k a b := by simp [binV]

/-! ### Heaps that grow -/
theorem pre_get {h t : Heap} {b : Nat} {x : Blk} (hb : h[b]? = some (some x)) : (h ++ t)[b]? = some (some x) := by
  have := (List.getElem?_eq_some_iff.1 hb).1
  rw [List.getElem?_append_left this]; exact hb
theorem lt_of_get {h : Heap} {b : Nat} {x : Option Blk} (hb : h[b]? = some x) : b < h.length := (List.getElem?_eq_some_iff.1 hb).1

/-! ### Slices -/
/-- A slice whose elements are one cell each. -/
def Arr (h : Heap) (v : V) (xs : List V) : Prop := (v = .nilSlice ∧ xs = []) ∨ ∃ b o c m w cs, v = .slice b o 1 xs.length c m ∧ h[b]? = some (some (.cells w cs)) ∧ o + xs.length ≤ cs.length ∧ (cs.drop o).take xs.length = xs ∧ xs.length ≤ c
theorem Arr.sl {h : Heap} {v : V} {xs : List V} (a : Arr h v xs) : v.sl = some xs.length := by
  rcases a with ⟨rfl, rfl⟩ | ⟨b, o, c, m, w, cs, rfl, _⟩ <;> rfl
theorem Arr.szIs {h : Heap} {v : V} {xs : List V} (a : Arr h v xs) : v.szIs 1 := by
  rcases a with ⟨rfl, rfl⟩ | ⟨b, o, c, m, w, cs, rfl, _⟩
  · trivial
  · rfl
theorem Arr.ld {h : Heap} {v : V} {xs : List V} (a : Arr h v xs) {j : Nat} {x : V} (hx : xs[j]? = some x) : Ideal.ld h (v.elem 1 j) = some x := by
  rcases a with ⟨rfl, rfl⟩ | ⟨b, o, c, m, w, cs, rfl, hb, hl, he, hcap⟩
  · simp at hx
  · simp only [V.elem, Ideal.ld, hb]
    have hj := (List.getElem?_eq_some_iff.1 hx).1
    rw [← he] at hx
    rw [List.getElem?_take, if_pos hj, List.getElem?_drop] at hx
    rw [← hx, Nat.mul_one]
theorem Arr.grow {h : Heap} {v : V} {xs : List V} (a : Arr h v xs) (t : Heap) : Arr (h ++ t) v xs := by
  rcases a with ⟨rfl, rfl⟩ | ⟨b, o, c, m, w, cs, rfl, hb, hl, he, hcap⟩
  · exact .inl ⟨rfl, rfl⟩
  · exact .inr ⟨b, o, c, m, w, cs, rfl, pre_get hb, hl, he, hcap⟩
/-- The block of a slice. -/
def V.bk : V → Option Nat
  | .slice b _ _ _ _ _ => some b
  | _ => none
theorem Arr.other {h h' : Heap} {v : V} {xs : List V} (a : Arr h v xs) (hk : ∀ b, v.bk = some b → h'[b]? = h[b]?) : Arr h' v xs := by
  rcases a with ⟨rfl, rfl⟩ | ⟨b, o, c, m, w, cs, rfl, hb, hl, he, hcap⟩
  · exact .inl ⟨rfl, rfl⟩
  · exact .inr ⟨b, o, c, m, w, cs, rfl, by rw [hk b rfl]; exact hb, hl, he, hcap⟩
theorem Arr.bk_lt {h : Heap} {v : V} {xs : List V} (a : Arr h v xs) {b : Nat} (hb : v.bk = some b) : b < h.length := by
  rcases a with ⟨rfl, rfl⟩ | ⟨b', o, c, m, w, cs, rfl, hb', _⟩
  · cases hb
  · simp only [V.bk, Option.some.injEq] at hb; subst hb; exact lt_of_get hb'
theorem Arr.cells {h : Heap} {v : V} {xs : List V} (a : Arr h v xs) : v.cells = [v] := by
  rcases a with ⟨rfl, rfl⟩ | ⟨b, o, c, m, w, cs, rfl, _⟩ <;> rfl
theorem Arr.one {h : Heap} {v : V} {xs : List V} (a : Arr h v xs) : v.one = true := by
  rcases a with ⟨rfl, rfl⟩ | ⟨b, o, c, m, w, cs, rfl, _⟩ <;> rfl
theorem Arr.nil (h : Heap) : Arr h .nilSlice [] := .inl ⟨rfl, rfl⟩

/-! ### Operations, as equations -/
def idxV (sz : Nat) : V → V → Option V
  | .slice b o sz' n _ _, .int _ j => if sz' = sz ∧ 0 ≤ j ∧ j < n then some (.ptr b (o + j.toNat * sz)) else none
  | _, _ => none
def extV (i : Nat) : V → Option V
  | .tup vs => vs[i]?
  | _ => none
def ptrV : V → Option V
  | .ptr b o => some (.ptr b o)
  | _ => none
def offV (off : Nat) : V → Option V
  | .ptr b o => some (.ptr b (o + off))
  | _ => none
def isB : V → Option Bool
  | .bool b => some b
  | _ => none
def nilV : NilK → V → Option Bool
  | .ptr, .nil | .slice, .nilSlice | .map, .nilMap | .fn, .nilFn => some true
  | .ptr, .ptr _ _ | .slice, .slice .. | .map, .map _ | .fn, .fn .. => some false
  | _, _ => none
def st (n : Nat) (h : Heap) : V → V → Option Heap
  | .ptr b o, v => if v.cells.length = n ∧ allOne v.cells = true then (match h[b]? with
    | some (some (.cells true cs)) => if o + n ≤ cs.length then some (h.set b (some (.cells true (cs.take o ++ v.cells ++ cs.drop (o + n))))) else none
    | _ => none) else none
  | _, _ => none
def fillF (F : FE) : List (Nat × Nat × Opd) → List V → Option (List V)
  | [], cs => some cs
  | (off, size, x) :: rest, cs =>
    let vs := (x.at F).cells
    if vs.length = size ∧ off + size ≤ cs.length then fillF F rest (cs.take off ++ vs ++ cs.drop (off + size)) else none
theorem fillF_eq (F : FE) : ∀ (ps : List (Nat × Nat × Opd)) (cs : List V), fillParts [] (inFP F ps) cs = fillF F ps cs
  | [], _ => rfl
  | (a, b, x) :: ps, cs => by
    by_cases hc : (x.at F).cells.length = b ∧ a + b ≤ cs.length
    · have l : fillParts [] (inFP F ((a, b, x) :: ps)) cs = fillParts [] (inFP F ps) (cs.take a ++ (x.at F).cells ++ cs.drop (a + b)) := if_pos hc
      have r : fillF F ((a, b, x) :: ps) cs = fillF F ps (cs.take a ++ (x.at F).cells ++ cs.drop (a + b)) := if_pos hc
      rw [l, r]; exact fillF_eq F ps _
    · have l : fillParts [] (inFP F ((a, b, x) :: ps)) cs = none := if_neg hc
      have r : fillF F ((a, b, x) :: ps) cs = none := if_neg hc
      rw [l, r]
/-- The part of a slice from lo on. -/
def fromV (sz : Nat) : V → V → Option V
  | .slice b o sz' n c m, .int _ l => if sz' = sz ∧ 0 ≤ l ∧ l.toNat ≤ n ∧ n ≤ c then some (.slice b (o + l.toNat * sz) sz (n - l.toNat) (c - l.toNat) m) else none
  | .nilSlice, .int _ l => if l = 0 then some .nilSlice else none
  | _, _ => none

section
variable {M : Mach} {N tok : Nat} {slot : Option Nat} {F : FE} {h : Heap} {Q : V → Heap → Prop}
theorem wps_tt {d : Option Nat} {t : Nat} {x : IOp} {ss : List Step} {K : FE → Heap → Prop} (hg : isB (F t) = some true) : wps M (⟨d, some (t, true), x⟩ :: ss) F h K = wpo M 0 none x F h fun v h' => wps M ss (F.put d v) h' K := by
  rw [wps_if]
  cases hF : F t <;> simp only [hF, isB] at hg <;> try (cases hg; done)
  injection hg with hg; subst hg; rfl
theorem wps_tf {d : Option Nat} {t : Nat} {x : IOp} {ss : List Step} {K : FE → Heap → Prop} (hg : isB (F t) = some false) : wps M (⟨d, some (t, true), x⟩ :: ss) F h K = wps M ss (F.put d .undef) h K := by
  rw [wps_if]
  cases hF : F t <;> simp only [hF, isB] at hg <;> try (cases hg; done)
  injection hg with hg; subst hg; rfl
theorem wps_ft {d : Option Nat} {t : Nat} {x : IOp} {ss : List Step} {K : FE → Heap → Prop} (hg : isB (F t) = some true) : wps M (⟨d, some (t, false), x⟩ :: ss) F h K = wps M ss (F.put d .undef) h K := by
  rw [wps_if]
  cases hF : F t <;> simp only [hF, isB] at hg <;> try (cases hg; done)
  injection hg with hg; subst hg; rfl
theorem wps_ff {d : Option Nat} {t : Nat} {x : IOp} {ss : List Step} {K : FE → Heap → Prop} (hg : isB (F t) = some false) : wps M (⟨d, some (t, false), x⟩ :: ss) F h K = wpo M 0 none x F h fun v h' => wps M ss (F.put d v) h' K := by
  rw [wps_if]
  cases hF : F t <;> simp only [hF, isB] at hg <;> try (cases hg; done)
  injection hg with hg; subst hg; rfl
theorem wx {x : IOp} {g : Option V} (hl : x.low = true) (hr : (iop M.P (fun _ _ => .fail) tok slot [] (x.inF F)).run h = g.map fun v => (v, h)) : wpo M tok slot x F h Q = ∃ v, g = some v ∧ Q v h := by
  cases g with
  | some v =>
    rw [wpo_eq hl hr]
    simp
  | none =>
    have : wpo M tok slot x F h Q = ∃ v h', (iop M.P (fun _ _ => .fail) tok slot [] (x.inF F)).run h = some (v, h') ∧ Q v h' := by
      cases x <;> first
        | (simp [IOp.low] at hl; done)
        | rfl
    rw [this, hr]
    simp
theorem wx_lenSlice {x : Opd} : wpo M tok slot (.lenSlice x) F h Q = ∃ n, (x.at F).sl = some n ∧ Q (.int .i64 (n : Int)) h := by
  have := wx (M := M) (tok := tok) (slot := slot) (F := F) (h := h) (Q := Q) (x := .lenSlice x) (g := (x.at F).sl.map fun n => .int .i64 (n : Int)) rfl (by
    simp only [IOp.inF, iop, ev_nilF]
    cases x.at F <;> simp [V.sl])
  rw [this]
  cases (x.at F).sl <;> simp
theorem wx_indexAddr {sz : Nat} {x i : Opd} : wpo M tok slot (.indexAddr sz x i) F h Q = ∃ v, idxV sz (x.at F) (i.at F) = some v ∧ Q v h := wx rfl (by
  simp only [IOp.inF, iop, ev_nilF]
  cases x.at F <;> cases i.at F <;> simp only [idxV] <;> (try split) <;> rfl)
theorem wx_load {x : Opd} : wpo M tok slot (.load none x) F h Q = ∃ v, ld h (x.at F) = some v ∧ Q v h := wx rfl (by
  simp only [IOp.inF, iop, ev_nilF]
  cases hx : x.at F <;> try rfl
  rename_i b o
  cases hv : ld h (.ptr b o) with
  | some v => simp only [loadAt_run (n := none) hv, Option.map_some]
  | none =>
    simp only [loadAt, getCells, IM.bind, IM.run, Option.map_none]
    simp only [ld] at hv
    split
    · rename_i y hy
      simp only [hy] at hv
      cases y <;> try rfl
      rename_i w cs
      simp only at hv
      have : cs.length ≤ o := List.getElem?_eq_none_iff.1 hv
      have h1 : ¬ o + 1 ≤ cs.length := by omega
      simp only [h1, if_false, IM.bind, IM.run]
    · rfl)
theorem wx_loadN {n : Nat} {x : Opd} : wpo M tok slot (.load (some n) x) F h Q = ∃ cs, ldN n h (x.at F) = some cs ∧ Q (.agg cs) h := by
  have := wx (M := M) (tok := tok) (slot := slot) (F := F) (h := h) (Q := Q) (x := .load (some n) x) (g := (ldN n h (x.at F)).map V.agg) rfl (by
    simp only [IOp.inF, iop, ev_nilF]
    cases hx : x.at F <;> try rfl
    rename_i b o
    cases hv : ldN n h (.ptr b o) with
    | some v => simp only [loadAt_run (h := h) (b := b) (o := o) (n := some n) (v := .agg v) (by simp [hv]), Option.map_some]
    | none =>
      simp only [loadAt, getCells, IM.bind, IM.run, Option.map_none]
      simp only [ldN] at hv
      split
      · rename_i y hy
        simp only [hy] at hv
        cases y <;> try rfl
        rename_i w cs
        simp only at hv
        split at hv
        · cases hv
        · rename_i h1
          simp only [h1, if_false, IM.bind, IM.run]
      · rfl)
  rw [this]
  cases ldN n h (x.at F) <;> simp
theorem wx_pick {c a b : Opd} : wpo M tok slot (.pick c a b) F h Q = ∃ q, isB (c.at F) = some q ∧ Q (if q = true then a.at F else b.at F) h := by
  have := wx (M := M) (tok := tok) (slot := slot) (F := F) (h := h) (Q := Q) (x := .pick c a b) (g := (isB (c.at F)).map fun q => if q = true then a.at F else b.at F) rfl (by
    simp only [IOp.inF, iop, ev_nilF]
    cases c.at F <;> try rfl
    rename_i q
    cases q <;> rfl)
  rw [this]
  cases isB (c.at F) <;> simp
theorem wx_extract {i : Nat} {x : Opd} : wpo M tok slot (.extract i x) F h Q = ∃ v, extV i (x.at F) = some v ∧ Q v h := wx rfl (by
  simp only [IOp.inF, iop, ev_nilF]
  cases x.at F <;> try rfl
  rename_i vs
  simp only [extV]
  cases vs[i]? <;> rfl)
theorem wx_nilCheck {x : Opd} : wpo M tok slot (.nilCheck x) F h Q = ∃ v, ptrV (x.at F) = some v ∧ Q v h := wx rfl (by
  simp only [IOp.inF, iop, ev_nilF]
  cases x.at F <;> rfl)
theorem wx_fieldAddr {off : Nat} {x : Opd} : wpo M tok slot (.fieldAddr off x) F h Q = ∃ v, offV off (x.at F) = some v ∧ Q v h := wx rfl (by
  simp only [IOp.inF, iop, ev_nilF]
  cases x.at F <;> rfl)
theorem wx_isNil {k : NilK} {neg : Bool} {x : Opd} : wpo M tok slot (.isNil k neg x) F h Q = ∃ b, nilV k (x.at F) = some b ∧ Q (.bool (b != neg)) h := by
  have := wx (M := M) (tok := tok) (slot := slot) (F := F) (h := h) (Q := Q) (x := .isNil k neg x) (g := (nilV k (x.at F)).map fun b => .bool (b != neg)) rfl (by
    simp only [IOp.inF, iop, ev_nilF]
    cases k <;> cases x.at F <;> cases neg <;> rfl)
  rw [this]
  cases nilV k (x.at F) <;> simp
theorem wx_build {z : List V} {ps : List (Nat × Nat × Opd)} : wpo M tok slot (.build z ps) F h Q = ∃ cs, fillF F ps z = some cs ∧ Q (.agg cs) h := by
  have := wx (M := M) (tok := tok) (slot := slot) (F := F) (h := h) (Q := Q) (x := .build z ps) (g := (fillF F ps z).map V.agg) rfl (by
    simp only [IOp.inF, iop, fillF_eq]
    cases fillF F ps z <;> rfl)
  rw [this]
  cases fillF F ps z <;> simp
theorem wx_from {sz : Nat} {x lo : Opd} : wpo M tok slot (.slice sz x (some lo) none none) F h Q = ∃ v, fromV sz (x.at F) (lo.at F) = some v ∧ Q v h := wx rfl (by
  simp only [IOp.inF, iop, ev_nilF, Option.map_some, Option.map_none]
  cases x.at F <;> simp only [sliceOf, fromV] <;> try rfl
  · simp only [boundOf, ev_nilF]
    cases lo.at F <;> simp only <;> try rfl
    rename_i k l
    by_cases h0 : 0 ≤ l
    · simp only [h0, if_true]
      by_cases h1 : l = 0
      · subst h1; rfl
      · simp only [h1, if_false]
        have : l.toNat ≠ 0 := by omega
        cases hn : l.toNat with
        | zero => exact (this hn).elim
        | succ m => rfl
    · have : l ≠ 0 := by omega
      simp only [h0, this, if_false]; rfl
  · rename_i b o sz' n c m
    simp only [boundOf, ev_nilF]
    by_cases hs : sz' = sz
    · cases lo.at F <;> simp only [hs, if_true, true_and] <;> try rfl
      rename_i k l
      by_cases h0 : 0 ≤ l
      · simp only [h0, if_true, true_and, Nat.le_refl, and_true]
        simp only [Option.isNone_none, Bool.and_true]
        by_cases h1 : l.toNat ≤ n ∧ n ≤ c
        · simp only [if_pos h1]; rfl
        · simp only [if_neg h1]; rfl
      · simp [h0, IM.lift]
    · cases lo.at F <;> simp [hs, IM.lift])
theorem wx_alloc {z : List V} : wpo M tok none (.alloc z) F h Q = Q (.ptr h.length 0) (h ++ [some (.cells true z)]) := wpo_alloc
theorem wx_box {x : Opd} : wpo M tok none (.box x) F h Q = (allOne (x.at F).cells = true ∧ Q (.ptr h.length 0) (h ++ [some (.cells true (x.at F).cells)])) := by
  cases hb : allOne (x.at F).cells
  · have : wpo M tok none (.box x) F h Q = ∃ v h', (iop M.P (fun _ _ => .fail) tok none [] (IOp.inF F (.box x))).run h = some (v, h') ∧ Q v h' := rfl
    rw [this]
    simp [IOp.inF, iop, ev_nilF, hb]
  · rw [wpo_box rfl hb]; simp
theorem wx_store {n : Nat} {a x : Opd} : wpo M tok slot (.store n a x) F h Q = ∃ h', st n h (a.at F) (x.at F) = some h' ∧ Q .undef h' := by
  have : wpo M tok slot (.store n a x) F h Q = ∃ v h', (iop M.P (fun _ _ => .fail) tok slot [] (IOp.inF F (.store n a x))).run h = some (v, h') ∧ Q v h' := rfl
  rw [this]
  have key : (iop M.P (fun _ _ => .fail) tok slot [] (IOp.inF F (.store n a x))).run h = (st n h (a.at F) (x.at F)).map fun h' => (V.undef, h') := by
    simp only [IOp.inF, iop, ev_nilF]
    cases a.at F <;> try rfl
    rename_i b o
    simp only [st]
    by_cases hc : (x.at F).cells.length = n ∧ allOne (x.at F).cells = true
    · have e1 : ∀ (A B : IM V), (if (x.at F).cells.length = n ∧ allOne (x.at F).cells = true then A else B) = A := fun A B => if_pos hc
      rw [if_pos hc]
      refine Eq.trans (congrArg (fun t => IM.run t h) (e1 _ _)) ?_
      simp only [putCells, IM.bind, IM.run]
      rcases hb : h[b]? with _ | _ | y
      · rfl
      · rfl
      · cases y <;> try rfl
        rename_i w cs
        cases w
        · rfl
        · simp only [hc.1]
          by_cases hl : o + n ≤ cs.length
          · simp only [if_pos hl, IM.bind, IM.run, hb]; rfl
          · simp only [if_neg hl]; rfl
    · have e1 : ∀ (A B : IM V), (if (x.at F).cells.length = n ∧ allOne (x.at F).cells = true then A else B) = B := fun A B => if_neg hc
      rw [if_neg hc]
      exact congrArg (fun t => IM.run t h) (e1 _ _)
  rw [key]
  cases st n h (a.at F) (x.at F) with
  | none => simp
  | some h2 =>
    apply propext
    constructor
    · rintro ⟨v, h', e, q⟩
      injection e with e; injection e with e1 e2
      exact ⟨h2, rfl, by rw [e1, e2]; exact q⟩
    · rintro ⟨h', e, q⟩
      injection e with e
      exact ⟨_, h', by rw [e]; rfl, q⟩
end

/-! ### Facts for the equations -/
theorem Arr.idx {h : Heap} {v : V} {xs : List V} (a : Arr h v xs) {k : IntKind} {j : Nat} (hj : j < xs.length) : idxV 1 v (.int k (j : Int)) = some (v.elem 1 j) := by
  rcases a with ⟨rfl, rfl⟩ | ⟨b, o, c, m, w, cs, rfl, _⟩
  · simp at hj
  · have : (0 : Int) ≤ (j : Int) ∧ (j : Int) < (xs.length : Int) := by omega
    simp only [idxV, this, and_self, if_true, V.elem, Int.toNat_natCast]
theorem Arr.beq {h : Heap} {v : V} {xs : List V} (a : Arr h v xs) : V.beq v v = true := by
  rcases a with ⟨rfl, rfl⟩ | ⟨b, o, c, m, w, cs, rfl, _⟩
  · rfl
  · simp [V.beq]
end Go.Ideal
