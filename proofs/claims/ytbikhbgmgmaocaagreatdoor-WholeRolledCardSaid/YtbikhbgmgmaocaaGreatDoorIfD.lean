/-
  The ideal machine, part 29: slices that are one's own, and grow. Conditions: none (definitions and lemmas).
-/
import Derived.Test.YtbikhbgmgmaocaaGreatDoorIfC
namespace Go.Ideal

/-- What lay there lies there still, but for one block. -/
def Kept (h h' : Heap) (k : Option Nat) : Prop := h.length ≤ h'.length ∧ ∀ j, j < h.length → k ≠ some j → h'[j]? = h[j]?
theorem Kept.refl (h : Heap) (k : Option Nat) : Kept h h k := ⟨Nat.le_refl _, fun _ _ _ => rfl⟩
theorem Kept.grow (h t : Heap) (k : Option Nat) : Kept h (h ++ t) k := ⟨by simp, fun j hj _ => List.getElem?_append_left hj⟩
theorem Kept.trans {h h1 h2 : Heap} {k : Option Nat} (a : Kept h h1 k) (b : Kept h1 h2 k) : Kept h h2 k :=
  ⟨Nat.le_trans a.1 b.1, fun j hj hk => by rw [b.2 j (Nat.lt_of_lt_of_le hj a.1) hk, a.2 j hj hk]⟩
theorem Kept.transN {h h1 h2 : Heap} {k : Option Nat} (a : Kept h h1 k) (b : Kept h1 h2 none) : Kept h h2 k :=
  ⟨Nat.le_trans a.1 b.1, fun j hj hk => by rw [b.2 j (Nat.lt_of_lt_of_le hj a.1) (by simp), a.2 j hj hk]⟩
theorem Kept.get {h h' : Heap} {k : Option Nat} (a : Kept h h' k) {b : Nat} {x : Option Blk} (hb : h[b]? = some x) (hk : k ≠ some b) : h'[b]? = some x := by
  rw [a.2 b (lt_of_get hb) hk]; exact hb
theorem Kept.arr {h h' : Heap} {k : Option Nat} (a : Kept h h' k) {v : V} {xs : List V} (r : Arr h v xs) (hk : ∀ b, v.bk = some b → k ≠ some b) : Arr h' v xs :=
  r.other fun b hb => a.2 b (r.bk_lt hb) (hk b hb)
theorem Kept.arrN {h h' : Heap} (a : Kept h h' none) {v : V} {xs : List V} (r : Arr h v xs) : Arr h' v xs := a.arr r fun _ _ => by simp
theorem Kept.set {h : Heap} {b : Nat} {x : Option Blk} : Kept h (h.set b x) (some b) := ⟨by simp, fun j _ hk => by
  rw [List.getElem?_set]
  have : ¬ b = j := fun e => hk (by rw [e])
  rw [if_neg this]⟩

/-- A slice of one's own: all of a block, from base on. -/
def Own (base : Nat) (h : Heap) (v : V) (xs : List V) : Prop := (v = .nilSlice ∧ xs = []) ∨ ∃ b m, base ≤ b ∧ v = .slice b 0 1 xs.length xs.length m ∧ h[b]? = some (some (.cells true xs))
theorem Own.arr {base : Nat} {h : Heap} {v : V} {xs : List V} (a : Own base h v xs) : Arr h v xs := by
  rcases a with ⟨rfl, rfl⟩ | ⟨b, m, _, rfl, hb⟩
  · exact .inl ⟨rfl, rfl⟩
  · exact .inr ⟨b, 0, _, m, true, xs, rfl, hb, by omega, by simp, Nat.le_refl _⟩
theorem Own.nil (base : Nat) (h : Heap) : Own base h .nilSlice [] := .inl ⟨rfl, rfl⟩
theorem Own.kept {base : Nat} {h h' : Heap} {k : Option Nat} {v : V} {xs : List V} (a : Own base h v xs) (r : Kept h h' k) (hk : ∀ b, v.bk = some b → k ≠ some b) : Own base h' v xs := by
  rcases a with ⟨rfl, rfl⟩ | ⟨b, m, q, rfl, hb⟩
  · exact .inl ⟨rfl, rfl⟩
  · exact .inr ⟨b, m, q, rfl, r.get hb (hk b rfl)⟩
theorem Own.keptN {base : Nat} {h h' : Heap} {v : V} {xs : List V} (a : Own base h v xs) (r : Kept h h' none) : Own base h' v xs := a.kept r fun _ _ => by simp
theorem Own.bk_ge {base : Nat} {h : Heap} {v : V} {xs : List V} (a : Own base h v xs) {b : Nat} (hb : v.bk = some b) : base ≤ b := by
  rcases a with ⟨rfl, rfl⟩ | ⟨b', m, q, rfl, _⟩
  · cases hb
  · simp only [V.bk, Option.some.injEq] at hb; omega
theorem Own.mono {base base' : Nat} {h : Heap} {v : V} {xs : List V} (a : Own base h v xs) (hb : base' ≤ base) : Own base' h v xs := by
  rcases a with ⟨rfl, rfl⟩ | ⟨b, m, q, rfl, hb'⟩
  · exact .inl ⟨rfl, rfl⟩
  · exact .inr ⟨b, m, by omega, rfl, hb'⟩

section
variable {M : Mach} {N tok : Nat} {F : FE} {h : Heap} {Q : V → Heap → Prop}
theorem wx_buildSlice {sz len : Nat} {z : List V} {ps : List (Nat × Nat × Opd)} :
    wpo M tok none (.buildSlice sz len z ps) F h Q = ∃ cs, fillF F ps z = some cs ∧ allOne cs = true ∧ Q (.slice h.length 0 sz len len false) (h ++ [some (.cells true cs)]) := by
  cases hc : fillF F ps z with
  | none =>
    have : wpo M tok none (.buildSlice sz len z ps) F h Q = ∃ v h', (iop M.P (fun _ _ => .fail) tok none [] (IOp.inF F (.buildSlice sz len z ps))).run h = some (v, h') ∧ Q v h' := rfl
    rw [this]
    simp [IOp.inF, iop, fillF_eq, hc]
  | some cs =>
    cases ho : allOne cs
    · have : wpo M tok none (.buildSlice sz len z ps) F h Q = ∃ v h', (iop M.P (fun _ _ => .fail) tok none [] (IOp.inF F (.buildSlice sz len z ps))).run h = some (v, h') ∧ Q v h' := rfl
      rw [this]
      simp [IOp.inF, iop, fillF_eq, hc, ho]
    · rw [wpo_buildSlice (by rw [fillF_eq]; exact hc) ho]
      simp [ho]

theorem cells_run {v : V} {xs : List V} (a : Arr h v xs) : (sliceCells 1 v).run h = some ((xs.length, xs), h) := by
  rcases a with ⟨rfl, rfl⟩ | ⟨b, o, c, m, w, cs, rfl, hb, hl, he, _⟩
  · rfl
  · simp only [sliceCells, if_true, IM.run_bind, getCells, IM.run, hb, Nat.mul_one, if_pos hl, Option.bind_some, he]

/-- To append to a slice of one's own. -/
theorem wpo_append {slot : Option Nat} {base : Nat} {x y : Opd} {xs ys : List V} (a : Own base h (x.at F) xs) (b : Arr h (y.at F) ys) (hbase : base ≤ h.length) (hl : xs.length + ys.length < 2147483648)
    (q : ∀ v' h', Own base h' v' (xs ++ ys) → Kept h h' (x.at F).bk → (∀ k, v'.bk = some k → (x.at F).bk = some k ∨ h.length ≤ k) → Q v' h') : wpo M tok slot (.append 1 x y) F h Q := by
  have key : ∀ v' h', (appendCells 1 (x.at F) ys.length ys).run h = some (v', h') → Q v' h' → wpo M tok slot (.append 1 x y) F h Q := by
    intro v' h' hr hq
    refine wpo_low rfl ?_ hq
    simp only [IOp.inF, iop, ev_nilF, IM.run_bind, cells_run b, Option.bind_some]
    exact hr
  rcases a with ⟨hx, rfl⟩ | ⟨bl, m, hb0, hx, hb⟩
  · by_cases hn : ys.length = 0
    · refine key .nilSlice h ?_ (q _ _ ?_ (Kept.refl _ _) ?_)
      · rw [hx]; simp only [appendCells, if_pos hn, IM.run]
      · have : ys = [] := by simpa using hn
        subst this; exact Own.nil _ _
      · intro k hk; cases hk
    · refine key (.slice h.length 0 1 ys.length ys.length true) (h ++ [some (.cells true ys)]) ?_ (q _ _ ?_ ?_ ?_)
      · rw [hx]
        have hbig : ys.length < big := by simp only [List.length_nil] at hl; unfold big; omega
        simp only [appendCells, if_neg hn, if_pos hbig, IM.run]
      · exact .inr ⟨h.length, true, hbase, by simp, by simp⟩
      · rw [hx]; exact Kept.grow _ _ _
      · intro k hk
        simp only [V.bk, Option.some.injEq] at hk; right; omega
  · by_cases hn : ys.length = 0
    · have : ys = [] := by simpa using hn
      subst this
      refine key (x.at F) h ?_ (q _ _ (.inr ⟨bl, m, hb0, by simpa using hx, by simpa using hb⟩) (Kept.refl _ _) (fun k hk => .inl hk))
      rw [hx]; simp only [appendCells, List.length_nil, if_true, IM.run]
    · have hcap : ¬ xs.length + ys.length ≤ xs.length := by omega
      have hbig : xs.length + ys.length < big := by unfold big; omega
      have hg : (getCells bl 0 (xs.length * 1)).run h = some (xs, h) := by
        simp only [getCells, IM.run, hb, Nat.mul_one, Nat.zero_add, Nat.le_refl, if_true, List.drop_zero, List.take_length]
      have hlt := lt_of_get hb
      cases m
      · refine key (.slice h.length 0 1 (xs.length + ys.length) (xs.length + ys.length) true) (h ++ [some (.cells true (xs ++ ys))]) ?_ (q _ _ ?_ ?_ ?_)
        · rw [hx]
          simp only [appendCells, if_true, if_neg hn, if_neg hcap, if_pos hbig, IM.run_bind, hg, Option.bind_some, Bool.false_eq_true, if_false, IM.run]
        · exact .inr ⟨h.length, true, hbase, by simp, by simp⟩
        · exact Kept.grow _ _ _
        · intro k hk
          simp only [V.bk, Option.some.injEq] at hk; right; omega
      · refine key (.slice h.length 0 1 (xs.length + ys.length) (xs.length + ys.length) true) (h.set bl (some .dead) ++ [some (.cells true (xs ++ ys))]) ?_ (q _ _ ?_ ?_ ?_)
        · rw [hx]
          simp only [appendCells, if_true, if_neg hn, if_neg hcap, if_pos hbig, IM.run_bind, hg, Option.bind_some, IM.run, hb]
          simp
        · exact .inr ⟨h.length, true, hbase, by simp, by simp⟩
        · rw [hx]
          exact Kept.trans Kept.set (Kept.grow _ _ _)
        · intro k hk
          simp only [V.bk, Option.some.injEq] at hk; right; omega

/-- A new slice of so many. -/
theorem wpo_makeSlice {sz : Nat} {z : List V} {l : Opd} {k : IntKind} {n : Nat} (hl : l.at F = .int k (n : Int)) (hn : n < 2147483648) :
    wpo M tok none (.makeSlice sz z l) F h Q = Q (.slice h.length 0 sz n n false) (h ++ [some (.cells true (List.replicate n z).flatten)]) := by
  refine wpo_eq rfl ?_
  have h1 : (0 : Int) ≤ (n : Int) ∧ (n : Int) < (big : Int) := by unfold big; omega
  simp only [IOp.inF, iop, ev_nilF, hl, h1, and_self, if_true, mkBlk, IM.bind, IM.run, Int.toNat_natCast]
theorem wpo_makeSliceS {sz : Nat} {z : List V} {l : Opd} {k : IntKind} {n i : Nat} (hl : l.at F = .int k (n : Int)) (hn : n < 2147483648) (hs : h[tok + i]? = some none) :
    wpo M tok (some i) (.makeSlice sz z l) F h Q = Q (.slice (tok + i) 0 sz n n false) (h.set (tok + i) (some (.cells true (List.replicate n z).flatten))) := by
  refine wpo_eq rfl ?_
  have h1 : (0 : Int) ≤ (n : Int) ∧ (n : Int) < (big : Int) := by unfold big; omega
  simp only [IOp.inF, iop, ev_nilF, hl, h1, and_self, if_true, mkBlk, IM.bind, IM.run, Int.toNat_natCast, hs]
theorem wpo_allocS {z : List V} {i : Nat} (hs : h[tok + i]? = some none) : wpo M tok (some i) (.alloc z) F h Q = Q (.ptr (tok + i) 0) (h.set (tok + i) (some (.cells true z))) := by
  refine wpo_eq rfl ?_
  simp only [IOp.inF, iop, mkBlk, IM.bind, IM.run, hs]
theorem flat_one (n : Nat) (z : V) : (List.replicate n [z]).flatten = List.replicate n z := by
  induction n with
  | zero => rfl
  | succ n ih => simp [List.replicate_succ, ih]
theorem Own.st {base : Nat} {v x : V} {xs : List V} (a : Own base h v xs) {j : Nat} (hj : j < xs.length) (hc : x.cells = [x]) (ho : x.one = true) :
    ∃ h', Ideal.st 1 h (v.elem 1 j) x = some h' ∧ Own base h' v (xs.set j x) ∧ Kept h h' v.bk := by
  rcases a with ⟨rfl, rfl⟩ | ⟨b, m, q, rfl, hb⟩
  · simp at hj
  · have ho' : allOne [x] = true := by simp [allOne, ho]
    have hl : j * 1 + 1 ≤ xs.length := by omega
    have hlt := lt_of_get hb
    refine ⟨h.set b (some (.cells true (xs.set j x))), ?_, .inr ⟨b, m, q, by simp, by simp [hlt]⟩, Kept.set⟩
    simp only [V.elem, Ideal.st, hc, List.length_cons, List.length_nil, ho', and_self, if_true, hb, Nat.zero_add, if_pos hl]
    congr 4
    rw [Nat.mul_one, List.set_eq_take_append_cons_drop, if_pos hj]
    simp
/-- A store into a block of one's own. -/
theorem st_of {b o n : Nat} {v : V} {cs vs cs' : List V} (hb : h[b]? = some (some (.cells true cs))) (hv : v.cells = vs) (ho : allOne vs = true) (hn : vs.length = n) (hl : o + n ≤ cs.length) (hc : cs.take o ++ vs ++ cs.drop (o + n) = cs') :
    ∃ h', Ideal.st n h (.ptr b o) v = some h' ∧ h'[b]? = some (some (.cells true cs')) ∧ Kept h h' (some b) := by
  have hlt := lt_of_get hb
  refine ⟨h.set b (some (.cells true cs')), ?_, by simp [hlt], Kept.set⟩
  simp only [Ideal.st, hv, hn, ho, and_self, if_true, hb, if_pos hl, hc]
/-- The rest of a slice. -/
theorem Arr.from {v : V} {xs : List V} (a : Arr h v xs) {k : IntKind} {l : Nat} (hl : l ≤ xs.length) : ∃ v', fromV 1 v (.int k (l : Int)) = some v' ∧ Arr h v' (xs.drop l) ∧ (∀ b, v'.bk = some b → v.bk = some b) ∧ v'.cells = [v'] ∧ v'.one = true := by
  rcases a with ⟨rfl, rfl⟩ | ⟨b, o, c, m, w, cs, rfl, hb, h1, h2, h3⟩
  · have : l = 0 := by simpa using hl
    subst this
    exact ⟨.nilSlice, rfl, .inl ⟨rfl, rfl⟩, fun _ h => h, rfl, rfl⟩
  · refine ⟨.slice b (o + l * 1) 1 (xs.length - l) (c - l) m, ?_, .inr ⟨b, o + l * 1, c - l, m, w, cs, ?_, hb, ?_, ?_, ?_⟩, fun _ h => h, rfl, rfl⟩
    · have : (0 : Int) ≤ (l : Int) := by omega
      simp only [fromV, this, Int.toNat_natCast, hl, h3, and_self, if_true]
    · simp
    · simp; omega
    · simp only [List.length_drop, Nat.mul_one]
      conv => rhs; rw [← h2]
      rw [List.drop_take, List.drop_drop]
    · simp; omega
end
end Go.Ideal
