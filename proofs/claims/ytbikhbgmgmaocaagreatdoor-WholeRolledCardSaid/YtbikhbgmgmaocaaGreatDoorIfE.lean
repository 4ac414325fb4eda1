/-
  The ideal machine, part 30: slices of whole numbers that come in; a law of two slices. Conditions: as each says.
-/
import Derived.Test.YtbikhbgmgmaocaaGreatDoorIfD
import Derived.ChangeSlices
namespace Go.Ideal
open Go.RowKit

/-- A slice that came in, as a block that is only read. -/
structure InArg (W : World) (u : Value) (k : IntKind) (zs : List Int) : Prop where
  ex : ∃ (ol : Option Loc) (ox : Option Blk) (mk : Nat → V), (ox = none → ol = none) ∧ (∀ x, ox = some x → x.own = false ∧ ∃ l, ol = some l ∧ ∀ (B : Nat) (ρ : LMap), BlkOk B ρ W l x) ∧
    ∀ (ρ : LMap) (h : Heap) (b : Nat), ρ b = ol → h[b]? = some ox → VRel ρ (mk b) u ∧ Arr h (mk b) (zs.map fun n => V.int k n)

theorem InArg.nil (W : World) (k : IntKind) : InArg W (.slice none 0 0) k [] :=
  ⟨none, none, fun _ => .nilSlice, fun _ => rfl, (fun x hx => by cases hx), fun ρ h b _ _ => ⟨by simp [VRel], .inl ⟨rfl, rfl⟩⟩⟩

theorem VRelL_ints {ρ : LMap} (k : IntKind) : ∀ (zs : List Int), VRelL ρ (zs.map fun n => V.int k n) (zs.map fun n => Value.int k n)
  | [] => by simp [VRelL]
  | z :: zs => by
    simp only [List.map_cons]
    rw [VRelL_cons']
    exact ⟨by simp [VRel], VRelL_ints k zs⟩
theorem ints_allOne (k : IntKind) (zs : List Int) : allOne (zs.map fun n => V.int k n) = true := by
  simp only [allOne, List.all_map, List.all_eq_true]
  intro x _; rfl

theorem InArg.of {W : World} {a : Addr} {len cap : Nat} {k : IntKind} {zs : List Int} (hl : len ≤ cap) (hz : zs.length = cap) (hc : ∀ i, i < zs.length → W.cell? (a.add i) = some (.int k (zs.getD i 0)))
    (h0 : ∃ (g : Nat) (C : Array Value) (T : TypeId) (fr : Nat × Nat), W.heap[g]? = some (.cells C T fr)) : InArg W (.slice (some a) len cap) k (zs.take len) := by
  have arr : ∀ {h : Heap} {b : Nat}, h[b]? = some (some (.cells false (zs.map fun n => V.int k n))) → Arr h (.slice b 0 1 len cap false) ((zs.take len).map fun n => V.int k n) := by
    intro h b hb
    refine .inr ⟨b, 0, cap, false, false, _, by simp; omega, hb, by simp; omega, ?_, by simp; omega⟩
    rw [List.drop_zero, List.map_take, List.length_take, List.length_map, Nat.min_eq_left (by omega)]
  by_cases hcap : cap = 0
  · obtain ⟨g, C, T, fr, hg⟩ := h0
    have hzs : zs = [] := by rw [← List.length_eq_zero_iff]; omega
    refine ⟨some ⟨g, 0, 0, 0⟩, some (.cells false (zs.map fun n => V.int k n)), fun b => .slice b 0 1 len cap false, (fun e => by cases e), fun x hx => ?_, fun ρ h b hρ hb => ⟨?_, arr hb⟩⟩
    · injection hx with hx; subst hx; subst hzs
      exact ⟨rfl, _, rfl, fun B ρ => ⟨C, T, fr, hg, rfl, Nat.le_refl _, by simp, by simp [VRelL], (fun e => by cases e), rfl⟩⟩
    · subst hcap
      simp only [VRel]
      exact ⟨_, a, 0, hρ, rfl, hl, Nat.le_refl _, by simp, by simp, (fun _ => rfl), .inr rfl⟩
  · have c0 := hc 0 (by omega)
    have ha : a.add 0 = a := rfl
    rw [ha] at c0
    unfold World.cell? at c0
    split at c0
    · rename_i C T fr hC
      have hspot : a.spot = none := by
        cases hs : a.spot with
        | none => rfl
        | some s => rw [hs] at c0; cases c0
      have cell : ∀ i, i < cap → C[a.off + i]? = some (.int k (zs.getD i 0)) := by
        intro i hi
        have ci := hc i (by omega)
        by_cases h0 : i = 0
        · subst h0
          rw [ha] at ci
          unfold World.cell? at ci
          rw [hC, hspot] at ci
          exact ci
        · unfold World.cell? Addr.add at ci
          rw [if_neg h0] at ci
          simp only [hC] at ci
          exact ci
      have hsz : a.off + cap ≤ C.size := by
        have := cell (cap - 1) (by omega)
        have := (Array.getElem?_eq_some_iff.1 this).1
        omega
      have hrow : (C.toList.drop a.off).take cap = zs.map fun n => Value.int k n := by
        apply List.ext_getElem?
        intro i
        by_cases hi : i < cap
        · have := cell i hi
          rw [List.getElem?_take, if_pos hi, List.getElem?_drop, List.getElem?_map, Array.getElem?_toList, this]
          simp [show i < zs.length by omega]
        · rw [List.getElem?_take, if_neg hi, List.getElem?_eq_none (by simp; omega)]
      refine ⟨some ⟨a.block, a.off, cap, cap⟩, some (.cells false (zs.map fun n => V.int k n)), fun b => .slice b 0 1 len cap false, (fun e => by cases e), fun x hx => ?_, fun ρ h b hρ hb => ⟨?_, arr hb⟩⟩
      · injection hx with hx; subst hx
        refine ⟨rfl, _, rfl, fun B ρ => ⟨C, T, fr, hC, by simp [hz], Nat.le_refl _, hsz, ?_, (fun e => by cases e), ints_allOne k zs⟩⟩
        show VRelL ρ _ ((C.toList.drop a.off).take cap)
        rw [hrow]; exact VRelL_ints k zs
      · simp only [VRel]
        refine ⟨_, a, cap, hρ, rfl, hl, Nat.le_refl _, by simp, by simp, (fun _ => rfl), .inl ?_⟩
        cases a
        simp only at hspot
        simp [hspot]
    · cases c0

/-- The map of places of two that came in. -/
def rho2 (a b : Option Loc) : LMap := fun
  | 0 => a
  | 1 => b
  | _ => none

/-- **A law of two slices of whole numbers**: what it brings about at unknown values, it brings about in every world. -/
theorem law_two {M : Mach} (hm : M.P.follows .mixedOrders = true) (hcode : ∀ f ir, M.code f = some ir → cFunc M.P f = some ir) (hk : MemoOk M.P M.m) {f : Nat} {W : World} {u0 u1 : Value} {k0 k1 : IntKind} {zs ws : List Int}
    (a0 : InArg W u0 k0 zs) (a1 : InArg W u1 k1 ws)
    (law : ∀ (h : Heap) (v0 v1 : V), Arr h v0 (zs.map fun n => V.int k0 n) → Arr h v1 (ws.map fun n => V.int k1 n) → Con M f [v0, v1] h fun v _ => v = .bool true) :
    Calls M.P f #[u0, u1] W fun e W' => e = .returned (.bool true) ∧ Below W.heap.size W W' := by
  obtain ⟨ol0, ox0, mk0, n0, b0, r0⟩ := a0.ex
  obtain ⟨ol1, ox1, mk1, n1, b1, r1⟩ := a1.ex
  have q0 := r0 (rho2 ol0 ol1) [ox0, ox1] 0 rfl rfl
  have q1 := r1 (rho2 ol0 ol1) [ox0, ox1] 1 rfl rfl
  obtain ⟨v, h', rfl, n, hn⟩ := law [ox0, ox1] (mk0 0) (mk1 1) q0.2 q1.2
  have R : Rel W.heap.size W (rho2 ol0 ol1) [ox0, ox1] W := by
    refine ⟨.refl _ _, Nat.le_refl _, fun i hi => ?_, fun i hi => ?_, fun i x hi => ?_, fun i j x y l k hij hi hj _ _ ho => ?_⟩
    · match i, hi with
      | i + 2, _ => rfl
    · match i, hi with
      | 0, hi => injection hi with hi; exact n0 hi
      | 1, hi => injection hi with hi; exact n1 hi
      | i + 2, hi => simp at hi
    · match i, hi with
      | 0, hi =>
        injection hi with hi
        obtain ⟨_, l, e, hb⟩ := b0 x hi
        exact ⟨l, e, hb _ _⟩
      | 1, hi =>
        injection hi with hi
        obtain ⟨_, l, e, hb⟩ := b1 x hi
        exact ⟨l, e, hb _ _⟩
      | i + 2, hi => simp at hi
    · have own : ∀ (i : Nat) (x : Blk), [ox0, ox1][i]? = some (some x) → x.own = false := by
        intro i x hi
        match i, hi with
        | 0, hi => injection hi with hi; exact (b0 x hi).1
        | 1, hi => injection hi with hi; exact (b1 x hi).1
        | i + 2, hi => simp at hi
      rw [own i x hi, own j y hj] at ho
      cases ho
  have C := mcall_sound hm hcode hk (B := W.heap.size) (w0 := W) n f [mk0 0, mk1 1] [ox0, ox1] (.bool true) h' (rho2 ol0 ol1) W #[u0, u1] (hn n (Nat.le_refl _))
    (by simp only [VRelL_cons', VRelL_nil]; exact ⟨q0.1, q1.1, trivial⟩) R
  refine C.2.mono fun e W' he => ?_
  obtain ⟨ρ', u, rfl, _, h2, h3⟩ := he
  simp only [VRel] at h2
  subst h2
  exact ⟨rfl, h3.below⟩
end Go.Ideal
