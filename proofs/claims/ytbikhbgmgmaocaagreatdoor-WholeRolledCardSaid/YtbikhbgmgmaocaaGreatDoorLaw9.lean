/- The law's own reckoning: the first of those that rolled most; its end. Conditions: rolls of one on. -/
import Derived.Test.YtbikhbgmgmaocaaGreatDoorLaw8
import Derived.Test.YtbikhbgmgmaocaaGreatDoorM8
namespace Go.Ideal.T
open Go Go.Ideal Go.Proofs

theorem maxFrom_snoc : ∀ (rs : List Int) (m x : Int), maxFrom m (rs ++ [x]) = if x > maxFrom m rs then x else maxFrom m rs
  | [], m, x => by simp [maxFrom]
  | y :: ys, m, x => by simp only [List.cons_append, maxFrom]; exact maxFrom_snoc ys _ x
theorem maxFrom_ge : ∀ (rs : List Int) (m : Int), m ≤ maxFrom m rs ∧ ∀ y ∈ rs, y ≤ maxFrom m rs
  | [], m => by simp [maxFrom]
  | y :: ys, m => by
    obtain ⟨h1, h2⟩ := maxFrom_ge ys (if y > m then y else m)
    simp only [maxFrom]
    refine ⟨?_, fun z hz => ?_⟩
    · split at h1 <;> rename_i hc <;> simp only [hc, if_true, if_false] at h1 ⊢ <;> omega
    · rcases List.mem_cons.1 hz with rfl | hz
      · split at h1 <;> rename_i hc <;> simp only [hc, if_true, if_false] at h1 ⊢ <;> omega
      · exact h2 z hz
theorem maxL_zero {rs : List Int} (h : ∀ y ∈ rs, 1 ≤ y) : maxFrom 0 rs = maxL rs := by
  cases rs with
  | nil => rfl
  | cons x xs =>
    have := h x (by simp)
    simp only [maxFrom, maxL]
    rw [if_pos (by omega)]
theorem firstAt_append {x : Int} : ∀ {xs ys : List Int} (i : Nat), x ∈ xs → firstAt x (xs ++ ys) i = firstAt x xs i
  | [], ys, i, h => by simp at h
  | y :: xs, ys, i, h => by
    simp only [List.cons_append, firstAt]
    by_cases e : x = y
    · rw [if_pos e, if_pos e]
    · rw [if_neg e, if_neg e]
      exact firstAt_append (i + 1) (by simpa [e] using h)
theorem firstAt_end {x : Int} : ∀ {xs : List Int} (i : Nat), x ∉ xs → firstAt x (xs ++ [x]) i = ((i + xs.length : Nat) : Int)
  | [], i, _ => by simp [firstAt]
  | y :: xs, i, h => by
    have h1 : x ≠ y := fun e => h (by simp [e])
    simp only [List.cons_append, firstAt]
    rw [if_neg h1, firstAt_end (i + 1) (fun e => h (List.mem_cons_of_mem _ e))]
    simp; omega

def unit0 : List Int → Int
  | [u] => u
  | _ => 0
/-- Who leads. -/
def lead (l rs : List Int) : Int := match rs with
  | [] => unit0 l
  | rs => l.getD (firstAt (maxFrom 0 rs) rs 0).toNat 0
theorem lead_snoc {l rs : List Int} {x : Int} (h1 : ∀ y ∈ rs, 1 ≤ y) (hx : 1 ≤ x) : lead l (rs ++ [x]) = if x > maxFrom 0 rs then l.getD rs.length 0 else lead l rs := by
  have e0 : lead l (rs ++ [x]) = l.getD (firstAt (maxFrom 0 (rs ++ [x])) (rs ++ [x]) 0).toNat 0 := by
    cases rs <;> rfl
  rw [e0, maxFrom_snoc]
  by_cases hc : x > maxFrom 0 rs
  · rw [if_pos hc, if_pos hc, firstAt_end 0 (fun hm => by have := (maxFrom_ge rs 0).2 x hm; omega)]
    simp
  · rw [if_neg hc, if_neg hc]
    have hne : rs ≠ [] := by intro e; subst e; simp only [maxFrom] at hc; omega
    have hm : maxFrom 0 rs ∈ rs := by rw [maxL_zero h1]; exact maxL_mem hne
    rw [firstAt_append 0 hm]
    cases rs with
    | nil => exact (hne rfl).elim
    | cons a b => rfl
theorem rolls_ge {ws : List Int} (hw : ∀ w ∈ ws, word w) : ∀ {n : Nat} {p : List Int × Nat}, rolls ws n = some p → ∀ y ∈ p.1, 1 ≤ y
  | 0, p, h => by simp only [rolls, Option.some.injEq] at h; subst h; simp
  | n + 1, p, h => by
    simp only [rolls] at h
    split at h
    · rename_i q hq
      split at h
      · rename_i r hr
        injection h with h; subst h
        intro y hy
        rcases List.mem_append.1 hy with hy | hy
        · exact rolls_ge hw hq y hy
        · have := fair_pos (fun w hx => hw w (List.mem_of_mem_drop hx)) hr
          simp at hy; omega
      · cases h
    · cases h

/-- The law's end. -/
theorem end3 {F : FE} {h : Heap} {Q : V → Heap → Prop} (hq : ∀ h', Q (.bool true) h') {s : Nat} {wv row : V} {ws : List Int} {u : Nat} {en : Bool} {unit won use : Int} {done : Bool}
    (F15 : F 15 = .ptr s 0) (F16 : F 16 = row) (F19 : F 19 = .int .i64 unit) (F21 : F 21 = .bool en) (F25 : F 25 = .int .i64 won) (F26 : F 26 = .int .i64 use) (F27 : F 27 = .bool done)
    (hs : h[s]? = some (some (.cells true [wv]))) (hwv : Arr h wv (ints (ws.drop u))) (hr : Arr h row (ints ws)) (hu : u ≤ ws.length) (hl : ws.length ≤ 300)
    (hno : en = false → won = 0 ∧ use = 0 ∧ done = false) (hyes : en = true → done = true ∧ won = unit ∧ use = u) : WP M 205 c3n67 F h (retQ [.tmp 4] Q) := by
  unfold c3n67
  refine wp_seq (wp_seq (wp_region ?_))
  simp only [wps_go, wps_nil, wpo_mv, wpo_scal, put_some, at_t, bo_op, scalV, oprV, upd_app, thenQ, unV, Option.some.injEq, exists_eq_left', Option.bind_some, ↓reduceIte, r3n64, F21]
  cases en
  · obtain ⟨rfl, rfl, rfl⟩ := hno rfl
    refine wp_true rfl ?_
    refine wp_seq (wp_region ?_)
    simp only [wps_go, wps_nil, wps_tt, wpo_mv, wx_pick, wpo_scal, put_some, at_t, at_c, bo_op, scalV, oprV, ofVal_int, upd_app, thenQ, binV_int, intV, unV, isB, Option.some.injEq, exists_eq_left', Option.bind_some, Nat.reduceEqDiff, ↓reduceIte, Bool.not_false, beq_self_eq_true, r3n65, F25, F26, F27]
    exact ⟨[_], rfl, hq _⟩
  · obtain ⟨rfl, rfl, rfl⟩ := hyes rfl
    refine wp_false rfl ?_
    try simp only [WP_skip, thenQ, Bool.not_true]
    have sr := hr.sl
    rw [ints_length] at sr
    have hw : IntKind.i64.wrap ((ws.length : Int) - ((ws.drop u).length : Int)) = (u : Int) := by
      rw [List.length_drop, wrap_in (by omega) (by omega)]; omega
    refine wp_seq (wp_region ?_)
    simp only [wps_go, wps_nil, wps_tt, wpo_mv, wx_lenSlice, wx_pick, wpo_scal, wpo_call, put_some, at_t, at_c, bo_op, scalV, oprV, upd_app, thenQ, binV_int, intV, isB, Option.some.injEq, exists_eq_left', Nat.reduceEqDiff, ↓reduceIte, List.map_cons, List.map_nil, beq_self_eq_true, r3n66, F15, F16, F19, F25, F26, F27, sr]
    refine con14 hs hwv ?_
    simp only [binV_int, intV, Option.some.injEq, exists_eq_left', beq_self_eq_true, I, hw]
    exact ⟨[_], rfl, hq _⟩
end Go.Ideal.T
