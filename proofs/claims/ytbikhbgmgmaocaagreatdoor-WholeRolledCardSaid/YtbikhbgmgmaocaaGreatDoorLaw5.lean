/- Contracts: a drop copied; who chose best; a drop laid down. Conditions: units one to forty. -/
import Derived.Test.YtbikhbgmgmaocaaGreatDoorLaw4
namespace Go.Ideal.T
open Go Go.Ideal Go.Proofs

def dropL (vu vc : V) : List V := [.int .i64 1, .int .i64 1, .int .i64 100, vu, vc]
def zeroL : List V := [.int .i64 0, .int .i64 0, .int .i64 0, .nilSlice, .nilSlice]
/-- A drop in memory of its own. -/
def OwnDrop (base : Nat) (h : Heap) (d : V) (n : Nat) (cs : List Int) : Prop := ∃ vu vc, d = .agg (dropL vu vc) ∧ Own base h vu (ints (uns n)) ∧ Own base h vc (ints cs) ∧ (∀ b, vu.bk = some b → vc.bk ≠ some b) ∧ cs.length = n ∧ n ≤ 40 ∧ ∀ c ∈ cs, 0 ≤ c ∧ c ≤ 3
theorem OwnDrop.drop {base : Nat} {h : Heap} {d : V} {n : Nat} {cs : List Int} (a : OwnDrop base h d n cs) : Drop h d n cs := by
  obtain ⟨vu, vc, a1, a2, a3, _, a4⟩ := a
  exact ⟨vu, vc, a1, a2.arr, a3.arr, a4⟩
theorem dropL_one {h : Heap} {vu vc : V} {xs ys : List V} (hu : Arr h vu xs) (hc : Arr h vc ys) : allOne (dropL vu vc) = true := by
  show (true && (true && (true && (vu.one && (vc.one && true))))) = true
  rw [hu.one, hc.one]; rfl
theorem one_one {v : V} (h : v.one = true) : allOne [v] = true := by simp [allOne, h]

theorem con29 {h : Heap} {d : V} {n : Nat} {cs : List Int} (hd : Drop h d n cs) {Q : V → Heap → Prop} (hq : ∀ d' h', OwnDrop h.length h' d' n cs → Kept h h' none → Q d' h') : Con M 29 [d] h Q := by
  obtain ⟨vu, vc, rfl, hu, hc, hn, hn40, hch⟩ := hd
  refine con_call rfl code29 (by show 1 ≤ 12; omega) (by decide) ?_
  show WP M 12 f29.body (argF [V.agg (dropL vu vc)]) h (retQ [.cell 2 (some 5)] Q)
  have hone := dropL_one hu hc
  refine wp_seq (wp_region ?_)
  simp only [wps_go, wps_nil, wx_alloc, wx_box, put_some, at_t, argF_zero, thenQ, Nat.zero_add, cells_agg, r29n0, hone, true_and, List.length_append, List.length_cons, List.length_nil]
  generalize hh : h ++ [some (Blk.cells true (dropL vu vc))] ++ [some (Blk.cells true [.int .i64 0, .int .i64 0, .int .i64 0, .nilSlice, .nilSlice])] = h1
  have k1 : Kept h h1 none := by rw [← hh, List.append_assoc]; exact Kept.grow _ _ _
  have hl1 : h1.length = h.length + 2 := by rw [← hh]; simp
  have hb : h1[h.length]? = some (some (.cells true (dropL vu vc))) := by rw [← hh]; simp
  have hb2 : h1[h.length + 1]? = some (some (.cells true zeroL)) := by rw [← hh]; simp [zeroL]
  have ld1 := ld_of hb
  refine wp_seq (wp_draw0 ?_)
  simp only [wpd_go, wpd_nil, wpd_re, wx_load, wx_fieldAddr, wx_store, wpo_call, put_some, put_none, at_t, upd_app, thenQ, offV, Option.some.injEq, exists_eq_left', Nat.reduceEqDiff, ↓reduceIte, List.map_cons, List.map_nil, Nat.zero_add, List.getElem?_cons_zero, List.getElem?_cons_succ, r29n1, ld1, dropL]
  refine con25 (k1.arrN hu) (by rw [ints_length, uns_length]; omega) ?_
  intro v1 h2 o1 k2
  have ld2 := ld_of (k2.get hb (by simp))
  have hbeq := hc.beq
  simp only [Option.some.injEq, exists_eq_left', List.getElem?_cons_zero, List.getElem?_cons_succ, ld2, hbeq, dropL, true_and]
  refine con25 ((k1.trans k2).arrN hc) (by rw [ints_length]; omega) ?_
  intro v2 h3 o2 k3
  have hb3 := k3.get (k2.get hb (by simp)) (by simp)
  obtain ⟨h4, s1, b4, k4⟩ := st_of (o := 3) (n := 1) (v := v1) (cs' := dropL v1 vc) hb3 o1.arr.cells (one_one o1.arr.one) rfl (by simp [dropL]) (by simp [dropL])
  obtain ⟨h5, s2, b5, k5⟩ := st_of (o := 4) (n := 1) (v := v2) (cs' := dropL v1 v2) b4 o2.arr.cells (one_one o2.arr.one) rfl (by simp [dropL]) (by simp [dropL])
  have o2b : ∀ b, v2.bk = some b → h2.length ≤ b := fun b hb => o2.bk_ge hb
  have o1b : ∀ b, v1.bk = some b → h1.length ≤ b := fun b hb => o1.bk_ge hb
  have o1lt : ∀ b, v1.bk = some b → b < h2.length := fun b hb => o1.arr.bk_lt hb
  have hk2 := k2.1
  simp only [Option.some.injEq, exists_eq_left', s1, s2]
  refine wp_seq (wp_region ?_)
  have l5 : ldN 5 h5 (.ptr h.length 0) = some (dropL v1 v2) := ldN_of b5
  have b5' : h5[h.length + 1]? = some (some (.cells true zeroL)) := by
    refine k5.get (k4.get (k3.get (k2.get hb2 (by simp)) (by simp)) ?_) ?_ <;> (intro e; injection e with e; omega)
  have p1 : Own h1.length h5 v1 (ints (uns n)) := ((o1.keptN k3).kept k4 (fun b hb e => by injection e with e; have := o1b b hb; omega)).kept k5 (fun b hb e => by injection e with e; have := o1b b hb; omega)
  have p2 : Own h2.length h5 v2 (ints cs) := (o2.kept k4 (fun b hb e => by injection e with e; have := o2b b hb; omega)).kept k5 (fun b hb e => by injection e with e; have := o2b b hb; omega)
  obtain ⟨h6, s3, b6, k6⟩ := st_of (o := 0) (n := 5) (v := .agg (dropL v1 v2)) (cs' := dropL v1 v2) b5' (cells_agg _) (dropL_one p1.arr p2.arr) rfl (by simp [zeroL]) (by simp [zeroL])
  simp only [wps_go, wps_nil, wx_loadN, wx_store, put_some, put_none, at_t, upd_app, thenQ, Option.some.injEq, exists_eq_left', Nat.reduceEqDiff, ↓reduceIte, r29n2, l5, s3]
  have l6 : ldN 5 h6 (.ptr (h.length + 1) 0) = some (dropL v1 v2) := ldN_of b6
  refine ⟨[.agg (dropL v1 v2)], ?_, hq (.agg (dropL v1 v2)) h6 ⟨v1, v2, rfl, ?_, ?_, ?_, hn, hn40, hch⟩ ?_⟩
  · have e : (match ldN 5 h6 (.ptr (h.length + 1) 0), (some [] : Option (List V)) with
      | some cs, some vs => some (V.agg cs :: vs)
      | _, _ => none) = some [V.agg (dropL v1 v2)] := by rw [l6]
    exact e
  · exact (p1.kept k6 (fun b hb e => by injection e with e; have := o1b b hb; omega)).mono (by omega)
  · exact (p2.kept k6 (fun b hb e => by injection e with e; have := o2b b hb; omega)).mono (by omega)
  · intro b hb e
    have := o1lt b hb
    have := o2b b e
    omega
  · have e1 := k1.1; have e2 := k2.1; have e3 := k3.1; have e4 := k4.1; have e5 := k5.1; have e6 := k6.1
    refine ⟨by omega, fun j hj _ => ?_⟩
    rw [k6.2 j (by omega) (by simp; omega), k5.2 j (by omega) (by simp; omega), k4.2 j (by omega) (by simp; omega), k3.2 j (by omega) (by simp), k2.2 j (by omega) (by simp), k1.2 j hj (by simp)]
end Go.Ideal.T
