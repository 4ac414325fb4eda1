/-
  The ideal machine, part 9: the laws of the operations that make a block. Conditions: none (lemmas).
-/
import Derived.Test.YtbikhbgmgmaocaaGreatDoorIdQ
import Derived.IntWalk
namespace Go.Ideal
open Go.RowKit

section
variable {P : Program} {B : Nat} {w0 : World} {ρ : LMap} {h h' : Heap} {w : World} {e : Env} {a : Act} {o : Oper}
variable {rc : Nat → List V → IM V} {tok : Nat} {slot : Option Nat} {v : V}

def pushW (w : World) (x : Obj) (d : Nat) : World := { w with heap := w.heap.push x, drawn := d }

theorem BlkOk.lt {l : Loc} {x : Blk} (hx : x.isDead = false) (hb : BlkOk B ρ w l x) : l.blk < w.heap.size := by
  cases x with
  | cells own cs => obtain ⟨C, T, fr, h1, _⟩ := hb; exact blk_lt h1
  | dead => cases hx
  | map es clock => obtain ⟨us, h1, _⟩ := hb; exact blk_lt h1
  | iter m since seen stepped => obtain ⟨m', h1, _⟩ := hb; exact blk_lt h1
  | chan cap buf => obtain ⟨us, p, q, h1, _⟩ := hb; exact blk_lt h1

theorem Rel.drawn (R : Rel B w0 ρ h w) (d : Nat) : Rel B w0 ρ h { w with drawn := d } :=
  R.world (w' := { w with drawn := d }) ⟨rfl, rfl, rfl, Nat.le_refl _, fun _ _ => rfl⟩ fun _ _ _ _ _ _ => SameAt.of_eq rfl

theorem mkBlk_inv {y : Blk} {b : Nat} (R : Rel B w0 ρ h w) (hr : (mkBlk tok slot y).run h = some (b, h')) :
    ρ b = none ∧ h'[b]? = some (some y) ∧ (∀ i : Nat, h'.length ≤ i → h.length ≤ i) ∧ ∀ i : Nat, i ≠ b → h'[i]? = h[i]? := by
  cases slot with
  | none =>
    simp only [mkBlk, IM.run, Option.some.injEq, Prod.mk.injEq] at hr
    obtain ⟨rfl, rfl⟩ := hr
    refine ⟨R.dom _ (Nat.le_refl _), by simp, fun i hi => by simp at hi; omega, fun i hi => ?_⟩
    rcases Nat.lt_trichotomy i h.length with h1 | h1 | h1
    · rw [List.getElem?_append_left h1]
    · exact absurd h1 hi
    · rw [List.getElem?_eq_none (by simp; omega), List.getElem?_eq_none (by omega)]
  | some k =>
    simp only [mkBlk, IM.run] at hr
    split at hr
    · rename_i he
      simp only [Option.some.injEq, Prod.mk.injEq] at hr
      obtain ⟨rfl, rfl⟩ := hr
      have hlt : tok + k < h.length := by
        rcases Nat.lt_or_ge (tok + k) h.length with h1 | h1
        · exact h1
        · rw [List.getElem?_eq_none h1] at he; cases he
      exact ⟨R.empty _ he, by simp [hlt], fun i hi => by simpa using hi, fun i hi => by simp [Ne.symm hi]⟩
    · cases hr

theorem make_rel {y : Blk} {b : Nat} {l : Loc} {x : Obj} (d : Nat) (R : Rel B w0 ρ h w) (hr : (mkBlk tok slot y).run h = some (b, h')) (hl : l.blk = w.heap.size)
    (hy : BlkOk B (upd ρ b l) (pushW w x d) l y) : Ext ρ (upd ρ b l) ∧ Rel B w0 (upd ρ b l) h' (pushW w x d) := by
  obtain ⟨h1, h2, h3, h4⟩ := mkBlk_inv R hr
  have hold : ∀ i, i < w.heap.size → (pushW w x d).heap[i]? = w.heap[i]? := fun i hi => by
    simp only [pushW, Array.getElem?_push]; rw [if_neg (by omega)]
  refine ⟨upd_ext l h1, R.fresh h1 h2 h3 h4 ⟨rfl, rfl, rfl, by simp [pushW], fun k hk => hold k (by have := R.bound; omega)⟩ ?_ hy ?_⟩
  · intro i z k hz hz0 hk
    obtain ⟨k', hk', hb⟩ := R.live i z hz
    rw [hk] at hk'; injection hk' with hk'; subst hk'
    exact SameAt.of_eq (hold _ (hb.lt hz0))
  · intro i z k hz hz0 hk
    obtain ⟨k', hk', hb⟩ := R.live i z hz
    rw [hk] at hk'; injection hk' with hk'; subst hk'
    have := hb.lt hz0
    left; omega

theorem push_new (w : World) (x : Obj) (d : Nat) : (pushW w x d).heap[w.heap.size]? = some x := by simp [pushW]

/-- A new row of cells. -/
theorem cells_ok {ρ' : LMap} {cs : List V} {C : Array Value} {T : TypeId} {fr : Nat × Nat} {d n : Nat} (R : Rel B w0 ρ h w) (hn : cs.length = n) (hc : VRelL ρ' cs (C.toList.take n)) (hle : n ≤ C.size)
    (hfr : ∀ i, i < C.size → ¬(fr.1 ≤ i ∧ i < fr.2)) (hone : allOne cs = true) : BlkOk B ρ' (pushW w (.cells C T fr) d) ⟨w.heap.size, 0, n, C.size⟩ (.cells true cs) :=
  ⟨C, T, fr, push_new _ _ _, hn, hle, by simp, by simpa using hc, ⟨fun _ => ⟨R.bound, fun i _ hi => hfr i (by simpa using hi)⟩, hone⟩⟩

theorem ofCells_one : ∀ {us : List Value} {vs : List V}, V.ofCells us = some vs → allOne vs = true
  | [], _, h => by simp [V.ofCells] at h; subst h; rfl
  | u :: us, _, h => by
    simp only [V.ofCells] at h
    split at h
    · rename_i x xs hx hxs
      simp at h; subst h
      have h1 : x.one = true := by
        unfold V.ofCell at hx
        split at hx <;> first | (injection hx with hx; subst hx; rfl) | cases hx
      have h2 : allOne xs = true := ofCells_one hxs
      unfold allOne at h2 ⊢
      rw [List.all_cons, h1, h2]; rfl
    · cases h
theorem allOne_append {xs ys : List V} (h1 : allOne xs = true) (h2 : allOne ys = true) : allOne (xs ++ ys) = true := by
  unfold allOne at *; rw [List.all_append, h1, h2]; rfl
theorem allOne_take {xs : List V} (n : Nat) (h1 : allOne xs = true) : allOne (xs.take n) = true :=
  List.all_eq_true.2 fun x hx => List.all_eq_true.1 h1 x (List.mem_of_mem_take hx)
theorem allOne_drop {xs : List V} (n : Nat) (h1 : allOne xs = true) : allOne (xs.drop n) = true :=
  List.all_eq_true.2 fun x hx => List.all_eq_true.1 h1 x (List.mem_of_mem_drop hx)
theorem allOne_reps {xs : List V} (h1 : allOne xs = true) : ∀ n : Nat, allOne (List.replicate n xs).flatten = true
  | 0 => rfl
  | n + 1 => by rw [List.replicate_succ, List.flatten_cons]; exact allOne_append h1 (allOne_reps h1 n)
theorem cZero_one {t : TypeId} {z : List V} (hz : cZero P t = some z) : allOne z = true := by
  obtain ⟨i, zv, h1, h2, h3⟩ := cZero_info hz
  exact ofCells_one h3

theorem alloc_sound {t : TypeId} {z : List V} (ho : o.op = .alloc t) (hz : cZero P t = some z) (hr : (iop P rc tok slot e (.alloc z)).run h = some (v, h')) (R : Rel B w0 ρ h w) :
    Good B w0 ρ v h' ((execOp a.eval o).run P w) := by
  simp only [iop] at hr
  obtain ⟨b, h1, hm, hr2⟩ := IM.run_bind_some hr
  clear hr
  obtain ⟨rfl, rfl⟩ := pure_inv hr2
  obtain ⟨i, zv, g1, g2, g3⟩ := cZero_info hz
  have hrel : VRelL (upd ρ b ⟨w.heap.size, 0, z.length, zv.cells.size⟩) z zv.cells.toList := VRelL_ofCells g3
  have hlen := VRelL_length hrel
  simp only [Array.length_toList] at hlen
  obtain ⟨he, hR⟩ := make_rel (l := ⟨w.heap.size, 0, z.length, zv.cells.size⟩) (x := .cells zv.cells t (0, 0)) w.drawn R hm rfl
    (cells_ok R rfl (by rw [List.take_of_length_le (by simp; omega)]; exact hrel) (by omega) (fun i _ => by simp) (ofCells_one g3))
  refine ⟨_, .pointer (some ⟨w.heap.size, 0, none⟩), _, .inl ?_, he, ?_, hR⟩
  · simp only [execOp, ho, Instr.alloc, Sem.run_bind, run_zeroValue g1 g2, Result.andThen_ok, newVar, newRow, run_newObj, Sem.run_pure]
    rfl
  · simp only [VRel]; exact ⟨_, by simp [upd]; rfl, by simp⟩

theorem box_sound {t : TypeId} {x : Operand} {y : Opd} (ho : o.op = .box t x) (hy : cOpd x = some y) (hr : (iop P rc tok slot e (.box y)).run h = some (v, h')) (he : EnvRel ρ e a) (R : Rel B w0 ρ h w) :
    Good B w0 ρ v h' ((execOp a.eval o).run P w) := by
  simp only [iop] at hr
  split at hr
  · rename_i hone
    obtain ⟨b, h1, hm, hr2⟩ := IM.run_bind_some hr
    clear hr
    obtain ⟨rfl, rfl⟩ := pure_inv hr2
    have hx := VRel_cells (ev_rel hy he)
    have hlen := VRelL_length hx
    simp only [Array.length_toList] at hlen
    have hext := upd_ext (b := b) ⟨w.heap.size, 0, (y.ev e).cells.length, (a.eval x).cells.size⟩ (mkBlk_inv R hm).1
    obtain ⟨he2, hR⟩ := make_rel (l := ⟨w.heap.size, 0, (y.ev e).cells.length, (a.eval x).cells.size⟩) (x := .cells (a.eval x).cells t (0, 0)) w.drawn R hm rfl
      (cells_ok R rfl (by rw [List.take_of_length_le (by simp; omega)]; exact hx.ext hext) (by omega) (fun i _ => by simp) hone)
    refine ⟨_, .pointer (some ⟨w.heap.size, 0, none⟩), _, .inl ?_, he2, ?_, hR⟩
    · simp only [execOp, ho, Instr.box, newVar, newRow, Sem.run_bind, run_newObj, Result.andThen_ok, Sem.run_pure]
      rfl
    · simp only [VRel]; exact ⟨_, by simp [upd]; rfl, by simp⟩
  · simp at hr

/-! ### Zeros -/
theorem flatten_rep_get {α : Type} (l : List α) : ∀ (n i : Nat), (List.replicate n l).flatten[i]? = if i < n * l.length then l[i % l.length]? else none
  | 0, i => by simp
  | n + 1, i => by
    rw [List.replicate_succ, List.flatten_cons]
    by_cases h1 : i < l.length
    · rw [List.getElem?_append_left h1, if_pos (by rw [Nat.succ_mul]; omega), Nat.mod_eq_of_lt h1]
    · rw [List.getElem?_append_right (by omega), flatten_rep_get l n (i - l.length)]
      have e1 : (i - l.length < n * l.length) ↔ (i < (n + 1) * l.length) := by rw [Nat.succ_mul]; omega
      by_cases h2 : i < (n + 1) * l.length
      · rw [if_pos (e1.2 h2), if_pos h2, Nat.mod_eq_sub_mod (by omega : i ≥ l.length)]
      · rw [if_neg (fun hh => h2 (e1.1 hh)), if_neg h2]

theorem zeros_list (z : Array Value) (n : Nat) : ((Array.range (n * z.size)).map fun i => z[i % z.size]!).toList = (List.replicate n z.toList).flatten := by
  apply List.ext_getElem?
  intro i
  rw [flatten_rep_get, Array.toList_map, List.getElem?_map, Array.length_toList]
  by_cases h1 : i < n * z.size
  · have hpos : 0 < z.size := by
      rcases Nat.eq_zero_or_pos z.size with h2 | h2
      · rw [h2] at h1; omega
      · exact h2
    have hm : i % z.size < z.size := Nat.mod_lt _ hpos
    rw [if_pos h1]
    simp [h1, hm]
  · rw [if_neg h1]
    simp; omega

theorem VRelL_reps {z : List V} {us : List Value} (hz : VRelL ρ z us) : ∀ n : Nat, VRelL ρ (List.replicate n z).flatten (List.replicate n us).flatten
  | 0 => by simp [VRelL_nil]
  | n + 1 => by simpa [List.replicate_succ] using VRelL_append hz (VRelL_reps hz n)

theorem cZero_size {t : TypeId} {z : List V} (hz : cZero P t = some z) : ∃ zv, (∀ w, (zeroValue t).run P w = .ok zv w) ∧ (∀ ρ, VRelL ρ z zv.cells.toList) ∧ zv.cells.size = z.length := by
  obtain ⟨i, zv, h1, h2, h3⟩ := cZero_info hz
  refine ⟨zv, run_zeroValue h1 h2, fun ρ => VRelL_ofCells h3, ?_⟩
  have := VRelL_length (VRelL_ofCells (ρ := fun _ => none) h3)
  simpa using this.symm

theorem buildSlice_sound {t el : TypeId} {n len : Nat} {parts : Array (Nat × Operand)} {qs : List (Nat × Nat × Opd)} {z : List V} (ho : o.op = .buildSlice t len parts) (ht : P.underlying t = some (.slice el))
    (hn : cElem P el = some n) (hz : cZero P el = some z) (hzn : z.length = n) (hle : len * n ≤ 4096) (hq : cParts (fun i => some (i * n, n)) parts.toList = some qs)
    (hr : (iop P rc tok slot e (.buildSlice n len (List.replicate len z).flatten qs)).run h = some (v, h')) (he : EnvRel ρ e a) (R : Rel B w0 ρ h w) :
    Good B w0 ρ v h' ((execOp a.eval o).run P w) := by
  simp only [iop] at hr
  split at hr
  · rename_i cs hcs
    split at hr
    · rename_i hone
      obtain ⟨b, h1, hm, hr2⟩ := IM.run_bind_some hr
      clear hr
      obtain ⟨rfl, rfl⟩ := pure_inv hr2
      obtain ⟨zv, hzr, hzz, hzs⟩ := cZero_size hz
      let Z : Array Value := if len * n = 0 then #[] else zv.cells
      have hzrel : VRelL ρ (List.replicate len z).flatten ((Array.range (len * n)).map fun i => Z[i % Z.size]!).toList := by
        by_cases h0 : len * n = 0
        · rw [h0]
          have : len = 0 := by
            rcases Nat.mul_eq_zero.1 h0 with h2 | h2
            · exact h2
            · obtain ⟨_, _, _, hp, _⟩ := cElem_info hn; omega
          subst this; simp [VRelL_nil]
        · have hZ : Z = zv.cells := by simp [Z, h0]
          rw [hZ, show len * n = len * zv.cells.size by rw [hzs, hzn], zeros_list]
          exact VRelL_reps (hzz ρ) len
      obtain ⟨xs', hfill, hrel⟩ := fill_rel he hq hzrel hcs
      have hlen := VRelL_length hrel
      simp only [Array.length_toList] at hlen
      have hext := upd_ext (b := b) ⟨w.heap.size, 0, cs.length, xs'.size⟩ (mkBlk_inv R hm).1
      obtain ⟨he2, hR⟩ := make_rel (l := ⟨w.heap.size, 0, cs.length, xs'.size⟩) (x := .cells xs' el (0, 0)) w.drawn R hm rfl
        (cells_ok R rfl (by rw [List.take_of_length_le (by simp; omega)]; exact hrel.ext hext) (by omega) (fun i _ => by simp) hone)
      -- the length of what was filled
      have hcslen : cs.length = len * n := by
        have : ∀ {ps : List (Nat × Nat × Opd)} {xs ys : List V}, fillParts e ps xs = some ys → ys.length = xs.length := by
          intro ps
          induction ps with
          | nil => intro xs ys hf; simp [fillParts] at hf; rw [hf]
          | cons p ps ih =>
            intro xs ys hf
            obtain ⟨off, size, x⟩ := p
            simp only [fillParts] at hf
            split at hf
            · rename_i hc
              rw [ih hf]; simp; omega
            · cases hf
        rw [this hcs]
        simp [hzn]
      refine ⟨_, .slice (some ⟨w.heap.size, 0, none⟩) len len, _, .inl ?_, he2, ?_, hR⟩
      · have hsm : ¬ len * n > 2 ^ 24 := by omega
        simp only [execOp, ho, Instr.buildSlice, Sem.run_bind, run_underlying ht, Result.andThen_ok, run_sizeOf' hn, Sem.run_ite, if_neg hsm]
        by_cases h0 : len * n = 0
        · have hZ : Z = #[] := by simp [Z, h0]
          rw [hZ] at hfill
          simp only [if_pos h0, Sem.run_pure, Sem.run_bind, Result.andThen_ok, Array.toList_map, hfill, newRow, run_newObj]
          rfl
        · have hZ : Z = zv.cells := by simp [Z, h0]
          rw [hZ] at hfill
          simp only [if_neg h0, Sem.run_pure, Sem.run_bind, hzr, Result.andThen_ok, Array.toList_map, hfill, newRow, run_newObj]
          rfl
      · simp only [VRel]
        exact ⟨_, _, _, by simp [upd]; rfl, rfl, Nat.le_refl _, Nat.le_refl _, by simp [hcslen], by simp [← hlen, hcslen], by simp, .inl (by simp)⟩
    · simp at hr
  · simp at hr

theorem makeMap_sound {t : TypeId} (ho : o.op = .makeMap t none) (hr : (iop P rc tok slot e .makeMap).run h = some (v, h')) (R : Rel B w0 ρ h w) :
    Good B w0 ρ v h' ((execOp a.eval o).run P w) := by
  simp only [iop] at hr
  obtain ⟨b, h1, hm, hr2⟩ := IM.run_bind_some hr
  clear hr
  obtain ⟨rfl, rfl⟩ := pure_inv hr2
  obtain ⟨he, hR⟩ := make_rel (l := ⟨w.heap.size, 0, 0, 1⟩) (x := .map #[] 0) w.drawn R hm rfl ⟨#[], push_new _ _ _, by simp [entriesRel], rfl, rfl, R.bound⟩
  refine ⟨_, .map (some w.heap.size), _, .inl ?_, he, ?_, hR⟩
  · simp only [execOp, ho, Option.map_none, Instr.makeMap, Sem.run_bind, run_newObj, Result.andThen_ok, Sem.run_pure]
    rfl
  · simp only [VRel]; exact ⟨_, by simp [upd]; rfl, rfl⟩

theorem makeChan_sound {t el : TypeId} {dir : ChanDir} {n : Nat} {x : Operand} {y : Opd} (ho : o.op = .makeChan t x) (ht : P.underlying t = some (.chan dir el)) (hn : cElem P el = some n) (hy : cOpd x = some y)
    (hr : (iop P rc tok slot e (.makeChan y)).run h = some (v, h')) (he : EnvRel ρ e a) (R : Rel B w0 ρ h w) :
    Good B w0 ρ v h' ((execOp a.eval o).run P w) := by
  have hx := ev_rel hy he
  simp only [iop] at hr
  split at hr
  · rename_i k i hv
    rw [hv] at hx
    split at hr
    · rename_i hc
      obtain ⟨b, h1, hm, hr2⟩ := IM.run_bind_some hr
      clear hr
      obtain ⟨rfl, rfl⟩ := pure_inv hr2
      have hx := VRel_int hx
      obtain ⟨inf, hi, hs, hp, hb0, hb1⟩ := cElem_info hn
      obtain ⟨he2, hR⟩ := make_rel (l := ⟨w.heap.size, 0, 0, 1⟩) (x := .chan i.toNat #[] false 0 0 false) w.drawn R hm rfl ⟨#[], 0, 0, push_new _ _ _, by simp [VRelL_nil], rfl, rfl, R.bound⟩
      refine ⟨_, .chan (some w.heap.size), _, .inl ?_, he2, ?_, hR⟩
      · have hbig : i < 2147483648 := by have := hc.2; unfold big at this; omega
        have hno : ¬ (i < 0 ∨ i > IntKind.i64.max ∨ (inf.bytes : Int) * i > 2 ^ 48 - 112) := by
          have h2 : (inf.bytes : Int) * i ≤ 4096 * 2147483648 := by
            apply Int.mul_le_mul <;> omega
          have h3 : IntKind.i64.max = 9223372036854775807 := by decide
          omega
        simp only [execOp, ho, Instr.makeChan, hx, asInt, asIntOf, Sem.run_bind, Sem.run_pure, Result.andThen_ok, run_underlying ht, run_typeInfo hi, Sem.run_ite, if_neg hno, run_newObj]
        rfl
      · simp only [VRel]; exact ⟨_, by simp [upd]; rfl, rfl⟩
    · simp at hr
  · simp at hr

theorem sameOpd_eval {x y : Operand} (hs : sameOpd x y = true) : a.eval y = a.eval x := by
  unfold sameOpd at hs
  split at hs
  · simp at hs; subst hs; rfl
  · simp at hs; obtain ⟨rfl, rfl⟩ := hs; rfl
  · cases hs

theorem makeSlice_sound {t el : TypeId} {n : Nat} {x c : Operand} {y : Opd} {z : List V} (ho : o.op = .makeSlice t x c) (hsame : sameOpd x c = true) (ht : P.underlying t = some (.slice el)) (hn : cElem P el = some n)
    (hz : cZero P el = some z) (hzn : z.length = n) (hy : cOpd x = some y)
    (hr : (iop P rc tok slot e (.makeSlice n z y)).run h = some (v, h')) (he : EnvRel ρ e a) (R : Rel B w0 ρ h w) :
    Good B w0 ρ v h' ((execOp a.eval o).run P w) := by
  have hx := ev_rel hy he
  simp only [iop] at hr
  split at hr
  · rename_i k i hv
    rw [hv] at hx
    split at hr
    · rename_i hc
      obtain ⟨b, h1, hm, hr2⟩ := IM.run_bind_some hr
      clear hr
      obtain ⟨rfl, rfl⟩ := pure_inv hr2
      have hx := VRel_int hx
      have hc' : a.eval c = .int k i := (sameOpd_eval hsame).trans hx
      obtain ⟨inf, hi, hs, hp, hb0, hb1⟩ := cElem_info hn
      obtain ⟨zv, hzr, hzz, hzs⟩ := cZero_size hz
      let Z : Array Value := if i.toNat * n = 0 then #[] else zv.cells
      let C := (Array.range (i.toNat * n)).map fun j => Z[j % Z.size]!
      have hC : VRelL (upd ρ b ⟨w.heap.size, 0, i.toNat * n, i.toNat * n⟩) (List.replicate i.toNat z).flatten C.toList := by
        by_cases h0 : i.toNat * n = 0
        · simp only [C, h0]
          have : i.toNat = 0 := by
            rcases Nat.mul_eq_zero.1 h0 with h2 | h2
            · exact h2
            · omega
          rw [this]; simp [VRelL_nil]
        · have hZ : Z = zv.cells := by simp [Z, h0]
          simp only [C]
          rw [hZ, show i.toNat * n = i.toNat * zv.cells.size by rw [hzs, hzn], zeros_list]
          exact VRelL_reps (hzz _) _
      have hCs : C.size = i.toNat * n := by simp [C]
      have hVs : (List.replicate i.toNat z).flatten.length = i.toNat * n := by simp [hzn]
      have hok : BlkOk B (upd ρ b ⟨w.heap.size, 0, i.toNat * n, i.toNat * n⟩) (pushW w (.cells C el (0, 0)) w.drawn) ⟨w.heap.size, 0, i.toNat * n, i.toNat * n⟩ (.cells true (List.replicate i.toNat z).flatten) := by
        have := cells_ok (ρ' := upd ρ b ⟨w.heap.size, 0, i.toNat * n, i.toNat * n⟩) (T := el) (fr := (0, 0)) (d := w.drawn) (C := C) R hVs (by rw [List.take_of_length_le (by simp [hCs])]; exact hC) (by omega) (fun i _ => by simp) (allOne_reps (cZero_one hz) _)
        rwa [hCs] at this
      obtain ⟨he2, hR⟩ := make_rel (l := ⟨w.heap.size, 0, i.toNat * n, i.toNat * n⟩) (x := .cells C el (0, 0)) w.drawn R hm rfl hok
      refine ⟨_, .slice (some ⟨w.heap.size, 0, none⟩) i.toNat i.toNat, _, .inl ?_, he2, ?_, hR⟩
      · have hbig : i < 2147483648 := by have := hc.2; unfold big at this; omega
        have hw : IntKind.i64.wrap i = i := IntWalk.i64_in i (by omega)
        have h2 : (inf.bytes : Int) * i ≤ 4096 * 2147483648 := by apply Int.mul_le_mul <;> omega
        have hno : ¬ (((decide (i < 0) || decide ((inf.bytes : Int) * i > 2 ^ 48)) || decide (i < 0) || decide (i > i)) = true) := by
          simp only [Bool.or_eq_true, decide_eq_true_eq]; omega
        simp only [execOp, ho, Instr.makeSlice, hx, hc', asInt, asIntOf, Sem.run_bind, Sem.run_pure, Result.andThen_ok, run_underlying ht, run_typeInfo hi, hw, Sem.run_ite, if_neg hno, run_askRoom, run_sizeOf' hn]
        by_cases h0 : i.toNat * n = 0
        · have hZ : Z = #[] := by simp [Z, h0]
          simp only [if_pos h0, Sem.run_pure, Sem.run_bind, Result.andThen_ok, newRow, run_newObj, pushW, C, hZ]
        · have hZ : Z = zv.cells := by simp [Z, h0]
          simp only [if_neg h0, Sem.run_pure, Sem.run_bind, hzr, Result.andThen_ok, newRow, run_newObj, pushW, C, hZ]
      · simp only [VRel]
        exact ⟨_, _, _, by simp [upd]; rfl, rfl, Nat.le_refl _, Nat.le_refl _, by simp, by simp, by simp, .inl (by simp)⟩
    · simp at hr
  · simp at hr

theorem strBytes_sound {s t el : TypeId} {x : Operand} {y : Opd} (ho : o.op = .convert s t x) (hs : P.underlying s = some .string) (ht : P.underlying t = some (.slice el)) (hel : P.underlying el = some (.int .u8)) (hy : cOpd x = some y)
    (hr : (iop P rc tok slot e (.strBytes y)).run h = some (v, h')) (he : EnvRel ρ e a) (R : Rel B w0 ρ h w) :
    Good B w0 ρ v h' ((execOp a.eval o).run P w) := by
  have hx := ev_rel hy he
  simp only [iop] at hr
  split at hr
  · rename_i st hv
    rw [hv] at hx; simp only [VRel] at hx
    obtain ⟨b, h1, hm, hr2⟩ := IM.run_bind_some hr
    clear hr
    obtain ⟨rfl, rfl⟩ := pure_inv hr2
    let cap := (Question.appendCap st.size 0 el).cut (w.tape w.drawn (.appendCap st.size 0 el))
    have hcap : st.size ≤ cap := by simp only [cap, Question.cut]; omega
    let elems : Array Value := st.data.map fun b => .int .u8 b.toNat
    let C := elems ++ Array.replicate (cap - st.size) (.int .u8 0)
    have hCs : C.size = cap := by
      have : st.data.size = st.size := rfl
      simp [C, elems]; omega
    have hsz : st.data.toList.length = st.size := rfl
    have hrel : ∀ ρ', VRelL ρ' (st.data.toList.map fun c => V.int .u8 c.toNat) (C.toList.take st.size) := by
      intro ρ'
      have e1 : C.toList.take st.size = st.data.toList.map fun b => Value.int .u8 b.toNat := by
        simp only [C, elems, Array.toList_append, Array.toList_map]
        rw [List.take_append_of_le_length (by simp [hsz]), List.take_of_length_le (by simp [hsz])]
      rw [e1]
      refine VRelL_of_get (by simp) fun i q hq => ?_
      rw [List.getElem?_map] at hq ⊢
      cases hg : st.data.toList[i]? with
      | none => rw [hg] at hq; cases hq
      | some q' => rw [hg] at hq; simp at hq; subst hq; exact ⟨_, rfl, by simp [VRel]⟩
    have hok := cells_ok (ρ' := upd ρ b ⟨w.heap.size, 0, st.size, C.size⟩) (T := el) (fr := (cap, cap + 1)) (d := w.drawn + 1) (C := C) (cs := st.data.toList.map fun c => V.int .u8 c.toNat) (n := st.size) R (by simp [hsz]) (hrel _) (by omega) (fun i hi => by simp only; omega) (by unfold allOne; rw [List.all_map]; exact List.all_eq_true.2 fun _ _ => rfl)
    obtain ⟨he2, hR⟩ := make_rel (l := ⟨w.heap.size, 0, st.size, C.size⟩) (x := .cells C el (cap, cap + 1)) (w.drawn + 1) R hm rfl hok
    refine ⟨_, .slice (some ⟨w.heap.size, 0, none⟩) st.size cap, _, .inl ?_, he2, ?_, hR⟩
    · have hfr : World.freeze { w with heap := w.heap.push (.cells C el), drawn := w.drawn + 1 } { block := w.heap.size, off := C.size } 1 = pushW w (.cells C el (cap, cap + 1)) (w.drawn + 1) := by
        simp only [World.freeze, pushW, if_neg (show ¬ (1 : Nat) = 0 by decide)]
        congr 1
        apply Array.ext (by simp)
        intro i h1 h2
        rw [Array.getElem_modify]
        by_cases hi : w.heap.size = i
        · subst hi; simp [hCs]
        · simp only [if_neg hi]
          rw [Array.getElem_push_lt (by simp at h1; omega), Array.getElem_push_lt (by simp at h1; omega)]
      simp only [execOp, ho, convert, Sem.run_bind, run_underlying hs, run_underlying ht, Result.andThen_ok, hx, run_underlying hel, Conv.stringToBytes, run_choose, Question.forced, Bool.false_eq_true, if_false, newRow, run_newObj, Sem.run_pure, markStringish, run_shape, World.shape?]
      simp only [Array.getElem?_push_size]
      simp only [run_freeze, Result.andThen_ok]
      rw [← hfr]
    · simp only [VRel]
      exact ⟨_, _, _, by simp [upd]; rfl, rfl, Nat.le_refl _, hcap, by simp, by simp [hCs], by simp, .inl (by simp)⟩
  · simp at hr
end
end Go.Ideal
