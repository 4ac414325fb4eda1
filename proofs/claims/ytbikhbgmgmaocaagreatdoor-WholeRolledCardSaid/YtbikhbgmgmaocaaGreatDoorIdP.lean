/-
  The ideal machine, part 7: the laws of the operations that neither read nor write memory. Conditions: none (lemmas).
-/
import Derived.Test.YtbikhbgmgmaocaaGreatDoorIdO
namespace Go.Ideal
open Go.RowKit

section
variable {P : Program} {B : Nat} {w0 : World} {ρ : LMap} {h h' : Heap} {w : World} {e : Env} {a : Act} {o : Oper}
variable {rc : Nat → List V → IM V} {tok : Nat} {slot : Option Nat} {v : V}

theorem mv_sound {x : Operand} {y : Opd} (ho : o.op = .move x ∨ o.op = .assign x) (hy : cOpd x = some y) (hr : (iop P rc tok slot e (.mv y)).run h = some (v, h')) (he : EnvRel ρ e a) (R : Rel B w0 ρ h w) :
    Good B w0 ρ v h' ((execOp a.eval o).run P w) := by
  simp only [iop] at hr
  obtain ⟨rfl, rfl⟩ := pure_inv hr
  refine Good.plain (u := a.eval x) ?_ (ev_rel hy he) R
  rcases ho with ho | ho <;> simp [execOp, ho]

theorem pick_sound {c x y : Operand} {c' x' y' : Opd} (ho : o.op = .pick c x y) (hc : cOpd c = some c') (hx : cOpd x = some x') (hy : cOpd y = some y')
    (hr : (iop P rc tok slot e (.pick c' x' y')).run h = some (v, h')) (he : EnvRel ρ e a) (R : Rel B w0 ρ h w) :
    Good B w0 ρ v h' ((execOp a.eval o).run P w) := by
  have hcr := ev_rel hc he
  simp only [iop] at hr
  split at hr
  · rename_i hcv
    rw [hcv] at hcr; simp only [VRel] at hcr
    obtain ⟨rfl, rfl⟩ := pure_inv hr
    refine Good.plain (u := a.eval x) ?_ (ev_rel hx he) R
    simp [execOp, ho, hcr, asBool]
  · rename_i hcv
    rw [hcv] at hcr; simp only [VRel] at hcr
    obtain ⟨rfl, rfl⟩ := pure_inv hr
    refine Good.plain (u := a.eval y) ?_ (ev_rel hy he) R
    simp [execOp, ho, hcr, asBool]
  · simp at hr

theorem run_part {t : TypeId} {n off : Nat} {ag : Bool} {cs : List V} {us : Array Value} (ha : cAgg P t = some ag) (hs : cSize P t = some n) (hu : VRelL ρ cs us.toList) (w : World)
    (hr : (if ag then (if off + n ≤ cs.length then (IM.pure (V.agg ((cs.drop off).take n)) : IM V) else .fail) else IM.lift cs[off]?).run h = some (v, h')) :
    h' = h ∧ ∃ u, (part t us off).run P w = .ok u w ∧ VRel ρ v u := by
  unfold part
  cases ag with
  | true =>
    simp only [if_true] at hr
    split at hr
    · rename_i hle
      obtain ⟨rfl, rfl⟩ := pure_inv hr
      refine ⟨rfl, .agg (us.extract off (off + n)), ?_, ?_⟩
      · simp [run_isAgg ha, run_sizeOf hs]
      · simp only [VRel]
        refine ⟨_, rfl, ?_⟩
        have := VRelL_take n (VRelL_drop off hu)
        simpa [List.extract_eq_take_drop] using this
    · simp at hr
  | false =>
    simp only [Bool.false_eq_true, if_false] at hr
    obtain ⟨hv, rfl⟩ := lift_inv hr
    obtain ⟨u, h1, h2⟩ := VRelL_get hu off v hv
    refine ⟨rfl, u, ?_, h2⟩
    have h3 : us[off]? = some u := by simpa using h1
    simp [run_isAgg ha, h3]

theorem field_sound {t : TypeId} {x : Operand} {f n : Nat} {ag : Bool} {y : Opd} {fields : Array Field} {fd : Field} (ho : o.op = .field t x f) (ht : P.underlying t = some (.struct fields))
    (hf : fields[f]? = some fd) (hs : cSize P fd.type = some n) (ha : cAgg P fd.type = some ag) (hy : cOpd x = some y)
    (hr : (iop P rc tok slot e (.field fd.offset n ag y)).run h = some (v, h')) (he : EnvRel ρ e a) (R : Rel B w0 ρ h w) :
    Good B w0 ρ v h' ((execOp a.eval o).run P w) := by
  have hx := ev_rel hy he
  simp only [iop] at hr
  split at hr
  · rename_i cs hcs
    rw [hcs] at hx; simp only [VRel] at hx
    obtain ⟨us, hu, hus⟩ := hx
    obtain ⟨rfl, u, h1, h2⟩ := run_part ha hs hus w hr
    refine Good.plain (u := u) ?_ h2 R
    simp [execOp, ho, Instr.field, run_underlying ht, hf, hu, asAgg, h1]
  · simp at hr

theorem extract_sound {x : Operand} {i : Nat} {y : Opd} (ho : o.op = .extract x i) (hy : cOpd x = some y)
    (hr : (iop P rc tok slot e (.extract i y)).run h = some (v, h')) (he : EnvRel ρ e a) (R : Rel B w0 ρ h w) :
    Good B w0 ρ v h' ((execOp a.eval o).run P w) := by
  have hx := ev_rel hy he
  simp only [iop] at hr
  split at hr
  · rename_i cs hcs
    rw [hcs] at hx; simp only [VRel] at hx
    obtain ⟨us, hu, hus⟩ := hx
    obtain ⟨hv, rfl⟩ := lift_inv hr
    obtain ⟨u, h1, h2⟩ := VRelL_get hus i v hv
    have h3 : us[i]? = some u := by simpa using h1
    refine Good.plain (u := u) ?_ h2 R
    simp [execOp, ho, Instr.extract, hu, h3]
  · simp at hr

/-! ### Aggregates built -/
theorem VRelL_splice {vs cs : List V} {us xs : List Value} {off : Nat} (h1 : VRelL ρ vs us) (h2 : VRelL ρ cs xs) : VRelL ρ (splice off vs cs) (splice off us xs) := by
  unfold splice
  rw [VRelL_length h1]
  exact VRelL_append (VRelL_append (VRelL_take _ h2) h1) (VRelL_drop _ h2)

theorem foldl_splice (off : Nat) : ∀ (us : List Value) (k : Nat) (cs : Array Value), off + k + us.length ≤ cs.size →
    ((us.zipIdx k).foldl (fun cs p => cs.setIfInBounds (off + p.2) p.1) cs).toList = splice (off + k) us cs.toList
  | [], k, cs, _ => by simp [splice]
  | u :: us, k, cs, hb => by
    simp only [List.length_cons] at hb
    rw [List.zipIdx_cons, List.foldl_cons, foldl_splice off us (k + 1) _ (by simp; omega)]
    have := splice_cons (o := off + k) (v := u) (vs := us) (cs := cs.toList) (by simpa using (by omega : off + k + (us.length + 1) ≤ cs.size))
    simpa [Nat.add_assoc] using this

theorem foldl_zip (off : Nat) (us cs : Array Value) (hb : off + us.size ≤ cs.size) :
    (us.zipIdx.foldl (fun cs p => cs.setIfInBounds (off + p.2) p.1) cs).toList = splice off us.toList cs.toList := by
  rw [← Array.foldl_toList, Array.toList_zipIdx]
  exact foldl_splice off us.toList 0 cs (by simpa using hb)

theorem fill_rel {place : Nat → Option (Nat × Nat)} (he : EnvRel ρ e a) : ∀ {ps : List (Nat × Operand)} {qs : List (Nat × Nat × Opd)} {cs : List V} {xs : Array Value} {cs' : List V},
    cParts place ps = some qs → VRelL ρ cs xs.toList → fillParts e qs cs = some cs' →
    ∃ xs', Instr.fill place xs (ps.map fun p => (p.1, a.eval p.2)) = some xs' ∧ VRelL ρ cs' xs'.toList
  | [], _, cs, xs, cs', hp, hx, hf => by
    simp [cParts] at hp; subst hp
    simp [fillParts] at hf; subst hf
    exact ⟨xs, rfl, hx⟩
  | (i, x) :: ps, _, cs, xs, cs', hp, hx, hf => by
    simp only [cParts] at hp
    split at hp
    · rename_i off size y qs hpl hy hqs
      injection hp with hp; subst hp
      simp only [fillParts] at hf
      split at hf
      · rename_i hc
        have h1 := VRel_cells (ev_rel hy he)
        have h2 := VRelL_length h1
        have h3 := VRelL_length hx
        simp only [Array.length_toList] at h2 h3
        have hsz : (a.eval x).cells.size = size := by omega
        have hle : off + (a.eval x).cells.size ≤ xs.size := by omega
        have hsp : VRelL ρ (cs.take off ++ (y.ev e).cells ++ cs.drop (off + size)) ((a.eval x).cells.zipIdx.foldl (fun cs p => cs.setIfInBounds (off + p.2) p.1) xs).toList := by
          rw [foldl_zip off _ xs hle, ← hc.1]
          exact VRelL_splice h1 hx
        obtain ⟨xs', h4, h5⟩ := fill_rel he hqs hsp hf
        refine ⟨xs', ?_, h5⟩
        simp only [List.map_cons, Instr.fill, hpl]
        rw [if_neg (by simp only [Bool.or_eq_true, decide_eq_true_eq]; omega)]
        exact h4
      · cases hf
    · cases hp

theorem cFields_run {fields : Array Field} {f : Field} {i off n : Nat} (hf : fields[i]? = some f) (hp : cFields P fields i = some (off, n)) : off = f.offset ∧ cSize P f.type = some n := by
  unfold cFields at hp
  rw [hf] at hp
  simp only [Option.map_eq_some_iff] at hp
  obtain ⟨m, hm, he⟩ := hp
  injection he with h1 h2; subst h1 h2
  exact ⟨rfl, hm⟩

theorem mapM_places {fields : List Field} {w : World} (hall : ∀ f ∈ fields, ∃ n, cSize P f.type = some n) :
    ∃ ps, (fields.mapM fun f => (do pure (f.offset, ← sizeOf f.type) : Sem (Nat × Nat))).run P w = .ok ps w ∧
      ∀ i : Nat, ps[i]? = (fields[i]?).bind fun f => (cSize P f.type).map fun n => (f.offset, n) := by
  induction fields with
  | nil => exact ⟨[], by simp, by simp⟩
  | cons f fs ih =>
    obtain ⟨ps, h1, h2⟩ := ih fun f hf => hall f (by simp [hf])
    obtain ⟨n, hn⟩ := hall f (by simp)
    refine ⟨(f.offset, n) :: ps, ?_, fun i => ?_⟩
    · simp only [List.mapM_cons, Sem.run_bind, run_sizeOf hn, Result.andThen_ok, Sem.run_pure, h1]
    · cases i with
      | zero => simp [hn]
      | succ i => simpa using h2 i

theorem VRel_agg {cs : List V} {u : Value} (hx : VRel ρ (.agg cs) u) : ∃ us, u = .agg us ∧ VRelL ρ cs us.toList := by simpa only [VRel] using hx
theorem VRel_ptr {b off : Nat} {u : Value} (hx : VRel ρ (.ptr b off) u) : ∃ l, ρ b = some l ∧ u = .pointer (some ⟨l.blk, l.off + off, none⟩) := by simpa only [VRel] using hx
theorem VRel_int {k : IntKind} {n : Int} {u : Value} (hx : VRel ρ (.int k n) u) : u = .int k n := by simpa only [VRel] using hx

theorem build_zero {t : TypeId} {z : List V} (hz : cZero P t = some z) : ∃ zv, (∀ w, (zeroValue t).run P w = .ok zv w) ∧ VRelL ρ z zv.cells.toList := by
  obtain ⟨i, zv, h1, h2, h3⟩ := cZero_info hz
  exact ⟨zv, run_zeroValue h1 h2, VRelL_ofCells h3⟩

theorem build_sound_struct {t : TypeId} {parts : Array (Nat × Operand)} {qs : List (Nat × Nat × Opd)} {z : List V} {fields : Array Field} (ho : o.op = .build t parts) (ht : P.underlying t = some (.struct fields))
    (hz : cZero P t = some z) (hall : fields.toList.all (fun f => (cSize P f.type).isSome) = true) (hq : cParts (cFields P fields) parts.toList = some qs)
    (hr : (iop P rc tok slot e (.build z qs)).run h = some (v, h')) (he : EnvRel ρ e a) (R : Rel B w0 ρ h w) :
    Good B w0 ρ v h' ((execOp a.eval o).run P w) := by
  simp only [iop] at hr
  split at hr
  · rename_i cs hcs
    obtain ⟨rfl, rfl⟩ := pure_inv hr
    obtain ⟨zv, hzr, hzz⟩ := build_zero (ρ := ρ) hz
    obtain ⟨ps, hm, hps⟩ := mapM_places (P := P) (fields := fields.toList) (w := w) fun f hf => by
      have := List.all_eq_true.1 hall f hf
      exact Option.isSome_iff_exists.1 this
    obtain ⟨xs', hfill, hrel⟩ := fill_rel he hq hzz hcs
    have hpl : (fun i => (ps.toArray)[i]?) = cFields P fields := by
      funext i
      have := hps i
      simp only [cFields]
      rw [List.getElem?_toArray, this]
      cases hfi : fields[i]? with
      | none => simp [hfi]
      | some f => simp [hfi]
    refine Good.plain (u := .agg xs') ?_ (by simp only [VRel]; exact ⟨_, rfl, hrel⟩) R
    have hm' : (fields.mapM fun f => (do pure (f.offset, ← sizeOf f.type) : Sem (Nat × Nat))).run P w = .ok ps.toArray w := by
      rw [Array.mapM_eq_mapM_toList]
      simp only [Sem.run_map, hm, Result.andThen_ok]
    simp only [execOp, ho, Instr.build, Sem.run_bind, hzr, Result.andThen_ok, run_underlying ht, hm', hpl]
    simp only [Array.toList_map, hfill]
    simp
  · simp at hr

theorem build_sound_array {t el : TypeId} {len n : Nat} {parts : Array (Nat × Operand)} {qs : List (Nat × Nat × Opd)} {z : List V} (ho : o.op = .build t parts) (ht : P.underlying t = some (.array len el))
    (hz : cZero P t = some z) (hn : cSize P el = some n) (hq : cParts (fun i => some (i * n, n)) parts.toList = some qs)
    (hr : (iop P rc tok slot e (.build z qs)).run h = some (v, h')) (he : EnvRel ρ e a) (R : Rel B w0 ρ h w) :
    Good B w0 ρ v h' ((execOp a.eval o).run P w) := by
  simp only [iop] at hr
  split at hr
  · rename_i cs hcs
    obtain ⟨rfl, rfl⟩ := pure_inv hr
    obtain ⟨zv, hzr, hzz⟩ := build_zero (ρ := ρ) hz
    obtain ⟨xs', hfill, hrel⟩ := fill_rel he hq hzz hcs
    refine Good.plain (u := .agg xs') ?_ (by simp only [VRel]; exact ⟨_, rfl, hrel⟩) R
    simp only [execOp, ho, Instr.build, Sem.run_bind, hzr, Result.andThen_ok, run_underlying ht, run_sizeOf hn]
    simp only [Array.toList_map, hfill]
    simp
  · simp at hr

theorem mkFn_sound {f : Fn} {x y : Array Operand} {x' y' : List Opd} (ho : o.op = .makeFunc f x y) (hx : cOpds x.toList = some x') (hy : cOpds y.toList = some y')
    (hr : (iop P rc tok slot e (.mkFn f x' y')).run h = some (v, h')) (he : EnvRel ρ e a) (R : Rel B w0 ρ h w) :
    Good B w0 ρ v h' ((execOp a.eval o).run P w) := by
  simp only [iop] at hr
  obtain ⟨rfl, rfl⟩ := pure_inv hr
  refine Good.plain (u := .func f (x.map a.eval) (y.map a.eval)) ?_ ?_ R
  · simp [execOp, ho, Instr.makeFunc]
  · simp only [VRel]
    exact ⟨_, _, rfl, by simpa using evs_rel hx he, by simpa using evs_rel hy he⟩

theorem fieldAddr_sound {t : TypeId} {x : Operand} {f n : Nat} {y : Opd} {fields : Array Field} {fd : Field} (ho : o.op = .fieldAddr t x f) (ht : P.underlying t = some (.struct fields))
    (hf : fields[f]? = some fd) (hs : cSize P fd.type = some n) (hn : 0 < n) (hy : cOpd x = some y)
    (hr : (iop P rc tok slot e (.fieldAddr fd.offset y)).run h = some (v, h')) (he : EnvRel ρ e a) (R : Rel B w0 ρ h w) :
    Good B w0 ρ v h' ((execOp a.eval o).run P w) := by
  have hx := ev_rel hy he
  simp only [iop] at hr
  split at hr
  · rename_i b off hcs
    obtain ⟨rfl, rfl⟩ := pure_inv hr
    rw [hcs] at hx
    obtain ⟨l, hl, hu⟩ := VRel_ptr hx
    refine Good.plain (u := .pointer (some ⟨l.blk, l.off + (off + fd.offset), none⟩)) ?_ (by simp only [VRel]; exact ⟨l, hl, rfl⟩) R
    have hne : ¬ n = 0 := by omega
    simp only [execOp, ho, Instr.fieldAt, Sem.run_bind, run_underlying ht, Result.andThen_ok, hf, hu, Instr.sureAddr, Sem.run_pure, fieldPlace, run_sizeOf hs, if_neg hne, add_eq]
    simp [Nat.add_assoc]
  · simp at hr

theorem indexAddr_sound {t el : TypeId} {x i : Operand} {n : Nat} {x' i' : Opd} (ho : o.op = .indexAddr t x i) (ht : P.underlying t = some (.slice el)) (hn : cElem P el = some n)
    (hx : cOpd x = some x') (hi : cOpd i = some i')
    (hr : (iop P rc tok slot e (.indexAddr n x' i')).run h = some (v, h')) (he : EnvRel ρ e a) (R : Rel B w0 ρ h w) :
    Good B w0 ρ v h' ((execOp a.eval o).run P w) := by
  have hxr := ev_rel hx he
  have hir := ev_rel hi he
  simp only [iop] at hr
  split at hr
  · rename_i b off sz' len cap more k j hxv hiv
    split at hr
    · rename_i hc
      obtain ⟨rfl, hj0, hj1⟩ := hc
      obtain ⟨rfl, rfl⟩ := pure_inv hr
      rw [hxv] at hxr; rw [hiv] at hir
      simp only [VRel] at hxr hir
      obtain ⟨l, ad, m, hl, hu, h1, h2, h3, h4, h5, h6⟩ := hxr
      have had : ad = ⟨l.blk, l.off + off, none⟩ := by
        rcases h6 with h6 | h6
        · exact h6
        · omega
      subst had
      refine Good.plain (u := .pointer (some ⟨l.blk, l.off + (off + j.toNat * sz'), none⟩)) ?_ (by simp only [VRel]; exact ⟨l, hl, rfl⟩) R
      simp only [execOp, ho, Instr.indexAt, Sem.run_bind, run_underlying ht, Result.andThen_ok, hu, hir, asIntOf, Sem.run_pure, Sem.run_ite, if_pos (And.intro hj0 hj1), run_sizeOf' hn, add_eq]
      simp [Nat.add_assoc]
    · simp at hr
  · simp at hr

theorem indexAddrA_sound {t el : TypeId} {len : Nat} {x i : Operand} {n : Nat} {x' i' : Opd} (ho : o.op = .indexAddr t x i) (ht : P.underlying t = some (.array len el)) (hn : cElem P el = some n)
    (hx : cOpd x = some x') (hi : cOpd i = some i')
    (hr : (iop P rc tok slot e (.indexAddrA len n x' i')).run h = some (v, h')) (he : EnvRel ρ e a) (R : Rel B w0 ρ h w) :
    Good B w0 ρ v h' ((execOp a.eval o).run P w) := by
  have hxr := ev_rel hx he
  have hir := ev_rel hi he
  simp only [iop] at hr
  split at hr
  · rename_i b off k j hxv hiv
    split at hr
    · rename_i hc
      obtain ⟨hj0, hj1⟩ := hc
      obtain ⟨rfl, rfl⟩ := pure_inv hr
      rw [hxv] at hxr; rw [hiv] at hir
      obtain ⟨l, hl, hu⟩ := VRel_ptr hxr
      have hir := VRel_int hir
      refine Good.plain (u := .pointer (some ⟨l.blk, l.off + (off + j.toNat * n), none⟩)) ?_ (by simp only [VRel]; exact ⟨l, hl, rfl⟩) R
      simp only [execOp, ho, Instr.indexAt, Sem.run_bind, run_underlying ht, Result.andThen_ok, hu, hir, asIntOf, Instr.sureAddr, Sem.run_pure, Sem.run_ite, if_pos (And.intro hj0 hj1), run_sizeOf' hn, add_eq]
      simp [Nat.add_assoc]
    · simp at hr
  · simp at hr

theorem nilCheck_sound {x : Operand} {y : Opd} (ho : o.op = .nilCheck x) (hy : cOpd x = some y) (hr : (iop P rc tok slot e (.nilCheck y)).run h = some (v, h')) (he : EnvRel ρ e a) (R : Rel B w0 ρ h w) :
    Good B w0 ρ v h' ((execOp a.eval o).run P w) := by
  have hx := ev_rel hy he
  simp only [iop] at hr
  split at hr
  · rename_i b off hcs
    obtain ⟨rfl, rfl⟩ := pure_inv hr
    rw [hcs] at hx
    obtain ⟨l, hl, hu⟩ := VRel_ptr hx
    refine Good.plain (u := a.eval x) ?_ (by rw [hu]; simp only [VRel]; exact ⟨l, hl, rfl⟩) R
    simp [execOp, ho, hu]
  · simp at hr

theorem arrayPtr_sound {t el : TypeId} {len n : Nat} {x : Operand} {y : Opd} (ho : o.op = .sliceToArrayPointer t x) (ht : P.underlying t = some (.array len el)) (hy : cOpd x = some y)
    (hr : (iop P rc tok slot e (.arrayPtr len n y)).run h = some (v, h')) (he : EnvRel ρ e a) (R : Rel B w0 ρ h w) :
    Good B w0 ρ v h' ((execOp a.eval o).run P w) := by
  have hx := ev_rel hy he
  simp only [iop] at hr
  split at hr
  · rename_i b off sz' k cap more hcs
    split at hr
    · rename_i hc
      obtain ⟨rfl, hc0, hc1⟩ := hc
      obtain ⟨rfl, rfl⟩ := pure_inv hr
      rw [hcs] at hx
      simp only [VRel] at hx
      obtain ⟨l, ad, m, hl, hu, h1, h2, h3, h4, h5, h6⟩ := hx
      have had : ad = ⟨l.blk, l.off + off, none⟩ := by
        rcases h6 with h6 | h6
        · exact h6
        · omega
      subst had
      refine Good.plain (u := .pointer (some ⟨l.blk, l.off + off, none⟩)) ?_ (by simp only [VRel]; exact ⟨l, hl, rfl⟩) R
      simp only [execOp, ho, Instr.arrayAt, Sem.run_bind, run_underlying ht, Result.andThen_ok, hu, if_neg (show ¬ k < len by omega), Sem.run_pure]
    · simp at hr
  · simp at hr

theorem lenSlice_sound {x : Operand} {t el : TypeId} {y : Opd} {c : Call} (ho : o.op = .call c) (hc : c.callee = .builtin .len) (hx : c.args.toList = [x]) (hts : c.argTypes.toList = [t]) (ht : P.underlying t = some (.slice el)) (hy : cOpd x = some y)
    (hr : (iop P rc tok slot e (.lenSlice y)).run h = some (v, h')) (he : EnvRel ρ e a) (R : Rel B w0 ρ h w) :
    Good B w0 ρ v h' ((execOp a.eval o).run P w) := by
  have hxr := ev_rel hy he
  have e1 : c.args = #[x] := by apply Array.ext'; simpa using hx
  have e2 : c.argTypes = #[t] := by apply Array.ext'; simpa using hts
  simp only [iop] at hr
  split at hr
  · rename_i hcs
    obtain ⟨rfl, rfl⟩ := pure_inv hr
    rw [hcs] at hxr; simp only [VRel] at hxr
    refine Good.plain (u := .int .i64 0) ?_ (by simp [VRel]) R
    simp [execOp, ho, resolve, hc, e1, e2, invoke, builtin, Builtin.len_, run_underlying ht, hxr, goInt]
  · rename_i b off sz n cap more hcs
    obtain ⟨rfl, rfl⟩ := pure_inv hr
    rw [hcs] at hxr; simp only [VRel] at hxr
    obtain ⟨l, ad, m, hl, hu, _⟩ := hxr
    refine Good.plain (u := .int .i64 n) ?_ (by simp [VRel]) R
    simp [execOp, ho, resolve, hc, e1, e2, invoke, builtin, Builtin.len_, run_underlying ht, hu, goInt]
  · simp at hr

theorem cap_sound {x : Operand} {t el : TypeId} {y : Opd} {c : Call} (ho : o.op = .call c) (hc : c.callee = .builtin .cap) (hx : c.args.toList = [x]) (hts : c.argTypes.toList = [t]) (ht : P.underlying t = some (.slice el)) (hy : cOpd x = some y)
    (hr : (iop P rc tok slot e (.cap y)).run h = some (v, h')) (he : EnvRel ρ e a) (R : Rel B w0 ρ h w) :
    Good B w0 ρ v h' ((execOp a.eval o).run P w) := by
  have hxr := ev_rel hy he
  have e1 : c.args = #[x] := by apply Array.ext'; simpa using hx
  have e2 : c.argTypes = #[t] := by apply Array.ext'; simpa using hts
  simp only [iop] at hr
  split at hr
  · rename_i hcs
    obtain ⟨rfl, rfl⟩ := pure_inv hr
    rw [hcs] at hxr; simp only [VRel] at hxr
    refine Good.plain (u := .int .i64 0) ?_ (by simp [VRel]) R
    simp [execOp, ho, resolve, hc, e1, e2, invoke, builtin, Builtin.cap_, run_underlying ht, hxr, goInt]
  · rename_i b off sz n cap hcs
    obtain ⟨rfl, rfl⟩ := pure_inv hr
    rw [hcs] at hxr; simp only [VRel] at hxr
    obtain ⟨l, ad, m, hl, hu, h1, h2, h3, h4, h5, h6⟩ := hxr
    have := h5 trivial; subst this
    refine Good.plain (u := .int .i64 m) ?_ (by simp [VRel]) R
    simp [execOp, ho, resolve, hc, e1, e2, invoke, builtin, Builtin.cap_, run_underlying ht, hu, goInt]
  · simp at hr

end
end Go.Ideal
