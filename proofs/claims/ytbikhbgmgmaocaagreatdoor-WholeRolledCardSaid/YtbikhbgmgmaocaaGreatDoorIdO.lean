/-
  The ideal machine, part 6: each operation's law: what the ideal machine does the model does too. Conditions: none (lemmas).
-/
import Derived.Test.YtbikhbgmgmaocaaGreatDoorIdC
import Derived.Test.YtbikhbgmgmaocaaGreatDoorIdM
import Derived.Orders
namespace Go.Ideal
open Go.RowKit

section
variable {P : Program} {B : Nat} {w0 : World} {ρ : LMap} {h h' : Heap} {w : World} {e : Env} {a : Act} {o : Oper}

/-! ### Small runs of the model -/
theorem run_underlying {t : TypeId} {d : TypeDesc} (hd : P.underlying t = some d) (w : World) : (underlying t).run P w = .ok d w := by
  simp [underlying, hd]
theorem run_typeInfo {t : TypeId} {i : TypeInfo} (hd : P.info? t = some i) (w : World) : (typeInfo t).run P w = .ok i w := by
  simp [typeInfo, hd]
theorem cSize_info {t : TypeId} {n : Nat} (hs : cSize P t = some n) : ∃ i, P.info? t = some i ∧ i.size = n := by
  unfold cSize at hs; simpa [Option.map_eq_some_iff] using hs
theorem cElem_info {t : TypeId} {n : Nat} (hs : cElem P t = some n) : ∃ i, P.info? t = some i ∧ i.size = n ∧ 0 < n ∧ 0 < i.bytes ∧ i.bytes ≤ 4096 := by
  unfold cElem at hs
  split at hs
  · rename_i i hi
    split at hs
    · rename_i hc; injection hs with hs; exact ⟨i, hi, hs, by omega, hc.2.1, hc.2.2⟩
    · cases hs
  · cases hs
theorem run_sizeOf {t : TypeId} {n : Nat} (hs : cSize P t = some n) (w : World) : (sizeOf t).run P w = .ok n w := by
  obtain ⟨i, hi, rfl⟩ := cSize_info hs
  simp [sizeOf, run_typeInfo hi]
theorem run_sizeOf' {t : TypeId} {n : Nat} (hs : cElem P t = some n) (w : World) : (sizeOf t).run P w = .ok n w := by
  obtain ⟨i, hi, rfl, _⟩ := cElem_info hs
  simp [sizeOf, run_typeInfo hi]
theorem run_isAgg {t : TypeId} {b : Bool} (hs : cAgg P t = some b) (w : World) : (isAgg t).run P w = .ok b w := by
  unfold cAgg at hs
  unfold isAgg
  cases hd : P.underlying t with
  | none => rw [hd] at hs; cases hs
  | some d =>
    rw [hd] at hs
    simp only [Sem.run_bind, run_underlying hd, Result.andThen_ok]
    cases d <;> (simp only at hs; injection hs with hs; subst hs; rfl)
theorem cZero_info {t : TypeId} {z : List V} (hz : cZero P t = some z) : ∃ i v, P.info? t = some i ∧ i.zero = some v ∧ V.ofCells v.cells.toList = some z := by
  unfold cZero at hz
  split at hz
  · rename_i i hi
    split at hz
    · rename_i v hv; exact ⟨i, v, hi, hv, hz⟩
    · cases hz
  · cases hz
theorem run_zeroValue {t : TypeId} {i : TypeInfo} {v : Value} (hi : P.info? t = some i) (hv : i.zero = some v) (w : World) : (zeroValue t).run P w = .ok v w := by
  simp [zeroValue, run_typeInfo hi, hv]

/-! ### Operands -/
def EnvRel (ρ : LMap) (e : Env) (a : Act) : Prop := VRelL ρ e a.tmps.toList

theorem EnvRel.ext {ρ' : LMap} (he : Ext ρ ρ') (h : EnvRel ρ e a) : EnvRel ρ' e a := VRelL.ext he e h

theorem EnvRel.getD (hr : EnvRel ρ e a) (t : Nat) : VRel ρ (e.getD t .undef) (a.tmps.getD t undef) := by
  have hl := VRelL_length hr
  rw [List.getD_eq_getElem?_getD, Array.getD_eq_getD_getElem?]
  cases he : e[t]? with
  | none =>
    have : a.tmps[t]? = none := by
      rw [List.getElem?_eq_none_iff] at he
      rw [Array.getElem?_eq_none]; simp at hl; omega
    rw [this]; exact VRel_undef
  | some v =>
    obtain ⟨u, hu, hv⟩ := VRelL_get hr t v he
    have : a.tmps[t]? = some u := by simpa using hu
    rw [this]; exact hv

theorem ev_rel {x : Operand} {y : Opd} (hx : cOpd x = some y) (hr : EnvRel ρ e a) : VRel ρ (y.ev e) (a.eval x) := by
  cases x with
  | tmp t => simp [cOpd] at hx; subst hx; exact hr.getD t
  | const v =>
    simp only [cOpd, Option.map_eq_some_iff] at hx
    obtain ⟨u, hu, rfl⟩ := hx
    exact VRel_ofVal hu
  | global g => simp [cOpd] at hx
  | func f => simp [cOpd] at hx; subst hx; simp only [Opd.ev, Act.eval, VRel]; exact ⟨_, _, rfl, by simp [VRelL_nil], by simp [VRelL_nil]⟩

theorem evs_rel : ∀ {xs : List Operand} {ys : List Opd}, cOpds xs = some ys → EnvRel ρ e a → VRelL ρ (ys.map (Opd.ev e)) (xs.map a.eval)
  | [], _, hx, _ => by simp [cOpds] at hx; subst hx; simp [VRelL_nil]
  | x :: xs, _, hx, hr => by
    simp only [cOpds] at hx
    split at hx
    · rename_i y ys hy hys
      injection hx with hx; subst hx
      exact VRelL_cons'.2 ⟨ev_rel hy hr, evs_rel hys hr⟩
    · cases hx

/-! ### What is shown of an operation -/
def Good (B : Nat) (w0 : World) (ρ : LMap) (v : V) (h' : Heap) (r : Result Next) : Prop :=
  ∃ ρ' u w', (r = .ok (.value u) w' ∨ r = .ok .skip w' ∧ u = undef) ∧ Ext ρ ρ' ∧ VRel ρ' v u ∧ Rel B w0 ρ' h' w'

theorem Good.plain {v : V} {u : Value} {r : Result Next} (hr : r = .ok (.value u) w) (hv : VRel ρ v u) (R : Rel B w0 ρ h w) : Good B w0 ρ v h r :=
  ⟨ρ, u, w, .inl hr, .refl ρ, hv, R⟩

theorem pureSem_run {α : Type} : ∀ {s : Sem α} {x : α}, pureSem P s = some x → ∀ w, s.run P w = .ok x w
  | .pure y, x, hs, w => by simp [pureSem] at hs; subst hs; rfl
  | .program k, x, hs, w => by simp only [pureSem] at hs; exact pureSem_run hs w
  | .load _ _ _, _, hs, _ | .store _ _ _ _, _, hs, _ | .new _ _, _, hs, _ | .shape _ _, _, hs, _ | .freeze _ _ _, _, hs, _ | .frozen _ _, _, hs, _
  | .getObj _ _, _, hs, _ | .setObj _ _ _, _, hs, _ | .choose _ _, _, hs, _ | .sys _ _, _, hs, _ | .mark _ _, _, hs, _ | .halt _, _, hs, _ => by simp [pureSem] at hs

variable {rc : Nat → List V → IM V} {tok : Nat} {slot : Option Nat} {v : V}

theorem lift_inv {α : Type} {x : Option α} {v : α} (hr : (IM.lift x).run h = some (v, h')) : x = some v ∧ h' = h := by
  cases x with
  | none => simp [IM.lift] at hr
  | some y => simp [IM.lift] at hr; exact ⟨by rw [hr.1], hr.2.symm⟩
theorem pure_inv {α : Type} {x v : α} (hr : (IM.pure x).run h = some (v, h')) : v = x ∧ h' = h := by
  simp at hr; exact ⟨hr.1.symm, hr.2.symm⟩

theorem scal_sound (hns : ∀ cs b, o.op ≠ .select cs b) (hr : (iop P rc tok slot e (.scal o)).run h = some (v, h')) (he : EnvRel ρ e a) (R : Rel B w0 ρ h w) :
    Good B w0 ρ v h' ((execOp a.eval o).run P w) := by
  simp only [iop] at hr
  split at hr
  · rename_i hall
    split at hr
    · rename_i u hp
      obtain ⟨hv, rfl⟩ := lift_inv hr
      rw [execOp_congr (ρ' := a.eval) o hns] at hp
      · exact Good.plain (pureSem_run hp w) (VRel_ofVal hv) R
      · intro x hx
        have hx1 : _ := (Array.all_eq_true_iff_forall_mem).1 hall x hx
        cases x with
        | tmp t =>
          simp only at hx1 ⊢
          cases ht : (e.getD t V.undef).toVal with
          | none => rw [ht] at hx1; cases hx1
          | some y => simp only [Option.getD_some, Act.eval]; exact (VRel.val _ ht (he.getD t)).symm
        | const y => rfl
        | global g => simp at hx1
        | func f => simp at hx1
    · simp at hr
  · simp at hr

/-- Cells that the ideal machine reads. -/
theorem getCells_inv {b o n : Nat} {vs : List V} (hr : (getCells b o n).run h = some (vs, h')) :
    h' = h ∧ ∃ own cs, h[b]? = some (some (.cells own cs)) ∧ o + n ≤ cs.length ∧ vs = (cs.drop o).take n := by
  simp only [getCells, IM.run] at hr
  split at hr
  · rename_i x hx
    cases x with
    | cells own cs =>
      simp only at hr
      split at hr
      · rename_i hle
        obtain ⟨rfl, rfl⟩ := pure_inv hr
        exact ⟨rfl, own, cs, hx, hle, rfl⟩
      · simp at hr
    | _ => simp at hr
  · cases hr

/-- .. the model reads too. -/
theorem cells_rel (R : Rel B w0 ρ h w) {b o n : Nat} {own : Bool} {cs : List V} {l : Loc} (hb : h[b]? = some (some (.cells own cs))) (hl : ρ b = some l) (hle : o + n ≤ cs.length) :
    ∃ us, (∀ w' : World, w'.heap = w.heap → (loadCells ⟨l.blk, l.off + o, none⟩ n).run P w' = .ok us.toArray w') ∧ VRelL ρ ((cs.drop o).take n) us ∧
      ∀ i, i < n → ∃ u, w.cell? ⟨l.blk, l.off + o + i, none⟩ = some u ∧ us[i]? = some u := by
  obtain ⟨l', hl', C, T, fr, h1, h2, h3, h4, h5, h6⟩ := R.live b _ hb
  rw [hl] at hl'; injection hl' with hl'; subst hl'
  refine ⟨(C.toList.drop (l.off + o)).take n, fun w' hw' => run_loadCells (by rw [hw']; exact h1) (by omega), ?_, ?_⟩
  · have h7 := VRelL_take n (VRelL_drop o h5)
    rw [List.drop_take, List.drop_drop, List.take_take] at h7
    rwa [show min n (l.len - o) = n from by omega] at h7
  · intro i hi
    have hlt : l.off + o + i < C.size := by omega
    refine ⟨C[l.off + o + i], by rw [cell_of h1]; simp [hlt], ?_⟩
    rw [List.getElem?_take, if_pos hi, List.getElem?_drop]; simp [hlt]

theorem loadAt_sound {t : TypeId} {b off : Nat} {n : Option Nat} {l : Loc} (R : Rel B w0 ρ h w) (hl : ρ b = some l) (hn : (n = none ∧ cAgg P t = some false) ∨ (∃ k, n = some k ∧ cAgg P t = some true ∧ cSize P t = some k))
    (hr : (loadAt b off n).run h = some (v, h')) : h' = h ∧ ∃ u, (loadVar t ⟨l.blk, l.off + off, none⟩).run P w = .ok u w ∧ VRel ρ v u := by
  rcases hn with ⟨rfl, ha⟩ | ⟨k, rfl, ha, hs⟩
  · simp only [loadAt] at hr
    obtain ⟨vs, h1, hc, hr⟩ := IM.run_bind_some hr
    obtain ⟨rfl, own, cs, hb, hle, rfl⟩ := getCells_inv hc
    obtain ⟨hv, rfl⟩ := lift_inv hr
    obtain ⟨us, _, hus, hcell⟩ := cells_rel (P := P) R hb hl hle
    obtain ⟨u, hu, hu'⟩ := hcell 0 (by omega)
    refine ⟨rfl, u, ?_, ?_⟩
    · simp only [loadVar, Sem.run_bind, run_isAgg ha, Result.andThen_ok, Bool.false_eq_true, if_false, run_load]
      rw [Nat.add_zero] at hu
      rw [hu]
    · obtain ⟨u', h7, h8⟩ := VRelL_get hus 0 v hv
      rw [hu'] at h7; injection h7 with h7; subst h7; exact h8
  · simp only [loadAt] at hr
    obtain ⟨vs, h1, hc, hr⟩ := IM.run_bind_some hr
    obtain ⟨rfl, own, cs, hb, hle, rfl⟩ := getCells_inv hc
    obtain ⟨rfl, rfl⟩ := pure_inv hr
    obtain ⟨us, hrun, hus, _⟩ := cells_rel (P := P) R hb hl hle
    refine ⟨rfl, .agg us.toArray, ?_, by simp only [VRel]; exact ⟨_, rfl, by simpa using hus⟩⟩
    simp only [loadVar, Sem.run_bind, run_isAgg ha, Result.andThen_ok, if_true, run_sizeOf hs, hrun w rfl, Sem.run_pure]
end
end Go.Ideal
