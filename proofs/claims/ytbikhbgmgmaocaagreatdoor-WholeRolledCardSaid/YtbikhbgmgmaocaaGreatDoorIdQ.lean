/-
  The ideal machine, part 8: the laws of comparisons with nil, of slicing, and of reads. Conditions: none (lemmas).
-/
import Derived.Test.YtbikhbgmgmaocaaGreatDoorIdP
namespace Go.Ideal
open Go.RowKit

section
variable {P : Program} {B : Nat} {w0 : World} {ρ : LMap} {h h' : Heap} {w : World} {e : Env} {a : Act} {o : Oper}
variable {rc : Nat → List V → IM V} {tok : Nat} {slot : Option Nat} {v : V}

def NilK.desc : NilK → TypeDesc → Prop
  | .ptr, .pointer _ => True
  | .slice, .slice _ => True
  | .map, .map _ _ => True
  | .fn, .func _ _ _ => True
  | _, _ => False

def NilK.nilV : NilK → Value
  | .ptr => .pointer none
  | .slice => .slice none 0 0
  | .map => .map none
  | .fn => .nilFunc

theorem isNilOf_eq {k : NilK} {x : Operand} (h : isNilOf k x = true) : a.eval x = k.nilV := by
  unfold isNilOf at h
  split at h <;> first | rfl | cases h

theorem run_equal {t : TypeId} (x y : Value) (w : World) :
    (Op.equal t x y).run P w = ((Op.equalIn (9999 + 1) t x y).run P w) := rfl

theorem eqNil_ptr {t el : TypeId} (ht : P.underlying t = some (.pointer el)) (x : Option Addr) (w : World) :
    (Op.equal t (.pointer x) (.pointer none)).run P w = .ok x.isNone w ∧ (Op.equal t (.pointer none) (.pointer x)).run P w = .ok x.isNone w := by
  constructor <;> rw [run_equal, Op.equalIn] <;> simp only [Sem.run_bind, run_underlying ht, Result.andThen_ok] <;> cases x <;> rfl
theorem eqNil_slice {t el : TypeId} (ht : P.underlying t = some (.slice el)) (x : Option Addr) (n c : Nat) (w : World) :
    (Op.equal t (.slice x n c) (.slice none 0 0)).run P w = .ok x.isNone w ∧ (Op.equal t (.slice none 0 0) (.slice x n c)).run P w = .ok x.isNone w := by
  constructor <;> rw [run_equal, Op.equalIn] <;> simp only [Sem.run_bind, run_underlying ht, Result.andThen_ok] <;> cases x <;> rfl
theorem eqNil_map {t kt el : TypeId} (ht : P.underlying t = some (.map kt el)) (x : Option Nat) (w : World) :
    (Op.equal t (.map x) (.map none)).run P w = .ok x.isNone w ∧ (Op.equal t (.map none) (.map x)).run P w = .ok x.isNone w := by
  constructor <;> rw [run_equal, Op.equalIn] <;> simp only [Sem.run_bind, run_underlying ht, Result.andThen_ok] <;> cases x <;> rfl
theorem eqNil_fn {t : TypeId} {ps rs : Array TypeId} {vr : Bool} (ht : P.underlying t = some (.func ps rs vr)) (f : Fn) (x y : Array Value) (w : World) :
    (Op.equal t (.func f x y) .nilFunc).run P w = .ok false w ∧ (Op.equal t .nilFunc (.func f x y)).run P w = .ok false w ∧ (Op.equal t .nilFunc .nilFunc).run P w = .ok true w := by
  refine ⟨?_, ?_, ?_⟩ <;> rw [run_equal, Op.equalIn] <;> simp only [Sem.run_bind, run_underlying ht, Result.andThen_ok] <;> rfl

/-- What is compared: nil, or not. -/
theorem run_eqNil {k : NilK} {t : TypeId} {d : TypeDesc} (ht : P.underlying t = some d) (hk : nilK d = some k) {x : V} {u : Value} (hu : VRel ρ x u) (neg : Bool) (w : World) (xo yo : Operand)
    (hr : (match k, x with
      | .ptr, .nil | .slice, .nilSlice | .map, .nilMap | .fn, .nilFn => (.pure (.bool (!neg)) : IM V)
      | .ptr, .ptr _ _ | .slice, .slice .. | .map, .map _ | .fn, .fn .. => .pure (.bool neg)
      | _, _ => .fail).run h = some (v, h')) :
    h' = h ∧ ∃ b, v = .bool b ∧ (do eqGuard (if neg then .neq else .eql) t xo yo u k.nilV; binOp (if neg then .neq else .eql) t u k.nilV).run P w = .ok (.bool b) w ∧
      (do eqGuard (if neg then .neq else .eql) t xo yo k.nilV u; binOp (if neg then .neq else .eql) t k.nilV u).run P w = .ok (.bool b) w := by
  cases d <;> simp [nilK] at hk <;> subst hk <;> cases x <;> first
    | (simp only [IM.run_fail] at hr; cases hr; done)
    | skip
  case pointer.nil el =>
    obtain ⟨rfl, rfl⟩ := pure_inv hr
    simp only [VRel] at hu; subst hu
    have := eqNil_ptr ht none w
    refine ⟨rfl, _, rfl, ?_, ?_⟩ <;> cases neg <;> simp [eqGuard, binOp, NilK.nilV, this]
  case pointer.ptr el b off =>
    obtain ⟨rfl, rfl⟩ := pure_inv hr
    obtain ⟨l, hl, rfl⟩ := VRel_ptr hu
    have := eqNil_ptr ht (some ⟨l.blk, l.off + off, none⟩) w
    refine ⟨rfl, _, rfl, ?_, ?_⟩ <;> cases neg <;> simp [eqGuard, binOp, NilK.nilV, this]
  case slice.nilSlice el =>
    obtain ⟨rfl, rfl⟩ := pure_inv hr
    simp only [VRel] at hu; subst hu
    have := eqNil_slice ht none 0 0 w
    refine ⟨rfl, _, rfl, ?_, ?_⟩ <;> cases neg <;> simp [eqGuard, binOp, NilK.nilV, this]
  case slice.slice el b off sz n c more =>
    obtain ⟨rfl, rfl⟩ := pure_inv hr
    simp only [VRel] at hu
    obtain ⟨l, ad, m, hl, rfl, _⟩ := hu
    have := eqNil_slice ht (some ad) n m w
    refine ⟨rfl, _, rfl, ?_, ?_⟩ <;> cases neg <;> simp [eqGuard, binOp, NilK.nilV, this]
  case map.nilMap kt el =>
    obtain ⟨rfl, rfl⟩ := pure_inv hr
    simp only [VRel] at hu; subst hu
    have := eqNil_map ht none w
    refine ⟨rfl, _, rfl, ?_, ?_⟩ <;> cases neg <;> simp [eqGuard, binOp, NilK.nilV, this]
  case map.map kt el b =>
    obtain ⟨rfl, rfl⟩ := pure_inv hr
    simp only [VRel] at hu
    obtain ⟨l, hl, rfl⟩ := hu
    have := eqNil_map ht (some l.blk) w
    refine ⟨rfl, _, rfl, ?_, ?_⟩ <;> cases neg <;> simp [eqGuard, binOp, NilK.nilV, this]
  case func.nilFn ps rs vr =>
    obtain ⟨rfl, rfl⟩ := pure_inv hr
    simp only [VRel] at hu; subst hu
    have := eqNil_fn ht default #[] #[] w
    refine ⟨rfl, _, rfl, ?_, ?_⟩ <;> cases neg <;> simp [eqGuard, binOp, NilK.nilV, this]
  case func.fn ps rs vr f x y =>
    obtain ⟨rfl, rfl⟩ := pure_inv hr
    simp only [VRel] at hu
    obtain ⟨us, ws, rfl, _⟩ := hu
    have := eqNil_fn ht f us ws w
    refine ⟨rfl, _, rfl, ?_, ?_⟩ <;> cases neg <;> simp [eqGuard, binOp, NilK.nilV, this]

theorem isNil_sound {op : BinOp} {t ty : TypeId} {x y : Operand} {d : TypeDesc} {k : NilK} {z : Operand} {z' : Opd} (ho : o.op = .binOp op t x y ty) (hop : op = .eql ∨ op = .neq)
    (ht : P.underlying t = some d) (hk : nilK d = some k) (hz : cOpd z = some z') (hxy : (z = x ∧ isNilOf k y = true) ∨ (z = y ∧ isNilOf k x = true))
    (hr : (iop P rc tok slot e (.isNil k (op = .neq) z')).run h = some (v, h')) (he : EnvRel ρ e a) (R : Rel B w0 ρ h w) :
    Good B w0 ρ v h' ((execOp a.eval o).run P w) := by
  have hzr := ev_rel hz he
  simp only [iop] at hr
  obtain ⟨rfl, b, rfl, h1, h2⟩ := run_eqNil (P := P) ht hk hzr (decide (op = .neq)) w x y hr
  have hop' : (if decide (op = BinOp.neq) = true then BinOp.neq else BinOp.eql) = op := by rcases hop with rfl | rfl <;> rfl
  rw [hop'] at h1 h2
  refine Good.plain (u := .bool b) ?_ (by simp [VRel]) R
  rcases hxy with ⟨rfl, hn⟩ | ⟨rfl, hn⟩
  · have := isNilOf_eq (a := a) hn
    simp only [execOp, ho, Sem.run_bind] at h1 ⊢
    rw [this]
    simp only [h1, Result.andThen_ok, Sem.run_pure]
  · have := isNilOf_eq (a := a) hn
    simp only [execOp, ho, Sem.run_bind] at h2 ⊢
    rw [this]
    simp only [h2, Result.andThen_ok, Sem.run_pure]

/-! ### Slicing -/
theorem bound_rel {x : Option Operand} {y : Option Opd} {d k : Nat} (hx : cOpdO x = some y) (he : EnvRel ρ e a) (hb : boundOf e d y = some k) :
    (x = none ∧ k = d) ∨ ∃ kd xo, x = some xo ∧ a.eval xo = .int kd (k : Int) := by
  cases x with
  | none => simp [cOpdO] at hx; subst hx; simp [boundOf] at hb; exact .inl ⟨rfl, hb.symm⟩
  | some xo =>
    simp only [cOpdO, Option.map_eq_some_iff] at hx
    obtain ⟨yo, hy, rfl⟩ := hx
    have := ev_rel hy he
    simp only [boundOf] at hb
    split at hb
    · rename_i kd i hv
      rw [hv] at this
      split at hb
      · rename_i h0
        injection hb with hb
        exact .inr ⟨kd, xo, rfl, by rw [VRel_int this]; congr 1; omega⟩
      · cases hb
    · cases hb

theorem run_sliceBound_ok {x : Value} {k : IntKind} {i y : Nat} {code : BoundsCode} (hx : x = .int k i) (hi : i ≤ y) (w : World) : (Instr.sliceBound x y code).run P w = .ok i w := by
  subst hx
  have h1 : (i : Int) ≤ y := by omega
  simp [Instr.sliceBound, asIntOf, h1]

/-- The bounds of a slice expression. -/
theorem run_bounds {lo hi mx : Option Operand} {lo' hi' mx' : Option Opd} {len cap rcap l h1 m : Nat} (hlo : cOpdO lo = some lo') (hhi : cOpdO hi = some hi') (hmx : cOpdO mx = some mx')
    (he : EnvRel ρ e a) (bl : boundOf e 0 lo' = some l) (bh : boundOf e len hi' = some h1) (bm : boundOf e cap mx' = some m) (hl : l ≤ h1) (hh : h1 ≤ m) (hm : m ≤ cap) (hcap : cap ≤ rcap)
    (hmh : mx = none ∨ hi ≠ none) (iss : Bool) (w : World) :
    (Instr.sliceBounds iss len rcap (lo.map a.eval) (hi.map a.eval) (mx.map a.eval)).run P w = .ok (l, h1, if mx = none then rcap else m) w := by
  have B1 := bound_rel hlo he bl
  have B2 := bound_rel hhi he bh
  have B3 := bound_rel hmx he bm
  unfold Instr.sliceBounds
  rcases B3 with ⟨rfl, rfl⟩ | ⟨k3, x3, rfl, e3⟩ <;> rcases B2 with ⟨rfl, rfl⟩ | ⟨k2, x2, rfl, e2⟩ <;> rcases B1 with ⟨rfl, rfl⟩ | ⟨k1, x1, rfl, e1⟩
  · simp
  · simp [run_sliceBound_ok e1 hl]
  · simp [run_sliceBound_ok e2 (show h1 ≤ rcap by omega)]
  · simp [run_sliceBound_ok e2 (show h1 ≤ rcap by omega), run_sliceBound_ok e1 hl]
  · simp at hmh
  · simp at hmh
  · simp [run_sliceBound_ok e3 (show m ≤ rcap by omega), run_sliceBound_ok e2 hh]
  · simp [run_sliceBound_ok e3 (show m ≤ rcap by omega), run_sliceBound_ok e2 hh, run_sliceBound_ok e1 hl]

theorem slice_sound {t el : TypeId} {n : Nat} {x : Operand} {lo hi mx : Option Operand} {x' : Opd} {lo' hi' mx' : Option Opd} (ho : o.op = .slice t x lo hi mx) (ht : P.underlying t = some (.slice el))
    (hn : cElem P el = some n) (hx : cOpd x = some x') (hlo : cOpdO lo = some lo') (hhi : cOpdO hi = some hi') (hmx : cOpdO mx = some mx') (hmh : mx = none ∨ hi ≠ none)
    (hr : (iop P rc tok slot e (.slice n x' lo' hi' mx')).run h = some (v, h')) (he : EnvRel ρ e a) (R : Rel B w0 ρ h w) :
    Good B w0 ρ v h' ((execOp a.eval o).run P w) := by
  have hxr := ev_rel hx he
  simp only [iop] at hr
  obtain ⟨hs, rfl⟩ := lift_inv hr
  unfold sliceOf at hs
  split at hs
  · rename_i hv
    rw [hv] at hxr; simp only [VRel] at hxr
    split at hs
    · rename_i bl bh bm
      injection hs with hs; subst hs
      refine Good.plain (u := .slice none 0 0) ?_ (by simp [VRel]) R
      have hb := run_bounds (P := P) (len := 0) (cap := 0) (rcap := 0) hlo hhi hmx he bl bh bm (Nat.le_refl _) (Nat.le_refl _) (Nat.le_refl _) (Nat.le_refl _) hmh true w
      simp only [execOp, ho, Instr.sliceAt, Sem.run_bind, run_underlying ht, Result.andThen_ok, Instr.slice, hxr, hb, run_sizeOf' hn, Sem.run_pure]
      simp
    · cases hs
  · rename_i b off sz' len cap more hv
    rw [hv] at hxr; simp only [VRel] at hxr
    obtain ⟨lc, ad, m, hl, hu, h1, h2, h3, h4, h5, h6⟩ := hxr
    split at hs
    · rename_i hsz
      subst hsz
      split at hs
      · rename_i l hh mm bl bh bm
        split at hs
        · rename_i hc
          obtain ⟨c1, c2, c3⟩ := hc
          injection hs with hs; subst hs
          have hb := run_bounds (P := P) (len := len) (cap := cap) (rcap := m) hlo hhi hmx he bl bh bm c1 c2 c3 h2 hmh true w
          have hmm : mx = none → mm = cap := fun e0 => by
            rcases bound_rel hmx he bm with ⟨_, h⟩ | ⟨_, _, h, _⟩
            · exact h
            · rw [e0] at h; cases h
          have hmx0 : mx' = none ↔ mx = none := by
            cases mx with
            | none => simp [cOpdO] at hmx; simp [← hmx]
            | some q => simp only [cOpdO, Option.map_eq_some_iff] at hmx; obtain ⟨q', _, rfl⟩ := hmx; simp
          let M := if mx = none then m else mm
          refine Good.plain (u := .slice (if M = l then some ad else some (ad.add (l * sz'))) (hh - l) (M - l)) ?_ ?_ R
          · simp only [execOp, ho, Instr.sliceAt, Sem.run_bind, run_underlying ht, Result.andThen_ok, Instr.slice, hu, hb, run_sizeOf' hn, Sem.run_pure]
            simp [M]
          · have hMge : mm ≤ M := by
              by_cases e0 : mx = none
              · simp only [M, if_pos e0]; have := hmm e0; omega
              · simp only [M, if_neg e0]; omega
            have hMle : M ≤ m := by
              by_cases e0 : mx = none
              · simp only [M, if_pos e0]; omega
              · simp only [M, if_neg e0]; omega
            have hmul : ∀ q, l ≤ q → off + l * sz' + (q - l) * sz' = off + q * sz' := fun q hq => by
              rw [Nat.add_assoc, ← Nat.add_mul, Nat.add_sub_cancel' hq]
            have hcap2 : mm * sz' ≤ cap * sz' := Nat.mul_le_mul_right _ c3
            have hM2 : M * sz' ≤ m * sz' := Nat.mul_le_mul_right _ hMle
            simp only [VRel]
            refine ⟨lc, if M = l then ad else ad.add (l * sz'), M - l, hl, ?_, by omega, by omega, ?_, ?_, ?_, ?_⟩
            · congr 1; split <;> rfl
            · rw [hmul mm (by omega)]; omega
            · rw [hmul M (by omega)]; omega
            · intro hf
              by_cases e0 : mx = none
              · rw [Bool.and_eq_false_iff] at hf
                rcases hf with hf | hf
                · have := h5 hf; simp only [M, if_pos e0]; have := hmm e0; omega
                · rw [hmx0.2 e0] at hf; simp at hf
              · simp only [M, if_neg e0]
            · by_cases hMl : M = l
              · right; omega
              · left
                rw [if_neg hMl]
                rcases h6 with rfl | h6
                · rw [add_eq, Nat.add_assoc]
                · omega
        · cases hs
      · cases hs
    · cases hs
  · cases hs

theorem sliceA_sound {t el : TypeId} {len n : Nat} {x : Operand} {lo hi : Option Operand} {x' : Opd} {lo' hi' : Option Opd} (ho : o.op = .slice t x lo hi none) (ht : P.underlying t = some (.array len el))
    (hn : cElem P el = some n) (hx : cOpd x = some x') (hlo : cOpdO lo = some lo') (hhi : cOpdO hi = some hi')
    (hr : (iop P rc tok slot e (.sliceA len n x' lo' hi')).run h = some (v, h')) (he : EnvRel ρ e a) (R : Rel B w0 ρ h w) :
    Good B w0 ρ v h' ((execOp a.eval o).run P w) := by
  have hxr := ev_rel hx he
  simp only [iop] at hr
  split at hr
  · rename_i b off l hh hv bl bh
    split at hr
    · rename_i hc
      obtain ⟨c1, c2⟩ := hc
      obtain ⟨vs, h1, hg, hr2⟩ := IM.run_bind_some hr
      clear hr
      obtain ⟨rfl, own, cs, hb0, hle, rfl⟩ := getCells_inv hg
      obtain ⟨rfl, rfl⟩ := pure_inv hr2
      rw [hv] at hxr
      obtain ⟨lc, hl, hu⟩ := VRel_ptr hxr
      obtain ⟨l', hl', C, T, fr, g1, g2, g3, g4, g5, g6⟩ := R.live b _ hb0
      rw [hl] at hl'; injection hl' with hl'; subst hl'
      have hb := run_bounds (P := P) (len := len) (cap := len) (rcap := len) (mx := none) (mx' := none) hlo hhi rfl he bl bh rfl c1 c2 (Nat.le_refl _) (Nat.le_refl _) (.inl rfl) false w
      refine Good.plain (u := .slice (some (if len = l then ⟨lc.blk, lc.off + off, none⟩ else (⟨lc.blk, lc.off + off, none⟩ : Addr).add (l * n))) (hh - l) (len - l)) ?_ ?_ R
      · simp only [Option.map_none] at hb
        simp only [execOp, ho, Instr.sliceAt, Sem.run_bind, run_underlying ht, Result.andThen_ok, hu, Instr.sureAddr, Sem.run_pure, Option.map_none, hb, if_true, run_sizeOf' hn]
      · have hmul : off + l * n + (len - l) * n = off + len * n := by
          rw [Nat.add_assoc, ← Nat.add_mul, Nat.add_sub_cancel' (by omega)]
        simp only [VRel]
        refine ⟨lc, _, len - l, hl, rfl, by omega, Nat.le_refl _, by omega, by omega, by simp, ?_⟩
        by_cases hMl : len = l
        · right; omega
        · left; rw [if_neg hMl, add_eq, Nat.add_assoc]
    · simp at hr
  · simp at hr

/-! ### Reads -/
theorem load_sound {t : TypeId} {x : Operand} {y : Opd} {n : Option Nat} (ho : o.op = .load t x) (hn : (n = none ∧ cAgg P t = some false) ∨ (∃ k, n = some k ∧ cAgg P t = some true ∧ cSize P t = some k)) (hy : cOpd x = some y)
    (hr : (iop P rc tok slot e (.load n y)).run h = some (v, h')) (he : EnvRel ρ e a) (R : Rel B w0 ρ h w) :
    Good B w0 ρ v h' ((execOp a.eval o).run P w) := by
  have hxr := ev_rel hy he
  simp only [iop] at hr
  split at hr
  · rename_i b off hv
    rw [hv] at hxr
    obtain ⟨lc, hl, hu⟩ := VRel_ptr hxr
    obtain ⟨rfl, u, h1, h2⟩ := loadAt_sound R hl hn hr
    refine Good.plain (u := u) ?_ h2 R
    simp only [execOp, ho, Instr.loadAt, hu, Instr.sureAddr, Sem.run_bind, Sem.run_pure, Result.andThen_ok, h1]
  · simp at hr

theorem get_inv {β : Type} {b : Nat} {k : Blk → IM β} {x : β} (hr : (IM.get b k).run h = some (x, h')) : ∃ y, h[b]? = some (some y) ∧ (k y).run h = some (x, h') := by
  simp only [IM.run] at hr
  split at hr
  · rename_i y hy; exact ⟨y, hy, hr⟩
  · cases hr

theorem entriesRel_length : ∀ {es : List (V × V × Nat)} {us : List MapEntry}, entriesRel ρ es us → es.length = us.length
  | [], us, h => by simp only [entriesRel] at h; subst h; rfl
  | _ :: _, us, h => by obtain ⟨u, us', rfl, _, _, _, h2⟩ := h; simp [entriesRel_length h2]

theorem lenMap_sound {x : Operand} {t kt el : TypeId} {y : Opd} {c : Call} (ho : o.op = .call c) (hc : c.callee = .builtin .len) (hx : c.args.toList = [x]) (hts : c.argTypes.toList = [t]) (ht : P.underlying t = some (.map kt el)) (hy : cOpd x = some y)
    (hr : (iop P rc tok slot e (.lenMap y)).run h = some (v, h')) (he : EnvRel ρ e a) (R : Rel B w0 ρ h w) :
    Good B w0 ρ v h' ((execOp a.eval o).run P w) := by
  have hxr := ev_rel hy he
  have e1 : c.args = #[x] := by apply Array.ext'; simpa using hx
  have e2 : c.argTypes = #[t] := by apply Array.ext'; simpa using hts
  simp only [iop] at hr
  split at hr
  · rename_i hcs
    obtain ⟨rfl, rfl⟩ := pure_inv hr
    rw [hcs] at hxr; simp only [VRel] at hxr
    refine Good.plain (u := .int .i64 0) ?_ (by simp [VRel]) R
    simp [execOp, ho, resolve, hc, e1, e2, invoke, builtin, Builtin.len_, run_underlying ht, hxr, goInt]
  · rename_i b hcs
    rw [hcs] at hxr; simp only [VRel] at hxr
    obtain ⟨l, hl, hu⟩ := hxr
    obtain ⟨z, hz, hr⟩ := get_inv hr
    cases z with
    | map es clock =>
      obtain ⟨rfl, rfl⟩ := pure_inv hr
      obtain ⟨l', hl', us, g1, g2, _⟩ := R.live b _ hz
      rw [hl] at hl'; injection hl' with hl'; subst hl'
      have hlen := entriesRel_length g2
      refine Good.plain (u := .int .i64 es.length) ?_ (by simp [VRel]) R
      simp [execOp, ho, resolve, hc, e1, e2, invoke, builtin, Builtin.len_, run_underlying ht, hu, goInt, getObj, Sem.run, g1, hlen]
    | _ => simp at hr
  · simp at hr

theorem lenChan_sound {x : Operand} {t el : TypeId} {dir : ChanDir} {y : Opd} {c : Call} (ho : o.op = .call c) (hc : c.callee = .builtin .len) (hx : c.args.toList = [x]) (hts : c.argTypes.toList = [t]) (ht : P.underlying t = some (.chan dir el)) (hy : cOpd x = some y)
    (hr : (iop P rc tok slot e (.lenChan y)).run h = some (v, h')) (he : EnvRel ρ e a) (R : Rel B w0 ρ h w) :
    Good B w0 ρ v h' ((execOp a.eval o).run P w) := by
  have hxr := ev_rel hy he
  have e1 : c.args = #[x] := by apply Array.ext'; simpa using hx
  have e2 : c.argTypes = #[t] := by apply Array.ext'; simpa using hts
  simp only [iop] at hr
  split at hr
  · rename_i b hcs
    rw [hcs] at hxr; simp only [VRel] at hxr
    obtain ⟨l, hl, hu⟩ := hxr
    obtain ⟨z, hz, hr⟩ := get_inv hr
    cases z with
    | chan cap buf =>
      obtain ⟨rfl, rfl⟩ := pure_inv hr
      obtain ⟨l', hl', us, q1, q2, g1, g2, _⟩ := R.live b _ hz
      rw [hl] at hl'; injection hl' with hl'; subst hl'
      have hlen := VRelL_length g2
      refine Good.plain (u := .int .i64 buf.length) ?_ (by simp [VRel]) R
      simp [execOp, ho, resolve, hc, e1, e2, invoke, builtin, Builtin.len_, run_underlying ht, hu, goInt, getObj, Sem.run, g1, hlen]
    | _ => simp at hr
  · simp at hr
end
end Go.Ideal
