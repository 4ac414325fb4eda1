/-
  The ideal machine, part 12: the laws of maps. Conditions: none (lemmas).
-/
import Derived.Test.YtbikhbgmgmaocaaGreatDoorIdU
namespace Go.Ideal
open Go.RowKit

section
variable {P : Program} {B : Nat} {w0 : World} {ρ : LMap} {h h' : Heap} {w : World} {e : Env} {a : Act} {o : Oper}
variable {rc : Nat → List V → IM V} {tok : Nat} {slot : Option Nat} {v : V}

theorem ba_beq (s t : ByteArray) : (s == t) = (s.data == t.data) := rfl
theorem ba_refl (s : ByteArray) : (s == s) = true := by rw [ba_beq]; simp
theorem ba_eq {s t : ByteArray} (h : (s == t) = true) : s = t := by
  rw [ba_beq] at h
  have := eq_of_beq h
  cases s; cases t; simp at this; subst this; rfl

/-- A key type whose equality the model tells at once. -/
def KeyD (ik : Bool) (d : TypeDesc) : Prop := (ik = true ∧ ∃ k, d = .int k) ∨ (ik = false ∧ d = .string)

theorem run_checkKey {ik : Bool} {kt : TypeId} {d : TypeDesc} {k : Value} (hk : P.underlying kt = some d) (hd : KeyD ik d) (b : Bool) (w : World) : (Instr.checkKey b 10000 kt k).run P w = .ok () w := by
  show (Instr.checkKey b (9999 + 1) kt k).run P w = _
  rw [Instr.checkKey]
  simp only [Sem.run_bind, run_underlying hk, Result.andThen_ok]
  rcases hd with ⟨_, k0, rfl⟩ | ⟨_, rfl⟩ <;> rfl

theorem findNow_rel {ik : Bool} {d : TypeDesc} (hd : KeyD ik d) {k : V} {kv : Value} (hk : VRel ρ k kv) (hok : keyOk ik k = true) :
    ∀ {es : List (V × V × Nat)} {us : List MapEntry} (i : Nat), es.all (fun y => likeKey k y.1) = true → entriesRel ρ es us →
      ∃ r, Instr.findNow d kv us i = some r ∧ ((findEntry k es i = none ∧ r = none) ∨ ∃ j v u, findEntry k es i = some (j, v) ∧ r = some (j, u) ∧ VRel ρ v u ∧ i ≤ j ∧ ∃ en, us[j - i]? = some en ∧ en.key = kv)
  | [], us, i, _, hE => by
    simp only [entriesRel] at hE; subst hE
    exact ⟨none, rfl, .inl ⟨rfl, rfl⟩⟩
  | x :: es, us, i, hl, hE => by
    obtain ⟨u, us', rfl, h1, h2, h3, h4⟩ := hE
    rw [List.all_cons, Bool.and_eq_true] at hl
    have hsame : Instr.sameNow d kv u.key = some (V.beq k x.1) ∧ (V.beq k x.1 = true → u.key = kv) := by
      have hl1 := hl.1
      unfold likeKey at hl1
      split at hl1
      · rename_i q a1 r b1 e1
        rw [e1] at h1
        have h1 := VRel_int h1
        have hk := VRel_int hk
        rcases hd with ⟨_, k0, rfl⟩ | ⟨hik, rfl⟩
        · simp at hl1; subst hl1
          rw [h1, hk, e1]
          simp only [Instr.sameNow, if_true, V.beq, beq_self_eq_true, Bool.true_and]
          exact ⟨trivial, fun hh => by simp at hh; rw [hh]⟩
        · subst hik; simp [keyOk] at hok
      · rename_i a1 b1 e1
        rw [e1] at h1
        simp only [VRel] at h1 hk
        rcases hd with ⟨hik, k0, rfl⟩ | ⟨_, rfl⟩
        · subst hik; simp [keyOk] at hok
        · rw [h1, hk, e1]
          simp only [Instr.sameNow, V.beq]
          exact ⟨trivial, fun hh => by rw [ba_eq hh]⟩
      · cases hl1
    simp only [Instr.findNow, hsame.1, findEntry]
    cases hb : V.beq k x.1 with
    | true => exact ⟨_, rfl, .inr ⟨i, x.2.1, u.val, by simp, rfl, h2, Nat.le_refl _, u, by simp, hsame.2 hb⟩⟩
    | false =>
      obtain ⟨r, r1, r2⟩ := findNow_rel hd hk hok (i + 1) hl.2 h4
      refine ⟨r, r1, ?_⟩
      rcases r2 with ⟨q1, q2⟩ | ⟨j, v, u', q1, q2, q3, q4, en, q5, q6⟩
      · exact .inl ⟨by simpa using q1, q2⟩
      · exact .inr ⟨j, v, u', by simpa using q1, q2, q3, by omega, en, by rw [show j - i = (j - (i + 1)) + 1 by omega]; simpa using q5, q6⟩

theorem run_findKey {ik : Bool} {kt : TypeId} {d : TypeDesc} {k : V} {kv : Value} {es : List (V × V × Nat)} {us : List MapEntry} (hkt : P.underlying kt = some d) (hd : KeyD ik d) (hk : VRel ρ k kv) (hok : keysOk ik k es = true) (hE : entriesRel ρ es us) (w : World) :
    ∃ r, (Instr.findKey kt kv us).run P w = .ok r w ∧ ((findEntry k es 0 = none ∧ r = none) ∨ ∃ j v u, findEntry k es 0 = some (j, v) ∧ r = some (j, u) ∧ VRel ρ v u ∧ ∃ en, us[j]? = some en ∧ en.key = kv) := by
  unfold keysOk at hok
  rw [Bool.and_eq_true] at hok
  obtain ⟨r, h1, h2⟩ := findNow_rel hd hk hok.1 0 hok.2 hE
  refine ⟨r, ?_, ?_⟩
  · simp only [Instr.findKey, Sem.run_bind, run_underlying hkt, Result.andThen_ok, h1, Sem.run_pure]
  · rcases h2 with h2 | ⟨j, v, u, q1, q2, q3, _, en, q5, q6⟩
    · exact .inl h2
    · exact .inr ⟨j, v, u, q1, q2, q3, en, by simpa using q5, q6⟩

theorem cZeroV_info {t : TypeId} {z : V} (hz : cZeroV P t = some z) : ∃ zv, (∀ w, (zeroValue t).run P w = .ok zv w) ∧ ∀ ρ, VRel ρ z zv := by
  unfold cZeroV at hz
  split at hz
  · rename_i i hi
    split at hz
    · rename_i zv hzv; exact ⟨zv, run_zeroValue hi hzv, fun ρ => VRel_ofVal hz⟩
    · cases hz
  · cases hz

theorem map_block {b : Nat} {l : Loc} {es : List (V × V × Nat)} {clock : Nat} (R : Rel B w0 ρ h w) (hb : h[b]? = some (some (.map es clock))) (hl : ρ b = some l) :
    ∃ us, w.heap[l.blk]? = some (.map us clock) ∧ entriesRel ρ es us.toList ∧ l.off = 0 ∧ l.ext = 1 ∧ B ≤ l.blk := by
  obtain ⟨l', hl', us, q⟩ := R.live b _ hb
  rw [hl] at hl'; injection hl' with hl'; subst hl'
  exact ⟨us, q⟩

theorem lookup_sound {ik : Bool} {t kt el : TypeId} {d : TypeDesc} {x k : Operand} {x' k' : Opd} {z : V} {ok : Bool} (ho : o.op = .lookup t x k ok) (ht : P.underlying t = some (.map kt el)) (hkt : P.underlying kt = some d) (hd : KeyD ik d)
    (hz : cZeroV P el = some z) (hx' : cOpd x = some x') (hk' : cOpd k = some k')
    (hr : (iop P rc tok slot e (.lookup ik z x' k' ok)).run h = some (v, h')) (he : EnvRel ρ e a) (R : Rel B w0 ρ h w) :
    Good B w0 ρ v h' ((execOp a.eval o).run P w) := by
  have hxr := ev_rel hx' he
  have hkr := ev_rel hk' he
  obtain ⟨zv, hzr, hzz⟩ := cZeroV_info hz
  have fin : ∀ {vv : V} {u : Value} {b : Bool}, VRel ρ vv u → VRel ρ (if ok = true then .tup [vv, .bool b] else vv) (if ok = true then .tuple #[u, .bool b] else u) := by
    intro vv u b hv
    cases ok with
    | true => simp only [if_true, VRel]; exact ⟨_, rfl, VRelL_cons'.2 ⟨hv, VRelL_cons'.2 ⟨by simp [VRel], by simp [VRelL_nil]⟩⟩⟩
    | false => simpa using hv
  simp only [iop] at hr
  split at hr
  · rename_i hv
    rw [hv] at hxr; simp only [VRel] at hxr
    split at hr
    · obtain ⟨rfl, rfl⟩ := pure_inv hr
      refine Good.plain (u := if ok = true then .tuple #[zv, .bool false] else zv) ?_ (fin (hzz ρ)) R
      simp only [execOp, ho, Instr.lookup, Sem.run_bind, run_underlying ht, Result.andThen_ok, hxr, Sem.run_pure, run_checkKey hkt hd, Instr.findKey, run_underlying hkt, Instr.findNow, hzr]
    · simp at hr
  · rename_i b hv
    rw [hv] at hxr; simp only [VRel] at hxr
    obtain ⟨l, hl, hu⟩ := hxr
    obtain ⟨q, hq, hr⟩ := get_inv hr
    split at hr
    · rename_i es clock
      split at hr
      · rename_i hok
        obtain ⟨us, g1, g2, _⟩ := map_block R hq hl
        obtain ⟨r, r1, r2⟩ := run_findKey (P := P) hkt hd hkr hok g2 w
        have hget : (getObj l.blk).run P w = .ok (.map us clock) w := by simp only [getObj, Sem.run, g1]
        rcases r2 with ⟨q1, rfl⟩ | ⟨j, vv, u, q1, rfl, q3, _⟩
        · rw [q1] at hr
          obtain ⟨rfl, rfl⟩ := pure_inv hr
          refine Good.plain (u := if ok = true then .tuple #[zv, .bool false] else zv) ?_ (fin (hzz ρ)) R
          simp only [execOp, ho, Instr.lookup, Sem.run_bind, run_underlying ht, Result.andThen_ok, hu, hget, Sem.run_pure, run_checkKey hkt hd, r1, hzr]
        · rw [q1] at hr
          obtain ⟨rfl, rfl⟩ := pure_inv hr
          refine Good.plain (u := if ok = true then .tuple #[u, .bool true] else u) ?_ (fin q3) R
          simp only [execOp, ho, Instr.lookup, Sem.run_bind, run_underlying ht, Result.andThen_ok, hu, hget, Sem.run_pure, run_checkKey hkt hd, r1]
      · simp at hr
    · simp at hr
  · simp at hr

theorem entriesRel_of : ∀ {es : List (V × V × Nat)} {us : List MapEntry}, es.length = us.length → (∀ (i : Nat) (x : V × V × Nat) (u : MapEntry), es[i]? = some x → us[i]? = some u → VRel ρ x.1 u.key ∧ VRel ρ x.2.1 u.val ∧ x.2.2 = u.born) → entriesRel ρ es us
  | [], us, h, _ => List.length_eq_zero_iff.1 h.symm
  | x :: es, [], h, _ => by simp at h
  | x :: es, u :: us, h, g => by
    obtain ⟨g1, g2, g3⟩ := g 0 x u (by simp) (by simp)
    exact ⟨u, us, rfl, g1, g2, g3, entriesRel_of (by simpa using h) fun i y z hy hz => g (i + 1) y z (by simpa using hy) (by simpa using hz)⟩
theorem entriesRel_get : ∀ {es : List (V × V × Nat)} {us : List MapEntry}, entriesRel ρ es us → ∀ (i : Nat) (x : V × V × Nat) (u : MapEntry), es[i]? = some x → us[i]? = some u → VRel ρ x.1 u.key ∧ VRel ρ x.2.1 u.val ∧ x.2.2 = u.born
  | [], us, _, i, x, u, hx, _ => by simp at hx
  | y :: es, us, h, i, x, u, hx, hu => by
    obtain ⟨z, us', rfl, h1, h2, h3, h4⟩ := h
    cases i with
    | zero => simp at hx hu; subst hx hu; exact ⟨h1, h2, h3⟩
    | succ i => exact entriesRel_get h4 i x u (by simpa using hx) (by simpa using hu)

theorem turn_obj {b : Nat} {l : Loc} {x y : Blk} {X : Obj} (R : Rel B w0 ρ h w) (hb : h[b]? = some (some x)) (hx0 : x.isDead = false) (hx1 : x.own = true) (hl : ρ b = some l) (hext : l.off = 0 ∧ l.ext = 1) (hB : B ≤ l.blk)
    (hX : ∃ Y, w.heap[l.blk]? = some Y ∧ ∀ c t f, Y ≠ .cells c t f) (hy : BlkOk B ρ (setBlk w l.blk X) l y) : Rel B w0 ρ (h.set b (some y)) (setBlk w l.blk X) := by
  obtain ⟨Y, hY, hYn⟩ := hX
  refine R.turn (x := x) (l := l) hb hx0 hx1 hl (below_setBlk hB) (fun i z k hne hz hz0 hk hd => ?_) hy
  by_cases hbk : l.blk = k.blk
  · -- two blocks in one: neither is a row of cells
    obtain ⟨k', hk', hbo⟩ := R.live i z hz
    rw [hk] at hk'; injection hk' with hk'; subst hk'
    rw [hbk] at hY
    have : k.off = 0 ∧ k.ext = 1 := by
      cases z with
      | cells own cs => obtain ⟨C, T, fr, q1, _⟩ := hbo; rw [hY] at q1; injection q1 with q1; exact absurd q1 (hYn _ _ _)
      | dead => cases hz0
      | map es clock => obtain ⟨us, _, _, q1, q2, _⟩ := hbo; exact ⟨q1, q2⟩
      | iter m since seen stepped => obtain ⟨m', _, q1, q2, _⟩ := hbo; exact ⟨q1, q2⟩
      | chan cap buf => obtain ⟨us, p, q, _, _, q1, q2, _⟩ := hbo; exact ⟨q1, q2⟩
    unfold Disj at hd
    omega
  · exact SameAt.of_eq (by rw [setBlk_get, if_neg (fun hh => hbk hh.1)])

theorem set_inv {b : Nat} {y : Blk} {k : IM V} (hr : (IM.set b y k).run h = some (v, h')) : (∃ x, h[b]? = some (some x)) ∧ k.run (h.set b (some y)) = some (v, h') := by
  simp only [IM.run] at hr
  split at hr
  · rename_i x hx; exact ⟨⟨x, hx⟩, hr⟩
  · cases hr

theorem mapUpdate_sound {ik : Bool} {t kt el : TypeId} {d : TypeDesc} {x k y : Operand} {x' k' y' : Opd} (ho : o.op = .mapUpdate t x k y) (ht : P.underlying t = some (.map kt el)) (hkt : P.underlying kt = some d) (hd : KeyD ik d)
    (hx' : cOpd x = some x') (hk' : cOpd k = some k') (hy' : cOpd y = some y')
    (hr : (iop P rc tok slot e (.mapUpdate ik x' k' y')).run h = some (v, h')) (he : EnvRel ρ e a) (R : Rel B w0 ρ h w) :
    Good B w0 ρ v h' ((execOp a.eval o).run P w) := by
  have hxr := ev_rel hx' he
  have hkr := ev_rel hk' he
  have hyr := ev_rel hy' he
  simp only [iop] at hr
  split at hr
  · rename_i b hv
    rw [hv] at hxr; simp only [VRel] at hxr
    obtain ⟨l, hl, hu⟩ := hxr
    obtain ⟨q, hq, hr⟩ := get_inv hr
    split at hr
    · rename_i es clock
      split at hr
      · rename_i hok
        obtain ⟨us, g1, g2, g3, g4, g5⟩ := map_block R hq hl
        obtain ⟨r, r1, r2⟩ := run_findKey (P := P) hkt hd hkr hok g2 w
        have hget : (getObj l.blk).run P w = .ok (.map us clock) w := by simp only [getObj, Sem.run, g1]
        have hset : ∀ Y, (setObj l.blk Y).run P w = .ok () (setBlk w l.blk Y) := fun Y => by simp only [setObj, Sem.run, g1]; rfl
        have hlen := entriesRel_length g2
        have hX : ∃ Y, w.heap[l.blk]? = some Y ∧ ∀ c t f, Y ≠ .cells c t f := ⟨_, g1, fun _ _ _ => by simp⟩
        rcases r2 with ⟨q1, rfl⟩ | ⟨j, vv, u, q1, rfl, q3, en, q4, q5⟩
        · rw [q1] at hr
          obtain ⟨_, hr⟩ := set_inv hr
          obtain ⟨rfl, rfl⟩ := pure_inv hr
          let Y : Obj := .map (us.push { key := a.eval k, val := a.eval y, born := clock }) (clock + 1)
          refine ⟨ρ, undef, setBlk w l.blk Y, .inr ⟨?_, rfl⟩, .refl ρ, VRel_undef, ?_⟩
          · simp only [execOp, ho, Instr.mapUpdate, Sem.run_bind, run_underlying ht, Result.andThen_ok, hu, hget, run_checkKey hkt hd, r1, hset, Sem.run_pure, Y]
          · refine turn_obj R hq rfl rfl hl ⟨g3, g4⟩ g5 hX ⟨_, by rw [setBlk_get, if_pos ⟨rfl, blk_lt g1⟩], ?_, g3, g4, g5⟩
            refine entriesRel_of (by simpa using hlen) fun i p q hp hq => ?_
            rcases Nat.lt_or_ge i es.length with hi | hi
            · rw [List.getElem?_append_left hi] at hp
              rw [Array.toList_push, List.getElem?_append_left (by omega)] at hq
              exact entriesRel_get g2 i p q hp hq
            · rw [List.getElem?_append_right hi] at hp
              rw [Array.toList_push, List.getElem?_append_right (by omega)] at hq
              have : i - es.length = 0 := by
                rcases Nat.eq_zero_or_pos (i - es.length) with h0 | h0
                · exact h0
                · rw [List.getElem?_eq_none (by simp; omega)] at hp; cases hp
              rw [this] at hp
              rw [show i - us.toList.length = 0 by omega] at hq
              simp at hp hq
              subst hp hq
              exact ⟨hkr, hyr, rfl⟩
        · rw [q1] at hr
          obtain ⟨_, hr⟩ := set_inv hr
          obtain ⟨rfl, rfl⟩ := pure_inv hr
          have q4' : us[j]? = some en := by simpa using q4
          let Y : Obj := .map (us.modify j fun m => { m with key := a.eval k, val := a.eval y }) clock
          have hstay : (Instr.keyThatStays (((us[j]?).map (·.key)).getD (a.eval k)) (a.eval k)).run P w = .ok (a.eval k) w := by
            rw [q4']
            simp only [Option.map_some, Option.getD_some, q5]
            unfold keysOk at hok
            rw [Bool.and_eq_true] at hok
            have hk1 := hok.1
            unfold keyOk at hk1
            split at hk1
            · rename_i kk n hkv
              rw [hkv] at hkr
              rw [VRel_int hkr]
              simp [Instr.keyThatStays, Instr.sameBits]
            · rename_i s hkv
              rw [hkv] at hkr; simp only [VRel] at hkr
              rw [hkr]
              have hss : (s == s) = true := ba_refl s
              simp [Instr.keyThatStays, Instr.sameBits, hss]
            · cases hk1
          refine ⟨ρ, undef, setBlk w l.blk Y, .inr ⟨?_, rfl⟩, .refl ρ, VRel_undef, ?_⟩
          · simp only [execOp, ho, Instr.mapUpdate, Sem.run_bind, run_underlying ht, Result.andThen_ok, hu, hget, run_checkKey hkt hd, r1, hstay, hset, Sem.run_pure, Y]
          · refine turn_obj R hq rfl rfl hl ⟨g3, g4⟩ g5 hX ⟨_, by rw [setBlk_get, if_pos ⟨rfl, blk_lt g1⟩], ?_, g3, g4, g5⟩
            refine entriesRel_of (by simpa using hlen) fun i p q hp hq => ?_
            rw [List.getElem?_modify] at hp
            rw [Array.toList_modify, List.getElem?_modify] at hq
            simp only [Option.map_eq_map, Option.map_eq_some_iff] at hp hq
            obtain ⟨p', hp', rfl⟩ := hp
            obtain ⟨q', hq', rfl⟩ := hq
            obtain ⟨s1, s2, s3⟩ := entriesRel_get g2 i p' q' hp' hq'
            by_cases hji : j = i
            · simp only [if_pos hji]; exact ⟨hkr, hyr, s3⟩
            · simp only [if_neg hji]; exact ⟨s1, s2, s3⟩
      · simp at hr
    · simp at hr
  · simp at hr
end
end Go.Ideal
