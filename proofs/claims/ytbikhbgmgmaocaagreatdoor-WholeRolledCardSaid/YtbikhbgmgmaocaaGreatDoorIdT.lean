/-
  The ideal machine, part 10: the laws of stores, appends, copies. Conditions: none (lemmas).
-/
import Derived.Test.YtbikhbgmgmaocaaGreatDoorIdN
import Derived.Laws.BytesString
namespace Go.Ideal
open Go.RowKit

section
variable {P : Program} {B : Nat} {w0 : World} {ρ : LMap} {h h' : Heap} {w : World} {e : Env} {a : Act} {o : Oper}
variable {rc : Nat → List V → IM V} {tok : Nat} {slot : Option Nat} {v : V}

theorem below_setBlk {r : Nat} {x : Obj} (hr : B ≤ r) : Below B w (setBlk w r x) :=
  ⟨rfl, rfl, rfl, by rw [setBlk_size]; exact Nat.le_refl _, fun k hk => by rw [setBlk_get, if_neg (by omega)]⟩

theorem sameAt_splice {l k : Loc} {C : Array Value} {T : TypeId} {fr : Nat × Nat} {us : List Value} {off : Nat} (h1 : w.heap[l.blk]? = some (.cells C T fr)) (hle : l.off + off + us.length ≤ C.size) (hin : off + us.length ≤ l.ext)
    (hd : Disj l k) : SameAt w (setBlk w l.blk (.cells (splice (l.off + off) us C.toList).toArray T fr)) k := by
  by_cases hb : l.blk = k.blk
  · intro x hx
    rw [← hb, h1] at hx
    injection hx with hx; subst hx
    refine .inr ⟨C, (splice (l.off + off) us C.toList).toArray, T, fr, rfl, ?_, ?_, fun i hi1 hi2 => ?_⟩
    · rw [setBlk_get, if_pos ⟨hb, blk_lt h1⟩]
    · have := splice_length (o := l.off + off) (vs := us) (cs := C.toList) (by simpa using hle)
      simpa using this
    · have := splice_get (o := l.off + off) (vs := us) (cs := C.toList) (by simpa using hle) i
      rw [List.getElem?_toArray, this, if_neg ?_]
      · simp
      · rcases hd with hd | hd | hd
        · exact absurd hb hd
        · omega
        · omega
  · exact SameAt.of_eq (by rw [setBlk_get, if_neg (fun hh => hb hh.1)])

theorem ones {vs : List V} {us : List Value} (hv : VRelL ρ vs us) (ho : allOne vs = true) : ∀ u ∈ us, ∀ x, u ≠ .agg x ∧ u ≠ .tuple x := by
  intro u hu
  obtain ⟨i, hi, rfl⟩ := List.mem_iff_getElem.1 hu
  have hlen := VRelL_length hv
  have hi' : i < vs.length := by omega
  obtain ⟨u', h1, h2⟩ := VRelL_get hv i vs[i] (by simp [hi'])
  have : u' = us[i] := by rw [List.getElem?_eq_getElem hi] at h1; exact (Option.some.inj h1).symm
  subst this
  have h3 : (vs[i]).one = true := by
    have := List.all_eq_true.1 ho vs[i] (List.getElem_mem hi')
    exact this
  exact (VRel_one h2 h3).2

theorem put_rel {b off : Nat} {vs : List V} {us : List Value} {l : Loc} (R : Rel B w0 ρ h w) (hr : (putCells b off vs).run h = some ((), h')) (hl : ρ b = some l) (hv : VRelL ρ vs us) (ho : allOne vs = true) :
    ∃ w', (storeCells ⟨l.blk, l.off + off, none⟩ us).run P w = .ok () w' ∧ Rel B w0 ρ h' w' := by
  simp only [putCells] at hr
  obtain ⟨z, hz, hr⟩ := get_inv hr
  split at hr
  · rename_i cs
    split at hr
    · rename_i hle
      simp only [IM.run] at hr
      rw [hz] at hr
      simp only [Option.some.injEq, Prod.mk.injEq, true_and] at hr
      subst hr
      obtain ⟨l', hl', C, T, fr, g1, g2, g3, g4, g5, g6⟩ := R.live b _ hz
      rw [hl] at hl'; injection hl' with hl'; subst hl'
      have hlen := VRelL_length hv
      obtain ⟨gB, gf⟩ := g6.1 rfl
      have hin : l.off + off + us.length ≤ C.size := by omega
      refine ⟨setBlk w l.blk (.cells (splice (l.off + off) us C.toList).toArray T fr), ?_, ?_⟩
      · have := run_storeCells (P := P) us 0 w C (r := l.blk) (off := l.off + off) (T := T) (fr := fr) g1 (by omega) (fun j h1 h2 => gf j (by omega) (by omega)) (ones hv ho)
        simpa using this
      · refine R.turn (x := .cells true cs) (l := l) hz rfl rfl hl (below_setBlk gB) (fun i x k _ _ _ _ hd => sameAt_splice g1 hin (by omega) hd) ?_
        refine ⟨_, T, fr, by rw [setBlk_get, if_pos ⟨rfl, blk_lt g1⟩], ?_, g3, ?_, ?_, fun _ => ⟨gB, gf⟩, allOne_append (allOne_append (allOne_take _ g6.2) ho) (allOne_drop _ g6.2)⟩
        · have := splice_length (o := off) (vs := vs) (cs := cs) hle
          unfold splice at this; omega
        · have := splice_length (o := l.off + off) (vs := us) (cs := C.toList) (by simpa using hin)
          simp only [List.size_toArray]
          rw [this]; simpa using g4
        · -- the cells
          have hcs : cs.length = l.len := g2
          refine VRelL_of_get ?_ fun i q hq => ?_
          · have e1 := splice_length (o := off) (vs := vs) (cs := cs) hle
            have e2 := splice_length (o := l.off + off) (vs := us) (cs := C.toList) (by simpa using hin)
            unfold splice at e1
            rw [e1, List.length_take, List.length_drop]
            simp only
            rw [e2]; simp; omega
          · have e1 := splice_get (o := off) (vs := vs) (cs := cs) hle i
            unfold splice at e1
            rw [e1] at hq
            have hi : i < l.len := by
              split at hq
              · omega
              · rcases Nat.lt_or_ge i cs.length with h1 | h1
                · omega
                · rw [List.getElem?_eq_none h1] at hq; cases hq
            rw [List.getElem?_take, if_pos hi, List.getElem?_drop]
            simp only
            rw [splice_get (by simpa using hin)]
            split at hq
            · rename_i hc
              rw [if_pos (by omega), show l.off + i - (l.off + off) = i - off by omega]
              exact VRelL_get hv _ q hq
            · rename_i hc
              rw [if_neg (by omega)]
              obtain ⟨u, h1, h2⟩ := VRelL_get g5 i q hq
              rw [List.getElem?_take, if_pos hi, List.getElem?_drop] at h1
              exact ⟨u, h1, h2⟩
    · simp at hr
  · simp at hr

theorem store_sound {t : TypeId} {n : Nat} {x y : Operand} {x' y' : Opd} (ho : o.op = .store t x y) (hn : cSize P t = some n) (hx : cOpd x = some x') (hy : cOpd y = some y')
    (hr : (iop P rc tok slot e (.store n x' y')).run h = some (v, h')) (he : EnvRel ρ e a) (R : Rel B w0 ρ h w) :
    Good B w0 ρ v h' ((execOp a.eval o).run P w) := by
  have hxr := ev_rel hx he
  have hyr := VRel_cells (ev_rel hy he)
  simp only [iop] at hr
  split at hr
  · rename_i b off hv
    rw [hv] at hxr
    obtain ⟨l, hl, hu⟩ := VRel_ptr hxr
    split at hr
    · rename_i hc
      obtain ⟨_, h1, hp, hr2⟩ := IM.run_bind_some hr
      clear hr
      obtain ⟨rfl, rfl⟩ := pure_inv hr2
      obtain ⟨w', hw, hR⟩ := put_rel (P := P) R hp hl hyr hc.2
      have hlen := VRelL_length hyr
      simp only [Array.length_toList] at hlen
      have hne : ¬ ((a.eval y).cells.size ≠ n) := by omega
      refine ⟨ρ, undef, w', .inr ⟨?_, rfl⟩, .refl ρ, VRel_undef, hR⟩
      simp only [execOp, ho, Instr.storeAt, hu, Instr.sureAddr, storeVar, Sem.run_bind, Sem.run_pure, Result.andThen_ok, run_sizeOf hn, if_neg hne, hw]
    · simp at hr
  · simp at hr

/-! ### Appending -/
theorem sliceCells_inv {sz : Nat} {x : V} {n : Nat} {cs : List V} (hr : (sliceCells sz x).run h = some ((n, cs), h')) :
    h' = h ∧ ((x = .nilSlice ∧ n = 0 ∧ cs = []) ∨ ∃ b off cap more own ds, x = .slice b off sz n cap more ∧ h[b]? = some (some (.cells own ds)) ∧ off + n * sz ≤ ds.length ∧ cs = (ds.drop off).take (n * sz)) := by
  unfold sliceCells at hr
  split at hr
  · obtain ⟨h1, rfl⟩ := pure_inv hr
    injection h1 with h1 h2; subst h1 h2
    exact ⟨rfl, .inl ⟨rfl, rfl, rfl⟩⟩
  · rename_i b off sz' k cap more
    split at hr
    · rename_i hs; subst hs
      obtain ⟨vs, h1, hg, hr2⟩ := IM.run_bind_some hr
      clear hr
      obtain ⟨rfl, own, ds, hb, hle, rfl⟩ := getCells_inv hg
      obtain ⟨h2, rfl⟩ := pure_inv hr2
      injection h2 with h2 h3; subst h2 h3
      exact ⟨rfl, .inr ⟨b, off, cap, more, own, ds, rfl, hb, hle, rfl⟩⟩
    · simp at hr
  · simp at hr

/-- What stands in a slice, as the model reads it. -/
theorem firstCells_rel {sz n : Nat} {x : V} {u : Value} {cs : List V} (R : Rel B w0 ρ h w) (hr : (sliceCells sz x).run h = some ((n, cs), h')) (hx : VRel ρ x u) :
    h' = h ∧ (∀ w' : World, (Builtin.lenOf u).run P w' = .ok n w') ∧ ∃ us, (∀ w' : World, w'.heap = w.heap → (Builtin.firstCells sz n u).run P w' = .ok us.toArray w') ∧ VRelL ρ cs us ∧ cs.length = n * sz ∧ allOne cs = true ∧ ∃ a c, u = .slice a n c := by
  obtain ⟨rfl, h1⟩ := sliceCells_inv hr
  refine ⟨rfl, ?_⟩
  rcases h1 with ⟨rfl, rfl, rfl⟩ | ⟨b, off, cap, more, own, ds, rfl, hb, hle, rfl⟩
  · simp only [VRel] at hx; subst hx
    exact ⟨fun _ => rfl, [], fun _ _ => by simp [Builtin.firstCells], by simp [VRelL_nil], by simp, rfl, none, 0, rfl⟩
  · simp only [VRel] at hx
    obtain ⟨l, ad, m, hl, rfl, g1, g2, g3, g4, g5, g6⟩ := hx
    have hone : allOne ds = true := by
      obtain ⟨_, _, _, _, _, _, _, _, _, _, _, hh⟩ := R.live b _ hb
      exact hh
    refine ⟨fun _ => rfl, ?_⟩
    rcases g6 with rfl | g6
    · obtain ⟨us, h1, h2, _⟩ := cells_rel (P := P) R hb hl hle
      exact ⟨us, fun w' hw' => by simpa [Builtin.firstCells] using h1 w' hw', h2, by simp; omega, allOne_take _ (allOne_drop _ hone), _, _, rfl⟩
    · have hn : n = 0 := by omega
      subst hn
      exact ⟨[], fun _ _ => by simp [Builtin.firstCells, loadCells, loadCellsFrom], by simp [VRelL_nil], by simp, by simp [allOne], _, _, rfl⟩

theorem nextslicecap_le {need old : Nat} (h1 : old < need) : Builtin.nextslicecap need old ≤ 4 * need + 2048 := by
  have hg : ∀ k c, c ≤ 4 * need + 2048 → Builtin.growBy need k c ≤ 4 * need + 2048 := by
    intro k
    induction k with
    | zero => intro c hc; simpa [Builtin.growBy] using hc
    | succ k ih =>
      intro c hc
      unfold Builtin.growBy
      split
      · exact hc
      · exact ih _ (by omega)
  unfold Builtin.nextslicecap
  split
  · omega
  · split
    · omega
    · exact hg _ _ (by omega)

/-- An append: the model's two ways. -/
theorem append_rel {sz n : Nat} {x : V} {new : List V} {us : List Value} {base : Option Addr} {sl sc : Nat} {el : TypeId} (hsz : 0 < sz) (R : Rel B w0 ρ h w)
    (hx : VRel ρ x (.slice base sl sc)) (hn : VRelL ρ new us) (hnl : new.length = n * sz) (hone : allOne new = true) (hr : (appendCells sz x n new).run h = some (v, h')) :
    (sl + n ≤ sc → ∃ ρ' w', (match base with | some ad => storeCells (ad.add (sl * sz)) us | none => (pure () : Sem Unit)).run P w = .ok () w' ∧ Ext ρ ρ' ∧ VRel ρ' v (.slice base (sl + n) sc) ∧ Rel B w0 ρ' h' w') ∧
    (sc < sl + n → sl + n < big ∧ ∀ (d newCap : Nat) (rest : Array Value), sl + n ≤ newCap → rest.size = (newCap - (sl + n)) * sz →
      ∃ ρ' old, (∀ w' : World, w'.heap = w.heap → (Builtin.firstCells sz sl (.slice base sl sc)).run P w' = .ok old w') ∧ Ext ρ ρ' ∧ VRel ρ' v (.slice (some ⟨w.heap.size, 0, none⟩) (sl + n) newCap) ∧
        Rel B w0 ρ' h' (pushW w (.cells (old ++ us.toArray ++ rest) el) d)) := by
  have hul := VRelL_length hn
  unfold appendCells at hr
  split at hr
  · -- nil
    simp only [VRel] at hx
    injection hx with e1 e2 e3
    subst e1 e2 e3
    split at hr
    · rename_i h0; subst h0
      obtain ⟨rfl, rfl⟩ := pure_inv hr
      exact ⟨fun _ => ⟨ρ, w, rfl, .refl ρ, by simp [VRel], R⟩, fun hlt => by omega⟩
    · rename_i h0
      split at hr
      · rename_i hb
        have hmk : (mkBlk 0 none (.cells true new)).run h = some (h.length, h ++ [some (.cells true new)]) := rfl
        simp only [IM.run, Option.some.injEq, Prod.mk.injEq] at hr
        obtain ⟨rfl, rfl⟩ := hr
        refine ⟨fun hle => by omega, fun _ => ⟨by omega, fun d newCap rest hcap hrest => ?_⟩⟩
        simp only [Nat.zero_add] at hcap hrest ⊢
        let C : Array Value := #[] ++ us.toArray ++ rest
        have hCs : C.size = newCap * sz := by
          have e1 : C.size = n * sz + (newCap - n) * sz := by simp [C, hrest, ← hul, hnl]
          rw [e1, ← Nat.add_mul]; congr 1; omega
        have hext := upd_ext (ρ := ρ) (b := h.length) ⟨w.heap.size, 0, n * sz, C.size⟩ (R.dom _ (Nat.le_refl _))
        have hle2 : n * sz ≤ newCap * sz := Nat.mul_le_mul_right _ hcap
        obtain ⟨he, hR⟩ := make_rel (l := ⟨w.heap.size, 0, n * sz, C.size⟩) (x := .cells C el (0, 0)) d R hmk rfl
          (cells_ok R hnl (by
            have e1 : C.toList.take (n * sz) = us := by
              have e2 : C.toList = us ++ rest.toList := by simp [C]
              rw [e2, List.take_append_of_le_length (by omega), List.take_of_length_le (by omega)]
            rw [e1]; exact hn.ext hext) (by omega) (fun i _ => by simp) hone)
        refine ⟨_, #[], fun w' _ => by simp [Builtin.firstCells], he, ?_, hR⟩
        simp only [VRel]
        exact ⟨_, _, _, by simp [upd]; rfl, rfl, Nat.le_refl _, hcap, by simp, by simp [hCs], by simp, .inl (by simp)⟩
      · simp at hr
  · rename_i b off sz' len cap more
    simp only [VRel] at hx
    obtain ⟨l, ad, m, hl, hu, g1, g2, g3, g4, g5, g6⟩ := hx
    injection hu with e1 e2 e3
    subst e1 e2 e3
    split at hr
    · rename_i hs; subst hs
      split at hr
      · rename_i h0; subst h0
        obtain ⟨rfl, rfl⟩ := pure_inv hr
        have hus : us = [] := by
          rw [Nat.zero_mul] at hnl; rw [hnl] at hul; exact List.length_eq_zero_iff.1 hul.symm
        subst hus
        exact ⟨fun _ => ⟨ρ, w, rfl, .refl ρ, by simp only [VRel]; exact ⟨l, ad, sc, hl, rfl, g1, g2, g3, g4, g5, g6⟩, R⟩, fun hlt => by omega⟩
      · rename_i h0
        have hmul : sl * sz' + n * sz' = (sl + n) * sz' := by rw [← Nat.add_mul]
        split at hr
        · -- in place, within what is known
          rename_i hcap
          obtain ⟨_, h1, hp, hr2⟩ := IM.run_bind_some hr
          clear hr
          obtain ⟨rfl, rfl⟩ := pure_inv hr2
          have had : ad = ⟨l.blk, l.off + off, none⟩ := by
            rcases g6 with g6 | g6
            · exact g6
            · omega
          subst had
          obtain ⟨w', hw, hR⟩ := put_rel (P := P) R hp hl hn hone
          refine ⟨fun _ => ⟨ρ, w', ?_, .refl ρ, ?_, hR⟩, fun hlt => by omega⟩
          · simp only [add_eq]; rw [Nat.add_assoc l.off]; exact hw
          · simp only [VRel]; exact ⟨l, _, sc, hl, rfl, hcap, g2, g3, g4, g5, .inl rfl⟩
        · rename_i hcap
          split at hr
          · rename_i hbig
            obtain ⟨old, h1, hg, hr2⟩ := IM.run_bind_some hr
            clear hr
            obtain ⟨rfl, own, cs, hb, hle, rfl⟩ := getCells_inv hg
            -- what stood there, as the model reads it
            have hold : ∃ ous : List Value, (∀ w' : World, w'.heap = w.heap → (Builtin.firstCells sz' sl (.slice (some ad) sl sc)).run P w' = .ok ous.toArray w') ∧ VRelL ρ ((cs.drop off).take (sl * sz')) ous := by
              rcases g6 with rfl | g6
              · obtain ⟨ous, q1, q2, _⟩ := cells_rel (P := P) R hb hl hle
                exact ⟨ous, fun w' hw' => by simpa [Builtin.firstCells] using q1 w' hw', q2⟩
              · have hs0 : sl = 0 := by omega
                subst hs0
                exact ⟨[], fun _ _ => by simp [Builtin.firstCells, loadCells, loadCellsFrom], by simp [VRelL_nil]⟩
            obtain ⟨ous, hfc, hous⟩ := hold
            have houl := VRelL_length hous
            have hol : ((cs.drop off).take (sl * sz')).length = sl * sz' := by simp; omega
            have hcs1 : allOne cs = true := by
              obtain ⟨_, _, _, _, _, _, _, _, _, _, _, hh⟩ := R.live b _ hb
              exact hh
            -- a new row, over whatever heap
            have fresh : ∀ (g : Heap) (Rg : Rel B w0 ρ g w) (d newCap : Nat) (rest : Array Value), g.length = h1.length → sl + n ≤ newCap → rest.size = (newCap - (sl + n)) * sz' →
                ∃ ρ', Ext ρ ρ' ∧ VRel ρ' (.slice g.length 0 sz' (sl + n) (sl + n) true) (.slice (some ⟨w.heap.size, 0, none⟩) (sl + n) newCap) ∧
                  Rel B w0 ρ' (g ++ [some (.cells true ((cs.drop off).take (sl * sz') ++ new))]) (pushW w (.cells (ous.toArray ++ us.toArray ++ rest) el) d) := by
              intro g Rg d newCap rest hgl hcap2 hrest
              let C : Array Value := ous.toArray ++ us.toArray ++ rest
              have hCs : C.size = newCap * sz' := by
                have e1 : C.size = sl * sz' + n * sz' + (newCap - (sl + n)) * sz' := by
                  simp only [C, Array.size_append, hrest, List.size_toArray]; omega
                rw [e1, ← Nat.add_mul, ← Nat.add_mul]; congr 1; omega
              have hle2 : (sl + n) * sz' ≤ newCap * sz' := Nat.mul_le_mul_right _ (by omega)
              have hmk : (mkBlk 0 none (.cells true ((cs.drop off).take (sl * sz') ++ new))).run g = some (g.length, g ++ [some (.cells true ((cs.drop off).take (sl * sz') ++ new))]) := rfl
              have hext := upd_ext (ρ := ρ) (b := g.length) ⟨w.heap.size, 0, (sl + n) * sz', C.size⟩ (Rg.dom _ (Nat.le_refl _))
              obtain ⟨he, hR⟩ := make_rel (l := ⟨w.heap.size, 0, (sl + n) * sz', C.size⟩) (x := .cells C el (0, 0)) d Rg hmk rfl
                (cells_ok Rg (by rw [List.length_append, hol, hnl, hmul]) (by
                  have e1 : C.toList.take ((sl + n) * sz') = ous ++ us := by
                    have e2 : C.toList = (ous ++ us) ++ rest.toList := by simp [C]
                    rw [e2, List.take_append_of_le_length (by rw [List.length_append]; omega), List.take_of_length_le (by rw [List.length_append]; omega)]
                  rw [e1]; exact (VRelL_append hous hn).ext hext) (by omega) (fun i _ => by simp) (allOne_append (allOne_take _ (allOne_drop _ hcs1)) hone))
              refine ⟨_, he, ?_, hR⟩
              simp only [VRel]
              exact ⟨_, _, _, by simp [upd]; rfl, rfl, Nat.le_refl _, hcap2, by simp, by simp [hCs], by simp, .inl (by simp)⟩
            split at hr2
            · -- there may be more room: the old block is no more
              obtain ⟨z, hz, hr3⟩ := get_inv hr2
              rw [hb] at hz; injection hz with hz; injection hz with hz; subst hz
              cases own with
              | false => simp at hr3
              | true =>
                simp only [IM.run] at hr3
                rw [hb] at hr3
                simp only [Option.some.injEq, Prod.mk.injEq] at hr3
                obtain ⟨rfl, rfl⟩ := hr3
                obtain ⟨l', hl', C, T, fr, q1, q2, q3, q4, q5, q6⟩ := R.live b _ hb
                rw [hl] at hl'; injection hl' with hl'; subst hl'
                obtain ⟨qB, qf⟩ := q6.1 rfl
                have hblt := R.lt hl
                have Rd : Rel B w0 ρ (h1.set b (some .dead)) w := R.turn (x := .cells true cs) (l := l) hb rfl rfl hl (Below.refl _ _) (fun i x k _ _ _ _ _ => SameAt.of_eq rfl) trivial
                refine ⟨fun hroom => ?_, fun hlt => ⟨hbig, fun d newCap rest hcap2 hrest => ?_⟩⟩
                · have had : ad = ⟨l.blk, l.off + off, none⟩ := by
                    rcases g6 with g6 | g6
                    · exact g6
                    · omega
                  subst had
                  have hroom2 : (sl + n) * sz' ≤ sc * sz' := Nat.mul_le_mul_right _ hroom
                  have hin : l.off + (off + sl * sz') + us.length ≤ C.size := by omega
                  have hstore := run_storeCells (P := P) us 0 w C (r := l.blk) (off := l.off + (off + sl * sz')) (T := T) (fr := fr) q1 (by omega) (fun j h1 h2 => qf j (by omega) (by omega)) (ones hn hone)
                  rw [Nat.add_zero] at hstore
                  let w' := setBlk w l.blk (.cells (splice (l.off + (off + sl * sz')) us C.toList).toArray T fr)
                  let l2 : Loc := ⟨l.blk, l.off + off, (sl + n) * sz', l.ext - off⟩
                  have hnone : ρ (h1.set b (some .dead)).length = none := Rd.dom _ (Nat.le_refl _)
                  have hsame : ∀ (i : Nat) (x : Blk) (k : Loc), (h1.set b (some .dead))[i]? = some (some x) → x.isDead = false → ρ i = some k → Disj l k := by
                    intro i x k hx hx0 hk
                    have hne : i ≠ b := by
                      intro hh; subst hh
                      rw [List.getElem?_set_self hblt] at hx
                      injection hx with hx; injection hx with hx; subst hx; cases hx0
                    rw [List.getElem?_set_ne (Ne.symm hne)] at hx
                    exact R.disj b i _ x l k (Ne.symm hne) hb hx rfl hx0 rfl hl hk
                  have hCl : (splice (l.off + (off + sl * sz')) us C.toList).length = C.size := by
                    rw [splice_length (by simpa using hin)]; simp
                  have hRn : Rel B w0 (upd ρ (h1.set b (some .dead)).length l2) (h1.set b (some .dead) ++ [some (.cells true ((cs.drop off).take (sl * sz') ++ new))]) w' := by
                    refine Rd.fresh (y := .cells true ((cs.drop off).take (sl * sz') ++ new)) hnone (by simp) (fun i hi => by simp at hi ⊢; omega) (fun i hi => ?_) (below_setBlk qB) (fun i x k hx hx0 hk => sameAt_splice (off := off + sl * sz') q1 hin (by omega) (hsame i x k hx hx0 hk)) ?_
                      (fun i x k hx hx0 hk => ?_)
                    · rcases Nat.lt_trichotomy i (h1.set b (some .dead)).length with h3 | h3 | h3
                      · rw [List.getElem?_append_left h3]
                      · exact absurd h3 hi
                      · rw [List.getElem?_eq_none (by simp at h3 ⊢; omega), List.getElem?_eq_none (by simp at h3 ⊢; omega)]
                    · refine ⟨_, T, fr, by rw [setBlk_get, if_pos ⟨rfl, blk_lt q1⟩], by rw [List.length_append, hol, hnl, hmul], by simp only [l2]; omega, by simp only [l2, List.size_toArray, hCl]; omega, ?_, fun _ => ⟨qB, fun i hi1 hi2 => qf i (by simp only [l2] at hi1; omega) (by simp only [l2] at hi1 hi2; omega)⟩, allOne_append (allOne_take _ (allOne_drop _ hcs1)) hone⟩
                      refine VRelL.ext (upd_ext l2 hnone) _ ?_
                      refine VRelL_of_get ?_ fun i q hq => ?_
                      · simp only [l2, List.length_append, hol, hnl, hmul, List.length_take, List.length_drop, hCl]; omega
                      · have hi : i < (sl + n) * sz' := by
                          rcases Nat.lt_or_ge i ((cs.drop off).take (sl * sz') ++ new).length with h3 | h3
                          · rw [List.length_append, hol, hnl, hmul] at h3; exact h3
                          · rw [List.getElem?_eq_none h3] at hq; cases hq
                        simp only [l2]
                        rw [List.getElem?_take, if_pos hi, List.getElem?_drop, splice_get (by simpa using hin)]
                        by_cases h4 : i < sl * sz'
                        · rw [List.getElem?_append_left (by omega)] at hq
                          rw [if_neg (by omega)]
                          rw [List.getElem?_take, if_pos h4, List.getElem?_drop] at hq
                          obtain ⟨u, u1, u2⟩ := VRelL_get q5 (off + i) q hq
                          rw [List.getElem?_take, if_pos (by omega), List.getElem?_drop] at u1
                          exact ⟨u, by rw [← u1]; congr 1; omega, u2⟩
                        · rw [List.getElem?_append_right (by omega), hol] at hq
                          rw [if_pos (by omega), show l.off + off + i - (l.off + (off + sl * sz')) = i - sl * sz' by omega]
                          exact VRelL_get hn _ q hq
                    · have := hsame i x k hx hx0 hk
                      unfold Disj at *
                      simp only [l2]
                      omega
                  refine ⟨_, w', ?_, upd_ext l2 hnone, ?_, hRn⟩
                  · simp only [add_eq]; rw [Nat.add_assoc l.off]; exact hstore
                  · simp only [VRel]
                    exact ⟨l2, _, sc, by simp [upd], rfl, Nat.le_refl _, hroom, by simp [l2], by simp only [l2]; omega, by simp, .inl (by simp [l2])⟩
                · obtain ⟨ρ', e1, e2, e3⟩ := fresh (h1.set b (some .dead)) Rd d newCap rest (by simp) hcap2 hrest
                  exact ⟨ρ', ous.toArray, hfc, e1, by simpa using e2, e3⟩
            · rename_i hmore
              have hm := g5 (by simpa using hmore)
              simp only [IM.run, Option.some.injEq, Prod.mk.injEq] at hr2
              obtain ⟨rfl, rfl⟩ := hr2
              refine ⟨fun hroom => by omega, fun hlt => ⟨hbig, fun d newCap rest hcap2 hrest => ?_⟩⟩
              obtain ⟨ρ', e1, e2, e3⟩ := fresh h1 R d newCap rest rfl hcap2 hrest
              exact ⟨ρ', ous.toArray, hfc, e1, e2, e3⟩
          · simp at hr
    · simp at hr
  · simp at hr
end
end Go.Ideal
