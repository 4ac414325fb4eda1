/-
  The ideal machine, part 14: the law of every operation that is no call. Conditions: none (lemmas).
-/
import Derived.Test.YtbikhbgmgmaocaaGreatDoorIdX
namespace Go.Ideal
open Go.RowKit

def IOp.isCall : IOp → Bool
  | .call .. | .callV .. => true
  | _ => false

section
variable {P : Program} {B : Nat} {w0 : World} {ρ : LMap} {h h' : Heap} {w : World} {e : Env} {a : Act} {o : Oper}
variable {rc : Nat → List V → IM V} {tok : Nat} {slot : Option Nat} {v : V}

theorem op_sound {x : IOp} (hc : cOp P o = some x) (hcall : x.isCall = false) (hr : (iop P rc tok slot e x).run h = some (v, h')) (he : EnvRel ρ e a) (R : Rel B w0 ρ h w) :
    Good B w0 ρ v h' ((execOp a.eval o).run P w) := by
  unfold cOp at hc
  split at hc
  · rename_i y ho
    simp only [Option.map_eq_some_iff] at hc
    obtain ⟨z, hz, rfl⟩ := hc
    exact mv_sound (.inl ho) hz hr he R
  · rename_i y ho
    simp only [Option.map_eq_some_iff] at hc
    obtain ⟨z, hz, rfl⟩ := hc
    exact mv_sound (.inr ho) hz hr he R
  · rename_i c p q ho
    split at hc
    · rename_i c' p' q' h1 h2 h3
      injection hc with hc; subst hc
      exact pick_sound ho h1 h2 h3 hr he R
    · cases hc
  · rename_i t ho
    simp only [Option.map_eq_some_iff] at hc
    obtain ⟨z, hz, rfl⟩ := hc
    exact alloc_sound ho hz hr R
  · rename_i t y ho
    simp only [Option.map_eq_some_iff] at hc
    obtain ⟨z, hz, rfl⟩ := hc
    exact box_sound ho hz hr he R
  · rename_i t parts ho
    split at hc
    · rename_i fields z ht hz
      split at hc
      · rename_i hall
        simp only [Option.map_eq_some_iff] at hc
        obtain ⟨qs, hq, rfl⟩ := hc
        exact build_sound_struct ho ht hz hall hq hr he R
      · cases hc
    · rename_i len el z ht hz
      split at hc
      · rename_i n hn
        simp only [Option.map_eq_some_iff] at hc
        obtain ⟨qs, hq, rfl⟩ := hc
        exact build_sound_array ho ht hz hn hq hr he R
      · cases hc
    · cases hc
  · rename_i t len parts ho
    split at hc
    · rename_i el ht
      split at hc
      · rename_i n z hn hz
        split at hc
        · rename_i hcnd
          simp only [Option.map_eq_some_iff] at hc
          obtain ⟨qs, hq, rfl⟩ := hc
          exact buildSlice_sound ho ht hn hz hcnd.1 hcnd.2 hq hr he R
        · cases hc
      · cases hc
    · cases hc
  · rename_i t y ho
    split at hc
    · rename_i n ha hs
      simp only [Option.map_eq_some_iff] at hc
      obtain ⟨z, hz, rfl⟩ := hc
      exact load_sound ho (.inr ⟨n, rfl, ha, hs⟩) hz hr he R
    · rename_i hs ha
      simp only [Option.map_eq_some_iff] at hc
      obtain ⟨z, hz, rfl⟩ := hc
      exact load_sound ho (.inl ⟨rfl, by assumption⟩) hz hr he R
    · cases hc
  · rename_i t y z ho
    split at hc
    · rename_i n y' z' hn hy hz
      injection hc with hc; subst hc
      exact store_sound ho hn hy hz hr he R
    · cases hc
  · rename_i y ho
    simp only [Option.map_eq_some_iff] at hc
    obtain ⟨z, hz, rfl⟩ := hc
    exact nilCheck_sound ho hz hr he R
  · rename_i op t y z t2 ho
    unfold cBin at hc
    split at hc
    · rename_i hop
      split at hc
      · cases hc
      · rename_i d hd
        split at hc
        · injection hc with hc; subst hc
          exact scal_sound (fun cs b hh => by rw [ho] at hh; cases hh) hr he R
        · rename_i k hk
          split at hc
          · rename_i hn
            simp only [Option.map_eq_some_iff] at hc
            obtain ⟨y', hy, rfl⟩ := hc
            exact isNil_sound ho hop hd hk hy (.inl ⟨rfl, hn⟩) hr he R
          · split at hc
            · rename_i hn
              simp only [Option.map_eq_some_iff] at hc
              obtain ⟨y', hy, rfl⟩ := hc
              exact isNil_sound ho hop hd hk hy (.inr ⟨rfl, hn⟩) hr he R
            · cases hc
    · injection hc with hc; subst hc
      exact scal_sound (fun cs b hh => by rw [ho] at hh; cases hh) hr he R
  · rename_i p q r ho
    injection hc with hc; subst hc
    exact scal_sound (fun cs b hh => by rw [ho] at hh; cases hh) hr he R
  · rename_i s t y ho
    split at hc
    · injection hc with hc; subst hc
      exact scal_sound (fun cs b hh => by rw [ho] at hh; cases hh) hr he R
    · injection hc with hc; subst hc
      exact scal_sound (fun cs b hh => by rw [ho] at hh; cases hh) hr he R
    · rename_i el hs ht
      split at hc
      · rename_i hel
        simp only [Option.map_eq_some_iff] at hc
        obtain ⟨y', hy, rfl⟩ := hc
        exact strBytes_sound ho hs ht hel hy hr he R
      · cases hc
    · rename_i el hs ht
      split at hc
      · rename_i hel
        simp only [Option.map_eq_some_iff] at hc
        obtain ⟨y', hy, rfl⟩ := hc
        exact bytesStr_sound ho hs ht hel hy hr he R
      · cases hc
    · cases hc
  · rename_i f p q ho
    split at hc
    · rename_i p' q' hp hq
      injection hc with hc; subst hc
      exact mkFn_sound ho hp hq hr he R
    · cases hc
  · rename_i t ho
    injection hc with hc; subst hc
    exact makeMap_sound ho hr R
  · rename_i t y ho
    split at hc
    · rename_i dir el ht
      split at hc
      · rename_i n hn
        simp only [Option.map_eq_some_iff] at hc
        obtain ⟨y', hy, rfl⟩ := hc
        exact makeChan_sound ho ht hn hy hr he R
      · cases hc
    · cases hc
  · rename_i t l c ho
    split at hc
    · rename_i hsame
      split at hc
      · rename_i el ht
        split at hc
        · rename_i n z hn hz
          split at hc
          · rename_i hzn
            simp only [Option.map_eq_some_iff] at hc
            obtain ⟨y', hy, rfl⟩ := hc
            exact makeSlice_sound ho hsame ht hn hz hzn hy hr he R
          · cases hc
        · cases hc
      · cases hc
    · cases hc
  · rename_i t y lo hi mx ho
    split at hc
    · injection hc with hc; subst hc
      exact scal_sound (fun cs b hh => by rw [ho] at hh; cases hh) hr he R
    · rename_i el ht
      split at hc
      · rename_i n y' lo' hi' mx' hn hy hlo hhi hmx
        split at hc
        · cases hc
        · rename_i hcnd
          injection hc with hc; subst hc
          refine slice_sound ho ht hn hy hlo hhi hmx ?_ hr he R
          cases mx <;> cases hi <;> simp at hcnd ⊢
      · cases hc
    · rename_i len el ht
      split at hc
      · rename_i n y' lo' hi' hn hy hlo hhi
        injection hc with hc; subst hc
        exact sliceA_sound ho ht hn hy hlo hhi hr he R
      · cases hc
    · cases hc
  · rename_i t y f ho
    split at hc
    · rename_i fields ht
      split at hc
      · rename_i fd hf
        split at hc
        · rename_i n hn
          split at hc
          · rename_i hpos
            simp only [Option.map_eq_some_iff] at hc
            obtain ⟨y', hy, rfl⟩ := hc
            exact fieldAddr_sound ho ht hf hn hpos hy hr he R
          · cases hc
        · cases hc
      · cases hc
    · cases hc
  · rename_i t y f ho
    split at hc
    · rename_i fields ht
      split at hc
      · rename_i fd hf
        split at hc
        · rename_i n ag hn hag
          simp only [Option.map_eq_some_iff] at hc
          obtain ⟨y', hy, rfl⟩ := hc
          exact field_sound ho ht hf hn hag hy hr he R
        · cases hc
      · cases hc
    · cases hc
  · rename_i t y i ho
    split at hc
    · rename_i el ht
      split at hc
      · rename_i n y' i' hn hy hi
        injection hc with hc; subst hc
        exact indexAddr_sound ho ht hn hy hi hr he R
      · cases hc
    · rename_i len el ht
      split at hc
      · rename_i n y' i' hn hy hi
        injection hc with hc; subst hc
        exact indexAddrA_sound ho ht hn hy hi hr he R
      · cases hc
    · cases hc
  · rename_i p q r ho
    injection hc with hc; subst hc
    exact scal_sound (fun cs b hh => by rw [ho] at hh; cases hh) hr he R
  · rename_i t y k ok ho
    split at hc
    · rename_i kt el ht
      split at hc
      · rename_i kk z y' k' hkt hz hy hk
        injection hc with hc; subst hc
        exact lookup_sound ho ht hkt (.inl ⟨rfl, kk, rfl⟩) hz hy hk hr he R
      · rename_i z y' k' hkt hz hy hk
        injection hc with hc; subst hc
        exact lookup_sound ho ht hkt (.inr ⟨rfl, rfl⟩) hz hy hk hr he R
      · cases hc
    · cases hc
  · rename_i t y k z ho
    split at hc
    · rename_i kt el ht
      split at hc
      · rename_i kk y' k' z' hkt hy hk hz
        injection hc with hc; subst hc
        exact mapUpdate_sound ho ht hkt (.inl ⟨rfl, kk, rfl⟩) hy hk hz hr he R
      · rename_i y' k' z' hkt hy hk hz
        injection hc with hc; subst hc
        exact mapUpdate_sound ho ht hkt (.inr ⟨rfl, rfl⟩) hy hk hz hr he R
      · cases hc
    · cases hc
  · rename_i t y ho
    split at hc
    · rename_i kt el ht
      simp only [Option.map_eq_some_iff] at hc
      obtain ⟨y', hy, rfl⟩ := hc
      exact range_sound ho ht hy hr he R
    · cases hc
  · rename_i y ho
    simp only [Option.map_eq_some_iff] at hc
    obtain ⟨y', hy, rfl⟩ := hc
    exact next_sound ho hy hr he R
  · rename_i y ho
    simp only [Option.map_eq_some_iff] at hc
    obtain ⟨y', hy, rfl⟩ := hc
    exact entry_sound ho hy hr he R
  · rename_i y i ho
    simp only [Option.map_eq_some_iff] at hc
    obtain ⟨y', hy, rfl⟩ := hc
    exact extract_sound ho hy hr he R
  · rename_i c ho
    split at hc
    · simp only [Option.map_eq_some_iff] at hc
      obtain ⟨ys, hy, rfl⟩ := hc
      cases hcall
    · simp only [Option.map_eq_some_iff] at hc
      obtain ⟨ys, hy, rfl⟩ := hc
      cases hcall
    · rename_i hcal
      split at hc
      · rename_i t y hts hx
        split at hc
        · injection hc with hc; subst hc
          exact scal_sound (fun cs b hh => by rw [ho] at hh; cases hh) hr he R
        · rename_i el ht
          simp only [Option.map_eq_some_iff] at hc
          obtain ⟨y', hy, rfl⟩ := hc
          exact lenSlice_sound ho hcal hx hts ht hy hr he R
        · rename_i kt el ht
          simp only [Option.map_eq_some_iff] at hc
          obtain ⟨y', hy, rfl⟩ := hc
          exact lenMap_sound ho hcal hx hts ht hy hr he R
        · rename_i dir el ht
          simp only [Option.map_eq_some_iff] at hc
          obtain ⟨y', hy, rfl⟩ := hc
          exact lenChan_sound ho hcal hx hts ht hy hr he R
        · rename_i n el ht
          injection hc with hc; subst hc
          simp only [iop] at hr
          obtain ⟨rfl, rfl⟩ := pure_inv hr
          have e1 : c.args = #[y] := by apply Array.ext'; simpa using hx
          have e2 : c.argTypes = #[t] := by apply Array.ext'; simpa using hts
          refine Good.plain (u := .int .i64 n) ?_ (by simp [Opd.ev, VRel]) R
          simp [execOp, ho, resolve, hcal, e1, e2, invoke, builtin, Builtin.len_, run_underlying ht, goInt]
        · cases hc
      · cases hc
    · rename_i hcal
      split at hc
      · rename_i t y hts hx
        split at hc
        · rename_i el ht
          simp only [Option.map_eq_some_iff] at hc
          obtain ⟨y', hy, rfl⟩ := hc
          exact cap_sound ho hcal hx hts ht hy hr he R
        · cases hc
      · cases hc
    · injection hc with hc; subst hc
      exact scal_sound (fun cs b hh => by rw [ho] at hh; cases hh) hr he R
    · injection hc with hc; subst hc
      exact scal_sound (fun cs b hh => by rw [ho] at hh; cases hh) hr he R
    · rename_i hcal
      split at hc
      · rename_i t u y z hts hx
        split at hc
        · rename_i el el2 ht hu
          split at hc
          · rename_i n zz y' z' hn hzz hy hz
            split at hc
            · rename_i hzn
              injection hc with hc; subst hc
              exact append_sound ho hcal hx hts ht hu hn hzz hzn hy hz hr he R
            · cases hc
          · cases hc
        · rename_i el ht hu
          split at hc
          · rename_i n zz y' z' hn hzz hy hz
            split at hc
            · rename_i hzn
              injection hc with hc; subst hc
              exact appendZ_sound ho hcal hx hts ht hu hn hzz hzn hy hz hr he R
            · cases hc
          · cases hc
        · rename_i el ht hu
          split at hc
          · rename_i n zz y' z' hn hzz hy hz
            split at hc
            · rename_i hzn
              injection hc with hc; subst hc
              obtain ⟨rfl, hzn⟩ := hzn
              exact appendStr_sound ho hcal hx hts ht hu hn hzz hzn hy hz hr he R
            · cases hc
          · cases hc
        · cases hc
      · cases hc
    · rename_i hcal
      split at hc
      · rename_i t u y z hts hx
        split at hc
        · rename_i el el2 ht hu
          split at hc
          · rename_i n y' z' hn hy hz
            injection hc with hc; subst hc
            exact copy_sound ho hcal hx hts ht hn hy hz hr he R
          · cases hc
        · cases hc
      · cases hc
    · rename_i hcal
      split at hc
      · rename_i t y hts hx
        split at hc
        · rename_i el ht
          split at hc
          · rename_i n z y' hn hz hy
            split at hc
            · injection hc with hc; subst hc
              exact clear_sound ho hcal hx hts ht hz hy hr he R
            · cases hc
          · cases hc
        · cases hc
      · cases hc
    · rename_i hcal
      split at hc
      · rename_i t u y k hts hx
        split at hc
        · rename_i kt el ht
          split at hc
          · rename_i kk y' k' hkt hy hk
            injection hc with hc; subst hc
            exact delete_sound ho hcal hx hts ht hkt (.inl ⟨rfl, kk, rfl⟩) hy hk hr he R
          · rename_i y' k' hkt hy hk
            injection hc with hc; subst hc
            exact delete_sound ho hcal hx hts ht hkt (.inr ⟨rfl, rfl⟩) hy hk hr he R
          · cases hc
        · cases hc
      · cases hc
    · cases hc
  · injection hc with hc; subst hc
    simp [iop] at hr
  · injection hc with hc; subst hc
    simp [iop] at hr
  · rename_i t y ho
    split at hc
    · rename_i len el ht
      split at hc
      · rename_i n hn
        simp only [Option.map_eq_some_iff] at hc
        obtain ⟨y', hy, rfl⟩ := hc
        exact arrayPtr_sound ho ht hy hr he R
      · cases hc
    · cases hc
  · cases hc
end
end Go.Ideal
