/- For every input WholeRolled returns true, and its arguments read as before: the row, the tied card. Conditions: the row's own. -/
import Derived.Test.YtbikhbgmgmaocaaGreatDoorRolled
import Derived.Test.YtbikhbgmgmaocaaGreatDoorFacts
namespace Go.Proofs.YtbikhbgmgmaocaaGreatDoor
open Go.ChangeShapes Go.WideShapes Go.ChangeAt Go.RowKit Go.Ideal

theorem closed : joinedFacts Tryz.prog 3 Tryz.f3 Rows.wholeRolledSpec Rows.wholeRolledRow = true := by
  unfold joinedFacts
  rw [jf1, jf2, jf3, jf4]
  kernel_rfl
theorem holds : Rows.WholeRolledSaid :=
  OpenClaim.holds_of_wide 3 Tryz.f3 rfl rfl rfl rfl rfl rfl rfl ⟨rfl, rfl, rfl, rfl, rfl⟩ rfl rfl rfl rfl rfl (by kernel_rfl) Tryz.func3 closed
    (of_decide_eq_true (by kernel_rfl)) (by unfold Func.isWrapper; first | (rw [if_pos (by decide +kernel)]; kernel_rfl) | (rw [if_neg (by decide +kernel)]; exact ⟨rfl, rfl⟩))
    (fun os started H enc _ => lifted os started H enc)
theorem no_go : false = Rows.wholeRolledRow.goesBy Tryz.prog := by
  have h : ∀ f : Nat, Tryz.prog.goes f = false := by
    intro f
    have hg : ∀ g : Nat, (Tryz.prog.funcs[g]?).any Func.goes = false := by
      intro g
      cases hgf : Tryz.prog.funcs[g]? with
      | none => rfl
      | some fn =>
        have hmem : fn ∈ Tryz.prog.funcs := Array.mem_of_getElem? hgf
        have hn := Array.any_eq_false'.1 nogo fn hmem
        simpa using hn
    have e : Tryz.prog.goes f = (((Tryz.prog.closure f).any fun g => (Tryz.prog.funcs[g]?).any Func.goes) || (Tryz.prog.unfollowed f && Tryz.prog.funcs.any Func.goes)) := rfl
    rw [e, nogo, Bool.and_false, Bool.or_false, List.any_eq_false]
    intro g _
    rw [hg g]
    exact Bool.false_ne_true
  unfold OpenClaim.goesBy Program.goesAt Program.goesFrom
  have e : Rows.wholeRolledRow.start = .entering := rfl
  rw [e]
  cases Tryz.prog.funcNamed Rows.wholeRolledRow.func with
  | none => rfl
  | some f => simp [h f]
theorem proved : Rows.WholeRolledCardSaid :=
  Claim7.holds_tied_plain_at .later [] [.data, .pinned] true (true, "3c34567a929dccb9f9a3003ad489d657a0d759a6126330bdc736df61fc5f850b") false holds (fun _ h => by cases h) (by kernel_rfl) (fun _ h => by cases h) wholeRolled_row_tie rfl ⟨rfl, rfl⟩ (by kernel_rfl) rfl
    (fun f fn hf hfn => by
      obtain rfl : f = 3 := Option.some.inj ((show Tryz.prog.funcNamed "barrow/barrowtop.WholeRolled" = some 3 by kernel_rfl).symm.trans hf) |>.symm
      obtain rfl : fn = Tryz.f3 := (Option.some.inj (Tryz.func3.symm.trans hfn)).symm
      exact ⟨by kernel_rfl, fun j t ht => by
        rw [Tryz.params3] at ht
        have hm : t ∈ [22, 23] := by simpa using Array.mem_of_getElem? ht
        have hall : ([22, 23].all fun u => !Tryz.prog.wantsStandIn u) = true := by kernel_rfl
        exact (show Tryz.prog.wantsStandIn t = false by simpa using List.all_eq_true.1 hall t hm)⟩)
    no_go
#print axioms proved
end Go.Proofs.YtbikhbgmgmaocaaGreatDoor
