/-
  DERIVED. GIVEN WITH THE SEED: THE CARDS: each row of YtbikhbgmgmaocaaGreatDoorRows.lean that lists a variable, with what it lists TIED to the program's text (the seventh form; the later family's looks); each row that meets fmt, with fmt's text TOLD by the authors' own Lean function (tested against real Go, not proved from fmt's source: count such statements apart). THE CARD IS WHAT COUNTS. Prove the row's statement (the work); the ties are given (YtbikhbgmgmaocaaGreatDoorTie.lean); close each card by the builder's one call (the guide's Derived/Test/ToyasCard.lean, 'card_holds'). Laid BY PROGRAM, IN A SANDBOX (cutbox-door.mjs). By AI agents, Wed Nov 11 2026. No macro, syntax, notation, axiom, sorry.
-/
import Derived.Test.YtbikhbgmgmaocaaGreatDoorRows
import GoSem.ClaimSeven
namespace Go.Proofs.YtbikhbgmgmaocaaGreatDoor
namespace Rows

/-- THE TIED CARD OF 'barrowtop.WholeRolled'. -/
def wholeRolledCard : Claim7 := { stood := { row := wholeRolledRow, standIns := [], harness := (true, "3c34567a929dccb9f9a3003ad489d657a0d759a6126330bdc736df61fc5f850b"), looks := false }, kinds := [], alts := [], laidByText := true, laidKinds := [.data, .pinned], laidTests := true, laidLooks := .later }
def WholeRolledCardSaid : Prop := Claim7.holds Tryz.pinned (.plain (OpenSpec.ofChange wholeRolledSpec)) wholeRolledCard

/-- THE TIED CARD OF 'barrowtop.WholeBarred'. -/
def wholeBarredCard : Claim7 := { stood := { row := wholeBarredRow, standIns := [], harness := (true, "3c34567a929dccb9f9a3003ad489d657a0d759a6126330bdc736df61fc5f850b"), looks := false }, kinds := [], alts := [], laidByText := true, laidKinds := [.data, .pinned], laidTests := true, laidLooks := .later }
def WholeBarredCardSaid : Prop := Claim7.holds Tryz.pinned (.plain (OpenSpec.ofChange wholeBarredSpec)) wholeBarredCard

/-- THE SECOND FORM's CARD OF 'barrowtop.WholeRolled'. -/
def wholeRolledUptoCard : Claim7 := { stood := { row := wholeRolledUptoRow, standIns := [], harness := (true, "3c34567a929dccb9f9a3003ad489d657a0d759a6126330bdc736df61fc5f850b"), looks := false }, kinds := [], alts := [], laidByText := true, laidKinds := [.data, .pinned], laidTests := true, laidLooks := .later }
def WholeRolledUptoCardSaid : Prop := Claim7.holds Tryz.pinned (.plain (OpenSpec.upto wholeRolledSpec)) wholeRolledUptoCard

/-- THE SECOND FORM's CARD OF 'barrowtop.WholeBarred'. -/
def wholeBarredUptoCard : Claim7 := { stood := { row := wholeBarredUptoRow, standIns := [], harness := (true, "3c34567a929dccb9f9a3003ad489d657a0d759a6126330bdc736df61fc5f850b"), looks := false }, kinds := [], alts := [], laidByText := true, laidKinds := [.data, .pinned], laidTests := true, laidLooks := .later }
def WholeBarredUptoCardSaid : Prop := Claim7.holds Tryz.pinned (.plain (OpenSpec.upto wholeBarredSpec)) wholeBarredUptoCard
end Rows
end Go.Proofs.YtbikhbgmgmaocaaGreatDoor
