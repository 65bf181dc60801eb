/-
  DERIVED. GIVEN WITH THE SEED: THE CARDS: each row of YtdgnafjllokioaaGreatDoorRows.lean that lists a variable, with what it lists TIED to the program's text (the seventh form; the later family's looks); each row that meets fmt, with fmt's text TOLD by the authors' own Lean function (tested against real Go, not proved from fmt's source: count such statements apart). THE CARD IS WHAT COUNTS. Prove the row's statement (the work); the ties are given (YtdgnafjllokioaaGreatDoorTie.lean); close each card by the builder's one call (the guide's Derived/Test/ToyasCard.lean, 'card_holds'). Laid BY PROGRAM, IN A SANDBOX (cutbox-door.mjs). By AI agents, Wed Nov 11 2026. No macro, syntax, notation, axiom, sorry.
-/
import Derived.Test.YtdgnafjllokioaaGreatDoorRows
import GoSem.ClaimSeven
namespace Go.Proofs.YtdgnafjllokioaaGreatDoor
namespace Rows

/-- THE TIED CARD OF 'metronomelaw27.KindBudget'. -/
def kindBudgetCard : Claim7 := { stood := { row := kindBudgetRow, standIns := [], harness := (true, "07b76448880ed3fa5ec58858fb727ee7b84318d85ca7edc9f0f541ba629de19e"), looks := true }, kinds := [], alts := [], laidByText := true, laidKinds := [.data, .data, .data], laidTests := true, laidLooks := .later }
def KindBudgetCardSaid : Prop := Claim7.holds Tryz.pinned (.plain (OpenSpec.ofChange kindBudgetSpec)) kindBudgetCard

/-- THE SECOND FORM's CARD OF 'metronomelaw27.KindBudget'. -/
def kindBudgetUptoCard : Claim7 := { stood := { row := kindBudgetUptoRow, standIns := [], harness := (true, "07b76448880ed3fa5ec58858fb727ee7b84318d85ca7edc9f0f541ba629de19e"), looks := true }, kinds := [], alts := [], laidByText := true, laidKinds := [.data, .data, .data], laidTests := true, laidLooks := .later }
def KindBudgetUptoCardSaid : Prop := Claim7.holds Tryz.pinned (.plain (OpenSpec.upto kindBudgetSpec)) kindBudgetUptoCard
end Rows
end Go.Proofs.YtdgnafjllokioaaGreatDoor
