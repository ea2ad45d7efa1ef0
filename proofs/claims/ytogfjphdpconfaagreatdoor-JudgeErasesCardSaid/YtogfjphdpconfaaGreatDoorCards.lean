/-
  DERIVED. GIVEN WITH THE SEED: THE CARDS: each row of YtogfjphdpconfaaGreatDoorRows.lean that lists a variable, with what it lists TIED to the program's text (the seventh form; the later family's looks); each row that meets fmt, with fmt's text TOLD by the authors' own Lean function (tested against real Go, not proved from fmt's source: count such statements apart). THE CARD IS WHAT COUNTS. Prove the row's statement (the work); the ties are given (YtogfjphdpconfaaGreatDoorTie.lean); close each card by the builder's one call (the guide's Derived/Test/ToyasCard.lean, 'card_holds'). Laid BY PROGRAM, IN A SANDBOX (cutbox-door.mjs). By AI agents, Wed Nov 11 2026. No macro, syntax, notation, axiom, sorry.
-/
import Derived.Test.YtogfjphdpconfaaGreatDoorRows
import GoSem.ClaimSeven
namespace Go.Proofs.YtogfjphdpconfaaGreatDoor
namespace Rows

/-- THE TIED CARD OF 'renlaw25.JudgeErases'. -/
def judgeErasesCard : Claim7 := { stood := { row := judgeErasesRow, standIns := [], harness := (true, "dbb90fb4aa12d79766c7ecb5acab5c03c28db521c7babdc08c6fb21148c29d69"), looks := true }, kinds := [], alts := [], laidByText := true, laidKinds := [.pinned, .data, .data, .data, .data, .sentinel, .sentinel], laidTests := true, laidLooks := .later }
def JudgeErasesCardSaid : Prop := Claim7.holds Tryz.pinned (.plain (OpenSpec.ofChange judgeErasesSpec)) judgeErasesCard

/-- THE TIED CARD OF 'renlaw25.JudgeCells'. -/
def judgeCellsCard : Claim7 := { stood := { row := judgeCellsRow, standIns := [], harness := (true, "dbb90fb4aa12d79766c7ecb5acab5c03c28db521c7babdc08c6fb21148c29d69"), looks := true }, kinds := [], alts := [], laidByText := true, laidKinds := [.pinned, .data, .data, .data, .data, .sentinel, .sentinel], laidTests := true, laidLooks := .later }
def JudgeCellsCardSaid : Prop := Claim7.holds Tryz.pinned (.plain (OpenSpec.ofChange judgeCellsSpec)) judgeCellsCard

/-- THE SECOND FORM's CARD OF 'renlaw25.JudgeErases'. -/
def judgeErasesUptoCard : Claim7 := { stood := { row := judgeErasesUptoRow, standIns := [], harness := (true, "dbb90fb4aa12d79766c7ecb5acab5c03c28db521c7babdc08c6fb21148c29d69"), looks := true }, kinds := [], alts := [], laidByText := true, laidKinds := [.pinned, .data, .data, .data, .data, .sentinel, .sentinel], laidTests := true, laidLooks := .later }
def JudgeErasesUptoCardSaid : Prop := Claim7.holds Tryz.pinned (.plain (OpenSpec.upto judgeErasesSpec)) judgeErasesUptoCard

/-- THE SECOND FORM's CARD OF 'renlaw25.JudgeCells'. -/
def judgeCellsUptoCard : Claim7 := { stood := { row := judgeCellsUptoRow, standIns := [], harness := (true, "dbb90fb4aa12d79766c7ecb5acab5c03c28db521c7babdc08c6fb21148c29d69"), looks := true }, kinds := [], alts := [], laidByText := true, laidKinds := [.pinned, .data, .data, .data, .data, .sentinel, .sentinel], laidTests := true, laidLooks := .later }
def JudgeCellsUptoCardSaid : Prop := Claim7.holds Tryz.pinned (.plain (OpenSpec.upto judgeCellsSpec)) judgeCellsUptoCard
end Rows
end Go.Proofs.YtogfjphdpconfaaGreatDoor
