/-
  DERIVED. GIVEN WITH THE SEED: THE CARDS: each row of YtninaiooagfjfaaGreatDoorRows.lean that lists a variable, with what it lists TIED to the program's text (the seventh form; the later family's looks); each row that meets fmt, with fmt's text TOLD by the authors' own Lean function (tested against real Go, not proved from fmt's source: count such statements apart). THE CARD IS WHAT COUNTS. Prove the row's statement (the work); the ties are given (YtninaiooagfjfaaGreatDoorTie.lean); close each card by the builder's one call (the guide's Derived/Test/ToyasCard.lean, 'card_holds'). Laid BY PROGRAM, IN A SANDBOX (cutbox-door.mjs). By AI agents, Wed Nov 11 2026. No macro, syntax, notation, axiom, sorry.
-/
import Derived.Test.YtninaiooagfjfaaGreatDoorRows
import GoSem.ClaimSeven
namespace Go.Proofs.YtninaiooagfjfaaGreatDoor
namespace Rows

/-- THE TIED CARD OF 'hornbooklaw18.ExtendAdds'. -/
def extendAddsCard : Claim7 := { stood := { row := extendAddsRow, standIns := [], harness := (true, "a970ab7bbc8b3436f4e7e93f70842d650c3f9cbb9751f8318c05397a761f9813"), looks := false }, kinds := [], alts := [], laidByText := true, laidKinds := [.data, .data, .data, .data, .pinned], laidTests := true, laidLooks := .later }
def ExtendAddsCardSaid : Prop := Claim7.holds Tryz.pinned (.plain (OpenSpec.ofChange extendAddsSpec)) extendAddsCard

/-- THE TIED CARD OF 'hornbooklaw20.NodeSteps'. -/
def nodeStepsCard : Claim7 := { stood := { row := nodeStepsRow, standIns := [], harness := (true, "a970ab7bbc8b3436f4e7e93f70842d650c3f9cbb9751f8318c05397a761f9813"), looks := false }, kinds := [], alts := [], laidByText := true, laidKinds := [.data, .data, .data, .data, .pinned], laidTests := true, laidLooks := .later }
def NodeStepsCardSaid : Prop := Claim7.holds Tryz.pinned (.plain (OpenSpec.ofChange nodeStepsSpec)) nodeStepsCard

/-- THE SECOND FORM's CARD OF 'hornbooklaw18.ExtendAdds'. -/
def extendAddsUptoCard : Claim7 := { stood := { row := extendAddsUptoRow, standIns := [], harness := (true, "a970ab7bbc8b3436f4e7e93f70842d650c3f9cbb9751f8318c05397a761f9813"), looks := false }, kinds := [], alts := [], laidByText := true, laidKinds := [.data, .data, .data, .data, .pinned], laidTests := true, laidLooks := .later }
def ExtendAddsUptoCardSaid : Prop := Claim7.holds Tryz.pinned (.plain (OpenSpec.upto extendAddsSpec)) extendAddsUptoCard

/-- THE SECOND FORM's CARD OF 'hornbooklaw20.NodeSteps'. -/
def nodeStepsUptoCard : Claim7 := { stood := { row := nodeStepsUptoRow, standIns := [], harness := (true, "a970ab7bbc8b3436f4e7e93f70842d650c3f9cbb9751f8318c05397a761f9813"), looks := false }, kinds := [], alts := [], laidByText := true, laidKinds := [.data, .data, .data, .data, .pinned], laidTests := true, laidLooks := .later }
def NodeStepsUptoCardSaid : Prop := Claim7.holds Tryz.pinned (.plain (OpenSpec.upto nodeStepsSpec)) nodeStepsUptoCard
end Rows
end Go.Proofs.YtninaiooagfjfaaGreatDoor
