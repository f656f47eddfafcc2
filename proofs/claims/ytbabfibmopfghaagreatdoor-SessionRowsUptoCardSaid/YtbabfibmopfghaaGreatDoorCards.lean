/-
  DERIVED. GIVEN WITH THE SEED: THE CARDS: each row of YtbabfibmopfghaaGreatDoorRows.lean that lists a variable, with what it lists TIED to the program's text (the seventh form; the later family's looks); each row that meets fmt, with fmt's text TOLD by the authors' own Lean function (tested against real Go, not proved from fmt's source: count such statements apart). THE CARD IS WHAT COUNTS. Prove the row's statement (the work); the ties are given (YtbabfibmopfghaaGreatDoorTie.lean); close each card by the builder's one call (the guide's Derived/Test/ToyasCard.lean, 'card_holds'). Laid BY PROGRAM, IN A SANDBOX (cutbox-door.mjs). By AI agents, Wed Nov 11 2026. No macro, syntax, notation, axiom, sorry.
-/
import Derived.Test.YtbabfibmopfghaaGreatDoorRows
import GoSem.ClaimSeven
namespace Go.Proofs.YtbabfibmopfghaaGreatDoor
namespace Rows

/-- THE TIED CARD OF 'streamwrightlaw15.SessionRows'. -/
def sessionRowsCard : Claim7 := { stood := { row := sessionRowsRow, standIns := [], harness := (true, "28ac706c067074782b0810020e4dbf2c699b4ae9fbf87a7039b83716673c7b9c"), looks := true }, kinds := [], alts := [], laidByText := true, laidKinds := [.data, .data, .data, .handle, .sentinel, .sentinel], laidTests := true, laidLooks := .later }
def SessionRowsCardSaid : Prop := Claim7.holds Tryz.pinned (.plain (OpenSpec.ofChange sessionRowsSpec)) sessionRowsCard

/-- THE TIED CARD OF 'streamwrightlaw7.StateLoads'. -/
def stateLoadsCard : Claim7 := { stood := { row := stateLoadsRow, standIns := [], harness := (true, "28ac706c067074782b0810020e4dbf2c699b4ae9fbf87a7039b83716673c7b9c"), looks := true }, kinds := [], alts := [], laidByText := true, laidKinds := [.data, .data, .data, .handle], laidTests := true, laidLooks := .later }
def StateLoadsCardSaid : Prop := Claim7.holds Tryz.pinned (.plain (OpenSpec.ofChange stateLoadsSpec)) stateLoadsCard

/-- THE TIED CARD OF 'streamwrightlaw7.StateMoves'. -/
def stateMovesCard : Claim7 := { stood := { row := stateMovesRow, standIns := [], harness := (true, "28ac706c067074782b0810020e4dbf2c699b4ae9fbf87a7039b83716673c7b9c"), looks := true }, kinds := [], alts := [], laidByText := true, laidKinds := [.data, .data, .data, .handle], laidTests := true, laidLooks := .later }
def StateMovesCardSaid : Prop := Claim7.holds Tryz.pinned (.plain (OpenSpec.ofChange stateMovesSpec)) stateMovesCard

/-- THE TIED CARD OF 'streamwrightlaw7.StateSteps'. -/
def stateStepsCard : Claim7 := { stood := { row := stateStepsRow, standIns := [], harness := (true, "28ac706c067074782b0810020e4dbf2c699b4ae9fbf87a7039b83716673c7b9c"), looks := true }, kinds := [], alts := [], laidByText := true, laidKinds := [.data, .data, .data, .handle], laidTests := true, laidLooks := .later }
def StateStepsCardSaid : Prop := Claim7.holds Tryz.pinned (.plain (OpenSpec.ofChange stateStepsSpec)) stateStepsCard

/-- THE TIED CARD OF 'streamwrightlaw3.ExprPrints'. -/
def exprPrintsCard : Claim7 := { stood := { row := exprPrintsRow, standIns := [], harness := (true, "28ac706c067074782b0810020e4dbf2c699b4ae9fbf87a7039b83716673c7b9c"), looks := true }, kinds := [], alts := [], laidByText := true, laidKinds := [.data, .data, .data, .handle, .sentinel, .sentinel, .listed, .data], laidTests := true, laidLooks := .later }
def ExprPrintsCardSaid : Prop := Claim7.holds Tryz.pinned (.plain (OpenSpec.ofChange exprPrintsSpec)) exprPrintsCard

/-- THE TIED CARD OF 'streamwrightlaw3.ExprNulls'. -/
def exprNullsCard : Claim7 := { stood := { row := exprNullsRow, standIns := [], harness := (true, "28ac706c067074782b0810020e4dbf2c699b4ae9fbf87a7039b83716673c7b9c"), looks := true }, kinds := [], alts := [], laidByText := true, laidKinds := [.data, .data, .data, .sentinel, .sentinel, .listed, .data], laidTests := true, laidLooks := .later }
def ExprNullsCardSaid : Prop := Claim7.holds Tryz.pinned (.plain (OpenSpec.ofChange exprNullsSpec)) exprNullsCard

/-- THE TIED CARD OF 'streamwrightlaw3.ExprChecks'. -/
def exprChecksCard : Claim7 := { stood := { row := exprChecksRow, standIns := [], harness := (true, "28ac706c067074782b0810020e4dbf2c699b4ae9fbf87a7039b83716673c7b9c"), looks := true }, kinds := [], alts := [], laidByText := true, laidKinds := [.data, .data, .data, .handle, .sentinel, .sentinel, .listed, .data], laidTests := true, laidLooks := .later }
def ExprChecksCardSaid : Prop := Claim7.holds Tryz.pinned (.plain (OpenSpec.ofChange exprChecksSpec)) exprChecksCard

/-- THE TIED CARD OF 'streamwrightlaw3.ExprEvals'. -/
def exprEvalsCard : Claim7 := { stood := { row := exprEvalsRow, standIns := [], harness := (true, "28ac706c067074782b0810020e4dbf2c699b4ae9fbf87a7039b83716673c7b9c"), looks := true }, kinds := [], alts := [], laidByText := true, laidKinds := [.data, .data, .data, .handle, .sentinel, .sentinel, .listed, .data], laidTests := true, laidLooks := .later }
def ExprEvalsCardSaid : Prop := Claim7.holds Tryz.pinned (.plain (OpenSpec.ofChange exprEvalsSpec)) exprEvalsCard

/-- THE TIED CARD OF 'streamwrightlaw3.ExprBack'. -/
def exprBackCard : Claim7 := { stood := { row := exprBackRow, standIns := [], harness := (true, "28ac706c067074782b0810020e4dbf2c699b4ae9fbf87a7039b83716673c7b9c"), looks := true }, kinds := [], alts := [], laidByText := true, laidKinds := [.data, .data, .data, .handle, .sentinel, .sentinel, .listed, .data], laidTests := true, laidLooks := .later }
def ExprBackCardSaid : Prop := Claim7.holds Tryz.pinned (.plain (OpenSpec.ofChange exprBackSpec)) exprBackCard

/-- THE TIED CARD OF 'streamwrightlaw8.OpOuts'. -/
def opOutsCard : Claim7 := { stood := { row := opOutsRow, standIns := [], harness := (true, "28ac706c067074782b0810020e4dbf2c699b4ae9fbf87a7039b83716673c7b9c"), looks := true }, kinds := [], alts := [], laidByText := true, laidKinds := [.data, .data, .data, .handle, .sentinel, .sentinel, .listed, .data], laidTests := true, laidLooks := .later }
def OpOutsCardSaid : Prop := Claim7.holds Tryz.pinned (.plain (OpenSpec.ofChange opOutsSpec)) opOutsCard

/-- THE SECOND FORM's CARD OF 'streamwrightlaw15.SessionRows'. -/
def sessionRowsUptoCard : Claim7 := { stood := { row := sessionRowsUptoRow, standIns := [], harness := (true, "28ac706c067074782b0810020e4dbf2c699b4ae9fbf87a7039b83716673c7b9c"), looks := true }, kinds := [], alts := [], laidByText := true, laidKinds := [.data, .data, .data, .handle, .sentinel, .sentinel], laidTests := true, laidLooks := .later }
def SessionRowsUptoCardSaid : Prop := Claim7.holds Tryz.pinned (.plain (OpenSpec.upto sessionRowsSpec)) sessionRowsUptoCard

/-- THE SECOND FORM's CARD OF 'streamwrightlaw7.StateLoads'. -/
def stateLoadsUptoCard : Claim7 := { stood := { row := stateLoadsUptoRow, standIns := [], harness := (true, "28ac706c067074782b0810020e4dbf2c699b4ae9fbf87a7039b83716673c7b9c"), looks := true }, kinds := [], alts := [], laidByText := true, laidKinds := [.data, .data, .data, .handle], laidTests := true, laidLooks := .later }
def StateLoadsUptoCardSaid : Prop := Claim7.holds Tryz.pinned (.plain (OpenSpec.upto stateLoadsSpec)) stateLoadsUptoCard

/-- THE SECOND FORM's CARD OF 'streamwrightlaw7.StateMoves'. -/
def stateMovesUptoCard : Claim7 := { stood := { row := stateMovesUptoRow, standIns := [], harness := (true, "28ac706c067074782b0810020e4dbf2c699b4ae9fbf87a7039b83716673c7b9c"), looks := true }, kinds := [], alts := [], laidByText := true, laidKinds := [.data, .data, .data, .handle], laidTests := true, laidLooks := .later }
def StateMovesUptoCardSaid : Prop := Claim7.holds Tryz.pinned (.plain (OpenSpec.upto stateMovesSpec)) stateMovesUptoCard

/-- THE SECOND FORM's CARD OF 'streamwrightlaw7.StateSteps'. -/
def stateStepsUptoCard : Claim7 := { stood := { row := stateStepsUptoRow, standIns := [], harness := (true, "28ac706c067074782b0810020e4dbf2c699b4ae9fbf87a7039b83716673c7b9c"), looks := true }, kinds := [], alts := [], laidByText := true, laidKinds := [.data, .data, .data, .handle], laidTests := true, laidLooks := .later }
def StateStepsUptoCardSaid : Prop := Claim7.holds Tryz.pinned (.plain (OpenSpec.upto stateStepsSpec)) stateStepsUptoCard

/-- THE SECOND FORM's CARD OF 'streamwrightlaw3.ExprPrints'. -/
def exprPrintsUptoCard : Claim7 := { stood := { row := exprPrintsUptoRow, standIns := [], harness := (true, "28ac706c067074782b0810020e4dbf2c699b4ae9fbf87a7039b83716673c7b9c"), looks := true }, kinds := [], alts := [], laidByText := true, laidKinds := [.data, .data, .data, .handle, .sentinel, .sentinel, .listed, .data], laidTests := true, laidLooks := .later }
def ExprPrintsUptoCardSaid : Prop := Claim7.holds Tryz.pinned (.plain (OpenSpec.upto exprPrintsSpec)) exprPrintsUptoCard

/-- THE SECOND FORM's CARD OF 'streamwrightlaw3.ExprNulls'. -/
def exprNullsUptoCard : Claim7 := { stood := { row := exprNullsUptoRow, standIns := [], harness := (true, "28ac706c067074782b0810020e4dbf2c699b4ae9fbf87a7039b83716673c7b9c"), looks := true }, kinds := [], alts := [], laidByText := true, laidKinds := [.data, .data, .data, .sentinel, .sentinel, .listed, .data], laidTests := true, laidLooks := .later }
def ExprNullsUptoCardSaid : Prop := Claim7.holds Tryz.pinned (.plain (OpenSpec.upto exprNullsSpec)) exprNullsUptoCard

/-- THE SECOND FORM's CARD OF 'streamwrightlaw3.ExprChecks'. -/
def exprChecksUptoCard : Claim7 := { stood := { row := exprChecksUptoRow, standIns := [], harness := (true, "28ac706c067074782b0810020e4dbf2c699b4ae9fbf87a7039b83716673c7b9c"), looks := true }, kinds := [], alts := [], laidByText := true, laidKinds := [.data, .data, .data, .handle, .sentinel, .sentinel, .listed, .data], laidTests := true, laidLooks := .later }
def ExprChecksUptoCardSaid : Prop := Claim7.holds Tryz.pinned (.plain (OpenSpec.upto exprChecksSpec)) exprChecksUptoCard

/-- THE SECOND FORM's CARD OF 'streamwrightlaw3.ExprEvals'. -/
def exprEvalsUptoCard : Claim7 := { stood := { row := exprEvalsUptoRow, standIns := [], harness := (true, "28ac706c067074782b0810020e4dbf2c699b4ae9fbf87a7039b83716673c7b9c"), looks := true }, kinds := [], alts := [], laidByText := true, laidKinds := [.data, .data, .data, .handle, .sentinel, .sentinel, .listed, .data], laidTests := true, laidLooks := .later }
def ExprEvalsUptoCardSaid : Prop := Claim7.holds Tryz.pinned (.plain (OpenSpec.upto exprEvalsSpec)) exprEvalsUptoCard

/-- THE SECOND FORM's CARD OF 'streamwrightlaw3.ExprBack'. -/
def exprBackUptoCard : Claim7 := { stood := { row := exprBackUptoRow, standIns := [], harness := (true, "28ac706c067074782b0810020e4dbf2c699b4ae9fbf87a7039b83716673c7b9c"), looks := true }, kinds := [], alts := [], laidByText := true, laidKinds := [.data, .data, .data, .handle, .sentinel, .sentinel, .listed, .data], laidTests := true, laidLooks := .later }
def ExprBackUptoCardSaid : Prop := Claim7.holds Tryz.pinned (.plain (OpenSpec.upto exprBackSpec)) exprBackUptoCard

/-- THE SECOND FORM's CARD OF 'streamwrightlaw8.OpOuts'. -/
def opOutsUptoCard : Claim7 := { stood := { row := opOutsUptoRow, standIns := [], harness := (true, "28ac706c067074782b0810020e4dbf2c699b4ae9fbf87a7039b83716673c7b9c"), looks := true }, kinds := [], alts := [], laidByText := true, laidKinds := [.data, .data, .data, .handle, .sentinel, .sentinel, .listed, .data], laidTests := true, laidLooks := .later }
def OpOutsUptoCardSaid : Prop := Claim7.holds Tryz.pinned (.plain (OpenSpec.upto opOutsSpec)) opOutsUptoCard
end Rows
end Go.Proofs.YtbabfibmopfghaaGreatDoor
