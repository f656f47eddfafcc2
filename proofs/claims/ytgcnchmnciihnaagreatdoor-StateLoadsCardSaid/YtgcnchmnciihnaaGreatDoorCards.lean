/-
  DERIVED. GIVEN WITH THE SEED: THE CARDS: each row of YtgcnchmnciihnaaGreatDoorRows.lean that lists a variable, with what it lists TIED to the program's text (the seventh form; the later family's looks); each row that meets fmt, with fmt's text TOLD by the authors' own Lean function (tested against real Go, not proved from fmt's source: count such statements apart). THE CARD IS WHAT COUNTS. Prove the row's statement (the work); the ties are given (YtgcnchmnciihnaaGreatDoorTie.lean); close each card by the builder's one call (the guide's Derived/Test/ToyasCard.lean, 'card_holds'). Laid BY PROGRAM, IN A SANDBOX (cutbox-door.mjs). By AI agents, Wed Nov 11 2026. No macro, syntax, notation, axiom, sorry.
-/
import Derived.Test.YtgcnchmnciihnaaGreatDoorRows
import GoSem.ClaimSeven
namespace Go.Proofs.YtgcnchmnciihnaaGreatDoor
namespace Rows

/-- THE TIED CARD OF 'streamwrightlaw7.StateLoads'. -/
def stateLoadsCard : Claim7 := { stood := { row := stateLoadsRow, standIns := [], harness := (true, "0b5c7658d064e186d53a06314136a4e9c78bb8ce9205a0cd70e42ed7a40f731b"), looks := true }, kinds := [], alts := [], laidByText := true, laidKinds := [.data, .data, .data, .handle], laidTests := true, laidLooks := .later }
def StateLoadsCardSaid : Prop := Claim7.holds Tryz.pinned (.plain (OpenSpec.ofChange stateLoadsSpec)) stateLoadsCard

/-- THE TIED CARD OF 'streamwrightlaw7.StateMoves'. -/
def stateMovesCard : Claim7 := { stood := { row := stateMovesRow, standIns := [], harness := (true, "0b5c7658d064e186d53a06314136a4e9c78bb8ce9205a0cd70e42ed7a40f731b"), looks := true }, kinds := [], alts := [], laidByText := true, laidKinds := [.data, .data, .data, .handle], laidTests := true, laidLooks := .later }
def StateMovesCardSaid : Prop := Claim7.holds Tryz.pinned (.plain (OpenSpec.ofChange stateMovesSpec)) stateMovesCard

/-- THE SECOND FORM's CARD OF 'streamwrightlaw7.StateLoads'. -/
def stateLoadsUptoCard : Claim7 := { stood := { row := stateLoadsUptoRow, standIns := [], harness := (true, "0b5c7658d064e186d53a06314136a4e9c78bb8ce9205a0cd70e42ed7a40f731b"), looks := true }, kinds := [], alts := [], laidByText := true, laidKinds := [.data, .data, .data, .handle], laidTests := true, laidLooks := .later }
def StateLoadsUptoCardSaid : Prop := Claim7.holds Tryz.pinned (.plain (OpenSpec.upto stateLoadsSpec)) stateLoadsUptoCard

/-- THE SECOND FORM's CARD OF 'streamwrightlaw7.StateMoves'. -/
def stateMovesUptoCard : Claim7 := { stood := { row := stateMovesUptoRow, standIns := [], harness := (true, "0b5c7658d064e186d53a06314136a4e9c78bb8ce9205a0cd70e42ed7a40f731b"), looks := true }, kinds := [], alts := [], laidByText := true, laidKinds := [.data, .data, .data, .handle], laidTests := true, laidLooks := .later }
def StateMovesUptoCardSaid : Prop := Claim7.holds Tryz.pinned (.plain (OpenSpec.upto stateMovesSpec)) stateMovesUptoCard
end Rows
end Go.Proofs.YtgcnchmnciihnaaGreatDoor
