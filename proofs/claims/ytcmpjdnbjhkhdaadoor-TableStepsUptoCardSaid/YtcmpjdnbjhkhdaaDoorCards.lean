/-
  DERIVED. GIVEN WITH THE SEED: THE CARDS: each row of YtcmpjdnbjhkhdaaDoorRows.lean that lists a variable, with what it lists TIED to the program's text (the seventh form; the later family's looks); each row that meets fmt, with fmt's text TOLD by the authors' own Lean function (tested against real Go, not proved from fmt's source: count such statements apart). THE CARD IS WHAT COUNTS. Prove the row's statement (the work); the ties are given (YtcmpjdnbjhkhdaaDoorTie.lean); close each card by the builder's one call (the guide's Derived/Test/ToyasCard.lean, 'card_holds'). Laid BY PROGRAM, IN A SANDBOX (cutbox-door.mjs). By AI agents, Wed Nov 11 2026. No macro, syntax, notation, axiom, sorry.
-/
import Derived.Test.YtcmpjdnbjhkhdaaDoorRows
import GoSem.ClaimSeven
namespace Go.Proofs.YtcmpjdnbjhkhdaaDoor
namespace Rows

/-- THE TIED CARD OF 'streamwrightlaw6.AggFolds'. -/
def aggFoldsCard : Claim7 := { stood := { row := aggFoldsRow, standIns := [], harness := (true, "307fa53b748bcb37406eefd374877a9dfddd8dfde12d4bd6651f1aa24c64f8a7"), looks := true }, kinds := [], alts := [], laidByText := true, laidKinds := [.handle], laidTests := true, laidLooks := .later }
def AggFoldsCardSaid : Prop := Claim7.holds Tryd.pinned (.plain (OpenSpec.ofChange aggFoldsSpec)) aggFoldsCard

/-- THE TIED CARD OF 'streamwrightlaw6.AggTurns'. -/
def aggTurnsCard : Claim7 := { stood := { row := aggTurnsRow, standIns := [], harness := (true, "307fa53b748bcb37406eefd374877a9dfddd8dfde12d4bd6651f1aa24c64f8a7"), looks := true }, kinds := [], alts := [], laidByText := true, laidKinds := [.handle], laidTests := true, laidLooks := .later }
def AggTurnsCardSaid : Prop := Claim7.holds Tryd.pinned (.plain (OpenSpec.ofChange aggTurnsSpec)) aggTurnsCard

/-- THE TIED CARD OF 'streamwrightlaw6.AggSplits'. -/
def aggSplitsCard : Claim7 := { stood := { row := aggSplitsRow, standIns := [], harness := (true, "307fa53b748bcb37406eefd374877a9dfddd8dfde12d4bd6651f1aa24c64f8a7"), looks := true }, kinds := [], alts := [], laidByText := true, laidKinds := [.handle], laidTests := true, laidLooks := .later }
def AggSplitsCardSaid : Prop := Claim7.holds Tryd.pinned (.plain (OpenSpec.ofChange aggSplitsSpec)) aggSplitsCard

/-- THE TIED CARD OF 'streamwrightlaw12.DiskSteps'. -/
def diskStepsCard : Claim7 := { stood := { row := diskStepsRow, standIns := [], harness := (true, "307fa53b748bcb37406eefd374877a9dfddd8dfde12d4bd6651f1aa24c64f8a7"), looks := true }, kinds := [], alts := [], laidByText := true, laidKinds := [.handle], laidTests := true, laidLooks := .later }
def DiskStepsCardSaid : Prop := Claim7.holds Tryd.pinned (.plain (OpenSpec.ofChange diskStepsSpec)) diskStepsCard

/-- THE TIED CARD OF 'streamwrightlaw1.ValueReads'. -/
def valueReadsCard : Claim7 := { stood := { row := valueReadsRow, standIns := [], harness := (true, "307fa53b748bcb37406eefd374877a9dfddd8dfde12d4bd6651f1aa24c64f8a7"), looks := true }, kinds := [], alts := [], laidByText := true, laidKinds := [.data, .data, .data, .handle, .sentinel, .sentinel], laidTests := true, laidLooks := .later }
def ValueReadsCardSaid : Prop := Claim7.holds Tryd.pinned (.plain (OpenSpec.ofChange valueReadsSpec)) valueReadsCard

/-- THE TIED CARD OF 'streamwrightlaw1.ValueBack'. -/
def valueBackCard : Claim7 := { stood := { row := valueBackRow, standIns := [], harness := (true, "307fa53b748bcb37406eefd374877a9dfddd8dfde12d4bd6651f1aa24c64f8a7"), looks := true }, kinds := [], alts := [], laidByText := true, laidKinds := [.data, .data, .data, .sentinel, .sentinel], laidTests := true, laidLooks := .later }
def ValueBackCardSaid : Prop := Claim7.holds Tryd.pinned (.plain (OpenSpec.ofChange valueBackSpec)) valueBackCard

/-- THE TIED CARD OF 'streamwrightlaw13.TableSteps'. -/
def tableStepsCard : Claim7 := { stood := { row := tableStepsRow, standIns := [], harness := (true, "307fa53b748bcb37406eefd374877a9dfddd8dfde12d4bd6651f1aa24c64f8a7"), looks := true }, kinds := [], alts := [], laidByText := true, laidKinds := [.handle], laidTests := true, laidLooks := .later }
def TableStepsCardSaid : Prop := Claim7.holds Tryd.pinned (.plain (OpenSpec.ofChange tableStepsSpec)) tableStepsCard

/-- THE SECOND FORM's CARD OF 'streamwrightlaw6.AggFolds'. -/
def aggFoldsUptoCard : Claim7 := { stood := { row := aggFoldsUptoRow, standIns := [], harness := (true, "307fa53b748bcb37406eefd374877a9dfddd8dfde12d4bd6651f1aa24c64f8a7"), looks := true }, kinds := [], alts := [], laidByText := true, laidKinds := [.handle], laidTests := true, laidLooks := .later }
def AggFoldsUptoCardSaid : Prop := Claim7.holds Tryd.pinned (.plain (OpenSpec.upto aggFoldsSpec)) aggFoldsUptoCard

/-- THE SECOND FORM's CARD OF 'streamwrightlaw6.AggTurns'. -/
def aggTurnsUptoCard : Claim7 := { stood := { row := aggTurnsUptoRow, standIns := [], harness := (true, "307fa53b748bcb37406eefd374877a9dfddd8dfde12d4bd6651f1aa24c64f8a7"), looks := true }, kinds := [], alts := [], laidByText := true, laidKinds := [.handle], laidTests := true, laidLooks := .later }
def AggTurnsUptoCardSaid : Prop := Claim7.holds Tryd.pinned (.plain (OpenSpec.upto aggTurnsSpec)) aggTurnsUptoCard

/-- THE SECOND FORM's CARD OF 'streamwrightlaw6.AggSplits'. -/
def aggSplitsUptoCard : Claim7 := { stood := { row := aggSplitsUptoRow, standIns := [], harness := (true, "307fa53b748bcb37406eefd374877a9dfddd8dfde12d4bd6651f1aa24c64f8a7"), looks := true }, kinds := [], alts := [], laidByText := true, laidKinds := [.handle], laidTests := true, laidLooks := .later }
def AggSplitsUptoCardSaid : Prop := Claim7.holds Tryd.pinned (.plain (OpenSpec.upto aggSplitsSpec)) aggSplitsUptoCard

/-- THE SECOND FORM's CARD OF 'streamwrightlaw12.DiskSteps'. -/
def diskStepsUptoCard : Claim7 := { stood := { row := diskStepsUptoRow, standIns := [], harness := (true, "307fa53b748bcb37406eefd374877a9dfddd8dfde12d4bd6651f1aa24c64f8a7"), looks := true }, kinds := [], alts := [], laidByText := true, laidKinds := [.handle], laidTests := true, laidLooks := .later }
def DiskStepsUptoCardSaid : Prop := Claim7.holds Tryd.pinned (.plain (OpenSpec.upto diskStepsSpec)) diskStepsUptoCard

/-- THE SECOND FORM's CARD OF 'streamwrightlaw1.ValueReads'. -/
def valueReadsUptoCard : Claim7 := { stood := { row := valueReadsUptoRow, standIns := [], harness := (true, "307fa53b748bcb37406eefd374877a9dfddd8dfde12d4bd6651f1aa24c64f8a7"), looks := true }, kinds := [], alts := [], laidByText := true, laidKinds := [.data, .data, .data, .handle, .sentinel, .sentinel], laidTests := true, laidLooks := .later }
def ValueReadsUptoCardSaid : Prop := Claim7.holds Tryd.pinned (.plain (OpenSpec.upto valueReadsSpec)) valueReadsUptoCard

/-- THE SECOND FORM's CARD OF 'streamwrightlaw1.ValueBack'. -/
def valueBackUptoCard : Claim7 := { stood := { row := valueBackUptoRow, standIns := [], harness := (true, "307fa53b748bcb37406eefd374877a9dfddd8dfde12d4bd6651f1aa24c64f8a7"), looks := true }, kinds := [], alts := [], laidByText := true, laidKinds := [.data, .data, .data, .sentinel, .sentinel], laidTests := true, laidLooks := .later }
def ValueBackUptoCardSaid : Prop := Claim7.holds Tryd.pinned (.plain (OpenSpec.upto valueBackSpec)) valueBackUptoCard

/-- THE SECOND FORM's CARD OF 'streamwrightlaw13.TableSteps'. -/
def tableStepsUptoCard : Claim7 := { stood := { row := tableStepsUptoRow, standIns := [], harness := (true, "307fa53b748bcb37406eefd374877a9dfddd8dfde12d4bd6651f1aa24c64f8a7"), looks := true }, kinds := [], alts := [], laidByText := true, laidKinds := [.handle], laidTests := true, laidLooks := .later }
def TableStepsUptoCardSaid : Prop := Claim7.holds Tryd.pinned (.plain (OpenSpec.upto tableStepsSpec)) tableStepsUptoCard
end Rows
end Go.Proofs.YtcmpjdnbjhkhdaaDoor
