/-
  DERIVED. GIVEN WITH THE SEED: THE CARDS: each row of YthfgjmdmcoogpaaDoorRows.lean that lists a variable, with what it lists TIED to the program's text (the seventh form; the later family's looks); each row that meets fmt, with fmt's text TOLD by the authors' own Lean function (tested against real Go, not proved from fmt's source: count such statements apart). THE CARD IS WHAT COUNTS. Prove the row's statement (the work); the ties are given (YthfgjmdmcoogpaaDoorTie.lean); close each card by the builder's one call (the guide's Derived/Test/ToyasCard.lean, 'card_holds'). Laid BY PROGRAM, IN A SANDBOX (cutbox-door.mjs). By AI agents, Wed Nov 11 2026. No macro, syntax, notation, axiom, sorry.
-/
import Derived.Test.YthfgjmdmcoogpaaDoorRows
import GoSem.ClaimSeven
namespace Go.Proofs.YthfgjmdmcoogpaaDoor
namespace Rows

/-- THE TIED CARD OF 'streamwrightlaw4.SourceSteps'. -/
def sourceStepsCard : Claim7 := { stood := { row := sourceStepsRow, standIns := [], harness := (true, "ff40a77db21e3dca9056ff374020193ba9cc3c636a378bb122a92a26940ef357"), looks := true }, kinds := [], alts := [], laidByText := true, laidKinds := [.handle], laidTests := true, laidLooks := .later }
def SourceStepsCardSaid : Prop := Claim7.holds Tryd.pinned (.plain (OpenSpec.ofChange sourceStepsSpec)) sourceStepsCard

/-- THE TIED CARD OF 'streamwrightlaw9.GateSteps'. -/
def gateStepsCard : Claim7 := { stood := { row := gateStepsRow, standIns := [], harness := (true, "ff40a77db21e3dca9056ff374020193ba9cc3c636a378bb122a92a26940ef357"), looks := true }, kinds := [], alts := [], laidByText := true, laidKinds := [.handle], laidTests := true, laidLooks := .later }
def GateStepsCardSaid : Prop := Claim7.holds Tryd.pinned (.plain (OpenSpec.ofChange gateStepsSpec)) gateStepsCard

/-- THE TIED CARD OF 'streamwrightlaw2.WireReads'. -/
def wireReadsCard : Claim7 := { stood := { row := wireReadsRow, standIns := [], harness := (true, "ff40a77db21e3dca9056ff374020193ba9cc3c636a378bb122a92a26940ef357"), looks := true }, kinds := [], alts := [], laidByText := true, laidKinds := [.handle], laidTests := true, laidLooks := .later }
def WireReadsCardSaid : Prop := Claim7.holds Tryd.pinned (.plain (OpenSpec.ofChange wireReadsSpec)) wireReadsCard

/-- THE TIED CARD OF 'streamwrightlaw2.WireBack'. -/
def wireBackCard : Claim7 := { stood := { row := wireBackRow, standIns := [], harness := (true, "ff40a77db21e3dca9056ff374020193ba9cc3c636a378bb122a92a26940ef357"), looks := true }, kinds := [], alts := [], laidByText := true, laidKinds := [.handle], laidTests := true, laidLooks := .later }
def WireBackCardSaid : Prop := Claim7.holds Tryd.pinned (.plain (OpenSpec.ofChange wireBackSpec)) wireBackCard

/-- THE TIED CARD OF 'streamwrightlaw5.WindowAssigns'. -/
def windowAssignsCard : Claim7 := { stood := { row := windowAssignsRow, standIns := [], harness := (true, "ff40a77db21e3dca9056ff374020193ba9cc3c636a378bb122a92a26940ef357"), looks := true }, kinds := [], alts := [], laidByText := true, laidKinds := [.handle], laidTests := true, laidLooks := .later }
def WindowAssignsCardSaid : Prop := Claim7.holds Tryd.pinned (.plain (OpenSpec.ofChange windowAssignsSpec)) windowAssignsCard

/-- THE TIED CARD OF 'streamwrightlaw12.DiskPacks'. -/
def diskPacksCard : Claim7 := { stood := { row := diskPacksRow, standIns := [], harness := (true, "ff40a77db21e3dca9056ff374020193ba9cc3c636a378bb122a92a26940ef357"), looks := true }, kinds := [], alts := [], laidByText := true, laidKinds := [.handle], laidTests := true, laidLooks := .later }
def DiskPacksCardSaid : Prop := Claim7.holds Tryd.pinned (.plain (OpenSpec.ofChange diskPacksSpec)) diskPacksCard

/-- THE TIED CARD OF 'streamwrightlaw1.ValueGroups'. -/
def valueGroupsCard : Claim7 := { stood := { row := valueGroupsRow, standIns := [], harness := (true, "ff40a77db21e3dca9056ff374020193ba9cc3c636a378bb122a92a26940ef357"), looks := true }, kinds := [], alts := [], laidByText := true, laidKinds := [.data, .data, .data], laidTests := true, laidLooks := .later }
def ValueGroupsCardSaid : Prop := Claim7.holds Tryd.pinned (.plain (OpenSpec.ofChange valueGroupsSpec)) valueGroupsCard

/-- THE TIED CARD OF 'streamwrightlaw1.ValueShows'. -/
def valueShowsCard : Claim7 := { stood := { row := valueShowsRow, standIns := [], harness := (true, "ff40a77db21e3dca9056ff374020193ba9cc3c636a378bb122a92a26940ef357"), looks := true }, kinds := [], alts := [], laidByText := true, laidKinds := [.data, .data, .data], laidTests := true, laidLooks := .later }
def ValueShowsCardSaid : Prop := Claim7.holds Tryd.pinned (.plain (OpenSpec.ofChange valueShowsSpec)) valueShowsCard

/-- THE TIED CARD OF 'streamwrightlaw1.ValueBack'. -/
def valueBackCard : Claim7 := { stood := { row := valueBackRow, standIns := [], harness := (true, "ff40a77db21e3dca9056ff374020193ba9cc3c636a378bb122a92a26940ef357"), looks := true }, kinds := [], alts := [], laidByText := true, laidKinds := [.data, .data, .data, .sentinel, .sentinel], laidTests := true, laidLooks := .later }
def ValueBackCardSaid : Prop := Claim7.holds Tryd.pinned (.plain (OpenSpec.ofChange valueBackSpec)) valueBackCard

/-- THE SECOND FORM's CARD OF 'streamwrightlaw4.SourceSteps'. -/
def sourceStepsUptoCard : Claim7 := { stood := { row := sourceStepsUptoRow, standIns := [], harness := (true, "ff40a77db21e3dca9056ff374020193ba9cc3c636a378bb122a92a26940ef357"), looks := true }, kinds := [], alts := [], laidByText := true, laidKinds := [.handle], laidTests := true, laidLooks := .later }
def SourceStepsUptoCardSaid : Prop := Claim7.holds Tryd.pinned (.plain (OpenSpec.upto sourceStepsSpec)) sourceStepsUptoCard

/-- THE SECOND FORM's CARD OF 'streamwrightlaw9.GateSteps'. -/
def gateStepsUptoCard : Claim7 := { stood := { row := gateStepsUptoRow, standIns := [], harness := (true, "ff40a77db21e3dca9056ff374020193ba9cc3c636a378bb122a92a26940ef357"), looks := true }, kinds := [], alts := [], laidByText := true, laidKinds := [.handle], laidTests := true, laidLooks := .later }
def GateStepsUptoCardSaid : Prop := Claim7.holds Tryd.pinned (.plain (OpenSpec.upto gateStepsSpec)) gateStepsUptoCard

/-- THE SECOND FORM's CARD OF 'streamwrightlaw2.WireReads'. -/
def wireReadsUptoCard : Claim7 := { stood := { row := wireReadsUptoRow, standIns := [], harness := (true, "ff40a77db21e3dca9056ff374020193ba9cc3c636a378bb122a92a26940ef357"), looks := true }, kinds := [], alts := [], laidByText := true, laidKinds := [.handle], laidTests := true, laidLooks := .later }
def WireReadsUptoCardSaid : Prop := Claim7.holds Tryd.pinned (.plain (OpenSpec.upto wireReadsSpec)) wireReadsUptoCard

/-- THE SECOND FORM's CARD OF 'streamwrightlaw2.WireBack'. -/
def wireBackUptoCard : Claim7 := { stood := { row := wireBackUptoRow, standIns := [], harness := (true, "ff40a77db21e3dca9056ff374020193ba9cc3c636a378bb122a92a26940ef357"), looks := true }, kinds := [], alts := [], laidByText := true, laidKinds := [.handle], laidTests := true, laidLooks := .later }
def WireBackUptoCardSaid : Prop := Claim7.holds Tryd.pinned (.plain (OpenSpec.upto wireBackSpec)) wireBackUptoCard

/-- THE SECOND FORM's CARD OF 'streamwrightlaw5.WindowAssigns'. -/
def windowAssignsUptoCard : Claim7 := { stood := { row := windowAssignsUptoRow, standIns := [], harness := (true, "ff40a77db21e3dca9056ff374020193ba9cc3c636a378bb122a92a26940ef357"), looks := true }, kinds := [], alts := [], laidByText := true, laidKinds := [.handle], laidTests := true, laidLooks := .later }
def WindowAssignsUptoCardSaid : Prop := Claim7.holds Tryd.pinned (.plain (OpenSpec.upto windowAssignsSpec)) windowAssignsUptoCard

/-- THE SECOND FORM's CARD OF 'streamwrightlaw12.DiskPacks'. -/
def diskPacksUptoCard : Claim7 := { stood := { row := diskPacksUptoRow, standIns := [], harness := (true, "ff40a77db21e3dca9056ff374020193ba9cc3c636a378bb122a92a26940ef357"), looks := true }, kinds := [], alts := [], laidByText := true, laidKinds := [.handle], laidTests := true, laidLooks := .later }
def DiskPacksUptoCardSaid : Prop := Claim7.holds Tryd.pinned (.plain (OpenSpec.upto diskPacksSpec)) diskPacksUptoCard

/-- THE SECOND FORM's CARD OF 'streamwrightlaw1.ValueGroups'. -/
def valueGroupsUptoCard : Claim7 := { stood := { row := valueGroupsUptoRow, standIns := [], harness := (true, "ff40a77db21e3dca9056ff374020193ba9cc3c636a378bb122a92a26940ef357"), looks := true }, kinds := [], alts := [], laidByText := true, laidKinds := [.data, .data, .data], laidTests := true, laidLooks := .later }
def ValueGroupsUptoCardSaid : Prop := Claim7.holds Tryd.pinned (.plain (OpenSpec.upto valueGroupsSpec)) valueGroupsUptoCard

/-- THE SECOND FORM's CARD OF 'streamwrightlaw1.ValueShows'. -/
def valueShowsUptoCard : Claim7 := { stood := { row := valueShowsUptoRow, standIns := [], harness := (true, "ff40a77db21e3dca9056ff374020193ba9cc3c636a378bb122a92a26940ef357"), looks := true }, kinds := [], alts := [], laidByText := true, laidKinds := [.data, .data, .data], laidTests := true, laidLooks := .later }
def ValueShowsUptoCardSaid : Prop := Claim7.holds Tryd.pinned (.plain (OpenSpec.upto valueShowsSpec)) valueShowsUptoCard

/-- THE SECOND FORM's CARD OF 'streamwrightlaw1.ValueBack'. -/
def valueBackUptoCard : Claim7 := { stood := { row := valueBackUptoRow, standIns := [], harness := (true, "ff40a77db21e3dca9056ff374020193ba9cc3c636a378bb122a92a26940ef357"), looks := true }, kinds := [], alts := [], laidByText := true, laidKinds := [.data, .data, .data, .sentinel, .sentinel], laidTests := true, laidLooks := .later }
def ValueBackUptoCardSaid : Prop := Claim7.holds Tryd.pinned (.plain (OpenSpec.upto valueBackSpec)) valueBackUptoCard
end Rows
end Go.Proofs.YthfgjmdmcoogpaaDoor
