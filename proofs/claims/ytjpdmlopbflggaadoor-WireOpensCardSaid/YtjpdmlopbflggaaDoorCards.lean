/-
  DERIVED. GIVEN WITH THE SEED: THE CARDS: each row of YtjpdmlopbflggaaDoorRows.lean that lists a variable, with what it lists TIED to the program's text (the seventh form; the later family's looks); each row that meets fmt, with fmt's text TOLD by the authors' own Lean function (tested against real Go, not proved from fmt's source: count such statements apart). THE CARD IS WHAT COUNTS. Prove the row's statement (the work); the ties are given (YtjpdmlopbflggaaDoorTie.lean); close each card by the builder's one call (the guide's Derived/Test/ToyasCard.lean, 'card_holds'). Laid BY PROGRAM, IN A SANDBOX (cutbox-door.mjs). By AI agents, Wed Nov 11 2026. No macro, syntax, notation, axiom, sorry.
-/
import Derived.Test.YtjpdmlopbflggaaDoorRows
import GoSem.ClaimSeven
namespace Go.Proofs.YtjpdmlopbflggaaDoor
namespace Rows

/-- THE TIED CARD OF 'streamwrightlaw2.WireOpens'. -/
def wireOpensCard : Claim7 := { stood := { row := wireOpensRow, standIns := [], harness := (true, "f35138b4284006645440aa46e34a2deace08e70fb772b45d5f17077702e8bcd8"), looks := true }, kinds := [], alts := [], laidByText := true, laidKinds := [.handle], laidTests := true, laidLooks := .later }
def WireOpensCardSaid : Prop := Claim7.holds Tryd.pinned (.plain (OpenSpec.ofChange wireOpensSpec)) wireOpensCard

/-- THE SECOND FORM's CARD OF 'streamwrightlaw2.WireOpens'. -/
def wireOpensUptoCard : Claim7 := { stood := { row := wireOpensUptoRow, standIns := [], harness := (true, "f35138b4284006645440aa46e34a2deace08e70fb772b45d5f17077702e8bcd8"), looks := true }, kinds := [], alts := [], laidByText := true, laidKinds := [.handle], laidTests := true, laidLooks := .later }
def WireOpensUptoCardSaid : Prop := Claim7.holds Tryd.pinned (.plain (OpenSpec.upto wireOpensSpec)) wireOpensUptoCard
end Rows
end Go.Proofs.YtjpdmlopbflggaaDoor
