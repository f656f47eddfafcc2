/-
  No cell of these rows narrows 'for every input' (looked for: loops, veiled, ifaces, maps, wideKeys, modest, calm, conditions, laid).
  DERIVED. THE GIVEN ROWS OF THIS SEAT. 6 by the template 'for every input the law returns true; each argument reads behind the call as it read before'; 0 by the template 'total and deterministic' (their statements: YtjpdmlopbflggaaTotals.lean).
  GIVEN WITH THE SEED: the statements are not yours to turn. If you find one false, say at which input.
  Laid BY PROGRAM, IN A SANDBOX (cutbox-rows.mjs): the forced cells as the released guide's own fill.sh prints them over the translation 21627dca4fd5f6e7… (all of the seat's roots in one cut). By AI agents, Wed Nov 11 2026. No macro, syntax, notation, axiom, sorry.
-/
import Derived.Test.YtjpdmlopbflggaaChecked
import GoSem.Claim
import GoSem.ClaimJoined
import GoSem.ClaimMapViews
import Derived.JoinedTies
import Derived.KernelRfl
namespace Go.Proofs.Ytjpdmlopbflggaa
/- THE CELL 'sum', in the pinned program and in every row, IS THE sha256 OF THE DUMP (.gsa) THAT YtjpdmlopbflggaaProg.lean LOADS. Nothing in Lean hashes anything: it is a label: what it is worth is what the hold of that sum in a sandbox is worth. -/
noncomputable def Try.pinned : Pinned := { name := "ytjpdmlopbflggaa", sum := "21627dca4fd5f6e7413ef7cb49f1579ee465c5861716a78cf24abd8e3bafc8a1", checked := Try.checked }
namespace Rows
def none {H : Type} : Left H := { results := [], args := [] }

/-- 'streamwrightlaw1.Names': WHATEVER THE INPUT: true; the input reads as it did. -/
def namesSpec : ChangeSpec := { name := "names", fn := fun _ => fun
  | [] => { results := [.lit (.bool true)], args := [] }
  | _ => none }
def namesRow : OpenClaim := { program := "ytjpdmlopbflggaa", sum := "21627dca4fd5f6e7413ef7cb49f1579ee465c5861716a78cf24abd8e3bafc8a1", func := "streamwright/streamwrightlaw1.Names", spec := "names", apart := false }
def NamesSaid : Prop := namesRow.holds Try.pinned (OpenSpec.ofChange namesSpec)

/-- ITS FALSE NEIGHBOUR: 'it returns false'. Refute it at one input. -/
def namesWrong : ChangeSpec := { name := "names", fn := fun _ => fun
  | [] => { results := [.lit (.bool false)], args := [] }
  | _ => none }
def NamesWrongFalsely : Prop := namesRow.holds Try.pinned (OpenSpec.ofChange namesWrong)

/-- 'streamwrightlaw11.SpreadOwns': WHATEVER THE INPUT: true; the input reads as it did. -/
def spreadOwnsSpec : ChangeSpec := { name := "spreadOwns", fn := fun _ => fun
  | [d] => { results := [.lit (.bool true)], args := [d] }
  | _ => none }
def spreadOwnsRow : OpenClaim := { program := "ytjpdmlopbflggaa", sum := "21627dca4fd5f6e7413ef7cb49f1579ee465c5861716a78cf24abd8e3bafc8a1", func := "streamwright/streamwrightlaw11.SpreadOwns", spec := "spreadOwns", apart := false }
def SpreadOwnsSaid : Prop := spreadOwnsRow.holds Try.pinned (OpenSpec.ofChange spreadOwnsSpec)

/-- ITS FALSE NEIGHBOUR: 'it returns false'. Refute it at one input. -/
def spreadOwnsWrong : ChangeSpec := { name := "spreadOwns", fn := fun _ => fun
  | [d] => { results := [.lit (.bool false)], args := [d] }
  | _ => none }
def SpreadOwnsWrongFalsely : Prop := spreadOwnsRow.holds Try.pinned (OpenSpec.ofChange spreadOwnsWrong)

/-- 'streamwrightlaw2.WireWrites': WHATEVER THE INPUT: true; the input reads as it did. -/
def wireWritesSpec : ChangeSpec := { name := "wireWrites", fn := fun _ => fun
  | [d1, d2, d3] => { results := [.lit (.bool true)], args := [d1, d2, d3] }
  | _ => none }
def wireWritesRow : OpenClaim := { program := "ytjpdmlopbflggaa", sum := "21627dca4fd5f6e7413ef7cb49f1579ee465c5861716a78cf24abd8e3bafc8a1", func := "streamwright/streamwrightlaw2.WireWrites", spec := "wireWrites", apart := false }
def WireWritesSaid : Prop := wireWritesRow.holds Try.pinned (OpenSpec.ofChange wireWritesSpec)

/-- ITS FALSE NEIGHBOUR: 'it returns false'. Refute it at one input. -/
def wireWritesWrong : ChangeSpec := { name := "wireWrites", fn := fun _ => fun
  | [d1, d2, d3] => { results := [.lit (.bool false)], args := [d1, d2, d3] }
  | _ => none }
def WireWritesWrongFalsely : Prop := wireWritesRow.holds Try.pinned (OpenSpec.ofChange wireWritesWrong)

/-- 'streamwrightlaw1.ValueOrders': WHATEVER THE INPUT: true; the input reads as it did. -/
def valueOrdersSpec : ChangeSpec := { name := "valueOrders", fn := fun _ => fun
  | [d1, d2, d3, d4] => { results := [.lit (.bool true)], args := [d1, d2, d3, d4] }
  | _ => none }
def valueOrdersRow : OpenClaim := { program := "ytjpdmlopbflggaa", sum := "21627dca4fd5f6e7413ef7cb49f1579ee465c5861716a78cf24abd8e3bafc8a1", func := "streamwright/streamwrightlaw1.ValueOrders", spec := "valueOrders", inPlace := ["internal/bytealg.abigen_runtime_cmpstring"], unfollowed := true, recurses := true, apart := false }
def ValueOrdersSaid : Prop := valueOrdersRow.holds Try.pinned (OpenSpec.ofChange valueOrdersSpec)

/-- ITS FALSE NEIGHBOUR: 'it returns false'. Refute it at one input. -/
def valueOrdersWrong : ChangeSpec := { name := "valueOrders", fn := fun _ => fun
  | [d1, d2, d3, d4] => { results := [.lit (.bool false)], args := [d1, d2, d3, d4] }
  | _ => none }
def ValueOrdersWrongFalsely : Prop := valueOrdersRow.holds Try.pinned (OpenSpec.ofChange valueOrdersWrong)

/-- 'streamwrightlaw4.SourceTimes': WHATEVER THE INPUT: true; the input reads as it did. -/
def sourceTimesSpec : ChangeSpec := { name := "sourceTimes", fn := fun _ => fun
  | [d1, d2] => { results := [.lit (.bool true)], args := [d1, d2] }
  | _ => none }
def sourceTimesRow : OpenClaim := { program := "ytjpdmlopbflggaa", sum := "21627dca4fd5f6e7413ef7cb49f1579ee465c5861716a78cf24abd8e3bafc8a1", func := "streamwright/streamwrightlaw4.SourceTimes", spec := "sourceTimes", unfollowed := true, recurses := true, apart := false }
def SourceTimesSaid : Prop := sourceTimesRow.holds Try.pinned (OpenSpec.ofChange sourceTimesSpec)

/-- ITS FALSE NEIGHBOUR: 'it returns false'. Refute it at one input. -/
def sourceTimesWrong : ChangeSpec := { name := "sourceTimes", fn := fun _ => fun
  | [d1, d2] => { results := [.lit (.bool false)], args := [d1, d2] }
  | _ => none }
def SourceTimesWrongFalsely : Prop := sourceTimesRow.holds Try.pinned (OpenSpec.ofChange sourceTimesWrong)

/-- 'streamwrightlaw9.GateKeeps': WHATEVER THE INPUT: true; the input reads as it did. -/
def gateKeepsSpec : ChangeSpec := { name := "gateKeeps", fn := fun _ => fun
  | [d1, d2] => { results := [.lit (.bool true)], args := [d1, d2] }
  | _ => none }
def gateKeepsRow : OpenClaim := { program := "ytjpdmlopbflggaa", sum := "21627dca4fd5f6e7413ef7cb49f1579ee465c5861716a78cf24abd8e3bafc8a1", func := "streamwright/streamwrightlaw9.GateKeeps", spec := "gateKeeps", unfollowed := true, recurses := true, apart := false }
def GateKeepsSaid : Prop := gateKeepsRow.holds Try.pinned (OpenSpec.ofChange gateKeepsSpec)

/-- ITS FALSE NEIGHBOUR: 'it returns false'. Refute it at one input. -/
def gateKeepsWrong : ChangeSpec := { name := "gateKeeps", fn := fun _ => fun
  | [d1, d2] => { results := [.lit (.bool false)], args := [d1, d2] }
  | _ => none }
def GateKeepsWrongFalsely : Prop := gateKeepsRow.holds Try.pinned (OpenSpec.ofChange gateKeepsWrong)

/- THE SECOND FORM. 'bulk': how many values and letters a reading holds, each counted each time it is reached (what is shared counts as often as it is met; a slice's spare places count too). A statement '..UptoSaid' is the law's where the arguments, and the package variables that the reading takes, are together of bulk at most 1048576: NARROWER than '..Said'. Prove '..Said' where nothing that the law and all that it calls make is longer than what came in: it says more and counts as full. Else prove '..UptoSaid'. A law counts once. -/
mutual
def uptoBulk {H : Type} : DataW H → Nat
  | .lit (.string bytes) => bytes.length + 1
  | .lit _ => 1
  | .nil => 1
  | .ptr d => uptoBulk d + 1
  | .slice elems spare => uptoBulkAll elems + uptoBulkAll spare + 1
  | .agg parts => uptoBulkAll parts + 1
  | .iface _ d => uptoBulk d + 1
  | .map entries => uptoBulkEntries entries + 1
  | .held _ => 1
def uptoBulkAll {H : Type} : List (DataW H) → Nat
  | [] => 0
  | d :: r => uptoBulk d + uptoBulkAll r
def uptoBulkEntries {H : Type} : List (Lit × DataW H) → Nat
  | [] => 0
  | x :: r => uptoBulkEntry x + uptoBulkEntries r
def uptoBulkEntry {H : Type} : Lit × DataW H → Nat
  | (.string bytes, d) => bytes.length + uptoBulk d + 1
  | (_, d) => uptoBulk d + 1
 end
def uptoSmall : (H : Type) → List (DataW H) → Bool := fun _ ds => decide (uptoBulkAll ds ≤ 1048576)
def OpenSpec.upto (s : _root_.Go.ChangeSpec) : _root_.Go.OpenSpec := { _root_.Go.OpenSpec.ofChange s with cond := some uptoSmall }

/-- 'streamwrightlaw1.Names', WHERE WHAT IT READS IS OF BULK AT MOST 1048576: true; the input reads as it did. -/
def namesUptoRow : OpenClaim := { program := "ytjpdmlopbflggaa", sum := "21627dca4fd5f6e7413ef7cb49f1579ee465c5861716a78cf24abd8e3bafc8a1", func := "streamwright/streamwrightlaw1.Names", spec := "names", apart := false, narrowed := true }
def NamesUptoSaid : Prop := namesUptoRow.holds Try.pinned (OpenSpec.upto namesSpec)

/-- 'streamwrightlaw11.SpreadOwns', WHERE WHAT IT READS IS OF BULK AT MOST 1048576: true; the input reads as it did. -/
def spreadOwnsUptoRow : OpenClaim := { program := "ytjpdmlopbflggaa", sum := "21627dca4fd5f6e7413ef7cb49f1579ee465c5861716a78cf24abd8e3bafc8a1", func := "streamwright/streamwrightlaw11.SpreadOwns", spec := "spreadOwns", apart := false, narrowed := true }
def SpreadOwnsUptoSaid : Prop := spreadOwnsUptoRow.holds Try.pinned (OpenSpec.upto spreadOwnsSpec)

/-- 'streamwrightlaw2.WireWrites', WHERE WHAT IT READS IS OF BULK AT MOST 1048576: true; the input reads as it did. -/
def wireWritesUptoRow : OpenClaim := { program := "ytjpdmlopbflggaa", sum := "21627dca4fd5f6e7413ef7cb49f1579ee465c5861716a78cf24abd8e3bafc8a1", func := "streamwright/streamwrightlaw2.WireWrites", spec := "wireWrites", apart := false, narrowed := true }
def WireWritesUptoSaid : Prop := wireWritesUptoRow.holds Try.pinned (OpenSpec.upto wireWritesSpec)

/-- 'streamwrightlaw1.ValueOrders', WHERE WHAT IT READS IS OF BULK AT MOST 1048576: true; the input reads as it did. -/
def valueOrdersUptoRow : OpenClaim := { program := "ytjpdmlopbflggaa", sum := "21627dca4fd5f6e7413ef7cb49f1579ee465c5861716a78cf24abd8e3bafc8a1", func := "streamwright/streamwrightlaw1.ValueOrders", spec := "valueOrders", inPlace := ["internal/bytealg.abigen_runtime_cmpstring"], unfollowed := true, recurses := true, apart := false, narrowed := true }
def ValueOrdersUptoSaid : Prop := valueOrdersUptoRow.holds Try.pinned (OpenSpec.upto valueOrdersSpec)

/-- 'streamwrightlaw4.SourceTimes', WHERE WHAT IT READS IS OF BULK AT MOST 1048576: true; the input reads as it did. -/
def sourceTimesUptoRow : OpenClaim := { program := "ytjpdmlopbflggaa", sum := "21627dca4fd5f6e7413ef7cb49f1579ee465c5861716a78cf24abd8e3bafc8a1", func := "streamwright/streamwrightlaw4.SourceTimes", spec := "sourceTimes", unfollowed := true, recurses := true, apart := false, narrowed := true }
def SourceTimesUptoSaid : Prop := sourceTimesUptoRow.holds Try.pinned (OpenSpec.upto sourceTimesSpec)

/-- 'streamwrightlaw9.GateKeeps', WHERE WHAT IT READS IS OF BULK AT MOST 1048576: true; the input reads as it did. -/
def gateKeepsUptoRow : OpenClaim := { program := "ytjpdmlopbflggaa", sum := "21627dca4fd5f6e7413ef7cb49f1579ee465c5861716a78cf24abd8e3bafc8a1", func := "streamwright/streamwrightlaw9.GateKeeps", spec := "gateKeeps", unfollowed := true, recurses := true, apart := false, narrowed := true }
def GateKeepsUptoSaid : Prop := gateKeepsUptoRow.holds Try.pinned (OpenSpec.upto gateKeepsSpec)

end Rows
end Go.Proofs.Ytjpdmlopbflggaa
