/-
  No cell of these rows narrows 'for every input' (looked for: loops, veiled, ifaces, maps, wideKeys, modest, calm, conditions, laid).
  DERIVED. THE GIVEN ROWS OF THIS SEAT. 3 by the template 'for every input the law returns true; each argument reads behind the call as it read before'; 0 by the template 'total and deterministic' (their statements: YthfgjmdmcoogpaaTotals.lean).
  GIVEN WITH THE SEED: the statements are not yours to turn. If you find one false, say at which input.
  Laid BY PROGRAM, IN A SANDBOX (cutbox-rows.mjs): the forced cells as the released guide's own fill.sh prints them over the translation f2cc7780d8547c22… (all of the seat's roots in one cut). By AI agents, Wed Nov 11 2026. No macro, syntax, notation, axiom, sorry.
-/
import Derived.Test.YthfgjmdmcoogpaaChecked
import GoSem.Claim
import GoSem.ClaimJoined
import GoSem.ClaimMapViews
import Derived.JoinedTies
import Derived.KernelRfl
namespace Go.Proofs.Ythfgjmdmcoogpaa
/- THE CELL 'sum', in the pinned program and in every row, IS THE sha256 OF THE DUMP (.gsa) THAT YthfgjmdmcoogpaaProg.lean LOADS. Nothing in Lean hashes anything: it is a label: what it is worth is what the hold of that sum in a sandbox is worth. -/
noncomputable def Try.pinned : Pinned := { name := "ythfgjmdmcoogpaa", sum := "f2cc7780d8547c22fce3f0a47e1655ce07920d17a94d65dfdec560bca13023fd", checked := Try.checked }
namespace Rows
def none {H : Type} : Left H := { results := [], args := [] }

/-- 'streamwrightlaw5.WindowMerges': WHATEVER THE INPUT: true; the input reads as it did. -/
def windowMergesSpec : ChangeSpec := { name := "windowMerges", fn := fun _ => fun
  | [d1, d2, d3] => { results := [.lit (.bool true)], args := [d1, d2, d3] }
  | _ => none }
def windowMergesRow : OpenClaim := { program := "ythfgjmdmcoogpaa", sum := "f2cc7780d8547c22fce3f0a47e1655ce07920d17a94d65dfdec560bca13023fd", func := "streamwright/streamwrightlaw5.WindowMerges", spec := "windowMerges", unfollowed := true, recurses := true, apart := false }
def WindowMergesSaid : Prop := windowMergesRow.holds Try.pinned (OpenSpec.ofChange windowMergesSpec)

/-- ITS FALSE NEIGHBOUR: 'it returns false'. Refute it at one input. -/
def windowMergesWrong : ChangeSpec := { name := "windowMerges", fn := fun _ => fun
  | [d1, d2, d3] => { results := [.lit (.bool false)], args := [d1, d2, d3] }
  | _ => none }
def WindowMergesWrongFalsely : Prop := windowMergesRow.holds Try.pinned (OpenSpec.ofChange windowMergesWrong)

/-- 'streamwrightlaw5.WindowCovers': WHATEVER THE INPUT: true; the input reads as it did. -/
def windowCoversSpec : ChangeSpec := { name := "windowCovers", fn := fun _ => fun
  | [d1, d2, d3] => { results := [.lit (.bool true)], args := [d1, d2, d3] }
  | _ => none }
def windowCoversRow : OpenClaim := { program := "ythfgjmdmcoogpaa", sum := "f2cc7780d8547c22fce3f0a47e1655ce07920d17a94d65dfdec560bca13023fd", func := "streamwright/streamwrightlaw5.WindowCovers", spec := "windowCovers", unfollowed := true, recurses := true, apart := false }
def WindowCoversSaid : Prop := windowCoversRow.holds Try.pinned (OpenSpec.ofChange windowCoversSpec)

/-- ITS FALSE NEIGHBOUR: 'it returns false'. Refute it at one input. -/
def windowCoversWrong : ChangeSpec := { name := "windowCovers", fn := fun _ => fun
  | [d1, d2, d3] => { results := [.lit (.bool false)], args := [d1, d2, d3] }
  | _ => none }
def WindowCoversWrongFalsely : Prop := windowCoversRow.holds Try.pinned (OpenSpec.ofChange windowCoversWrong)

/-- 'streamwrightlaw1.ValueSorts': WHATEVER THE INPUT: true; the input reads as it did. -/
def valueSortsSpec : ChangeSpec := { name := "valueSorts", fn := fun _ => fun
  | [d] => { results := [.lit (.bool true)], args := [d] }
  | _ => none }
def valueSortsRow : OpenClaim := { program := "ythfgjmdmcoogpaa", sum := "f2cc7780d8547c22fce3f0a47e1655ce07920d17a94d65dfdec560bca13023fd", func := "streamwright/streamwrightlaw1.ValueSorts", spec := "valueSorts", inPlace := ["internal/bytealg.abigen_runtime_cmpstring"], unfollowed := true, recurses := true, apart := false }
def ValueSortsSaid : Prop := valueSortsRow.holds Try.pinned (OpenSpec.ofChange valueSortsSpec)

/-- ITS FALSE NEIGHBOUR: 'it returns false'. Refute it at one input. -/
def valueSortsWrong : ChangeSpec := { name := "valueSorts", fn := fun _ => fun
  | [d] => { results := [.lit (.bool false)], args := [d] }
  | _ => none }
def ValueSortsWrongFalsely : Prop := valueSortsRow.holds Try.pinned (OpenSpec.ofChange valueSortsWrong)

/- THE SECOND FORM. 'bulk': how many values and letters a reading holds, each counted each time it is reached (what is shared counts as often as it is met; a slice's spare places count too). A statement '..UptoSaid' is the law's where the arguments, and the package variables that the reading takes, are together of bulk at most 1048576: NARROWER than '..Said'. Prove '..Said' where nothing that the law and all that it calls make is longer than what came in: it says more and counts as full. Else prove '..UptoSaid'. A law counts once. -/
mutual
def uptoBulk {H : Type} : DataW H → Nat
  | .lit (.string bytes) => bytes.length + 1
  | .lit _ => 1
  | .nil => 1
  | .ptr d => uptoBulk d + 1
  | .slice elems spare => uptoBulkAll elems + uptoBulkAll spare + 1
  | .agg parts => uptoBulkAll parts + 1
  | .iface _ d => uptoBulk d + 1
  | .map entries => uptoBulkEntries entries + 1
  | .held _ => 1
def uptoBulkAll {H : Type} : List (DataW H) → Nat
  | [] => 0
  | d :: r => uptoBulk d + uptoBulkAll r
def uptoBulkEntries {H : Type} : List (Lit × DataW H) → Nat
  | [] => 0
  | x :: r => uptoBulkEntry x + uptoBulkEntries r
def uptoBulkEntry {H : Type} : Lit × DataW H → Nat
  | (.string bytes, d) => bytes.length + uptoBulk d + 1
  | (_, d) => uptoBulk d + 1
 end
def uptoSmall : (H : Type) → List (DataW H) → Bool := fun _ ds => decide (uptoBulkAll ds ≤ 1048576)
def OpenSpec.upto (s : _root_.Go.ChangeSpec) : _root_.Go.OpenSpec := { _root_.Go.OpenSpec.ofChange s with cond := some uptoSmall }

/-- 'streamwrightlaw5.WindowMerges', WHERE WHAT IT READS IS OF BULK AT MOST 1048576: true; the input reads as it did. -/
def windowMergesUptoRow : OpenClaim := { program := "ythfgjmdmcoogpaa", sum := "f2cc7780d8547c22fce3f0a47e1655ce07920d17a94d65dfdec560bca13023fd", func := "streamwright/streamwrightlaw5.WindowMerges", spec := "windowMerges", unfollowed := true, recurses := true, apart := false, narrowed := true }
def WindowMergesUptoSaid : Prop := windowMergesUptoRow.holds Try.pinned (OpenSpec.upto windowMergesSpec)

/-- 'streamwrightlaw5.WindowCovers', WHERE WHAT IT READS IS OF BULK AT MOST 1048576: true; the input reads as it did. -/
def windowCoversUptoRow : OpenClaim := { program := "ythfgjmdmcoogpaa", sum := "f2cc7780d8547c22fce3f0a47e1655ce07920d17a94d65dfdec560bca13023fd", func := "streamwright/streamwrightlaw5.WindowCovers", spec := "windowCovers", unfollowed := true, recurses := true, apart := false, narrowed := true }
def WindowCoversUptoSaid : Prop := windowCoversUptoRow.holds Try.pinned (OpenSpec.upto windowCoversSpec)

/-- 'streamwrightlaw1.ValueSorts', WHERE WHAT IT READS IS OF BULK AT MOST 1048576: true; the input reads as it did. -/
def valueSortsUptoRow : OpenClaim := { program := "ythfgjmdmcoogpaa", sum := "f2cc7780d8547c22fce3f0a47e1655ce07920d17a94d65dfdec560bca13023fd", func := "streamwright/streamwrightlaw1.ValueSorts", spec := "valueSorts", inPlace := ["internal/bytealg.abigen_runtime_cmpstring"], unfollowed := true, recurses := true, apart := false, narrowed := true }
def ValueSortsUptoSaid : Prop := valueSortsUptoRow.holds Try.pinned (OpenSpec.upto valueSortsSpec)

end Rows
end Go.Proofs.Ythfgjmdmcoogpaa
