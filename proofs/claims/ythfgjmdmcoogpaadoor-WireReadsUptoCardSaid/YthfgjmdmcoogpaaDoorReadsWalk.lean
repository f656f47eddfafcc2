/-
  PROVED HERE: the walk of streamwrightlaw2.WireReads.
-/
import Derived.Test.YthfgjmdmcoogpaaDoorRefRead
import Derived.Test.YthfgjmdmcoogpaaDoorSameRows
import Derived.Test.YthfgjmdmcoogpaaDoorCopied
import Derived.Test.YthfgjmdmcoogpaaDoorTold
namespace Go.Proofs.YthfgjmdmcoogpaaDoor
set_option linter.unusedSimpArgs false
set_option linter.unusedVariables false
open Go.RowKit

def TrueTo (w : World) (e : Ending) (w' : World) : Prop := e = .returned (.bool true) ∧ Later w w'
set_option maxRecDepth 100000 in
set_option maxHeartbeats 4000000 in
theorem reads_walk (v : Value) (l : List UInt8) (w : World) (h : IsBytes w v l) (hg : Laid w) (hl : l.length ≤ 1048576) :
    Calls Tryd.prog 5 #[v] w (TrueTo w) := by
  have HV := hid h
  have HLL := hid hl
  have HG := hid hg
  clear h hg hl
  go_enter Tryd.func5, Tryd.ntmps5
  go_wp2_with fail
  refine (copied_any v l _ HV.out (by have := HLL.out; omega)).mono ?_
  rintro e w1 ⟨v1, rfl, ho1, hL1⟩
  have HB1 := hid (owned_bytes ho1)
  have HL1 := hid hL1
  clear ho1 hL1
  go_wp2_with fail
  refine (rows_all v1 l _ (HB1.out.bytes_mono fun _ _ => trivial) (by have := HLL.out; omega)).mono ?_
  rintro e w2 ⟨hL2, hT2⟩
  have HL2 := hid (Later.trans _ _ _ HL1.out hL2)
  have HS12 := hid hL2.size
  clear hL2
  cases hd : dAll l with
  | none =>
    rw [hd] at hT2
    obtain rfl := hT2
    have HD := hid hd
    clear hd
    go_wp2_with fail
    refine (ref_read v l _ (HV.out.bytes_later HL2.out) (by have := HLL.out; omega)).mono ?_
    rintro e w3 ⟨hL3, hT3⟩
    rw [HD.out] at hT3
    obtain ⟨v3, rfl⟩ := hT3
    have HL3 := hid (Later.trans _ _ _ HL2.out hL3)
    clear hL3
    go_wp2_with fail
    refine (told_errno 7 _ (HG.out.later HL3.out)).mono ?_
    rintro e w4 ⟨rfl, hL4⟩
    have HL4 := hid (Later.trans _ _ _ HL3.out hL4)
    clear hL4
    go_wp2_with fail
    go_ret
    exact ⟨rfl, HL4.out⟩
  | some xs =>
    rw [hd] at hT2
    obtain ⟨v2, rfl, ho2⟩ := hT2
    have HO2 := hid ho2
    have HD := hid hd
    clear hd ho2
    go_wp2_with fail
    refine (ref_read v l _ (HV.out.bytes_later HL2.out) (by have := HLL.out; omega)).mono ?_
    rintro e w3 ⟨hL3, hT3⟩
    rw [HD.out] at hT3
    obtain ⟨v3, rfl, ho3⟩ := hT3
    have HL3 := hid (Later.trans _ _ _ HL2.out hL3)
    have HO2b := hid (HO2.out.keep (hL3.keeps (fun _ => True)) fun _ _ _ => trivial)
    have HO3 := hid ho3
    clear hL3 ho3
    go_wp2_with fail
    refine (told_nil _).mono ?_
    rintro e w4 ⟨rfl, hL4⟩
    have HL4 := hid (Later.trans _ _ _ HL3.out hL4)
    have HR2 : Hid (IsRows w4 v2 xs) := hid ((HO2b.out.own.rows.rows_mono fun _ _ => trivial).rows_later hL4)
    have HR3 : Hid (IsRows w4 v3 xs) := hid ((HO3.out.own.rows.rows_mono fun _ _ => trivial).rows_later hL4)
    clear hL4
    go_wp2_with fail
    refine (same_rows xs xs _ _ _ HR2.out HR3.out).mono ?_
    rintro e w5 ⟨rfl, hL5⟩
    have HL5 := hid (Later.trans _ _ _ HL4.out hL5)
    have hs := sameR_refl xs
    rw [hs]
    clear hL5 hs
    go_wp2_with fail
    go_ret
    exact ⟨rfl, HL5.out⟩
end Go.Proofs.YthfgjmdmcoogpaaDoor
