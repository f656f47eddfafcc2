/-
  PROVED HERE: streamwrightlaw3.ExprPrints returns true, for every text.
-/
import Derived.Test.YtgajofkeidjbgaaGreatDoorPrintAll
import Derived.Test.YtgajofkeidjbgaaGreatDoorRefParse
import Derived.Test.YtgajofkeidjbgaaGreatDoorRefPrint
import Derived.Test.YtgajofkeidjbgaaGreatDoorGErr
namespace Go.Proofs.YtgajofkeidjbgaaGreatDoor
set_option linter.unusedSimpArgs false
set_option linter.unusedVariables false
open Go.RowKit

set_option maxRecDepth 100000 in
set_option maxHeartbeats 4000000 in
theorem prints_walk (s : List UInt8) (w : World) (hE : ErrVars w) (hT : PowTab w) (hS : SpaceTab w) (hG : Laid w) : Calls Tryz.prog 3 #[.string (strB s)] w fun e w' => e = .returned (.bool true) ∧ Later w w' := by
  have HE := hid hE; have HT := hid hT; have HS := hid hS; have HG := hid hG
  clear hE hT hS hG
  go_enter Tryz.func3, Tryz.ntmps3
  go_wp2_with fail
  refine (print_any s w HE.out HT.out HS.out).mono ?_
  rintro e w1 ⟨⟨r, hr, hm⟩, hL1⟩
  have HR := hid hr; have HL1 := hid hL1
  clear hr hL1
  cases r with
  | error f =>
    obtain rfl := hm
    unfold errV
    go_wp2_with fail
    refine (rparse_any s w1).mono ?_
    rintro e w2 ⟨hL2, r', hr', hm'⟩
    obtain rfl := text_agree HR.out hr'
    obtain ⟨rfl, hne⟩ := hm'
    have HL2 := hid (Later.trans _ _ _ HL1.out hL2)
    have hne' : (f.1 != 0) = true := by simpa using hne
    clear hL2 hr' hne
    go_wp2_with fail
    refine (told_errno f.1 w2 (HG.out.later HL2.out)).mono ?_
    rintro e w3 ⟨rfl, hL3⟩
    have HL3 := hid (Later.trans _ _ _ HL2.out hL3)
    clear hL3
    go_wp2_with fail
    exact bodyPost_ret (results_tmp rfl _ _ _) rfl ⟨rfl, HL3.out⟩
  | ok x =>
    obtain rfl := hm
    go_wp2_with fail
    refine (rparse_any s w1).mono ?_
    rintro e w2 ⟨hL2, r', hr', hm'⟩
    obtain rfl := text_agree HR.out hr'
    obtain ⟨B, rfl, hx⟩ := hm'
    have HL2 := hid (Later.trans _ _ _ HL1.out hL2)
    have HX := hid hx
    clear hL2 hr' hx
    go_wp2_with fail
    refine (told_nil w2).mono ?_
    rintro e w3 ⟨rfl, hL3⟩
    have HX3 := hid (EIn.kept (hL3.keeps (fun _ => True)) (fun _ _ => trivial) _ _ HX.out)
    have HL3 := hid (Later.trans _ _ _ HL2.out hL3)
    clear hL3
    go_wp2_with fail
    refine (rprc_all x 0 B _ w3 (by omega) HX3.out (text_ok HR.out) (Nat.le_trans (text_cost HR.out) (by omega))).mono ?_
    rintro e w4 ⟨rfl, hL4⟩
    have HL4 := hid (Later.trans _ _ _ HL3.out hL4)
    rw [← print_same x 0 0 (text_ok HR.out) ⟨by omega, .inl rfl⟩]
    clear hL4
    go_wp2_with fail
    exact bodyPost_ret (results_tmp rfl _ _ _) rfl ⟨rfl, HL4.out⟩
theorem prints_str (s : ByteArray) (w : World) (hE : ErrVars w) (hT : PowTab w) (hS : SpaceTab w) (hG : Laid w) : Calls Tryz.prog 3 #[.string s] w fun e w' => e = .returned (.bool true) ∧ Later w w' := by
  have h := prints_walk s.data.toList w hE hT hS hG
  rw [strB_data] at h
  exact h
end Go.Proofs.YtgajofkeidjbgaaGreatDoor
