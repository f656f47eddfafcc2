/-
  PROVED HERE: the contract of the document's ValidRow.
-/
import Derived.Test.YtbabfibmopfghaaGreatDoorValid
import Derived.Test.YtbabfibmopfghaaGreatDoorValidRow
namespace Go.Proofs.YtbabfibmopfghaaGreatDoor
set_option linter.unusedSimpArgs false
set_option linter.unusedVariables false
open Go.RowKit

def ValidTo (w : World) (b : Bool) (e : Ending) (w' : World) : Prop := e = .returned (.bool b) ∧ Later w w'
theorem all_take {l : List Val} {k : Nat} (h : k < l.length) : (l.take (k + 1)).all validV = ((l.take k).all validV && validV l[k]) := by
  rw [List.take_succ_eq_append_getElem h, List.all_append]; simp
theorem all_false {l : List Val} {k : Nat} (h : k < l.length) (hv : validV l[k] = false) : l.all validV = false := by
  rw [Bool.eq_false_iff]
  intro ha
  have := List.all_eq_true.1 ha _ (List.getElem_mem h)
  rw [hv] at this; cases this
set_option maxRecDepth 100000 in
set_option maxHeartbeats 1000000 in
theorem rvalid_row (t : Int) (l : List Val) (v : Value) (w : World) (hv : IsVals w v l) :
    Calls Tryz.prog 17 #[.agg #[.int .i64 t, v]] w (ValidTo w (validR ⟨t, l⟩)) := by
  have HV := hid hv
  obtain ⟨p, c, rfl, hl, hc, -, -⟩ := hv
  unfold maxLen at hc
  go_enter Tryz.func17, Tryz.ntmps17
  go_wp2_with fail
  go_loopw [3] (fun iv wr => ∃ (k : Nat), k ≤ l.length ∧ iv = .int .i64 k ∧ Later (w.alloc (.cells #[.int .i64 t, .slice p l.length c] 24)) wr ∧ Hid ((l.take k).all validV = true)) (fun iv _ => l.length - (intOf iv).toNat)
  case atStart => exact ⟨0, by omega, rfl, Later.refl _, hid rfl⟩
  case round =>
    obtain ⟨k, hk, rfl, hL, hall⟩ := hrel
    have hX := hL.obj (obj_new w _)
    have x0 := cell_obj (i := 0) hX rfl
    have x1 := cell_obj (i := 1) hX rfl
    have HL := hid hL
    have hLw := Later.of_alloc hL
    have hk0 : (0 : Int) ≤ k := by omega
    clear hX
    by_cases hlt : k < l.length
    · obtain ⟨a2, c2, hv2, -, -, -, hel⟩ := HV.out.later hLw
      simp only [Value.slice.injEq, true_and] at hv2
      obtain ⟨rfl, rfl⟩ := hv2
      obtain ⟨b, o, rfl, -, e0, e1, e2⟩ := hel k hlt
      have HT := hid (all_take hlt)
      have HF : Hid (validV l[k] = false → l.all validV = false) := hid (all_false hlt)
      generalize l[k] = x at *
      clear hel hL hLw
      cases hvx : validV x with
      | true =>
        have HVX := hid hvx
        clear hvx
        go_wp2_with fail
        refine (rvalid_any x _).mono ?_
        rintro e w2 ⟨rfl, hL2⟩
        rw [HVX.out]
        have HL2 := hid (Later.trans _ _ _ HL.out hL2)
        clear hL2 e0 e1 e2 x0 x1
        go_wp2
        go_roundw
        case rel => exact ⟨k + 1, by omega, by go_num, HL2.out, hid (by rw [HT.out, hall.out, HVX.out]; rfl)⟩
        case measure => simp [intOf]; omega
      | false =>
        have HVX := hid hvx
        clear hvx
        go_wp2_with fail
        refine (rvalid_any x _).mono ?_
        rintro e w2 ⟨rfl, hL2⟩
        rw [HVX.out]
        have HL2 := hid (Later.trans _ _ _ HL.out hL2)
        clear hL2 e0 e1 e2 x0 x1
        go_wp2
        go_ret
        exact ⟨ret_bool (by simp [validR, HF.out HVX.out]), Later.of_alloc HL2.out⟩
    · obtain rfl : k = l.length := by omega
      have HA : Hid (l.all validV = true) := hid (by have := hall.out; rwa [List.take_length] at this)
      clear hL hLw
      by_cases h0 : 0 ≤ t
      · have h0' : decide (0 ≤ t) = true := decide_eq_true h0
        by_cases h1 : t ≤ 1099511627776
        · have h1' : decide (t ≤ 1099511627776) = true := decide_eq_true h1
          go_wp2
          go_ret
          exact ⟨ret_bool (by simp [validR, HA.out, h0, h1]; omega), Later.of_alloc HL.out⟩
        · have h1' : decide (t ≤ 1099511627776) = false := decide_eq_false h1
          have HQ : Hid (validR ⟨t, l⟩ = false) := hid (by simp [validR, h1])
          go_wp2
          go_ret
          exact ⟨ret_bool HQ.out.symm, Later.of_alloc HL.out⟩
      · have h0' : decide (0 ≤ t) = false := decide_eq_false h0
        have HQ : Hid (validR ⟨t, l⟩ = false) := hid (by simp [validR, h0])
        go_wp2
        go_ret
        exact ⟨ret_bool HQ.out.symm, Later.of_alloc HL.out⟩
end Go.Proofs.YtbabfibmopfghaaGreatDoor
