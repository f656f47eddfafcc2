/-
  PROVED HERE: the contract of value.ValidRow.
-/
import Derived.Test.YtbabfibmopfghaaGreatDoorValid
namespace Go.Proofs.YtbabfibmopfghaaGreatDoor
set_option linter.unusedSimpArgs false
set_option linter.unusedVariables false
open Go.RowKit

attribute [local go_sem high] run_eql_val' run_neq_val'
theorem odd_any (x : Val) (w : World) :
    Calls Tryz.prog 119 #[x.v] w fun e w' => e = .returned (.bool (!validV x)) ∧ Later w w' := by
  go_enter Tryz.func119, Tryz.ntmps119
  go_wp2_with (go_at_call 120; refine (valid_any x _).mono ?_; rintro e w2 ⟨rfl, hL2⟩)
  repeat (first | replace hL2 := Later.of_drew hL2 | replace hL2 := Later.of_drewN hL2 | replace hL2 := Later.of_alloc hL2)
  go_ret
  exact ⟨rfl, hL2⟩

def badAt (l : List Val) : Int := (l.findIdx? fun x => !validV x).elim (-1) (fun i => (i : Int))
theorem badAt_some {l : List Val} {n : Nat} (h : n < l.length) (hn : validV l[n] = false) (hb : ∀ j (h : j < l.length), j < n → validV l[j] = true) : badAt l = n := by
  unfold badAt
  have : l.findIdx? (fun x => !validV x) = some n := by
    rw [List.findIdx?_eq_some_iff_getElem]
    exact ⟨h, by simp [hn], fun j hj => by simp [hb j (by omega) hj]⟩
  rw [this]; rfl
theorem badAt_none {l : List Val} (hb : ∀ j (h : j < l.length), validV l[j] = true) : badAt l = -1 := by
  unfold badAt
  have : l.findIdx? (fun x => !validV x) = none := by
    rw [List.findIdx?_eq_none_iff]
    intro x hx
    obtain ⟨j, hj, rfl⟩ := List.getElem_of_mem hx
    simp [hb j hj]
  rw [this]; rfl
theorem badAt_nonneg (l : List Val) : decide (0 ≤ badAt l) = !(l.all validV) := by
  by_cases h : ∃ j, ∃ h : j < l.length, validV l[j] = false
  · have hf : (l.all validV) = false := by
      rw [Bool.eq_false_iff]; intro ha
      obtain ⟨j, hj, hv⟩ := h
      have := List.all_eq_true.1 ha l[j] (List.getElem_mem hj)
      rw [hv] at this; cases this
    unfold badAt
    cases hi : l.findIdx? (fun x => !validV x) with
    | none =>
      obtain ⟨j, hj, hv⟩ := h
      have := List.findIdx?_eq_none_iff.1 hi l[j] (List.getElem_mem hj)
      simp [hv] at this
    | some i => simp only [hf, Option.elim]; simp
  · have ha : ∀ j (h : j < l.length), validV l[j] = true := fun j hj => by
      cases hv : validV l[j] with
      | true => rfl
      | false => exact absurd ⟨j, hj, hv⟩ h
    have : l.all validV = true := List.all_eq_true.2 fun x hx => by obtain ⟨j, hj, rfl⟩ := List.getElem_of_mem hx; exact ha j hj
    rw [badAt_none ha, this]; rfl

theorem index_odd (l : List Val) (v : Value) (w : World) (hv : IsVals w v l) :
    Calls Tryz.prog 187 #[v, .func (.func 119) #[] #[]] w fun e w' => e = .returned (.int .i64 (badAt l)) ∧ Later w w' := by
  obtain ⟨p, c, rfl, hac, hcm, -, hea⟩ := hv
  unfold maxLen at hcm
  have HE := hid hea; clear hea
  go_enter Tryz.func187, Tryz.ntmps187
  go_wp2
  go_loopw [8] (fun i wr => ∃ n : Nat, n ≤ l.length ∧ i = .int .i64 n ∧ Later w wr ∧ Hid (∀ j (h : j < l.length), j < n → validV l[j] = true)) (fun i _ => l.length - (intOf i).toNat)
  case atStart => exact ⟨0, by omega, rfl, Later.refl _, fun j h h' => by omega⟩
  case round =>
    obtain ⟨n, hn1, rfl, hL, hq⟩ := hrel
    by_cases h1 : n < l.length
    · obtain ⟨b1, o1, rfl, -, e1⟩ := HE.out n h1
      obtain ⟨p1, p2, p3⟩ := e1.later hL
      clear e1
      have hb := hid (@badAt_some l n h1)
      have hx : ∃ x, x = l[n] := ⟨_, rfl⟩
      obtain ⟨x, hx⟩ := hx
      have HX := hid hx
      rw [← hx] at p1 p2 p3
      clear hx
      cases hc : validV x with
      | true =>
        have HC := hid hc
        go_wp2_with (go_at_call 119; refine (odd_any x _).mono ?_; rintro e w2 ⟨rfl, hL2⟩)
        repeat (first | replace hL2 := Later.of_drew hL2 | replace hL2 := Later.of_drewN hL2 | replace hL2 := Later.of_alloc hL2)
        go_roundw
        case rel =>
          refine ⟨n + 1, by omega, by go_num, Later.trans _ _ _ hL hL2, hid fun j h h' => ?_⟩
          by_cases hj : j = n
          · subst hj; rw [← HX.out]; exact HC.out
          · exact hq.out j h (by omega)
        case measure => simp [intOf]; omega
      | false =>
        have HC := hid hc
        go_wp2_with (go_at_call 119; refine (odd_any x _).mono ?_; rintro e w2 ⟨rfl, hL2⟩)
        repeat (first | replace hL2 := Later.of_drew hL2 | replace hL2 := Later.of_drewN hL2 | replace hL2 := Later.of_alloc hL2)
        go_ret
        exact ⟨ret_int (hb.out (by rw [← HX.out]; exact HC.out) hq.out).symm, Later.trans _ _ _ hL hL2⟩
    · have HR := hid (badAt_none (l := l) fun j h => hq.out j h (by omega))
      go_wp2
      go_ret
      exact ⟨ret_int HR.out.symm, hL⟩

theorem has_odd (l : List Val) (v : Value) (w : World) (hv : IsVals w v l) :
    Calls Tryz.prog 121 #[v, .func (.func 119) #[] #[]] w fun e w' => e = .returned (.bool (!(l.all validV))) ∧ Later w w' := by
  have HB := hid (badAt_nonneg l)
  go_enter Tryz.func121, Tryz.ntmps121
  go_wp2_with (go_at_call 187; refine (index_odd l v _ hv).mono ?_; rintro e w2 ⟨rfl, hL2⟩)
  go_ret
  exact ⟨ret_bool HB.out, hL2⟩

theorem valid_row (t : Int) (l : List Val) (v : Value) (w : World) (hv : IsVals w v l) :
    Calls Tryz.prog 49 #[.agg #[.int .i64 t, v]] w fun e w' => e = .returned (.bool (validR ⟨t, l⟩)) ∧ Later w w' := by
  have HV := hid hv
  obtain ⟨p, c, rfl, hac, hcm, -, hea⟩ := hv
  clear hea
  by_cases h0 : 0 ≤ t
  · by_cases h1 : t ≤ 1099511627776
    · by_cases h2 : l.length ≤ 8
      · have HR : Hid (validR ⟨t, l⟩ = !(!(l.all validV))) := hid (by simp [validR, h0, h1, h2])
        have h2' : decide ((l.length : Int) ≤ 8) = true := by simp; omega
        go_enter Tryz.func49, Tryz.ntmps49
        go_wp2_with (go_at_call 121; refine (has_odd l _ _ (HV.out.later (Later.alloc _ _))).mono ?_; rintro e w2 ⟨rfl, hL2⟩)
        repeat (first | replace hL2 := Later.of_drew hL2 | replace hL2 := Later.of_drewN hL2 | replace hL2 := Later.of_alloc hL2)
        go_ret
        exact ⟨ret_bool (by rw [HR.out, Bool.not_not]), hL2⟩
      · have HR : Hid (validR ⟨t, l⟩ = false) := hid (by simp [validR, h2])
        have h2' : decide ((l.length : Int) ≤ 8) = false := by simp; omega
        go_enter Tryz.func49, Tryz.ntmps49
        go_wp2
        go_ret
        exact ⟨ret_bool HR.out.symm, Later.alloc _ _⟩
    · have HR : Hid (validR ⟨t, l⟩ = false) := hid (by simp [validR, h1])
      go_enter Tryz.func49, Tryz.ntmps49
      go_wp2
      go_ret
      exact ⟨ret_bool HR.out.symm, Later.alloc _ _⟩
  · have HR : Hid (validR ⟨t, l⟩ = false) := hid (by simp [validR, h0])
    go_enter Tryz.func49, Tryz.ntmps49
    go_wp2
    go_ret
    exact ⟨ret_bool HR.out.symm, Later.alloc _ _⟩
end Go.Proofs.YtbabfibmopfghaaGreatDoor
