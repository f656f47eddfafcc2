/-
  PROVED HERE: the contracts of wire.Reader.Text, wire.Reader.Value.
-/
import Derived.Test.YthfgjmdmcoogpaaDoorReaderInt
import Derived.Test.YthfgjmdmcoogpaaDoorValid
namespace Go.Proofs.YthfgjmdmcoogpaaDoor
set_option linter.unusedSimpArgs false
set_option linter.unusedVariables false
open Go.RowKit

attribute [local go_sem] run_eql_nil8
set_option maxHeartbeats 1000000 in
theorem read_int_bad (R : Nat) (l : List UInt8) (w : World) (h : RdB w R true l) : Calls Tryd.prog 84 #[.pointer (some ⟨R, 0, none⟩)] w (FailTo w R (.int .i64 0) l) := by
  have HR := hid h
  clear h
  go_enter Tryd.func84, Tryd.ntmps84
  go_wp2_with fail
  obtain ⟨R1, hR1⟩ : ∃ RR_ : (Nat → Value) → World → Prop, RR_ = (fun us wx => us 4 = .int .i64 0 ∧ us 3 = .int .u64 0 ∧ wx = w) := ⟨_, rfl⟩
  obtain ⟨mu1, hmu1⟩ : ∃ mu : (Nat → Value) → World → Nat, mu = (fun _ _ => 0) := ⟨_, rfl⟩
  have HR1 := hid hR1; have Hmu1 := hid hmu1; clear hR1 hmu1
  refine wp_loop_frame' [false, false, true, true, true, true, true, true, true, true, true, true, true, true, true, true, true, true, true, true, true, true, true, true, true, true, true, true, true, true, true, true, true, true, true, true, true, true, true, true, true, true, true, true, true, true, true, true, true, true, true, true, true, true, true, true, true, true] R1 _ mu1 HR1.out ?_ ?_
  · exact ⟨rfl, rfl, rfl⟩
  intro us1 wx hrel
  obtain ⟨h4, h3, rfl⟩ := hrel
  simp only [frameOf, Nat.reduceAdd, h4, h3]
  have Hh4 := hid h4; clear h4
  have Hh3 := hid h3; clear h3
  go_wp2_with fail
  refine (take_no R true 1 _ _ HR.out (.inl rfl)).mono ?_
  rintro e w1 ⟨rfl, hr1, hk1⟩
  have HR2 := hid hr1
  have HK2 := hid hk1
  clear hr1 hk1
  go_wp2_with fail
  go_ret
  exact ⟨rfl, HR2.out, HK2.out⟩

/-- what Text comes to. -/
def TextTo (w : World) (R : Nat) (l : List UInt8) (e : Ending) (w' : World) : Prop :=
  Keeps (fun b => b ≠ R) w w' ∧ match dText l with
    | some (t, r) => e = .returned (.string t) ∧ RdB w' R false r
    | none => e = .returned (.string ⟨#[]⟩) ∧ ∃ r, RdB w' R true r
theorem textTo_no {w w' : World} {R : Nat} {l r : List UInt8} {e : Ending} (h : dText l = none) (he : e = .returned (.string ⟨#[]⟩)) (hr : RdB w' R true r) (hk : Keeps (fun b => b ≠ R) w w') : TextTo w R l e w' := by
  unfold TextTo
  rw [h]
  exact ⟨hk, he, r, hr⟩
theorem textTo_yes {w w' : World} {R : Nat} {l r : List UInt8} {t : ByteArray} {e : Ending} (h : dText l = some (t, r)) (he : e = .returned (.string t)) (hr : RdB w' R false r) (hk : Keeps (fun b => b ≠ R) w w') : TextTo w R l e w' := by
  unfold TextTo
  rw [h]
  exact ⟨hk, he, hr⟩
theorem nil_string (w : World) : (Go.convert 76 9 (.slice none 0 0)).run Tryd.prog w = .ok (.string ⟨#[]⟩) w := (bytes_nil (fun _ => True) w).string (src := 76) (dst := 9) Tryd.underlying76 Tryd.underlying5 Tryd.underlying9

set_option maxHeartbeats 1000000 in
theorem read_text (R : Nat) (l : List UInt8) (w : World) (h : RdB w R false l) : Calls Tryd.prog 86 #[.pointer (some ⟨R, 0, none⟩)] w (TextTo w R l) := by
  have HR := hid h
  clear h
  go_enter Tryd.func86, Tryd.ntmps86
  go_wp2_with fail
  refine (read_int R l _ HR.out).mono ?_
  rintro e w1 ⟨hk, hT⟩
  have HK := hid hk
  clear hk
  cases hd : dInt l with
  | none =>
    rw [hd] at hT
    obtain ⟨rfl, r, hr⟩ := hT
    have HR1 := hid hr
    have HD : Hid (dText l = none) := hid (by unfold dText; rw [hd])
    clear hr hd
    go_wp2_with fail
    refine (take_no R true 0 _ _ HR1.out (.inl rfl)).mono ?_
    rintro e w2 ⟨rfl, hr2, hk2⟩
    have HR2 := hid hr2
    have HK2 := hid (HK.out.trans hk2)
    have hcv := nil_string w2
    clear hr2 hk2
    go_wp2_with fail
    go_ret
    exact textTo_no HD.out rfl HR2.out HK2.out
  | some p =>
    obtain ⟨n, r⟩ := p
    rw [hd] at hT
    obtain ⟨rfl, hr⟩ := hT
    have HR1 := hid hr
    by_cases hn : n < 0 ∨ (r.length : Int) < n
    · have HD : Hid (dText l = none) := hid (by unfold dText; rw [hd]; simp only []; rw [if_pos hn])
      have HN := hid hn
      clear hr hd hn
      go_wp2_with fail
      refine (take_no R false n _ _ HR1.out (.inr HN.out)).mono ?_
      rintro e w2 ⟨rfl, hr2, hk2⟩
      have HR2 := hid hr2
      have HK2 := hid (HK.out.trans hk2)
      have hcv := nil_string w2
      clear hr2 hk2
      go_wp2_with fail
      go_ret
      exact textTo_no HD.out rfl HR2.out HK2.out
    · have HD : Hid (dText l = some (strB (r.take n.toNat), r.drop n.toNat)) := hid (by unfold dText; rw [hd]; simp only []; rw [if_neg hn])
      obtain ⟨m, rfl⟩ : ∃ m : Nat, n = m := ⟨n.toNat, by omega⟩
      have hm : m ≤ r.length := by omega
      clear hr hd hn
      go_wp2_with fail
      refine (take_yes R m _ _ HR1.out hm).mono ?_
      rintro e w2 ⟨v, rfl, hb, hr2, hk2⟩
      have HR2 := hid hr2
      have HK2 := hid (HK.out.trans hk2)
      have hcv := hb.string (src := 76) (dst := 9) Tryd.underlying76 Tryd.underlying5 Tryd.underlying9
      clear hr2 hk2 hb
      go_wp2_with fail
      go_ret
      exact textTo_yes HD.out rfl HR2.out HK2.out

/-- what stands behind a kind's byte. -/
def dFill (k : Int) (l : List UInt8) : Option (Val × List UInt8) :=
  if k = 1 ∨ k = 2 then (dInt l).map fun p => (⟨k, p.1, ⟨#[]⟩⟩, p.2)
  else if k = 3 then (dText l).map fun p => (⟨k, 0, p.1⟩, p.2)
  else some (⟨k, 0, ⟨#[]⟩⟩, l)
def dVal : List UInt8 → Option (Val × List UInt8)
  | [] => none
  | c :: r => match dFill c.toNat r with
    | none => none
    | some (v, r') => if validV v then some (v, r') else none
def zeroV : Val := ⟨0, 0, ⟨#[]⟩⟩
/-- what Value comes to. -/
def ValueTo (w : World) (R : Nat) (l : List UInt8) (e : Ending) (w' : World) : Prop :=
  Keeps (fun b => b ≠ R) w w' ∧ match dVal l with
    | some (x, r) => e = .returned x.v ∧ RdB w' R false r
    | none => e = .returned zeroV.v ∧ ∃ r, RdB w' R true r
theorem valueTo_no {w w' : World} {R : Nat} {l r : List UInt8} {e : Ending} (h : dVal l = none) (he : e = .returned zeroV.v) (hr : RdB w' R true r) (hk : Keeps (fun b => b ≠ R) w w') : ValueTo w R l e w' := by
  unfold ValueTo
  rw [h]
  exact ⟨hk, he, r, hr⟩
theorem valueTo_yes {w w' : World} {R : Nat} {l r : List UInt8} {x : Val} {e : Ending} (h : dVal l = some (x, r)) (he : e = .returned x.v) (hr : RdB w' R false r) (hk : Keeps (fun b => b ≠ R) w w') : ValueTo w R l e w' := by
  unfold ValueTo
  rw [h]
  exact ⟨hk, he, hr⟩
end Go.Proofs.YthfgjmdmcoogpaaDoor
