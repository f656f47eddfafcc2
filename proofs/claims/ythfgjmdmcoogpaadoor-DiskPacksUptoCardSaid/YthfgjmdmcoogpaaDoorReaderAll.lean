/-
  PROVED HERE: the contract of wire.Rows.
-/
import Derived.Test.YthfgjmdmcoogpaaDoorReaderRows
namespace Go.Proofs.YthfgjmdmcoogpaaDoor
set_option linter.unusedSimpArgs false
set_option linter.unusedVariables false
open Go.RowKit

/-- rows, and nothing behind them. -/
def dAll (l : List UInt8) : Option (List Row) :=
  match dRows l with
  | some (xs, []) => some xs
  | _ => none
theorem dAll_some {l : List UInt8} {xs : List Row} (h : dRows l = some (xs, [])) : dAll l = some xs := by unfold dAll; rw [h]
theorem dAll_none {l : List UInt8} (h : ∀ xs, dRows l ≠ some (xs, [])) : dAll l = none := by
  unfold dAll
  split
  · rename_i xs hx; exact absurd hx (h xs)
  · rfl
def REndTo (w : World) (bad : Bool) (l : List UInt8) (e : Ending) (w' : World) : Prop := e = .returned (.bool (!bad && l.isEmpty)) ∧ w' = w
theorem read_end (R : Nat) (bad : Bool) (l : List UInt8) (w : World) (h : RdB w R bad l) : Calls Tryd.prog 75 #[.pointer (some ⟨R, 0, none⟩)] w (REndTo w bad l) := by
  obtain ⟨v, ho, a, c, rfl, hlc, hcm, -⟩ := h
  have r0 := cell_obj (i := 0) ho rfl
  have r1 := cell_obj (i := 1) ho rfl
  clear ho
  have hlen : l.length ≤ 9223372036854775807 := by unfold maxLen at hcm; omega
  cases bad with
  | true =>
    go_enter Tryd.func75, Tryd.ntmps75
    go_wp2_with fail
    go_ret
    exact ⟨rfl, rfl⟩
  | false =>
    cases l with
    | nil =>
      go_enter Tryd.func75, Tryd.ntmps75
      go_wp2_with fail
      go_ret
      exact ⟨rfl, rfl⟩
    | cons x l =>
      have hne : ¬ (((x :: l).length : Nat) : Int) = 0 := by simp only [List.length_cons]; omega
      generalize hL : (x :: l).length = L at *
      go_enter Tryd.func75, Tryd.ntmps75
      go_wp2_with fail
      go_ret
      exact ⟨ret_bool (by simp only [List.isEmpty_cons, Bool.and_false]; exact beq_false_of_ne hne), rfl⟩

def RNewTo (w : World) (l : List UInt8) (e : Ending) (w' : World) : Prop := ∃ R, e = .returned (.pointer (some ⟨R, 0, none⟩)) ∧ RdB w' R false l ∧ w.heap.size ≤ R ∧ Later w w'
theorem read_new (v : Value) (l : List UInt8) (w : World) (h : IsBytes w v l) : Calls Tryd.prog 73 #[v] w (RNewTo w l) := by
  have hb := SliceOf.blt h
  have HB := hid hb
  obtain ⟨a, c, rfl, -⟩ := hb
  clear h
  go_enter Tryd.func73, Tryd.ntmps73
  go_wp2_with fail
  go_ret
  exact ⟨_, rfl, ⟨_, obj_new _ _, HB.out.bytes_later (Later.alloc _ _)⟩, Nat.le_refl _, Later.alloc _ _⟩

/-- what wire.Rows comes to. -/
def AllTo (w : World) (l : List UInt8) (e : Ending) (w' : World) : Prop :=
  Later w w' ∧ match dAll l with
    | some xs => ∃ v, e = .returned (.tuple #[v, .nilIface]) ∧ RowsOwnF w.heap.size w' v xs
    | none => e = .returned (.tuple #[.slice none 0 0, .iface 33 (.int .i64 7)])
theorem RowsOwnF.lower {B B' : Nat} {w : World} {sv : Value} {rs : List Row} (h : RowsOwnF B w sv rs) (hB : B' ≤ B) : RowsOwnF B' w sv rs := by
  obtain ⟨vs, hl, ho, hv⟩ := h
  exact ⟨vs, hl, ⟨ho.1, ho.2.imp id fun ⟨g, cap, cur, h1, h2, h3⟩ => ⟨g, cap, cur, h1, Nat.le_trans hB h2, h3⟩⟩, fun i hi => (hv i hi).o_mono fun b hb => ⟨Nat.le_trans hB hb.1, hb.2⟩⟩
theorem keeps_later {w w1 w2 : World} {R : Nat} (h : Later w w1) (k : Keeps (fun b => b ≠ R) w1 w2) (hR : w.heap.size ≤ R) : Later w w2 :=
  (((h.keeps (fun b => b < w.heap.size)).trans (k.mono fun _ _ hb => by omega)).mono (S' := fun _ => True) fun _ hk _ => hk).later

set_option maxHeartbeats 1000000 in
theorem rows_all (v : Value) (l : List UInt8) (w : World) (h : IsBytes w v l) (hl : l.length ≤ 1099511627776) : Calls Tryd.prog 35 #[v] w (AllTo w l) := by
  have HV := hid h
  have HL := hid hl
  clear h hl
  go_enter Tryd.func35, Tryd.ntmps35
  go_wp2_with fail
  refine (read_new v l _ HV.out).mono ?_
  rintro e w1 ⟨R, rfl, hr, hR, hL1⟩
  have HR1 := hid hr
  have HRR := hid hR
  have HL1 := hid hL1
  clear hr hR hL1
  go_wp2_with fail
  refine (read_rows R l _ HR1.out HL.out).mono ?_
  rintro e w2 ⟨hk, hT⟩
  have HL2 := hid (keeps_later HL1.out hk HRR.out)
  clear hk
  cases hd : dRows l with
  | none =>
    rw [hd] at hT
    obtain ⟨v2, r2, rfl, hr2⟩ := hT
    have HR2 := hid hr2
    have HA : Hid (dAll l = none) := hid (dAll_none fun xs h => by rw [hd] at h; cases h)
    clear hr2 hd
    go_wp2_with fail
    refine (read_end R true r2 _ HR2.out).mono ?_
    rintro e w3 ⟨rfl, rfl⟩
    go_wp2_with fail
    go_ret2
    refine ⟨HL2.out, ?_⟩
    rw [HA.out]
    rfl
  | some p =>
    obtain ⟨xs, r2⟩ := p
    rw [hd] at hT
    obtain ⟨v2, rfl, ho, hr2⟩ := hT
    have HR2 := hid hr2
    have HO := hid (ho.lower HL1.out.size)
    have HD := hid hd
    clear hr2 ho hd
    go_wp2_with fail
    refine (read_end R false r2 _ HR2.out).mono ?_
    rintro e w3 ⟨rfl, rfl⟩
    cases r2 with
    | nil =>
      go_wp2_with fail
      go_ret2
      refine ⟨HL2.out, ?_⟩
      rw [dAll_some HD.out]
      exact ⟨v2, rfl, HO.out⟩
    | cons c r2 =>
      have HA : Hid (dAll l = none) := hid (dAll_none fun xs h => by rw [HD.out] at h; cases h)
      go_wp2_with fail
      go_ret2
      refine ⟨HL2.out, ?_⟩
      rw [HA.out]
      rfl
end Go.Proofs.YthfgjmdmcoogpaaDoor
