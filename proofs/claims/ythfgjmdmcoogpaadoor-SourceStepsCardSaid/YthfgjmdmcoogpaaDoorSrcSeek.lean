/-
  PROVED HERE: the contracts of At, Time, Seek of source.Reader.
-/
import Derived.Test.YthfgjmdmcoogpaaDoorSrcPlain
import Derived.Test.YthfgjmdmcoogpaaDoorFrame
import Derived.OwnWalk
namespace Go.Proofs.YthfgjmdmcoogpaaDoor
set_option linter.unusedSimpArgs false
set_option linter.unusedVariables false
open Go.RowKit

def AtTo (w : World) (s : Src) (e : Ending) (w' : World) : Prop := e = .returned (.int .i64 s.at_) ∧ w = w'
theorem at_any {S0 : Nat → Prop} (R : Nat) (s : Src) (w : World) (h : RdrAt S0 w R s) : Calls Tryd.prog 20 #[.pointer (some ⟨R, 0, none⟩)] w (AtTo w s) := by
  obtain ⟨sv, ho, a, c, rfl, -⟩ := h
  have r4 := cell_obj (i := 2) ho rfl
  clear ho
  go_enter Tryd.func20, Tryd.ntmps20
  go_wp2
  go_ret
  exact ⟨rfl, rfl⟩
def RdTimeTo (w : World) (s : Src) (e : Ending) (w' : World) : Prop := e = .returned (.int .i64 s.time) ∧ w = w'
theorem rdtime_any {S0 : Nat → Prop} (R : Nat) (s : Src) (w : World) (h : RdrAt S0 w R s) : Calls Tryd.prog 21 #[.pointer (some ⟨R, 0, none⟩)] w (RdTimeTo w s) := by
  obtain ⟨sv, ho, a, c, rfl, -⟩ := h
  have r4 := cell_obj (i := 3) ho rfl
  clear ho
  go_enter Tryd.func21, Tryd.ntmps21
  go_wp2
  go_ret
  exact ⟨rfl, rfl⟩
/-- the number in a cell of an object. -/
def numCell (w : World) (R i : Nat) : Nat := match w.cell? ⟨R, i, none⟩ with | some v => (intOf v).toNat | none => 0
theorem numCell_of {w : World} {R i : Nat} {k : Int} (h : w.cell? ⟨R, i, none⟩ = some (.int .i64 k)) : numCell w R i = k.toNat := by simp [numCell, h, intOf]
theorem numCell_rdr {S0 : Nat → Prop} {w : World} {R : Nat} {s : Src} (h : RdrAt S0 w R s) : numCell w R 2 = s.at_ := by
  obtain ⟨sv, ho, -⟩ := h
  rw [numCell_of (cell_obj (i := 2) ho rfl)]
  simp
def SeekTo (S0 : Nat → Prop) (w : World) (R : Nat) (rows : List Row) (bound : Int) (k : Int) (e : Ending) (w' : World) : Prop :=
  if k < 0 ∨ (rows.length : Int) + 1 < k then e = .returned (.iface 33 (.int .i64 4)) ∧ w' = w
  else e = .returned .nilIface ∧ RdrAt S0 w' R (srcN rows bound k.toNat) ∧ Keeps (fun b => b ≠ R) w w'
set_option maxHeartbeats 2000000 in
theorem seek_any {S0 : Nat → Prop} (R : Nat) (s : Src) (rows : List Row) (bound k : Int) (w : World) (h : RdrAt S0 w R s) (hr : s.rows = rows) (hb : s.bound = bound) (hok : SrcOk rows bound) :
    Calls Tryd.prog 16 #[.pointer (some ⟨R, 0, none⟩), .int .i64 k] w (SeekTo S0 w R rows bound k) := by
  subst hr hb
  have hlen := hok.len
  have HOK := hid hok
  obtain ⟨sv, ho, hrows⟩ := h
  obtain ⟨a, c, rfl, hx⟩ := hrows
  have HRS : Hid (RowsIn (fun b => R < b ∧ S0 b) w (.slice a s.rows.length c) s.rows) := hid ⟨a, c, rfl, hx⟩
  have r0 := cell_obj (i := 0) ho rfl
  have HO := hid ho
  have hkl : IntKind.i64.wrap ((s.rows.length : Int) + 1) = (s.rows.length : Int) + 1 := IntWalk.i64_in _ (by omega)
  clear hok hx
  by_cases h0 : k < 0
  · clear ho
    go_enter Tryd.func16, Tryd.ntmps16
    go_wp2_with fail
    go_ret
    exact (if_pos (.inl h0)).mpr ⟨rfl, rfl⟩
  by_cases h1 : (s.rows.length : Int) + 1 < k
  · clear ho
    go_enter Tryd.func16, Tryd.ntmps16
    go_wp2_with fail
    go_ret
    exact (if_pos (.inr h1)).mpr ⟨rfl, rfl⟩
  obtain ⟨n, rfl⟩ := Int.eq_ofNat_of_zero_le (show 0 ≤ k by omega)
  have HN : Hid (¬ ((n : Int) < 0 ∨ (s.rows.length : Int) + 1 < n)) := hid (by omega)
  have z2 := free_obj (i := 2) ho
  have z3 := free_obj (i := 3) ho
  have z4 := free_obj (i := 4) ho
  have r2 := cell_obj (i := 2) ho rfl
  have r3 := cell_obj (i := 3) ho rfl
  have r4 := cell_obj (i := 4) ho rfl
  clear ho
  go_enter Tryd.func16, Tryd.ntmps16
  go_upto_region 4 with (fail)
  have HRQ : Hid (RdrAt S0 (((w.setCell ⟨R, 2, none⟩ (.int .i64 0)).setCell ⟨R, 3, none⟩ (.int .i64 (-1))).setCell ⟨R, 4, none⟩ (.int .i64 0)) R (srcN s.rows s.bound 0)) :=
    hid ⟨_, obj_setCell (i := 4) (obj_setCell (i := 3) (obj_setCell (i := 2) HO.out _) _) _, HRS.out.rows_kept (S' := fun b => b ≠ R) ((((Keeps.refl _ _).setCell (.inl (by simp)) _).setCell (.inl (by simp)) _).setCell (.inl (by simp)) _) (fun b hb => by omega)⟩
  have HK1 : Hid (Keeps (fun b => b ≠ R) w (((w.setCell ⟨R, 2, none⟩ (.int .i64 0)).setCell ⟨R, 3, none⟩ (.int .i64 (-1))).setCell ⟨R, 4, none⟩ (.int .i64 0))) :=
    hid ((((Keeps.refl _ _).setCell (.inl (by simp)) _).setCell (.inl (by simp)) _).setCell (.inl (by simp)) _)
  generalize ((w.setCell ⟨R, 2, none⟩ (.int .i64 0)).setCell ⟨R, 3, none⟩ (.int .i64 (-1))).setCell ⟨R, 4, none⟩ (.int .i64 0) = w1 at *
  clear r0 r2 r3 r4 z2 z3 z4 HO HRS
  obtain ⟨R1, hR1⟩ : ∃ RR_ : (Nat → Value) → World → Prop, RR_ = (fun us wx => ∃ j : Nat, j ≤ n ∧ RdrAt S0 wx R (srcN s.rows s.bound j) ∧ Keeps (fun b => b ≠ R) w wx) := ⟨_, rfl⟩
  obtain ⟨mu1, hmu1⟩ : ∃ mu : (Nat → Value) → World → Nat, mu = (fun _ wx => n - numCell wx R 2) := ⟨_, rfl⟩
  have HR1 := hid hR1; have Hmu1 := hid hmu1; clear hR1 hmu1
  refine wp_loop_frame' [false, false, false, false, false, false, false, false, false, false, false, false, false, false, false, false, false, false, false, false, false, false, false, false, false, false, false, true, true, true, true, true, true, true, true] R1 _ mu1 HR1.out ?_ ?_
  · exact ⟨0, by omega, HRQ.out, HK1.out⟩
  intro us1 wx hrel
  obtain ⟨j, hj, hrd, hkx⟩ := hrel
  simp only [frameOf, Nat.reduceAdd]
  have hIs := srcN_is HOK.out j (by omega)
  have HMU : Hid (numCell wx R 2 = j) := hid ((numCell_rdr hrd).trans hIs.at_)
  have HRD := hid hrd
  have HKX := hid hkx
  have HIS := hid hIs
  have r2 : wx.cell? ⟨R, 2, none⟩ = some (.int .i64 j) := by
    obtain ⟨sv, ho, -⟩ := hrd
    have := cell_obj (i := 2) ho rfl
    rw [← hIs.at_]; exact this
  clear hrd hkx hIs
  by_cases hlt : j < n
  · go_wp2_with fail
    refine (take_any R _ _ HRD.out (HIS.out.ok HOK.out (by omega))).mono ?_
    rintro e w2 ⟨v2, rfl, hr2, -, hk2⟩
    have HR2 : Hid (RdrAt S0 w2 R (srcN s.rows s.bound (j + 1))) := hid hr2
    have HK2 := hid (HKX.out.trans hk2)
    have HM2 : Hid (numCell w2 R 2 = j + 1) := hid ((numCell_rdr HR2.out).trans (srcN_is HOK.out (j + 1) (by omega)).at_)
    clear hr2 hk2 r2
    go_wp2_with fail
    refine Round.mk' HR1.out Hmu1.out rfl ?_ ?_
    · exact ⟨j + 1, by omega, HR2.out, HK2.out⟩
    · rw [HMU.out, HM2.out]; omega
  · obtain rfl : j = n := by omega
    go_wp2_with fail
    go_ret
    exact (if_neg HN.out).mpr ⟨rfl, HRD.out, HKX.out⟩
end Go.Proofs.YthfgjmdmcoogpaaDoor
