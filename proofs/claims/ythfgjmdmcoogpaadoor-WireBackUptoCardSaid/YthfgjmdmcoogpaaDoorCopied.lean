/-
  PROVED HERE: the contract of copied.
-/
import Derived.Test.YthfgjmdmcoogpaaDoorU8
import Derived.OwnWalk
namespace Go.Proofs.YthfgjmdmcoogpaaDoor
set_option linter.unusedSimpArgs false
set_option linter.unusedVariables false
open Go.RowKit

def CopiedTo (w : World) (l : List UInt8) (e : Ending) (w' : World) : Prop := ∃ v, e = .returned v ∧ w'.ownsRow w.heap.size 5 1 v l.length (byteCells l) ∧ Later w w'
set_option maxRecDepth 100000 in
set_option maxHeartbeats 1000000 in
theorem copied_any (v : Value) (l : List UInt8) (w : World) (h : IsBytes w v l) (hlen : l.length ≤ 281474976710656) : Calls Tryd.prog 36 #[v] w (CopiedTo w l) := by
  obtain ⟨ii, hi, hz0, hz1, hz2⟩ := info_parts infoU8
  have HI := hid hi; have HZ0 := hid hz0; have HZ1 := hid hz1; have HZ2 := hid hz2; clear hi hz0 hz1 hz2
  have HV := hid h
  obtain ⟨p, c, rfl, hl, hc, hpn, hx⟩ := h
  have HX := hid hx
  clear hx
  have hkl : IntKind.i64.wrap (l.length : Int) = l.length := IntWalk.i64_in _ (by omega)
  go_enter Tryd.func36, Tryd.ntmps36
  go_wp2_with (at_make; go_loud (refine wpList_make_full _ rfl _ _ 76 rfl w.heap.size 5 ii _ 1 Tryd.underlying76 HI.out HZ0.out HZ1.out .i64 .i64 l.length l.length l.length ?b1 ?b2 rfl rfl ?b3 ?b4 (Nat.le_refl _) ?_))
  case b1 => first | rfl | exact congrArg _ hkl
  case b2 => first | rfl | exact congrArg _ hkl
  case b3 => rw [HZ2.out]; omega
  case b4 => exact Nat.le_trans hl hc
  intro w2 hown hgrow
  have hb := owned_block hown
  have hl2 : Later w w2 := Keeps.later ((Keeps.of_grown hgrow).mono fun _ _ _ => by simp)
  obtain ⟨cur, hS, hB⟩ : ∃ cur : List Value, cur.length = l.length ∧ w2.heap[w.heap.size]? = some (.cells cur.toArray 5 (0, 0)) := ⟨_, by simpa using hown.1, hb⟩
  have HB := hid hB; have HL2 := hid hl2; have HS := hid hS
  clear hown hgrow hb hl2 hB hS
  by_cases h0 : l.length = 0
  · have hmin : Nat.min l.length l.length = 0 := by rw [h0]; rfl
    go_wp2_with (with_reducible refine wpList_copy_zero rfl _ _ 76 76 rfl 5 ii Tryd.underlying76 HI.out _ _ _ _ _ _ rfl rfl hmin ?_)
    go_ret
    refine ⟨_, rfl, ?_, HL2.out⟩
    have hle : l = [] := List.eq_nil_of_length_eq_zero h0
    subst hle
    exact ⟨rfl, .inr ⟨w.heap.size, 0, cur.toArray, rfl, Nat.le_refl _, HB.out, Nat.le_refl _, by unfold maxLen; omega, by simpa using HS.out, rfl⟩⟩
  · obtain ⟨b, o, rfl, -, -⟩ := HX.out 0 (by omega)
    go_wp2_with (refine wpList_copy_rows _ rfl _ _ 76 76 rfl 5 ii 1 Tryd.underlying76 HI.out HZ1.out w.heap.size 0 l.length l.length ⟨b, o, none⟩ l.length c rfl rfl cur.toArray _ HB.out l.length ?b1 (byteCells l) ?b2 ?b3 ?b4 (byteCells_one l) ?_)
    case b1 => exact (Nat.min_self _).symm
    case b2 => rw [byteCells_length, Nat.mul_one]
    case b3 => exact (HV.out.bytes_later HL2.out).news rfl rfl
    case b4 => have := HS.out; simp [byteCells_length]; omega
    intro w3 h3 hk3
    have hs := HS.out
    rw [List.drop_of_length_le (by rw [byteCells_length]; omega), List.append_nil] at h3
    have H3 := hid h3
    have HL3 : Hid (Later w w3) := hid (Keeps.later (((HL2.out.keeps (fun b => b ≠ w.heap.size)).trans hk3).mono fun k hk _ => by omega))
    clear h3 hs hk3
    go_wp2
    go_ret
    exact ⟨_, rfl, ⟨by rw [byteCells_length, Nat.mul_one], .inr ⟨w.heap.size, l.length, _, rfl, Nat.le_refl _, H3.out, Nat.le_refl _, Nat.le_trans hl hc, by simp [byteCells_length], by rw [Nat.mul_one]; exact List.take_of_length_le (by simp [byteCells_length])⟩⟩, HL3.out⟩
end Go.Proofs.YthfgjmdmcoogpaaDoor
