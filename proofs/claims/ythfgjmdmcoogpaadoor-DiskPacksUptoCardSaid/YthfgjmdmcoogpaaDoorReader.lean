/-
  PROVED HERE: the contracts of wire.Reader: take, Int, Text.
-/
import Derived.Test.YthfgjmdmcoogpaaDoorReadPlain
import Derived.Test.YthfgjmdmcoogpaaDoorFrame
import Derived.Test.YthfgjmdmcoogpaaDoorU8
import Derived.Test.YthfgjmdmcoogpaaDoorShowLaws
import Derived.OwnWalk
import Derived.Lib.SliceRun
namespace Go.Proofs.YthfgjmdmcoogpaaDoor
set_option linter.unusedSimpArgs false
set_option linter.unusedVariables false
open Go.RowKit

theorem run_eql_nil8 (w : World) (a : Option Addr) (n c : Nat) : (binOp .eql 76 (.slice a n c) (.slice none 0 0)).run Tryd.prog w = .ok (.bool a.isNone) w := Lib.run_eql_slice_nil w _ _ a n c 0 0 Tryd.underlying76
/-- a reader of bytes in memory: what is left, and whether something was not as it should be. -/
def RdB (w : World) (R : Nat) (bad : Bool) (l : List UInt8) : Prop :=
  ∃ v, w.heap[R]? = some (.cells #[v, .bool bad] 189 (0, 0)) ∧ BytesIn (fun b => b < R) w v l
theorem RdB.later {w w' : World} {R : Nat} {bad : Bool} {l : List UInt8} (h : RdB w R bad l) (k : Later w w') : RdB w' R bad l := let ⟨v, h1, h2⟩ := h; ⟨v, k.obj h1, h2.bytes_later k⟩
theorem RdB.lt {w : World} {R : Nat} {bad : Bool} {l : List UInt8} (h : RdB w R bad l) : R < w.heap.size := let ⟨_, h1, _⟩ := h; (Array.getElem?_eq_some_iff.1 h1).1
theorem RdB.fail {w : World} {R : Nat} {bad : Bool} {l : List UInt8} (h : RdB w R bad l) : RdB (w.setCell ⟨R, 1, none⟩ (.bool true)) R true l ∧ Keeps (fun b => b ≠ R) w (w.setCell ⟨R, 1, none⟩ (.bool true)) := by
  obtain ⟨v, h1, h2⟩ := h
  have hk : Keeps (fun b => b ≠ R) w (w.setCell ⟨R, 1, none⟩ (.bool true)) := (Keeps.refl _ _).setCell (.inl (by simp)) _
  exact ⟨⟨v, obj_setCell (i := 1) h1 _, h2.bytes_kept hk fun _ hb => Nat.ne_of_lt hb⟩, hk⟩
theorem RdB.put {w : World} {R : Nat} {bad : Bool} {l : List UInt8} (h : RdB w R bad l) (b : Bool) : RdB (w.setCell ⟨R, 1, none⟩ (.bool b)) R b l ∧ Keeps (fun b => b ≠ R) w (w.setCell ⟨R, 1, none⟩ (.bool b)) := by
  obtain ⟨v, h1, h2⟩ := h
  have hk : Keeps (fun b => b ≠ R) w (w.setCell ⟨R, 1, none⟩ (.bool b)) := (Keeps.refl _ _).setCell (.inl (by simp)) _
  exact ⟨⟨v, obj_setCell (i := 1) h1 _, h2.bytes_kept hk fun _ hb => Nat.ne_of_lt hb⟩, hk⟩
/-- another block, a later one, is written. -/
theorem RdB.other {w : World} {R : Nat} {bad : Bool} {l : List UInt8} (h : RdB w R bad l) {p : Addr} (hp : R < p.block) (v : Value) : RdB (w.setCell p v) R bad l := by
  obtain ⟨u, h1, h2⟩ := h
  have hk : Keeps (fun b => b ≤ R) w (w.setCell p v) := (Keeps.refl _ _).setCell (.inl (by omega)) _
  exact ⟨u, hk.obj (Nat.le_refl _) h1, h2.bytes_kept hk fun _ hb => Nat.le_of_lt hb⟩
theorem RdB.others {w : World} {R : Nat} {bad : Bool} {l : List UInt8} (h : RdB w R bad l) {T : Nat} (hp : R < T) (x y z : Value) : RdB (((w.setCell ⟨T, 0, none⟩ x).setCell ⟨T, 1, none⟩ y).setCell ⟨T, 2, none⟩ z) R bad l := ((h.other hp x).other hp y).other hp z
theorem keeps_others {S : Nat → Prop} {w w1 : World} {T : Nat} (hk : Keeps S w w1) (hT : w.heap.size ≤ T) (x y z : Value) : Keeps S w (((w1.setCell ⟨T, 0, none⟩ x).setCell ⟨T, 1, none⟩ y).setCell ⟨T, 2, none⟩ z) := ((hk.setCell (.inr hT) x).setCell (.inr hT) y).setCell (.inr hT) z
/-- what 'take' comes to, where there is enough. -/
def TookTo (w : World) (R n : Nat) (l : List UInt8) (e : Ending) (w' : World) : Prop :=
  ∃ v, e = .returned v ∧ BytesIn (fun b => b < R) w' v (l.take n) ∧ RdB w' R false (l.drop n) ∧ Keeps (fun b => b ≠ R) w w'
def FailTo (w : World) (R : Nat) (r : Value) (l : List UInt8) (e : Ending) (w' : World) : Prop := e = .returned r ∧ RdB w' R true l ∧ Keeps (fun b => b ≠ R) w w'

set_option maxHeartbeats 1000000 in
theorem take_no (R : Nat) (bad : Bool) (n : Int) (l : List UInt8) (w : World) (h : RdB w R bad l) (hn : bad = true ∨ n < 0 ∨ (l.length : Int) < n) :
    Calls Tryd.prog 113 #[.pointer (some ⟨R, 0, none⟩), .int .i64 n] w (FailTo w R (.slice none 0 0) l) := by
  have HF := hid h.fail
  obtain ⟨v, ho, a, c, rfl, -⟩ := h
  have r0 := cell_obj (i := 0) ho rfl
  have r1 := cell_obj (i := 1) ho rfl
  have z1 := free_obj (i := 1) ho
  clear ho
  cases bad with
  | true =>
    go_enter Tryd.func113, Tryd.ntmps113
    go_wp2_with fail
    go_ret
    exact ⟨rfl, HF.out.1, HF.out.2⟩
  | false =>
    by_cases h0 : n < 0
    ·
      go_enter Tryd.func113, Tryd.ntmps113
      go_wp2_with fail
      go_ret
      exact ⟨rfl, HF.out.1, HF.out.2⟩
    · have h1 : (l.length : Int) < n := by
        rcases hn with hn | hn | hn
        · cases hn
        · exact absurd hn h0
        · exact hn
      go_enter Tryd.func113, Tryd.ntmps113
      go_wp2_with fail
      go_ret
      exact ⟨rfl, HF.out.1, HF.out.2⟩

set_option maxHeartbeats 1000000 in
theorem take_yes (R : Nat) (n : Nat) (l : List UInt8) (w : World) (h : RdB w R false l) (hn : n ≤ l.length) :
    Calls Tryd.prog 113 #[.pointer (some ⟨R, 0, none⟩), .int .i64 n] w (TookTo w R n l) := by
  obtain ⟨v, ho, hb⟩ := h
  have HB := hid hb
  have HO := hid ho
  obtain ⟨a, c, rfl, hlc, hcm, hnc, -⟩ := hb
  unfold maxLen at hcm
  have r0 := cell_obj (i := 0) ho rfl
  have r1 := cell_obj (i := 1) ho rfl
  have z0 := free_obj (i := 0) ho
  have hn0 : (0 : Int) ≤ n := by omega
  clear ho
  have HK : ∀ x, Hid (Keeps (fun b => b ≠ R) w (w.setCell ⟨R, 0, none⟩ x)) := fun x => hid ((Keeps.refl _ _).setCell (.inl (by simp)) _)
  have fin : ∀ x y, BytesIn (fun b => b < R) w x (l.take n) → BytesIn (fun b => b < R) w y (l.drop n) → TookTo w R n l (.returned x) (w.setCell ⟨R, 0, none⟩ y) := fun x y hx hy =>
    ⟨x, rfl, hx.bytes_kept (HK y).out fun _ hb => Nat.ne_of_lt hb, ⟨y, obj_setCell (i := 0) HO.out y, hy.bytes_kept (HK y).out fun _ hb => Nat.ne_of_lt hb⟩, (HK y).out⟩
  have FIN := hid fin
  clear fin
  by_cases h0 : l = []
  · have HL0 := hid h0
    obtain rfl : n = 0 := by rw [h0] at hn; simpa using hn
    have hl0 : l.length = 0 := by rw [h0]; rfl
    clear h0
    have HE : ∀ a' c', c' ≤ c → (a' = none → c' = 0) → Hid (BytesIn (fun b => b < R) w (.slice a' 0 c') []) := fun a' c' h1 h2 => hid (bytes_empty _ _ _ _ (by unfold maxLen; omega) h2)
    cases a with
    | none =>
      obtain rfl : c = 0 := hnc rfl
      go_enter Tryd.func113, Tryd.ntmps113
      go_wp2_with fail
      go_ret
      exact FIN.out _ _ (by rw [HL0.out]; exact (HE none 0 (by omega) (fun _ => rfl)).out) (by rw [HL0.out]; exact (HE none 0 (by omega) (fun _ => rfl)).out)
    | some ad =>
      have hx : ad.add 0 = ad := by unfold Addr.add; simp
      by_cases hc : 0 < c
      ·
        go_enter Tryd.func113, Tryd.ntmps113
        go_wp2_with fail
        go_ret
        exact FIN.out _ _ (by rw [HL0.out]; exact (HE _ _ (Nat.le_refl _) (fun h => by cases h)).out) (by rw [HL0.out]; exact (HE _ _ (by omega) (fun h => by cases h)).out)
      · obtain rfl : c = 0 := by omega
        go_enter Tryd.func113, Tryd.ntmps113
        go_wp2_with fail
        go_ret
        exact FIN.out _ _ (by rw [HL0.out]; exact (HE _ _ (Nat.le_refl _) (fun h => by cases h)).out) (by rw [HL0.out]; exact (HE _ _ (by omega) (fun h => by cases h)).out)
  · have hpos : 0 < l.length := List.length_pos_iff.2 h0
    obtain ⟨a9, c9, e1, -, -, -, hel⟩ := HB.out
    simp only [Value.slice.injEq] at e1
    obtain ⟨rfl, -, rfl⟩ := e1
    obtain ⟨b, o, rfl, -, -⟩ := hel 0 hpos
    have HT : Hid (BytesIn (fun b => b < R) w (.slice (some ⟨b, o, none⟩) n c) (l.take n)) := hid (by
      have h1 := HB.out
      rw [← List.take_append_drop n l] at h1
      have h2 := bytes_prefix h1
      rw [List.length_take, Nat.min_eq_left hn] at h2
      exact h2)
    clear hel h0
    by_cases hc : n < c
    · have HD := hid (bytes_from HB.out hc hn)
      go_enter Tryd.func113, Tryd.ntmps113
      go_wp2_with fail
      go_ret
      exact FIN.out _ _ HT.out HD.out
    · obtain rfl : n = c := by omega
      have HD : Hid (BytesIn (fun b => b < R) w (.slice (some ⟨b, o, none⟩) 0 0) (l.drop n)) := hid (by
        rw [List.drop_of_length_le hlc]
        exact bytes_empty _ _ _ _ (by omega) (fun h => by cases h))
      go_enter Tryd.func113, Tryd.ntmps113
      go_wp2_with fail
      go_ret
      exact FIN.out _ _ HT.out HD.out
end Go.Proofs.YthfgjmdmcoogpaaDoor
