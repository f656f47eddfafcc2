/-
  PROVED HERE: the contracts of wire.Reader: take, Int, Text.
  PROVED HERE: the contract of wire.Reader.Int.
  PROVED HERE: the contracts of wire.Reader.Text, wire.Reader.Value.
  PROVED HERE: the contract of wire.Reader.Value.
  PROVED HERE: in plain Lean: a value that is written is read to the same. No program of its own.
  PROVED HERE: the contract of wire.NewReader.
-/
import Derived.Test.YtcmpjdnbjhkhdaaDoorReadPlain
import Derived.Test.YtcmpjdnbjhkhdaaDoorFrame
import Derived.Test.YtcmpjdnbjhkhdaaDoorGPutLaws
import Derived.Test.YtcmpjdnbjhkhdaaDoorShowLaws
import Derived.OwnWalk
import Derived.Lib.SliceRun
import Derived.Test.YtcmpjdnbjhkhdaaDoorValid
namespace Go.Proofs.YtcmpjdnbjhkhdaaDoor
set_option linter.unusedSimpArgs false
set_option linter.unusedVariables false
open Go.RowKit

theorem run_eql_nil8 (w : World) (a : Option Addr) (n c : Nat) : (binOp .eql 45 (.slice a n c) (.slice none 0 0)).run Tryd.prog w = .ok (.bool a.isNone) w := Lib.run_eql_slice_nil w _ _ a n c 0 0 Tryd.underlying45
/-- a reader of bytes in memory: what is left, and whether something was not as it should be. -/
def RdB (w : World) (R : Nat) (bad : Bool) (l : List UInt8) : Prop :=
  ∃ v, w.heap[R]? = some (.cells #[v, .bool bad] 170 (0, 0)) ∧ BytesIn (fun b => b < R) w v l
theorem RdB.later {w w' : World} {R : Nat} {bad : Bool} {l : List UInt8} (h : RdB w R bad l) (k : Later w w') : RdB w' R bad l := let ⟨v, h1, h2⟩ := h; ⟨v, k.obj h1, h2.bytes_later k⟩
theorem RdB.lt {w : World} {R : Nat} {bad : Bool} {l : List UInt8} (h : RdB w R bad l) : R < w.heap.size := let ⟨_, h1, _⟩ := h; (Array.getElem?_eq_some_iff.1 h1).1
theorem RdB.fail {w : World} {R : Nat} {bad : Bool} {l : List UInt8} (h : RdB w R bad l) : RdB (w.setCell ⟨R, 1, none⟩ (.bool true)) R true l ∧ Keeps (fun b => b ≠ R) w (w.setCell ⟨R, 1, none⟩ (.bool true)) := by
  obtain ⟨v, h1, h2⟩ := h
  have hk : Keeps (fun b => b ≠ R) w (w.setCell ⟨R, 1, none⟩ (.bool true)) := (Keeps.refl _ _).setCell (.inl (by simp)) _
  exact ⟨⟨v, obj_setCell (i := 1) h1 _, h2.bytes_kept hk fun _ hb => Nat.ne_of_lt hb⟩, hk⟩
theorem RdB.put {w : World} {R : Nat} {bad : Bool} {l : List UInt8} (h : RdB w R bad l) (b : Bool) : RdB (w.setCell ⟨R, 1, none⟩ (.bool b)) R b l ∧ Keeps (fun b => b ≠ R) w (w.setCell ⟨R, 1, none⟩ (.bool b)) := by
  obtain ⟨v, h1, h2⟩ := h
  have hk : Keeps (fun b => b ≠ R) w (w.setCell ⟨R, 1, none⟩ (.bool b)) := (Keeps.refl _ _).setCell (.inl (by simp)) _
  exact ⟨⟨v, obj_setCell (i := 1) h1 _, h2.bytes_kept hk fun _ hb => Nat.ne_of_lt hb⟩, hk⟩
/-- another block, a later one, is written. -/
theorem RdB.other {w : World} {R : Nat} {bad : Bool} {l : List UInt8} (h : RdB w R bad l) {p : Addr} (hp : R < p.block) (v : Value) : RdB (w.setCell p v) R bad l := by
  obtain ⟨u, h1, h2⟩ := h
  have hk : Keeps (fun b => b ≤ R) w (w.setCell p v) := (Keeps.refl _ _).setCell (.inl (by omega)) _
  exact ⟨u, hk.obj (Nat.le_refl _) h1, h2.bytes_kept hk fun _ hb => Nat.le_of_lt hb⟩
theorem RdB.others {w : World} {R : Nat} {bad : Bool} {l : List UInt8} (h : RdB w R bad l) {T : Nat} (hp : R < T) (x y z : Value) : RdB (((w.setCell ⟨T, 0, none⟩ x).setCell ⟨T, 1, none⟩ y).setCell ⟨T, 2, none⟩ z) R bad l := ((h.other hp x).other hp y).other hp z
theorem keeps_others {S : Nat → Prop} {w w1 : World} {T : Nat} (hk : Keeps S w w1) (hT : w.heap.size ≤ T) (x y z : Value) : Keeps S w (((w1.setCell ⟨T, 0, none⟩ x).setCell ⟨T, 1, none⟩ y).setCell ⟨T, 2, none⟩ z) := ((hk.setCell (.inr hT) x).setCell (.inr hT) y).setCell (.inr hT) z
/-- what 'take' comes to, where there is enough. -/
def TookTo (w : World) (R n : Nat) (l : List UInt8) (e : Ending) (w' : World) : Prop :=
  ∃ v, e = .returned v ∧ BytesIn (fun b => b < R) w' v (l.take n) ∧ RdB w' R false (l.drop n) ∧ Keeps (fun b => b ≠ R) w w'
def FailTo (w : World) (R : Nat) (r : Value) (l : List UInt8) (e : Ending) (w' : World) : Prop := e = .returned r ∧ RdB w' R true l ∧ Keeps (fun b => b ≠ R) w w'

set_option maxHeartbeats 1000000 in
theorem take_no (R : Nat) (bad : Bool) (n : Int) (l : List UInt8) (w : World) (h : RdB w R bad l) (hn : bad = true ∨ n < 0 ∨ (l.length : Int) < n) :
    Calls Tryd.prog 202 #[.pointer (some ⟨R, 0, none⟩), .int .i64 n] w (FailTo w R (.slice none 0 0) l) := by
  have HF := hid h.fail
  obtain ⟨v, ho, a, c, rfl, -⟩ := h
  have r0 := cell_obj (i := 0) ho rfl
  have r1 := cell_obj (i := 1) ho rfl
  have z1 := free_obj (i := 1) ho
  clear ho
  cases bad with
  | true =>
    go_enter Tryd.func202, Tryd.ntmps202
    go_wp2_with fail
    go_ret
    exact ⟨rfl, HF.out.1, HF.out.2⟩
  | false =>
    by_cases h0 : n < 0
    ·
      go_enter Tryd.func202, Tryd.ntmps202
      go_wp2_with fail
      go_ret
      exact ⟨rfl, HF.out.1, HF.out.2⟩
    · have h1 : (l.length : Int) < n := by
        rcases hn with hn | hn | hn
        · cases hn
        · exact absurd hn h0
        · exact hn
      go_enter Tryd.func202, Tryd.ntmps202
      go_wp2_with fail
      go_ret
      exact ⟨rfl, HF.out.1, HF.out.2⟩

set_option maxHeartbeats 1000000 in
theorem take_yes (R : Nat) (n : Nat) (l : List UInt8) (w : World) (h : RdB w R false l) (hn : n ≤ l.length) :
    Calls Tryd.prog 202 #[.pointer (some ⟨R, 0, none⟩), .int .i64 n] w (TookTo w R n l) := by
  obtain ⟨v, ho, hb⟩ := h
  have HB := hid hb
  have HO := hid ho
  obtain ⟨a, c, rfl, hlc, hcm, hnc, -⟩ := hb
  unfold maxLen at hcm
  have r0 := cell_obj (i := 0) ho rfl
  have r1 := cell_obj (i := 1) ho rfl
  have z0 := free_obj (i := 0) ho
  have hn0 : (0 : Int) ≤ n := by omega
  clear ho
  have HK : ∀ x, Hid (Keeps (fun b => b ≠ R) w (w.setCell ⟨R, 0, none⟩ x)) := fun x => hid ((Keeps.refl _ _).setCell (.inl (by simp)) _)
  have fin : ∀ x y, BytesIn (fun b => b < R) w x (l.take n) → BytesIn (fun b => b < R) w y (l.drop n) → TookTo w R n l (.returned x) (w.setCell ⟨R, 0, none⟩ y) := fun x y hx hy =>
    ⟨x, rfl, hx.bytes_kept (HK y).out fun _ hb => Nat.ne_of_lt hb, ⟨y, obj_setCell (i := 0) HO.out y, hy.bytes_kept (HK y).out fun _ hb => Nat.ne_of_lt hb⟩, (HK y).out⟩
  have FIN := hid fin
  clear fin
  by_cases h0 : l = []
  · have HL0 := hid h0
    obtain rfl : n = 0 := by rw [h0] at hn; simpa using hn
    have hl0 : l.length = 0 := by rw [h0]; rfl
    clear h0
    have HE : ∀ a' c', c' ≤ c → (a' = none → c' = 0) → Hid (BytesIn (fun b => b < R) w (.slice a' 0 c') []) := fun a' c' h1 h2 => hid (bytes_empty _ _ _ _ (by unfold maxLen; omega) h2)
    cases a with
    | none =>
      obtain rfl : c = 0 := hnc rfl
      go_enter Tryd.func202, Tryd.ntmps202
      go_wp2_with fail
      go_ret
      exact FIN.out _ _ (by rw [HL0.out]; exact (HE none 0 (by omega) (fun _ => rfl)).out) (by rw [HL0.out]; exact (HE none 0 (by omega) (fun _ => rfl)).out)
    | some ad =>
      have hx : ad.add 0 = ad := by unfold Addr.add; simp
      by_cases hc : 0 < c
      ·
        go_enter Tryd.func202, Tryd.ntmps202
        go_wp2_with fail
        go_ret
        exact FIN.out _ _ (by rw [HL0.out]; exact (HE _ _ (Nat.le_refl _) (fun h => by cases h)).out) (by rw [HL0.out]; exact (HE _ _ (by omega) (fun h => by cases h)).out)
      · obtain rfl : c = 0 := by omega
        go_enter Tryd.func202, Tryd.ntmps202
        go_wp2_with fail
        go_ret
        exact FIN.out _ _ (by rw [HL0.out]; exact (HE _ _ (Nat.le_refl _) (fun h => by cases h)).out) (by rw [HL0.out]; exact (HE _ _ (by omega) (fun h => by cases h)).out)
  · have hpos : 0 < l.length := List.length_pos_iff.2 h0
    obtain ⟨a9, c9, e1, -, -, -, hel⟩ := HB.out
    simp only [Value.slice.injEq] at e1
    obtain ⟨rfl, -, rfl⟩ := e1
    obtain ⟨b, o, rfl, -, -⟩ := hel 0 hpos
    have HT : Hid (BytesIn (fun b => b < R) w (.slice (some ⟨b, o, none⟩) n c) (l.take n)) := hid (by
      have h1 := HB.out
      rw [← List.take_append_drop n l] at h1
      have h2 := bytes_prefix h1
      rw [List.length_take, Nat.min_eq_left hn] at h2
      exact h2)
    clear hel h0
    by_cases hc : n < c
    · have HD := hid (bytes_from HB.out hc hn)
      go_enter Tryd.func202, Tryd.ntmps202
      go_wp2_with fail
      go_ret
      exact FIN.out _ _ HT.out HD.out
    · obtain rfl : n = c := by omega
      have HD : Hid (BytesIn (fun b => b < R) w (.slice (some ⟨b, o, none⟩) 0 0) (l.drop n)) := hid (by
        rw [List.drop_of_length_le hlc]
        exact bytes_empty _ _ _ _ (by omega) (fun h => by cases h))
      go_enter Tryd.func202, Tryd.ntmps202
      go_wp2_with fail
      go_ret
      exact FIN.out _ _ HT.out HD.out
end Go.Proofs.YtcmpjdnbjhkhdaaDoor
namespace Go.Proofs.YtcmpjdnbjhkhdaaDoor
set_option linter.unusedSimpArgs false
set_option linter.unusedVariables false
open Go.RowKit

theorem took_one {w w' : World} {R : Nat} {ch : UInt8} {r : List UInt8} {e : Ending} (h : TookTo w R 1 (ch :: r) e w') :
    ∃ b o c, e = .returned (.slice (some ⟨b, o, none⟩) 1 c) ∧ w'.cell? ⟨b, o, none⟩ = some (.int .u8 (ch.toNat : Int)) ∧ RdB w' R false r ∧ Keeps (fun b => b ≠ R) w w' := by
  obtain ⟨v, rfl, hb, hr, hk⟩ := h
  obtain ⟨a, c, rfl, -, -, -, hel⟩ := hb
  obtain ⟨b, o, rfl, -, hx⟩ := hel 0 (by simp)
  exact ⟨b, o, c, rfl, by simpa [ByteAt] using hx, hr, hk⟩
theorem and127 : ∀ m : Fin 256, bits BinOp.and IntKind.u8 ((m.1 : Nat) : Int) 127 = ((m.1 % 128 : Nat) : Int) := by decide +kernel
theorem decN_go {k : Nat} {f : Bool} {c : UInt8} {r : List UInt8} (hc : 128 ≤ c.toNat) : decN (k + 1) f (c :: r) = (decN k false r).map fun p => (c.toNat - 128 + 128 * p.1, p.2) := by
  simp only [decN]
  rw [if_neg (by omega)]
/-- what is known of a number, when 'i' bytes of it were read. -/
def Part (l : List UInt8) (i : Nat) : Prop := decN 9 true l = (decN (9 - i) (decide (i = 0)) (l.drop i)).map fun p => (sumB (l.take i) + 128 ^ i * p.1, p.2)
theorem part_zero (l : List UInt8) : Part l 0 := by
  unfold Part
  simp [sumB]
theorem part_succ {l : List UInt8} {i : Nat} (h : Part l i) (hi : i < 9) (hl : i < l.length) (hc : 128 ≤ l[i].toNat) : Part l (i + 1) := by
  unfold Part at h ⊢
  obtain ⟨k, hk⟩ : ∃ k, 9 - i = k + 1 := ⟨8 - i, by omega⟩
  have hk' : 9 - (i + 1) = k := by omega
  rw [h, hk, hk', List.drop_eq_getElem_cons hl, decN_go hc, List.take_succ_eq_append_getElem hl, sumB_snoc]
  have hd : decide (i + 1 = 0) = false := by simp
  have h8 := l[i].toNat_lt
  have hm : l[i].toNat % 128 = l[i].toNat - 128 := by omega
  have htl : (l.take i).length = i := by rw [List.length_take]; omega
  rw [hd, hm, htl]
  cases hx : decN k false (l.drop (i + 1)) with
  | none => rfl
  | some p =>
    simp only [Option.map_some, Option.some.injEq, Prod.mk.injEq, and_true]
    rw [Nat.mul_add, Nat.pow_succ, Nat.mul_comm (128 ^ i) (l[i].toNat - 128), Nat.mul_assoc (128 ^ i) 128 p.1]
    omega
theorem part_end {l : List UInt8} {i : Nat} (h : Part l i) (hi : i < 9) (hl : i < l.length) (hc : l[i].toNat < 128) : dInt l = if l[i].toNat = 0 ∧ 0 < i then none else some (unzz (sumB (l.take (i + 1))), l.drop (i + 1)) := by
  unfold Part at h
  obtain ⟨k, hk⟩ : ∃ k, 9 - i = k + 1 := ⟨8 - i, by omega⟩
  have htl : (l.take i).length = i := by rw [List.length_take]; omega
  rw [hk, List.drop_eq_getElem_cons hl] at h
  simp only [decN] at h
  rw [if_pos hc] at h
  unfold dInt
  rw [h, List.take_succ_eq_append_getElem hl, sumB_snoc, htl, Nat.mod_eq_of_lt hc]
  by_cases h0 : l[i].toNat = 0 ∧ 0 < i
  · rw [if_pos h0, if_pos ⟨h0.1, by simp; omega⟩]; rfl
  · rw [if_neg h0, if_neg (by rintro ⟨h1, h2⟩; simp at h2; exact h0 ⟨h1, by omega⟩)]
    simp only [Option.map_some, Nat.mul_comm (128 ^ i)]
theorem part_nine {l : List UInt8} (h : Part l 9) (hl : 9 < l.length) : dInt l = if l[9].toNat = 1 then some (unzz (sumB (l.take 10)), l.drop 10) else none := by
  unfold Part at h
  have htl : (l.take 9).length = 9 := by rw [List.length_take]; omega
  rw [List.drop_eq_getElem_cons hl] at h
  simp only [Nat.sub_self, decN] at h
  unfold dInt
  rw [h, List.take_succ_eq_append_getElem hl, sumB_snoc, htl]
  by_cases h1 : l[9].toNat = 1
  · rw [if_pos h1, if_pos h1]; simp [h1]
  · rw [if_neg h1, if_neg h1]; rfl
theorem part_out {l : List UInt8} {i : Nat} (h : Part l i) (hl : i = l.length) : dInt l = none := by
  unfold Part at h
  unfold dInt
  rw [h, hl, List.drop_length]
  cases 9 - l.length <;> rfl

/-- what Int comes to. -/
def IntTo (w : World) (R : Nat) (l : List UInt8) (e : Ending) (w' : World) : Prop :=
  Keeps (fun b => b ≠ R) w w' ∧ match dInt l with
    | some (n, r) => e = .returned (.int .i64 n) ∧ RdB w' R false r
    | none => e = .returned (.int .i64 0) ∧ ∃ r, RdB w' R true r
theorem intTo_no {w w' : World} {R : Nat} {l r : List UInt8} {e : Ending} (h : dInt l = none) (he : e = .returned (.int .i64 0)) (hr : RdB w' R true r) (hk : Keeps (fun b => b ≠ R) w w') : IntTo w R l e w' := by
  unfold IntTo
  rw [h]
  exact ⟨hk, he, r, hr⟩
theorem intTo_yes {w w' : World} {R : Nat} {l r : List UInt8} {n : Int} {e : Ending} (h : dInt l = some (n, r)) (he : e = .returned (.int .i64 n)) (hr : RdB w' R false r) (hk : Keeps (fun b => b ≠ R) w w') : IntTo w R l e w' := by
  unfold IntTo
  rw [h]
  exact ⟨hk, he, hr⟩

theorem or_shift {u m i : Nat} (hu : u < 128 ^ i) (hv : m % 128 * 128 ^ i < 2 ^ 64) (hs : u + m % 128 * 128 ^ i < 2 ^ 64) :
    bits BinOp.or IntKind.u64 (u : Int) (IntKind.u64.wrap ((m : Int) % 128 * 2 ^ (7 * i))) = ((u + m % 128 * 128 ^ i : Nat) : Int) := by
  have e7 : (2 : Nat) ^ (7 * i) = 128 ^ i := by rw [Nat.pow_mul]
  have e1 : (m : Int) % 128 * 2 ^ (7 * i) = ((m % 128 * 128 ^ i : Nat) : Int) := by
    rw [← e7]; push_cast; rfl
  have e2 : IntKind.u64.wrap ((m % 128 * 128 ^ i : Nat) : Int) = ((m % 128 * 128 ^ i : Nat) : Int) := by rw [IntKind.wrap_u64]; omega
  rw [e1, e2]
  have h := (bits_nat .u64 64 (by decide) (fun n h0 h1 => by rw [IntKind.wrap_u64]; omega) u (m % 128 * 128 ^ i) (by omega) hv).2
  rw [h]
  congr 1
  have h2 := Nat.shiftLeft_add_eq_or_of_lt (b := u) (i := 7 * i) (by rw [e7]; exact hu) (m % 128)
  rw [Nat.shiftLeft_eq, e7] at h2
  rw [Nat.or_comm, ← h2]
  omega
theorem pow_le9 {i : Nat} (h : i ≤ 9) : 128 ^ i ≤ 128 ^ 9 := Nat.pow_le_pow_right (by decide) h
theorem pow9' : (128 : Nat) ^ 9 = 2 ^ 63 := by decide
theorem xor_zero_i64 (a : Nat) (h : a < 2 ^ 63) : bits BinOp.xor IntKind.i64 (a : Int) 0 = a := by
  show IntKind.i64.wrap ((BitVec.ofInt 64 (a : Int) ^^^ BitVec.ofInt 64 0).toNat : Int) = _
  rw [show BitVec.ofInt 64 0 = 0#64 from rfl, BitVec.xor_zero, BitVec.ofInt_natCast, BitVec.toNat_ofNat, Nat.mod_eq_of_lt (by omega), IntKind.wrap_i64]
  omega
theorem xor_ones_i64 (a : Nat) (h : a < 2 ^ 63) : bits BinOp.xor IntKind.i64 (a : Int) (-1) = -(a : Int) - 1 := by
  show IntKind.i64.wrap ((BitVec.ofInt 64 (a : Int) ^^^ BitVec.ofInt 64 (-1)).toNat : Int) = _
  rw [show BitVec.ofInt 64 (-1) = BitVec.allOnes 64 by decide, BitVec.xor_allOnes, BitVec.toNat_not, BitVec.ofInt_natCast, BitVec.toNat_ofNat, Nat.mod_eq_of_lt (by omega), IntKind.wrap_i64]
  omega
theorem unzz_bits {u : Nat} (h : u < 18446744073709551616) : bits BinOp.xor IntKind.i64 ((u : Int) / 2) (wrap64 (-wrap64 (bits BinOp.and IntKind.u64 (u : Int) 1))) = unzz u := by
  have e0 : bits BinOp.and IntKind.u64 (u : Int) 1 = ((u % 2 : Nat) : Int) := by
    have := (bits_nat .u64 64 (by decide) (fun n h0 h1 => by rw [IntKind.wrap_u64]; omega) u 1 (by omega) (by decide)).1
    rw [Nat.and_one_is_mod] at this
    exact this
  rw [e0]
  have e : (u : Int) / 2 = ((u / 2 : Nat) : Int) := by omega
  unfold unzz
  by_cases h2 : u % 2 = 1
  · rw [if_pos h2, h2, show wrap64 (-wrap64 ((1 : Nat) : Int)) = -1 by simp [wrap64], e, xor_ones_i64 _ (by omega)]
  · rw [if_neg h2, show u % 2 = 0 by omega, show wrap64 (-wrap64 ((0 : Nat) : Int)) = 0 by simp [wrap64], e, xor_zero_i64 _ (by omega)]
theorem bits_or_zero (u : Nat) (h : u < 18446744073709551616) : bits BinOp.or IntKind.u64 (u : Int) 0 = u := by
  have := (bits_nat .u64 64 (by decide) (fun n h0 h1 => by rw [IntKind.wrap_u64]; omega) u 0 (by omega) (by decide)).2
  simpa using this
attribute [local go_sem] run_eql_nil8
set_option maxRecDepth 100000 in
set_option maxHeartbeats 4000000 in
theorem read_int (R : Nat) (l : List UInt8) (w : World) (h : RdB w R false l) : Calls Tryd.prog 203 #[.pointer (some ⟨R, 0, none⟩)] w (IntTo w R l) := by
  have HR := hid h
  clear h
  go_enter Tryd.func203, Tryd.ntmps203
  go_wp2_with fail
  obtain ⟨R1, hR1⟩ : ∃ RR_ : (Nat → Value) → World → Prop, RR_ = (fun us wx => ∃ i u : Nat, i ≤ 10 ∧ i ≤ l.length ∧ us 4 = .int .i64 (7 * i : Nat) ∧ us 3 = .int .u64 u ∧ u < 18446744073709551616 ∧ RdB wx R false (l.drop i) ∧ Keeps (fun b => b ≠ R) w wx ∧ (i ≤ 9 → u = sumB (l.take i) ∧ Part l i) ∧ (i = 10 → dInt l = none)) := ⟨_, rfl⟩
  obtain ⟨mu1, hmu1⟩ : ∃ mu : (Nat → Value) → World → Nat, mu = (fun us _ => 100 - (intOf (us 4)).toNat) := ⟨_, rfl⟩
  have HR1 := hid hR1; have Hmu1 := hid hmu1; clear hR1 hmu1
  refine wp_loop_frame' [false, false, true, true, true, true, true, true, true, true, true, true, true, true, true, true, true, true, true, true, true, true, true, true, true, true, true, true, true, true, true, true, true, true, true, true, true, true, true, true, true, true, true, true, true, true, true, true, true, true, true, true, true, true, true, true, true, true] R1 _ mu1 HR1.out ?_ ?_
  · exact ⟨0, 0, by omega, by omega, rfl, rfl, by omega, HR.out, Keeps.refl _ _, fun _ => ⟨rfl, part_zero l⟩, fun h => by omega⟩
  intro us1 wx hrel
  obtain ⟨i, u, hi, hil, h4, h3, hu, hr, hk, hp, hq⟩ := hrel
  simp only [frameOf, Nat.reduceAdd, h4, h3]
  have Hh4 := hid h4; clear h4
  have Hh3 := hid h3; clear h3
  have HRX := hid hr
  have HKX := hid hk
  have HP := hid hp
  have HQ := hid hq
  clear hr hk hp hq
  by_cases hlt : i < l.length
  · have HD : Hid (l.drop i = l[i] :: l.drop (i + 1)) := hid (List.drop_eq_getElem_cons hlt)
    have HR1 := HRX.out
    rw [HD.out] at HR1
    have HRC := hid HR1
    clear HR1
    go_wp2_with fail
    refine (take_yes R 1 _ _ HRC.out (by simp only [List.length_cons]; omega)).mono ?_
    intro e w1 hT
    obtain ⟨b, o, c, rfl, q0, hr1, hk1⟩ := took_one hT
    have HRD1 := hid hr1
    have HK1 := hid (HKX.out.trans hk1)
    clear hT hr1 hk1 HRX
    obtain ⟨m, hm⟩ : ∃ m, m = l[i].toNat := ⟨_, rfl⟩
    have HM := hid hm
    have hm8 : m < 256 := by rw [hm]; exact l[i].toNat_lt
    rw [← hm] at q0
    clear hm
    have h127 : bits BinOp.and IntKind.u8 (m : Int) 127 = ((m % 128 : Nat) : Int) := and127 ⟨m, hm8⟩
    have HNO := hid (fun (hd : dInt l = none) => intTo_no (e := .returned (.int .i64 0)) hd rfl HRD1.out.fail.1 (HK1.out.trans HRD1.out.fail.2))
    obtain ⟨v, ho, -⟩ := HRD1.out
    have r1 := cell_obj (i := 1) ho rfl
    have z1 := free_obj (i := 1) ho
    clear ho
    by_cases h10 : i = 10
    · subst h10
      go_wp2_with fail
      go_ret
      exact HNO.out (by simpa using HQ.out)
    by_cases h9 : i = 9
    · subst h9
      have HP9 := hid (HP.out (by omega))
      have HN := hid (part_nine HP9.out.2 hlt)
      by_cases hv : 1 < m % 128
      · have hv' : (1 : Int) < (m : Int) % 128 := by omega
        go_wp2_with fail
        go_ret
        exact HNO.out (by rw [HN.out, if_neg]; rw [← HM.out]; omega)
      · have hv' : ¬ (1 : Int) < (m : Int) % 128 := by omega
        by_cases hm0 : m = 0
        · subst hm0
          go_wp2_with fail
          go_ret
          exact HNO.out (by rw [HN.out, if_neg]; rw [← HM.out]; omega)
        · have hm0' : ¬ (m : Int) = 0 := by omega
          have hs9 := sumB_lt (l.take 9)
          rw [List.length_take, Nat.min_eq_left (by omega), pow9', ← HP9.out.1] at hs9
          obtain ⟨u', hu'⟩ : ∃ u', u' = u + m % 128 * 9223372036854775808 := ⟨_, rfl⟩
          have hor : bits BinOp.or IntKind.u64 (u : Int) ((m : Int) % 128 * 9223372036854775808) = (u' : Int) := by
            have h1 := or_shift (u := u) (m := m) (i := 9) (by rw [pow9']; exact hs9) (by rw [pow9']; omega) (by rw [pow9']; omega)
            rw [IntKind.wrap_u64, Int.emod_eq_of_lt (by omega) (by omega), pow9'] at h1
            rw [hu']
            exact h1
          have HS : Hid (sumB (l.take 10) = u') := hid (by rw [List.take_succ_eq_append_getElem hlt, sumB_snoc, ← HM.out, List.length_take, Nat.min_eq_left (by omega), ← HP9.out.1, pow9', hu'])
          have hub : u' < 18446744073709551616 := by omega
          clear hu' hs9
          by_cases hlo : m < 128
          · have hub2 := unzz_bits hub
            go_wp2_with fail
            go_ret
            exact intTo_yes (by rw [HN.out, if_pos (by rw [← HM.out]; omega), HS.out]) rfl HRD1.out HK1.out
          · go_wp2_with fail
            refine Round.mk' HR1.out Hmu1.out rfl ?_ ?_
            · exact ⟨10, u', by omega, by omega, by go_num, rfl, hub, HRD1.out, HK1.out, fun h => by omega, fun _ => by rw [HN.out, if_neg]; rw [← HM.out]; omega⟩
            · rw [Hh4.out]; simp [intOf, slots]
    have h63 : ¬ ((7 * i : Nat) : Int) = 63 := by omega
    have h63' : ¬ (63 : Int) < ((7 * i : Nat) : Int) := by omega
    have HP9 := hid (HP.out (by omega))
    by_cases hz : m = 0 ∧ 0 < i
    · obtain ⟨rfl, hi0⟩ := hz
      have hi0' : (0 : Int) < ((7 * i : Nat) : Int) := by omega
      go_wp2_with fail
      go_ret
      exact HNO.out (by rw [part_end HP9.out.2 (by omega) hlt (by rw [← HM.out]; omega), if_pos ⟨HM.out.symm, hi0⟩])
    · by_cases hm0 : m = 0
      · obtain rfl : i = 0 := by omega
        obtain rfl : u = 0 := by have := HP9.out.1; simpa [sumB] using this
        have HE := hid (part_end HP9.out.2 (by omega) hlt (by rw [← HM.out]; omega))
        have HS : Hid (sumB (l.take (0 + 1)) = 0) := hid (by rw [List.take_succ_eq_append_getElem hlt, sumB_snoc, ← HM.out, hm0]; simp [sumB])
        subst hm0
        go_wp2_with fail
        go_ret
        exact intTo_yes (by rw [HE.out, if_neg (by omega), HS.out]) (congrArg (fun x => Ending.returned (.int .i64 x)) (by decide +kernel)) HRD1.out HK1.out
      · have hm0' : ¬ (m : Int) = 0 := by omega
        obtain ⟨u', hu'⟩ : ∃ u', u' = u + m % 128 * 128 ^ i := ⟨_, rfl⟩
        have HU := hid hu'
        have h4 : sumB (l.take (i + 1)) = u' := by
          rw [List.take_succ_eq_append_getElem hlt, sumB_snoc, ← HM.out, List.length_take, Nat.min_eq_left (by omega), hu', HP9.out.1]
        have huu : u < 128 ^ i ∧ u' < 9223372036854775808 := by
          have h1 := sumB_lt (l.take i)
          have h2 := sumB_lt (l.take (i + 1))
          have h3 := pow_le9 (show i + 1 ≤ 9 by omega)
          rw [pow9'] at h3
          rw [List.length_take, Nat.min_eq_left (by omega)] at h1 h2
          rw [← HP9.out.1] at h1
          omega
        have hor : bits BinOp.or IntKind.u64 (u : Int) (IntKind.u64.wrap ((m : Int) % 128 * 2 ^ (7 * i))) = (u' : Int) := by
          rw [hu']
          exact or_shift huu.1 (by omega) (by omega)
        have hub := huu.2
        have HS := hid h4
        clear hu' huu h4
        by_cases hlo : m < 128
        · have hub2 := unzz_bits (u := u') (by omega)
          have HE := hid (part_end HP9.out.2 (by omega) hlt (by rw [← HM.out]; exact hlo))
          go_wp2_with fail
          go_ret
          exact intTo_yes (by rw [HE.out, if_neg (by rw [← HM.out]; exact hz), HS.out]) rfl HRD1.out HK1.out
        · go_wp2_with fail
          refine Round.mk' HR1.out Hmu1.out rfl ?_ ?_
          · exact ⟨i + 1, u', by omega, by omega, by go_num, rfl, by omega, HRD1.out, HK1.out, fun _ => ⟨HS.out.symm, part_succ HP9.out.2 (by omega) hlt (by rw [← HM.out]; omega)⟩, fun h => by omega⟩
          · rw [Hh4.out]; simp [intOf, slots]; omega
  · obtain rfl : i = l.length := by omega
    have HRC : Hid (RdB wx R false []) := hid (by have := HRX.out; rwa [List.drop_length] at this)
    go_wp2_with fail
    refine (take_no R false 1 _ _ HRC.out (.inr (.inr (by simp)))).mono ?_
    rintro e w1 ⟨rfl, hr1, hk1⟩
    have HR2 := hid hr1
    have HK2 := hid (HKX.out.trans hk1)
    clear hr1 hk1
    go_wp2_with fail
    go_ret
    exact intTo_no (by
      by_cases h10 : l.length = 10
      · exact HQ.out h10
      · exact part_out (HP.out (by omega)).2 rfl) rfl HR2.out HK2.out
end Go.Proofs.YtcmpjdnbjhkhdaaDoor
namespace Go.Proofs.YtcmpjdnbjhkhdaaDoor
set_option linter.unusedSimpArgs false
set_option linter.unusedVariables false
open Go.RowKit

attribute [local go_sem] run_eql_nil8
set_option maxHeartbeats 1000000 in
theorem read_int_bad (R : Nat) (l : List UInt8) (w : World) (h : RdB w R true l) : Calls Tryd.prog 203 #[.pointer (some ⟨R, 0, none⟩)] w (FailTo w R (.int .i64 0) l) := by
  have HR := hid h
  clear h
  go_enter Tryd.func203, Tryd.ntmps203
  go_wp2_with fail
  obtain ⟨R1, hR1⟩ : ∃ RR_ : (Nat → Value) → World → Prop, RR_ = (fun us wx => us 4 = .int .i64 0 ∧ us 3 = .int .u64 0 ∧ wx = w) := ⟨_, rfl⟩
  obtain ⟨mu1, hmu1⟩ : ∃ mu : (Nat → Value) → World → Nat, mu = (fun _ _ => 0) := ⟨_, rfl⟩
  have HR1 := hid hR1; have Hmu1 := hid hmu1; clear hR1 hmu1
  refine wp_loop_frame' [false, false, true, true, true, true, true, true, true, true, true, true, true, true, true, true, true, true, true, true, true, true, true, true, true, true, true, true, true, true, true, true, true, true, true, true, true, true, true, true, true, true, true, true, true, true, true, true, true, true, true, true, true, true, true, true, true, true] R1 _ mu1 HR1.out ?_ ?_
  · exact ⟨rfl, rfl, rfl⟩
  intro us1 wx hrel
  obtain ⟨h4, h3, rfl⟩ := hrel
  simp only [frameOf, Nat.reduceAdd, h4, h3]
  have Hh4 := hid h4; clear h4
  have Hh3 := hid h3; clear h3
  go_wp2_with fail
  refine (take_no R true 1 _ _ HR.out (.inl rfl)).mono ?_
  rintro e w1 ⟨rfl, hr1, hk1⟩
  have HR2 := hid hr1
  have HK2 := hid hk1
  clear hr1 hk1
  go_wp2_with fail
  go_ret
  exact ⟨rfl, HR2.out, HK2.out⟩

/-- what Text comes to. -/
def TextTo (w : World) (R : Nat) (l : List UInt8) (e : Ending) (w' : World) : Prop :=
  Keeps (fun b => b ≠ R) w w' ∧ match dText l with
    | some (t, r) => e = .returned (.string t) ∧ RdB w' R false r
    | none => e = .returned (.string ⟨#[]⟩) ∧ ∃ r, RdB w' R true r
theorem textTo_no {w w' : World} {R : Nat} {l r : List UInt8} {e : Ending} (h : dText l = none) (he : e = .returned (.string ⟨#[]⟩)) (hr : RdB w' R true r) (hk : Keeps (fun b => b ≠ R) w w') : TextTo w R l e w' := by
  unfold TextTo
  rw [h]
  exact ⟨hk, he, r, hr⟩
theorem textTo_yes {w w' : World} {R : Nat} {l r : List UInt8} {t : ByteArray} {e : Ending} (h : dText l = some (t, r)) (he : e = .returned (.string t)) (hr : RdB w' R false r) (hk : Keeps (fun b => b ≠ R) w w') : TextTo w R l e w' := by
  unfold TextTo
  rw [h]
  exact ⟨hk, he, hr⟩
theorem nil_string (w : World) : (Go.convert 45 9 (.slice none 0 0)).run Tryd.prog w = .ok (.string ⟨#[]⟩) w := (bytes_nil (fun _ => True) w).string (src := 45) (dst := 9) Tryd.underlying45 Tryd.underlying5 Tryd.underlying9

set_option maxHeartbeats 1000000 in
theorem read_text (R : Nat) (l : List UInt8) (w : World) (h : RdB w R false l) : Calls Tryd.prog 204 #[.pointer (some ⟨R, 0, none⟩)] w (TextTo w R l) := by
  have HR := hid h
  clear h
  go_enter Tryd.func204, Tryd.ntmps204
  go_wp2_with fail
  refine (read_int R l _ HR.out).mono ?_
  rintro e w1 ⟨hk, hT⟩
  have HK := hid hk
  clear hk
  cases hd : dInt l with
  | none =>
    rw [hd] at hT
    obtain ⟨rfl, r, hr⟩ := hT
    have HR1 := hid hr
    have HD : Hid (dText l = none) := hid (by unfold dText; rw [hd])
    clear hr hd
    go_wp2_with fail
    refine (take_no R true 0 _ _ HR1.out (.inl rfl)).mono ?_
    rintro e w2 ⟨rfl, hr2, hk2⟩
    have HR2 := hid hr2
    have HK2 := hid (HK.out.trans hk2)
    have hcv := nil_string w2
    clear hr2 hk2
    go_wp2_with fail
    go_ret
    exact textTo_no HD.out rfl HR2.out HK2.out
  | some p =>
    obtain ⟨n, r⟩ := p
    rw [hd] at hT
    obtain ⟨rfl, hr⟩ := hT
    have HR1 := hid hr
    by_cases hn : n < 0 ∨ (r.length : Int) < n
    · have HD : Hid (dText l = none) := hid (by unfold dText; rw [hd]; simp only []; rw [if_pos hn])
      have HN := hid hn
      clear hr hd hn
      go_wp2_with fail
      refine (take_no R false n _ _ HR1.out (.inr HN.out)).mono ?_
      rintro e w2 ⟨rfl, hr2, hk2⟩
      have HR2 := hid hr2
      have HK2 := hid (HK.out.trans hk2)
      have hcv := nil_string w2
      clear hr2 hk2
      go_wp2_with fail
      go_ret
      exact textTo_no HD.out rfl HR2.out HK2.out
    · have HD : Hid (dText l = some (strB (r.take n.toNat), r.drop n.toNat)) := hid (by unfold dText; rw [hd]; simp only []; rw [if_neg hn])
      obtain ⟨m, rfl⟩ : ∃ m : Nat, n = m := ⟨n.toNat, by omega⟩
      have hm : m ≤ r.length := by omega
      clear hr hd hn
      go_wp2_with fail
      refine (take_yes R m _ _ HR1.out hm).mono ?_
      rintro e w2 ⟨v, rfl, hb, hr2, hk2⟩
      have HR2 := hid hr2
      have HK2 := hid (HK.out.trans hk2)
      have hcv := hb.string (src := 45) (dst := 9) Tryd.underlying45 Tryd.underlying5 Tryd.underlying9
      clear hr2 hk2 hb
      go_wp2_with fail
      go_ret
      exact textTo_yes HD.out rfl HR2.out HK2.out

/-- what stands behind a kind's byte. -/
def dFill (k : Int) (l : List UInt8) : Option (Val × List UInt8) :=
  if k = 1 ∨ k = 2 then (dInt l).map fun p => (⟨k, p.1, ⟨#[]⟩⟩, p.2)
  else if k = 3 then (dText l).map fun p => (⟨k, 0, p.1⟩, p.2)
  else some (⟨k, 0, ⟨#[]⟩⟩, l)
def dVal : List UInt8 → Option (Val × List UInt8)
  | [] => none
  | c :: r => match dFill c.toNat r with
    | none => none
    | some (v, r') => if validV v then some (v, r') else none
def zeroV : Val := ⟨0, 0, ⟨#[]⟩⟩
/-- what Value comes to. -/
def ValueTo (w : World) (R : Nat) (l : List UInt8) (e : Ending) (w' : World) : Prop :=
  Keeps (fun b => b ≠ R) w w' ∧ match dVal l with
    | some (x, r) => e = .returned x.v ∧ RdB w' R false r
    | none => e = .returned zeroV.v ∧ ∃ r, RdB w' R true r
theorem valueTo_no {w w' : World} {R : Nat} {l r : List UInt8} {e : Ending} (h : dVal l = none) (he : e = .returned zeroV.v) (hr : RdB w' R true r) (hk : Keeps (fun b => b ≠ R) w w') : ValueTo w R l e w' := by
  unfold ValueTo
  rw [h]
  exact ⟨hk, he, r, hr⟩
theorem valueTo_yes {w w' : World} {R : Nat} {l r : List UInt8} {x : Val} {e : Ending} (h : dVal l = some (x, r)) (he : e = .returned x.v) (hr : RdB w' R false r) (hk : Keeps (fun b => b ≠ R) w w') : ValueTo w R l e w' := by
  unfold ValueTo
  rw [h]
  exact ⟨hk, he, hr⟩
end Go.Proofs.YtcmpjdnbjhkhdaaDoor
namespace Go.Proofs.YtcmpjdnbjhkhdaaDoor
set_option linter.unusedSimpArgs false
set_option linter.unusedVariables false
open Go.RowKit

theorem keeps_other {p : Addr} (w : World) (v : Value) : Keeps (fun b => b ≠ p.block) w (w.setCell p v) := (Keeps.refl _ _).setCell (.inl (by simp)) _
theorem results_cell2 {fn : Func} {t : Tmp} {ty : TypeId} (h : fn.results = #[.cell t ty]) (tmps : Array Value) (P : Program) (w : World) :
    (results fn tmps).run P w = (do loadVar ty (← asAddr (tmps.getD t undef)) : Sem Value).run P w := by
  simp [results, h]
attribute [local go_sem] run_eql_nil8
set_option maxHeartbeats 2000000 in
theorem read_value (R : Nat) (l : List UInt8) (w : World) (h : RdB w R false l) : Calls Tryd.prog 201 #[.pointer (some ⟨R, 0, none⟩)] w (ValueTo w R l) := by
  have hlt := h.lt
  have HR := hid h
  have HT := hid hlt
  clear h
  go_enter Tryd.func201, Tryd.ntmps201
  go_wp2_with fail
  have HR0 := hid (HR.out.later (Later.alloc _ _ : Later w (w.alloc (.cells #[.int .i64 0, .int .i64 0, .string ⟨#[]⟩] 25 (0, 0)))))
  cases l with
  | nil =>
    refine (take_no R false 1 _ _ HR0.out (.inr (.inr (by simp)))).mono ?_
    rintro e w1 ⟨rfl, hr1, hk1⟩
    have HO := hid (hk1.obj (Nat.ne_of_gt hlt) (obj_new w _))
    have HR1 := hid hr1
    have HK1 := hid (((Later.alloc w (.cells #[.int .i64 0, .int .i64 0, .string ⟨#[]⟩] 25 (0, 0))).keeps (fun b => b ≠ R)).trans hk1)
    clear hr1 hk1 hlt
    have r0 := cell_obj (i := 0) HO.out rfl
    have r1 := cell_obj (i := 1) HO.out rfl
    have r2 := cell_obj (i := 2) HO.out rfl
    have z0 := free_obj (i := 0) HO.out
    have z1 := free_obj (i := 1) HO.out
    have z2 := free_obj (i := 2) HO.out
    go_wp2_with fail
    refine bodyPost_ret (v := zeroV.v) ?_ rfl (valueTo_no rfl rfl (HR1.out.others HT.out _ _ _) (keeps_others HK1.out (Nat.le_refl _) _ _ _))
    rw [results_cell2 (t := 2) (ty := 25) rfl]
    go_simp
    exact ⟨rfl, rfl, rfl⟩
  | cons ch r =>
    refine (take_yes R 1 _ _ HR0.out (by simp only [List.length_cons]; omega)).mono ?_
    intro e w1 hT
    obtain ⟨b, o, c, rfl, q0, hr1, hk1⟩ := took_one hT
    obtain ⟨m, hm⟩ : ∃ m, m = ch.toNat := ⟨_, rfl⟩
    have HM := hid hm
    have hm8 : m < 256 := by rw [hm]; exact ch.toNat_lt
    rw [← hm] at q0
    have ho1 := hk1.obj (Nat.ne_of_gt hlt) (obj_new w _)
    have hK1 := ((Later.alloc w (.cells #[.int .i64 0, .int .i64 0, .string ⟨#[]⟩] 25 (0, 0))).keeps (fun b => b ≠ R)).trans hk1
    have hRX := hr1.lt
    have hTX := (Array.getElem?_eq_some_iff.1 ho1).1
    clear hm hT HR0 HR
    go_upto_region 5 with (fail)
    have HX := hid (obj_new w1 (.cells #[.int .i64 m, .int .i64 0, .string ⟨#[]⟩] 25 (0, 0)))
    have hL2 := Later.alloc w1 (.cells #[.int .i64 m, .int .i64 0, .string ⟨#[]⟩] 25 (0, 0))
    have HO := hid (hL2.obj ho1)
    have HR1 := hid (hr1.later hL2)
    have HK1 := hid (hK1.more hL2)
    have HXO : Hid (w.heap.size ≠ w1.heap.size) := hid (by omega)
    have HXR : Hid (R < w1.heap.size) := hid hRX
    have HXW : Hid (w.heap.size ≤ w1.heap.size) := hid (by omega)
    generalize w1.alloc (.cells #[.int .i64 m, .int .i64 0, .string ⟨#[]⟩] 25 (0, 0)) = w2 at *
    generalize w1.heap.size = X at *
    clear hL2 ho1 hK1 hRX hTX hr1 hk1 q0 hlt
    have n1 : X ≠ R := Nat.ne_of_gt HXR.out
    have n2 : R ≠ X := Nat.ne_of_lt HXR.out
    have n3 : w.heap.size ≠ X := HXO.out
    have n4 : X ≠ w.heap.size := HXO.out.symm
    have n5 : w.heap.size ≠ R := Nat.ne_of_gt HT.out
    have n6 : R ≠ w.heap.size := Nat.ne_of_lt HT.out
    by_cases hm1 : m = 1
    · subst hm1
      have q0 := cell_obj (i := 0) HX.out rfl
      go_wp2_with fail
      clear q0
      refine (read_int R r _ HR1.out).mono ?_
      rintro e w3 ⟨hk3, hT3⟩
      have HO3 := hid (hk3.obj (Nat.ne_of_gt HT.out) HO.out)
      have HX3 := hid (hk3.obj (Nat.ne_of_gt HXR.out) HX.out)
      have HK3 := hid (HK1.out.trans hk3)
      clear hk3
      cases hd : dInt r with
      | none =>
        rw [hd] at hT3
        obtain ⟨rfl, r3, hr3⟩ := hT3
        have HR3 := hid hr3
        have HD : Hid (dVal (ch :: r) = none) := hid (by simp only [dVal]; rw [← HM.out]; simp [dFill, hd])
        clear hr3 hd
        have r0 := cell_obj (i := 0) HO3.out rfl
        have r1 := cell_obj (i := 1) HO3.out rfl
        have r2 := cell_obj (i := 2) HO3.out rfl
        have z0 := free_obj (i := 0) HO3.out
        have z1 := free_obj (i := 1) HO3.out
        have z2 := free_obj (i := 2) HO3.out
        have q0 := cell_obj (i := 0) HX3.out rfl
        have q1 := cell_obj (i := 1) HX3.out rfl
        have q2 := cell_obj (i := 2) HX3.out rfl
        have p0 := free_obj (i := 0) HX3.out
        have p1 := free_obj (i := 1) HX3.out
        have p2 := free_obj (i := 2) HX3.out
        obtain ⟨vb, hob, -⟩ := HR3.out
        have x1 := cell_obj (i := 1) hob (v := .bool true) rfl
        have y1 := free_obj (i := 1) hob
        clear hob
        go_wp2_with fail
        refine bodyPost_ret (v := zeroV.v) ?_ rfl (valueTo_no HD.out rfl (((HR3.out.other HXR.out _).put true).1.others HT.out _ _ _) (keeps_others ((HK3.out.setCell (p := ⟨X, _, none⟩) (.inr HXW.out) _).trans ((HR3.out.other HXR.out _).put true).2) (Nat.le_refl _) _ _ _))
        rw [results_cell2 (t := 2) (ty := 25) rfl]
        go_simp
        try exact ⟨rfl, rfl, rfl⟩
      | some pr =>
        obtain ⟨n, r3⟩ := pr
        rw [hd] at hT3
        obtain ⟨rfl, hr3⟩ := hT3
        have HR3 := hid hr3
        have HF : Hid (dFill ((1 : Nat) : Int) r = some (⟨1, n, ⟨#[]⟩⟩, r3)) := hid (by simp [dFill, hd])
        clear hr3 hd
        have q1 := cell_obj (i := 1) HX3.out rfl
        have p1 := free_obj (i := 1) HX3.out
        go_upto_region 11 with (fail)
        clear q1 p1
        have HR5 := hid (HR3.out.other (p := ⟨X, 1, none⟩) HXR.out (.int .i64 n))
        have HO5 := hid ((keeps_other (p := ⟨X, 1, none⟩) w3 (.int .i64 n)).obj HXO.out HO3.out)
        have HX5 := hid (obj_setCell (i := 1) HX3.out (.int .i64 n))
        have HK5 := hid (HK3.out.setCell (p := ⟨X, 1, none⟩) (.inr HXW.out) (.int .i64 n))
        simp only [List.setIfInBounds_toArray, List.set] at HX5
        generalize w3.setCell ⟨X, 1, none⟩ (.int .i64 n) = w5 at *
        have r0 := cell_obj (i := 0) HO5.out rfl
        have r1 := cell_obj (i := 1) HO5.out rfl
        have r2 := cell_obj (i := 2) HO5.out rfl
        have z0 := free_obj (i := 0) HO5.out
        have z1 := free_obj (i := 1) HO5.out
        have z2 := free_obj (i := 2) HO5.out
        have q0 := cell_obj (i := 0) HX5.out rfl
        have q1 := cell_obj (i := 1) HX5.out rfl
        have q2 := cell_obj (i := 2) HX5.out rfl
        have p0 := free_obj (i := 0) HX5.out
        have p1 := free_obj (i := 1) HX5.out
        have p2 := free_obj (i := 2) HX5.out
        obtain ⟨vb, hob, -⟩ := HR5.out
        have x1 := cell_obj (i := 1) hob (v := .bool false) rfl
        have y1 := free_obj (i := 1) hob
        clear hob
        go_wp2_with fail
        refine (valid_any ⟨1, n, ⟨#[]⟩⟩ _).mono ?_
        rintro e w4 ⟨rfl, hL4⟩
        clear r0 r1 r2 z0 z1 z2 q0 q1 q2 p0 p1 p2 x1 y1
        have HR4 := hid (HR5.out.later hL4)
        have HO4 := hid (hL4.obj HO5.out)
        have HX4 := hid (hL4.obj HX5.out)
        have HK4 := hid (HK5.out.more hL4)
        clear hL4
        have r0 := cell_obj (i := 0) HO4.out rfl
        have r1 := cell_obj (i := 1) HO4.out rfl
        have r2 := cell_obj (i := 2) HO4.out rfl
        have z0 := free_obj (i := 0) HO4.out
        have z1 := free_obj (i := 1) HO4.out
        have z2 := free_obj (i := 2) HO4.out
        have q0 := cell_obj (i := 0) HX4.out rfl
        have q1 := cell_obj (i := 1) HX4.out rfl
        have q2 := cell_obj (i := 2) HX4.out rfl
        have p0 := free_obj (i := 0) HX4.out
        have p1 := free_obj (i := 1) HX4.out
        have p2 := free_obj (i := 2) HX4.out
        obtain ⟨vb, hob, -⟩ := HR4.out
        have x1 := cell_obj (i := 1) hob (v := .bool false) rfl
        have y1 := free_obj (i := 1) hob
        clear hob
        cases hv : validV ⟨1, n, ⟨#[]⟩⟩ with
        | false =>
          have HD : Hid (dVal (ch :: r) = none) := hid (by simp only [dVal]; rw [← HM.out, HF.out]; simp [hv])
          clear hv
          go_wp2_with fail
          refine bodyPost_ret (v := zeroV.v) ?_ rfl (valueTo_no HD.out rfl ((HR4.out.put true).1.others HT.out _ _ _) (keeps_others (HK4.out.trans (HR4.out.put true).2) (Nat.le_refl _) _ _ _))
          rw [results_cell2 (t := 2) (ty := 25) rfl]
          go_simp
          try exact ⟨rfl, rfl, rfl⟩
        | true =>
          have HD : Hid (dVal (ch :: r) = some (⟨1, n, ⟨#[]⟩⟩, _)) := hid (by simp only [dVal]; rw [← HM.out, HF.out]; simp only [hv, if_true]; rfl)
          clear hv
          go_wp2_with fail
          refine bodyPost_ret (v := (⟨1, n, ⟨#[]⟩⟩ : Val).v) ?_ rfl (valueTo_yes HD.out rfl ((HR4.out.put false).1.others HT.out _ _ _) (keeps_others (HK4.out.trans (HR4.out.put false).2) (Nat.le_refl _) _ _ _))
          rw [results_cell2 (t := 2) (ty := 25) rfl]
          go_simp
          try exact ⟨rfl, rfl, rfl⟩
    by_cases hm2 : m = 2
    · subst hm2
      have q0 := cell_obj (i := 0) HX.out rfl
      go_wp2_with fail
      clear q0
      refine (read_int R r _ HR1.out).mono ?_
      rintro e w3 ⟨hk3, hT3⟩
      have HO3 := hid (hk3.obj (Nat.ne_of_gt HT.out) HO.out)
      have HX3 := hid (hk3.obj (Nat.ne_of_gt HXR.out) HX.out)
      have HK3 := hid (HK1.out.trans hk3)
      clear hk3
      cases hd : dInt r with
      | none =>
        rw [hd] at hT3
        obtain ⟨rfl, r3, hr3⟩ := hT3
        have HR3 := hid hr3
        have HD : Hid (dVal (ch :: r) = none) := hid (by simp only [dVal]; rw [← HM.out]; simp [dFill, hd])
        clear hr3 hd
        have r0 := cell_obj (i := 0) HO3.out rfl
        have r1 := cell_obj (i := 1) HO3.out rfl
        have r2 := cell_obj (i := 2) HO3.out rfl
        have z0 := free_obj (i := 0) HO3.out
        have z1 := free_obj (i := 1) HO3.out
        have z2 := free_obj (i := 2) HO3.out
        have q0 := cell_obj (i := 0) HX3.out rfl
        have q1 := cell_obj (i := 1) HX3.out rfl
        have q2 := cell_obj (i := 2) HX3.out rfl
        have p0 := free_obj (i := 0) HX3.out
        have p1 := free_obj (i := 1) HX3.out
        have p2 := free_obj (i := 2) HX3.out
        obtain ⟨vb, hob, -⟩ := HR3.out
        have x1 := cell_obj (i := 1) hob (v := .bool true) rfl
        have y1 := free_obj (i := 1) hob
        clear hob
        go_wp2_with fail
        refine bodyPost_ret (v := zeroV.v) ?_ rfl (valueTo_no HD.out rfl (((HR3.out.other HXR.out _).put true).1.others HT.out _ _ _) (keeps_others ((HK3.out.setCell (p := ⟨X, _, none⟩) (.inr HXW.out) _).trans ((HR3.out.other HXR.out _).put true).2) (Nat.le_refl _) _ _ _))
        rw [results_cell2 (t := 2) (ty := 25) rfl]
        go_simp
        try exact ⟨rfl, rfl, rfl⟩
      | some pr =>
        obtain ⟨n, r3⟩ := pr
        rw [hd] at hT3
        obtain ⟨rfl, hr3⟩ := hT3
        have HR3 := hid hr3
        have HF : Hid (dFill ((2 : Nat) : Int) r = some (⟨2, n, ⟨#[]⟩⟩, r3)) := hid (by simp [dFill, hd])
        clear hr3 hd
        have q1 := cell_obj (i := 1) HX3.out rfl
        have p1 := free_obj (i := 1) HX3.out
        go_upto_region 11 with (fail)
        clear q1 p1
        have HR5 := hid (HR3.out.other (p := ⟨X, 1, none⟩) HXR.out (.int .i64 n))
        have HO5 := hid ((keeps_other (p := ⟨X, 1, none⟩) w3 (.int .i64 n)).obj HXO.out HO3.out)
        have HX5 := hid (obj_setCell (i := 1) HX3.out (.int .i64 n))
        have HK5 := hid (HK3.out.setCell (p := ⟨X, 1, none⟩) (.inr HXW.out) (.int .i64 n))
        simp only [List.setIfInBounds_toArray, List.set] at HX5
        generalize w3.setCell ⟨X, 1, none⟩ (.int .i64 n) = w5 at *
        have r0 := cell_obj (i := 0) HO5.out rfl
        have r1 := cell_obj (i := 1) HO5.out rfl
        have r2 := cell_obj (i := 2) HO5.out rfl
        have z0 := free_obj (i := 0) HO5.out
        have z1 := free_obj (i := 1) HO5.out
        have z2 := free_obj (i := 2) HO5.out
        have q0 := cell_obj (i := 0) HX5.out rfl
        have q1 := cell_obj (i := 1) HX5.out rfl
        have q2 := cell_obj (i := 2) HX5.out rfl
        have p0 := free_obj (i := 0) HX5.out
        have p1 := free_obj (i := 1) HX5.out
        have p2 := free_obj (i := 2) HX5.out
        obtain ⟨vb, hob, -⟩ := HR5.out
        have x1 := cell_obj (i := 1) hob (v := .bool false) rfl
        have y1 := free_obj (i := 1) hob
        clear hob
        go_wp2_with fail
        refine (valid_any ⟨2, n, ⟨#[]⟩⟩ _).mono ?_
        rintro e w4 ⟨rfl, hL4⟩
        clear r0 r1 r2 z0 z1 z2 q0 q1 q2 p0 p1 p2 x1 y1
        have HR4 := hid (HR5.out.later hL4)
        have HO4 := hid (hL4.obj HO5.out)
        have HX4 := hid (hL4.obj HX5.out)
        have HK4 := hid (HK5.out.more hL4)
        clear hL4
        have r0 := cell_obj (i := 0) HO4.out rfl
        have r1 := cell_obj (i := 1) HO4.out rfl
        have r2 := cell_obj (i := 2) HO4.out rfl
        have z0 := free_obj (i := 0) HO4.out
        have z1 := free_obj (i := 1) HO4.out
        have z2 := free_obj (i := 2) HO4.out
        have q0 := cell_obj (i := 0) HX4.out rfl
        have q1 := cell_obj (i := 1) HX4.out rfl
        have q2 := cell_obj (i := 2) HX4.out rfl
        have p0 := free_obj (i := 0) HX4.out
        have p1 := free_obj (i := 1) HX4.out
        have p2 := free_obj (i := 2) HX4.out
        obtain ⟨vb, hob, -⟩ := HR4.out
        have x1 := cell_obj (i := 1) hob (v := .bool false) rfl
        have y1 := free_obj (i := 1) hob
        clear hob
        cases hv : validV ⟨2, n, ⟨#[]⟩⟩ with
        | false =>
          have HD : Hid (dVal (ch :: r) = none) := hid (by simp only [dVal]; rw [← HM.out, HF.out]; simp [hv])
          clear hv
          go_wp2_with fail
          refine bodyPost_ret (v := zeroV.v) ?_ rfl (valueTo_no HD.out rfl ((HR4.out.put true).1.others HT.out _ _ _) (keeps_others (HK4.out.trans (HR4.out.put true).2) (Nat.le_refl _) _ _ _))
          rw [results_cell2 (t := 2) (ty := 25) rfl]
          go_simp
          try exact ⟨rfl, rfl, rfl⟩
        | true =>
          have HD : Hid (dVal (ch :: r) = some (⟨2, n, ⟨#[]⟩⟩, _)) := hid (by simp only [dVal]; rw [← HM.out, HF.out]; simp only [hv, if_true]; rfl)
          clear hv
          go_wp2_with fail
          refine bodyPost_ret (v := (⟨2, n, ⟨#[]⟩⟩ : Val).v) ?_ rfl (valueTo_yes HD.out rfl ((HR4.out.put false).1.others HT.out _ _ _) (keeps_others (HK4.out.trans (HR4.out.put false).2) (Nat.le_refl _) _ _ _))
          rw [results_cell2 (t := 2) (ty := 25) rfl]
          go_simp
          try exact ⟨rfl, rfl, rfl⟩
    by_cases hm3 : m = 3
    · subst hm3
      have q0 := cell_obj (i := 0) HX.out rfl
      go_wp2_with fail
      clear q0
      refine (read_text R r _ HR1.out).mono ?_
      rintro e w3 ⟨hk3, hT3⟩
      have HO3 := hid (hk3.obj (Nat.ne_of_gt HT.out) HO.out)
      have HX3 := hid (hk3.obj (Nat.ne_of_gt HXR.out) HX.out)
      have HK3 := hid (HK1.out.trans hk3)
      clear hk3
      cases hd : dText r with
      | none =>
        rw [hd] at hT3
        obtain ⟨rfl, r3, hr3⟩ := hT3
        have HR3 := hid hr3
        have HD : Hid (dVal (ch :: r) = none) := hid (by simp only [dVal]; rw [← HM.out]; simp [dFill, hd])
        clear hr3 hd
        have r0 := cell_obj (i := 0) HO3.out rfl
        have r1 := cell_obj (i := 1) HO3.out rfl
        have r2 := cell_obj (i := 2) HO3.out rfl
        have z0 := free_obj (i := 0) HO3.out
        have z1 := free_obj (i := 1) HO3.out
        have z2 := free_obj (i := 2) HO3.out
        have q0 := cell_obj (i := 0) HX3.out rfl
        have q1 := cell_obj (i := 1) HX3.out rfl
        have q2 := cell_obj (i := 2) HX3.out rfl
        have p0 := free_obj (i := 0) HX3.out
        have p1 := free_obj (i := 1) HX3.out
        have p2 := free_obj (i := 2) HX3.out
        obtain ⟨vb, hob, -⟩ := HR3.out
        have x1 := cell_obj (i := 1) hob (v := .bool true) rfl
        have y1 := free_obj (i := 1) hob
        clear hob
        go_wp2_with fail
        refine bodyPost_ret (v := zeroV.v) ?_ rfl (valueTo_no HD.out rfl (((HR3.out.other HXR.out _).put true).1.others HT.out _ _ _) (keeps_others ((HK3.out.setCell (p := ⟨X, _, none⟩) (.inr HXW.out) _).trans ((HR3.out.other HXR.out _).put true).2) (Nat.le_refl _) _ _ _))
        rw [results_cell2 (t := 2) (ty := 25) rfl]
        go_simp
        try exact ⟨rfl, rfl, rfl⟩
      | some pr =>
        obtain ⟨n, r3⟩ := pr
        rw [hd] at hT3
        obtain ⟨rfl, hr3⟩ := hT3
        have HR3 := hid hr3
        have HF : Hid (dFill ((3 : Nat) : Int) r = some (⟨3, 0, n⟩, r3)) := hid (by simp [dFill, hd])
        clear hr3 hd
        have q2 := cell_obj (i := 2) HX3.out rfl
        have p2 := free_obj (i := 2) HX3.out
        go_upto_region 11 with (fail)
        clear q2 p2
        have HR5 := hid (HR3.out.other (p := ⟨X, 2, none⟩) HXR.out (.string n))
        have HO5 := hid ((keeps_other (p := ⟨X, 2, none⟩) w3 (.string n)).obj HXO.out HO3.out)
        have HX5 := hid (obj_setCell (i := 2) HX3.out (.string n))
        have HK5 := hid (HK3.out.setCell (p := ⟨X, 2, none⟩) (.inr HXW.out) (.string n))
        simp only [List.setIfInBounds_toArray, List.set] at HX5
        generalize w3.setCell ⟨X, 2, none⟩ (.string n) = w5 at *
        have r0 := cell_obj (i := 0) HO5.out rfl
        have r1 := cell_obj (i := 1) HO5.out rfl
        have r2 := cell_obj (i := 2) HO5.out rfl
        have z0 := free_obj (i := 0) HO5.out
        have z1 := free_obj (i := 1) HO5.out
        have z2 := free_obj (i := 2) HO5.out
        have q0 := cell_obj (i := 0) HX5.out rfl
        have q1 := cell_obj (i := 1) HX5.out rfl
        have q2 := cell_obj (i := 2) HX5.out rfl
        have p0 := free_obj (i := 0) HX5.out
        have p1 := free_obj (i := 1) HX5.out
        have p2 := free_obj (i := 2) HX5.out
        obtain ⟨vb, hob, -⟩ := HR5.out
        have x1 := cell_obj (i := 1) hob (v := .bool false) rfl
        have y1 := free_obj (i := 1) hob
        clear hob
        go_wp2_with fail
        refine (valid_any ⟨3, 0, n⟩ _).mono ?_
        rintro e w4 ⟨rfl, hL4⟩
        clear r0 r1 r2 z0 z1 z2 q0 q1 q2 p0 p1 p2 x1 y1
        have HR4 := hid (HR5.out.later hL4)
        have HO4 := hid (hL4.obj HO5.out)
        have HX4 := hid (hL4.obj HX5.out)
        have HK4 := hid (HK5.out.more hL4)
        clear hL4
        have r0 := cell_obj (i := 0) HO4.out rfl
        have r1 := cell_obj (i := 1) HO4.out rfl
        have r2 := cell_obj (i := 2) HO4.out rfl
        have z0 := free_obj (i := 0) HO4.out
        have z1 := free_obj (i := 1) HO4.out
        have z2 := free_obj (i := 2) HO4.out
        have q0 := cell_obj (i := 0) HX4.out rfl
        have q1 := cell_obj (i := 1) HX4.out rfl
        have q2 := cell_obj (i := 2) HX4.out rfl
        have p0 := free_obj (i := 0) HX4.out
        have p1 := free_obj (i := 1) HX4.out
        have p2 := free_obj (i := 2) HX4.out
        obtain ⟨vb, hob, -⟩ := HR4.out
        have x1 := cell_obj (i := 1) hob (v := .bool false) rfl
        have y1 := free_obj (i := 1) hob
        clear hob
        cases hv : validV ⟨3, 0, n⟩ with
        | false =>
          have HD : Hid (dVal (ch :: r) = none) := hid (by simp only [dVal]; rw [← HM.out, HF.out]; simp [hv])
          clear hv
          go_wp2_with fail
          refine bodyPost_ret (v := zeroV.v) ?_ rfl (valueTo_no HD.out rfl ((HR4.out.put true).1.others HT.out _ _ _) (keeps_others (HK4.out.trans (HR4.out.put true).2) (Nat.le_refl _) _ _ _))
          rw [results_cell2 (t := 2) (ty := 25) rfl]
          go_simp
          try exact ⟨rfl, rfl, rfl⟩
        | true =>
          have HD : Hid (dVal (ch :: r) = some (⟨3, 0, n⟩, _)) := hid (by simp only [dVal]; rw [← HM.out, HF.out]; simp only [hv, if_true]; rfl)
          clear hv
          go_wp2_with fail
          refine bodyPost_ret (v := (⟨3, 0, n⟩ : Val).v) ?_ rfl (valueTo_yes HD.out rfl ((HR4.out.put false).1.others HT.out _ _ _) (keeps_others (HK4.out.trans (HR4.out.put false).2) (Nat.le_refl _) _ _ _))
          rw [results_cell2 (t := 2) (ty := 25) rfl]
          go_simp
          try exact ⟨rfl, rfl, rfl⟩
    have h1' : ¬ (m : Int) = 1 := by omega
    have h2' : ¬ (m : Int) = 2 := by omega
    have h3' : ¬ (m : Int) = 3 := by omega
    have HF : Hid (dFill (m : Int) r = some (⟨m, 0, ⟨#[]⟩⟩, r)) := hid (by unfold dFill; rw [if_neg (by omega), if_neg (by omega)])
    clear hm1 hm2 hm3
    have r0 := cell_obj (i := 0) HO.out rfl
    have r1 := cell_obj (i := 1) HO.out rfl
    have r2 := cell_obj (i := 2) HO.out rfl
    have z0 := free_obj (i := 0) HO.out
    have z1 := free_obj (i := 1) HO.out
    have z2 := free_obj (i := 2) HO.out
    have q0 := cell_obj (i := 0) HX.out rfl
    have q1 := cell_obj (i := 1) HX.out rfl
    have q2 := cell_obj (i := 2) HX.out rfl
    have p0 := free_obj (i := 0) HX.out
    have p1 := free_obj (i := 1) HX.out
    have p2 := free_obj (i := 2) HX.out
    obtain ⟨vb, hob, -⟩ := HR1.out
    have x1 := cell_obj (i := 1) hob (v := .bool false) rfl
    have y1 := free_obj (i := 1) hob
    clear hob
    go_wp2_with fail
    refine (valid_any ⟨m, 0, ⟨#[]⟩⟩ _).mono ?_
    rintro e w4 ⟨rfl, hL4⟩
    clear r0 r1 r2 z0 z1 z2 q0 q1 q2 p0 p1 p2 x1 y1
    have HR4 := hid (HR1.out.later hL4)
    have HO4 := hid (hL4.obj HO.out)
    have HX4 := hid (hL4.obj HX.out)
    have HK4 := hid (HK1.out.more hL4)
    clear hL4
    have r0 := cell_obj (i := 0) HO4.out rfl
    have r1 := cell_obj (i := 1) HO4.out rfl
    have r2 := cell_obj (i := 2) HO4.out rfl
    have z0 := free_obj (i := 0) HO4.out
    have z1 := free_obj (i := 1) HO4.out
    have z2 := free_obj (i := 2) HO4.out
    have q0 := cell_obj (i := 0) HX4.out rfl
    have q1 := cell_obj (i := 1) HX4.out rfl
    have q2 := cell_obj (i := 2) HX4.out rfl
    have p0 := free_obj (i := 0) HX4.out
    have p1 := free_obj (i := 1) HX4.out
    have p2 := free_obj (i := 2) HX4.out
    obtain ⟨vb, hob, -⟩ := HR4.out
    have x1 := cell_obj (i := 1) hob (v := .bool false) rfl
    have y1 := free_obj (i := 1) hob
    clear hob
    cases hv : validV ⟨m, 0, ⟨#[]⟩⟩ with
    | false =>
      have HD : Hid (dVal (ch :: r) = none) := hid (by simp only [dVal]; rw [← HM.out, HF.out]; simp [hv])
      clear hv
      go_wp2_with fail
      refine bodyPost_ret (v := zeroV.v) ?_ rfl (valueTo_no HD.out rfl ((HR4.out.put true).1.others HT.out _ _ _) (keeps_others (HK4.out.trans (HR4.out.put true).2) (Nat.le_refl _) _ _ _))
      rw [results_cell2 (t := 2) (ty := 25) rfl]
      go_simp
      try exact ⟨rfl, rfl, rfl⟩
    | true =>
      have HD : Hid (dVal (ch :: r) = some (⟨m, 0, ⟨#[]⟩⟩, _)) := hid (by simp only [dVal]; rw [← HM.out, HF.out]; simp only [hv, if_true]; rfl)
      clear hv
      go_wp2_with fail
      refine bodyPost_ret (v := (⟨m, 0, ⟨#[]⟩⟩ : Val).v) ?_ rfl (valueTo_yes HD.out rfl ((HR4.out.put false).1.others HT.out _ _ _) (keeps_others (HK4.out.trans (HR4.out.put false).2) (Nat.le_refl _) _ _ _))
      rw [results_cell2 (t := 2) (ty := 25) rfl]
      go_simp
      try exact ⟨rfl, rfl, rfl⟩
end Go.Proofs.YtcmpjdnbjhkhdaaDoor
namespace Go.Proofs.YtcmpjdnbjhkhdaaDoor
set_option linter.unusedSimpArgs false
set_option linter.unusedVariables false
open Go Go.RowKit

theorem str_none {t : ByteArray} (h : str t = []) : t = ⟨#[]⟩ := by
  have : t.data.toList = [] := by
    have h2 : t.toList = [] := h
    rwa [Go.ByteArray.toList_eq] at h2
  rw [← strB_data t, this]
  rfl
theorem dText_enc (t : ByteArray) (h : t.size ≤ 9223372036854775807) (r : List UInt8) : dText (encText t ++ r) = some (t, r) := by
  unfold dText encText
  rw [List.append_assoc, dInt_enc (by omega) (by omega)]
  have hl : t.data.toList.length = t.size := by rw [Array.length_toList]; rfl
  simp only
  rw [if_neg (by rw [List.length_append]; omega)]
  simp only [Int.toNat_natCast]
  rw [← hl, List.take_left, List.drop_left]
  rfl
theorem dVal_enc {x : Val} (hv : validV x = true) (hn : -9223372036854775808 ≤ x.n ∧ x.n ≤ 9223372036854775807) (ht : x.t.size ≤ 9223372036854775807) (r : List UInt8) : dVal (encVal x ++ r) = some (x, r) := by
  obtain ⟨k, n, t⟩ := x
  simp only at hn ht
  have hk : k = 0 ∨ k = 1 ∨ k = 2 ∨ k = 3 := by
    unfold validV at hv
    simp only at hv
    split at hv
    · left; assumption
    · split at hv
      · right; left; assumption
      · split at hv
        · right; right; left; assumption
        · split at hv
          · right; right; right; assumption
          · cases hv
  have hv0 := hv
  rcases hk with rfl | rfl | rfl | rfl
  · simp [validV] at hv
    obtain ⟨rfl, ht0⟩ := hv
    obtain rfl := str_none ht0
    show (match dFill ((UInt8.ofNat ((0 : Int) % 256).toNat).toNat : Int) r with | none => none | some (v, r') => if validV v then some (v, r') else none) = _
    have : dFill ((UInt8.ofNat ((0 : Int) % 256).toNat).toNat : Int) r = some (⟨0, 0, ⟨#[]⟩⟩, r) := rfl
    rw [this]
    exact if_pos hv0
  · simp [validV] at hv
    obtain rfl := str_none hv
    simp only [encVal, List.cons_append, dVal]
    have : dFill ((UInt8.ofNat ((1 : Int) % 256).toNat).toNat : Int) (encInt n ++ r) = some (⟨1, n, ⟨#[]⟩⟩, r) := by
      show dFill 1 _ = _
      unfold dFill
      rw [if_pos (.inl rfl), dInt_enc hn.1 hn.2]
      rfl
    simp only [true_or, if_true]
    rw [this]
    exact if_pos hv0
  · simp [validV] at hv
    obtain rfl := str_none hv.1
    simp only [encVal, List.cons_append, dVal]
    have : dFill ((UInt8.ofNat ((2 : Int) % 256).toNat).toNat : Int) (encInt n ++ r) = some (⟨2, n, ⟨#[]⟩⟩, r) := by
      show dFill 2 _ = _
      unfold dFill
      rw [if_pos (.inr rfl), dInt_enc hn.1 hn.2]
      rfl
    simp only [or_true, if_true]
    rw [this]
    exact if_pos hv0
  · simp [validV] at hv
    obtain ⟨rfl, -⟩ := hv
    simp only [encVal, List.cons_append, dVal]
    have : dFill ((UInt8.ofNat ((3 : Int) % 256).toNat).toNat : Int) (encText t ++ r) = some (⟨3, 0, t⟩, r) := by
      show dFill 3 _ = _
      unfold dFill
      rw [if_neg (by decide), if_pos rfl, dText_enc t ht]
      rfl
    simp only [show ¬ ((3 : Int) = 1 ∨ (3 : Int) = 2) by decide, if_false, if_true]
    rw [this]
    exact if_pos hv0
theorem dMany_enc {α : Type} {d : List UInt8 → Option (α × List UInt8)} {e : α → List UInt8} : ∀ (xs : List α) (r : List UInt8), (∀ x ∈ xs, ∀ r, d (e x ++ r) = some (x, r)) → dMany d xs.length (xs.flatMap e ++ r) = some (xs, r)
  | [], r, _ => rfl
  | x :: xs, r, h => by
    simp only [List.length_cons, List.flatMap_cons, List.append_assoc, dMany]
    rw [h x List.mem_cons_self]
    simp only
    rw [dMany_enc xs r fun y hy => h y (List.mem_cons_of_mem _ hy)]
    rfl
theorem valOk_int {x : Val} (h : ValOk x) : -9223372036854775808 ≤ x.n ∧ x.n ≤ 9223372036854775807 := by
  have := h.2.1
  simpa [Lit.wf, IntKind.min, IntKind.max, IntKind.bits, IntKind.signed] using this
theorem valOk_text {x : Val} (h : ValOk x) : x.t.size ≤ 9223372036854775807 := by
  have := h.2.2
  unfold maxLen at this
  omega
end Go.Proofs.YtcmpjdnbjhkhdaaDoor
namespace Go.Proofs.YtcmpjdnbjhkhdaaDoor
set_option linter.unusedSimpArgs false
set_option linter.unusedVariables false
open Go.RowKit

def RNewTo (w : World) (l : List UInt8) (e : Ending) (w' : World) : Prop := ∃ R, e = .returned (.pointer (some ⟨R, 0, none⟩)) ∧ RdB w' R false l ∧ w.heap.size ≤ R ∧ Later w w'
theorem read_new (v : Value) (l : List UInt8) (w : World) (h : IsBytes w v l) : Calls Tryd.prog 52 #[v] w (RNewTo w l) := by
  have hb := SliceOf.blt h
  have HB := hid hb
  obtain ⟨a, c, rfl, -⟩ := hb
  clear h
  go_enter Tryd.func52, Tryd.ntmps52
  go_wp2_with fail
  go_ret
  exact ⟨_, rfl, ⟨_, obj_new _ _, HB.out.bytes_later (Later.alloc _ _)⟩, Nat.le_refl _, Later.alloc _ _⟩
end Go.Proofs.YtcmpjdnbjhkhdaaDoor
