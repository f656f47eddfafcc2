/-
  PROVED HERE: the remainder of bytes in plain Lean, two ways; four bytes as a number. No program of its own.
-/
import Derived.Test.YthfgjmdmcoogpaaDoorBytes
import Derived.Laws.BitsLemmas
namespace Go.Proofs.YthfgjmdmcoogpaaDoor
set_option linter.unusedSimpArgs false
set_option linter.unusedVariables false
open Go Go.RowKit

theorem wrap_u32 : ∀ n : Int, 0 ≤ n → n < 2 ^ 32 → IntKind.u32.wrap n = n := fun n h0 h1 => by
  simp [IntKind.wrap, IntKind.bits, IntKind.signed]; omega
theorem bits_u32 (a b : Nat) (ha : a < 2 ^ 32) (hb : b < 2 ^ 32) : bits .xor .u32 a b = ((a ^^^ b : Nat) : Int) ∧ bits .and .u32 a b = ((a &&& b : Nat) : Int) ∧ bits .or .u32 a b = ((a ||| b : Nat) : Int) := by
  have h := bits_nat .u32 32 (by decide) wrap_u32 a b ha hb
  refine ⟨?_, h.1, h.2⟩
  have ha' : a % 2 ^ IntKind.u32.bits = a := Nat.mod_eq_of_lt ha
  have hb' : b % 2 ^ IntKind.u32.bits = b := Nat.mod_eq_of_lt hb
  simp only [bits, BitVec.ofInt_natCast, BitVec.toNat_xor, BitVec.toNat_ofNat, ha', hb']
  have hx : a ^^^ b < 2 ^ 32 := Nat.xor_lt_two_pow ha hb
  exact wrap_u32 _ (Int.natCast_nonneg _) (by exact_mod_cast hx)

def poly : Nat := 0xedb88320
def crcStep (t : Nat) : Nat := if t % 2 = 1 then (t / 2) ^^^ poly else t / 2
def crcBit (s bit : Nat) : Nat := if (s + bit) % 2 = 1 then (s / 2) ^^^ poly else s / 2
def stepN (t : Nat) : Nat → Nat
  | 0 => t
  | k + 1 => crcStep (stepN t k)
def bitN (s c : Nat) : Nat → Nat
  | 0 => s
  | k + 1 => crcBit (bitN s c k) (c / 2 ^ k % 2)
def crcByte (s : Nat) (x : UInt8) : Nat := bitN s x.toNat 8
def crcFold (s : Nat) (l : List UInt8) : Nat := l.foldl crcByte s
def crc (l : List UInt8) : Nat := crcFold 0xffffffff l ^^^ 0xffffffff
theorem crcStep_lt {t : Nat} (h : t < 2 ^ 32) : crcStep t < 2 ^ 32 := by
  unfold crcStep
  split
  · exact Nat.xor_lt_two_pow (by omega) (by decide)
  · omega
theorem crcBit_lt {t b : Nat} (h : t < 2 ^ 32) : crcBit t b < 2 ^ 32 := by
  unfold crcBit
  split
  · exact Nat.xor_lt_two_pow (by omega) (by decide)
  · omega
theorem stepN_lt {t : Nat} (h : t < 2 ^ 32) : ∀ k, stepN t k < 2 ^ 32
  | 0 => h
  | k + 1 => crcStep_lt (stepN_lt h k)
theorem bitN_lt {s c : Nat} (h : s < 2 ^ 32) : ∀ k, bitN s c k < 2 ^ 32
  | 0 => h
  | k + 1 => crcBit_lt (bitN_lt h k)
theorem xor_half (a b : Nat) : (a ^^^ b) / 2 = (a / 2) ^^^ (b / 2) := by
  have := Nat.shiftRight_xor_distrib (a := a) (b := b) (i := 1)
  simpa [Nat.shiftRight_succ] using this
theorem xor_low (a b : Nat) : (a ^^^ b) % 2 = (a + b) % 2 := by
  have h := Nat.testBit_xor a b 0
  simp only [Nat.testBit_zero] at h
  rcases Nat.mod_two_eq_zero_or_one a with h1 | h1 <;> rcases Nat.mod_two_eq_zero_or_one b with h2 | h2 <;> rcases Nat.mod_two_eq_zero_or_one (a ^^^ b) with h3 | h3 <;> simp [h1, h2, h3] at h <;> omega
/-- eight steps of a state that the byte was laid over, and eight bits, are one. -/
theorem stepN_bitN (s c : Nat) : ∀ k, stepN (s ^^^ c) k = bitN s c k ^^^ (c / 2 ^ k)
  | 0 => by simp [stepN, bitN]
  | k + 1 => by
    have ih := stepN_bitN s c k
    simp only [stepN, bitN, ih, crcStep, crcBit, xor_half, xor_low]
    have e1 : c / 2 ^ k / 2 = c / 2 ^ (k + 1) := by rw [Nat.div_div_eq_div_mul, Nat.pow_succ]
    have e2 : (bitN s c k + c / 2 ^ k) % 2 = (bitN s c k + c / 2 ^ k % 2) % 2 := by omega
    rw [e1, e2]
    split
    · rw [Nat.xor_assoc, Nat.xor_assoc, Nat.xor_comm poly]
    · rfl
theorem step_byte (s : Nat) (x : UInt8) : stepN (s ^^^ x.toNat) 8 = crcByte s x := by
  rw [stepN_bitN, crcByte]
  have : x.toNat / 2 ^ 8 = 0 := Nat.div_eq_of_lt x.toNat_lt
  rw [this, Nat.xor_zero]
theorem crcByte_lt {s : Nat} (x : UInt8) (h : s < 2 ^ 32) : crcByte s x < 2 ^ 32 := bitN_lt h 8
theorem crcFold_lt {s : Nat} (l : List UInt8) (h : s < 2 ^ 32) : crcFold s l < 2 ^ 32 := by
  induction l generalizing s with
  | nil => exact h
  | cons x l ih => exact ih (crcByte_lt x h)
theorem crcFold_snoc (s : Nat) (l : List UInt8) (x : UInt8) : crcFold s (l ++ [x]) = crcByte (crcFold s l) x := by simp [crcFold, List.foldl_append]
theorem crcFold_take {s : Nat} {l : List UInt8} {k : Nat} (h : k < l.length) : crcFold s (l.take (k + 1)) = crcByte (crcFold s (l.take k)) l[k] := by
  rw [List.take_succ_eq_append_getElem h, crcFold_snoc]
theorem crc_lt (l : List UInt8) : crc l < 2 ^ 32 := Nat.xor_lt_two_pow (crcFold_lt l (by decide)) (by decide)

/-- what the program's step is. -/
theorem step_eq (s : Nat) (h : s < 2 ^ 32) : bits .xor .u32 ((s : Int) / 2) (bits .and .u32 3988292384 (-bits .and .u32 (s : Int) 1 % 4294967296)) = (crcStep s : Int) := by
  have e1 : bits .and .u32 (s : Int) 1 = ((s % 2 : Nat) : Int) := by
    have := (bits_u32 s 1 h (by decide)).2.1
    rw [Nat.and_one_is_mod] at this
    exact this
  rw [e1]
  have e0 : ((s : Int) / 2) = ((s / 2 : Nat) : Int) := by omega
  rw [e0]
  unfold crcStep
  rcases Nat.mod_two_eq_zero_or_one s with h2 | h2
  · rw [h2, if_neg (by decide)]
    have e2 : bits .and .u32 3988292384 (-((0 : Nat) : Int) % 4294967296) = ((0 : Nat) : Int) := by decide
    rw [e2, (bits_u32 _ _ (by omega) (by decide)).1, Nat.xor_zero]
  · rw [h2, if_pos rfl]
    have e2 : bits .and .u32 3988292384 (-((1 : Nat) : Int) % 4294967296) = ((poly : Nat) : Int) := by decide
    rw [e2, (bits_u32 _ _ (by omega) (by decide)).1]
theorem last_eq (s : Nat) (h : s < 2 ^ 32) : bits .xor .u32 IntKind.u32.max (s : Int) = ((s ^^^ 0xffffffff : Nat) : Int) := by
  have := (bits_u32 0xffffffff s (by decide) h).1
  rw [Nat.xor_comm] at this
  exact this
/-- the document's bit. -/
theorem low_eq (t x j : Nat) (ht : t < 2 ^ 32) (hx : x < 2 ^ 8) : bits .and .u32 (bits .xor .u32 (t : Int) (bits .and .u32 ((x : Int) / 2 ^ j % 4294967296) 1)) 1 = (((t + x / 2 ^ j % 2) % 2 : Nat) : Int) := by
  have hle : x / 2 ^ j ≤ x := Nat.div_le_self _ _
  have e0 : ((x : Int) / 2 ^ j % 4294967296) = ((x / 2 ^ j : Nat) : Int) := by
    have : ((x : Int) / 2 ^ j) = ((x / 2 ^ j : Nat) : Int) := by simp
    rw [this]
    generalize x / 2 ^ j = y at hle
    omega
  rw [e0]
  have e1 : bits .and .u32 ((x / 2 ^ j : Nat) : Int) 1 = ((x / 2 ^ j % 2 : Nat) : Int) := by
    have := (bits_u32 (x / 2 ^ j) 1 (by omega) (by decide)).2.1
    rw [Nat.and_one_is_mod] at this
    exact this
  have h3 : x / 2 ^ j % 2 < 2 ^ 32 := by omega
  rw [e1, (bits_u32 t (x / 2 ^ j % 2) ht h3).1]
  have h2 := (bits_u32 (t ^^^ (x / 2 ^ j % 2)) 1 (Nat.xor_lt_two_pow ht h3) (by decide)).2.1
  rw [Nat.and_one_is_mod, xor_low] at h2
  exact h2
theorem flip_eq (t : Nat) (ht : t < 2 ^ 32) : bits .xor .u32 ((t : Int) / 2) 3988292384 = ((t / 2 ^^^ poly : Nat) : Int) := by
  have e0 : ((t : Int) / 2) = ((t / 2 : Nat) : Int) := by omega
  rw [e0]
  exact (bits_u32 (t / 2) poly (by omega) (by decide)).1
theorem end_eq (s : Nat) (h : s < 2 ^ 32) : bits .xor .u32 (s : Int) 4294967295 = ((s ^^^ 0xffffffff : Nat) : Int) := (bits_u32 s 0xffffffff h (by decide)).1
/-- four bytes, the highest first, as a number. -/
def be4 (l : List UInt8) : Nat := (l.getD 0 0).toNat * 16777216 + (l.getD 1 0).toNat * 65536 + (l.getD 2 0).toNat * 256 + (l.getD 3 0).toNat
theorem be4_lt (l : List UInt8) : be4 l < 2 ^ 32 := by
  have h0 := (l.getD 0 0).toNat_lt; have h1 := (l.getD 1 0).toNat_lt; have h2 := (l.getD 2 0).toNat_lt; have h3 := (l.getD 3 0).toNat_lt
  unfold be4; omega
theorem word_eq (a b c d : Nat) (ha : a < 2 ^ 8) (hb : b < 2 ^ 8) (hc : c < 2 ^ 8) (hd : d < 2 ^ 8) :
    bits .or .u32 (bits .or .u32 (bits .or .u32 (IntKind.u32.wrap (IntKind.u32.wrap (a : Int) * 16777216)) (IntKind.u32.wrap (IntKind.u32.wrap (b : Int) * 65536))) (IntKind.u32.wrap (IntKind.u32.wrap (c : Int) * 256))) (IntKind.u32.wrap (d : Int)) =
      ((a * 16777216 + b * 65536 + c * 256 + d : Nat) : Int) := by
  have wr : ∀ n : Int, 0 ≤ n → n < 4294967296 → IntKind.u32.wrap n = n := fun n h0 h1 => wrap_u32 n h0 h1
  rw [wr (a : Int) (by omega) (by omega), wr (b : Int) (by omega) (by omega), wr (c : Int) (by omega) (by omega), wr (d : Int) (by omega) (by omega)]
  rw [wr ((a : Int) * 16777216) (by omega) (by omega), wr ((b : Int) * 65536) (by omega) (by omega), wr ((c : Int) * 256) (by omega) (by omega)]
  rw [bits_join .u32 32 (by decide) wrap_u32 24 ((a : Int) * 16777216) ((b : Int) * 65536) (by omega) (by omega) (by omega) (by omega) (by omega) (by omega)]
  rw [bits_join .u32 32 (by decide) wrap_u32 16 ((a : Int) * 16777216 + (b : Int) * 65536) ((c : Int) * 256) (by omega) (by omega) (by omega) (by omega) (by omega) (by omega)]
  rw [bits_join .u32 32 (by decide) wrap_u32 8 ((a : Int) * 16777216 + (b : Int) * 65536 + (c : Int) * 256) (d : Int) (by omega) (by omega) (by omega) (by omega) (by omega) (by omega)]
  simp
/-- a number as four bytes. -/
def w4 (n : Nat) : List UInt8 := [UInt8.ofNat (n / 16777216), UInt8.ofNat (n / 65536), UInt8.ofNat (n / 256), UInt8.ofNat n]
theorem w4_be4 {l : List UInt8} (h : l.length = 4) {n : Nat} (hn : n < 2 ^ 32) : w4 n = l ↔ n = be4 l := by
  match l, h with
  | [a, b, c, d], _ =>
    have ha := a.toNat_lt; have hb := b.toNat_lt; have hc := c.toNat_lt; have hd := d.toNat_lt
    simp only [w4, List.cons.injEq, and_true, be4, List.getD_cons_zero, List.getD_cons_succ]
    simp only [← UInt8.toNat_inj, UInt8.toNat_ofNat']
    omega
end Go.Proofs.YthfgjmdmcoogpaaDoor
