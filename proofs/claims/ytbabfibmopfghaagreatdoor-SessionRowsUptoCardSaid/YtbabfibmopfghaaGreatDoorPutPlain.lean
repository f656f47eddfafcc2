/-
  PROVED HERE: numbers, values, rows as bytes, in plain Lean. No program of its own.
-/
import Derived.Test.YtbabfibmopfghaaGreatDoorBytes
import Derived.Laws.BitsLemmas
import Derived.Laws.Bits64
namespace Go.Proofs.YtbabfibmopfghaaGreatDoor
set_option linter.unusedSimpArgs false
set_option linter.unusedVariables false
open Go Go.RowKit

/-- seven bits a byte, the low ones first. -/
def encN : Nat → Nat → List UInt8
  | 0, u => [UInt8.ofNat u]
  | k + 1, u => if u < 128 then [UInt8.ofNat u] else UInt8.ofNat (u % 128 + 128) :: encN k (u / 128)
theorem encN_stable : ∀ (k u : Nat), u < 128 ^ (k + 1) → encN k u = encN (k + 1) u
  | 0, u, h => by
    have h' : u < 128 := by simpa using h
    simp [encN, h']
  | k + 1, u, h => by
    by_cases hu : u < 128
    · simp [encN, hu]
    · have h' : u / 128 < 128 ^ (k + 1) := Nat.div_lt_of_lt_mul (by rw [Nat.pow_succ] at h; omega)
      have ih := encN_stable k (u / 128) h'
      rw [encN, encN, if_neg hu, if_neg hu, ih]
def encU (u : Nat) : List UInt8 := encN 10 u
theorem encU_lt {u : Nat} (h : u < 128) : encU u = [UInt8.ofNat u] := by rw [encU, encN, if_pos h]
theorem encU_ge {u : Nat} (h : ¬ u < 128) (h64 : u < 2 ^ 64) : encU u = UInt8.ofNat (u % 128 + 128) :: encU (u / 128) := by
  have e : encN 9 (u / 128) = encN 10 (u / 128) := encN_stable 9 _ (by omega)
  rw [encU, encN, if_neg h, e]
  rfl
theorem encN_length : ∀ (k u : Nat), (encN k u).length ≤ k + 1
  | 0, u => by simp [encN]
  | k + 1, u => by
    rw [encN]
    split
    · simp
    · have := encN_length k (u / 128)
      simp only [List.length_cons]; omega
theorem encU_length (u : Nat) : (encU u).length ≤ 11 := encN_length 10 u
/-- a number with its sign in the lowest bit. -/
def zz (n : Int) : Nat := if 0 ≤ n then (2 * n).toNat else (-2 * n - 1).toNat
def encInt (n : Int) : List UInt8 := encU (zz n)
theorem encInt_length (n : Int) : (encInt n).length ≤ 11 := encU_length _
theorem zz_lt {n : Int} (h1 : -9223372036854775808 ≤ n) (h2 : n ≤ 9223372036854775807) : zz n < 2 ^ 64 := by
  unfold zz; split <;> omega
def encText (s : ByteArray) : List UInt8 := encInt s.size ++ s.data.toList
def encVal (x : Val) : List UInt8 :=
  UInt8.ofNat (x.k % 256).toNat :: (if x.k = 1 ∨ x.k = 2 then encInt x.n else if x.k = 3 then encText x.t else [])
def encVals (l : List Val) : List UInt8 := l.flatMap encVal
def encRow (r : Row) : List UInt8 := encInt r.time ++ encInt r.vals.length ++ encVals r.vals
def encRowList (l : List Row) : List UInt8 := l.flatMap encRow
def encRows (l : List Row) : List UInt8 := encInt l.length ++ encRowList l
theorem encVals_take {l : List Val} {k : Nat} (h : k < l.length) : encVals (l.take (k + 1)) = encVals (l.take k) ++ encVal l[k] := by
  rw [List.take_succ_eq_append_getElem h, encVals, List.flatMap_append]; simp [encVals]
theorem encRowList_take {l : List Row} {k : Nat} (h : k < l.length) : encRowList (l.take (k + 1)) = encRowList (l.take k) ++ encRow l[k] := by
  rw [List.take_succ_eq_append_getElem h, encRowList, List.flatMap_append]; simp [encRowList]
theorem byteCells_append (l m : List UInt8) : byteCells (l ++ m) = byteCells l ++ byteCells m := by simp [byteCells]

theorem bits_xor_u64 (a b : Nat) (ha : a < 2 ^ 64) (hb : b < 2 ^ 64) : bits .xor .u64 a b = ((a ^^^ b : Nat) : Int) := bits_xor_u64_nat a b ha hb
theorem xor_ones (a : Nat) (h : a < 2 ^ 64) : a ^^^ (2 ^ 64 - 1) = 2 ^ 64 - 1 - a := by
  have h1 := congrArg BitVec.toNat (BitVec.xor_allOnes (x := BitVec.ofNat 64 a))
  rw [BitVec.toNat_xor, BitVec.toNat_not, BitVec.toNat_ofNat, BitVec.toNat_allOnes, Nat.mod_eq_of_lt h] at h1
  exact h1
/-- bits of one byte. -/
theorem or128 (u : Nat) : bits .or .u8 (IntKind.u8.wrap (u : Int)) 128 = ((UInt8.ofNat (u % 128 + 128)).toNat : Int) := by
  have hw : IntKind.u8.wrap (u : Int) = ((u % 256 : Nat) : Int) := by rw [IntKind.wrap_u8]; omega
  rw [hw]
  have h := (bits_nat .u8 8 (by decide) wraps_u8 (u % 256) 128 (by omega) (by decide)).2
  have e : ((128 : Nat) : Int) = 128 := rfl
  rw [e] at h
  rw [h]
  have hd : ∀ x : Fin 256, x.val ||| 128 = x.val % 128 + 128 := by decide +kernel
  have hd' := hd ⟨u % 256, by omega⟩
  simp only at hd'
  rw [hd', UInt8.toNat_ofNat']
  omega
/-- what the program's first step makes of a number. -/
theorem zz_eq_pos {n : Int} (h0 : 0 ≤ n) (h2 : n ≤ 9223372036854775807) : (zz n : Int) = 2 * n := by unfold zz; rw [if_pos h0]; omega
theorem zz_eq_neg {n : Int} (h0 : n < 0) : (zz n : Int) = -2 * n - 1 := by unfold zz; rw [if_neg (by omega)]; omega
theorem zz_walk {n : Int} (h1 : -9223372036854775808 ≤ n) (h2 : n ≤ 9223372036854775807) :
    bits .xor .u64 (IntKind.u64.wrap (IntKind.u64.wrap n * 2)) (IntKind.u64.wrap (n / 9223372036854775808)) = (zz n : Int) := by
  simp only [IntKind.wrap_u64]
  by_cases h0 : 0 ≤ n
  · have hz := zz_eq_pos h0 h2
    have e1 : n % 18446744073709551616 * 2 % 18446744073709551616 = ((zz n : Nat) : Int) := by omega
    have e2 : n / 9223372036854775808 % 18446744073709551616 = ((0 : Nat) : Int) := by omega
    rw [e1, e2, bits_xor_u64 _ _ (zz_lt h1 h2) (by decide), Nat.xor_zero]
  · have hz := zz_eq_neg (n := n) (by omega)
    have hl := zz_lt h1 h2
    have e1 : n % 18446744073709551616 * 2 % 18446744073709551616 = ((2 ^ 64 - 1 - zz n : Nat) : Int) := by omega
    have e2 : n / 9223372036854775808 % 18446744073709551616 = ((2 ^ 64 - 1 : Nat) : Int) := by omega
    rw [e1, e2, bits_xor_u64 _ _ (by omega) (by decide), xor_ones _ (by omega)]
    omega
theorem zz_ref {n : Int} (h1 : -9223372036854775808 ≤ n) (h0 : n < 0) : bits .xor .u64 IntKind.u64.max (IntKind.u64.wrap (IntKind.u64.wrap n * 2)) = (zz n : Int) := by
  have hz := zz_eq_neg (n := n) h0
  have hl := zz_lt h1 (by omega)
  have em : IntKind.u64.max = ((2 ^ 64 - 1 : Nat) : Int) := by decide
  have e1 : IntKind.u64.wrap (IntKind.u64.wrap n * 2) = ((2 ^ 64 - 1 - zz n : Nat) : Int) := by simp only [IntKind.wrap_u64]; omega
  rw [em, e1, bits_xor_u64 _ _ (by decide) (by omega), Nat.xor_comm, xor_ones _ (by omega)]
  omega
theorem encN_pos : ∀ k u, 0 < (encN k u).length
  | 0, _ => by simp [encN]
  | k + 1, u => by rw [encN]; split <;> simp
theorem encInt_pos (n : Int) : 0 < (encInt n).length := encN_pos 10 _
theorem encRows_pos (l : List Row) : 0 < (encRows l).length := by have := encInt_pos (l.length : Int); rw [encRows, List.length_append]; omega
theorem strB_append (l m : List UInt8) : strB l ++ strB m = strB (l ++ m) := by
  apply ByteArray.ext
  apply Array.ext'
  simp [strB]
end Go.Proofs.YtbabfibmopfghaaGreatDoor
