/-
  PROVED HERE: the order of values and rows in plain Lean: what the program's comparison gives is the sign that the document's order gives. No program of its own.
-/
import Derived.Test.YtbabfibmopfghaaGreatDoorData
namespace Go.Proofs.YtbabfibmopfghaaGreatDoor
set_option linter.unusedSimpArgs false
set_option linter.unusedVariables false
open Go Go.RowKit

def cmpI (a b : Int) : Int := if a < b then -1 else if b < a then 1 else 0
def orL (l : List Int) : Int := (l.find? (fun x => x != 0)).getD 0
def signI (less same : Bool) : Int := if same then 0 else if less then -1 else 1
def str (t : ByteArray) : List UInt8 := t.toList
def valEq (k n : Int) (t : ByteArray) (k' n' : Int) (t' : ByteArray) : Bool := k == k' && (n == n' && str t == str t')
def eqV (x y : Val) : Bool := valEq x.k x.n x.t y.k y.n y.t
def compareV (x y : Val) : Int := orL [cmpI x.k y.k, cmpI x.n y.n, Lib.compareBytes x.t.data.toList y.t.data.toList]
def beforeV (x y : Val) : Bool := if x.k = y.k then (if x.n = y.n then Op.bytesLess (str x.t) (str y.t) else decide (x.n < y.n)) else decide (x.k < y.k)
def compareL : List Val → List Val → Int
  | [], [] => 0
  | [], _ :: _ => -1
  | _ :: _, [] => 1
  | x :: a, y :: b => if compareV x y = 0 then compareL a b else compareV x y
def beforeL : List Val → List Val → Bool
  | _, [] => false
  | [], _ :: _ => true
  | x :: a, y :: b => if eqV x y then beforeL a b else beforeV x y
def compareR (x y : Row) : Int := orL [cmpI x.time y.time, compareL x.vals y.vals]
def beforeR (x y : Row) : Bool := if x.time = y.time then beforeL x.vals y.vals else decide (x.time < y.time)

theorem str_data (t : ByteArray) : t.data.toList = str t := by
  unfold str
  exact (ByteArray.toList_eq t).symm
theorem compareBytes_eq : ∀ (a b : List UInt8), Lib.compareBytes a b = signI (Op.bytesLess a b) (a == b)
  | [], [] => by simp [Lib.compareBytes, signI]
  | [], _ :: _ => by simp [Lib.compareBytes, signI, Op.bytesLess]
  | _ :: _, [] => by simp [Lib.compareBytes, signI, Op.bytesLess]
  | x :: a, y :: b => by
    have ih := compareBytes_eq a b
    unfold Lib.compareBytes
    by_cases h : x < y
    · have hne : ¬ x = y := fun e => by subst e; exact absurd h (UInt8.lt_irrefl _)
      simp [h, signI, Op.bytesLess, hne]
    · by_cases h' : y < x
      · have hne : ¬ x = y := fun e => by subst e; exact absurd h' (UInt8.lt_irrefl _)
        simp [h, h', signI, Op.bytesLess, hne]
      · have he : x = y := UInt8.le_antisymm (UInt8.not_lt.1 h') (UInt8.not_lt.1 h)
        subst he
        simp [h, ih, signI, Op.bytesLess]
theorem cmpI_eq (a b : Int) : cmpI a b = signI (decide (a < b)) (a == b) := by
  unfold cmpI signI
  by_cases h : a < b
  · have : ¬ a = b := by omega
    simp [h, this]
  · by_cases h' : b < a
    · have : ¬ a = b := by omega
      simp [h, h', this]
    · have : a = b := by omega
      subst this; simp
theorem orL3 (a b c : Int) : orL [a, b, c] = if a = 0 then (if b = 0 then c else b) else a := by
  unfold orL
  by_cases ha : a = 0
  · by_cases hb : b = 0
    · by_cases hc : c = 0 <;> simp [ha, hb, hc]
    · simp [ha, hb]
  · simp [ha]
theorem orL2 (a b : Int) : orL [a, b] = if a = 0 then b else a := by
  unfold orL
  by_cases ha : a = 0
  · by_cases hb : b = 0 <;> simp [ha, hb]
  · simp [ha]
theorem signI_zero {l s : Bool} : signI l s = 0 ↔ s = true := by cases l <;> cases s <;> simp [signI]
theorem compareV_eq (x y : Val) : compareV x y = signI (beforeV x y) (eqV x y) := by
  unfold compareV beforeV eqV valEq
  rw [orL3, cmpI_eq, cmpI_eq, compareBytes_eq, str_data, str_data]
  by_cases hk : x.k = y.k
  · by_cases hn : x.n = y.n
    · simp [hk, hn, signI_zero]
    · have hb : (x.n == y.n) = false := by simpa using hn
      simp [hk, hn, hb, signI]; intro h; split at h <;> simp at h
  · have hb : (x.k == y.k) = false := by simpa using hk
    simp [hk, hb, signI]; intro h; split at h <;> simp at h
theorem bytes_tri : ∀ (a b : List UInt8), (a == b) = (!Op.bytesLess a b && !Op.bytesLess b a)
  | [], [] => rfl
  | [], _ :: _ => rfl
  | _ :: _, [] => rfl
  | x :: a, y :: b => by
    have ih := bytes_tri a b
    simp only [Op.bytesLess]
    by_cases h : x < y
    · have hne : ¬ x = y := fun e => by subst e; exact absurd h (UInt8.lt_irrefl _)
      simp [h, hne]
    · by_cases h' : y < x
      · have hne : ¬ x = y := fun e => by subst e; exact absurd h' (UInt8.lt_irrefl _)
        simp [h, h', hne]
      · have he : x = y := UInt8.le_antisymm (UInt8.not_lt.1 h') (UInt8.not_lt.1 h)
        subst he
        simp [h, ih]
theorem eqV_tri (x y : Val) : eqV x y = (!beforeV x y && !beforeV y x) := by
  unfold eqV valEq beforeV
  by_cases hk : x.k = y.k
  · by_cases hn : x.n = y.n
    · simp [hk, hn, bytes_tri]
    · have hn' : ¬ y.n = x.n := fun e => hn e.symm
      have hb : (x.n == y.n) = false := by simpa using hn
      rw [hk]
      simp only [hn, hn', hb, beq_self_eq_true, Bool.true_and, Bool.false_and, if_true, if_false]
      rcases Int.lt_or_gt_of_ne hn with h | h
      · have : ¬ y.n < x.n := by omega
        simp [h]
      · have : ¬ x.n < y.n := by omega
        simp [h]
  · have hk' : ¬ y.k = x.k := fun e => hk e.symm
    have hb : (x.k == y.k) = false := by simpa using hk
    simp only [hk, hk', hb, Bool.false_and, if_false]
    rcases Int.lt_or_gt_of_ne hk with h | h
    · simp [h]
    · simp [h]
theorem eqV_comm (x y : Val) : eqV x y = eqV y x := by rw [eqV_tri, eqV_tri y x, Bool.and_comm]
theorem compareL_eq : ∀ (a b : List Val), compareL a b = signI (beforeL a b) (!beforeL a b && !beforeL b a)
  | [], [] => rfl
  | [], _ :: _ => rfl
  | _ :: _, [] => rfl
  | x :: a, y :: b => by
    have ih := compareL_eq a b
    simp only [compareL, beforeL]
    rw [compareV_eq, eqV_comm y x]
    by_cases he : eqV x y = true
    · simp [he, ih, signI_zero]
    · have he' : eqV x y = false := by simpa using he
      have ht := eqV_tri x y
      rw [he'] at ht
      simp only [he', signI_zero, Bool.false_eq_true, if_false, ← ht]
theorem compareR_eq (x y : Row) : compareR x y = signI (beforeR x y) (!beforeR x y && !beforeR y x) := by
  unfold compareR beforeR
  rw [orL2, cmpI_eq, compareL_eq]
  by_cases h : x.time = y.time
  · simp [h, signI_zero]
  · have h' : ¬ y.time = x.time := fun e => h e.symm
    have hb : (x.time == y.time) = false := by simpa using h
    simp only [h, h', hb, if_false]
    by_cases hl : x.time < y.time
    · have : ¬ y.time < x.time := by omega
      simp [hl, signI]
    · have : y.time < x.time := by omega
      simp [hl, this, signI]
end Go.Proofs.YtbabfibmopfghaaGreatDoor
