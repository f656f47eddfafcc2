/-
  PROVED HERE: the bytes of a checkpoint of a bulk are no more than so many. No program of its own.
-/
import Derived.Test.YthfgjmdmcoogpaaDoorDisk
namespace Go.Proofs.YthfgjmdmcoogpaaDoor
set_option linter.unusedSimpArgs false
set_option linter.unusedVariables false
open Go Go.RowKit

theorem offs_enc_len (l : List Off) : (l.flatMap encOff).length ≤ 9 * (l.map fun _ => 4).sum ∧ l.length ≤ (l.map fun _ => 4).sum := by
  induction l with
  | nil => simp
  | cons x l ih =>
    simp only [List.flatMap_cons, List.length_append, List.length_cons, List.map_cons, List.sum_cons]
    have : (encOff x).length ≤ 33 := by
      unfold encOff
      rw [List.length_append, List.length_append]
      have := encInt_length x.1; have := encInt_length x.2.1; have := encInt_length x.2.2
      omega
    omega
theorem helds_enc_len (l : List Held) : (l.flatMap encHeld).length ≤ 11 * (l.map Held.bulk).sum ∧ l.length ≤ (l.map Held.bulk).sum := by
  induction l with
  | nil => simp
  | cons x l ih =>
    simp only [List.flatMap_cons, List.length_append, List.length_cons, List.map_cons, List.sum_cons]
    have : (encHeld x).length ≤ 33 + x.bytes.length := by
      unfold encHeld
      rw [List.length_append, List.length_append, List.length_append]
      have := encInt_length x.node; have := encInt_length x.group; have := encInt_length x.bytes.length
      omega
    have h2 : Held.bulk x = x.bytes.length + 3 := rfl
    omega
theorem chk_enc_len (c : Chk) (h : (c.offs.map fun _ => 4).sum + (c.helds.map Held.bulk).sum ≤ 1048576) : (encChk c).length ≤ 20000000 ∧ c.offs.length ≤ 1048576 ∧ c.helds.length ≤ 1048576 := by
  have h1 := offs_enc_len c.offs
  have h2 := helds_enc_len c.helds
  unfold encChk
  simp only [List.length_append]
  have := encInt_length c.mark; have := encInt_length c.offs.length; have := encInt_length c.helds.length
  omega
theorem byte_of {a : Int} (h : (Lit.int .u8 a).wf = true) : ∃ c : UInt8, a = (c.toNat : Int) := by
  simp [Lit.wf, IntKind.min, IntKind.max, IntKind.bits, IntKind.signed] at h
  exact ⟨UInt8.ofNat a.toNat, by rw [UInt8.toNat_ofNat']; omega⟩
end Go.Proofs.YthfgjmdmcoogpaaDoor
