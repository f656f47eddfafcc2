/-
  PROVED HERE: the contract of wire.Sum.
-/
import Derived.Test.YthfgjmdmcoogpaaDoorWirePlain
import Derived.Test.YthfgjmdmcoogpaaDoorRows
namespace Go.Proofs.YthfgjmdmcoogpaaDoor
set_option linter.unusedSimpArgs false
set_option linter.unusedVariables false
open Go.RowKit

theorem ret_u32 {a b : Int} (h : a = b) : Ending.returned (.int .u32 a) = .returned (.int .u32 b) := by rw [h]
set_option maxRecDepth 100000 in
set_option maxHeartbeats 1000000 in
theorem sum_any (v : Value) (l : List UInt8) (w : World) (h : IsBytes w v l) : Calls Tryd.prog 78 #[v] w fun e w' => e = .returned (.int .u32 (crc l)) ∧ w = w' := by
  obtain ⟨p, c, rfl, hl, hc, -, hx⟩ := h
  have HX := hid hx
  clear hx
  unfold maxLen at hc
  go_enter Tryd.func78, Tryd.ntmps78
  go_wp2
  go_loop [8, 3] (fun i s => ∃ (k : Nat), k ≤ l.length ∧ i = .int .i64 k ∧ s = .int .u32 (crcFold 0xffffffff (l.take k))) (fun i _ => l.length - (intOf i).toNat)
  case atStart => exact ⟨0, by omega, rfl, rfl⟩
  case round =>
    obtain ⟨k, hk, rfl, rfl⟩ := hrel
    have hs : crcFold 0xffffffff (l.take k) < 2 ^ 32 := crcFold_lt _ (by decide)
    by_cases hlt : k < l.length
    · obtain ⟨b, o, rfl, -, hat⟩ := byte_cell HX.out hlt
      have hnn : (0 : Int) ≤ k := by omega
      have hxl := l[k].toNat_lt
      have HT : Hid (crcFold 0xffffffff (l.take (k + 1)) = stepN (crcFold 0xffffffff (l.take k) ^^^ l[k].toNat) 8) := hid (by rw [crcFold_take hlt, step_byte])
      have HX0 : Hid (bits .xor .u32 (crcFold 0xffffffff (l.take k)) l[k].toNat = ((crcFold 0xffffffff (l.take k) ^^^ l[k].toNat : Nat) : Int)) := hid (bits_u32 _ _ hs (by omega)).1
      have hx32 : crcFold 0xffffffff (l.take k) ^^^ l[k].toNat < 2 ^ 32 := Nat.xor_lt_two_pow hs (by omega)
      generalize crcFold 0xffffffff (l.take k) = s at *
      generalize l[k].toNat = x at *
      go_wp2
      go_loop [16, 3] (fun i t => ∃ (j : Nat), j ≤ 8 ∧ i = .int .i64 j ∧ t = .int .u32 (stepN (s ^^^ x) j)) (fun i _ => 8 - (intOf i).toNat)
      case atStart => exact ⟨0, by omega, rfl, congrArg (Value.int .u32) HX0.out⟩
      case round =>
        obtain ⟨j, hj, rfl, rfl⟩ := hrel
        by_cases hlt2 : j < 8
        · have ht := stepN_lt hx32 j
          have HS := hid (step_eq (stepN (s ^^^ x) j) ht)
          have HJ : Hid (stepN (s ^^^ x) (j + 1) = crcStep (stepN (s ^^^ x) j)) := hid rfl
          generalize stepN (s ^^^ x) j = t at *
          go_wp2
          go_round
          case rel => exact ⟨j + 1, by omega, by go_num, congrArg (Value.int .u32) (by rw [HJ.out]; exact HS.out)⟩
          case measure => simp [intOf]; omega
        · obtain rfl : j = 8 := by omega
          go_wp2
          go_round
          case rel => exact ⟨k + 1, by omega, by go_num, congrArg (Value.int .u32) (congrArg Int.ofNat HT.out.symm)⟩
          case measure => simp [intOf]; omega
    · have HL := hid (last_eq (crcFold 0xffffffff (l.take k)) hs)
      have HT : Hid (l.take k = l) := hid (List.take_of_length_le (by omega))
      go_wp2
      go_ret
      refine ⟨ret_u32 (HL.out.trans ?_), rfl⟩
      rw [HT.out]
      rfl

end Go.Proofs.YthfgjmdmcoogpaaDoor
