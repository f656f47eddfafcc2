/-
  PROVED HERE: the contracts of wire.Sum and of the document's Sum: both are the same sum.
-/
import Derived.Test.YtjpdmlopbflggaaWirePlain
import Derived.Test.YtjpdmlopbflggaaRows
namespace Go.Proofs.Ytjpdmlopbflggaa
open Go.RowKit

theorem ret_u32 {a b : Int} (h : a = b) : Ending.returned (.int .u32 a) = .returned (.int .u32 b) := by rw [h]
set_option maxRecDepth 100000 in
set_option maxHeartbeats 1500000 in
theorem sum_any (v : Value) (l : List UInt8) (w : World) (h : IsBytes w v l) : Calls Try.prog 16 #[v] w fun e w' => e = .returned (.int .u32 (crc l)) ∧ w = w' := by
  obtain ⟨p, c, rfl, hl, hc, -, hx⟩ := h
  have HX := hid hx
  clear hx
  unfold maxLen at hc
  go_enter Try.func16, Try.ntmps16
  go_wp2
  go_loop [8, 3] (fun i s => ∃ (k : Nat), k ≤ l.length ∧ i = .int .i64 k ∧ s = .int .u32 (crcFold 0xffffffff (l.take k))) (fun i _ => l.length - (intOf i).toNat)
  case atStart => exact ⟨0, by omega, rfl, rfl⟩
  case round =>
    obtain ⟨k, hk, rfl, rfl⟩ := hrel
    have hs : crcFold 0xffffffff (l.take k) < 2 ^ 32 := crcFold_lt _ (by decide)
    by_cases hlt : k < l.length
    · obtain ⟨b, o, rfl, -, hat⟩ := byte_cell HX.out hlt
      have hnn : (0 : Int) ≤ k := by omega
      have hxl := l[k].toNat_lt
      have HT : Hid (crcFold 0xffffffff (l.take (k + 1)) = stepN (crcFold 0xffffffff (l.take k) ^^^ l[k].toNat) 8) := hid (by rw [crcFold_take hlt, step_byte])
      have HX0 : Hid (bits .xor .u32 (crcFold 0xffffffff (l.take k)) l[k].toNat = ((crcFold 0xffffffff (l.take k) ^^^ l[k].toNat : Nat) : Int)) := hid (bits_u32 _ _ hs (by omega)).1
      have hx32 : crcFold 0xffffffff (l.take k) ^^^ l[k].toNat < 2 ^ 32 := Nat.xor_lt_two_pow hs (by omega)
      generalize crcFold 0xffffffff (l.take k) = s at *
      generalize l[k].toNat = x at *
      go_wp2
      go_loop [16, 3] (fun i t => ∃ (j : Nat), j ≤ 8 ∧ i = .int .i64 j ∧ t = .int .u32 (stepN (s ^^^ x) j)) (fun i _ => 8 - (intOf i).toNat)
      case atStart => exact ⟨0, by omega, rfl, congrArg (Value.int .u32) HX0.out⟩
      case round =>
        obtain ⟨j, hj, rfl, rfl⟩ := hrel
        by_cases hlt2 : j < 8
        · have ht := stepN_lt hx32 j
          have HS := hid (step_eq (stepN (s ^^^ x) j) ht)
          have HJ : Hid (stepN (s ^^^ x) (j + 1) = crcStep (stepN (s ^^^ x) j)) := hid rfl
          generalize stepN (s ^^^ x) j = t at *
          go_wp2
          go_round
          case rel => exact ⟨j + 1, by omega, by go_num, congrArg (Value.int .u32) (by rw [HJ.out]; exact HS.out)⟩
          case measure => simp [intOf]; omega
        · obtain rfl : j = 8 := by omega
          go_wp2
          go_round
          case rel => exact ⟨k + 1, by omega, by go_num, congrArg (Value.int .u32) (congrArg Int.ofNat HT.out.symm)⟩
          case measure => simp [intOf]; omega
    · have HL := hid (last_eq (crcFold 0xffffffff (l.take k)) hs)
      have HT : Hid (l.take k = l) := hid (List.take_of_length_le (by omega))
      go_wp2
      go_ret
      refine ⟨ret_u32 (HL.out.trans ?_), rfl⟩
      rw [HT.out]
      rfl

set_option maxRecDepth 100000 in
set_option maxHeartbeats 1500000 in
theorem ref_sum_any (v : Value) (l : List UInt8) (w : World) (h : IsBytes w v l) : Calls Try.prog 17 #[v] w fun e w' => e = .returned (.int .u32 (crc l)) ∧ w = w' := by
  obtain ⟨p, c, rfl, hl, hc, -, hx⟩ := h
  have HX := hid hx
  clear hx
  unfold maxLen at hc
  go_enter Try.func17, Try.ntmps17
  go_wp2
  go_loop [4, 3] (fun i s => ∃ (k : Nat), k ≤ l.length ∧ i = .int .i64 k ∧ s = .int .u32 (crcFold 0xffffffff (l.take k))) (fun i _ => l.length - (intOf i).toNat)
  case atStart => exact ⟨0, by omega, rfl, rfl⟩
  case round =>
    obtain ⟨k, hk, rfl, rfl⟩ := hrel
    have hs : crcFold 0xffffffff (l.take k) < 2 ^ 32 := crcFold_lt _ (by decide)
    by_cases hlt : k < l.length
    · obtain ⟨b, o, rfl, -, hat⟩ := byte_cell HX.out hlt
      have hnn : (0 : Int) ≤ k := by omega
      have hxl := l[k].toNat_lt
      have HT : Hid (crcFold 0xffffffff (l.take (k + 1)) = bitN (crcFold 0xffffffff (l.take k)) l[k].toNat 8) := hid (by rw [crcFold_take hlt]; rfl)
      generalize crcFold 0xffffffff (l.take k) = s at *
      generalize l[k].toNat = x at *
      go_wp2
      go_loop [5, 3] (fun i t => ∃ (j : Nat), j ≤ 8 ∧ i = .int .i64 j ∧ t = .int .u32 (bitN s x j)) (fun i _ => 8 - (intOf i).toNat)
      case atStart => exact ⟨0, by omega, rfl, rfl⟩
      case round =>
        obtain ⟨j, hj, rfl, rfl⟩ := hrel
        by_cases hlt2 : j < 8
        · have ht := bitN_lt (c := x) hs j
          have HJ : Hid (bitN s x (j + 1) = crcBit (bitN s x j) (x / 2 ^ j % 2)) := hid rfl
          generalize bitN s x j = t at *
          have hj0 : (0 : Int) ≤ j := by omega
          have hlow := low_eq t x j ht hxl
          have HF := hid (flip_eq t ht)
          have hh : ((t : Int) / 2) = ((t / 2 : Nat) : Int) := by omega
          have HH := hid hh
          clear hh
          by_cases hb : (t + x / 2 ^ j % 2) % 2 = 1
          · have hd : (bits .and .u32 (bits .xor .u32 (t : Int) (bits .and .u32 ((x : Int) / 2 ^ j % 4294967296) 1)) 1 == 1) = true := by rw [hlow, hb]; rfl
            have HJ2 : Hid (bitN s x (j + 1) = t / 2 ^^^ poly) := hid (by rw [HJ.out, crcBit, if_pos hb])
            clear hlow hb HJ
            go_wp2
            go_round
            case rel => exact ⟨j + 1, by omega, by go_num, congrArg (Value.int .u32) (by rw [HJ2.out]; exact HF.out)⟩
            case measure => simp [intOf]; omega
          · have hd : (bits .and .u32 (bits .xor .u32 (t : Int) (bits .and .u32 ((x : Int) / 2 ^ j % 4294967296) 1)) 1 == 1) = false := by
              rw [hlow]
              have : (t + x / 2 ^ j % 2) % 2 = 0 := by omega
              rw [this]; rfl
            have HJ2 : Hid (bitN s x (j + 1) = t / 2) := hid (by rw [HJ.out, crcBit, if_neg hb])
            clear hlow hb HJ
            go_wp2
            go_round
            case rel => exact ⟨j + 1, by omega, by go_num, congrArg (Value.int .u32) (by rw [HJ2.out]; exact HH.out)⟩
            case measure => simp [intOf]; omega
        · obtain rfl : j = 8 := by omega
          go_wp2
          go_round
          case rel => exact ⟨k + 1, by omega, by go_num, congrArg (Value.int .u32) (congrArg Int.ofNat HT.out.symm)⟩
          case measure => simp [intOf]; omega
    · have HT : Hid (l.take k = l) := hid (List.take_of_length_le (by omega))
      go_wp2
      go_ret
      refine ⟨ret_u32 ((end_eq _ hs).trans ?_), rfl⟩
      rw [HT.out]
      rfl
end Go.Proofs.Ytjpdmlopbflggaa
