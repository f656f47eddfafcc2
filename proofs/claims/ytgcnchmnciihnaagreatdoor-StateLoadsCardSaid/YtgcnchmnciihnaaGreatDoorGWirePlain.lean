/-
  PROVED HERE: the remainder of bytes in plain Lean, two ways; four bytes as a number. No program of its own.
  PROVED HERE: the contract of wire.Sum.
  PROVED HERE: the contract of wire.word.
  PROVED HERE: the contract of wire.Open.
-/
import Derived.Test.YtgcnchmnciihnaaGreatDoorGOpen
import Derived.Laws.BitsLemmas
import Derived.Test.YtgcnchmnciihnaaGreatDoorRows
import Derived.Test.YtgcnchmnciihnaaGreatDoorGU8
import Derived.Lib.EndianBits
import Derived.OwnWalk
import Derived.Test.YtgcnchmnciihnaaGreatDoorGErr
namespace Go.Proofs.YtgcnchmnciihnaaGreatDoor
set_option linter.unusedSimpArgs false
set_option linter.unusedVariables false
open Go Go.RowKit

theorem wrap_u32 : ∀ n : Int, 0 ≤ n → n < 2 ^ 32 → IntKind.u32.wrap n = n := fun n h0 h1 => by
  simp [IntKind.wrap, IntKind.bits, IntKind.signed]; omega
theorem bits_u32 (a b : Nat) (ha : a < 2 ^ 32) (hb : b < 2 ^ 32) : bits .xor .u32 a b = ((a ^^^ b : Nat) : Int) ∧ bits .and .u32 a b = ((a &&& b : Nat) : Int) ∧ bits .or .u32 a b = ((a ||| b : Nat) : Int) := by
  have h := bits_nat .u32 32 (by decide) wrap_u32 a b ha hb
  refine ⟨?_, h.1, h.2⟩
  have ha' : a % 2 ^ IntKind.u32.bits = a := Nat.mod_eq_of_lt ha
  have hb' : b % 2 ^ IntKind.u32.bits = b := Nat.mod_eq_of_lt hb
  simp only [bits, BitVec.ofInt_natCast, BitVec.toNat_xor, BitVec.toNat_ofNat, ha', hb']
  have hx : a ^^^ b < 2 ^ 32 := Nat.xor_lt_two_pow ha hb
  exact wrap_u32 _ (Int.natCast_nonneg _) (by exact_mod_cast hx)

def poly : Nat := 0xedb88320
def crcStep (t : Nat) : Nat := if t % 2 = 1 then (t / 2) ^^^ poly else t / 2
def crcBit (s bit : Nat) : Nat := if (s + bit) % 2 = 1 then (s / 2) ^^^ poly else s / 2
def stepN (t : Nat) : Nat → Nat
  | 0 => t
  | k + 1 => crcStep (stepN t k)
def bitN (s c : Nat) : Nat → Nat
  | 0 => s
  | k + 1 => crcBit (bitN s c k) (c / 2 ^ k % 2)
def crcByte (s : Nat) (x : UInt8) : Nat := bitN s x.toNat 8
def crcFold (s : Nat) (l : List UInt8) : Nat := l.foldl crcByte s
def crc (l : List UInt8) : Nat := crcFold 0xffffffff l ^^^ 0xffffffff
theorem crcStep_lt {t : Nat} (h : t < 2 ^ 32) : crcStep t < 2 ^ 32 := by
  unfold crcStep
  split
  · exact Nat.xor_lt_two_pow (by omega) (by decide)
  · omega
theorem crcBit_lt {t b : Nat} (h : t < 2 ^ 32) : crcBit t b < 2 ^ 32 := by
  unfold crcBit
  split
  · exact Nat.xor_lt_two_pow (by omega) (by decide)
  · omega
theorem stepN_lt {t : Nat} (h : t < 2 ^ 32) : ∀ k, stepN t k < 2 ^ 32
  | 0 => h
  | k + 1 => crcStep_lt (stepN_lt h k)
theorem bitN_lt {s c : Nat} (h : s < 2 ^ 32) : ∀ k, bitN s c k < 2 ^ 32
  | 0 => h
  | k + 1 => crcBit_lt (bitN_lt h k)
theorem xor_half (a b : Nat) : (a ^^^ b) / 2 = (a / 2) ^^^ (b / 2) := by
  have := Nat.shiftRight_xor_distrib (a := a) (b := b) (i := 1)
  simpa [Nat.shiftRight_succ] using this
theorem xor_low (a b : Nat) : (a ^^^ b) % 2 = (a + b) % 2 := by
  have h := Nat.testBit_xor a b 0
  simp only [Nat.testBit_zero] at h
  rcases Nat.mod_two_eq_zero_or_one a with h1 | h1 <;> rcases Nat.mod_two_eq_zero_or_one b with h2 | h2 <;> rcases Nat.mod_two_eq_zero_or_one (a ^^^ b) with h3 | h3 <;> simp [h1, h2, h3] at h <;> omega
/-- eight steps of a state that the byte was laid over, and eight bits, are one. -/
theorem stepN_bitN (s c : Nat) : ∀ k, stepN (s ^^^ c) k = bitN s c k ^^^ (c / 2 ^ k)
  | 0 => by simp [stepN, bitN]
  | k + 1 => by
    have ih := stepN_bitN s c k
    simp only [stepN, bitN, ih, crcStep, crcBit, xor_half, xor_low]
    have e1 : c / 2 ^ k / 2 = c / 2 ^ (k + 1) := by rw [Nat.div_div_eq_div_mul, Nat.pow_succ]
    have e2 : (bitN s c k + c / 2 ^ k) % 2 = (bitN s c k + c / 2 ^ k % 2) % 2 := by omega
    rw [e1, e2]
    split
    · rw [Nat.xor_assoc, Nat.xor_assoc, Nat.xor_comm poly]
    · rfl
theorem step_byte (s : Nat) (x : UInt8) : stepN (s ^^^ x.toNat) 8 = crcByte s x := by
  rw [stepN_bitN, crcByte]
  have : x.toNat / 2 ^ 8 = 0 := Nat.div_eq_of_lt x.toNat_lt
  rw [this, Nat.xor_zero]
theorem crcByte_lt {s : Nat} (x : UInt8) (h : s < 2 ^ 32) : crcByte s x < 2 ^ 32 := bitN_lt h 8
theorem crcFold_lt {s : Nat} (l : List UInt8) (h : s < 2 ^ 32) : crcFold s l < 2 ^ 32 := by
  induction l generalizing s with
  | nil => exact h
  | cons x l ih => exact ih (crcByte_lt x h)
theorem crcFold_snoc (s : Nat) (l : List UInt8) (x : UInt8) : crcFold s (l ++ [x]) = crcByte (crcFold s l) x := by simp [crcFold, List.foldl_append]
theorem crcFold_take {s : Nat} {l : List UInt8} {k : Nat} (h : k < l.length) : crcFold s (l.take (k + 1)) = crcByte (crcFold s (l.take k)) l[k] := by
  rw [List.take_succ_eq_append_getElem h, crcFold_snoc]
theorem crc_lt (l : List UInt8) : crc l < 2 ^ 32 := Nat.xor_lt_two_pow (crcFold_lt l (by decide)) (by decide)

/-- what the program's step is. -/
theorem step_eq (s : Nat) (h : s < 2 ^ 32) : bits .xor .u32 ((s : Int) / 2) (bits .and .u32 3988292384 (-bits .and .u32 (s : Int) 1 % 4294967296)) = (crcStep s : Int) := by
  have e1 : bits .and .u32 (s : Int) 1 = ((s % 2 : Nat) : Int) := by
    have := (bits_u32 s 1 h (by decide)).2.1
    rw [Nat.and_one_is_mod] at this
    exact this
  rw [e1]
  have e0 : ((s : Int) / 2) = ((s / 2 : Nat) : Int) := by omega
  rw [e0]
  unfold crcStep
  rcases Nat.mod_two_eq_zero_or_one s with h2 | h2
  · rw [h2, if_neg (by decide)]
    have e2 : bits .and .u32 3988292384 (-((0 : Nat) : Int) % 4294967296) = ((0 : Nat) : Int) := by decide
    rw [e2, (bits_u32 _ _ (by omega) (by decide)).1, Nat.xor_zero]
  · rw [h2, if_pos rfl]
    have e2 : bits .and .u32 3988292384 (-((1 : Nat) : Int) % 4294967296) = ((poly : Nat) : Int) := by decide
    rw [e2, (bits_u32 _ _ (by omega) (by decide)).1]
theorem last_eq (s : Nat) (h : s < 2 ^ 32) : bits .xor .u32 IntKind.u32.max (s : Int) = ((s ^^^ 0xffffffff : Nat) : Int) := by
  have := (bits_u32 0xffffffff s (by decide) h).1
  rw [Nat.xor_comm] at this
  exact this
/-- the document's bit. -/
theorem low_eq (t x j : Nat) (ht : t < 2 ^ 32) (hx : x < 2 ^ 8) : bits .and .u32 (bits .xor .u32 (t : Int) (bits .and .u32 ((x : Int) / 2 ^ j % 4294967296) 1)) 1 = (((t + x / 2 ^ j % 2) % 2 : Nat) : Int) := by
  have hle : x / 2 ^ j ≤ x := Nat.div_le_self _ _
  have e0 : ((x : Int) / 2 ^ j % 4294967296) = ((x / 2 ^ j : Nat) : Int) := by
    have : ((x : Int) / 2 ^ j) = ((x / 2 ^ j : Nat) : Int) := by simp
    rw [this]
    generalize x / 2 ^ j = y at hle
    omega
  rw [e0]
  have e1 : bits .and .u32 ((x / 2 ^ j : Nat) : Int) 1 = ((x / 2 ^ j % 2 : Nat) : Int) := by
    have := (bits_u32 (x / 2 ^ j) 1 (by omega) (by decide)).2.1
    rw [Nat.and_one_is_mod] at this
    exact this
  have h3 : x / 2 ^ j % 2 < 2 ^ 32 := by omega
  rw [e1, (bits_u32 t (x / 2 ^ j % 2) ht h3).1]
  have h2 := (bits_u32 (t ^^^ (x / 2 ^ j % 2)) 1 (Nat.xor_lt_two_pow ht h3) (by decide)).2.1
  rw [Nat.and_one_is_mod, xor_low] at h2
  exact h2
theorem flip_eq (t : Nat) (ht : t < 2 ^ 32) : bits .xor .u32 ((t : Int) / 2) 3988292384 = ((t / 2 ^^^ poly : Nat) : Int) := by
  have e0 : ((t : Int) / 2) = ((t / 2 : Nat) : Int) := by omega
  rw [e0]
  exact (bits_u32 (t / 2) poly (by omega) (by decide)).1
theorem end_eq (s : Nat) (h : s < 2 ^ 32) : bits .xor .u32 (s : Int) 4294967295 = ((s ^^^ 0xffffffff : Nat) : Int) := (bits_u32 s 0xffffffff h (by decide)).1
/-- four bytes, the highest first, as a number. -/
def be4 (l : List UInt8) : Nat := (l.getD 0 0).toNat * 16777216 + (l.getD 1 0).toNat * 65536 + (l.getD 2 0).toNat * 256 + (l.getD 3 0).toNat
theorem be4_lt (l : List UInt8) : be4 l < 2 ^ 32 := by
  have h0 := (l.getD 0 0).toNat_lt; have h1 := (l.getD 1 0).toNat_lt; have h2 := (l.getD 2 0).toNat_lt; have h3 := (l.getD 3 0).toNat_lt
  unfold be4; omega
theorem word_eq (a b c d : Nat) (ha : a < 2 ^ 8) (hb : b < 2 ^ 8) (hc : c < 2 ^ 8) (hd : d < 2 ^ 8) :
    bits .or .u32 (bits .or .u32 (bits .or .u32 (IntKind.u32.wrap (IntKind.u32.wrap (a : Int) * 16777216)) (IntKind.u32.wrap (IntKind.u32.wrap (b : Int) * 65536))) (IntKind.u32.wrap (IntKind.u32.wrap (c : Int) * 256))) (IntKind.u32.wrap (d : Int)) =
      ((a * 16777216 + b * 65536 + c * 256 + d : Nat) : Int) := by
  have wr : ∀ n : Int, 0 ≤ n → n < 4294967296 → IntKind.u32.wrap n = n := fun n h0 h1 => wrap_u32 n h0 h1
  rw [wr (a : Int) (by omega) (by omega), wr (b : Int) (by omega) (by omega), wr (c : Int) (by omega) (by omega), wr (d : Int) (by omega) (by omega)]
  rw [wr ((a : Int) * 16777216) (by omega) (by omega), wr ((b : Int) * 65536) (by omega) (by omega), wr ((c : Int) * 256) (by omega) (by omega)]
  rw [bits_join .u32 32 (by decide) wrap_u32 24 ((a : Int) * 16777216) ((b : Int) * 65536) (by omega) (by omega) (by omega) (by omega) (by omega) (by omega)]
  rw [bits_join .u32 32 (by decide) wrap_u32 16 ((a : Int) * 16777216 + (b : Int) * 65536) ((c : Int) * 256) (by omega) (by omega) (by omega) (by omega) (by omega) (by omega)]
  rw [bits_join .u32 32 (by decide) wrap_u32 8 ((a : Int) * 16777216 + (b : Int) * 65536 + (c : Int) * 256) (d : Int) (by omega) (by omega) (by omega) (by omega) (by omega) (by omega)]
  simp
/-- a number as four bytes. -/
def w4 (n : Nat) : List UInt8 := [UInt8.ofNat (n / 16777216), UInt8.ofNat (n / 65536), UInt8.ofNat (n / 256), UInt8.ofNat n]
theorem w4_be4 {l : List UInt8} (h : l.length = 4) {n : Nat} (hn : n < 2 ^ 32) : w4 n = l ↔ n = be4 l := by
  match l, h with
  | [a, b, c, d], _ =>
    have ha := a.toNat_lt; have hb := b.toNat_lt; have hc := c.toNat_lt; have hd := d.toNat_lt
    simp only [w4, List.cons.injEq, and_true, be4, List.getD_cons_zero, List.getD_cons_succ]
    simp only [← UInt8.toNat_inj, UInt8.toNat_ofNat']
    omega
end Go.Proofs.YtgcnchmnciihnaaGreatDoor
namespace Go.Proofs.YtgcnchmnciihnaaGreatDoor
set_option linter.unusedSimpArgs false
set_option linter.unusedVariables false
open Go.RowKit

theorem ret_u32 {a b : Int} (h : a = b) : Ending.returned (.int .u32 a) = .returned (.int .u32 b) := by rw [h]
set_option maxRecDepth 100000 in
set_option maxHeartbeats 1000000 in
theorem sum_any (v : Value) (l : List UInt8) (w : World) (h : IsBytes w v l) : Calls Tryz.prog 49 #[v] w fun e w' => e = .returned (.int .u32 (crc l)) ∧ w = w' := by
  obtain ⟨p, c, rfl, hl, hc, -, hx⟩ := h
  have HX := hid hx
  clear hx
  unfold maxLen at hc
  go_enter Tryz.func49, Tryz.ntmps49
  go_wp2
  go_loop [8, 3] (fun i s => ∃ (k : Nat), k ≤ l.length ∧ i = .int .i64 k ∧ s = .int .u32 (crcFold 0xffffffff (l.take k))) (fun i _ => l.length - (intOf i).toNat)
  case atStart => exact ⟨0, by omega, rfl, rfl⟩
  case round =>
    obtain ⟨k, hk, rfl, rfl⟩ := hrel
    have hs : crcFold 0xffffffff (l.take k) < 2 ^ 32 := crcFold_lt _ (by decide)
    by_cases hlt : k < l.length
    · obtain ⟨b, o, rfl, -, hat⟩ := byte_cell HX.out hlt
      have hnn : (0 : Int) ≤ k := by omega
      have hxl := l[k].toNat_lt
      have HT : Hid (crcFold 0xffffffff (l.take (k + 1)) = stepN (crcFold 0xffffffff (l.take k) ^^^ l[k].toNat) 8) := hid (by rw [crcFold_take hlt, step_byte])
      have HX0 : Hid (bits .xor .u32 (crcFold 0xffffffff (l.take k)) l[k].toNat = ((crcFold 0xffffffff (l.take k) ^^^ l[k].toNat : Nat) : Int)) := hid (bits_u32 _ _ hs (by omega)).1
      have hx32 : crcFold 0xffffffff (l.take k) ^^^ l[k].toNat < 2 ^ 32 := Nat.xor_lt_two_pow hs (by omega)
      generalize crcFold 0xffffffff (l.take k) = s at *
      generalize l[k].toNat = x at *
      go_wp2
      go_loop [16, 3] (fun i t => ∃ (j : Nat), j ≤ 8 ∧ i = .int .i64 j ∧ t = .int .u32 (stepN (s ^^^ x) j)) (fun i _ => 8 - (intOf i).toNat)
      case atStart => exact ⟨0, by omega, rfl, congrArg (Value.int .u32) HX0.out⟩
      case round =>
        obtain ⟨j, hj, rfl, rfl⟩ := hrel
        by_cases hlt2 : j < 8
        · have ht := stepN_lt hx32 j
          have HS := hid (step_eq (stepN (s ^^^ x) j) ht)
          have HJ : Hid (stepN (s ^^^ x) (j + 1) = crcStep (stepN (s ^^^ x) j)) := hid rfl
          generalize stepN (s ^^^ x) j = t at *
          go_wp2
          go_round
          case rel => exact ⟨j + 1, by omega, by go_num, congrArg (Value.int .u32) (by rw [HJ.out]; exact HS.out)⟩
          case measure => simp [intOf]; omega
        · obtain rfl : j = 8 := by omega
          go_wp2
          go_round
          case rel => exact ⟨k + 1, by omega, by go_num, congrArg (Value.int .u32) (congrArg Int.ofNat HT.out.symm)⟩
          case measure => simp [intOf]; omega
    · have HL := hid (last_eq (crcFold 0xffffffff (l.take k)) hs)
      have HT : Hid (l.take k = l) := hid (List.take_of_length_le (by omega))
      go_wp2
      go_ret
      refine ⟨ret_u32 (HL.out.trans ?_), rfl⟩
      rw [HT.out]
      rfl

end Go.Proofs.YtgcnchmnciihnaaGreatDoor
namespace Go.Proofs.YtgcnchmnciihnaaGreatDoor
set_option linter.unusedSimpArgs false
set_option linter.unusedVariables false
open Go.RowKit

def WordTo (w : World) (n : Nat) (e : Ending) (w' : World) : Prop := e = .returned (.int .u32 n) ∧ Later w w'
set_option maxRecDepth 100000 in
set_option maxHeartbeats 1000000 in
theorem word_any (v : Value) (l : List UInt8) (w : World) (h : IsBytes w v l) (h4 : 4 ≤ l.length) : Calls Tryz.prog 78 #[v] w (WordTo w (be4 l)) := by
  obtain ⟨p, c, rfl, hl, hc, -, hx⟩ := h
  have HB : Hid (be4 l = l[0].toNat * 16777216 + l[1].toNat * 65536 + l[2].toNat * 256 + l[3].toNat) := hid (by
    unfold be4
    have e0 : 0 < l.length := by omega
    have e1 : 1 < l.length := by omega
    have e2 : 2 < l.length := by omega
    have e3 : 3 < l.length := by omega
    simp [List.getD, e0, e1, e2, e3])
  obtain ⟨b, o, rfl, -, c0⟩ := byte_cell hx (k := 0) (by omega)
  obtain ⟨b1, o1, hb1, -, c1⟩ := byte_cell hx (k := 1) (by omega)
  obtain ⟨b2, o2, hb2, -, c2⟩ := byte_cell hx (k := 2) (by omega)
  obtain ⟨b3, o3, hb3, -, c3⟩ := byte_cell hx (k := 3) (by omega)
  simp only [Option.some.injEq, Addr.mk.injEq, and_true] at hb1 hb2 hb3
  obtain ⟨rfl, rfl⟩ := hb1; obtain ⟨rfl, rfl⟩ := hb2; obtain ⟨rfl, rfl⟩ := hb3
  have x0 := l[0].toNat_lt; have x1 := l[1].toNat_lt; have x2 := l[2].toNat_lt; have x3 := l[3].toNat_lt
  clear hx
  generalize l[0].toNat = y0 at *
  generalize l[1].toNat = y1 at *
  generalize l[2].toNat = y2 at *
  generalize l[3].toNat = y3 at *
  simp only [Nat.add_zero] at c0
  unfold maxLen at hc
  have hlen : (l.length : Int) ≤ 9223372036854775807 := by omega
  have g0 : 0 < l.length := by omega
  have g1 : (1 : Int) < l.length := by omega
  have g2 : (2 : Int) < l.length := by omega
  have g3 : (3 : Int) < l.length := by omega
  go_enter Tryz.func78, Tryz.ntmps78
  go_wp2_with fail
  refine wp_region_lex (by kernel_rfl) (by kernel_rfl) Later Later.refl Later.trans (fun _ => none) (fun _ _ _ _ _ h => by cases h) ?_
  simp only [numbered, Nat.reduceAdd]
  iterate 23
    first
    | (refine Lex.skip rfl ?_; simp only [Act.put, List.setIfInBounds_toArray, List.set])
    | (refine Lex.one' rfl rfl ?_
       apply Exists.intro
       refine ⟨fun w hR hF => ?_, ?_⟩
       · have hP := hR
         repeat (first | replace hP := Later.of_drew hP | replace hP := Later.of_drewN hP | replace hP := Later.of_alloc hP)
         have hcs := hR.cells
         have zc0 := hP.cell c0
         have zc1 := hP.cell c1
         have zc2 := hP.cell c2
         have zc3 := hP.cell c3
         clear hR hF hP
         go_simp
         first | done | rfl
       simp only [Act.put, List.setIfInBounds_toArray, List.set])
  intro w2 hR2 hF9
  clear hF9
  go_wp2_with fail
  go_ret
  unfold WordTo
  rw [HB.out]
  exact ⟨ret_u32 (word_eq y0 y1 y2 y3 x0 x1 x2 x3), Later.of_drew hR2⟩

end Go.Proofs.YtgcnchmnciihnaaGreatDoor
namespace Go.Proofs.YtgcnchmnciihnaaGreatDoor
set_option linter.unusedSimpArgs false
set_option linter.unusedVariables false
open Go.RowKit

theorem word_i64 (a b c d : Nat) (ha : a < 2 ^ 8) (hb : b < 2 ^ 8) (hc : c < 2 ^ 8) (hd : d < 2 ^ 8) :
    IntKind.i64.wrap (IntKind.i64.wrap (IntKind.i64.wrap (IntKind.i64.wrap (IntKind.i64.wrap (a : Int) * 16777216) + IntKind.i64.wrap (IntKind.i64.wrap (b : Int) * 65536)) + IntKind.i64.wrap (IntKind.i64.wrap (c : Int) * 256)) + IntKind.i64.wrap (d : Int)) =
      ((a * 16777216 + b * 65536 + c * 256 + d : Nat) : Int) := by
  have wr : ∀ n : Int, 0 ≤ n → n ≤ 9223372036854775807 → IntKind.i64.wrap n = n := fun n h0 h1 => IntWalk.i64_in n (by omega)
  rw [wr (a : Int) (by omega) (by omega), wr (b : Int) (by omega) (by omega), wr (c : Int) (by omega) (by omega), wr (d : Int) (by omega) (by omega)]
  rw [wr ((a : Int) * 16777216) (by omega) (by omega), wr ((b : Int) * 65536) (by omega) (by omega), wr ((c : Int) * 256) (by omega) (by omega)]
  rw [wr ((a : Int) * 16777216 + (b : Int) * 65536) (by omega) (by omega), wr ((a : Int) * 16777216 + (b : Int) * 65536 + (c : Int) * 256) (by omega) (by omega), wr ((a : Int) * 16777216 + (b : Int) * 65536 + (c : Int) * 256 + (d : Int)) (by omega) (by omega)]
  simp
/-- what stands sealed at a place. -/
def openB (l : List UInt8) (k : Int) : List UInt8 × Int × Int :=
  if k < 0 ∨ (l.length : Int) < k ∨ (l.length : Int) - k < 8 then ([], 0, 7)
  else if 134217728 < be4 (l.drop k.toNat) ∨ (l.length : Int) - k - 8 < be4 (l.drop k.toNat) then ([], 0, 7)
  else if crc ((l.take (k.toNat + 8 + be4 (l.drop k.toNat))).drop (k.toNat + 8)) = be4 (l.drop (k.toNat + 4)) then ((l.take (k.toNat + 8 + be4 (l.drop k.toNat))).drop (k.toNat + 8), k + 8 + be4 (l.drop k.toNat), 0)
  else ([], 0, 8)
def OpenTo (w : World) (r : List UInt8 × Int × Int) (e : Ending) (w' : World) : Prop :=
  ∃ v, e = .returned (.tuple #[v, .int .i64 r.2.1, errVal r.2.2]) ∧ w'.ownsRow w.heap.size 5 1 v r.1.length (byteCells r.1) ∧ Later w w'
theorem owns_nil (w : World) (B : Nat) (e : TypeId) : w.ownsRow B e 1 (.slice none 0 0) ([] : List UInt8).length (byteCells []) := ⟨rfl, .inl ⟨rfl, rfl⟩⟩

set_option maxRecDepth 100000 in
set_option maxHeartbeats 2000000 in
theorem open_any (v : Value) (l : List UInt8) (k : Int) (w : World) (h : IsBytes w v l) (hk : (Lit.int .i64 k).wf = true) : Calls Tryz.prog 50 #[v, .int .i64 k] w (OpenTo w (openB l k)) := by
  obtain ⟨ii, hi, hz0, hz1, hz2⟩ := info_parts infoU8
  have HI := hid hi; have HZ0 := hid hz0; have HZ1 := hid hz1; have HZ2 := hid hz2; clear hi hz0 hz1 hz2
  have HV := hid h
  obtain ⟨p, c, rfl, hl, hc, hpn, hx⟩ := h
  have HX := hid hx
  clear hx hpn
  have hlc : (l.length : Int) ≤ 9223372036854775807 := by unfold maxLen at hc; omega
  have hcc : (c : Int) ≤ 9223372036854775807 := by unfold maxLen at hc; omega
  clear hc
  have hk1 : -9223372036854775808 ≤ k ∧ k ≤ 9223372036854775807 := by simpa [Lit.wf, IntKind.min, IntKind.max, IntKind.bits, IntKind.signed] using hk
  obtain ⟨hk1, hk2⟩ := hk1
  by_cases h0 : k < 0
  · have HO : Hid (openB l k = ([], 0, 7)) := hid (by unfold openB; rw [if_pos (.inl h0)])
    go_enter Tryz.func50, Tryz.ntmps50
    go_wp2
    go_ret3
    rw [HO.out]
    exact ⟨_, rfl, owns_nil _ _ _, Later.refl _⟩
  by_cases h1 : (l.length : Int) < k
  · have HO : Hid (openB l k = ([], 0, 7)) := hid (by unfold openB; rw [if_pos (.inr (.inl h1))])
    go_enter Tryz.func50, Tryz.ntmps50
    go_wp2
    go_ret3
    rw [HO.out]
    exact ⟨_, rfl, owns_nil _ _ _, Later.refl _⟩
  obtain ⟨n, rfl⟩ := Int.eq_ofNat_of_zero_le (Int.not_lt.1 h0)
  by_cases h2 : (l.length : Int) - n < 8
  · have HO : Hid (openB l n = ([], 0, 7)) := hid (by unfold openB; rw [if_pos (.inr (.inr h2))])
    go_enter Tryz.func50, Tryz.ntmps50
    go_wp2
    go_ret3
    rw [HO.out]
    exact ⟨_, rfl, owns_nil _ _ _, Later.refl _⟩
  obtain ⟨b, o, rfl, -, -⟩ := HX.out 0 (by omega)
  have hc0 : ¬ c = n := by omega
  have hc4 : ¬ c = n + 4 := by omega
  have hnl : n ≤ l.length := by omega
  have hn4 : n + 4 ≤ l.length := by omega
  have s0 := hid (bytes_from HV.out (k := n) (by omega) hnl)
  have s4 := hid (bytes_from HV.out (k := n + 4) (by omega) hn4)
  obtain ⟨m, hm⟩ : ∃ m, m = be4 (l.drop n) := ⟨_, rfl⟩
  obtain ⟨s, hs⟩ : ∃ s, s = be4 (l.drop (n + 4)) := ⟨_, rfl⟩
  have hm32 : m < 2 ^ 32 := hm ▸ be4_lt _
  have hs32 : s < 2 ^ 32 := hs ▸ be4_lt _
  have HM := hid hm; have HS := hid hs
  clear hm hs
  have hnn : (0 : Int) ≤ n := by omega
  have hg4 : (0 : Int) ≤ n + 4 := by omega
  have hl4 : (n : Int) + 4 ≤ l.length := by omega
  have ht4 : ((n : Int) + 4).toNat = n + 4 := by omega
  have hw4 : IntKind.i64.wrap ((n : Int) + 4) = n + 4 := IntWalk.i64_in _ (by omega)
  go_enter Tryz.func50, Tryz.ntmps50
  go_wp2_with fail
  refine wp_region_lex (by kernel_rfl) (by kernel_rfl) Later Later.refl Later.trans (kinds [(3, fun v _ => v = .int .u32 m), (8, fun v _ => v = .int .u32 s)]) (kinds_still (by simp +contextual)) ?_
  simp only [numbered, Nat.reduceAdd]
  iterate 3
    first
    | (refine Lex.skip rfl ?_; simp only [Act.put, List.setIfInBounds_toArray, List.set])
    | (refine Lex.one' rfl rfl ?_
       apply Exists.intro
       refine ⟨fun w hR hF => ?_, ?_⟩
       · have hP := hR
         repeat (first | replace hP := Later.of_drew hP | replace hP := Later.of_drewN hP | replace hP := Later.of_alloc hP)
         have hcs := hR.cells
         clear hR hF hP
         go_simp
         first | done | rfl
       simp only [Act.put, List.setIfInBounds_toArray, List.set])
  refine Lex.anyEq rfl rfl (fun w hR hF => ?_) ?_
  · have hP := hR
    repeat (first | replace hP := Later.of_drew hP | replace hP := Later.of_drewN hP | replace hP := Later.of_alloc hP)
    have hcs := hR.cells
    clear hF hR
    unfold Runs
    go_simp
    unfold Yield
    refine (word_any _ _ _ (s0.out.bytes_later hP) (by rw [List.length_drop]; omega)).mono ?_
    rintro e w' ⟨rfl, hL7⟩
    exact ⟨_, rfl, hL7, (by rw [HM.out])⟩
  simp only [Act.put, List.setIfInBounds_toArray, List.set]
  iterate 4
    first
    | (refine Lex.skip rfl ?_; simp only [Act.put, List.setIfInBounds_toArray, List.set])
    | (refine Lex.one' rfl rfl ?_
       apply Exists.intro
       refine ⟨fun w hR hF => ?_, ?_⟩
       · have hP := hR
         repeat (first | replace hP := Later.of_drew hP | replace hP := Later.of_drewN hP | replace hP := Later.of_alloc hP)
         have hcs := hR.cells
         clear hR hF hP
         go_simp
         first | done | rfl
       simp only [Act.put, List.setIfInBounds_toArray, List.set])
  refine Lex.anyEq rfl rfl (fun w hR hF => ?_) ?_
  · have hP := hR
    repeat (first | replace hP := Later.of_drew hP | replace hP := Later.of_drewN hP | replace hP := Later.of_alloc hP)
    have hcs := hR.cells
    clear hF hR
    unfold Runs
    go_simp
    unfold Yield
    refine (word_any _ _ _ (s4.out.bytes_later hP) (by rw [List.length_drop]; omega)).mono ?_
    rintro e w' ⟨rfl, hL7⟩
    exact ⟨_, rfl, hL7, (by rw [HS.out])⟩
  simp only [Act.put, List.setIfInBounds_toArray, List.set]
  iterate 2
    first
    | (refine Lex.skip rfl ?_; simp only [Act.put, List.setIfInBounds_toArray, List.set])
    | (refine Lex.one' rfl rfl ?_
       apply Exists.intro
       refine ⟨fun w hR hF => ?_, ?_⟩
       · have hP := hR
         repeat (first | replace hP := Later.of_drew hP | replace hP := Later.of_drewN hP | replace hP := Later.of_alloc hP)
         have hcs := hR.cells
         clear hR hF hP
         go_simp
         first | done | rfl
       simp only [Act.put, List.setIfInBounds_toArray, List.set])
  intro w2 hR2 hF9
  clear hF9
  repeat (first | replace hR2 := Later.of_drew hR2 | replace hR2 := Later.of_drewN hR2 | replace hR2 := Later.of_alloc hR2)
  have HR2 := hid hR2
  clear hR2 s0 s4 hw4 ht4 hg4 hl4 hc0 hc4 hn4
  by_cases h3 : 134217728 < m
  · have HO : Hid (openB l n = ([], 0, 7)) := hid (by unfold openB; rw [if_neg (by omega), if_pos (.inl (by rw [Int.toNat_natCast, ← HM.out]; exact h3))])
    have h3' : (134217728 : Int) < m := by omega
    go_wp2
    go_ret3
    rw [HO.out]
    exact ⟨_, rfl, owns_nil _ _ _, HR2.out⟩
  have h3' : ¬ (134217728 : Int) < m := by omega
  have hmi : IntKind.i64.wrap (m : Int) = m := IntWalk.i64_in _ (by omega)
  by_cases h4 : (l.length : Int) - n - 8 < m
  · have HO : Hid (openB l n = ([], 0, 7)) := hid (by unfold openB; rw [if_neg (by omega), if_pos (.inr (by rw [Int.toNat_natCast, ← HM.out]; exact h4))])
    go_wp2
    go_ret3
    rw [HO.out]
    exact ⟨_, rfl, owns_nil _ _ _, HR2.out⟩
  have HE : Hid (openB l n = if crc ((l.take (n + 8 + m)).drop (n + 8)) = s then ((l.take (n + 8 + m)).drop (n + 8), ((n : Int) + 8 + m), 0) else ([], 0, 8)) := hid (by
    unfold openB; rw [if_neg (by omega), if_neg (by rw [Int.toNat_natCast, ← HM.out]; omega)]; simp only [Int.toNat_natCast, ← HM.out, ← HS.out])
  have hlo : 0 ≤ (n : Int) + 8 := by omega
  have hhi : (n : Int) + 8 + m ≤ l.length := by omega
  have hhc : (n : Int) + 8 + m ≤ c := by omega
  have hlh : (n : Int) + 8 ≤ n + 8 + m := by omega
  have htl : ((n : Int) + 8).toNat = n + 8 := by omega
  have hth : ((n : Int) + 8 + m).toNat = n + 8 + m := by omega
  have hsub : n + 8 + m - (n + 8) = m := by omega
  obtain ⟨body, hbody⟩ : ∃ body, body = (l.take (n + 8 + m)).drop (n + 8) := ⟨_, rfl⟩
  have hbl : body.length = m := by rw [hbody, List.length_drop, List.length_take]; omega
  have HBL := hid hbl
  have HE' := HE.out
  rw [← hbody] at HE'
  have HE2 := hid HE'
  have HBD := hid hbody
  clear HE HE' hbl hbody
  have hsV : ∃ a, (if c = n + 8 then (some ⟨b, o, none⟩ : Option Addr) else some ⟨b, o + (n + 8), none⟩) = some a ∧ IsBytes w (.slice (some a) m (c - (n + 8))) body := by
    by_cases hcap : c = n + 8
    · rw [if_pos hcap]
      have := bytes_none HV.out hcap.symm (hi := n + 8 + m) (by omega) (by omega)
      rw [hsub, ← HBD.out] at this
      exact ⟨_, rfl, this⟩
    · rw [if_neg hcap]
      have := bytes_mid HV.out (lo := n + 8) (hi := n + 8 + m) (by omega) (by omega) (by omega)
      rw [hsub, ← HBD.out] at this
      exact ⟨_, rfl, this⟩
  obtain ⟨ad, hif, hVb⟩ := hsV
  have HVB := hid (hVb.bytes_later HR2.out)
  clear hVb
  go_wp2_with fail
  refine (sum_any _ body _ HVB.out).mono ?_
  rintro e w3 ⟨rfl, rfl⟩
  by_cases hcs : crc body = s
  · have hd : ((crc body : Int) != (s : Int)) = false := by rw [hcs]; simp
    have HE3 := hid HE2.out
    rw [if_pos hcs] at HE3
    have HE4 := hid HE3
    clear HE3 hcs
    go_wp2_with (at_builtin; refine wpList_append _ rfl _ _ 35 rfl w.heap.size 5 ii _ 1 1 Tryz.underlying35 HI.out HZ0.out HZ1.out HZ2.out rfl (by decide) (.slice none 0 0) 0 [] rfl (World.ownsRow_nil _ _ _ _) ad m (c - (n + 8)) (byteCells body) rfl ?c1 ?c2 ?c3 ?c4 ?c5 ?c6 ?_)
    case c1 => rw [byteCells_length, HBL.out, Nat.mul_one]
    case c2 => exact HVB.out.news rfl rfl
    case c3 => exact byteCells_one body
    case c4 => unfold maxLen; omega
    case c5 => omega
    case c6 => exact HR2.out.size
    intro v4 w4 hap
    have HA := hid hap
    clear hap
    go_wp2
    go_ret3
    rw [HE4.out]
    refine ⟨_, rfl, ?_, ?_⟩
    · show w4.ownsRow _ _ _ v4 body.length (byteCells body)
      rw [HBL.out]
      exact HA.out.own
    · exact Later.trans _ _ _ HR2.out (Keeps.later ((Keeps.of_grown HA.out.grown).mono fun _ _ _ => by simp [Value.ownBlock]))
  · have hd : ((crc body : Int) != (s : Int)) = true := by simp; omega
    have HE3 := HE2.out
    rw [if_neg hcs] at HE3
    have HE4 := hid HE3
    clear HE3 hcs
    go_wp2
    go_ret3
    rw [HE4.out]
    exact ⟨_, rfl, owns_nil _ _ _, HR2.out⟩

end Go.Proofs.YtgcnchmnciihnaaGreatDoor
