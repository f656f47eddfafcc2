/-
  PROVED HERE: the contract of wire.Reader.Int.
  PROVED HERE: the contracts of wire.Reader.Text, wire.Reader.Value.
-/
import Derived.Test.YtgcnchmnciihnaaGreatDoorGOrdTotal
import Derived.Test.YtgcnchmnciihnaaGreatDoorGRefQuote
namespace Go.Proofs.YtgcnchmnciihnaaGreatDoor
set_option linter.unusedSimpArgs false
set_option linter.unusedVariables false
open Go.RowKit

theorem took_one {w w' : World} {R : Nat} {ch : UInt8} {r : List UInt8} {e : Ending} (h : TookTo w R 1 (ch :: r) e w') :
    ∃ b o c, e = .returned (.slice (some ⟨b, o, none⟩) 1 c) ∧ w'.cell? ⟨b, o, none⟩ = some (.int .u8 (ch.toNat : Int)) ∧ RdB w' R false r ∧ Keeps (fun b => b ≠ R) w w' := by
  obtain ⟨v, rfl, hb, hr, hk⟩ := h
  obtain ⟨a, c, rfl, -, -, -, hel⟩ := hb
  obtain ⟨b, o, rfl, -, hx⟩ := hel 0 (by simp)
  exact ⟨b, o, c, rfl, by simpa [ByteAt] using hx, hr, hk⟩
theorem and127 : ∀ m : Fin 256, bits BinOp.and IntKind.u8 ((m.1 : Nat) : Int) 127 = ((m.1 % 128 : Nat) : Int) := by decide +kernel
theorem decN_go {k : Nat} {f : Bool} {c : UInt8} {r : List UInt8} (hc : 128 ≤ c.toNat) : decN (k + 1) f (c :: r) = (decN k false r).map fun p => (c.toNat - 128 + 128 * p.1, p.2) := by
  simp only [decN]
  rw [if_neg (by omega)]
/-- what is known of a number, when 'i' bytes of it were read. -/
def Part (l : List UInt8) (i : Nat) : Prop := decN 9 true l = (decN (9 - i) (decide (i = 0)) (l.drop i)).map fun p => (sumB (l.take i) + 128 ^ i * p.1, p.2)
theorem part_zero (l : List UInt8) : Part l 0 := by
  unfold Part
  simp [sumB]
theorem part_succ {l : List UInt8} {i : Nat} (h : Part l i) (hi : i < 9) (hl : i < l.length) (hc : 128 ≤ l[i].toNat) : Part l (i + 1) := by
  unfold Part at h ⊢
  obtain ⟨k, hk⟩ : ∃ k, 9 - i = k + 1 := ⟨8 - i, by omega⟩
  have hk' : 9 - (i + 1) = k := by omega
  rw [h, hk, hk', List.drop_eq_getElem_cons hl, decN_go hc, List.take_succ_eq_append_getElem hl, sumB_snoc]
  have hd : decide (i + 1 = 0) = false := by simp
  have h8 := l[i].toNat_lt
  have hm : l[i].toNat % 128 = l[i].toNat - 128 := by omega
  have htl : (l.take i).length = i := by rw [List.length_take]; omega
  rw [hd, hm, htl]
  cases hx : decN k false (l.drop (i + 1)) with
  | none => rfl
  | some p =>
    simp only [Option.map_some, Option.some.injEq, Prod.mk.injEq, and_true]
    rw [Nat.mul_add, Nat.pow_succ, Nat.mul_comm (128 ^ i) (l[i].toNat - 128), Nat.mul_assoc (128 ^ i) 128 p.1]
    omega
theorem part_end {l : List UInt8} {i : Nat} (h : Part l i) (hi : i < 9) (hl : i < l.length) (hc : l[i].toNat < 128) : dInt l = if l[i].toNat = 0 ∧ 0 < i then none else some (unzz (sumB (l.take (i + 1))), l.drop (i + 1)) := by
  unfold Part at h
  obtain ⟨k, hk⟩ : ∃ k, 9 - i = k + 1 := ⟨8 - i, by omega⟩
  have htl : (l.take i).length = i := by rw [List.length_take]; omega
  rw [hk, List.drop_eq_getElem_cons hl] at h
  simp only [decN] at h
  rw [if_pos hc] at h
  unfold dInt
  rw [h, List.take_succ_eq_append_getElem hl, sumB_snoc, htl, Nat.mod_eq_of_lt hc]
  by_cases h0 : l[i].toNat = 0 ∧ 0 < i
  · rw [if_pos h0, if_pos ⟨h0.1, by simp; omega⟩]; rfl
  · rw [if_neg h0, if_neg (by rintro ⟨h1, h2⟩; simp at h2; exact h0 ⟨h1, by omega⟩)]
    simp only [Option.map_some, Nat.mul_comm (128 ^ i)]
theorem part_nine {l : List UInt8} (h : Part l 9) (hl : 9 < l.length) : dInt l = if l[9].toNat = 1 then some (unzz (sumB (l.take 10)), l.drop 10) else none := by
  unfold Part at h
  have htl : (l.take 9).length = 9 := by rw [List.length_take]; omega
  rw [List.drop_eq_getElem_cons hl] at h
  simp only [Nat.sub_self, decN] at h
  unfold dInt
  rw [h, List.take_succ_eq_append_getElem hl, sumB_snoc, htl]
  by_cases h1 : l[9].toNat = 1
  · rw [if_pos h1, if_pos h1]; simp [h1]
  · rw [if_neg h1, if_neg h1]; rfl
theorem part_out {l : List UInt8} {i : Nat} (h : Part l i) (hl : i = l.length) : dInt l = none := by
  unfold Part at h
  unfold dInt
  rw [h, hl, List.drop_length]
  cases 9 - l.length <;> rfl

/-- what Int comes to. -/
def IntTo (w : World) (R : Nat) (l : List UInt8) (e : Ending) (w' : World) : Prop :=
  Keeps (fun b => b ≠ R) w w' ∧ match dInt l with
    | some (n, r) => e = .returned (.int .i64 n) ∧ RdB w' R false r
    | none => e = .returned (.int .i64 0) ∧ ∃ r, RdB w' R true r
theorem intTo_no {w w' : World} {R : Nat} {l r : List UInt8} {e : Ending} (h : dInt l = none) (he : e = .returned (.int .i64 0)) (hr : RdB w' R true r) (hk : Keeps (fun b => b ≠ R) w w') : IntTo w R l e w' := by
  unfold IntTo
  rw [h]
  exact ⟨hk, he, r, hr⟩
theorem intTo_yes {w w' : World} {R : Nat} {l r : List UInt8} {n : Int} {e : Ending} (h : dInt l = some (n, r)) (he : e = .returned (.int .i64 n)) (hr : RdB w' R false r) (hk : Keeps (fun b => b ≠ R) w w') : IntTo w R l e w' := by
  unfold IntTo
  rw [h]
  exact ⟨hk, he, hr⟩

theorem or_shift {u m i : Nat} (hu : u < 128 ^ i) (hv : m % 128 * 128 ^ i < 2 ^ 64) (hs : u + m % 128 * 128 ^ i < 2 ^ 64) :
    bits BinOp.or IntKind.u64 (u : Int) (IntKind.u64.wrap ((m : Int) % 128 * 2 ^ (7 * i))) = ((u + m % 128 * 128 ^ i : Nat) : Int) := by
  have e7 : (2 : Nat) ^ (7 * i) = 128 ^ i := by rw [Nat.pow_mul]
  have e1 : (m : Int) % 128 * 2 ^ (7 * i) = ((m % 128 * 128 ^ i : Nat) : Int) := by
    rw [← e7]; push_cast; rfl
  have e2 : IntKind.u64.wrap ((m % 128 * 128 ^ i : Nat) : Int) = ((m % 128 * 128 ^ i : Nat) : Int) := by rw [IntKind.wrap_u64]; omega
  rw [e1, e2]
  have h := (bits_nat .u64 64 (by decide) (fun n h0 h1 => by rw [IntKind.wrap_u64]; omega) u (m % 128 * 128 ^ i) (by omega) hv).2
  rw [h]
  congr 1
  have h2 := Nat.shiftLeft_add_eq_or_of_lt (b := u) (i := 7 * i) (by rw [e7]; exact hu) (m % 128)
  rw [Nat.shiftLeft_eq, e7] at h2
  rw [Nat.or_comm, ← h2]
  omega
theorem pow_le9 {i : Nat} (h : i ≤ 9) : 128 ^ i ≤ 128 ^ 9 := Nat.pow_le_pow_right (by decide) h
theorem pow9' : (128 : Nat) ^ 9 = 2 ^ 63 := by decide
theorem xor_zero_i64 (a : Nat) (h : a < 2 ^ 63) : bits BinOp.xor IntKind.i64 (a : Int) 0 = a := by
  show IntKind.i64.wrap ((BitVec.ofInt 64 (a : Int) ^^^ BitVec.ofInt 64 0).toNat : Int) = _
  rw [show BitVec.ofInt 64 0 = 0#64 from rfl, BitVec.xor_zero, BitVec.ofInt_natCast, BitVec.toNat_ofNat, Nat.mod_eq_of_lt (by omega), IntKind.wrap_i64]
  omega
theorem xor_ones_i64 (a : Nat) (h : a < 2 ^ 63) : bits BinOp.xor IntKind.i64 (a : Int) (-1) = -(a : Int) - 1 := by
  show IntKind.i64.wrap ((BitVec.ofInt 64 (a : Int) ^^^ BitVec.ofInt 64 (-1)).toNat : Int) = _
  rw [show BitVec.ofInt 64 (-1) = BitVec.allOnes 64 by decide, BitVec.xor_allOnes, BitVec.toNat_not, BitVec.ofInt_natCast, BitVec.toNat_ofNat, Nat.mod_eq_of_lt (by omega), IntKind.wrap_i64]
  omega
theorem unzz_bits {u : Nat} (h : u < 18446744073709551616) : bits BinOp.xor IntKind.i64 ((u : Int) / 2) (wrap64 (-wrap64 (bits BinOp.and IntKind.u64 (u : Int) 1))) = unzz u := by
  have e0 : bits BinOp.and IntKind.u64 (u : Int) 1 = ((u % 2 : Nat) : Int) := by
    have := (bits_nat .u64 64 (by decide) (fun n h0 h1 => by rw [IntKind.wrap_u64]; omega) u 1 (by omega) (by decide)).1
    rw [Nat.and_one_is_mod] at this
    exact this
  rw [e0]
  have e : (u : Int) / 2 = ((u / 2 : Nat) : Int) := by omega
  unfold unzz
  by_cases h2 : u % 2 = 1
  · rw [if_pos h2, h2, show wrap64 (-wrap64 ((1 : Nat) : Int)) = -1 by simp [wrap64], e, xor_ones_i64 _ (by omega)]
  · rw [if_neg h2, show u % 2 = 0 by omega, show wrap64 (-wrap64 ((0 : Nat) : Int)) = 0 by simp [wrap64], e, xor_zero_i64 _ (by omega)]
theorem bits_or_zero (u : Nat) (h : u < 18446744073709551616) : bits BinOp.or IntKind.u64 (u : Int) 0 = u := by
  have := (bits_nat .u64 64 (by decide) (fun n h0 h1 => by rw [IntKind.wrap_u64]; omega) u 0 (by omega) (by decide)).2
  simpa using this
attribute [local go_sem] run_eql_nil8
set_option maxRecDepth 100000 in
set_option maxHeartbeats 4000000 in
theorem read_int (R : Nat) (l : List UInt8) (w : World) (h : RdB w R false l) : Calls Tryz.prog 52 #[.pointer (some ⟨R, 0, none⟩)] w (IntTo w R l) := by
  have HR := hid h
  clear h
  go_enter Tryz.func52, Tryz.ntmps52
  go_wp2_with fail
  obtain ⟨R1, hR1⟩ : ∃ RR_ : (Nat → Value) → World → Prop, RR_ = (fun us wx => ∃ i u : Nat, i ≤ 10 ∧ i ≤ l.length ∧ us 4 = .int .i64 (7 * i : Nat) ∧ us 3 = .int .u64 u ∧ u < 18446744073709551616 ∧ RdB wx R false (l.drop i) ∧ Keeps (fun b => b ≠ R) w wx ∧ (i ≤ 9 → u = sumB (l.take i) ∧ Part l i) ∧ (i = 10 → dInt l = none)) := ⟨_, rfl⟩
  obtain ⟨mu1, hmu1⟩ : ∃ mu : (Nat → Value) → World → Nat, mu = (fun us _ => 100 - (intOf (us 4)).toNat) := ⟨_, rfl⟩
  have HR1 := hid hR1; have Hmu1 := hid hmu1; clear hR1 hmu1
  refine wp_loop_frame' [false, false, true, true, true, true, true, true, true, true, true, true, true, true, true, true, true, true, true, true, true, true, true, true, true, true, true, true, true, true, true, true, true, true, true, true, true, true, true, true, true, true, true, true, true, true, true, true, true, true, true, true, true, true, true, true, true, true] R1 _ mu1 HR1.out ?_ ?_
  · exact ⟨0, 0, by omega, by omega, rfl, rfl, by omega, HR.out, Keeps.refl _ _, fun _ => ⟨rfl, part_zero l⟩, fun h => by omega⟩
  intro us1 wx hrel
  obtain ⟨i, u, hi, hil, h4, h3, hu, hr, hk, hp, hq⟩ := hrel
  simp only [frameOf, Nat.reduceAdd, h4, h3]
  have Hh4 := hid h4; clear h4
  have Hh3 := hid h3; clear h3
  have HRX := hid hr
  have HKX := hid hk
  have HP := hid hp
  have HQ := hid hq
  clear hr hk hp hq
  by_cases hlt : i < l.length
  · have HD : Hid (l.drop i = l[i] :: l.drop (i + 1)) := hid (List.drop_eq_getElem_cons hlt)
    have HR1 := HRX.out
    rw [HD.out] at HR1
    have HRC := hid HR1
    clear HR1
    go_wp2_with fail
    refine (take_yes R 1 _ _ HRC.out (by simp only [List.length_cons]; omega)).mono ?_
    intro e w1 hT
    obtain ⟨b, o, c, rfl, q0, hr1, hk1⟩ := took_one hT
    have HRD1 := hid hr1
    have HK1 := hid (HKX.out.trans hk1)
    clear hT hr1 hk1 HRX
    obtain ⟨m, hm⟩ : ∃ m, m = l[i].toNat := ⟨_, rfl⟩
    have HM := hid hm
    have hm8 : m < 256 := by rw [hm]; exact l[i].toNat_lt
    rw [← hm] at q0
    clear hm
    have h127 : bits BinOp.and IntKind.u8 (m : Int) 127 = ((m % 128 : Nat) : Int) := and127 ⟨m, hm8⟩
    have HNO := hid (fun (hd : dInt l = none) => intTo_no (e := .returned (.int .i64 0)) hd rfl HRD1.out.fail.1 (HK1.out.trans HRD1.out.fail.2))
    obtain ⟨v, ho, -⟩ := HRD1.out
    have r1 := cell_obj (i := 1) ho rfl
    have z1 := free_obj (i := 1) ho
    clear ho
    by_cases h10 : i = 10
    · subst h10
      go_wp2_with fail
      go_ret
      exact HNO.out (by simpa using HQ.out)
    by_cases h9 : i = 9
    · subst h9
      have HP9 := hid (HP.out (by omega))
      have HN := hid (part_nine HP9.out.2 hlt)
      by_cases hv : 1 < m % 128
      · have hv' : (1 : Int) < (m : Int) % 128 := by omega
        go_wp2_with fail
        go_ret
        exact HNO.out (by rw [HN.out, if_neg]; rw [← HM.out]; omega)
      · have hv' : ¬ (1 : Int) < (m : Int) % 128 := by omega
        by_cases hm0 : m = 0
        · subst hm0
          go_wp2_with fail
          go_ret
          exact HNO.out (by rw [HN.out, if_neg]; rw [← HM.out]; omega)
        · have hm0' : ¬ (m : Int) = 0 := by omega
          have hs9 := sumB_lt (l.take 9)
          rw [List.length_take, Nat.min_eq_left (by omega), pow9', ← HP9.out.1] at hs9
          obtain ⟨u', hu'⟩ : ∃ u', u' = u + m % 128 * 9223372036854775808 := ⟨_, rfl⟩
          have hor : bits BinOp.or IntKind.u64 (u : Int) ((m : Int) % 128 * 9223372036854775808) = (u' : Int) := by
            have h1 := or_shift (u := u) (m := m) (i := 9) (by rw [pow9']; exact hs9) (by rw [pow9']; omega) (by rw [pow9']; omega)
            rw [IntKind.wrap_u64, Int.emod_eq_of_lt (by omega) (by omega), pow9'] at h1
            rw [hu']
            exact h1
          have HS : Hid (sumB (l.take 10) = u') := hid (by rw [List.take_succ_eq_append_getElem hlt, sumB_snoc, ← HM.out, List.length_take, Nat.min_eq_left (by omega), ← HP9.out.1, pow9', hu'])
          have hub : u' < 18446744073709551616 := by omega
          clear hu' hs9
          by_cases hlo : m < 128
          · have hub2 := unzz_bits hub
            go_wp2_with fail
            go_ret
            exact intTo_yes (by rw [HN.out, if_pos (by rw [← HM.out]; omega), HS.out]) rfl HRD1.out HK1.out
          · go_wp2_with fail
            refine Round.mk' HR1.out Hmu1.out rfl ?_ ?_
            · exact ⟨10, u', by omega, by omega, by go_num, rfl, hub, HRD1.out, HK1.out, fun h => by omega, fun _ => by rw [HN.out, if_neg]; rw [← HM.out]; omega⟩
            · rw [Hh4.out]; simp [intOf, slots]
    have h63 : ¬ ((7 * i : Nat) : Int) = 63 := by omega
    have h63' : ¬ (63 : Int) < ((7 * i : Nat) : Int) := by omega
    have HP9 := hid (HP.out (by omega))
    by_cases hz : m = 0 ∧ 0 < i
    · obtain ⟨rfl, hi0⟩ := hz
      have hi0' : (0 : Int) < ((7 * i : Nat) : Int) := by omega
      go_wp2_with fail
      go_ret
      exact HNO.out (by rw [part_end HP9.out.2 (by omega) hlt (by rw [← HM.out]; omega), if_pos ⟨HM.out.symm, hi0⟩])
    · by_cases hm0 : m = 0
      · obtain rfl : i = 0 := by omega
        obtain rfl : u = 0 := by have := HP9.out.1; simpa [sumB] using this
        have HE := hid (part_end HP9.out.2 (by omega) hlt (by rw [← HM.out]; omega))
        have HS : Hid (sumB (l.take (0 + 1)) = 0) := hid (by rw [List.take_succ_eq_append_getElem hlt, sumB_snoc, ← HM.out, hm0]; simp [sumB])
        subst hm0
        go_wp2_with fail
        go_ret
        exact intTo_yes (by rw [HE.out, if_neg (by omega), HS.out]) (congrArg (fun x => Ending.returned (.int .i64 x)) (by decide +kernel)) HRD1.out HK1.out
      · have hm0' : ¬ (m : Int) = 0 := by omega
        obtain ⟨u', hu'⟩ : ∃ u', u' = u + m % 128 * 128 ^ i := ⟨_, rfl⟩
        have HU := hid hu'
        have h4 : sumB (l.take (i + 1)) = u' := by
          rw [List.take_succ_eq_append_getElem hlt, sumB_snoc, ← HM.out, List.length_take, Nat.min_eq_left (by omega), hu', HP9.out.1]
        have huu : u < 128 ^ i ∧ u' < 9223372036854775808 := by
          have h1 := sumB_lt (l.take i)
          have h2 := sumB_lt (l.take (i + 1))
          have h3 := pow_le9 (show i + 1 ≤ 9 by omega)
          rw [pow9'] at h3
          rw [List.length_take, Nat.min_eq_left (by omega)] at h1 h2
          rw [← HP9.out.1] at h1
          omega
        have hor : bits BinOp.or IntKind.u64 (u : Int) (IntKind.u64.wrap ((m : Int) % 128 * 2 ^ (7 * i))) = (u' : Int) := by
          rw [hu']
          exact or_shift huu.1 (by omega) (by omega)
        have hub := huu.2
        have HS := hid h4
        clear hu' huu h4
        by_cases hlo : m < 128
        · have hub2 := unzz_bits (u := u') (by omega)
          have HE := hid (part_end HP9.out.2 (by omega) hlt (by rw [← HM.out]; exact hlo))
          go_wp2_with fail
          go_ret
          exact intTo_yes (by rw [HE.out, if_neg (by rw [← HM.out]; exact hz), HS.out]) rfl HRD1.out HK1.out
        · go_wp2_with fail
          refine Round.mk' HR1.out Hmu1.out rfl ?_ ?_
          · exact ⟨i + 1, u', by omega, by omega, by go_num, rfl, by omega, HRD1.out, HK1.out, fun _ => ⟨HS.out.symm, part_succ HP9.out.2 (by omega) hlt (by rw [← HM.out]; omega)⟩, fun h => by omega⟩
          · rw [Hh4.out]; simp [intOf, slots]; omega
  · obtain rfl : i = l.length := by omega
    have HRC : Hid (RdB wx R false []) := hid (by have := HRX.out; rwa [List.drop_length] at this)
    go_wp2_with fail
    refine (take_no R false 1 _ _ HRC.out (.inr (.inr (by simp)))).mono ?_
    rintro e w1 ⟨rfl, hr1, hk1⟩
    have HR2 := hid hr1
    have HK2 := hid (HKX.out.trans hk1)
    clear hr1 hk1
    go_wp2_with fail
    go_ret
    exact intTo_no (by
      by_cases h10 : l.length = 10
      · exact HQ.out h10
      · exact part_out (HP.out (by omega)).2 rfl) rfl HR2.out HK2.out
end Go.Proofs.YtgcnchmnciihnaaGreatDoor
namespace Go.Proofs.YtgcnchmnciihnaaGreatDoor
set_option linter.unusedSimpArgs false
set_option linter.unusedVariables false
open Go.RowKit

attribute [local go_sem] run_eql_nil8
set_option maxHeartbeats 1000000 in
theorem read_int_bad (R : Nat) (l : List UInt8) (w : World) (h : RdB w R true l) : Calls Tryz.prog 52 #[.pointer (some ⟨R, 0, none⟩)] w (FailTo w R (.int .i64 0) l) := by
  have HR := hid h
  clear h
  go_enter Tryz.func52, Tryz.ntmps52
  go_wp2_with fail
  obtain ⟨R1, hR1⟩ : ∃ RR_ : (Nat → Value) → World → Prop, RR_ = (fun us wx => us 4 = .int .i64 0 ∧ us 3 = .int .u64 0 ∧ wx = w) := ⟨_, rfl⟩
  obtain ⟨mu1, hmu1⟩ : ∃ mu : (Nat → Value) → World → Nat, mu = (fun _ _ => 0) := ⟨_, rfl⟩
  have HR1 := hid hR1; have Hmu1 := hid hmu1; clear hR1 hmu1
  refine wp_loop_frame' [false, false, true, true, true, true, true, true, true, true, true, true, true, true, true, true, true, true, true, true, true, true, true, true, true, true, true, true, true, true, true, true, true, true, true, true, true, true, true, true, true, true, true, true, true, true, true, true, true, true, true, true, true, true, true, true, true, true] R1 _ mu1 HR1.out ?_ ?_
  · exact ⟨rfl, rfl, rfl⟩
  intro us1 wx hrel
  obtain ⟨h4, h3, rfl⟩ := hrel
  simp only [frameOf, Nat.reduceAdd, h4, h3]
  have Hh4 := hid h4; clear h4
  have Hh3 := hid h3; clear h3
  go_wp2_with fail
  refine (take_no R true 1 _ _ HR.out (.inl rfl)).mono ?_
  rintro e w1 ⟨rfl, hr1, hk1⟩
  have HR2 := hid hr1
  have HK2 := hid hk1
  clear hr1 hk1
  go_wp2_with fail
  go_ret
  exact ⟨rfl, HR2.out, HK2.out⟩

/-- what Text comes to. -/
def TextTo (w : World) (R : Nat) (l : List UInt8) (e : Ending) (w' : World) : Prop :=
  Keeps (fun b => b ≠ R) w w' ∧ match dText l with
    | some (t, r) => e = .returned (.string t) ∧ RdB w' R false r
    | none => e = .returned (.string ⟨#[]⟩) ∧ ∃ r, RdB w' R true r
theorem textTo_no {w w' : World} {R : Nat} {l r : List UInt8} {e : Ending} (h : dText l = none) (he : e = .returned (.string ⟨#[]⟩)) (hr : RdB w' R true r) (hk : Keeps (fun b => b ≠ R) w w') : TextTo w R l e w' := by
  unfold TextTo
  rw [h]
  exact ⟨hk, he, r, hr⟩
theorem textTo_yes {w w' : World} {R : Nat} {l r : List UInt8} {t : ByteArray} {e : Ending} (h : dText l = some (t, r)) (he : e = .returned (.string t)) (hr : RdB w' R false r) (hk : Keeps (fun b => b ≠ R) w w') : TextTo w R l e w' := by
  unfold TextTo
  rw [h]
  exact ⟨hk, he, hr⟩
theorem nil_string (w : World) : (Go.convert 35 9 (.slice none 0 0)).run Tryz.prog w = .ok (.string ⟨#[]⟩) w := (bytes_nil (fun _ => True) w).string (src := 35) (dst := 9) Tryz.underlying35 Tryz.underlying5 Tryz.underlying9

set_option maxHeartbeats 1000000 in
theorem read_text (R : Nat) (l : List UInt8) (w : World) (h : RdB w R false l) : Calls Tryz.prog 55 #[.pointer (some ⟨R, 0, none⟩)] w (TextTo w R l) := by
  have HR := hid h
  clear h
  go_enter Tryz.func55, Tryz.ntmps55
  go_wp2_with fail
  refine (read_int R l _ HR.out).mono ?_
  rintro e w1 ⟨hk, hT⟩
  have HK := hid hk
  clear hk
  cases hd : dInt l with
  | none =>
    rw [hd] at hT
    obtain ⟨rfl, r, hr⟩ := hT
    have HR1 := hid hr
    have HD : Hid (dText l = none) := hid (by unfold dText; rw [hd])
    clear hr hd
    go_wp2_with fail
    refine (take_no R true 0 _ _ HR1.out (.inl rfl)).mono ?_
    rintro e w2 ⟨rfl, hr2, hk2⟩
    have HR2 := hid hr2
    have HK2 := hid (HK.out.trans hk2)
    have hcv := nil_string w2
    clear hr2 hk2
    go_wp2_with fail
    go_ret
    exact textTo_no HD.out rfl HR2.out HK2.out
  | some p =>
    obtain ⟨n, r⟩ := p
    rw [hd] at hT
    obtain ⟨rfl, hr⟩ := hT
    have HR1 := hid hr
    by_cases hn : n < 0 ∨ (r.length : Int) < n
    · have HD : Hid (dText l = none) := hid (by unfold dText; rw [hd]; simp only []; rw [if_pos hn])
      have HN := hid hn
      clear hr hd hn
      go_wp2_with fail
      refine (take_no R false n _ _ HR1.out (.inr HN.out)).mono ?_
      rintro e w2 ⟨rfl, hr2, hk2⟩
      have HR2 := hid hr2
      have HK2 := hid (HK.out.trans hk2)
      have hcv := nil_string w2
      clear hr2 hk2
      go_wp2_with fail
      go_ret
      exact textTo_no HD.out rfl HR2.out HK2.out
    · have HD : Hid (dText l = some (strB (r.take n.toNat), r.drop n.toNat)) := hid (by unfold dText; rw [hd]; simp only []; rw [if_neg hn])
      obtain ⟨m, rfl⟩ : ∃ m : Nat, n = m := ⟨n.toNat, by omega⟩
      have hm : m ≤ r.length := by omega
      clear hr hd hn
      go_wp2_with fail
      refine (take_yes R m _ _ HR1.out hm).mono ?_
      rintro e w2 ⟨v, rfl, hb, hr2, hk2⟩
      have HR2 := hid hr2
      have HK2 := hid (HK.out.trans hk2)
      have hcv := hb.string (src := 35) (dst := 9) Tryz.underlying35 Tryz.underlying5 Tryz.underlying9
      clear hr2 hk2 hb
      go_wp2_with fail
      go_ret
      exact textTo_yes HD.out rfl HR2.out HK2.out

/-- what stands behind a kind's byte. -/
def dFill (k : Int) (l : List UInt8) : Option (Val × List UInt8) :=
  if k = 1 ∨ k = 2 then (dInt l).map fun p => (⟨k, p.1, ⟨#[]⟩⟩, p.2)
  else if k = 3 then (dText l).map fun p => (⟨k, 0, p.1⟩, p.2)
  else some (⟨k, 0, ⟨#[]⟩⟩, l)
def dVal : List UInt8 → Option (Val × List UInt8)
  | [] => none
  | c :: r => match dFill c.toNat r with
    | none => none
    | some (v, r') => if validV v then some (v, r') else none
def zeroV : Val := ⟨0, 0, ⟨#[]⟩⟩
/-- what Value comes to. -/
def ValueTo (w : World) (R : Nat) (l : List UInt8) (e : Ending) (w' : World) : Prop :=
  Keeps (fun b => b ≠ R) w w' ∧ match dVal l with
    | some (x, r) => e = .returned x.v ∧ RdB w' R false r
    | none => e = .returned zeroV.v ∧ ∃ r, RdB w' R true r
theorem valueTo_no {w w' : World} {R : Nat} {l r : List UInt8} {e : Ending} (h : dVal l = none) (he : e = .returned zeroV.v) (hr : RdB w' R true r) (hk : Keeps (fun b => b ≠ R) w w') : ValueTo w R l e w' := by
  unfold ValueTo
  rw [h]
  exact ⟨hk, he, r, hr⟩
theorem valueTo_yes {w w' : World} {R : Nat} {l r : List UInt8} {x : Val} {e : Ending} (h : dVal l = some (x, r)) (he : e = .returned x.v) (hr : RdB w' R false r) (hk : Keeps (fun b => b ≠ R) w w') : ValueTo w R l e w' := by
  unfold ValueTo
  rw [h]
  exact ⟨hk, he, hr⟩
end Go.Proofs.YtgcnchmnciihnaaGreatDoor
