/-
  PROVED HERE: the contract of strconv.ParseUint at base 16, 8 bits, of at most two bytes.
-/
import Derived.Test.YtbabfibmopfghaaGreatDoorReadsPlain
import Derived.Test.YtbabfibmopfghaaGreatDoorShelf2
import Derived.Test.YtbabfibmopfghaaGreatDoorFrame
namespace Go.Proofs.YtbabfibmopfghaaGreatDoor
set_option linter.unusedSimpArgs false
set_option linter.unusedVariables false
open Go.RowKit

def hexN (a : Nat) : List UInt8 → Option Nat
  | [] => some a
  | c :: r => match hexP c with
    | some d => hexN (16 * a + d) r
    | none => none
def hexW (l : List UInt8) : Option Nat := if l = [] then none else hexN 0 l
theorem low_cases : ∀ m : Fin 256, ¬ (48 ≤ m.1 ∧ m.1 ≤ 57) → (97 ≤ bits BinOp.or IntKind.u8 ((m.1 : Nat) : Int) 32 ∧ bits BinOp.or IntKind.u8 ((m.1 : Nat) : Int) 32 ≤ 102 ∧ hexP (UInt8.ofNat m.1) = some ((bits BinOp.or IntKind.u8 ((m.1 : Nat) : Int) 32).toNat - 87)) ∨ (103 ≤ bits BinOp.or IntKind.u8 ((m.1 : Nat) : Int) 32 ∧ bits BinOp.or IntKind.u8 ((m.1 : Nat) : Int) 32 ≤ 122 ∧ hexP (UInt8.ofNat m.1) = none) ∨ (bits BinOp.or IntKind.u8 ((m.1 : Nat) : Int) 32 < 97 ∧ hexP (UInt8.ofNat m.1) = none) ∨ (97 ≤ bits BinOp.or IntKind.u8 ((m.1 : Nat) : Int) 32 ∧ 122 < bits BinOp.or IntKind.u8 ((m.1 : Nat) : Int) 32 ∧ hexP (UInt8.ofNat m.1) = none) := by decide +kernel
theorem hexP_lt {c : UInt8} {d : Nat} (h : hexP c = some d) : d < 16 := by
  unfold hexP at h
  split at h
  · injection h; omega
  split at h
  · injection h; omega
  split at h
  · injection h; omega
  · cases h
def synE : Value := .iface 286 (.int .i64 2)
def HexTo (w : World) (l : List UInt8) (e : Ending) (w' : World) : Prop := e = .returned (.tuple #[.int .u64 (((hexW l).getD 0 : Nat) : Int), if (hexW l).isSome = true then .nilIface else synE]) ∧ Later w w'
theorem hex_none {w w' : World} {l : List UInt8} (h : hexW l = none) (hL : Later w w') : HexTo w l (.returned (.tuple #[.int .u64 0, synE])) w' := ⟨by rw [h]; rfl, hL⟩
theorem hex_some {w w' : World} {l : List UInt8} {n : Nat} (h : hexW l = some n) (hL : Later w w') : HexTo w l (.returned (.tuple #[.int .u64 (n : Int), .nilIface])) w' := ⟨by rw [h]; rfl, hL⟩
theorem lower_m {m v : Int} (w : World) (h : v = bits BinOp.or IntKind.u8 m 32) : Calls Tryz.prog 232 #[.int .u8 m] w fun e w' => e = .returned (.int .u8 v) ∧ w' = w := by rw [h]; exact Tryz.internal_strconv_lower m w
set_option maxRecDepth 100000 in
set_option maxHeartbeats 4000000 in
theorem parse_hex_in (s : ByteArray) (w : World) (hs : s.size ≤ 2) : Calls Tryz.prog 180 #[.string s, .int .i64 16, .int .i64 8] w (HexTo w s.data.toList) := by
  obtain ⟨l, hl⟩ : ∃ l, l = s.data.toList := ⟨_, rfl⟩
  have hsl : l.length = s.size := by rw [hl]; rfl
  rw [← hl]
  have HLD := hid hl
  by_cases h0 : s.size = 0
  · have hl0 : l = [] := List.eq_nil_of_length_eq_zero (by omega)
    have hs0 : s = ByteArray.empty := by
      cases s
      rename_i d
      congr 1
      exact Array.toList_eq_nil_iff.1 (by rw [← hl0, hl])
    clear hl hsl h0 hs HLD
    subst hl0 hs0
    go_enter Tryz.func180, Tryz.ntmps180
    go_wp2_with fail
    go_ret2
    exact hex_none rfl (Later.refl _)
  have hemp : s.toList.isEmpty = false := by
    rw [← decide_eq_emptyBytes]
    exact decide_eq_false (fun h => h0 (by rw [h]; rfl))
  clear hl
  go_enter Tryz.func180, Tryz.ntmps180
  go_wp2_with (refine wpList_bytes_of rfl _ 9 47 5 rfl Tryz.underlying9 Tryz.underlying47 Tryz.underlying5 s rfl ?_)
  intro c w2 hL2 hz2 hcell
  obtain ⟨B, hB⟩ : ∃ B, B = w.heap.size := ⟨_, rfl⟩
  rw [← hB] at hcell ⊢
  have HC : Hid (∀ k (hk : k < l.length), w2.cell? ⟨B, k, none⟩ = some (.int .u8 ((l[k]).toNat : Int))) := hid (by have h := HLD.out; subst h; exact hcell)
  have HL2 := hid hL2
  clear hcell hL2 hz2 hB
  obtain ⟨z, hz⟩ : ∃ z, z = s.size := ⟨_, rfl⟩
  rw [← hz] at hs h0 hsl ⊢
  clear hz
  have HSL := hid hsl
  clear hsl hemp
  go_wp2_with fail
  obtain ⟨R1, hR1⟩ : ∃ RR_ : (Nat → Value) → World → Prop, RR_ = (fun us wx => ∃ (k a : Nat) (i : Int), k ≤ l.length ∧ us 101 = .int .i64 k ∧ us 12 = .bool false ∧ us 13 = .int .u64 i ∧ wx = w2 ∧ Hid (i = (a : Int) ∧ a < 16 ^ k ∧ hexW l = hexN a (l.drop k))) := ⟨_, rfl⟩
  obtain ⟨mu1, hmu1⟩ : ∃ mu : (Nat → Value) → World → Nat, mu = (fun us _ => l.length - (intOf (us 101)).toNat) := ⟨_, rfl⟩
  have HR1 := hid hR1; have Hmu1 := hid hmu1; clear hR1 hmu1
  refine wp_loop_frame' [false, false, false, false, false, false, true, true, false, false, false, false, true, true, false, true, true, true, false, false, false, false, false, false, false, false, false, false, false, false, false, false, false, false, false, false, false, false, false, false, false, false, false, false, false, false, false, false, false, false, false, false, false, false, false, false, false, false, false, false, false, false, false, false, false, false, false, false, false, false, false, false, false, false, false, false, false, false, false, false, false, false, false, false, false, false, false, false, false, false, false, false, false, false, false, false, false, false, false, false, false, true, true, true, true, true, true, true, true, true, true, true, true, true, true, true, true, true, true, true, true, true, true, true, true, true, true, true, true, true, true, true, true, true, true, true, true, true, true, true, true, true, true, true, true, true, true, true, true, true, true, true, true, true, true, true, true, true, true, true, true, true, true, true] R1 _ mu1 HR1.out ?_ ?_
  · exact ⟨0, 0, 0, Nat.zero_le _, rfl, rfl, rfl, rfl, hid ⟨rfl, by decide, by unfold hexW; rw [if_neg (fun e => h0 (by rw [← HSL.out, e]; rfl))]; rfl⟩⟩
  intro us1 wx hrel
  obtain ⟨k, a, i, hk, h101, h12, h13, rfl, hI⟩ := hrel
  simp only [frameOf, Nat.reduceAdd, h101, h12, h13]
  have Hh101 := hid h101; clear h101
  have Hh12 := hid h12; clear h12
  have Hh13 := hid h13; clear h13
  have HI := hid hI.out
  by_cases hlt : k < z
  · have q0 := HC.out k (by have := HSL.out; omega)
    have hin : k < l.length := by have := HSL.out; omega
    have HX : Hid (hexN a (l.drop k) = match hexP (l[k]'hin) with | some d => hexN (16 * a + d) (l.drop (k + 1)) | none => none) := hid (by rw [List.drop_eq_getElem_cons hin]; rfl)
    generalize l[k]'hin = ch at *
    obtain ⟨m, hm⟩ : ∃ m, m = ch.toNat := ⟨_, rfl⟩
    have hm8 : m < 256 := by rw [hm]; exact ch.toNat_lt
    have HM := hid hm
    rw [← hm] at q0
    clear hm
    have hi0 : 0 ≤ i := by have := hI.out.1; omega
    have hi1 : i ≤ 15 := by
      have h1 := hI.out.1
      have h2 := hI.out.2.1
      have h3 : (16 : Nat) ^ k ≤ 16 ^ 1 := Nat.pow_le_pow_right (by omega) (by omega)
      omega
    clear hI
    have hkk : (0 : Int) ≤ k := by omega
    have HK : Hid (16 ^ (k + 1) = 16 ^ k * 16) := hid (Nat.pow_succ _ _)
    have hch : ch = UInt8.ofNat m := by rw [HM.out]; exact (UInt8.ofNat_toNat).symm
    have HCH := hid hch
    clear hch
    by_cases hd : 48 ≤ m ∧ m ≤ 57
    · have HP : Hid (hexP ch = some (m - 48)) := hid (by unfold hexP; rw [← HM.out, if_pos hd])
      obtain ⟨hd0, hd1⟩ := hd
      go_wp2_with fail
      refine Round.mk' HR1.out Hmu1.out rfl ?_ ?_
      · refine ⟨k + 1, 16 * a + (m - 48), i * 16 + ((m : Int) - 48), by omega, by go_num, rfl, rfl, rfl, hid ⟨?_, ?_, ?_⟩⟩
        · have := HI.out.1; omega
        · have := HI.out.2.1; have := HK.out; omega
        · rw [HI.out.2.2, HX.out, HP.out]
      · rw [Hh101.out]; simp [intOf, slots]; omega
    · obtain ⟨v, hv⟩ : ∃ v, v = bits BinOp.or IntKind.u8 (m : Int) 32 := ⟨_, rfl⟩
      have HV := hid hv
      have hcs := low_cases ⟨m, hm8⟩ hd
      simp only [← hv] at hcs
      clear hv
      by_cases h95 : (m : Int) = 95
      · have h95' : m = 95 := by omega
        have HP : Hid (hexW l = none) := hid (by rw [HI.out.2.2, HX.out, HCH.out, h95']; rfl)
        subst h95'
        have HV1 : Hid ((127 : Int) = bits BinOp.or IntKind.u8 ((95 : Nat) : Int) 32) := hid (by decide)
        clear hcs h95 HV HM
        go_wp2_with fail
        refine (lower_m _ HV1.out).mono ?_
        rintro e w3 ⟨rfl, rfl⟩
        go_wp2_with fail
        refine (lower_m _ HV1.out).mono ?_
        rintro e w3 ⟨rfl, rfl⟩
        go_wp2_with fail
        go_ret2
        exact hex_none HP.out HL2.out
      rcases hcs with ⟨hv0, hv1, hp⟩ | ⟨hv0, hv1, hp⟩ | ⟨hv0, hp⟩ | ⟨hv0, hv1, hp⟩
      · have HP : Hid (hexP ch = some (v.toNat - 87)) := hid (by rw [HCH.out]; exact hp)
        clear hp
        rcases (show (m : Int) < 48 ∨ 57 < (m : Int) by omega) with h4 | h4
        all_goals
          go_wp2_with fail
          refine (lower_m _ HV.out).mono ?_
          rintro e w3 ⟨rfl, rfl⟩
          go_wp2_with fail
          refine (lower_m _ HV.out).mono ?_
          rintro e w3 ⟨rfl, rfl⟩
          go_wp2_with fail
          refine (lower_m _ HV.out).mono ?_
          rintro e w3 ⟨rfl, rfl⟩
          go_wp2_with fail
          refine Round.mk' HR1.out Hmu1.out rfl ?_ ?_
          · refine ⟨k + 1, 16 * a + (v.toNat - 87), i * 16 + (v - 97 + 10), by omega, by go_num, rfl, rfl, rfl, hid ⟨?_, ?_, ?_⟩⟩
            · have := HI.out.1; omega
            · have := HI.out.2.1; have := HK.out; omega
            · rw [HI.out.2.2, HX.out, HP.out]
          · rw [Hh101.out]; simp [intOf, slots]; omega
      · have HP : Hid (hexW l = none) := hid (by rw [HI.out.2.2, HX.out, HCH.out, hp])
        clear hp
        rcases (show (m : Int) < 48 ∨ 57 < (m : Int) by omega) with h4 | h4
        all_goals
          go_wp2_with fail
          refine (lower_m _ HV.out).mono ?_
          rintro e w3 ⟨rfl, rfl⟩
          go_wp2_with fail
          refine (lower_m _ HV.out).mono ?_
          rintro e w3 ⟨rfl, rfl⟩
          go_wp2_with fail
          refine (lower_m _ HV.out).mono ?_
          rintro e w3 ⟨rfl, rfl⟩
          go_wp2_with fail
          go_ret2
          exact hex_none HP.out HL2.out
      · have HP : Hid (hexW l = none) := hid (by rw [HI.out.2.2, HX.out, HCH.out, hp])
        clear hp
        rcases (show (m : Int) < 48 ∨ 57 < (m : Int) by omega) with h4 | h4
        all_goals
          go_wp2_with fail
          refine (lower_m _ HV.out).mono ?_
          rintro e w3 ⟨rfl, rfl⟩
          go_wp2_with fail
          go_ret2
          exact hex_none HP.out HL2.out
      · have HP : Hid (hexW l = none) := hid (by rw [HI.out.2.2, HX.out, HCH.out, hp])
        clear hp
        rcases (show (m : Int) < 48 ∨ 57 < (m : Int) by omega) with h4 | h4
        all_goals
          go_wp2_with fail
          refine (lower_m _ HV.out).mono ?_
          rintro e w3 ⟨rfl, rfl⟩
          go_wp2_with fail
          refine (lower_m _ HV.out).mono ?_
          rintro e w3 ⟨rfl, rfl⟩
          go_wp2_with fail
          go_ret2
          exact hex_none HP.out HL2.out
  · obtain rfl : k = z := by have := HSL.out; omega
    have HL : Hid (l.drop k = []) := hid (List.drop_eq_nil_of_le (Nat.le_of_eq HSL.out))
    go_wp2_with fail
    go_ret2
    obtain ⟨rfl, h2, h3⟩ := HI.out
    exact hex_some (by rw [h3, HL.out]; rfl) HL2.out
end Go.Proofs.YtbabfibmopfghaaGreatDoor
