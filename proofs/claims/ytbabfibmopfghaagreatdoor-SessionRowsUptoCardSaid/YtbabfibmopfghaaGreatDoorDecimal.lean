/-
  PROVED HERE: the contract of the document's decimal.
-/
import Derived.Test.YtbabfibmopfghaaGreatDoorRefQuote
namespace Go.Proofs.YtbabfibmopfghaaGreatDoor
set_option linter.unusedSimpArgs false
set_option linter.unusedVariables false
open Go.RowKit

theorem dec_len : ∀ (k u : Nat), u < 10 ^ (k + 1) → (Lib.decDigits u).length ≤ k + 1
  | 0, u, h => by
    rw [Lib.decDigits, dif_pos (by simpa using h)]
    simp
  | k + 1, u, h => by
    rw [Lib.decDigits]
    by_cases hu : u < 10
    · rw [dif_pos hu]; simp
    · rw [dif_neg hu, List.length_append]
      have := dec_len k (u / 10) (by rw [Nat.pow_succ] at h; omega)
      simp
      omega
theorem natAbs_less {v u : Value} {x y : Int} (h : v = .int .i64 x) (h' : u = .int .i64 y) (hl : x.natAbs < y.natAbs) : (intOf v).natAbs < (intOf u).natAbs := by rw [h, h']; exact hl
def decD (d : Nat) : UInt8 := UInt8.ofNat (48 + d)
theorem dec_cut : ∀ p : Fin 10, (⟨#[48, 49, 50, 51, 52, 53, 54, 55, 56, 57]⟩ : ByteArray).extract p.1 (p.1 + 1) = strB [decD p.1] := by decide +kernel
theorem run_deccut (w : World) (p : Nat) (hp : p < 10) : (Go.Instr.slice 9 (.string ⟨#[48, 49, 50, 51, 52, 53, 54, 55, 56, 57]⟩) (some (.int .i64 (p : Int))) (some (.int .i64 ((p : Int) + 1))) none).run Tryz.prog w = .ok (.string (strB [decD p])) w := by
  rw [run_slice_string_if _ _ _ _ _ _ _ Tryz.underlying9, if_pos ⟨by omega, by show (p : Int) + 1 ≤ 10; omega⟩, if_pos ⟨by omega, by omega⟩]
  have h := dec_cut ⟨p, hp⟩
  rw [← h]
  congr 3
attribute [local go_sem high] run_deccut
attribute [local go_sem] strB_size

theorem dec_last {N a : Nat} {suf : List UInt8} (h : Lib.decDigits N = Lib.decDigits a ++ suf) (ha : a < 10) : Lib.decDigits N = decD (a % 10) :: suf := by
  rw [h, Lib.decDigits, dif_pos ha, Nat.mod_eq_of_lt ha]
  rfl
theorem dec_more {N a : Nat} {suf : List UInt8} (h : Lib.decDigits N = Lib.decDigits a ++ suf) (ha : ¬ a < 10) : Lib.decDigits N = Lib.decDigits (a / 10) ++ (decD (a % 10) :: suf) := by
  rw [h]
  conv => lhs; rw [Lib.decDigits, dif_neg ha]
  simp [decD]

set_option maxRecDepth 100000 in
set_option maxHeartbeats 2000000 in
theorem decimal_any (n : Int) (w : World) (h1 : -9223372036854775808 ≤ n) (h2 : n ≤ 9223372036854775807) : Calls Tryz.prog 131 #[.int .i64 n] w (StrTo w (Lib.itoa n)) := by
  obtain ⟨N, hN⟩ : ∃ N, N = n.natAbs := ⟨_, rfl⟩
  have hlen : (Lib.decDigits N).length ≤ 20 := dec_len 19 N (by omega)
  have HLEN := hid hlen
  clear hlen
  by_cases hn : n < 0
  · have HI : Hid (Lib.itoa n = 45 :: Lib.decDigits N) := hid (by unfold Lib.itoa; rw [if_pos hn, hN])
    obtain rfl : n = -(N : Int) := by omega
    clear hN
    go_enter Tryz.func131, Tryz.ntmps131
    go_wp2_with fail
    obtain ⟨R1, hR1⟩ : ∃ RR_ : (Nat → Value) → World → Prop, RR_ = (fun us wx => ∃ (a : Nat) (suf : List UInt8), us 4 = .int .i64 (-(a : Int)) ∧ us 3 = .string (strB suf) ∧ a ≤ N ∧ wx = w ∧ Hid (Lib.decDigits N = Lib.decDigits a ++ suf)) := ⟨_, rfl⟩
    obtain ⟨mu1, hmu1⟩ : ∃ mu : (Nat → Value) → World → Nat, mu = (fun us _ => (intOf (us 4)).natAbs) := ⟨_, rfl⟩
    have HR1 := hid hR1; have Hmu1 := hid hmu1; clear hR1 hmu1
    refine wp_loop_frame' [false, false, false, true, true, true, false, true, true, true, true, true, true, true, true, true, true, true, true, true, true, true, true] R1 _ mu1 HR1.out ?_ ?_
    · exact ⟨N, [], rfl, rfl, Nat.le_refl _, rfl, hid (by simp)⟩
    intro us1 wx hrel
    obtain ⟨a, suf, h4, h3, ha, rfl, hd⟩ := hrel
    simp only [frameOf, Nat.reduceAdd, h4, h3]
    have Hh4 := hid h4; clear h4
    have Hh3 := hid h3; clear h3
    have hsl : suf.length ≤ 20 := by
      have a1 := HLEN.out
      have a2 := congrArg List.length hd.out
      rw [List.length_append] at a2
      omega
    obtain ⟨d, hdd⟩ : ∃ d, d = a % 10 := ⟨_, rfl⟩
    have hd10 : d < 10 := by omega
    obtain ⟨a', ha'⟩ : ∃ a', a' = a / 10 := ⟨_, rfl⟩
    have HLA : Hid (a' = 0 → Lib.decDigits N = decD d :: suf) := hid fun h0 => by rw [hdd]; exact dec_last hd.out (by omega)
    have HMO : Hid (a' ≠ 0 → Lib.decDigits N = Lib.decDigits a' ++ (decD d :: suf)) := hid fun h0 => by rw [hdd, ha']; exact dec_more hd.out (by omega)
    have hmod : (-(a : Int)).tmod 10 = -(d : Int) := by rw [Int.neg_tmod, Int.tmod_eq_emod_of_nonneg (by omega)]; omega
    have hwz : wrap64 (-(a' : Int)) = -(a' : Int) := by unfold wrap64; omega
    have hdiv : (-(a : Int)).tdiv 10 = -(a' : Int) := by rw [Int.neg_tdiv, Int.tdiv_eq_ediv_of_nonneg (by omega)]; omega
    have HA' : Hid (a' ≤ N ∧ (a' ≠ 0 → a' < a)) := hid ⟨by omega, by omega⟩
    have hw1 : IntKind.i64.wrap ((d : Int) + 1) = (d : Int) + 1 := IntWalk.i64_in _ (by omega)
    have hc1 : ¬ 9223372036854775807 < 1 + suf.length := by omega
    have HCAT : Hid (strB [decD d] ++ strB suf = strB (decD d :: suf)) := hid (strB_append _ _)
    clear hdd ha' hd
    go_upto_if 10 with (fail)
    obtain ⟨R2, hR2⟩ : ∃ RR_ : (Nat → Value) → World → Prop, RR_ = (fun us wy => us 5 = .int .i64 (d : Int) ∧ wy = wx) := ⟨_, rfl⟩
    have HR2 := hid hR2; clear hR2
    refine wp_cut_frame' [false, false, false, false, false, true, false, false, false, false, true, true, true] R2 _ HR2.out ?_ ?_
    · by_cases d0 : d = 0
      · subst d0
        go_wp2_with fail
        refine Meet.mk' HR2.out rfl ?_
        exact ⟨by simp [slots], rfl⟩
      · go_wp2_with fail
        refine Meet.mk' HR2.out rfl ?_
        exact ⟨by simp [slots], rfl⟩
    intro us2 wy hrel
    obtain ⟨h5, rfl⟩ := hrel
    simp only [frameOf, Nat.reduceAdd, h5]
    have Hh5 := hid h5; clear h5
    clear hmod
    by_cases h0 : a' = 0
    · subst h0
      have hcz : (strB [decD d] ++ strB suf).size = 1 + suf.length := by rw [HCAT.out, strB_size, List.length_cons]; omega
      have HRS : Hid ((⟨#[45]⟩ : ByteArray) ++ (strB [decD d] ++ strB suf) = strB (Lib.itoa (-(N : Int)))) := hid (by rw [HI.out, HLA.out rfl, HCAT.out, show (⟨#[45]⟩ : ByteArray) = strB [45] from rfl, strB_append]; rfl)
      have hc2 : ¬ 9223372036854775807 < 1 + (1 + suf.length) := by omega
      go_wp2_with fail
      go_ret
      exact ⟨congrArg (fun x => Ending.returned (Value.string x)) HRS.out, Later.refl _⟩
    · have hx : ¬ ((a' : Int) = 0) := by omega
      go_wp2_with fail
      refine Round.mk' HR1.out Hmu1.out rfl ?_ ?_
      · exact ⟨a', decD d :: suf, congrArg (Value.int .i64) hwz, congrArg Value.string HCAT.out, HA'.out.1, rfl, hid (HMO.out h0)⟩
      · have h9 := HA'.out.2 h0
        exact natAbs_less (congrArg (Value.int .i64) hwz) Hh4.out (by omega)
  · have HI : Hid (Lib.itoa n = Lib.decDigits N) := hid (by unfold Lib.itoa; rw [if_neg hn, hN]; congr 1; omega)
    obtain rfl : n = (N : Int) := by omega
    clear hN
    go_enter Tryz.func131, Tryz.ntmps131
    go_wp2_with fail
    obtain ⟨R1, hR1⟩ : ∃ RR_ : (Nat → Value) → World → Prop, RR_ = (fun us wx => ∃ (a : Nat) (suf : List UInt8), us 4 = .int .i64 ((a : Int)) ∧ us 3 = .string (strB suf) ∧ a ≤ N ∧ wx = w ∧ Hid (Lib.decDigits N = Lib.decDigits a ++ suf)) := ⟨_, rfl⟩
    obtain ⟨mu1, hmu1⟩ : ∃ mu : (Nat → Value) → World → Nat, mu = (fun us _ => (intOf (us 4)).natAbs) := ⟨_, rfl⟩
    have HR1 := hid hR1; have Hmu1 := hid hmu1; clear hR1 hmu1
    refine wp_loop_frame' [false, false, false, true, true, true, false, true, true, true, true, true, true, true, true, true, true, true, true, true, true, true, true] R1 _ mu1 HR1.out ?_ ?_
    · exact ⟨N, [], rfl, rfl, Nat.le_refl _, rfl, hid (by simp)⟩
    intro us1 wx hrel
    obtain ⟨a, suf, h4, h3, ha, rfl, hd⟩ := hrel
    simp only [frameOf, Nat.reduceAdd, h4, h3]
    have Hh4 := hid h4; clear h4
    have Hh3 := hid h3; clear h3
    have hsl : suf.length ≤ 20 := by
      have a1 := HLEN.out
      have a2 := congrArg List.length hd.out
      rw [List.length_append] at a2
      omega
    obtain ⟨d, hdd⟩ : ∃ d, d = a % 10 := ⟨_, rfl⟩
    have hd10 : d < 10 := by omega
    obtain ⟨a', ha'⟩ : ∃ a', a' = a / 10 := ⟨_, rfl⟩
    have HLA : Hid (a' = 0 → Lib.decDigits N = decD d :: suf) := hid fun h0 => by rw [hdd]; exact dec_last hd.out (by omega)
    have HMO : Hid (a' ≠ 0 → Lib.decDigits N = Lib.decDigits a' ++ (decD d :: suf)) := hid fun h0 => by rw [hdd, ha']; exact dec_more hd.out (by omega)
    have hmod : (a : Int).tmod 10 = (d : Int) := by rw [Int.tmod_eq_emod_of_nonneg (by omega)]; omega
    have hwz : wrap64 (a' : Int) = (a' : Int) := by unfold wrap64; omega
    have hdiv : (a : Int).tdiv 10 = (a' : Int) := by rw [Int.tdiv_eq_ediv_of_nonneg (by omega)]; omega
    have HA' : Hid (a' ≤ N ∧ (a' ≠ 0 → a' < a)) := hid ⟨by omega, by omega⟩
    have hw1 : IntKind.i64.wrap ((d : Int) + 1) = (d : Int) + 1 := IntWalk.i64_in _ (by omega)
    have hc1 : ¬ 9223372036854775807 < 1 + suf.length := by omega
    have HCAT : Hid (strB [decD d] ++ strB suf = strB (decD d :: suf)) := hid (strB_append _ _)
    clear hdd ha' hd
    go_upto_if 10 with (fail)
    obtain ⟨R2, hR2⟩ : ∃ RR_ : (Nat → Value) → World → Prop, RR_ = (fun us wy => us 5 = .int .i64 (d : Int) ∧ wy = wx) := ⟨_, rfl⟩
    have HR2 := hid hR2; clear hR2
    refine wp_cut_frame' [false, false, false, false, false, true, false, false, false, false, true, true, true] R2 _ HR2.out ?_ ?_
    · go_wp2_with fail
      refine Meet.mk' HR2.out rfl ?_
      exact ⟨by simp [slots], rfl⟩
    intro us2 wy hrel
    obtain ⟨h5, rfl⟩ := hrel
    simp only [frameOf, Nat.reduceAdd, h5]
    have Hh5 := hid h5; clear h5
    clear hmod
    by_cases h0 : a' = 0
    · subst h0
      have hcz : (strB [decD d] ++ strB suf).size = 1 + suf.length := by rw [HCAT.out, strB_size, List.length_cons]; omega
      have HRS : Hid (strB [decD d] ++ strB suf = strB (Lib.itoa (N : Int))) := hid (by rw [HI.out, HLA.out rfl, HCAT.out])
      go_wp2_with fail
      go_ret
      exact ⟨congrArg (fun x => Ending.returned (Value.string x)) HRS.out, Later.refl _⟩
    · have hx : ¬ ((a' : Int) = 0) := by omega
      go_wp2_with fail
      refine Round.mk' HR1.out Hmu1.out rfl ?_ ?_
      · exact ⟨a', decD d :: suf, congrArg (Value.int .i64) hwz, congrArg Value.string HCAT.out, HA'.out.1, rfl, hid (HMO.out h0)⟩
      · have h9 := HA'.out.2 h0
        exact natAbs_less (congrArg (Value.int .i64) hwz) Hh4.out (by omega)
end Go.Proofs.YtbabfibmopfghaaGreatDoor
