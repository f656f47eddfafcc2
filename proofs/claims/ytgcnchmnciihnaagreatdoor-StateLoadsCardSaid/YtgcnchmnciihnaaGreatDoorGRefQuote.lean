/-
  PROVED HERE: the contract of the document's Quote.
  PROVED HERE: the contract of the document's decimal.
  PROVED HERE: the comparison of values by == in a walk.
  PROVED HERE: contracts of value.Valid and of the document's text of the same.
-/
import Derived.Test.YtgcnchmnciihnaaGreatDoorGU8
import Derived.Laws.DeepStrings4
namespace Go.Proofs.YtgcnchmnciihnaaGreatDoor
set_option linter.unusedSimpArgs false
set_option linter.unusedVariables false
open Go.RowKit

theorem hex_cut : ∀ p : Fin 16, (⟨#[48, 49, 50, 51, 52, 53, 54, 55, 56, 57, 97, 98, 99, 100, 101, 102]⟩ : ByteArray).extract p.1 (p.1 + 1) = strB [hexD p.1] := by decide +kernel
theorem run_hexcut (w : World) (p : Nat) (hp : p < 16) : (Go.Instr.slice 9 (.string ⟨#[48, 49, 50, 51, 52, 53, 54, 55, 56, 57, 97, 98, 99, 100, 101, 102]⟩) (some (.int .u8 (p : Int))) (some (.int .u8 ((p : Int) + 1))) none).run Tryz.prog w = .ok (.string (strB [hexD p])) w := by
  rw [run_slice_string_if _ _ _ _ _ _ _ Tryz.underlying9, if_pos ⟨by omega, by show (p : Int) + 1 ≤ 16; omega⟩, if_pos ⟨by omega, by omega⟩]
  have h := hex_cut ⟨p, hp⟩
  rw [← h]
  congr 3
attribute [local go_sem high] run_hexcut
attribute [local go_sem] strB_size
theorem cut_one (s : ByteArray) (k : Nat) (hk : k < s.data.toList.length) : s.extract k (k + 1) = strB [s.data.toList[k]] := by
  apply ByteArray.ext
  have hk' : k < s.data.size := by simpa using hk
  have hz : s.size = s.data.size := rfl
  simp only [ByteArray.data_extract, strB]
  apply Array.ext
  · simp; omega
  · intro i h1 h2
    obtain rfl : i = 0 := by simp at h2; omega
    simp

set_option maxRecDepth 100000 in
set_option maxHeartbeats 2000000 in
theorem rquote_any (s : ByteArray) (w : World) (hs : s.size ≤ 1099511627776) : Calls Tryz.prog 83 #[.string s] w (StrTo w (quoteL s.data.toList)) := by
  obtain ⟨l, hl⟩ : ∃ l, l = s.data.toList := ⟨_, rfl⟩
  have hsl : l.length = s.size := by rw [hl]; rfl
  rw [← hl]
  have HCT : Hid (∀ k (hk : k < l.length), s.extract k (k + 1) = strB [l[k]]) := hid (by subst hl; exact cut_one s)
  have HIX : Hid (∀ k (hk : k < l.length) (hk' : k < s.size), s[k]'hk' = l[k]) := hid (by subst hl; intro k h1 h2; simp; rfl)
  clear hl
  go_enter Tryz.func83, Tryz.ntmps83
  go_wp2_with fail
  obtain ⟨R1, hR1⟩ : ∃ RR_ : (Nat → Value) → World → Prop, RR_ = (fun us wx => ∃ k : Nat, k ≤ l.length ∧ us 4 = .int .i64 k ∧ us 3 = .string (strB (39 :: (l.take k).flatMap quoteC)) ∧ Later w wx) := ⟨_, rfl⟩
  obtain ⟨mu1, hmu1⟩ : ∃ mu : (Nat → Value) → World → Nat, mu = (fun us _ => l.length - (intOf (us 4)).toNat) := ⟨_, rfl⟩
  have HR1 := hid hR1; have Hmu1 := hid hmu1; clear hR1 hmu1
  refine wp_loop_frame' [false, false, false, true, true, true, true, true, true, true, true, true, true, true, true, true, true, true, true, true, true, true, true, true, true, true, true, true, true, true, true, true, true, true, true, true, true, true, true, true, true, true, true, true, true, true, true, true, true, true, true, true, true, true] R1 _ mu1 HR1.out ?_ ?_
  · exact ⟨0, by omega, rfl, rfl, Later.refl _⟩
  intro us1 wx hrel
  obtain ⟨k, hk, h4, h3, hL⟩ := hrel
  simp only [frameOf, Nat.reduceAdd, h4, h3]
  have Hh4 := hid h4; clear h4
  have Hh3 := hid h3; clear h3
  have HL := hid hL
  clear hL
  by_cases hlt : k < l.length
  · have HX : Hid ((l.take (k + 1)).flatMap quoteC = (l.take k).flatMap quoteC ++ quoteC l[k]) := hid (flat_snoc hlt)
    have hlt' : k < s.size := by omega
    have hix := HIX.out k hlt hlt'
    have HCUT : Hid (s.extract k (k + 1) = strB [l[k]]) := hid (HCT.out k hlt)
    generalize l[k] = ch at *
    obtain ⟨m, hm⟩ : ∃ m, m = ch.toNat := ⟨_, rfl⟩
    have hm8 : m < 256 := by rw [hm]; exact ch.toNat_lt
    have HM := hid hm
    have hkk : (0 : Int) ≤ k := by omega
    have hfl := flat_len (l.take k)
    have htl : (l.take k).length ≤ l.length := by rw [List.length_take]; omega
    obtain ⟨L, hL⟩ : ∃ L, L = 39 :: (l.take k).flatMap quoteC := ⟨_, rfl⟩
    have hLz : (strB L).size = L.length := strB_size L
    have hLb : L.length ≤ 4398046511104 := by rw [hL, List.length_cons]; omega
    rw [← hL]
    have HLL : Hid (39 :: (l.take (k + 1)).flatMap quoteC = L ++ quoteC ch) := hid (by rw [HX.out, hL]; rfl)
    clear hL hfl htl HX
    go_upto_region 6 with (fail)
    rw [← hm]
    clear hm hix
    obtain ⟨R2, hR2⟩ : ∃ RR_ : (Nat → Value) → World → Prop, RR_ = (fun us wy => us 6 = .bool (oddB ch) ∧ wy = wx) := ⟨_, rfl⟩
    have HR2 := hid hR2; clear hR2
    refine wp_cut_frame' [false, false, false, false, false, false, true, false, false, false, false, false, false, false, false, false, true, true, true, true, true, true, true, true, true, true, true, true, true, true] R2 _ HR2.out ?_ ?_
    · by_cases c1 : (m : Int) < 32
      · go_wp2_with fail
        refine Meet.mk' HR2.out rfl ?_
        exact ⟨by simp [slots, oddB, ← HM.out, show m < 32 by omega], rfl⟩
      by_cases c2 : (126 : Int) < m
      · go_wp2_with fail
        refine Meet.mk' HR2.out rfl ?_
        exact ⟨by simp [slots, oddB, ← HM.out, show ¬ m < 32 by omega, show 126 < m by omega], rfl⟩
      by_cases c3 : (m : Int) = 39
      · go_wp2_with fail
        refine Meet.mk' HR2.out rfl ?_
        exact ⟨by simp [slots, oddB, ← HM.out, show m = 39 by omega], rfl⟩
      by_cases c4 : (m : Int) = 92
      · go_wp2_with fail
        refine Meet.mk' HR2.out rfl ?_
        exact ⟨by simp [slots, oddB, ← HM.out, show m = 92 by omega], rfl⟩
      · go_wp2_with fail
        refine Meet.mk' HR2.out rfl ?_
        exact ⟨by simp [slots, oddB, ← HM.out, show ¬ m < 32 by omega, show ¬ 126 < m by omega, c3, c4, show ¬ m = 39 by omega, show ¬ m = 92 by omega], rfl⟩
    intro us2 wy hrel
    obtain ⟨h6, rfl⟩ := hrel
    simp only [frameOf, Nat.reduceAdd, h6]
    have Hh6 := hid h6; clear h6
    cases hod : oddB ch with
    | true =>
      obtain ⟨p, hp⟩ : ∃ p, p = m / 16 := ⟨_, rfl⟩
      obtain ⟨q, hq⟩ : ∃ q, q = m % 16 := ⟨_, rfl⟩
      have hpi : (m : Int) / 16 = p := by omega
      have hqi : (m : Int).tmod 16 = q := by rw [Int.tmod_eq_emod_of_nonneg (by omega)]; omega
      have hpw0 : IntKind.u8.wrap (p : Int) = (p : Int) := IntWalk.u8_in _ (by omega)
      have hc1 : ¬ 9223372036854775807 < L.length + 1 := by omega
      have hc2 : ¬ 9223372036854775807 < L.length + 1 + 1 := by omega
      have hc3 : ¬ 9223372036854775807 < L.length + 1 + 1 + 1 := by omega
      have hp16 : p < 16 := by omega
      have hq16 : q < 16 := by omega
      have HQC : Hid (quoteC ch = [92, hexD p, hexD q]) := hid (by rw [oddB_true hod, ← HM.out, hp, hq])
      have hpw : IntKind.u8.wrap ((p : Int) + 1) = (p : Int) + 1 := IntWalk.u8_in _ (by omega)
      have hqw : IntKind.u8.wrap ((q : Int) + 1) = (q : Int) + 1 := IntWalk.u8_in _ (by omega)
      clear hp hq
      go_wp2_with fail
      refine wp_region_lex (by kernel_rfl) (by kernel_rfl) Later Later.refl Later.trans (fun _ => none) (fun _ _ _ _ _ h => by cases h) ?_
      simp only [numbered, Nat.reduceAdd]
      refine LexS.out ?_
      iterate 17
        first
        | (refine LexS.skip rfl ?_; simp only [Act.put, List.setIfInBounds_toArray, List.set])
        | (refine LexS.one' rfl rfl ?_
           apply Exists.intro
           refine ⟨fun w hR hF => ?_, ?_⟩
           · have hP := hR
             repeat (first | replace hP := Later.of_drew hP | replace hP := Later.of_drewN hP | replace hP := Later.of_alloc hP)
             have hcs := hR.cells
             clear hR hF hP
             go_simp
             first | done | rfl
           simp only [Act.put, List.setIfInBounds_toArray, List.set])
      refine LexS.nil ?_
      intro w4 hR4 hF9
      clear hF9
      repeat (first | replace hR4 := Later.of_drew hR4 | replace hR4 := Later.of_drewN hR4 | replace hR4 := Later.of_alloc hR4)
      have HR4 := hid hR4
      have HEQ : Hid (strB L ++ (⟨#[92]⟩ : ByteArray) ++ strB [hexD p] ++ strB [hexD q] = strB (39 :: (l.take (k + 1)).flatMap quoteC)) := hid (by
        rw [HLL.out, HQC.out, show (⟨#[92]⟩ : ByteArray) = strB [92] from rfl, strB_append, strB_append, strB_append]
        simp)
      clear hR4 hpi hqi hpw0 hc1 hc2 hc3 hpw hqw
      go_wp2_with fail
      refine Round.mk' HR1.out Hmu1.out rfl ?_ ?_
      · exact ⟨k + 1, by omega, by go_num, congrArg Value.string HEQ.out, Later.trans _ _ _ HL.out HR4.out⟩
      · rw [Hh4.out]; simp [intOf, slots]; omega
    | false =>
      have HQC : Hid (quoteC ch = [ch]) := hid (oddB_false hod)
      have hcut := HCUT.out
      have HEQ : Hid (strB L ++ strB [ch] = strB (39 :: (l.take (k + 1)).flatMap quoteC)) := hid (by
        rw [HLL.out, HQC.out, strB_append])
      have hcz : (strB [ch]).size = 1 := rfl
      go_wp2_with fail
      refine Round.mk' HR1.out Hmu1.out rfl ?_ ?_
      · exact ⟨k + 1, by omega, by go_num, congrArg Value.string HEQ.out, HL.out⟩
      · rw [Hh4.out]; simp [intOf, slots]; omega
  · obtain rfl : k = l.length := by omega
    rw [List.take_length]
    have hfl := flat_len l
    obtain ⟨L, hL⟩ : ∃ L, L = 39 :: l.flatMap quoteC := ⟨_, rfl⟩
    have hLz : (strB L).size = L.length := strB_size L
    have hLb : L.length ≤ 4398046511104 := by rw [hL, List.length_cons]; omega
    rw [← hL]
    have HLL : Hid (quoteL l = L ++ [39]) := hid (by rw [hL]; rfl)
    clear hL hfl
    go_wp2_with fail
    go_ret
    exact ⟨by rw [HLL.out, ← strB_append]; rfl, HL.out⟩
end Go.Proofs.YtgcnchmnciihnaaGreatDoor
namespace Go.Proofs.YtgcnchmnciihnaaGreatDoor
set_option linter.unusedSimpArgs false
set_option linter.unusedVariables false
open Go.RowKit

theorem dec_len : ∀ (k u : Nat), u < 10 ^ (k + 1) → (Lib.decDigits u).length ≤ k + 1
  | 0, u, h => by
    rw [Lib.decDigits, dif_pos (by simpa using h)]
    simp
  | k + 1, u, h => by
    rw [Lib.decDigits]
    by_cases hu : u < 10
    · rw [dif_pos hu]; simp
    · rw [dif_neg hu, List.length_append]
      have := dec_len k (u / 10) (by rw [Nat.pow_succ] at h; omega)
      simp
      omega
theorem natAbs_less {v u : Value} {x y : Int} (h : v = .int .i64 x) (h' : u = .int .i64 y) (hl : x.natAbs < y.natAbs) : (intOf v).natAbs < (intOf u).natAbs := by rw [h, h']; exact hl
def decD (d : Nat) : UInt8 := UInt8.ofNat (48 + d)
theorem dec_cut : ∀ p : Fin 10, (⟨#[48, 49, 50, 51, 52, 53, 54, 55, 56, 57]⟩ : ByteArray).extract p.1 (p.1 + 1) = strB [decD p.1] := by decide +kernel
theorem run_deccut (w : World) (p : Nat) (hp : p < 10) : (Go.Instr.slice 9 (.string ⟨#[48, 49, 50, 51, 52, 53, 54, 55, 56, 57]⟩) (some (.int .i64 (p : Int))) (some (.int .i64 ((p : Int) + 1))) none).run Tryz.prog w = .ok (.string (strB [decD p])) w := by
  rw [run_slice_string_if _ _ _ _ _ _ _ Tryz.underlying9, if_pos ⟨by omega, by show (p : Int) + 1 ≤ 10; omega⟩, if_pos ⟨by omega, by omega⟩]
  have h := dec_cut ⟨p, hp⟩
  rw [← h]
  congr 3
attribute [local go_sem high] run_deccut
attribute [local go_sem] strB_size

theorem dec_last {N a : Nat} {suf : List UInt8} (h : Lib.decDigits N = Lib.decDigits a ++ suf) (ha : a < 10) : Lib.decDigits N = decD (a % 10) :: suf := by
  rw [h, Lib.decDigits, dif_pos ha, Nat.mod_eq_of_lt ha]
  rfl
theorem dec_more {N a : Nat} {suf : List UInt8} (h : Lib.decDigits N = Lib.decDigits a ++ suf) (ha : ¬ a < 10) : Lib.decDigits N = Lib.decDigits (a / 10) ++ (decD (a % 10) :: suf) := by
  rw [h]
  conv => lhs; rw [Lib.decDigits, dif_neg ha]
  simp [decD]

set_option maxRecDepth 100000 in
set_option maxHeartbeats 2000000 in
theorem decimal_any (n : Int) (w : World) (h1 : -9223372036854775808 ≤ n) (h2 : n ≤ 9223372036854775807) : Calls Tryz.prog 82 #[.int .i64 n] w (StrTo w (Lib.itoa n)) := by
  obtain ⟨N, hN⟩ : ∃ N, N = n.natAbs := ⟨_, rfl⟩
  have hlen : (Lib.decDigits N).length ≤ 20 := dec_len 19 N (by omega)
  have HLEN := hid hlen
  clear hlen
  by_cases hn : n < 0
  · have HI : Hid (Lib.itoa n = 45 :: Lib.decDigits N) := hid (by unfold Lib.itoa; rw [if_pos hn, hN])
    obtain rfl : n = -(N : Int) := by omega
    clear hN
    go_enter Tryz.func82, Tryz.ntmps82
    go_wp2_with fail
    obtain ⟨R1, hR1⟩ : ∃ RR_ : (Nat → Value) → World → Prop, RR_ = (fun us wx => ∃ (a : Nat) (suf : List UInt8), us 4 = .int .i64 (-(a : Int)) ∧ us 3 = .string (strB suf) ∧ a ≤ N ∧ wx = w ∧ Hid (Lib.decDigits N = Lib.decDigits a ++ suf)) := ⟨_, rfl⟩
    obtain ⟨mu1, hmu1⟩ : ∃ mu : (Nat → Value) → World → Nat, mu = (fun us _ => (intOf (us 4)).natAbs) := ⟨_, rfl⟩
    have HR1 := hid hR1; have Hmu1 := hid hmu1; clear hR1 hmu1
    refine wp_loop_frame' [false, false, false, true, true, true, false, true, true, true, true, true, true, true, true, true, true, true, true, true, true, true, true] R1 _ mu1 HR1.out ?_ ?_
    · exact ⟨N, [], rfl, rfl, Nat.le_refl _, rfl, hid (by simp)⟩
    intro us1 wx hrel
    obtain ⟨a, suf, h4, h3, ha, rfl, hd⟩ := hrel
    simp only [frameOf, Nat.reduceAdd, h4, h3]
    have Hh4 := hid h4; clear h4
    have Hh3 := hid h3; clear h3
    have hsl : suf.length ≤ 20 := by
      have a1 := HLEN.out
      have a2 := congrArg List.length hd.out
      rw [List.length_append] at a2
      omega
    obtain ⟨d, hdd⟩ : ∃ d, d = a % 10 := ⟨_, rfl⟩
    have hd10 : d < 10 := by omega
    obtain ⟨a', ha'⟩ : ∃ a', a' = a / 10 := ⟨_, rfl⟩
    have HLA : Hid (a' = 0 → Lib.decDigits N = decD d :: suf) := hid fun h0 => by rw [hdd]; exact dec_last hd.out (by omega)
    have HMO : Hid (a' ≠ 0 → Lib.decDigits N = Lib.decDigits a' ++ (decD d :: suf)) := hid fun h0 => by rw [hdd, ha']; exact dec_more hd.out (by omega)
    have hmod : (-(a : Int)).tmod 10 = -(d : Int) := by rw [Int.neg_tmod, Int.tmod_eq_emod_of_nonneg (by omega)]; omega
    have hwz : wrap64 (-(a' : Int)) = -(a' : Int) := by unfold wrap64; omega
    have hdiv : (-(a : Int)).tdiv 10 = -(a' : Int) := by rw [Int.neg_tdiv, Int.tdiv_eq_ediv_of_nonneg (by omega)]; omega
    have HA' : Hid (a' ≤ N ∧ (a' ≠ 0 → a' < a)) := hid ⟨by omega, by omega⟩
    have hw1 : IntKind.i64.wrap ((d : Int) + 1) = (d : Int) + 1 := IntWalk.i64_in _ (by omega)
    have hc1 : ¬ 9223372036854775807 < 1 + suf.length := by omega
    have HCAT : Hid (strB [decD d] ++ strB suf = strB (decD d :: suf)) := hid (strB_append _ _)
    clear hdd ha' hd
    go_upto_if 10 with (fail)
    obtain ⟨R2, hR2⟩ : ∃ RR_ : (Nat → Value) → World → Prop, RR_ = (fun us wy => us 5 = .int .i64 (d : Int) ∧ wy = wx) := ⟨_, rfl⟩
    have HR2 := hid hR2; clear hR2
    refine wp_cut_frame' [false, false, false, false, false, true, false, false, false, false, true, true, true] R2 _ HR2.out ?_ ?_
    · by_cases d0 : d = 0
      · subst d0
        go_wp2_with fail
        refine Meet.mk' HR2.out rfl ?_
        exact ⟨by simp [slots], rfl⟩
      · go_wp2_with fail
        refine Meet.mk' HR2.out rfl ?_
        exact ⟨by simp [slots], rfl⟩
    intro us2 wy hrel
    obtain ⟨h5, rfl⟩ := hrel
    simp only [frameOf, Nat.reduceAdd, h5]
    have Hh5 := hid h5; clear h5
    clear hmod
    by_cases h0 : a' = 0
    · subst h0
      have hcz : (strB [decD d] ++ strB suf).size = 1 + suf.length := by rw [HCAT.out, strB_size, List.length_cons]; omega
      have HRS : Hid ((⟨#[45]⟩ : ByteArray) ++ (strB [decD d] ++ strB suf) = strB (Lib.itoa (-(N : Int)))) := hid (by rw [HI.out, HLA.out rfl, HCAT.out, show (⟨#[45]⟩ : ByteArray) = strB [45] from rfl, strB_append]; rfl)
      have hc2 : ¬ 9223372036854775807 < 1 + (1 + suf.length) := by omega
      go_wp2_with fail
      go_ret
      exact ⟨congrArg (fun x => Ending.returned (Value.string x)) HRS.out, Later.refl _⟩
    · have hx : ¬ ((a' : Int) = 0) := by omega
      go_wp2_with fail
      refine Round.mk' HR1.out Hmu1.out rfl ?_ ?_
      · exact ⟨a', decD d :: suf, congrArg (Value.int .i64) hwz, congrArg Value.string HCAT.out, HA'.out.1, rfl, hid (HMO.out h0)⟩
      · have h9 := HA'.out.2 h0
        exact natAbs_less (congrArg (Value.int .i64) hwz) Hh4.out (by omega)
  · have HI : Hid (Lib.itoa n = Lib.decDigits N) := hid (by unfold Lib.itoa; rw [if_neg hn, hN]; congr 1; omega)
    obtain rfl : n = (N : Int) := by omega
    clear hN
    go_enter Tryz.func82, Tryz.ntmps82
    go_wp2_with fail
    obtain ⟨R1, hR1⟩ : ∃ RR_ : (Nat → Value) → World → Prop, RR_ = (fun us wx => ∃ (a : Nat) (suf : List UInt8), us 4 = .int .i64 ((a : Int)) ∧ us 3 = .string (strB suf) ∧ a ≤ N ∧ wx = w ∧ Hid (Lib.decDigits N = Lib.decDigits a ++ suf)) := ⟨_, rfl⟩
    obtain ⟨mu1, hmu1⟩ : ∃ mu : (Nat → Value) → World → Nat, mu = (fun us _ => (intOf (us 4)).natAbs) := ⟨_, rfl⟩
    have HR1 := hid hR1; have Hmu1 := hid hmu1; clear hR1 hmu1
    refine wp_loop_frame' [false, false, false, true, true, true, false, true, true, true, true, true, true, true, true, true, true, true, true, true, true, true, true] R1 _ mu1 HR1.out ?_ ?_
    · exact ⟨N, [], rfl, rfl, Nat.le_refl _, rfl, hid (by simp)⟩
    intro us1 wx hrel
    obtain ⟨a, suf, h4, h3, ha, rfl, hd⟩ := hrel
    simp only [frameOf, Nat.reduceAdd, h4, h3]
    have Hh4 := hid h4; clear h4
    have Hh3 := hid h3; clear h3
    have hsl : suf.length ≤ 20 := by
      have a1 := HLEN.out
      have a2 := congrArg List.length hd.out
      rw [List.length_append] at a2
      omega
    obtain ⟨d, hdd⟩ : ∃ d, d = a % 10 := ⟨_, rfl⟩
    have hd10 : d < 10 := by omega
    obtain ⟨a', ha'⟩ : ∃ a', a' = a / 10 := ⟨_, rfl⟩
    have HLA : Hid (a' = 0 → Lib.decDigits N = decD d :: suf) := hid fun h0 => by rw [hdd]; exact dec_last hd.out (by omega)
    have HMO : Hid (a' ≠ 0 → Lib.decDigits N = Lib.decDigits a' ++ (decD d :: suf)) := hid fun h0 => by rw [hdd, ha']; exact dec_more hd.out (by omega)
    have hmod : (a : Int).tmod 10 = (d : Int) := by rw [Int.tmod_eq_emod_of_nonneg (by omega)]; omega
    have hwz : wrap64 (a' : Int) = (a' : Int) := by unfold wrap64; omega
    have hdiv : (a : Int).tdiv 10 = (a' : Int) := by rw [Int.tdiv_eq_ediv_of_nonneg (by omega)]; omega
    have HA' : Hid (a' ≤ N ∧ (a' ≠ 0 → a' < a)) := hid ⟨by omega, by omega⟩
    have hw1 : IntKind.i64.wrap ((d : Int) + 1) = (d : Int) + 1 := IntWalk.i64_in _ (by omega)
    have hc1 : ¬ 9223372036854775807 < 1 + suf.length := by omega
    have HCAT : Hid (strB [decD d] ++ strB suf = strB (decD d :: suf)) := hid (strB_append _ _)
    clear hdd ha' hd
    go_upto_if 10 with (fail)
    obtain ⟨R2, hR2⟩ : ∃ RR_ : (Nat → Value) → World → Prop, RR_ = (fun us wy => us 5 = .int .i64 (d : Int) ∧ wy = wx) := ⟨_, rfl⟩
    have HR2 := hid hR2; clear hR2
    refine wp_cut_frame' [false, false, false, false, false, true, false, false, false, false, true, true, true] R2 _ HR2.out ?_ ?_
    · go_wp2_with fail
      refine Meet.mk' HR2.out rfl ?_
      exact ⟨by simp [slots], rfl⟩
    intro us2 wy hrel
    obtain ⟨h5, rfl⟩ := hrel
    simp only [frameOf, Nat.reduceAdd, h5]
    have Hh5 := hid h5; clear h5
    clear hmod
    by_cases h0 : a' = 0
    · subst h0
      have hcz : (strB [decD d] ++ strB suf).size = 1 + suf.length := by rw [HCAT.out, strB_size, List.length_cons]; omega
      have HRS : Hid (strB [decD d] ++ strB suf = strB (Lib.itoa (N : Int))) := hid (by rw [HI.out, HLA.out rfl, HCAT.out])
      go_wp2_with fail
      go_ret
      exact ⟨congrArg (fun x => Ending.returned (Value.string x)) HRS.out, Later.refl _⟩
    · have hx : ¬ ((a' : Int) = 0) := by omega
      go_wp2_with fail
      refine Round.mk' HR1.out Hmu1.out rfl ?_ ?_
      · exact ⟨a', decD d :: suf, congrArg (Value.int .i64) hwz, congrArg Value.string HCAT.out, HA'.out.1, rfl, hid (HMO.out h0)⟩
      · have h9 := HA'.out.2 h0
        exact natAbs_less (congrArg (Value.int .i64) hwz) Hh4.out (by omega)
end Go.Proofs.YtgcnchmnciihnaaGreatDoor
namespace Go.Proofs.YtgcnchmnciihnaaGreatDoor
set_option linter.unusedSimpArgs false
set_option linter.unusedVariables false
open Go.RowKit

theorem run_eql_val (w : World) (x y : Val) : (binOp .eql 52 x.v y.v).run Tryz.prog w = .ok (.bool (eqV x y)) w := by
  obtain ⟨k, n, t⟩ := x
  obtain ⟨k', n', t'⟩ := y
  unfold eqV valEq str
  go_simp
  by_cases h1 : k = k' <;> by_cases h2 : n = n' <;> by_cases h3 : t.toList = t'.toList <;> simp [h1, h2, h3]
theorem run_neq_val (w : World) (x y : Val) : (binOp .neq 52 x.v y.v).run Tryz.prog w = .ok (.bool (!eqV x y)) w := by
  obtain ⟨k, n, t⟩ := x
  obtain ⟨k', n', t'⟩ := y
  unfold eqV valEq str
  go_simp
  by_cases h1 : k = k' <;> by_cases h2 : n = n' <;> by_cases h3 : t.toList = t'.toList <;> simp [h1, h2, h3]
theorem run_eql_val' (w : World) (k n k' n' : Int) (t t' : ByteArray) : (binOp .eql 52 (.agg #[.int .i64 k, .int .i64 n, .string t]) (.agg #[.int .i64 k', .int .i64 n', .string t'])).run Tryz.prog w = .ok (.bool (eqV ⟨k, n, t⟩ ⟨k', n', t'⟩)) w := run_eql_val w ⟨k, n, t⟩ ⟨k', n', t'⟩
theorem run_neq_val' (w : World) (k n k' n' : Int) (t t' : ByteArray) : (binOp .neq 52 (.agg #[.int .i64 k, .int .i64 n, .string t]) (.agg #[.int .i64 k', .int .i64 n', .string t'])).run Tryz.prog w = .ok (.bool (!eqV ⟨k, n, t⟩ ⟨k', n', t'⟩)) w := run_neq_val w ⟨k, n, t⟩ ⟨k', n', t'⟩
end Go.Proofs.YtgcnchmnciihnaaGreatDoor
namespace Go.Proofs.YtgcnchmnciihnaaGreatDoor
set_option linter.unusedSimpArgs false
set_option linter.unusedVariables false
open Go.RowKit

/-- is a value one? -/
def validV (x : Val) : Bool :=
  if x.k = 0 then decide (x.n = 0) && (str x.t).isEmpty
  else if x.k = 1 then (str x.t).isEmpty
  else if x.k = 2 then (str x.t).isEmpty && (decide (x.n = 0) || decide (x.n = 1))
  else if x.k = 3 then decide (x.n = 0) && decide (x.t.size ≤ 60)
  else false
def validR (r : Row) : Bool := decide (0 ≤ r.time) && (decide (r.time ≤ 1099511627776) && (decide (r.vals.length ≤ 8) && r.vals.all validV))

attribute [local go_sem high] run_eql_val' run_neq_val'
theorem valid_any (x : Val) (w : World) :
    Calls Tryz.prog 63 #[x.v] w fun e w' => e = .returned (.bool (validV x)) ∧ Later w w' := by
  obtain ⟨k, n, t⟩ := x
  by_cases h0 : k = 0
  · subst h0
    go_enter Tryz.func63, Tryz.ntmps63
    go_wp2
    go_ret
    exact ⟨ret_bool (by rw [Bool.eq_iff_iff]; simp [validV, eqV, valEq, str]), Later.alloc _ _⟩
  · by_cases h1 : k = 1
    · subst h1
      go_enter Tryz.func63, Tryz.ntmps63
      go_wp2
      go_ret
      exact ⟨ret_bool (by simp [validV, str]), Later.alloc _ _⟩
    · by_cases h2 : k = 2
      · subst h2
        cases ht : t.toList.isEmpty
        all_goals
          have HT := hid ht
          go_enter Tryz.func63, Tryz.ntmps63
          go_wp2
          go_ret
          exact ⟨ret_bool (by rw [Bool.eq_iff_iff]; simp [validV, str, HT.out]; try omega), Later.alloc _ _⟩
      · by_cases h3 : k = 3
        · subst h3
          by_cases hn : n = 0
          all_goals
            have HN := hid hn
            go_enter Tryz.func63, Tryz.ntmps63
            go_wp2
            go_ret
            exact ⟨ret_bool (by rw [Bool.eq_iff_iff]; simp [validV, str, HN.out]; try omega), Later.alloc _ _⟩
        · have HR : Hid (validV ⟨k, n, t⟩ = false) := hid (by simp [validV, h0, h1, h2, h3])
          go_enter Tryz.func63, Tryz.ntmps63
          go_wp2
          go_ret
          exact ⟨ret_bool HR.out.symm, Later.alloc _ _⟩
theorem rvalid_any (x : Val) (w : World) :
    Calls Tryz.prog 68 #[x.v] w fun e w' => e = .returned (.bool (validV x)) ∧ Later w w' := by
  obtain ⟨k, n, t⟩ := x
  by_cases h0 : k = 0
  · subst h0
    by_cases hn : n = 0
    all_goals
      have HN := hid hn
      go_enter Tryz.func68, Tryz.ntmps68
      go_wp2
      go_ret
      exact ⟨ret_bool (by simp [validV, str, HN.out]), Later.alloc _ _⟩
  · by_cases h1 : k = 1
    · subst h1
      go_enter Tryz.func68, Tryz.ntmps68
      go_wp2
      go_ret
      exact ⟨ret_bool (by simp [validV, str]), Later.alloc _ _⟩
    · by_cases h2 : k = 2
      · subst h2
        cases ht : t.toList.isEmpty
        all_goals
          by_cases hn : n = 0
          all_goals
            have HT := hid ht
            have HN := hid hn
            go_enter Tryz.func68, Tryz.ntmps68
            go_wp2
            go_ret
            exact ⟨ret_bool (by rw [Bool.eq_iff_iff]; simp [validV, str, HT.out, HN.out]; try omega), Later.alloc _ _⟩
      · by_cases h3 : k = 3
        · subst h3
          by_cases hn : n = 0
          all_goals
            have HN := hid hn
            go_enter Tryz.func68, Tryz.ntmps68
            go_wp2
            go_ret
            exact ⟨ret_bool (by rw [Bool.eq_iff_iff]; simp [validV, str, HN.out]; try omega), Later.alloc _ _⟩
        · have HR : Hid (validV ⟨k, n, t⟩ = false) := hid (by simp [validV, h0, h1, h2, h3])
          go_enter Tryz.func68, Tryz.ntmps68
          go_wp2
          go_ret
          exact ⟨ret_bool HR.out.symm, Later.alloc _ _⟩
end Go.Proofs.YtgcnchmnciihnaaGreatDoor
