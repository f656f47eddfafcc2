/-
  PROVED HERE: the contract of value.Quote.
  PROVED HERE: the contract of the document's Quote.
-/
import Derived.Test.YtgajofkeidjbgaaGreatDoorGBytes
import Derived.Test.YtgajofkeidjbgaaGreatDoorGLexS
import Derived.Laws.DeepStrings4
namespace Go.Proofs.YtgajofkeidjbgaaGreatDoor
set_option linter.unusedSimpArgs false
set_option linter.unusedVariables false
open Go.RowKit

theorem infoB : ElemInfo Tryz.prog 5 1 1 := ElemInfo.of infoU8 rfl (by decide)
theorem hex_at : ∀ k : Nat, k < 16 → (⟨#[48, 49, 50, 51, 52, 53, 54, 55, 56, 57, 97, 98, 99, 100, 101, 102]⟩ : ByteArray).data.toList[k]?.map (fun b => (b.toNat : Int)) = some ((hexD k).toNat : Int) := by decide
theorem oddB_true {c : UInt8} (h : oddB c = true) : quoteC c = [92, hexD (c.toNat / 16), hexD (c.toNat % 16)] := by unfold quoteC; rw [if_pos h]
theorem oddB_false {c : UInt8} (h : oddB c = false) : quoteC c = [c] := by unfold quoteC; rw [h]; rfl

def hexS : ByteArray := ⟨#[48, 49, 50, 51, 52, 53, 54, 55, 56, 57, 97, 98, 99, 100, 101, 102]⟩
theorem hexS_at : ∀ k : Fin 16, hexS.data[k.1]? = some (hexD k.1) := by decide
theorem run_hex (w : World) (p : Nat) (hp : p < 16) : (Go.Instr.index 9 (.string ⟨#[48, 49, 50, 51, 52, 53, 54, 55, 56, 57, 97, 98, 99, 100, 101, 102]⟩) (.int .u8 (p : Int))).run Tryz.prog w = .ok (.int .u8 ((hexD p).toNat : Int)) w := by
  rw [run_index_string _ _ _ _ _ Tryz.underlying9]
  have h1 : (0 : Int) ≤ p ∧ (p : Int) < ((⟨#[48, 49, 50, 51, 52, 53, 54, 55, 56, 57, 97, 98, 99, 100, 101, 102]⟩ : ByteArray).size : Int) := ⟨by omega, by show (p : Int) < 16; omega⟩
  rw [dif_pos h1]
  have h2 := hexS_at ⟨p, hp⟩
  have h3 := (Array.getElem?_eq_some_iff.1 h2).2
  congr 3
  rw [← h3]
  rfl

theorem and15 : ∀ m : Fin 256, bits BinOp.and IntKind.u8 ((m.1 : Nat) : Int) 15 = ((m.1 % 16 : Nat) : Int) := by decide +kernel
attribute [local go_sem high] run_hex

set_option maxRecDepth 100000 in
set_option maxHeartbeats 2000000 in
theorem quote_any (s : ByteArray) (w : World) (hs : s.size ≤ 1099511627776) : Calls Tryz.prog 143 #[.string s] w (StrTo w (quoteL s.data.toList)) := by
  obtain ⟨l, hl⟩ : ∃ l, l = s.data.toList := ⟨_, rfl⟩
  have hsl : l.length = s.size := by rw [hl]; rfl
  rw [← hl]
  have HLD := hid hl
  clear hl
  go_enter Tryz.func143, Tryz.ntmps143
  go_upto_region 2 with (fail)
  have hO0 := World.ownsRow_lit (base := w.heap.size) (e := 5) (size := 1) w #[.int .u8 39] 1 (Nat.le_refl _) (by unfold maxLen; omega) rfl
  have HP0 : Hid (Put 5 w w.heap.size (.slice none 0 0) [39] (.slice (some ⟨w.heap.size, 0, none⟩) 1 1) (w.alloc (.cells #[.int .u8 39] 5))) := hid ⟨hO0, (Later.alloc w _).keeps _, .inr ⟨w.heap.size, rfl, Nat.le_refl _⟩⟩
  clear hO0
  generalize w.alloc (.cells #[.int .u8 39] 5) = w1 at *
  go_wp2_with (refine wpList_bytes_of rfl _ 9 55 5 rfl Tryz.underlying9 Tryz.underlying55 Tryz.underlying5 s rfl ?_)
  intro c w2 hL2 hz2 hcell
  obtain ⟨B, hB⟩ : ∃ B, B = w1.heap.size := ⟨_, rfl⟩
  rw [← hB] at hcell ⊢
  have hw1 : w.heap.size < w1.heap.size := by
    have h9 := (owns_block HP0.out.own w.heap.size rfl).2; omega
  have HC : Hid (∀ k (hk : k < l.length), w2.cell? ⟨B, k, none⟩ = some (.int .u8 ((l[k]).toNat : Int))) := hid (by have h := HLD.out; subst h; exact hcell)
  have HP2 := hid (HP0.out.behind hL2)
  have HB : Hid (w.heap.size < B) := hid (by omega)
  have hB0 := HB.out
  clear hcell hL2 hz2 hB hw1 HP0
  go_wp2_with fail
  obtain ⟨R1, hR1⟩ : ∃ RR_ : (Nat → Value) → World → Prop, RR_ = (fun us wx => ∃ (k : Nat) (v : Value), k ≤ l.length ∧ us 10 = .int .i64 k ∧ us 3 = v ∧ Put 5 w w.heap.size (.slice none 0 0) (39 :: (l.take k).flatMap quoteC) v wx ∧ (∀ k (hk : k < l.length), wx.cell? ⟨B, k, none⟩ = some (.int .u8 ((l[k]).toNat : Int))) ∧ some B ≠ v.ownBlock) := ⟨_, rfl⟩
  obtain ⟨mu1, hmu1⟩ : ∃ mu : (Nat → Value) → World → Nat, mu = (fun us _ => l.length - (intOf (us 10)).toNat) := ⟨_, rfl⟩
  have HR1 := hid hR1; have Hmu1 := hid hmu1; clear hR1 hmu1
  refine wp_loop_frame' [false, false, false, true, false, true, false, false, false, false, true, true, true, true, true, true, true, true, true, true, true, true, true, true, true, true, true, true, true, true, true, true, true, true, true, true, true, true, true, true, true, true] R1 _ mu1 HR1.out ?_ ?_
  · exact ⟨0, .slice (some ⟨w.heap.size, 0, none⟩) 1 1, by omega, rfl, rfl, HP2.out, HC.out, fun h => by simp only [Value.ownBlock, Option.some.injEq] at h; omega⟩
  clear HP2 HC
  intro us1 wx hrel
  obtain ⟨k, v, hk, h10, h3, hP, hC, hne⟩ := hrel
  simp only [frameOf, Nat.reduceAdd, h10, h3]
  have Hh10 := hid h10; clear h10
  have Hh3 := hid h3; clear h3
  have HP := hid hP
  have HC := hid hC
  have HNE := hid hne
  clear hP hC hne
  by_cases hlt : k < l.length
  · have q0 := HC.out k hlt
    have HX : Hid ((l.take (k + 1)).flatMap quoteC = (l.take k).flatMap quoteC ++ quoteC l[k]) := hid (flat_snoc hlt)
    have hfl := flat_len (l.take k)
    have htl : (l.take k).length ≤ l.length := by rw [List.length_take]; omega
    generalize l[k] = ch at *
    obtain ⟨m, hm⟩ : ∃ m, m = ch.toNat := ⟨_, rfl⟩
    have hm8 : m < 256 := by rw [hm]; exact ch.toNat_lt
    have HM := hid hm
    rw [← hm] at q0
    have hkk : (0 : Int) ≤ k := by omega
    clear hm
    go_upto_region 5 with (fail)
    obtain ⟨R2, hR2⟩ : ∃ RR_ : (Nat → Value) → World → Prop, RR_ = (fun us wy => us 27 = .bool (oddB ch) ∧ wy = wx) := ⟨_, rfl⟩
    have HR2 := hid hR2; clear hR2
    refine wp_cut_frame' [false, false, false, false, false, false, false, false, false, false, false, false, false, false, true, true, true, true, true, true, true, true, true, true, true, true, true, true] R2 _ HR2.out ?_ ?_
    · by_cases c1 : (m : Int) < 32
      · go_wp2_with fail
        refine Meet.mk' HR2.out rfl ?_
        exact ⟨by simp [slots, oddB, ← HM.out, show m < 32 by omega], rfl⟩
      by_cases c2 : (126 : Int) < m
      · go_wp2_with fail
        refine Meet.mk' HR2.out rfl ?_
        exact ⟨by simp [slots, oddB, ← HM.out, show ¬ m < 32 by omega, show 126 < m by omega], rfl⟩
      by_cases c3 : (m : Int) = 39
      · go_wp2_with fail
        refine Meet.mk' HR2.out rfl ?_
        exact ⟨by simp [slots, oddB, ← HM.out, show m = 39 by omega], rfl⟩
      by_cases c4 : (m : Int) = 92
      · go_wp2_with fail
        refine Meet.mk' HR2.out rfl ?_
        exact ⟨by simp [slots, oddB, ← HM.out, show m = 92 by omega], rfl⟩
      · go_wp2_with fail
        refine Meet.mk' HR2.out rfl ?_
        exact ⟨by simp [slots, oddB, ← HM.out, show ¬ m < 32 by omega, show ¬ 126 < m by omega, c3, c4, show ¬ m = 39 by omega, show ¬ m = 92 by omega], rfl⟩
    intro us2 wy hrel
    obtain ⟨h27, rfl⟩ := hrel
    simp only [frameOf, Nat.reduceAdd, h27]
    have Hh27 := hid h27; clear h27
    cases hod : oddB ch with
    | true =>
      obtain ⟨p, hp⟩ : ∃ p, p = m / 16 := ⟨_, rfl⟩
      obtain ⟨q, hq⟩ : ∃ q, q = m % 16 := ⟨_, rfl⟩
      have hpi : (m : Int) / 16 = p := by omega
      have hqi : bits BinOp.and IntKind.u8 (m : Int) 15 = (q : Int) := by rw [hq]; exact and15 ⟨m, hm8⟩
      have hp16 : p < 16 := by omega
      have hq16 : q < 16 := by omega
      have HQC : Hid (quoteC ch = [92, hexD p, hexD q]) := hid (by rw [oddB_true hod, ← HM.out, hp, hq])
      clear hp hq
      go_wp2_with fail
      refine wp_region_plan (by kernel_rfl) (by kernel_rfl) [0] [7, 8, 9] (by kernel_rfl) (fun _ _ d _ _ h => by cases d <;> exact h) (Later) (Later.refl) (Later.trans) (fun _ => none) (fun _ _ _ _ _ h => by cases h) ?_
      simp only [body, tail, numbered, Nat.reduceAdd, List.filter_cons, List.filter_nil, List.contains_cons, List.contains_nil, Nat.reduceBEq, Bool.or_false, Bool.or_true, Bool.false_or, Bool.true_or, Bool.not_true, Bool.not_false, Bool.and_true, Bool.and_false, Bool.true_and, Bool.false_and, if_true, if_false, reduceIte, Bool.false_eq_true, List.map_cons, List.map_nil]
      refine Pures.cons rfl ?_
      apply Exists.intro
      refine ⟨fun w => ?_, ?_⟩
      · go_simp
        first | done | rfl
      simp only [Act.put, List.setIfInBounds_toArray, List.set]
      simp only [Pures]
      refine LexS.out ?_
      iterate 6
        first
        | (refine LexS.skip rfl ?_; simp only [Act.put, List.setIfInBounds_toArray, List.set])
        | (refine LexS.one' rfl rfl ?_
           apply Exists.intro
           refine ⟨fun w hR hF => ?_, ?_⟩
           · have hP := hR
             repeat (first | replace hP := Later.of_drew hP | replace hP := Later.of_drewN hP | replace hP := Later.of_alloc hP)
             have hcs := hR.cells
             clear hR hF hP
             go_simp
             first | done | rfl
           simp only [Act.put, List.setIfInBounds_toArray, List.set])
      refine LexS.nil ?_
      intro w4 hR4 hF9
      clear hF9
      repeat (first | replace hR4 := Later.of_drew hR4 | replace hR4 := Later.of_drewN hR4 | replace hR4 := Later.of_alloc hR4)
      have HP4 := hid (HP.out.behind hR4)
      have HC4 := hid fun k hk => hR4.cell (HC.out k hk)
      have hsz4 : w.heap.size ≤ w4.heap.size := HP4.out.keep.size
      have hbl : B < w4.heap.size := cell_lt (HC4.out k hlt)
      clear hR4 hpi hqi q0
      change wpList _ _ _ _ _ _
      go_wp2_with (at_builtin; go_loud (refine wpList_append_obj rfl _ _ 55 rfl 5 1 1 Tryz.underlying55 infoB rfl (owns_later HP4.out.own (Later.alloc _ _)) (news := byteCells [92, hexD p, hexD q]) rfl (obj_at (by simp)) rfl (byteCells_one _) ?c1 ?c2 ?c3 ?_))
      case c1 => simp only [List.length_cons]; omega
      case c2 => simp only [List.length_cons]; unfold maxLen; omega
      case c3 => simp only [World.size_alloc]; omega
      intro v7 w7 hA7
      have hp7 : Put 5 _ w.heap.size v (39 :: (l.take (k + 1)).flatMap quoteC) v7 w7 := Put.of_appended hA7 (by rw [HX.out, HQC.out]; simp) (by rw [HX.out, HQC.out]; simp [byteCells])
      have HP7 := hid (HP4.out.trans (Put.ahead (Later.alloc _ _) hp7))
      have HC7 : Hid (∀ k (hk : k < l.length), w7.cell? ⟨B, k, none⟩ = some (.int .u8 ((l[k]).toNat : Int))) := hid fun k hk => hp7.keep.cell (p := ⟨B, k, none⟩) HNE.out ((Later.alloc _ _).cell (HC4.out k hk))
      have HN7 : Hid (some B ≠ v7.ownBlock) := hid (hp7.other (by simp only [World.size_alloc]; omega) HNE.out)
      clear hA7 hp7
      go_wp2_with fail
      refine Round.mk' HR1.out Hmu1.out rfl ?_ ?_
      · exact ⟨k + 1, v7, by omega, by go_num, rfl, HP7.out, HC7.out, HN7.out⟩
      · rw [Hh10.out]; simp [intOf, slots]; omega
    | false =>
      have HQC : Hid (quoteC ch = [ch]) := hid (oddB_false hod)
      have hsz4 : w.heap.size ≤ wy.heap.size := HP.out.keep.size
      have hbl : B < wy.heap.size := cell_lt (HC.out k hlt)
      clear q0
      go_wp2_with (at_builtin; go_loud (refine wpList_append_obj rfl _ _ 55 rfl 5 1 1 Tryz.underlying55 infoB rfl (owns_later HP.out.own (Later.alloc _ _)) (news := [.int .u8 (m : Int)]) rfl (obj_at (by simp)) rfl ?c0 ?c1 ?c2 ?c3 ?_))
      case c0 => intro u hu; simp only [List.mem_cons, List.not_mem_nil, or_false] at hu; subst hu; rfl
      case c1 => simp only [List.length_cons]; omega
      case c2 => simp only [List.length_cons]; unfold maxLen; omega
      case c3 => simp only [World.size_alloc]; omega
      intro v7 w7 hA7
      have hp7 : Put 5 _ w.heap.size v (39 :: (l.take (k + 1)).flatMap quoteC) v7 w7 := Put.of_appended hA7 (by rw [HX.out, HQC.out]; simp) (by rw [HX.out, HQC.out, HM.out]; simp [byteCells])
      have HP7 := hid (HP.out.trans (Put.ahead (Later.alloc _ _) hp7))
      have HC7 : Hid (∀ k (hk : k < l.length), w7.cell? ⟨B, k, none⟩ = some (.int .u8 ((l[k]).toNat : Int))) := hid fun k hk => hp7.keep.cell (p := ⟨B, k, none⟩) HNE.out ((Later.alloc _ _).cell (HC.out k hk))
      have HN7 : Hid (some B ≠ v7.ownBlock) := hid (hp7.other (by simp only [World.size_alloc]; omega) HNE.out)
      clear hA7 hp7
      go_wp2_with fail
      refine Round.mk' HR1.out Hmu1.out rfl ?_ ?_
      · exact ⟨k + 1, v7, by omega, by go_num, rfl, HP7.out, HC7.out, HN7.out⟩
      · rw [Hh10.out]; simp [intOf, slots]; omega
  · obtain rfl : k = l.length := by omega
    rw [List.take_length] at HP
    have hfl := flat_len l
    have hsz4 : w.heap.size ≤ wx.heap.size := HP.out.keep.size
    go_wp2_with (at_builtin; go_loud (refine wpList_append_obj rfl _ _ 55 rfl 5 1 1 Tryz.underlying55 infoB rfl (owns_later HP.out.own (Later.alloc _ _)) (news := byteCells [39]) rfl (obj_at (by simp)) rfl (byteCells_one _) ?c1 ?c2 ?c3 ?_))
    case c1 => simp only [List.length_cons]; omega
    case c2 => simp only [List.length_cons]; unfold maxLen; omega
    case c3 => simp only [World.size_alloc]; omega
    intro v7 w7 hA7
    have hp7 : Put 5 _ w.heap.size v (quoteL l) v7 w7 := Put.of_appended hA7 (by simp [quoteL]) (by simp [quoteL, byteCells])
    have hP7 := HP.out.trans (Put.ahead (Later.alloc _ _) hp7)
    have HL7 := hid (hP7.later rfl)
    have hstr := (owned_bytes hP7.own).string (src := 55) (dst := 9) Tryz.underlying55 Tryz.underlying5 Tryz.underlying9
    obtain ⟨a7, c7, rfl⟩ := ownsRow_slice hP7.own
    clear hA7 hp7 hP7
    go_wp2_with fail
    go_ret
    exact ⟨rfl, HL7.out⟩
end Go.Proofs.YtgajofkeidjbgaaGreatDoor
namespace Go.Proofs.YtgajofkeidjbgaaGreatDoor
set_option linter.unusedSimpArgs false
set_option linter.unusedVariables false
open Go.RowKit

theorem hex_cut : ∀ p : Fin 16, (⟨#[48, 49, 50, 51, 52, 53, 54, 55, 56, 57, 97, 98, 99, 100, 101, 102]⟩ : ByteArray).extract p.1 (p.1 + 1) = strB [hexD p.1] := by decide +kernel
theorem run_hexcut (w : World) (p : Nat) (hp : p < 16) : (Go.Instr.slice 9 (.string ⟨#[48, 49, 50, 51, 52, 53, 54, 55, 56, 57, 97, 98, 99, 100, 101, 102]⟩) (some (.int .u8 (p : Int))) (some (.int .u8 ((p : Int) + 1))) none).run Tryz.prog w = .ok (.string (strB [hexD p])) w := by
  rw [run_slice_string_if _ _ _ _ _ _ _ Tryz.underlying9, if_pos ⟨by omega, by show (p : Int) + 1 ≤ 16; omega⟩, if_pos ⟨by omega, by omega⟩]
  have h := hex_cut ⟨p, hp⟩
  rw [← h]
  congr 3
attribute [local go_sem high] run_hexcut
attribute [local go_sem] strB_size
theorem cut_one (s : ByteArray) (k : Nat) (hk : k < s.data.toList.length) : s.extract k (k + 1) = strB [s.data.toList[k]] := by
  apply ByteArray.ext
  have hk' : k < s.data.size := by simpa using hk
  have hz : s.size = s.data.size := rfl
  simp only [ByteArray.data_extract, strB]
  apply Array.ext
  · simp; omega
  · intro i h1 h2
    obtain rfl : i = 0 := by simp at h2; omega
    simp

set_option maxRecDepth 100000 in
set_option maxHeartbeats 2000000 in
theorem rquote_any (s : ByteArray) (w : World) (hs : s.size ≤ 1099511627776) : Calls Tryz.prog 52 #[.string s] w (StrTo w (quoteL s.data.toList)) := by
  obtain ⟨l, hl⟩ : ∃ l, l = s.data.toList := ⟨_, rfl⟩
  have hsl : l.length = s.size := by rw [hl]; rfl
  rw [← hl]
  have HCT : Hid (∀ k (hk : k < l.length), s.extract k (k + 1) = strB [l[k]]) := hid (by subst hl; exact cut_one s)
  have HIX : Hid (∀ k (hk : k < l.length) (hk' : k < s.size), s[k]'hk' = l[k]) := hid (by subst hl; intro k h1 h2; simp; rfl)
  clear hl
  go_enter Tryz.func52, Tryz.ntmps52
  go_wp2_with fail
  obtain ⟨R1, hR1⟩ : ∃ RR_ : (Nat → Value) → World → Prop, RR_ = (fun us wx => ∃ k : Nat, k ≤ l.length ∧ us 4 = .int .i64 k ∧ us 3 = .string (strB (39 :: (l.take k).flatMap quoteC)) ∧ Later w wx) := ⟨_, rfl⟩
  obtain ⟨mu1, hmu1⟩ : ∃ mu : (Nat → Value) → World → Nat, mu = (fun us _ => l.length - (intOf (us 4)).toNat) := ⟨_, rfl⟩
  have HR1 := hid hR1; have Hmu1 := hid hmu1; clear hR1 hmu1
  refine wp_loop_frame' [false, false, false, true, true, true, true, true, true, true, true, true, true, true, true, true, true, true, true, true, true, true, true, true, true, true, true, true, true, true, true, true, true, true, true, true, true, true, true, true, true, true, true, true, true, true, true, true, true, true, true, true, true, true] R1 _ mu1 HR1.out ?_ ?_
  · exact ⟨0, by omega, rfl, rfl, Later.refl _⟩
  intro us1 wx hrel
  obtain ⟨k, hk, h4, h3, hL⟩ := hrel
  simp only [frameOf, Nat.reduceAdd, h4, h3]
  have Hh4 := hid h4; clear h4
  have Hh3 := hid h3; clear h3
  have HL := hid hL
  clear hL
  by_cases hlt : k < l.length
  · have HX : Hid ((l.take (k + 1)).flatMap quoteC = (l.take k).flatMap quoteC ++ quoteC l[k]) := hid (flat_snoc hlt)
    have hlt' : k < s.size := by omega
    have hix := HIX.out k hlt hlt'
    have HCUT : Hid (s.extract k (k + 1) = strB [l[k]]) := hid (HCT.out k hlt)
    generalize l[k] = ch at *
    obtain ⟨m, hm⟩ : ∃ m, m = ch.toNat := ⟨_, rfl⟩
    have hm8 : m < 256 := by rw [hm]; exact ch.toNat_lt
    have HM := hid hm
    have hkk : (0 : Int) ≤ k := by omega
    have hfl := flat_len (l.take k)
    have htl : (l.take k).length ≤ l.length := by rw [List.length_take]; omega
    obtain ⟨L, hL⟩ : ∃ L, L = 39 :: (l.take k).flatMap quoteC := ⟨_, rfl⟩
    have hLz : (strB L).size = L.length := strB_size L
    have hLb : L.length ≤ 4398046511104 := by rw [hL, List.length_cons]; omega
    rw [← hL]
    have HLL : Hid (39 :: (l.take (k + 1)).flatMap quoteC = L ++ quoteC ch) := hid (by rw [HX.out, hL]; rfl)
    clear hL hfl htl HX
    go_upto_region 6 with (fail)
    rw [← hm]
    clear hm hix
    obtain ⟨R2, hR2⟩ : ∃ RR_ : (Nat → Value) → World → Prop, RR_ = (fun us wy => us 6 = .bool (oddB ch) ∧ wy = wx) := ⟨_, rfl⟩
    have HR2 := hid hR2; clear hR2
    refine wp_cut_frame' [false, false, false, false, false, false, true, false, false, false, false, false, false, false, false, false, true, true, true, true, true, true, true, true, true, true, true, true, true, true] R2 _ HR2.out ?_ ?_
    · by_cases c1 : (m : Int) < 32
      · go_wp2_with fail
        refine Meet.mk' HR2.out rfl ?_
        exact ⟨by simp [slots, oddB, ← HM.out, show m < 32 by omega], rfl⟩
      by_cases c2 : (126 : Int) < m
      · go_wp2_with fail
        refine Meet.mk' HR2.out rfl ?_
        exact ⟨by simp [slots, oddB, ← HM.out, show ¬ m < 32 by omega, show 126 < m by omega], rfl⟩
      by_cases c3 : (m : Int) = 39
      · go_wp2_with fail
        refine Meet.mk' HR2.out rfl ?_
        exact ⟨by simp [slots, oddB, ← HM.out, show m = 39 by omega], rfl⟩
      by_cases c4 : (m : Int) = 92
      · go_wp2_with fail
        refine Meet.mk' HR2.out rfl ?_
        exact ⟨by simp [slots, oddB, ← HM.out, show m = 92 by omega], rfl⟩
      · go_wp2_with fail
        refine Meet.mk' HR2.out rfl ?_
        exact ⟨by simp [slots, oddB, ← HM.out, show ¬ m < 32 by omega, show ¬ 126 < m by omega, c3, c4, show ¬ m = 39 by omega, show ¬ m = 92 by omega], rfl⟩
    intro us2 wy hrel
    obtain ⟨h6, rfl⟩ := hrel
    simp only [frameOf, Nat.reduceAdd, h6]
    have Hh6 := hid h6; clear h6
    cases hod : oddB ch with
    | true =>
      obtain ⟨p, hp⟩ : ∃ p, p = m / 16 := ⟨_, rfl⟩
      obtain ⟨q, hq⟩ : ∃ q, q = m % 16 := ⟨_, rfl⟩
      have hpi : (m : Int) / 16 = p := by omega
      have hqi : (m : Int).tmod 16 = q := by rw [Int.tmod_eq_emod_of_nonneg (by omega)]; omega
      have hpw0 : IntKind.u8.wrap (p : Int) = (p : Int) := IntWalk.u8_in _ (by omega)
      have hc1 : ¬ 9223372036854775807 < L.length + 1 := by omega
      have hc2 : ¬ 9223372036854775807 < L.length + 1 + 1 := by omega
      have hc3 : ¬ 9223372036854775807 < L.length + 1 + 1 + 1 := by omega
      have hp16 : p < 16 := by omega
      have hq16 : q < 16 := by omega
      have HQC : Hid (quoteC ch = [92, hexD p, hexD q]) := hid (by rw [oddB_true hod, ← HM.out, hp, hq])
      have hpw : IntKind.u8.wrap ((p : Int) + 1) = (p : Int) + 1 := IntWalk.u8_in _ (by omega)
      have hqw : IntKind.u8.wrap ((q : Int) + 1) = (q : Int) + 1 := IntWalk.u8_in _ (by omega)
      clear hp hq
      go_wp2_with fail
      refine wp_region_lex (by kernel_rfl) (by kernel_rfl) Later Later.refl Later.trans (fun _ => none) (fun _ _ _ _ _ h => by cases h) ?_
      simp only [numbered, Nat.reduceAdd]
      refine LexS.out ?_
      iterate 17
        first
        | (refine LexS.skip rfl ?_; simp only [Act.put, List.setIfInBounds_toArray, List.set])
        | (refine LexS.one' rfl rfl ?_
           apply Exists.intro
           refine ⟨fun w hR hF => ?_, ?_⟩
           · have hP := hR
             repeat (first | replace hP := Later.of_drew hP | replace hP := Later.of_drewN hP | replace hP := Later.of_alloc hP)
             have hcs := hR.cells
             clear hR hF hP
             go_simp
             first | done | rfl
           simp only [Act.put, List.setIfInBounds_toArray, List.set])
      refine LexS.nil ?_
      intro w4 hR4 hF9
      clear hF9
      repeat (first | replace hR4 := Later.of_drew hR4 | replace hR4 := Later.of_drewN hR4 | replace hR4 := Later.of_alloc hR4)
      have HR4 := hid hR4
      have HEQ : Hid (strB L ++ (⟨#[92]⟩ : ByteArray) ++ strB [hexD p] ++ strB [hexD q] = strB (39 :: (l.take (k + 1)).flatMap quoteC)) := hid (by
        rw [HLL.out, HQC.out, show (⟨#[92]⟩ : ByteArray) = strB [92] from rfl, strB_append, strB_append, strB_append]
        simp)
      clear hR4 hpi hqi hpw0 hc1 hc2 hc3 hpw hqw
      go_wp2_with fail
      refine Round.mk' HR1.out Hmu1.out rfl ?_ ?_
      · exact ⟨k + 1, by omega, by go_num, congrArg Value.string HEQ.out, Later.trans _ _ _ HL.out HR4.out⟩
      · rw [Hh4.out]; simp [intOf, slots]; omega
    | false =>
      have HQC : Hid (quoteC ch = [ch]) := hid (oddB_false hod)
      have hcut := HCUT.out
      have HEQ : Hid (strB L ++ strB [ch] = strB (39 :: (l.take (k + 1)).flatMap quoteC)) := hid (by
        rw [HLL.out, HQC.out, strB_append])
      have hcz : (strB [ch]).size = 1 := rfl
      go_wp2_with fail
      refine Round.mk' HR1.out Hmu1.out rfl ?_ ?_
      · exact ⟨k + 1, by omega, by go_num, congrArg Value.string HEQ.out, HL.out⟩
      · rw [Hh4.out]; simp [intOf, slots]; omega
  · obtain rfl : k = l.length := by omega
    rw [List.take_length]
    have hfl := flat_len l
    obtain ⟨L, hL⟩ : ∃ L, L = 39 :: l.flatMap quoteC := ⟨_, rfl⟩
    have hLz : (strB L).size = L.length := strB_size L
    have hLb : L.length ≤ 4398046511104 := by rw [hL, List.length_cons]; omega
    rw [← hL]
    have HLL : Hid (quoteL l = L ++ [39]) := hid (by rw [hL]; rfl)
    clear hL hfl
    go_wp2_with fail
    go_ret
    exact ⟨by rw [HLL.out, ← strB_append]; rfl, HL.out⟩
end Go.Proofs.YtgajofkeidjbgaaGreatDoor
