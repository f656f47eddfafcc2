/-
  PROVED HERE: the contract of the document's Row: what it reads of a text.
-/
import Derived.Test.YtbabfibmopfghaaGreatDoorRowRead
import Derived.Test.YtbabfibmopfghaaGreatDoorRefReadV
import Derived.Test.YtbabfibmopfghaaGreatDoorGRowPlain
import Derived.Test.YtbabfibmopfghaaGreatDoorRefValid
namespace Go.Proofs.YtbabfibmopfghaaGreatDoor
set_option linter.unusedSimpArgs false
set_option linter.unusedVariables false
open Go.RowKit

/-- what the document's Row hands back. -/
def RefRow (w : World) (s : List UInt8) (e : Ending) (w' : World) : Prop :=
  Later w w' ∧ ∃ n v l, e = .returned (.tuple #[.agg #[.int .i64 n, v], .bool (rowD s).isSome]) ∧ IsVals w' v l ∧ ∀ r, rowD s = some r → r = (n, l)
theorem isVals_nil (w : World) : IsVals w (.slice none 0 0) [] := ⟨none, 0, rfl, by simp, by unfold maxLen; omega, fun _ => rfl, fun i hi => absurd hi (by simp)⟩
theorem headR_take (s : List UInt8) : s.take (headR s).length = headR s := by
  have h := List.takeWhile_prefix (fun c => c != 58) (l := s)
  exact (List.prefix_iff_eq_take.1 h).symm
/-- how far the head is read. -/
theorem head_at {s : List UInt8} {k : Nat} (hk : k ≤ (headR s).length) (h : k < s.length) : (s[k] = 58 ∧ k = (headR s).length) ∨ (s[k] ≠ 58 ∧ k + 1 ≤ (headR s).length) := by
  induction s generalizing k with
  | nil => cases h
  | cons c s ih =>
    by_cases hc : c = 58
    · subst hc
      have e : headR (58 :: s) = [] := rfl
      rw [e] at hk ⊢
      obtain rfl : k = 0 := by simpa using hk
      exact .inl ⟨rfl, rfl⟩
    · have e : headR (c :: s) = c :: headR s := by unfold headR; rw [List.takeWhile_cons_of_pos (by simp [hc])]
      rw [e] at hk ⊢
      cases k with
      | zero => exact .inr ⟨hc, by simp⟩
      | succ k =>
        simp only [List.length_cons] at hk h ⊢
        rcases ih (k := k) (by omega) (by omega) with ⟨h1, h2⟩ | ⟨h1, h2⟩
        · exact .inl ⟨by simpa using h1, by omega⟩
        · exact .inr ⟨by simpa using h1, by omega⟩

/-- what holds ahead of each round of the second loop. -/
def RefInv (w : World) (n : Int) (B0 B9 : Nat) (s : List UInt8) (acc : List Val) (v : Value) (i : Nat) (wx : World) : Prop :=
  Later w wx ∧ RObj wx B0 0 (.slice none 0 0) ∧ RObj wx B9 n v ∧ wx.ownsRow (B9 + 1) 62 3 v acc.length (valCells acc) ∧ (∀ x ∈ acc, IntOk x) ∧ acc.length ≤ i
set_option maxRecDepth 100000 in
set_option maxHeartbeats 4000000 in
theorem rrow_read (s : List UInt8) (w : World) (hs : s.length ≤ 1048576) : Calls Tryz.prog 14 #[.string (strB s)] w (RefRow w s) := by
  have HS := hid hs
  clear hs
  have hss : (strB s).size = s.length := strB_size s
  go_enter Tryz.func14, Tryz.ntmps14
  go_upto_region 1 with (fail)
  go_wp2_with fail
  obtain ⟨R1, hR1⟩ : ∃ RR_ : (Nat → Value) → World → Prop, RR_ = (fun us wx => ∃ k : Nat, k ≤ (headR s).length ∧ us 4 = .int .i64 k ∧ wx = w.alloc (.cells #[.int .i64 0, .slice none 0 0] 24)) := ⟨_, rfl⟩
  obtain ⟨mu1, hmu1⟩ : ∃ mu : (Nat → Value) → World → Nat, mu = (fun us _ => s.length - (intOf (us 4)).toNat) := ⟨_, rfl⟩
  have HR1 := hid hR1; have Hmu1 := hid hmu1; clear hR1 hmu1
  refine wp_loop_frame' [false, false, false, false, true, false, false, false, false, false, false, false, false, false, false, true, true, true, true, true, true, true, true, true, true, true, true] R1 _ mu1 HR1.out ?_ ?_
  · exact ⟨0, by omega, rfl, rfl⟩
  intro us1 wx hrel
  obtain ⟨k, hk, h4, rfl⟩ := hrel
  simp only [frameOf, Nat.reduceAdd, h4]
  have Hh4 := hid h4; clear h4
  have hz : (strB s).size = s.length := strB_size s
  have hk0 : (0 : Int) ≤ k := by omega
  go_upto_region 2 with (fail)
  obtain ⟨R2, hR2⟩ : ∃ RR_ : (Nat → Value) → World → Prop, RR_ = (fun us wy => us 24 = .bool (decide (k < (headR s).length)) ∧ wy = w.alloc (.cells #[.int .i64 0, .slice none 0 0] 24)) := ⟨_, rfl⟩
  have HR2 := hid hR2; clear hR2
  refine wp_cut_frame' [false, false, false, false, false, false, false, false, false, false, false, false, false, false, false, true, true, true, true, true, true, true, true, true, true] R2 _ HR2.out ?_ ?_
  · by_cases hlt : k < s.length
    · have hidx : ∀ (h : k < (strB s).size), (strB s)[k]'h = s[k] := fun h => rfl
      have hlt' : (k : Int) < s.length := by omega
      rcases head_at hk hlt with ⟨h1, h2⟩ | ⟨h1, h2⟩
      · have hcb : ((s[k].toNat : Int) == 58) = true := by rw [h1]; decide
        have HD : Hid (decide (k < (headR s).length) = false) := hid (by simp; omega)
        have HN : Hid (s[k].toNat = 58) := hid (by rw [h1]; decide)
        clear h1 h2
        go_wp2_with fail
        refine Meet.mk' HR2.out rfl ?_
        exact ⟨by have := HN.out; simp [slots, HD.out]; omega, rfl⟩
      · have hcb : ((s[k].toNat : Int) == 58) = false := by
          have : s[k].toNat ≠ 58 := fun h => h1 (UInt8.toNat_inj.1 h)
          simp; omega
        have HD : Hid (decide (k < (headR s).length) = true) := hid (by simp; omega)
        have HN : Hid (s[k].toNat ≠ 58) := hid fun h => h1 (UInt8.toNat_inj.1 h)
        clear h1 h2
        go_wp2_with fail
        refine Meet.mk' HR2.out rfl ?_
        exact ⟨by have := HN.out; simp [slots, HD.out]; omega, rfl⟩
    · have hlt' : ¬ (k : Int) < s.length := by omega
      have HD : Hid (decide (k < (headR s).length) = false) := hid (by have := (List.takeWhile_prefix (fun c => c != 58) (l := s)).length_le; have : (headR s).length ≤ s.length := this; simp; omega)
      go_wp2_with fail
      refine Meet.mk' HR2.out rfl ?_
      exact ⟨by simp [slots, HD.out], rfl⟩
  intro us2 wy hrel
  obtain ⟨h24, rfl⟩ := hrel
  simp only [frameOf, Nat.reduceAdd, h24]
  have Hh24 := hid h24; clear h24
  by_cases hlt : k < (headR s).length
  · have hle : (headR s).length ≤ s.length := (List.takeWhile_prefix (fun c => c != 58) (l := s)).length_le
    have hk1 : ¬ (9223372036854775807 : Int) < k + 1 := by have := HS.out; omega
    go_wp2_with fail
    refine Round.mk' HR1.out Hmu1.out rfl ?_ ?_
    · exact ⟨k + 1, by omega, by go_num, rfl⟩
    · rw [Hh4.out]; simp [intOf, slots]; omega
  · obtain rfl : k = (headR s).length := by omega
    have hle : (headR s).length ≤ s.length := (List.takeWhile_prefix (fun c => c != 58) (l := s)).length_le
    have HLE := hid hle
    have hcut : (strB s).extract 0 (headR s).length = strB (headR s) := by rw [strB_cut]; simp [headR_take]
    have hle' : ((headR s).length : Int) ≤ s.length := by omega
    go_wp2_with fail
    refine (rvread_any (headR s) _ (by have := HS.out; have := HLE.out; omega)).mono ?_
    rintro e w1 ⟨hL1, rfl⟩
    have HB1 := hid (hL1.obj (obj_new w _))
    have HL1 := hid (Later.of_alloc hL1)
    clear hL1 hcut hle hle' hk hlt hk0
    have HRS : Hid (readR (headR s) = readP (headR s)) := hid (read_same _).symm
    rw [HRS.out]
    cases hr : readP (headR s) with
    | none =>
      have HNO : Hid (rowD s = none) := hid (by unfold rowD; rw [hr])
      rw [show ((none : Option Val).getD nothing).v = .agg #[.int .i64 0, .int .i64 0, .string ⟨#[]⟩] from rfl, show (none : Option Val).isSome = false from rfl]
      clear hr
      have HB2 : Hid (RObj (w1.alloc (.cells #[.int .i64 0, .int .i64 0, .string ⟨#[]⟩] 62)) w.heap.size 0 (.slice none 0 0)) := hid ((Later.alloc w1 _).obj HB1.out)
      have b0 := cell_obj (i := 0) HB2.out rfl
      have b1 := cell_obj (i := 1) HB2.out rfl
      have z0 : (w1.alloc (.cells #[.int .i64 0, .int .i64 0, .string ⟨#[]⟩] 62)).frozen? ⟨w.heap.size, 0, none⟩ = false := free_obj HB2.out
      have z1 : (w1.alloc (.cells #[.int .i64 0, .int .i64 0, .string ⟨#[]⟩] 62)).frozen? ⟨w.heap.size, 1, none⟩ = false := free_obj HB2.out
      go_wp2_with fail
      have HZ : Hid (RObj (((w1.alloc (.cells #[.int .i64 0, .int .i64 0, .string ⟨#[]⟩] 62)).setCell ⟨w.heap.size, 0, none⟩ (.int .i64 0)).setCell ⟨w.heap.size, 1, none⟩ (.slice none 0 0)) w.heap.size 0 (.slice none 0 0)) := hid (obj_setCell (i := 1) (obj_setCell (i := 0) HB2.out (.int .i64 0)) (.slice none 0 0))
      have y0 := cell_obj (i := 0) HZ.out rfl
      have y1 := cell_obj (i := 1) HZ.out rfl
      refine bodyPost_ret (v := .tuple #[.agg #[.int .i64 0, .slice none 0 0], .bool false]) (by simp [results, Tryz.results14, go_sem, y0, y1] <;> rfl) rfl ⟨?_, 0, .slice none 0 0, [], by rw [HNO.out]; rfl, isVals_nil _, fun r hr => by rw [HNO.out] at hr; cases hr⟩
      exact ((HL1.out.alloc' _).new (p := ⟨w.heap.size, 0, none⟩) (Nat.le_refl _) _).new (p := ⟨w.heap.size, 1, none⟩) (Nat.le_refl _) _
    | some x =>
      rw [show ((some x : Option Val).getD nothing).v = .agg #[.int .i64 x.k, .int .i64 x.n, .string x.t] from rfl, show (some x : Option Val).isSome = true from rfl]
      by_cases hk1 : x.k = 1
      · have HK1 := hid hk1
        have HRX := hid hr
        obtain ⟨K, hK⟩ : ∃ K, K = (headR s).length := ⟨_, rfl⟩
        have HKK := hid hK
        have hk2 : ¬ (9223372036854775807 : Int) < (K : Int) + 2 := by have := HS.out; have := HLE.out; omega
        rw [← hK]
        clear hr hK
        go_upto_region 11 with (fail)
        obtain ⟨R3, hR3⟩ : ∃ RR_ : (Nat → Value) → World → Prop, RR_ = (fun us wx => ∃ acc v q i fr, us 8 = .int .i64 (fr : Nat) ∧ us 9 = .bool q ∧ us 10 = .int .i64 (i : Nat) ∧ i ≤ s.length + 2 ∧ fr ≤ s.length + 3 ∧ (i ≤ s.length → RunAt s i fr q acc (valsD s K)) ∧ (s.length < i → valsD s K = some acc) ∧ RefInv w x.n w.heap.size (w1.heap.size + 1) s acc v i wx) := ⟨_, rfl⟩
        obtain ⟨mu3, hmu3⟩ : ∃ mu : (Nat → Value) → World → Nat, mu = (fun us _ => s.length + 3 - (intOf (us 10)).toNat) := ⟨_, rfl⟩
        have HR3 := hid hR3; have Hmu3 := hid hmu3; clear hR3 hmu3
        refine wp_loop_frame' [false, false, false, true, false, false, false, false, true, true, true, true, true, false, false, false, false, false, false, false, false, false, false, false, false, false, false, false, false, false, false, false, false, false, false, false, false, false, false, false, false, false, false, false, false, false, false, false, true, true, true, true, true, true, true, true, true, true, true, true, true, true, true, true, true, true, true, true, true, true, true, true, true, true, true, true, true, true, true, true, true, true, true, true, true, true, true, true, true, true, true, true, true, true, true, true, true, true, true, true, true, true] R3 _ mu3 HR3.out ?_ ?_
        · refine ⟨[], .slice none 0 0, false, K + 2, K + 2, by simp [slots], rfl, by simp [slots], by have := HKK.out; have := HLE.out; omega, by have := HKK.out; have := HLE.out; omega, ?_, ?_, (HL1.out.alloc' _).alloc' _, ((Later.alloc w1 _).alloc' _).obj HB1.out, obj_at (by simp), ⟨rfl, .inl ⟨rfl, rfl⟩⟩, by simp, by simp⟩
          · intro hle
            have e : valsD s K = runD 0 [] false (s.drop (K + 2)) [] := by unfold valsD; rw [if_pos hle]
            rw [e]
            exact RunAt.first s (K + 2)
          · intro hle
            unfold valsD
            rw [if_neg (by omega)]
        intro us3 wx hrel
        obtain ⟨acc, v, q, i, fr, h8, h9, h10, hi, hfr, hrun, hend, hI⟩ := hrel
        simp only [frameOf, Nat.reduceAdd, h8, h9, h10]
        have Hh8 := hid h8; clear h8
        have Hh9 := hid h9; clear h9
        have Hh10 := hid h10; clear h10
        have HRUN := hid hrun
        have HEND := hid hend
        have HI := hid hI
        have hi0 : (0 : Int) ≤ i := by omega
        clear hrun hend hI hk2
        by_cases hle : i ≤ s.length
        · have hle' : (i : Int) ≤ s.length := by omega
          have HA := hid (HRUN.out hle)
          clear HRUN HEND
          go_upto_region 13 with (fail)
          obtain ⟨q1, hq1⟩ : ∃ q1 : Bool, q1 = (if h : i < s.length then togQ s[i] q else q) := ⟨_, rfl⟩
          have HQ1 := hid hq1
          obtain ⟨b, hb⟩ : ∃ b : Bool, b = (if h : i < s.length then decide (s[i] = 39) else false) := ⟨_, rfl⟩
          have HBB := hid hb
          have HQB : Hid (q1 = if b = true then !q else q) := hid (by
            rw [hq1, hb]
            by_cases hlt : i < s.length
            · by_cases h39 : s[i] = 39 <;> simp [hlt, h39, togQ]
            · simp [hlt])
          clear hb
          obtain ⟨R5, hR5⟩ : ∃ RR_ : (Nat → Value) → World → Prop, RR_ = (fun us wy => us 63 = .bool b ∧ wy = wx) := ⟨_, rfl⟩
          have HR5 := hid hR5; clear hR5
          refine wp_cut_frame' [false, false, false, false, false, false, false, false, false, false, false, false, false, false, false, false, false, false, false, false, false, false, false, false, false, false, false, false, false, false, false, false, false, false, false, false, false, false, false, false, false, false, false, false, false, false, false, false, false, false, false, false, false, false, true, true, true, true, true, true, true, true, true, true] R5 _ HR5.out ?_ ?_
          · by_cases hlt : i < s.length
            · have hidx : ∀ (h : i < (strB s).size), (strB s)[i]'h = s[i] := fun h => rfl
              have hlt' : (i : Int) < s.length := by omega
              clear hq1
              by_cases h39 : s[i] = 39
              · have hcb : ((s[i].toNat : Int) == 39) = true := by rw [h39]; decide
                have HN : Hid (s[i].toNat = 39) := hid (by rw [h39]; decide)
                go_wp2_with fail
                refine Meet.mk' HR5.out rfl ?_
                exact ⟨by have := HN.out; simp [slots, HBB.out, hlt, h39]; try omega, rfl⟩
              · have hcb : ((s[i].toNat : Int) == 39) = false := by
                  have : s[i].toNat ≠ 39 := fun h => h39 (UInt8.toNat_inj.1 h)
                  simp; omega
                have HN : Hid (s[i].toNat ≠ 39) := hid fun h => h39 (UInt8.toNat_inj.1 h)
                go_wp2_with fail
                refine Meet.mk' HR5.out rfl ?_
                exact ⟨by have := HN.out; simp [slots, HBB.out, hlt, h39]; try omega, rfl⟩
            · have hlt' : ¬ (i : Int) < s.length := by omega
              clear hq1
              go_wp2_with fail
              refine Meet.mk' HR5.out rfl ?_
              exact ⟨by simp [slots, HBB.out, hlt], rfl⟩
          intro us5 wy hrel
          obtain ⟨h63, rfl⟩ := hrel
          simp only [frameOf, Nat.reduceAdd, h63]
          have Hh63 := hid h63; clear h63
          clear hq1
          go_upto_if 63 with (fail)
          obtain ⟨R6, hR6⟩ : ∃ RR_ : (Nat → Value) → World → Prop, RR_ = (fun us wz => us 9 = .bool q1 ∧ wz = wy) := ⟨_, rfl⟩
          have HR6 := hid hR6; clear hR6
          refine wp_cut_frame' [false, false, false, false, false, false, false, false, false, true, false, false, false, false, false, false, false, false, false, false, false, false, false, false, false, false, false, false, false, false, false, false, false, false, false, false, false, false, false, false, false, false, false, false, false, false, false, false, false, false, false, false, false, false, false, false, false, false, false, false, false, false, false, false, true, true] R6 _ HR6.out ?_ ?_
          · cases b with
            | true =>
              have HE : Hid (q1 = !q) := hid (HQB.out.trans (if_pos rfl))
              go_wp2_with fail
              refine Meet.mk' HR6.out rfl ?_
              exact ⟨by simp [slots, HE.out], rfl⟩
            | false =>
              have HE : Hid (q1 = q) := hid (HQB.out.trans (if_neg (by decide)))
              go_wp2_with fail
              refine Meet.mk' HR6.out rfl ?_
              exact ⟨by simp [slots, HE.out], rfl⟩
          intro us6 wz hrel
          obtain ⟨h9, rfl⟩ := hrel
          simp only [frameOf, Nat.reduceAdd, h9]
          have Hh9 := hid h9; clear h9
          go_upto_region 15 with (fail)
          obtain ⟨b2, hb2⟩ : ∃ b2 : Bool, b2 = (if h : i < s.length then (decide (s[i] ≠ 44) || q1) else false) := ⟨_, rfl⟩
          have HB2 := hid hb2
          clear hb2
          obtain ⟨R7, hR7⟩ : ∃ RR_ : (Nat → Value) → World → Prop, RR_ = (fun us wa => us 78 = .bool b2 ∧ wa = wz) := ⟨_, rfl⟩
          have HR7 := hid hR7; clear hR7
          refine wp_cut_frame' [false, false, false, false, false, false, false, false, false, false, false, false, false, false, false, false, false, false, false, false, false, false, false, false, false, false, false, false, false, false, false, false, false, false, false, false, false, false, false, false, false, false, false, false, false, false, false, false, false, false, false, false, false, false, false, false, false, false, false, false, false, false, false, false, false, false, true, true, true, true, true, true, true, true, true, true, true, true, true] R7 _ HR7.out ?_ ?_
          · by_cases hlt : i < s.length
            · have hidx : ∀ (h : i < (strB s).size), (strB s)[i]'h = s[i] := fun h => rfl
              have hlt' : (i : Int) < s.length := by omega
              by_cases h44 : s[i] = 44
              · have hcb : (s[i].toNat : Int) = 44 := by rw [h44]; decide
                have HN : Hid (s[i].toNat = 44) := hid (by rw [h44]; decide)
                have HE : Hid (b2 = q1) := hid (by rw [HB2.out]; simp [hlt, h44])
                go_wp2_with fail
                refine Meet.mk' HR7.out rfl ?_
                exact ⟨by have := HN.out; simp [slots, HE.out, this], rfl⟩
              · have hcb : ¬ (s[i].toNat : Int) = 44 := by
                  have : s[i].toNat ≠ 44 := fun h => h44 (UInt8.toNat_inj.1 h)
                  omega
                have HN : Hid (s[i].toNat ≠ 44) := hid fun h => h44 (UInt8.toNat_inj.1 h)
                have HE : Hid (b2 = true) := hid (by rw [HB2.out]; simp [hlt, h44])
                go_wp2_with fail
                refine Meet.mk' HR7.out rfl ?_
                exact ⟨by have := HN.out; simp [slots, HE.out]; try omega, rfl⟩
            · have hlt' : ¬ (i : Int) < s.length := by omega
              have HE : Hid (b2 = false) := hid (by rw [HB2.out]; simp [hlt])
              go_wp2_with fail
              refine Meet.mk' HR7.out rfl ?_
              exact ⟨by simp [slots, HE.out], rfl⟩
          intro us7 wa hrel
          obtain ⟨h78, rfl⟩ := hrel
          simp only [frameOf, Nat.reduceAdd, h78]
          have Hh78 := hid h78; clear h78
          cases b2 with
          | true =>
            have hlt : i < s.length := by
              have h := HB2.out
              by_cases hlt : i < s.length
              · exact hlt
              · simp [hlt] at h
            have hq : q1 = togQ s[i] q := by rw [HQ1.out]; simp [hlt]
            have hcc : s[i] ≠ 44 ∨ togQ s[i] q = true := by
              have h := HB2.out
              simp only [hlt, dite_true] at h
              rw [← hq]
              simpa using h.symm
            have HG : Hid (RunAt s (i + 1) fr q1 acc (valsD s K)) := hid (by rw [hq]; exact HA.out.go hlt hcc)
            have hi1 : ¬ (9223372036854775807 : Int) < i + 1 := by have := HS.out; omega
            have HLT := hid hlt
            clear hq hcc hlt
            go_wp2_with fail
            refine Round.mk' HR3.out Hmu3.out rfl ?_ ?_
            · exact ⟨acc, v, q1, i + 1, fr, rfl, rfl, by go_num, by have := HLT.out; omega, by omega, fun _ => HG.out, fun h => by have := HLT.out; omega, HI.out.1, HI.out.2.1, HI.out.2.2.1, HI.out.2.2.2.1, HI.out.2.2.2.2.1, by have := HI.out.2.2.2.2.2; omega⟩
            · rw [Hh10.out]; have := HLT.out; simp [intOf, slots]; omega
          | false =>
            have HP := hid (HA.out.piece hle q1 HQ1.out HB2.out)
            by_cases hfi : i < fr
            · have hfi' : (i : Int) < fr := by omega
              have HNO : Hid (rowD s = none) := hid (by unfold rowD; rw [HRX.out]; simp only; rw [if_pos HK1.out, ← HKK.out, HP.out.1 hfi])
              have b0 := cell_obj (i := 0) HI.out.2.1 rfl
              have b1 := cell_obj (i := 1) HI.out.2.1 rfl
              have z0 : wa.frozen? ⟨w.heap.size, 0, none⟩ = false := free_obj HI.out.2.1
              have z1 : wa.frozen? ⟨w.heap.size, 1, none⟩ = false := free_obj HI.out.2.1
              clear hfi
              go_wp2_with fail
              have HZ : Hid (RObj ((wa.setCell ⟨w.heap.size, 0, none⟩ (.int .i64 0)).setCell ⟨w.heap.size, 1, none⟩ (.slice none 0 0)) w.heap.size 0 (.slice none 0 0)) := hid (obj_setCell (i := 1) (obj_setCell (i := 0) HI.out.2.1 (.int .i64 0)) (.slice none 0 0))
              have y0 := cell_obj (i := 0) HZ.out rfl
              have y1 := cell_obj (i := 1) HZ.out rfl
              refine bodyPost_ret (v := .tuple #[.agg #[.int .i64 0, .slice none 0 0], .bool false]) (by simp [results, Tryz.results14, go_sem, y0, y1] <;> rfl) rfl ⟨?_, 0, .slice none 0 0, [], by rw [HNO.out]; rfl, isVals_nil _, fun r hr => by rw [HNO.out] at hr; cases hr⟩
              exact (HI.out.1.new (p := ⟨w.heap.size, 0, none⟩) (Nat.le_refl _) _).new (p := ⟨w.heap.size, 1, none⟩) (Nat.le_refl _) _
            · have hfi' : ¬ (i : Int) < fr := by omega
              have HP2 := hid (HP.out.2 (by omega))
              have hcut : (strB s).extract fr i = strB ((s.drop fr).take (i - fr)) := strB_cut s fr i
              have hpl : ((s.drop fr).take (i - fr)).length ≤ 1048576 := by rw [List.length_take, List.length_drop]; have := HS.out; omega
              have HPL := hid hpl
              have hf0 : (0 : Int) ≤ fr := by omega
              have hfi2 : (fr : Int) ≤ i := by omega
              have HFR := hid hfr
              clear hfi hpl hfr HP
              go_wp2_with fail
              refine (rvread_any ((s.drop fr).take (i - fr)) _ (by have := HPL.out; omega)).mono ?_
              rintro e w5 ⟨hL5, rfl⟩
              have HLW5 := hid (Later.trans _ _ _ HI.out.1 hL5)
              have HB05 := hid (hL5.obj HI.out.2.1)
              have HB95 := hid (hL5.obj HI.out.2.2.1)
              have HO5 := hid (owns_at HI.out.2.2.2.1 hL5)
              clear hL5 hcut
              rw [(read_same ((s.drop fr).take (i - fr))).symm]
              cases hr5 : readP ((s.drop fr).take (i - fr)) with
              | none =>
                have HNO : Hid (rowD s = none) := hid (by
                  have h := HP2.out
                  rw [hr5] at h
                  unfold rowD; rw [HRX.out]; simp only; rw [if_pos HK1.out, ← HKK.out, h])
                rw [show ((none : Option Val).getD nothing).v = .agg #[.int .i64 0, .int .i64 0, .string ⟨#[]⟩] from rfl, show (none : Option Val).isSome = false from rfl]
                have HB06 : Hid (RObj (w5.alloc (.cells #[.int .i64 0, .int .i64 0, .string ⟨#[]⟩] 62)) w.heap.size 0 (.slice none 0 0)) := hid ((Later.alloc w5 _).obj HB05.out)
                have b0 := cell_obj (i := 0) HB06.out rfl
                have b1 := cell_obj (i := 1) HB06.out rfl
                have z0 : (w5.alloc (.cells #[.int .i64 0, .int .i64 0, .string ⟨#[]⟩] 62)).frozen? ⟨w.heap.size, 0, none⟩ = false := free_obj HB06.out
                have z1 : (w5.alloc (.cells #[.int .i64 0, .int .i64 0, .string ⟨#[]⟩] 62)).frozen? ⟨w.heap.size, 1, none⟩ = false := free_obj HB06.out
                clear hr5 HP2
                go_wp2_with fail
                have HZ : Hid (RObj (((w5.alloc (.cells #[.int .i64 0, .int .i64 0, .string ⟨#[]⟩] 62)).setCell ⟨w.heap.size, 0, none⟩ (.int .i64 0)).setCell ⟨w.heap.size, 1, none⟩ (.slice none 0 0)) w.heap.size 0 (.slice none 0 0)) := hid (obj_setCell (i := 1) (obj_setCell (i := 0) HB06.out (.int .i64 0)) (.slice none 0 0))
                have y0 := cell_obj (i := 0) HZ.out rfl
                have y1 := cell_obj (i := 1) HZ.out rfl
                refine bodyPost_ret (v := .tuple #[.agg #[.int .i64 0, .slice none 0 0], .bool false]) (by simp [results, Tryz.results14, go_sem, y0, y1] <;> rfl) rfl ⟨?_, 0, .slice none 0 0, [], by rw [HNO.out]; rfl, isVals_nil _, fun r hr => by rw [HNO.out] at hr; cases hr⟩
                exact ((HLW5.out.alloc' _).new (p := ⟨w.heap.size, 0, none⟩) (Nat.le_refl _) _).new (p := ⟨w.heap.size, 1, none⟩) (Nat.le_refl _) _
              | some y =>
                have HP3 : Hid ((i + 1 ≤ s.length → RunAt s (i + 1) (i + 2) q1 (acc ++ [y]) (valsD s K)) ∧ (s.length < i + 1 → valsD s K = some (acc ++ [y]))) := hid (by have h := HP2.out; rw [hr5] at h; exact h)
                have HOKY := hid (readP_ok hr5)
                rw [show ((some y : Option Val).getD nothing).v = .agg #[.int .i64 y.k, .int .i64 y.n, .string y.t] from rfl, show (some y : Option Val).isSome = true from rfl]
                have HB96 := hid ((Later.alloc w5 (.cells #[.int .i64 y.k, .int .i64 y.n, .string y.t] 62)).obj HB95.out)
                have p1 := cell_obj (i := 1) HB96.out rfl
                clear hr5 HP2
                have HAC : Hid (acc.length + 1 ≤ 1048578) := hid (by have := HI.out.2.2.2.2.2; have := HS.out; omega)
                have HSZ : Hid (w1.heap.size + 1 < w5.heap.size) := hid (Array.getElem?_eq_some_iff.1 HB95.out).1
                have HB0S : Hid (w.heap.size < w1.heap.size) := hid (Array.getElem?_eq_some_iff.1 HB1.out).1
                go_wp2_with (at_builtin; refine wpList_append_objx rfl _ _ 22 rfl 62 3 32 Tryz.underlying22 valElem rfl (owns_at HO5.out ((Later.alloc _ _).alloc' _)) (news := y.cells) rfl (obj_at (by simp)) rfl (cells_ones y) ?d1 ?d2 ?d3 ?_)
                case d1 => have := HAC.out; omega
                case d2 => have := HAC.out; unfold maxLen; omega
                case d3 => have := HSZ.out; simp; omega
                intro v7 w7 hA7
                obtain ⟨a7, c7, rfl⟩ := own_slice hA7.own
                have hO' := owns_at HO5.out ((Later.alloc w5 (.cells #[.int .i64 y.k, .int .i64 y.n, .string y.t] 62)).alloc' (.cells #[.int .i64 y.k, .int .i64 y.n, .string y.t] 62))
                have hk : Keeps (fun b => b < w1.heap.size + 2) ((w5.alloc (.cells #[.int .i64 y.k, .int .i64 y.n, .string y.t] 62)).alloc (.cells #[.int .i64 y.k, .int .i64 y.n, .string y.t] 62)) w7 := by
                  rcases hA7.kind with ⟨g, cap, hv, -, k⟩ | ⟨k, -⟩
                  · exact k.mono fun b _ hb e => by subst e; have := (ownb hO' b (by rw [hv]; rfl)).1; omega
                  · exact k.keeps _
                have hLs := ((Later.alloc w5 (.cells #[.int .i64 y.k, .int .i64 y.n, .string y.t] 62)).alloc' (.cells #[.int .i64 y.k, .int .i64 y.n, .string y.t] 62))
                have HB07 := hid (hk.obj (by have := HB0S.out; omega) (hLs.obj HB05.out))
                have HB97 := hid (hk.obj (by omega) (hLs.obj HB95.out))
                have HLW7 := hid (later_keep (Later.trans _ _ _ HLW5.out hLs) hk (by have := HB0S.out; omega))
                have HOWN := hid hA7.own
                clear hA7 hO' hk hLs p1
                have b1 := cell_obj (i := 1) HB97.out rfl
                have z1 : w7.frozen? ⟨w1.heap.size + 1, 1, none⟩ = false := free_obj HB97.out
                have hi1 : ¬ (9223372036854775807 : Int) < i + 1 := by have := HS.out; omega
                have hi2 : ¬ (9223372036854775807 : Int) < i + 2 := by have := HS.out; omega
                go_wp2_with fail
                refine Round.mk' HR3.out Hmu3.out rfl ?_ ?_
                · refine ⟨acc ++ [y], .slice a7 (acc.length + 1) c7, q1, i + 1, i + 2, by go_num, rfl, by go_num, by omega, by omega, fun h => HP3.out.1 h, fun h => HP3.out.2 h, HLW7.out.new (p := ⟨w1.heap.size + 1, 1, none⟩) (by have := HB0S.out; simp only; omega) _, ?_, ?_, ?_, ?_, ?_⟩
                  · exact ((Keeps.refl (fun b => b ≠ w1.heap.size + 1) w7).setCell (p := ⟨w1.heap.size + 1, 1, none⟩) (.inl fun h => h rfl) _).obj (by have := HB0S.out; omega) HB07.out
                  · exact obj_setCell (i := 1) HB97.out _
                  · rw [List.length_append, ← valCells_snoc]
                    exact owns_keep HOWN.out ((Keeps.refl (fun b => b ≠ w1.heap.size + 1) w7).setCell (p := ⟨w1.heap.size + 1, 1, none⟩) (.inl fun h => h rfl) _) (fun g hg => by have := (ownb HOWN.out g hg).1; omega)
                  · intro z hz
                    rcases List.mem_append.1 hz with hz | hz
                    · exact HI.out.2.2.2.2.1 z hz
                    · obtain rfl := List.mem_singleton.1 hz
                      exact HOKY.out
                  · have h1 := HI.out.2.2.2.2.2
                    rw [List.length_append, List.length_singleton]; omega
                · rw [Hh10.out]; simp [intOf, slots]; omega
        · have hle' : ¬ (i : Int) ≤ s.length := by omega
          have HT := hid (HEND.out (by omega))
          clear HRUN HEND
          go_upto_region 23 with (fail)
          have hmi : -9223372036854775808 ≤ (s.length : Int) - 1 := by omega
          obtain ⟨b3, hb3⟩ : ∃ b3 : Bool, b3 = decide (K + 1 = s.length) := ⟨_, rfl⟩
          have HB3 := hid hb3
          have hKL : ((K : Int) == wrap64 ((s.length : Int) - 1)) = b3 := by
            rw [hb3, show wrap64 ((s.length : Int) - 1) = (s.length : Int) - 1 by have := HS.out; unfold wrap64; omega]
            by_cases h : K + 1 = s.length
            · rw [decide_eq_true h]; simp; omega
            · rw [decide_eq_false h]; simp; omega
          clear hb3
          go_upto_if 106 with (fail)
          obtain ⟨R8, hR8⟩ : ∃ RR_ : (Nat → Value) → World → Prop, RR_ = (fun us wy => ∃ a' c', RefInv w x.n w.heap.size (w1.heap.size + 1) s acc (.slice a' acc.length c') i wy) := ⟨_, rfl⟩
          have HR8 := hid hR8; clear hR8
          refine wp_cut_frame' [false, false, false, false, false, false, false, false, false, false, false, false, false, false, false, false, false, false, false, false, false, false, false, false, false, false, false, false, false, false, false, false, false, false, false, false, false, false, false, false, false, false, false, false, false, false, false, false, false, false, false, false, false, false, false, false, false, false, false, false, false, false, false, false, false, false, false, false, false, false, false, false, false, false, false, false, false, false, false, false, false, false, false, false, false, false, false, false, false, false, false, false, false, false, false, false, false, false, false, false, false, false, false, false, false, false, false, true] R8 _ HR8.out ?_ ?_
          · cases b3 with
            | true =>
              have HACC : Hid (acc = []) := hid (by
                have h := HT.out
                have hk := HB3.out
                have hk' : K + 1 = s.length := by simpa using hk.symm
                unfold valsD at h
                rw [if_neg (by omega)] at h
                exact (Option.some.inj h).symm)
              have z1 : wx.frozen? ⟨w1.heap.size + 1, 1, none⟩ = false := free_obj HI.out.2.2.1
              have p1 := cell_obj (i := 1) HI.out.2.2.1 rfl
              have HB0S : Hid (w.heap.size < w1.heap.size) := hid (Array.getElem?_eq_some_iff.1 HB1.out).1
              clear hKL
              go_wp2_with fail
              refine Meet.mk' HR8.out rfl ?_
              rw [HACC.out]
              refine ⟨none, 0, HI.out.1.new (p := ⟨w1.heap.size + 1, 1, none⟩) (by have := HB0S.out; simp only; omega) _, ?_, obj_setCell (i := 1) HI.out.2.2.1 _, ⟨rfl, .inl ⟨rfl, rfl⟩⟩, by simp, by simp⟩
              exact ((Keeps.refl (fun b => b ≠ w1.heap.size + 1) wx).setCell (p := ⟨w1.heap.size + 1, 1, none⟩) (.inl fun h => h rfl) _).obj (by have := HB0S.out; omega) HI.out.2.1
            | false =>
              clear hKL
              go_wp2_with fail
              refine Meet.mk' HR8.out rfl ?_
              obtain ⟨a', c', rfl⟩ := own_slice HI.out.2.2.2.1
              exact ⟨a', c', HI.out⟩
          intro us8 wy hrel
          obtain ⟨a', c', hI'⟩ := hrel
          simp only [frameOf, Nat.reduceAdd]
          have HI' := hid hI'
          clear hKL hI'
          have HIV : Hid (ValsIn (fun b => w1.heap.size + 1 + 1 ≤ b) wy (.slice a' acc.length c') acc) := hid (owned_vals HI'.out.2.2.2.1)
          have hp0 := cell_obj (i := 0) HI'.out.2.2.1 rfl
          have hp1 := cell_obj (i := 1) HI'.out.2.2.1 rfl
          have HAL : Hid (acc.length ≤ 1099511627776) := hid (by have := HI.out.2.2.2.2.2; have := HS.out; omega)
          have HXN := hid (lit_ok (readP_ok HRX.out))
          clear hmi
          go_wp2_with fail
          refine (rshow_row x.n acc _ _ (HIV.out.vals_mono fun _ _ => trivial) HAL.out HXN.out (fun y hy => lit_ok (HI'.out.2.2.2.2.1 y hy))).mono ?_
          rintro e w6 ⟨rfl, hL6⟩
          have HL6 := hid (Later.trans _ _ _ HI'.out.1 hL6)
          have HB06 := hid (hL6.obj HI'.out.2.1)
          have HB96 := hid (hL6.obj HI'.out.2.2.1)
          have HIV6 := hid (HIV.out.later hL6)
          clear hL6 hp0 hp1
          have hp0 := cell_obj (i := 0) HB96.out rfl
          have hp1 := cell_obj (i := 1) HB96.out rfl
          go_wp2_with fail
          refine (rvalid_row x.n acc _ _ (HIV6.out.vals_mono fun _ _ => trivial)).mono ?_
          rintro e w7 ⟨rfl, hL7⟩
          have HL7 := hid (Later.trans _ _ _ HL6.out hL7)
          have HB07 := hid (hL7.obj HB06.out)
          have HB97 := hid (hL7.obj HB96.out)
          have HIV7 := hid (HIV6.out.later hL7)
          clear hL7 hp0 hp1
          have hp0 := cell_obj (i := 0) HB97.out rfl
          have hp1 := cell_obj (i := 1) HB97.out rfl
          have b0 := cell_obj (i := 0) HB07.out rfl
          have b1 := cell_obj (i := 1) HB07.out rfl
          have z0 : w7.frozen? ⟨w.heap.size, 0, none⟩ = false := free_obj HB07.out
          have z1 : w7.frozen? ⟨w.heap.size, 1, none⟩ = false := free_obj HB07.out
          have HD : Hid (rowD s = if showRow x.n acc = s ∧ validR ⟨x.n, acc⟩ = true then some (x.n, acc) else none) := hid (by
            unfold rowD; rw [HRX.out]; simp only; rw [if_pos HK1.out, ← HKK.out, HT.out])
          have HZ : Hid (RObj ((w7.setCell ⟨w.heap.size, 0, none⟩ (.int .i64 x.n)).setCell ⟨w.heap.size, 1, none⟩ (.slice a' acc.length c')) w.heap.size x.n (.slice a' acc.length c')) := hid (obj_setCell (i := 1) (obj_setCell (i := 0) HB07.out (.int .i64 x.n)) (.slice a' acc.length c'))
          have HB0S : Hid (w.heap.size < w1.heap.size) := hid (Array.getElem?_eq_some_iff.1 HB1.out).1
          have HIVZ : Hid (IsVals ((w7.setCell ⟨w.heap.size, 0, none⟩ (.int .i64 x.n)).setCell ⟨w.heap.size, 1, none⟩ (.slice a' acc.length c')) (.slice a' acc.length c') acc) := hid (by
            have hk : Keeps (fun b => w1.heap.size + 1 + 1 ≤ b) w7 ((w7.setCell ⟨w.heap.size, 0, none⟩ (.int .i64 x.n)).setCell ⟨w.heap.size, 1, none⟩ (.slice a' acc.length c')) :=
              ((Keeps.refl _ w7).setCell (p := ⟨w.heap.size, 0, none⟩) (.inl fun h => by have := HB0S.out; simp only at h; omega) _).setCell (p := ⟨w.heap.size, 1, none⟩) (.inl fun h => by have := HB0S.out; simp only at h; omega) _
            exact (HIV7.out.vals_kept hk fun _ h => h).vals_mono fun _ _ => trivial)
          have HLZ : Hid (Later w ((w7.setCell ⟨w.heap.size, 0, none⟩ (.int .i64 x.n)).setCell ⟨w.heap.size, 1, none⟩ (.slice a' acc.length c'))) := hid ((HL7.out.new (p := ⟨w.heap.size, 0, none⟩) (Nat.le_refl _) _).new (p := ⟨w.heap.size, 1, none⟩) (Nat.le_refl _) _)
          have y0 := cell_obj (i := 0) HZ.out rfl
          have y1 := cell_obj (i := 1) HZ.out rfl
          by_cases hsh : showRow x.n acc = s
          · have hne : ((strB (showRow x.n acc)).toList == (strB s).toList) = true := by rw [hsh]; simp
            have HSOME : Hid ((rowD s).isSome = validR ⟨x.n, acc⟩) := hid (by rw [HD.out]; cases validR ⟨x.n, acc⟩ <;> simp [hsh])
            clear hsh
            go_wp2_with fail
            refine bodyPost_ret (v := .tuple #[.agg #[.int .i64 x.n, .slice a' acc.length c'], .bool (validR ⟨x.n, acc⟩)]) (by simp [results, Tryz.results14, go_sem, y0, y1] <;> rfl) rfl ⟨HLZ.out, x.n, .slice a' acc.length c', acc, by rw [HSOME.out], HIVZ.out, fun r hr => ?_⟩
            have h := HD.out.symm.trans hr
            split at h
            · exact (Option.some.inj h).symm
            · cases h
          · have hne : ((strB (showRow x.n acc)).toList == (strB s).toList) = false := by
              rw [beq_eq_false_iff_ne]
              intro h
              rw [strB_toL, strB_toL] at h
              exact hsh h
            have HSOME : Hid (rowD s = none) := hid (by rw [HD.out, if_neg fun h => hsh h.1])
            clear hsh
            go_wp2_with fail
            refine bodyPost_ret (v := .tuple #[.agg #[.int .i64 x.n, .slice a' acc.length c'], .bool false]) (by simp [results, Tryz.results14, go_sem, y0, y1] <;> rfl) rfl ⟨HLZ.out, x.n, .slice a' acc.length c', acc, by rw [HSOME.out]; rfl, HIVZ.out, fun r hr => by rw [HSOME.out] at hr; cases hr⟩
      · have HNO : Hid (rowD s = none) := hid (by unfold rowD; rw [hr]; simp only; rw [if_neg hk1])
        have HK1 := hid hk1
        clear hr
        have HB2 : Hid (RObj (w1.alloc (.cells #[.int .i64 x.k, .int .i64 x.n, .string x.t] 62)) w.heap.size 0 (.slice none 0 0)) := hid ((Later.alloc w1 _).obj HB1.out)
        have b0 := cell_obj (i := 0) HB2.out rfl
        have b1 := cell_obj (i := 1) HB2.out rfl
        have z0 : (w1.alloc (.cells #[.int .i64 x.k, .int .i64 x.n, .string x.t] 62)).frozen? ⟨w.heap.size, 0, none⟩ = false := free_obj HB2.out
        have z1 : (w1.alloc (.cells #[.int .i64 x.k, .int .i64 x.n, .string x.t] 62)).frozen? ⟨w.heap.size, 1, none⟩ = false := free_obj HB2.out
        go_wp2_with fail
        have HZ : Hid (RObj (((w1.alloc (.cells #[.int .i64 x.k, .int .i64 x.n, .string x.t] 62)).setCell ⟨w.heap.size, 0, none⟩ (.int .i64 0)).setCell ⟨w.heap.size, 1, none⟩ (.slice none 0 0)) w.heap.size 0 (.slice none 0 0)) := hid (obj_setCell (i := 1) (obj_setCell (i := 0) HB2.out (.int .i64 0)) (.slice none 0 0))
        have y0 := cell_obj (i := 0) HZ.out rfl
        have y1 := cell_obj (i := 1) HZ.out rfl
        refine bodyPost_ret (v := .tuple #[.agg #[.int .i64 0, .slice none 0 0], .bool false]) (by simp [results, Tryz.results14, go_sem, y0, y1] <;> rfl) rfl ⟨?_, 0, .slice none 0 0, [], by rw [HNO.out]; rfl, isVals_nil _, fun r hr => by rw [HNO.out] at hr; cases hr⟩
        exact ((HL1.out.alloc' _).new (p := ⟨w.heap.size, 0, none⟩) (Nat.le_refl _) _).new (p := ⟨w.heap.size, 1, none⟩) (Nat.le_refl _) _
end Go.Proofs.YtbabfibmopfghaaGreatDoor
