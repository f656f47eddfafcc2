/-
  PROVED HERE: which texts are names: expr's Named and the document's answer alike.
  PROVED HERE: whether columns are some: expr's Columns and the document's answer alike.
-/
import Derived.Test.YtgajofkeidjbgaaGreatDoorGParPrim
import Derived.Test.YtgajofkeidjbgaaGreatDoorGRefP1
import Derived.Test.YtgajofkeidjbgaaGreatDoorGExprIdx
import Derived.Test.YtgajofkeidjbgaaGreatDoorGNameKeep
namespace Go.Proofs.YtgajofkeidjbgaaGreatDoor
set_option linter.unusedSimpArgs false
set_option linter.unusedVariables false
open Go.RowKit

def chOk : Nat → List UInt8 → Bool
  | _, [] => true
  | i, c :: r => (letterB c || (decide (i ≠ 0) && digitB c)) && chOk (i + 1) r
def namedP (s : List UInt8) : Bool := chOk 0 s && (decide (0 < s.length) && (decide (s.length ≤ 12) && !decide (s ∈ wordsW)))
theorem ch_step {s : List UInt8} {i : Nat} (h : i < s.length) : chOk i (s.drop i) = ((letterB s[i] || (decide (i ≠ 0) && digitB s[i])) && chOk (i + 1) (s.drop (i + 1))) := by
  rw [List.drop_eq_getElem_cons h]
  rfl
set_option maxRecDepth 100000 in
set_option maxHeartbeats 2000000 in
theorem named_any (s : List UInt8) (w : World) (hs : s.length ≤ 140737488355328) : Calls Tryz.prog 83 #[.string (strB s)] w fun e w' => e = .returned (.bool (namedP s)) ∧ Later w w' := by
  have HS := hid hs
  have hss : (strB s).size = s.length := strB_size s
  clear hs
  go_enter Tryz.func83, Tryz.ntmps83
  go_wp2_with fail
  refine (words_any w).mono ?_
  rintro e w1 ⟨b, rfl, hstr, hL1⟩
  have HL1 := hid hL1; have HSTR := hid hstr
  clear hL1 hstr
  go_wp2_with fail
  obtain ⟨R1, hR1⟩ : ∃ RR_ : (Nat → Value) → World → Prop, RR_ = (fun us wx => ∃ i : Nat, us 8 = .int .i64 (i : Int) ∧ i ≤ s.length ∧ chOk 0 s = chOk i (s.drop i) ∧ wx = w1) := ⟨_, rfl⟩
  obtain ⟨mu1, hmu1⟩ : ∃ mu : (Nat → Value) → World → Nat, mu = (fun us _ => s.length - (intOf (us 8)).toNat) := ⟨_, rfl⟩
  have HR1 := hid hR1; have Hmu1 := hid hmu1; clear hR1 hmu1
  refine wp_loop_frame' [false, false, true, false, true, false, false, false, true, true, true, true, true, true, true, true, true, true, true, true, true, true, true, true, true, true, true, true] R1 _ mu1 HR1.out ?_ ?_
  · exact ⟨0, rfl, Nat.zero_le _, rfl, rfl⟩
  intro us1 wx hrel
  obtain ⟨i, h8, hi, hch, hwx⟩ := hrel
  simp only [frameOf, Nat.reduceAdd, h8]
  have Hh8 := hid h8; clear h8
  subst hwx
  have HI := hid hi; have HCH := hid hch
  clear hi hch
  by_cases hlt : i < s.length
  · have HLT := hid hlt
    have hlt' : (i : Int) < s.length := by omega
    obtain ⟨c, hc⟩ : ∃ c, s[i]'hlt = c := ⟨_, rfl⟩
    have HC := hid hc
    have hidx : ∀ (h : i < (strB s).size), (strB s)[i]'h = c := fun h => hc
    have hj0 : (0 : Int) ≤ i := by omega
    have HWK : Hid (wrap64 ((i : Int) + 1) = ((i + 1 : Nat) : Int)) := hid (by have := HS.out; have := HLT.out; unfold wrap64; omega)
    have HST : Hid (chOk 0 s = ((letterB c || (decide (i ≠ 0) && digitB c)) && chOk (i + 1) (s.drop (i + 1)))) := hid (by rw [HCH.out, ch_step HLT.out, HC.out])
    clear hc
    go_wp2_with fail
    refine (letter_any c _).mono ?_
    rintro e w' ⟨rfl, hw'⟩
    subst w'
    obtain ⟨bl, hbl⟩ : ∃ b, letterB c = b := ⟨_, rfl⟩
    rw [hbl] at HST ⊢
    clear hbl
    cases bl with
    | true =>
      go_wp2_with fail
      try simp only [HWK.out]
      refine Round.mk' HR1.out Hmu1.out rfl ?_ ?_
      · exact ⟨i + 1, rfl, HLT.out, by rw [HST.out]; rfl, rfl⟩
      · rw [Hh8.out]; have := HLT.out; simp [intOf, slots]; omega
    | false =>
      by_cases h0 : i = 0
      · have h0i : ((i : Int) == 0) = true := by rw [h0]; rfl
        have H0 := hid h0
        clear h0
        go_wp2_with fail
        refine bodyPost_ret (results_tmp rfl _ _ _) rfl ⟨?_, HL1.out⟩
        unfold namedP
        rw [HST.out, H0.out]
        rfl
      · have h0i : ((i : Int) == 0) = false := by rw [beq_eq_false_iff_ne]; omega
        have H0 := hid h0
        clear h0
        go_wp2_with fail
        refine (digit_any c _).mono ?_
        rintro e w' ⟨rfl, hw'⟩
        subst w'
        obtain ⟨bd, hbd⟩ : ∃ b, digitB c = b := ⟨_, rfl⟩
        rw [hbd] at HST ⊢
        clear hbd
        cases bd with
        | true =>
          go_wp2_with fail
          try simp only [HWK.out]
          refine Round.mk' HR1.out Hmu1.out rfl ?_ ?_
          · exact ⟨i + 1, rfl, HLT.out, by rw [HST.out]; simp [H0.out], rfl⟩
          · rw [Hh8.out]; have := HLT.out; simp [intOf, slots]; omega
        | false =>
          go_wp2_with fail
          refine bodyPost_ret (results_tmp rfl _ _ _) rfl ⟨?_, HL1.out⟩
          unfold namedP
          rw [HST.out]
          simp
  · have hlt' : ¬ (i : Int) < s.length := by omega
    have HALL : Hid (chOk 0 s = true) := hid (by rw [HCH.out, List.drop_eq_nil_of_le (by omega)]; rfl)
    clear hlt
    by_cases hz : 0 < s.length
    · have hz' : (0 : Int) < s.length := by omega
      have HZ := hid hz
      by_cases h12 : s.length ≤ 12
      · have h12' : (s.length : Int) ≤ 12 := by omega
        have H12 := hid h12
        clear h12 hz
        go_wp2_with fail
        have HCL : Hid (∀ j, j < (wordsW.map strB).length → wx.cell? ⟨b, 0 + j, none⟩ = some (.string ((wordsW.map strB).getD j ByteArray.empty))) := hid (fun j hj => by
          have hj' : j < wordsW.length := by simpa using hj
          have h := HSTR.out j hj'
          rw [h, List.getD_eq_getElem?_getD, List.getElem?_map, List.getElem?_eq_getElem hj']
          rfl)
        refine (Tryz.slices_Contains_string b 0 6 6 (wordsW.map strB) (strB s) wx (by decide) (by omega) HCL.out).mono ?_
        rintro e w' ⟨rfl, hw'⟩
        subst w'
        rw [words_has s]
        go_wp2_with fail
        refine bodyPost_ret (results_tmp rfl _ _ _) rfl ⟨?_, HL1.out⟩
        unfold namedP
        rw [HALL.out, decide_eq_true HZ.out, decide_eq_true H12.out]
        rfl
      · have h12' : ¬ (s.length : Int) ≤ 12 := by omega
        have H12 := hid h12
        clear h12 hz
        go_wp2_with fail
        refine bodyPost_ret (results_tmp rfl _ _ _) rfl ⟨?_, HL1.out⟩
        unfold namedP
        rw [HALL.out, decide_eq_false H12.out]
        simp
    · have hz' : ¬ (0 : Int) < s.length := by omega
      have HZ := hid hz
      clear hz
      go_wp2_with fail
      refine bodyPost_ret (results_tmp rfl _ _ _) rfl ⟨?_, HL1.out⟩
      unfold namedP
      rw [HALL.out, decide_eq_false HZ.out]
      simp
set_option maxRecDepth 100000 in
set_option maxHeartbeats 2000000 in
theorem rnamed_any (s : List UInt8) (w : World) (hs : s.length ≤ 140737488355328) : Calls Tryz.prog 58 #[.string (strB s)] w fun e w' => e = .returned (.bool (namedP s)) ∧ w' = w := by
  have HS := hid hs
  have hss : (strB s).size = s.length := strB_size s
  clear hs
  go_enter Tryz.func58, Tryz.ntmps58
  go_wp2_with fail
  obtain ⟨R1, hR1⟩ : ∃ RR_ : (Nat → Value) → World → Prop, RR_ = (fun us wx => ∃ i : Nat, us 3 = .int .i64 (i : Int) ∧ i ≤ s.length ∧ chOk 0 s = chOk i (s.drop i) ∧ wx = w) := ⟨_, rfl⟩
  obtain ⟨mu1, hmu1⟩ : ∃ mu : (Nat → Value) → World → Nat, mu = (fun us _ => s.length - (intOf (us 3)).toNat) := ⟨_, rfl⟩
  have HR1 := hid hR1; have Hmu1 := hid hmu1; clear hR1 hmu1
  refine wp_loop_frame' [false, false, true, true, true, true, false, true, true, true, true, true, true, true, true, true, true, true, true, true, true, true, true, true, true, true, true, true, true, true, true] R1 _ mu1 HR1.out ?_ ?_
  · exact ⟨0, rfl, Nat.zero_le _, rfl, rfl⟩
  intro us1 wx hrel
  obtain ⟨i, h3, hi, hch, hwx⟩ := hrel
  simp only [frameOf, Nat.reduceAdd, h3]
  have Hh3 := hid h3; clear h3
  subst hwx
  have HI := hid hi; have HCH := hid hch
  clear hi hch
  by_cases hlt : i < s.length
  · have HLT := hid hlt
    have hlt' : (i : Int) < s.length := by omega
    obtain ⟨c, hc⟩ : ∃ c, s[i]'hlt = c := ⟨_, rfl⟩
    have HC := hid hc
    have hidx : ∀ (h : i < (strB s).size), (strB s)[i]'h = c := fun h => hc
    have hj0 : (0 : Int) ≤ i := by omega
    have HWK : Hid (wrap64 ((i : Int) + 1) = ((i + 1 : Nat) : Int)) := hid (by have := HS.out; have := HLT.out; unfold wrap64; omega)
    have HST : Hid (chOk 0 s = ((letterB c || (decide (i ≠ 0) && digitB c)) && chOk (i + 1) (s.drop (i + 1)))) := hid (by rw [HCH.out, ch_step HLT.out, HC.out])
    clear hc
    go_wp2_with fail
    refine (rletter_any c _).mono ?_
    rintro e w' ⟨rfl, hw'⟩
    subst w'
    obtain ⟨bl, hbl⟩ : ∃ b, letterB c = b := ⟨_, rfl⟩
    rw [hbl] at HST ⊢
    clear hbl
    go_wp2_with fail
    refine (rdigit_any c _).mono ?_
    rintro e w' ⟨rfl, hw'⟩
    subst w'
    obtain ⟨bd, hbd⟩ : ∃ b, digitB c = b := ⟨_, rfl⟩
    rw [hbd] at HST ⊢
    clear hbd
    cases bl with
    | true =>
      go_wp2_with fail
      try simp only [HWK.out]
      refine Round.mk' HR1.out Hmu1.out rfl ?_ ?_
      · exact ⟨i + 1, rfl, HLT.out, by rw [HST.out]; rfl, rfl⟩
      · rw [Hh3.out]; have := HLT.out; simp [intOf, slots]; omega
    | false =>
      by_cases h0 : i = 0
      · have h0i : ((i : Int) == 0) = true := by rw [h0]; rfl
        have H0 := hid h0
        clear h0
        go_wp2_with fail
        refine bodyPost_ret (results_tmp rfl _ _ _) rfl ⟨?_, rfl⟩
        unfold namedP
        rw [HST.out, H0.out]
        rfl
      · have h0i : ((i : Int) == 0) = false := by rw [beq_eq_false_iff_ne]; omega
        have H0 := hid h0
        clear h0
        cases bd with
        | true =>
          go_wp2_with fail
          try simp only [HWK.out]
          refine Round.mk' HR1.out Hmu1.out rfl ?_ ?_
          · exact ⟨i + 1, rfl, HLT.out, by rw [HST.out]; simp [H0.out], rfl⟩
          · rw [Hh3.out]; have := HLT.out; simp [intOf, slots]; omega
        | false =>
          go_wp2_with fail
          refine bodyPost_ret (results_tmp rfl _ _ _) rfl ⟨?_, rfl⟩
          unfold namedP
          rw [HST.out]
          simp
  · have hlt' : ¬ (i : Int) < s.length := by omega
    have HALL : Hid (chOk 0 s = true) := hid (by rw [HCH.out, List.drop_eq_nil_of_le (by omega)]; rfl)
    clear hlt
    go_wp2_with fail
    refine (word_any s wx).mono ?_
    rintro e w' ⟨rfl, hw'⟩
    subst w'
    by_cases hz : 0 < s.length
    · have hz' : (0 : Int) < s.length := by omega
      have HZ := hid hz
      by_cases h12 : s.length ≤ 12
      · have h12' : (s.length : Int) ≤ 12 := by omega
        have H12 := hid h12
        clear h12 hz
        go_wp2_with fail
        refine bodyPost_ret (results_tmp rfl _ _ _) rfl ⟨?_, rfl⟩
        unfold namedP
        rw [HALL.out, decide_eq_true HZ.out, decide_eq_true H12.out]
        rfl
      · have h12' : ¬ (s.length : Int) ≤ 12 := by omega
        have H12 := hid h12
        clear h12 hz
        go_wp2_with fail
        refine bodyPost_ret (results_tmp rfl _ _ _) rfl ⟨?_, rfl⟩
        unfold namedP
        rw [HALL.out, decide_eq_false H12.out]
        simp
    · have hz' : ¬ (0 : Int) < s.length := by omega
      have HZ := hid hz
      clear hz
      go_wp2_with fail
      refine bodyPost_ret (results_tmp rfl _ _ _) rfl ⟨?_, rfl⟩
      unfold namedP
      rw [HALL.out, decide_eq_false HZ.out]
      simp
end Go.Proofs.YtgajofkeidjbgaaGreatDoor
namespace Go.Proofs.YtgajofkeidjbgaaGreatDoor
set_option linter.unusedSimpArgs false
set_option linter.unusedVariables false
open Go.RowKit

/-- the columns behind 'pre' are some. -/
def goP : List Col → List Col → Bool
  | _, [] => true
  | pre, c :: r => (namedP c.s && (decide (1 ≤ c.k ∧ c.k ≤ 3) && !(pre.any fun d => d.s == c.s))) && goP (pre ++ [c]) r
def colsP (cs : List Col) : Bool := goP [] cs && decide (cs.length ≤ 8)
theorem go_step {cs : List Col} {i : Nat} (h : i < cs.length) : goP (cs.take i) (cs.drop i) = ((namedP cs[i].s && (decide (1 ≤ cs[i].k ∧ cs[i].k ≤ 3) && !((cs.take i).any fun d => d.s == cs[i].s))) && goP (cs.take (i + 1)) (cs.drop (i + 1))) := by
  rw [List.drop_eq_getElem_cons h, List.take_succ_eq_append_getElem h]
  rfl
theorem colsP_ok {cs : List Col} (h : colsP cs = true) : ColsOk cs := by
  unfold colsP at h
  have h1 : ∀ (r pre : List Col), goP pre r = true → ∀ c ∈ r, K3 c.k := by
    intro r
    induction r with
    | nil => intro pre _ c hc; cases hc
    | cons d r ih =>
      intro pre h c hc
      unfold goP at h
      simp only [Bool.and_eq_true, decide_eq_true_eq] at h
      rcases List.mem_cons.1 hc with rfl | hc
      · have := h.1.2.1; unfold K3; omega
      · exact ih _ h.2 c hc
  rw [Bool.and_eq_true] at h
  exact h1 cs [] h.1
set_option maxRecDepth 100000 in
set_option maxHeartbeats 4000000 in
theorem columns_any (ao : Option Addr) (c : Nat) (cs : List Col) (w : World) (hel : ColsEl w ao cs) (hlen : cs.length ≤ c ∧ cs.length ≤ 140737488355328) (hs : ∀ x ∈ cs, x.s.length ≤ 140737488355328) :
    Calls Tryz.prog 54 #[.slice ao cs.length c] w fun e w' => e = .returned (.bool (colsP cs)) ∧ Later w w' := by
  have HEL := hid hel; have HLN := hid hlen; have HS := hid hs
  clear hel hlen hs
  go_enter Tryz.func54, Tryz.ntmps54
  go_wp2_with fail
  obtain ⟨R1, hR1⟩ : ∃ RR_ : (Nat → Value) → World → Prop, RR_ = (fun us wx => ∃ i : Nat, us 8 = .int .i64 (i : Int) ∧ i ≤ cs.length ∧ goP [] cs = goP (cs.take i) (cs.drop i) ∧ Later w wx) := ⟨_, rfl⟩
  obtain ⟨mu1, hmu1⟩ : ∃ mu : (Nat → Value) → World → Nat, mu = (fun us _ => cs.length - (intOf (us 8)).toNat) := ⟨_, rfl⟩
  have HR1 := hid hR1; have Hmu1 := hid hmu1; clear hR1 hmu1
  refine wp_loop_frame' [false, false, true, true, true, true, false, false, true, true, true, true, true, true, true, true, true, true, true, true, true, true, true, true, true, true, true, true, true, true, true, true, true, true, true, true] R1 _ mu1 HR1.out ?_ ?_
  · exact ⟨0, rfl, Nat.zero_le _, rfl, Later.refl _⟩
  intro us1 wx hrel
  obtain ⟨i, h8, hi, hgo, hL⟩ := hrel
  simp only [frameOf, Nat.reduceAdd, h8]
  have Hh8 := hid h8; clear h8
  have HI := hid hi; have HGO := hid hgo; have HL := hid hL
  clear hi hgo hL
  by_cases hlt : i < cs.length
  · have HLT := hid hlt
    have HSTEP := hid (HGO.out.trans (go_step HLT.out))
    obtain ⟨b, o, rfl, -, hc⟩ := HEL.out i hlt
    obtain ⟨y, hy⟩ : ∃ y, cs[i]'HLT.out = y := ⟨_, rfl⟩
    rw [hy] at hc HSTEP
    have HYS : Hid (y.s.length ≤ 140737488355328) := hid (HS.out y (hy ▸ List.getElem_mem _))
    obtain ⟨p1, p2⟩ := hc.later HL.out
    have hg := cell_lt p1
    have HWK : Hid (wrap64 ((i : Int) + 1) = ((i + 1 : Nat) : Int)) := hid (by have := HLT.out; have := HLN.out; unfold wrap64; omega)
    clear hy hc
    go_upto_region 4 with (fail)
    obtain ⟨T, hT⟩ : ∃ T, T = wx.heap.size := ⟨_, rfl⟩
    obtain ⟨w2, hw2⟩ : ∃ w2, w2 = wx.alloc (.cells #[.string (strB y.s), .int .i64 y.k] 35) := ⟨_, rfl⟩
    have hL2 : Later wx w2 := hw2 ▸ Later.alloc _ _
    have hT2 : w2.heap[T]? = some (.cells #[.string (strB y.s), .int .i64 y.k] 35 (0, 0)) := by rw [hw2, hT]; exact obj_new _ _
    rw [← hw2, ← hT]
    have HL2 := hid (Later.trans _ _ _ HL.out hL2)
    have HT2 := hid hT2
    have t0 : w2.cell? ⟨T, 0, none⟩ = some (.string (strB y.s)) := cell_obj (i := 0) hT2 rfl
    have htl := cell_lt t0
    clear hT hw2 hL2 hT2 p1 p2 hg
    go_wp2_with fail
    refine (named_any y.s w2 HYS.out).mono ?_
    rintro e w3 ⟨rfl, hL3⟩
    have HL3 := hid (Later.trans _ _ _ HL2.out hL3)
    have hT3 := hL3.obj HT2.out
    have t0 : w3.cell? ⟨T, 0, none⟩ = some (.string (strB y.s)) := cell_obj (i := 0) hT3 rfl
    have t1 : w3.cell? ⟨T, 1, none⟩ = some (.int .i64 y.k) := cell_obj (i := 1) hT3 rfl
    have htl := cell_lt t0
    have HT0 := hid t0
    obtain ⟨bn, hbn⟩ : ∃ b, namedP y.s = b := ⟨_, rfl⟩
    rw [hbn] at HSTEP ⊢
    clear hL3 hT3 hbn
    cases bn with
    | false =>
      go_wp2_with fail
      refine bodyPost_ret (results_tmp rfl _ _ _) rfl ⟨?_, HL3.out⟩
      unfold colsP
      rw [HSTEP.out]
      rfl
    | true =>
      by_cases hk1 : y.k < 1
      · have HK : Hid (decide (1 ≤ y.k ∧ y.k ≤ 3) = false) := hid (decide_eq_false (by omega))
        go_wp2_with fail
        refine bodyPost_ret (results_tmp rfl _ _ _) rfl ⟨?_, HL3.out⟩
        unfold colsP
        rw [HSTEP.out, HK.out]
        simp
      · by_cases hk3 : 3 < y.k
        · have HK : Hid (decide (1 ≤ y.k ∧ y.k ≤ 3) = false) := hid (decide_eq_false (by omega))
          go_wp2_with fail
          refine bodyPost_ret (results_tmp rfl _ _ _) rfl ⟨?_, HL3.out⟩
          unfold colsP
          rw [HSTEP.out, HK.out]
          simp
        · have HK : Hid (decide (1 ≤ y.k ∧ y.k ≤ 3) = true) := hid (decide_eq_true (by omega))
          have hic : (i : Int) ≤ c := by have := HLN.out.1; omega
          have hi0 : (0 : Int) ≤ i := by omega
          have HCT := hid (containsc 82 (enters_of Tryz.func82 (by kernel_rfl) rfl) #[.pointer (some ⟨T, 0, none⟩)] (some ⟨b, o, none⟩) c (cs.take i) w3 (fun d => d.s == y.s) (cols_later (cols_take HEL.out i) HL3.out) (by rw [List.length_take]; have := HLN.out; omega)
            (fun x _ w' hw' => columns1_any x y.s T w' (hw'.cell HT0.out)))
          rw [List.length_take, Nat.min_eq_left (Nat.le_of_lt HLT.out)] at HCT
          go_wp2_with fail
          refine HCT.out.mono ?_
          rintro e w4 ⟨rfl, hL4⟩
          have HL4 := hid (Later.trans _ _ _ HL3.out hL4)
          obtain ⟨ba, hba⟩ : ∃ b, ((cs.take i).any fun d => d.s == y.s) = b := ⟨_, rfl⟩
          rw [hba] at HSTEP ⊢
          clear hL4 hba HCT t0 t1 htl hic hi0
          cases ba with
          | true =>
            go_wp2_with fail
            refine bodyPost_ret (results_tmp rfl _ _ _) rfl ⟨?_, HL4.out⟩
            unfold colsP
            rw [HSTEP.out, HK.out]
            rfl
          | false =>
            go_wp2_with fail
            try simp only [HWK.out]
            refine Round.mk' HR1.out Hmu1.out rfl ?_ ?_
            · exact ⟨i + 1, rfl, HLT.out, by rw [HSTEP.out, HK.out]; rfl, HL4.out⟩
            · rw [Hh8.out]; have := HLT.out; simp [intOf, slots]; omega
  · have hie : i = cs.length := by have := HI.out; omega
    have HALL : Hid (goP [] cs = true) := hid (by rw [HGO.out, List.drop_eq_nil_of_le (by omega)]; rfl)
    go_wp2_with fail
    refine bodyPost_ret (results_tmp rfl _ _ _) rfl ⟨?_, HL.out⟩
    unfold colsP
    rw [HALL.out]
    have : decide ((cs.length : Int) ≤ 8) = decide (cs.length ≤ 8) := by rw [decide_eq_decide]; omega
    simp [this]
set_option maxRecDepth 100000 in
set_option maxHeartbeats 4000000 in
theorem rcolumns_any (ao : Option Addr) (c : Nat) (cs : List Col) (w : World) (hel : ColsEl w ao cs) (hlen : cs.length ≤ 140737488355328) (hs : ∀ x ∈ cs, x.s.length ≤ 140737488355328) :
    Calls Tryz.prog 30 #[.slice ao cs.length c] w fun e w' => e = .returned (.bool (colsP cs)) ∧ Later w w' := by
  have HEL := hid hel; have HLN := hid hlen; have HS := hid hs
  clear hel hlen hs
  go_enter Tryz.func30, Tryz.ntmps30
  go_wp2_with fail
  obtain ⟨R1, hR1⟩ : ∃ RR_ : (Nat → Value) → World → Prop, RR_ = (fun us wx => ∃ i : Nat, us 3 = .int .i64 (i : Int) ∧ i ≤ cs.length ∧ goP [] cs = goP (cs.take i) (cs.drop i) ∧ Later w wx) := ⟨_, rfl⟩
  obtain ⟨mu1, hmu1⟩ : ∃ mu : (Nat → Value) → World → Nat, mu = (fun us _ => cs.length - (intOf (us 3)).toNat) := ⟨_, rfl⟩
  have HR1 := hid hR1; have Hmu1 := hid hmu1; clear hR1 hmu1
  refine wp_loop_frame' [false, false, true, true, true, true, true, true, true, true, true, true, true, true, true, true, true, true, true, true, true, true, true, true, true, true, true, true, true, true, true, true, true, true, true, true, true, true, true, true, true, true, true, true, true, true, true, true, true, true, true, true] R1 _ mu1 HR1.out ?_ ?_
  · exact ⟨0, rfl, Nat.zero_le _, rfl, Later.refl _⟩
  intro us1 wx hrel
  obtain ⟨i, h3, hi, hgo, hL⟩ := hrel
  simp only [frameOf, Nat.reduceAdd, h3]
  have Hh3 := hid h3; clear h3
  have HI := hid hi; have HGO := hid hgo; have HL := hid hL
  clear hi hgo hL
  by_cases hlt : i < cs.length
  · have HLT := hid hlt
    have HSTEP := hid (HGO.out.trans (go_step HLT.out))
    obtain ⟨b, o, rfl, -, hc⟩ := HEL.out i hlt
    obtain ⟨y, hy⟩ : ∃ y, cs[i]'HLT.out = y := ⟨_, rfl⟩
    rw [hy] at hc HSTEP
    have HYS : Hid (y.s.length ≤ 140737488355328) := hid (HS.out y (hy ▸ List.getElem_mem _))
    obtain ⟨p1, p2⟩ := hc.later HL.out
    have hg := cell_lt p1
    have HP1 := hid p1
    have HWK : Hid (wrap64 ((i : Int) + 1) = ((i + 1 : Nat) : Int)) := hid (by have := HLT.out; have := HLN.out; unfold wrap64; omega)
    clear hy hc
    go_wp2_with fail
    refine (rnamed_any y.s wx HYS.out).mono ?_
    rintro e w3 ⟨rfl, hw3⟩
    subst w3
    obtain ⟨bn, hbn⟩ : ∃ b, namedP y.s = b := ⟨_, rfl⟩
    rw [hbn] at HSTEP ⊢
    clear hbn
    cases bn with
    | false =>
      go_wp2_with fail
      refine bodyPost_ret (results_tmp rfl _ _ _) rfl ⟨?_, HL.out⟩
      unfold colsP
      rw [HSTEP.out]
      rfl
    | true =>
      by_cases hk1 : y.k < 1
      · have HK : Hid (decide (1 ≤ y.k ∧ y.k ≤ 3) = false) := hid (decide_eq_false (by omega))
        go_wp2_with fail
        refine bodyPost_ret (results_tmp rfl _ _ _) rfl ⟨?_, HL.out⟩
        unfold colsP
        rw [HSTEP.out, HK.out]
        simp
      · by_cases hk3 : 3 < y.k
        · have HK : Hid (decide (1 ≤ y.k ∧ y.k ≤ 3) = false) := hid (decide_eq_false (by omega))
          go_wp2_with fail
          refine bodyPost_ret (results_tmp rfl _ _ _) rfl ⟨?_, HL.out⟩
          unfold colsP
          rw [HSTEP.out, HK.out]
          simp
        · have HK : Hid (decide (1 ≤ y.k ∧ y.k ≤ 3) = true) := hid (decide_eq_true (by omega))
          go_wp2_with fail
          clear hk1 hk3 p1 p2 hg
          obtain ⟨R2, hR2⟩ : ∃ RR_ : (Nat → Value) → World → Prop, RR_ = (fun us wq => ∃ k : Nat, us 5 = .int .i64 (k : Int) ∧ k ≤ i ∧ ((cs.take k).any fun d => d.s == y.s) = false ∧ Later w wq) := ⟨_, rfl⟩
          obtain ⟨mu2, hmu2⟩ : ∃ mu : (Nat → Value) → World → Nat, mu = (fun us _ => i - (intOf (us 5)).toNat) := ⟨_, rfl⟩
          have HR2 := hid hR2; have Hmu2 := hid hmu2; clear hR2 hmu2
          refine wp_loop_frame' [false, false, true, false, false, true, false, false, false, false, false, false, false, false, false, false, false, false, false, false, false, false, false, false, false, false, false, false, false, false, false, false, false, false, false, false, true, true, true, true, true, true, true, true, true, true, true, true, true, true, true, true] R2 _ mu2 HR2.out ?_ ?_
          · exact ⟨0, rfl, Nat.zero_le _, rfl, HL.out⟩
          intro us2 wq hrel
          obtain ⟨k, h5, hk, hany, hLq⟩ := hrel
          simp only [frameOf, Nat.reduceAdd, h5]
          have Hh5 := hid h5; clear h5
          have HKI := hid hk; have HAN := hid hany; have HLQ := hid hLq
          clear hk hany hLq
          by_cases hki : k < i
          · have HKT := hid hki
            have hkc : k < cs.length := by have := HLT.out; omega
            have HKC := hid hkc
            obtain ⟨b', o', hb, -, hcx⟩ := HEL.out k hkc
            simp only [Option.some.injEq, Addr.mk.injEq, and_true] at hb
            obtain ⟨rfl, rfl⟩ := hb
            obtain ⟨z, hz⟩ : ∃ z, cs[k]'hkc = z := ⟨_, rfl⟩
            rw [hz] at hcx
            have HZ := hid hz
            have q1 := (hcx.later HLQ.out).1
            have q2 : wq.cell? ⟨b, o + i * 2, none⟩ = some (.string (strB y.s)) := by
              obtain ⟨b', o', hb, -, hcy⟩ := HEL.out i HLT.out
              simp only [Option.some.injEq, Addr.mk.injEq, and_true] at hb
              obtain ⟨rfl, rfl⟩ := hb
              have h1 := (hcy.later HL.out).1.symm.trans HP1.out
              have h2 := (hcy.later HLQ.out).1
              rw [h2]
              simpa using h1
            have hki' : (k : Int) < i := by omega
            have hkl : (k : Int) < cs.length := by omega
            have hil : (i : Int) < cs.length := by omega
            have HWK2 : Hid (wrap64 ((k : Int) + 1) = ((k + 1 : Nat) : Int)) := hid (by have := HLT.out; have := HLN.out; have := HKT.out; unfold wrap64; omega)
            obtain ⟨bs, hbs⟩ : ∃ b, (z.s == y.s) = b := ⟨_, rfl⟩
            have hse : ((strB z.s).toList == (strB y.s).toList) = bs := by rw [strB_toL', strB_toL']; exact hbs
            have HNX : Hid (((cs.take (k + 1)).any fun d => d.s == y.s) = bs) := hid (by
              rw [List.take_succ_eq_append_getElem HKC.out, List.any_append, HAN.out, HZ.out]
              simp only [List.any_cons, List.any_nil, Bool.or_false, Bool.false_or]
              exact hbs)
            clear hz hcx hbs hki
            go_upto_region 10 with (fail)
            refine wp_region_lex (by kernel_rfl) (by kernel_rfl) Later Later.refl Later.trans (fun _ => none) (fun _ _ _ _ _ h => by cases h) ?_
            simp only [numbered, Nat.reduceAdd]
            refine LexS.out ?_
            iterate 11
              first
              | (refine LexS.skip rfl ?_; simp only [Act.put, List.setIfInBounds_toArray, List.set])
              | (refine LexS.one' rfl rfl ?_
                 apply Exists.intro
                 refine ⟨fun w hR hF => ?_, ?_⟩
                 · have hP := hR
                   repeat (first | replace hP := Later.of_drew hP | replace hP := Later.of_drewN hP | replace hP := Later.of_alloc hP)
                   have hcs := hR.cells
                   have zq1 := hP.cell q1
                   have zq2 := hP.cell q2
                   clear hR hF hP
                   go_simp
                   first | done | rfl
                 simp only [Act.put, List.setIfInBounds_toArray, List.set])
            refine LexS.nil ?_
            intro w5 hL5 hF9
            clear hF9
            repeat (first | replace hL5 := Later.of_drew hL5 | replace hL5 := Later.of_drewN hL5 | replace hL5 := Later.of_alloc hL5)
            have HL5 := hid (Later.trans _ _ _ HLQ.out hL5)
            clear hL5 q1 q2
            cases bs with
            | true =>
              go_wp2_with fail
              refine bodyPost_ret (results_tmp rfl _ _ _) rfl ⟨?_, HL5.out⟩
              have hany : ((cs.take i).any fun d => d.s == y.s) = true := by
                rw [List.any_eq_true]
                exact ⟨cs[k]'HKC.out, by rw [List.mem_take_iff_getElem]; exact ⟨k, by have := HKT.out; have := HLT.out; omega, rfl⟩, by
                  have h := HNX.out
                  rw [List.take_succ_eq_append_getElem HKC.out, List.any_append, HAN.out] at h
                  simpa using h⟩
              unfold colsP
              rw [HSTEP.out, HK.out, hany]
              rfl
            | false =>
              go_wp2_with fail
              try simp only [HWK2.out]
              refine Round.mk' HR2.out Hmu2.out rfl ?_ ?_
              · exact ⟨k + 1, rfl, HKT.out, HNX.out, HL5.out⟩
              · rw [Hh5.out]; have := HKT.out; simp [intOf, slots]; omega
          · have hke : k = i := by have := HKI.out; omega
            subst hke
            have hki' : ¬ (k : Int) < k := by omega
            go_wp2_with fail
            try simp only [HWK.out]
            refine Round.mk' HR1.out Hmu1.out rfl ?_ ?_
            · exact ⟨k + 1, rfl, HLT.out, by rw [HSTEP.out, HK.out, HAN.out]; rfl, HLQ.out⟩
            · rw [Hh3.out]; have := HLT.out; simp [intOf, slots]; omega
  · have hie : i = cs.length := by have := HI.out; omega
    have HALL : Hid (goP [] cs = true) := hid (by rw [HGO.out, List.drop_eq_nil_of_le (by omega)]; rfl)
    go_wp2_with fail
    refine bodyPost_ret (results_tmp rfl _ _ _) rfl ⟨?_, HL.out⟩
    unfold colsP
    rw [HALL.out]
    have : decide ((cs.length : Int) ≤ 8) = decide (cs.length ≤ 8) := by rw [decide_eq_decide]; omega
    simp [this]
end Go.Proofs.YtgajofkeidjbgaaGreatDoor
