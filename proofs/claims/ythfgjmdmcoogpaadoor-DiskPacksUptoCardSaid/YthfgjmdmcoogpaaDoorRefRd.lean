/-
  PROVED HERE: the contracts of the document's reader of a partition: Time, Late, Lost.
-/
import Derived.Test.YthfgjmdmcoogpaaDoorSrcPlain
import Derived.Test.YthfgjmdmcoogpaaDoorTold
import Derived.Test.YthfgjmdmcoogpaaDoorFrame
import Derived.Test.YthfgjmdmcoogpaaDoorLexS
namespace Go.Proofs.YthfgjmdmcoogpaaDoor
set_option linter.unusedSimpArgs false
set_option linter.unusedVariables false
open Go.RowKit

/-- the document's reader in memory. -/
structure Rd4 (w : World) (X : Nat) (v : Value) (rows : List Row) (bound : Int) (n : Nat) : Prop where
  obj : w.heap[X]? = some (.cells #[v, .int .i64 bound, .int .i64 n] 45 (0, 0))
  rows : RowsIn (fun b => b ≠ X) w v rows
theorem Rd4.later {w w' : World} {X : Nat} {v : Value} {rows : List Row} {bound : Int} {n : Nat} (h : Rd4 w X v rows bound n) (k : Later w w') : Rd4 w' X v rows bound n := ⟨k.obj h.obj, h.rows.rows_later k⟩
theorem Rd4.seek {w : World} {X : Nat} {v : Value} {rows : List Row} {bound : Int} {n : Nat} (h : Rd4 w X v rows bound n) (m : Nat) : Rd4 (w.setCell ⟨X, 2, none⟩ (.int .i64 m)) X v rows bound m :=
  ⟨obj_setCell (i := 2) h.obj _, h.rows.rows_kept (S' := fun b => b ≠ X) ((Keeps.refl _ _).setCell (.inl (by simp)) _) fun _ hb => hb⟩

set_option maxRecDepth 100000 in
set_option maxHeartbeats 2000000 in
theorem rd_time (X : Nat) (v : Value) (rows : List Row) (bound : Int) (n k : Nat) (w : World) (h : Rd4 w X v rows bound n) (hok : SrcOk rows bound) (hk : k ≤ 200) :
    Calls Tryd.prog 24 #[.pointer (some ⟨X, 0, none⟩), .int .i64 k] w (NumTo w (rdTime rows bound k)) := by
  have HOK := hid hok
  have hlen := hok.len
  have hb1 := hok.low
  have hb2 := hok.high
  obtain ⟨ho, p, c, rfl, hac, hcm, -, hea⟩ := h
  have HE := hid hea
  have HO := hid ho
  have r0 := cell_obj (i := 0) ho rfl
  clear hok ho hea hac hcm
  by_cases h0 : rows.length < k
  · have HT := hid (rdTime_end (bound := bound) h0)
    go_enter Tryd.func24, Tryd.ntmps24
    go_wp2
    go_ret
    exact ⟨ret_int HT.out.symm, Later.refl _⟩
  have HT : Hid (rdTime rows bound k = rdFold rows bound k) := hid (rdTime_in (by omega))
  go_enter Tryd.func24, Tryd.ntmps24
  go_wp2
  clear r0
  go_loopw [5, 6] (fun tv iv wr => ∃ m : Nat, m ≤ k ∧ iv = .int .i64 m ∧ tv = .int .i64 (rdFold rows bound m) ∧ Later w wr) (fun _ iv _ => k - (intOf iv).toNat)
  case atStart => exact ⟨0, by omega, rfl, rfl, Later.refl _⟩
  case round =>
    obtain ⟨m, hm, rfl, rfl, hL⟩ := hrel
    have HL := hid hL
    have r0 := cell_obj (i := 0) (hL.obj HO.out) rfl
    have r1 := cell_obj (i := 1) (hL.obj HO.out) rfl
    clear hL
    by_cases hlt : m < k
    · have hml : m < rows.length := by omega
      obtain ⟨b1, o1, rfl, -, q1, -⟩ := HE.out m hml
      have hx := HOK.out.at_ hml
      have ht := rdFold_range HOK.out m (by omega)
      have HS : Hid (rdFold rows bound (m + 1) = tStep bound (rdFold rows bound m) rows[m]) := hid (rdFold_succ hml)
      replace q1 := HL.out.cell q1
      have hmm : (0 : Int) ≤ m := by omega
      generalize rdFold rows bound m = t at *
      generalize rows[m] = x at *
      obtain ⟨xt, xv⟩ := x
      simp only at q1 hx
      have hwr : IntKind.i64.wrap (xt - bound) = xt - bound := IntWalk.i64_in _ (by omega)
      by_cases c1 : t ≤ xt
      · have d1 : decide (t ≤ xt) = true := decide_eq_true c1
        by_cases c2 : t < xt - bound
        · have HS2 : Hid (rdFold rows bound (m + 1) = xt - bound) := hid (HS.out.trans (if_pos ⟨c1, c2⟩))
          clear HS
          go_wp2
          refine wp_region_lex (by kernel_rfl) (by kernel_rfl) Later Later.refl Later.trans (fun _ => none) (fun _ _ _ _ _ h => by cases h) ?_
          simp only [numbered, Nat.reduceAdd]
          refine LexS.out ?_
          iterate 27
            first
            | (refine LexS.skip rfl ?_; simp only [Act.put, List.setIfInBounds_toArray, List.set])
            | (refine LexS.one' rfl rfl ?_
               apply Exists.intro
               refine ⟨fun w hR hF => ?_, ?_⟩
               · have hP := hR
                 repeat (first | replace hP := Later.of_drew hP | replace hP := Later.of_drewN hP | replace hP := Later.of_alloc hP)
                 have hcs := hR.cells
                 have zq1 := hP.cell q1
                 have zr0 := hP.cell r0
                 have zr1 := hP.cell r1
                 clear hR hF hP
                 go_simp
                 first | done | rfl
               simp only [Act.put, List.setIfInBounds_toArray, List.set])
          refine LexS.nil ?_
          intro w1 hR1 hF9
          clear hF9
          repeat (first | replace hR1 := Later.of_drew hR1 | replace hR1 := Later.of_drewN hR1 | replace hR1 := Later.of_alloc hR1)
          replace q1 := hR1.cell q1
          replace r0 := hR1.cell r0
          replace r1 := hR1.cell r1
          have HR1 := hid hR1
          clear hR1
          go_wp2
          refine wp_region_lex (by kernel_rfl) (by kernel_rfl) Later Later.refl Later.trans (fun _ => none) (fun _ _ _ _ _ h => by cases h) ?_
          simp only [numbered, Nat.reduceAdd]
          refine LexS.out ?_
          iterate 14
            first
            | (refine LexS.skip rfl ?_; simp only [Act.put, List.setIfInBounds_toArray, List.set])
            | (refine LexS.one' rfl rfl ?_
               apply Exists.intro
               refine ⟨fun w hR hF => ?_, ?_⟩
               · have hP := hR
                 repeat (first | replace hP := Later.of_drew hP | replace hP := Later.of_drewN hP | replace hP := Later.of_alloc hP)
                 have hcs := hR.cells
                 have zq1 := hP.cell q1
                 have zr0 := hP.cell r0
                 have zr1 := hP.cell r1
                 clear hR hF hP
                 go_simp
                 first | done | rfl
               simp only [Act.put, List.setIfInBounds_toArray, List.set])
          refine LexS.nil ?_
          intro w2 hR2 hF9
          clear hF9
          repeat (first | replace hR2 := Later.of_drew hR2 | replace hR2 := Later.of_drewN hR2 | replace hR2 := Later.of_alloc hR2)
          have HR2 := hid hR2
          clear hR2 q1 r0 r1
          go_wp2
          go_roundw
          case rel => exact ⟨m + 1, by omega, by go_num, by rw [HS2.out], Later.trans _ _ _ HL.out (Later.trans _ _ _ HR1.out HR2.out)⟩
          case measure => simp [intOf]; omega
        · have HS2 : Hid (rdFold rows bound (m + 1) = t) := hid (HS.out.trans (if_neg fun hc => c2 hc.2))
          clear HS
          go_wp2
          refine wp_region_lex (by kernel_rfl) (by kernel_rfl) Later Later.refl Later.trans (fun _ => none) (fun _ _ _ _ _ h => by cases h) ?_
          simp only [numbered, Nat.reduceAdd]
          refine LexS.out ?_
          iterate 27
            first
            | (refine LexS.skip rfl ?_; simp only [Act.put, List.setIfInBounds_toArray, List.set])
            | (refine LexS.one' rfl rfl ?_
               apply Exists.intro
               refine ⟨fun w hR hF => ?_, ?_⟩
               · have hP := hR
                 repeat (first | replace hP := Later.of_drew hP | replace hP := Later.of_drewN hP | replace hP := Later.of_alloc hP)
                 have hcs := hR.cells
                 have zq1 := hP.cell q1
                 have zr0 := hP.cell r0
                 have zr1 := hP.cell r1
                 clear hR hF hP
                 go_simp
                 first | done | rfl
               simp only [Act.put, List.setIfInBounds_toArray, List.set])
          refine LexS.nil ?_
          intro w1 hR1 hF9
          clear hF9
          repeat (first | replace hR1 := Later.of_drew hR1 | replace hR1 := Later.of_drewN hR1 | replace hR1 := Later.of_alloc hR1)
          have HR1 := hid hR1
          clear hR1 q1 r0 r1
          go_wp2
          go_roundw
          case rel => exact ⟨m + 1, by omega, by go_num, by rw [HS2.out], Later.trans _ _ _ HL.out HR1.out⟩
          case measure => simp [intOf]; omega
      · have d1 : decide (t ≤ xt) = false := decide_eq_false c1
        have HS2 : Hid (rdFold rows bound (m + 1) = t) := hid (HS.out.trans (if_neg fun hc => c1 hc.1))
        clear HS
        go_wp2
        refine wp_region_lex (by kernel_rfl) (by kernel_rfl) Later Later.refl Later.trans (fun _ => none) (fun _ _ _ _ _ h => by cases h) ?_
        simp only [numbered, Nat.reduceAdd]
        refine LexS.out ?_
        iterate 27
          first
          | (refine LexS.skip rfl ?_; simp only [Act.put, List.setIfInBounds_toArray, List.set])
          | (refine LexS.one' rfl rfl ?_
             apply Exists.intro
             refine ⟨fun w hR hF => ?_, ?_⟩
             · have hP := hR
               repeat (first | replace hP := Later.of_drew hP | replace hP := Later.of_drewN hP | replace hP := Later.of_alloc hP)
               have hcs := hR.cells
               have zq1 := hP.cell q1
               have zr0 := hP.cell r0
               have zr1 := hP.cell r1
               clear hR hF hP
               go_simp
               first | done | rfl
             simp only [Act.put, List.setIfInBounds_toArray, List.set])
        refine LexS.nil ?_
        intro w1 hR1 hF9
        clear hF9
        repeat (first | replace hR1 := Later.of_drew hR1 | replace hR1 := Later.of_drewN hR1 | replace hR1 := Later.of_alloc hR1)
        have HR1 := hid hR1
        clear hR1 q1 r0 r1
        go_wp2
        go_roundw
        case rel => exact ⟨m + 1, by omega, by go_num, by rw [HS2.out], Later.trans _ _ _ HL.out HR1.out⟩
        case measure => simp [intOf]; omega
    · obtain rfl : m = k := by omega
      go_wp2
      go_ret
      exact ⟨ret_int HT.out.symm, HL.out⟩

def BoolTo (w : World) (b : Bool) (e : Ending) (w' : World) : Prop := e = .returned (.bool b) ∧ Later w w'
theorem rd_late (X : Nat) (v : Value) (rows : List Row) (bound : Int) (n i : Nat) (w : World) (h : Rd4 w X v rows bound n) (hok : SrcOk rows bound) (hi : i < rows.length) :
    Calls Tryd.prog 68 #[.pointer (some ⟨X, 0, none⟩), .int .i64 i] w (BoolTo w (rdLate rows bound i)) := by
  have HOK := hid hok
  have hlen := hok.len
  have H := hid h
  obtain ⟨ho, p, c, rfl, hac, hcm, -, hea⟩ := h
  have HB : Hid (rdLate rows bound i = decide (rows[i].time < rdTime rows bound i)) := hid (by unfold rdLate; rw [List.getElem?_eq_getElem hi])
  obtain ⟨b1, o1, rfl, -, q1, -⟩ := hea i hi
  have HO := hid ho
  have hii : (0 : Int) ≤ i := by omega
  clear hok ho hea hac hcm
  go_enter Tryd.func68, Tryd.ntmps68
  go_wp2_with fail
  refine (rd_time X _ rows bound n i _ H.out HOK.out (by omega)).mono ?_
  rintro e w1 ⟨rfl, hL⟩
  have HL := hid hL
  have r0 := cell_obj (i := 0) (hL.obj HO.out) rfl
  replace q1 := hL.cell q1
  generalize rows[i] = x at *
  obtain ⟨xt, xv⟩ := x
  simp only at q1
  clear hL
  go_wp2_with fail
  go_ret
  exact ⟨ret_bool HB.out.symm, HL.out⟩

set_option maxRecDepth 100000 in
set_option maxHeartbeats 2000000 in
theorem rd_lost (X : Nat) (v : Value) (rows : List Row) (bound : Int) (n : Nat) (w : World) (h : Rd4 w X v rows bound n) (hok : SrcOk rows bound) (hn : n ≤ rows.length + 1) :
    Calls Tryd.prog 25 #[.pointer (some ⟨X, 0, none⟩)] w (NumTo w (rdLost rows bound n)) := by
  have HOK := hid hok
  have hlen := hok.len
  have H := hid h
  obtain ⟨ho, p, c, rfl, hac, hcm, -, -⟩ := h
  have HO := hid ho
  clear hok ho hac hcm
  have HLL : Hid (∀ m, rows.length ≤ m → rdLost rows bound (m + 1) = rdLost rows bound m) := hid fun m hm => by simp [rdLost, rdLate, List.getElem?_eq_none hm]
  go_enter Tryd.func25, Tryd.ntmps25
  go_wp2_with fail
  go_loopw [3, 4] (fun cv iv wr => ∃ m : Nat, m ≤ n ∧ m ≤ rows.length ∧ iv = .int .i64 m ∧ cv = .int .i64 (rdLost rows bound m) ∧ Later w wr) (fun _ iv _ => n - (intOf iv).toNat)
  case atStart => exact ⟨0, by omega, by omega, rfl, rfl, Later.refl _⟩
  case round =>
    obtain ⟨m, hm, hml, rfl, rfl, hL⟩ := hrel
    have HL := hid hL
    have r0 := cell_obj (i := 0) (hL.obj HO.out) rfl
    have r2 := cell_obj (i := 2) (hL.obj HO.out) rfl
    have hlo := rdLost_le (rows := rows) (bound := bound) m
    clear hL
    by_cases hlt : m < n
    · by_cases hlt2 : m < rows.length
      · go_wp2_with fail
        refine (rd_late X _ rows bound n m _ (H.out.later HL.out) HOK.out hlt2).mono ?_
        rintro e w1 ⟨rfl, hL1⟩
        have HL1 := hid hL1
        have HS : Hid (rdLost rows bound (m + 1) = rdLost rows bound m + if rdLate rows bound m = true then 1 else 0) := hid rfl
        clear hL1 r0 r2
        generalize rdLost rows bound m = q at *
        cases hc : rdLate rows bound m with
        | true =>
          rw [hc] at HS
          clear hc
          go_wp2
          go_roundw
          case rel => exact ⟨m + 1, by omega, by omega, by go_num, by rw [HS.out]; go_num, Later.trans _ _ _ HL.out HL1.out⟩
          case measure => simp [intOf]; omega
        | false =>
          rw [hc] at HS
          clear hc
          go_wp2
          go_roundw
          case rel => exact ⟨m + 1, by omega, by omega, by go_num, by rw [HS.out]; rfl, Later.trans _ _ _ HL.out HL1.out⟩
          case measure => simp [intOf]; omega
      · have HQ : Hid (rdLost rows bound n = rdLost rows bound m) := hid (by
          obtain rfl : n = m + 1 := by omega
          exact HLL.out m (by omega))
        go_wp2
        go_ret
        exact ⟨ret_int (by rw [HQ.out]), HL.out⟩
    · obtain rfl : m = n := by omega
      go_wp2
      go_ret
      exact ⟨rfl, HL.out⟩
end Go.Proofs.YthfgjmdmcoogpaaDoor
