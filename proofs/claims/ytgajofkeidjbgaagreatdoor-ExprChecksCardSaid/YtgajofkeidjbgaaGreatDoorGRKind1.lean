/-
  PROVED HERE: the document's arguments; what result makes of a tree's kinds.
-/
import Derived.Test.YtgajofkeidjbgaaGreatDoorGExprDoc
import Derived.Test.YtgajofkeidjbgaaGreatDoorGRefP1
import Derived.Test.YtgajofkeidjbgaaGreatDoorGPutLaws
namespace Go.Proofs.YtgajofkeidjbgaaGreatDoor
set_option linter.unusedSimpArgs false
set_option linter.unusedVariables false
open Go.RowKit

def argN (f : List UInt8) : Int := match argsF f with
  | none => -1
  | some a => a.1.length

set_option maxRecDepth 100000 in
set_option maxHeartbeats 2000000 in
theorem rargs_any (s : List UInt8) (w : World) : Calls Tryz.prog 59 #[.string (strB s)] w fun e w' => e = .returned (.int .i64 (argN s)) ∧ w' = w := by
  obtain ⟨b0, h0⟩ : ∃ b, decide (s = [108, 101, 110]) = b := ⟨_, rfl⟩
  have e0 : ((strB s).toList == [108, 101, 110]) = b0 := by rw [strB_toL', ← h0, Bool.eq_iff_iff]; simp
  obtain ⟨b1, h1⟩ : ∃ b, decide (s = [97, 98, 115]) = b := ⟨_, rfl⟩
  have e1 : ((strB s).toList == [97, 98, 115]) = b1 := by rw [strB_toL', ← h1, Bool.eq_iff_iff]; simp
  obtain ⟨b2, h2⟩ : ∃ b, decide (s = [105, 115, 110, 117, 108, 108]) = b := ⟨_, rfl⟩
  have e2 : ((strB s).toList == [105, 115, 110, 117, 108, 108]) = b2 := by rw [strB_toL', ← h2, Bool.eq_iff_iff]; simp
  obtain ⟨b3, h3⟩ : ∃ b, decide (s = [99, 117, 116]) = b := ⟨_, rfl⟩
  have e3 : ((strB s).toList == [99, 117, 116]) = b3 := by rw [strB_toL', ← h3, Bool.eq_iff_iff]; simp
  obtain ⟨b4, h4⟩ : ∃ b, decide (s = [99, 111, 97, 108, 101, 115, 99, 101]) = b := ⟨_, rfl⟩
  have e4 : ((strB s).toList == [99, 111, 97, 108, 101, 115, 99, 101]) = b4 := by rw [strB_toL', ← h4, Bool.eq_iff_iff]; simp
  obtain ⟨b5, h5⟩ : ∃ b, decide (s = [105, 102]) = b := ⟨_, rfl⟩
  have e5 : ((strB s).toList == [105, 102]) = b5 := by rw [strB_toL', ← h5, Bool.eq_iff_iff]; simp
  have HV : Hid (argN s = if b0 = true then 1 else if b1 = true then 1 else if b2 = true then 1 else if b3 = true then 2 else if b4 = true then 2 else if b5 = true then 3 else (-1 : Int)) := hid (by
    rw [← h0, ← h1, ← h2, ← h3, ← h4, ← h5]
    simp only [decide_eq_true_eq]
    by_cases g0 : s = lenW
    · subst g0; decide
    by_cases g1 : s = absW
    · subst g1; decide
    by_cases g2 : s = isnullW
    · subst g2; decide
    by_cases g3 : s = cutW
    · subst g3; decide
    by_cases g4 : s = coalW
    · subst g4; decide
    by_cases g5 : s = ifW
    · subst g5; decide
    rw [if_neg g0, if_neg g1, if_neg g2, if_neg g3, if_neg g4, if_neg g5]
    unfold argN argsF
    rw [if_neg g0, if_neg g1, if_neg g3, if_neg g2, if_neg g4, if_neg g5])
  clear h0 h1 h2 h3 h4 h5
  go_enter Tryz.func59, Tryz.ntmps59
  cases b0 with
  | true =>
    go_wp2_with fail
    exact bodyPost_ret (results_tmp rfl _ _ _) rfl ⟨by rw [HV.out]; rfl, rfl⟩
  | false =>
    cases b1 with
    | true =>
      go_wp2_with fail
      exact bodyPost_ret (results_tmp rfl _ _ _) rfl ⟨by rw [HV.out]; rfl, rfl⟩
    | false =>
      cases b2 with
      | true =>
        go_wp2_with fail
        exact bodyPost_ret (results_tmp rfl _ _ _) rfl ⟨by rw [HV.out]; rfl, rfl⟩
      | false =>
        cases b3 with
        | true =>
          go_wp2_with fail
          exact bodyPost_ret (results_tmp rfl _ _ _) rfl ⟨by rw [HV.out]; rfl, rfl⟩
        | false =>
          cases b4 with
          | true =>
            go_wp2_with fail
            exact bodyPost_ret (results_tmp rfl _ _ _) rfl ⟨by rw [HV.out]; rfl, rfl⟩
          | false =>
            cases b5 with
            | true =>
              go_wp2_with fail
              exact bodyPost_ret (results_tmp rfl _ _ _) rfl ⟨by rw [HV.out]; rfl, rfl⟩
            | false =>
              go_wp2_with fail
              exact bodyPost_ret (results_tmp rfl _ _ _) rfl ⟨by rw [HV.out]; rfl, rfl⟩
/-- the kinds as 'result' is handed them. -/
def KindsAt (w : World) (b : Nat) (ks : List Int) : Prop := w.heap[b]? = some (.cells #[.int .i64 (ks.getD 0 0), .int .i64 (ks.getD 1 0), .int .i64 (ks.getD 2 0), .int .i64 (ks.getD 3 0)] 33 (0, 0))
def ResTo (k : Option Int) (w : World) (e : Ending) (w' : World) : Prop := e = .returned (.int .i64 (k.getD 0)) ∧ Later w w'
theorem eq_dec (a b : Int) : (a == b) = decide (a = b) := by rw [Bool.eq_iff_iff]; simp
theorem callD_len {f : List UInt8} {ks : List Int} {k : Int} (h : callD f ks = some k) : argN f = ks.length := by
  unfold callD at h
  unfold argN argsF
  by_cases g0 : f = lenW
  · rw [if_pos g0] at h ⊢
    split at h
    · rename_i e; rw [e]
    · cases h
  rw [if_neg g0] at h ⊢
  by_cases g1 : f = absW
  · rw [if_pos g1] at h ⊢
    split at h
    · rename_i e; rw [e]
    · cases h
  rw [if_neg g1] at h ⊢
  by_cases g2 : f = cutW
  · rw [if_pos g2] at h ⊢
    split at h
    · rename_i e; rw [e]
    · cases h
  rw [if_neg g2] at h ⊢
  by_cases g3 : f = isnullW
  · rw [if_pos g3] at h ⊢
    split at h
    · rename_i e; rw [e]; rfl
    · cases h
  rw [if_neg g3] at h ⊢
  by_cases g4 : f = coalW
  · rw [if_pos g4] at h ⊢
    split at h
    · rfl
    · cases h
  rw [if_neg g4] at h ⊢
  by_cases g5 : f = ifW
  · rw [if_pos g5] at h ⊢
    split at h
    · rfl
    · cases h
  rw [if_neg g5] at h
  cases h

set_option maxRecDepth 100000 in
set_option maxHeartbeats 8000000 in
theorem rres_minus (B b : Nat) (n : Int) (ks : List Int) (w : World) (hb : w.cell? ⟨B, 0, none⟩ = some (.string (strB minusN))) (hk : KindsAt w b ks) : Calls Tryz.prog 60 #[.pointer (some ⟨B, 0, none⟩), .int .i64 n, .slice (some ⟨b, 0, none⟩) 4 4] w (ResTo (if ks.getD 0 0 = 1 then some 1 else none) w) := by
  obtain ⟨sv, hsv⟩ : ∃ s, s = strB minusN := ⟨_, rfl⟩
  rw [← hsv] at hb
  have e1 : (sv.toList == [110, 111, 116]) = false := what_ne hsv (by decide)
  have e2 : (sv.toList == [109, 105, 110, 117, 115]) = true := what_eq minusN hsv
  obtain ⟨k0, h0⟩ : ∃ k, ks.getD 0 0 = k := ⟨_, rfl⟩
  have c0 : w.cell? ⟨b, 0, none⟩ = some (.int .i64 k0) := by rw [← h0]; exact cell_obj (i := 0) hk rfl
  rw [h0]
  have hlt := cell_lt hb
  have hlt2 := cell_lt c0
  obtain ⟨q0, hq0⟩ : ∃ q, (k0 == 1) = q := ⟨_, rfl⟩
  obtain ⟨kr, hkr⟩ : ∃ r, (if k0 = 1 then some (1 : Int) else none) = r := ⟨_, rfl⟩
  have HQ : Hid (kr = if q0 = true then some 1 else none) := hid (by rw [← hkr, ← hq0, eq_dec]; simp)
  rw [hkr]
  clear hkr
  clear hk hsv h0
  go_enter Tryz.func60, Tryz.ntmps60
  cases q0 <;>
  · go_wp2_with fail
    exact bodyPost_ret (results_tmp rfl _ _ _) rfl ⟨by rw [HQ.out]; rfl, Later.refl _⟩
set_option maxRecDepth 100000 in
set_option maxHeartbeats 8000000 in
theorem rres_not (B b : Nat) (n : Int) (ks : List Int) (w : World) (hb : w.cell? ⟨B, 0, none⟩ = some (.string (strB notW))) (hk : KindsAt w b ks) : Calls Tryz.prog 60 #[.pointer (some ⟨B, 0, none⟩), .int .i64 n, .slice (some ⟨b, 0, none⟩) 4 4] w (ResTo (if ks.getD 0 0 = 2 then some 2 else none) w) := by
  obtain ⟨sv, hsv⟩ : ∃ s, s = strB notW := ⟨_, rfl⟩
  rw [← hsv] at hb
  have e1 : (sv.toList == [110, 111, 116]) = true := what_eq notW hsv
  obtain ⟨k0, h0⟩ : ∃ k, ks.getD 0 0 = k := ⟨_, rfl⟩
  have c0 : w.cell? ⟨b, 0, none⟩ = some (.int .i64 k0) := by rw [← h0]; exact cell_obj (i := 0) hk rfl
  rw [h0]
  have hlt := cell_lt hb
  have hlt2 := cell_lt c0
  obtain ⟨q0, hq0⟩ : ∃ q, (k0 == 2) = q := ⟨_, rfl⟩
  obtain ⟨kr, hkr⟩ : ∃ r, (if k0 = 2 then some (2 : Int) else none) = r := ⟨_, rfl⟩
  have HQ : Hid (kr = if q0 = true then some 2 else none) := hid (by rw [← hkr, ← hq0, eq_dec]; simp)
  rw [hkr]
  clear hkr
  clear hk hsv h0
  go_enter Tryz.func60, Tryz.ntmps60
  cases q0 <;>
  · go_wp2_with fail
    exact bodyPost_ret (results_tmp rfl _ _ _) rfl ⟨by rw [HQ.out]; rfl, Later.refl _⟩
set_option maxRecDepth 100000 in
set_option maxHeartbeats 8000000 in
theorem rres_bin (o : List UInt8) (ho : o ∈ opsW) (B b : Nat) (n : Int) (ks : List Int) (w : World) (hb : w.cell? ⟨B, 0, none⟩ = some (.string (strB o))) (hk : KindsAt w b ks) : Calls Tryz.prog 60 #[.pointer (some ⟨B, 0, none⟩), .int .i64 n, .slice (some ⟨b, 0, none⟩) 4 4] w (ResTo (binK o (ks.getD 0 0) (ks.getD 1 0)) w) := by
  obtain ⟨sv, hsv⟩ : ∃ s, s = strB o := ⟨_, rfl⟩
  rw [← hsv] at hb
  obtain ⟨k0, h0⟩ : ∃ k, ks.getD 0 0 = k := ⟨_, rfl⟩
  obtain ⟨k1, h1⟩ : ∃ k, ks.getD 1 0 = k := ⟨_, rfl⟩
  have c0 : w.cell? ⟨b, 0, none⟩ = some (.int .i64 k0) := by rw [← h0]; exact cell_obj (i := 0) hk rfl
  have c1 : w.cell? ⟨b, 1, none⟩ = some (.int .i64 k1) := by rw [← h1]; exact cell_obj (i := 1) hk rfl
  rw [h0, h1]
  have hlt := cell_lt hb
  have hlt2 := cell_lt c0
  clear hk h0 h1
  rcases opsW_cases ho with rfl | rfl | rfl | rfl | rfl | rfl | rfl | rfl | rfl | rfl | rfl | rfl | rfl | rfl
  · have e0 : (sv.toList == [110, 111, 116]) = false := what_ne hsv (by decide)
    have e1 : (sv.toList == [109, 105, 110, 117, 115]) = false := what_ne hsv (by decide)
    have e2 : (sv.toList == [97, 110, 100]) = false := what_ne hsv (by decide)
    have e3 : (sv.toList == [111, 114]) = true := what_eq [111, 114] hsv
    obtain ⟨q0, hq0⟩ : ∃ q, (k0 == 2) = q := ⟨_, rfl⟩
    obtain ⟨q1, hq1⟩ : ∃ q, (k1 == 2) = q := ⟨_, rfl⟩
    have HQ : Hid ((if k0 = 2 ∧ k1 = 2 then some (2 : Int) else none) = if (q0 && q1) = true then some 2 else none) := hid (by rw [← hq0, ← hq1, eq_dec, eq_dec]; simp)
    have HB : Hid (binK orW k0 k1 = if k0 = 2 ∧ k1 = 2 then some 2 else none) := hid rfl
    clear hsv
    go_enter Tryz.func60, Tryz.ntmps60
    cases q0 <;> cases q1 <;>
    · go_wp2_with fail
      exact bodyPost_ret (results_tmp rfl _ _ _) rfl ⟨by rw [HB.out, HQ.out]; rfl, Later.refl _⟩
  · have e0 : (sv.toList == [110, 111, 116]) = false := what_ne hsv (by decide)
    have e1 : (sv.toList == [109, 105, 110, 117, 115]) = false := what_ne hsv (by decide)
    have e2 : (sv.toList == [97, 110, 100]) = true := what_eq [97, 110, 100] hsv
    obtain ⟨q0, hq0⟩ : ∃ q, (k0 == 2) = q := ⟨_, rfl⟩
    obtain ⟨q1, hq1⟩ : ∃ q, (k1 == 2) = q := ⟨_, rfl⟩
    have HQ : Hid ((if k0 = 2 ∧ k1 = 2 then some (2 : Int) else none) = if (q0 && q1) = true then some 2 else none) := hid (by rw [← hq0, ← hq1, eq_dec, eq_dec]; simp)
    have HB : Hid (binK andW k0 k1 = if k0 = 2 ∧ k1 = 2 then some 2 else none) := hid rfl
    clear hsv
    go_enter Tryz.func60, Tryz.ntmps60
    cases q0 <;> cases q1 <;>
    · go_wp2_with fail
      exact bodyPost_ret (results_tmp rfl _ _ _) rfl ⟨by rw [HB.out, HQ.out]; rfl, Later.refl _⟩
  · have e0 : (sv.toList == [110, 111, 116]) = false := what_ne hsv (by decide)
    have e1 : (sv.toList == [109, 105, 110, 117, 115]) = false := what_ne hsv (by decide)
    have e2 : (sv.toList == [97, 110, 100]) = false := what_ne hsv (by decide)
    have e3 : (sv.toList == [111, 114]) = false := what_ne hsv (by decide)
    have e4 : (sv.toList == [43, 43]) = false := what_ne hsv (by decide)
    have e5 : (sv.toList == [99, 97, 108, 108]) = false := what_ne hsv (by decide)
    have HSV := hid hsv
    clear hsv
    obtain ⟨q0, hq0⟩ : ∃ q, (k0 == k1) = q := ⟨_, rfl⟩
    have HQ : Hid ((if k1 = k0 then some (2 : Int) else none) = if q0 = true then some 2 else none) := hid (by rw [← hq0, eq_dec]; simp only [eq_comm (a := k1) (b := k0)]; simp)
    have HB : Hid (binK [61] k0 k1 = if k1 = k0 then some 2 else none) := hid rfl
    go_enter Tryz.func60, Tryz.ntmps60
    go_wp2_with fail
    rw [HSV.out]
    refine (power_any [61] w).mono ?_
    rintro e w' ⟨rfl, hw'⟩
    subst w'
    rw [show powS [61] = 4 from by decide]
    clear e0 e1 e2 e3 e4 e5
    go_upto_region 6 with (fail)
    refine wp_region_lex (by kernel_rfl) (by kernel_rfl) Later Later.refl Later.trans (fun _ => none) (fun _ _ _ _ _ h => by cases h) ?_
    simp only [numbered, Nat.reduceAdd]
    refine LexS.out ?_
    iterate 8
      first
      | (refine LexS.skip rfl ?_; simp only [Act.put, List.setIfInBounds_toArray, List.set])
      | (refine LexS.one' rfl rfl ?_
         apply Exists.intro
         refine ⟨fun w hR hF => ?_, ?_⟩
         · have hP := hR
           repeat (first | replace hP := Later.of_drew hP | replace hP := Later.of_drewN hP | replace hP := Later.of_alloc hP)
           have hcs := hR.cells
           have zc0 := hP.cell c0
           have zc1 := hP.cell c1
           clear hR hF hP
           go_simp
           first | done | rfl
         simp only [Act.put, List.setIfInBounds_toArray, List.set])
    refine LexS.nil ?_
    intro w2 hL2 hF9
    clear hF9
    repeat (first | replace hL2 := Later.of_drew hL2 | replace hL2 := Later.of_drewN hL2 | replace hL2 := Later.of_alloc hL2)
    have HL2 := hid hL2
    clear hL2 c0 c1 hlt hlt2 hb
    try rw [hq0]
    clear hq0
    cases q0 <;>
    · go_wp2_with fail
      exact bodyPost_ret (results_tmp rfl _ _ _) rfl ⟨by rw [HB.out, HQ.out]; rfl, HL2.out⟩
  · have e0 : (sv.toList == [110, 111, 116]) = false := what_ne hsv (by decide)
    have e1 : (sv.toList == [109, 105, 110, 117, 115]) = false := what_ne hsv (by decide)
    have e2 : (sv.toList == [97, 110, 100]) = false := what_ne hsv (by decide)
    have e3 : (sv.toList == [111, 114]) = false := what_ne hsv (by decide)
    have e4 : (sv.toList == [43, 43]) = false := what_ne hsv (by decide)
    have e5 : (sv.toList == [99, 97, 108, 108]) = false := what_ne hsv (by decide)
    have HSV := hid hsv
    clear hsv
    obtain ⟨q0, hq0⟩ : ∃ q, (k0 == k1) = q := ⟨_, rfl⟩
    have HQ : Hid ((if k1 = k0 then some (2 : Int) else none) = if q0 = true then some 2 else none) := hid (by rw [← hq0, eq_dec]; simp only [eq_comm (a := k1) (b := k0)]; simp)
    have HB : Hid (binK [60, 62] k0 k1 = if k1 = k0 then some 2 else none) := hid rfl
    go_enter Tryz.func60, Tryz.ntmps60
    go_wp2_with fail
    rw [HSV.out]
    refine (power_any [60, 62] w).mono ?_
    rintro e w' ⟨rfl, hw'⟩
    subst w'
    rw [show powS [60, 62] = 4 from by decide]
    clear e0 e1 e2 e3 e4 e5
    go_upto_region 6 with (fail)
    refine wp_region_lex (by kernel_rfl) (by kernel_rfl) Later Later.refl Later.trans (fun _ => none) (fun _ _ _ _ _ h => by cases h) ?_
    simp only [numbered, Nat.reduceAdd]
    refine LexS.out ?_
    iterate 8
      first
      | (refine LexS.skip rfl ?_; simp only [Act.put, List.setIfInBounds_toArray, List.set])
      | (refine LexS.one' rfl rfl ?_
         apply Exists.intro
         refine ⟨fun w hR hF => ?_, ?_⟩
         · have hP := hR
           repeat (first | replace hP := Later.of_drew hP | replace hP := Later.of_drewN hP | replace hP := Later.of_alloc hP)
           have hcs := hR.cells
           have zc0 := hP.cell c0
           have zc1 := hP.cell c1
           clear hR hF hP
           go_simp
           first | done | rfl
         simp only [Act.put, List.setIfInBounds_toArray, List.set])
    refine LexS.nil ?_
    intro w2 hL2 hF9
    clear hF9
    repeat (first | replace hL2 := Later.of_drew hL2 | replace hL2 := Later.of_drewN hL2 | replace hL2 := Later.of_alloc hL2)
    have HL2 := hid hL2
    clear hL2 c0 c1 hlt hlt2 hb
    try rw [hq0]
    clear hq0
    cases q0 <;>
    · go_wp2_with fail
      exact bodyPost_ret (results_tmp rfl _ _ _) rfl ⟨by rw [HB.out, HQ.out]; rfl, HL2.out⟩
  · have e0 : (sv.toList == [110, 111, 116]) = false := what_ne hsv (by decide)
    have e1 : (sv.toList == [109, 105, 110, 117, 115]) = false := what_ne hsv (by decide)
    have e2 : (sv.toList == [97, 110, 100]) = false := what_ne hsv (by decide)
    have e3 : (sv.toList == [111, 114]) = false := what_ne hsv (by decide)
    have e4 : (sv.toList == [43, 43]) = false := what_ne hsv (by decide)
    have e5 : (sv.toList == [99, 97, 108, 108]) = false := what_ne hsv (by decide)
    have HSV := hid hsv
    clear hsv
    obtain ⟨q0, hq0⟩ : ∃ q, (k0 == k1) = q := ⟨_, rfl⟩
    have HQ : Hid ((if k1 = k0 then some (2 : Int) else none) = if q0 = true then some 2 else none) := hid (by rw [← hq0, eq_dec]; simp only [eq_comm (a := k1) (b := k0)]; simp)
    have HB : Hid (binK [60] k0 k1 = if k1 = k0 then some 2 else none) := hid rfl
    go_enter Tryz.func60, Tryz.ntmps60
    go_wp2_with fail
    rw [HSV.out]
    refine (power_any [60] w).mono ?_
    rintro e w' ⟨rfl, hw'⟩
    subst w'
    rw [show powS [60] = 4 from by decide]
    clear e0 e1 e2 e3 e4 e5
    go_upto_region 6 with (fail)
    refine wp_region_lex (by kernel_rfl) (by kernel_rfl) Later Later.refl Later.trans (fun _ => none) (fun _ _ _ _ _ h => by cases h) ?_
    simp only [numbered, Nat.reduceAdd]
    refine LexS.out ?_
    iterate 8
      first
      | (refine LexS.skip rfl ?_; simp only [Act.put, List.setIfInBounds_toArray, List.set])
      | (refine LexS.one' rfl rfl ?_
         apply Exists.intro
         refine ⟨fun w hR hF => ?_, ?_⟩
         · have hP := hR
           repeat (first | replace hP := Later.of_drew hP | replace hP := Later.of_drewN hP | replace hP := Later.of_alloc hP)
           have hcs := hR.cells
           have zc0 := hP.cell c0
           have zc1 := hP.cell c1
           clear hR hF hP
           go_simp
           first | done | rfl
         simp only [Act.put, List.setIfInBounds_toArray, List.set])
    refine LexS.nil ?_
    intro w2 hL2 hF9
    clear hF9
    repeat (first | replace hL2 := Later.of_drew hL2 | replace hL2 := Later.of_drewN hL2 | replace hL2 := Later.of_alloc hL2)
    have HL2 := hid hL2
    clear hL2 c0 c1 hlt hlt2 hb
    try rw [hq0]
    clear hq0
    cases q0 <;>
    · go_wp2_with fail
      exact bodyPost_ret (results_tmp rfl _ _ _) rfl ⟨by rw [HB.out, HQ.out]; rfl, HL2.out⟩
  · have e0 : (sv.toList == [110, 111, 116]) = false := what_ne hsv (by decide)
    have e1 : (sv.toList == [109, 105, 110, 117, 115]) = false := what_ne hsv (by decide)
    have e2 : (sv.toList == [97, 110, 100]) = false := what_ne hsv (by decide)
    have e3 : (sv.toList == [111, 114]) = false := what_ne hsv (by decide)
    have e4 : (sv.toList == [43, 43]) = false := what_ne hsv (by decide)
    have e5 : (sv.toList == [99, 97, 108, 108]) = false := what_ne hsv (by decide)
    have HSV := hid hsv
    clear hsv
    obtain ⟨q0, hq0⟩ : ∃ q, (k0 == k1) = q := ⟨_, rfl⟩
    have HQ : Hid ((if k1 = k0 then some (2 : Int) else none) = if q0 = true then some 2 else none) := hid (by rw [← hq0, eq_dec]; simp only [eq_comm (a := k1) (b := k0)]; simp)
    have HB : Hid (binK [60, 61] k0 k1 = if k1 = k0 then some 2 else none) := hid rfl
    go_enter Tryz.func60, Tryz.ntmps60
    go_wp2_with fail
    rw [HSV.out]
    refine (power_any [60, 61] w).mono ?_
    rintro e w' ⟨rfl, hw'⟩
    subst w'
    rw [show powS [60, 61] = 4 from by decide]
    clear e0 e1 e2 e3 e4 e5
    go_upto_region 6 with (fail)
    refine wp_region_lex (by kernel_rfl) (by kernel_rfl) Later Later.refl Later.trans (fun _ => none) (fun _ _ _ _ _ h => by cases h) ?_
    simp only [numbered, Nat.reduceAdd]
    refine LexS.out ?_
    iterate 8
      first
      | (refine LexS.skip rfl ?_; simp only [Act.put, List.setIfInBounds_toArray, List.set])
      | (refine LexS.one' rfl rfl ?_
         apply Exists.intro
         refine ⟨fun w hR hF => ?_, ?_⟩
         · have hP := hR
           repeat (first | replace hP := Later.of_drew hP | replace hP := Later.of_drewN hP | replace hP := Later.of_alloc hP)
           have hcs := hR.cells
           have zc0 := hP.cell c0
           have zc1 := hP.cell c1
           clear hR hF hP
           go_simp
           first | done | rfl
         simp only [Act.put, List.setIfInBounds_toArray, List.set])
    refine LexS.nil ?_
    intro w2 hL2 hF9
    clear hF9
    repeat (first | replace hL2 := Later.of_drew hL2 | replace hL2 := Later.of_drewN hL2 | replace hL2 := Later.of_alloc hL2)
    have HL2 := hid hL2
    clear hL2 c0 c1 hlt hlt2 hb
    try rw [hq0]
    clear hq0
    cases q0 <;>
    · go_wp2_with fail
      exact bodyPost_ret (results_tmp rfl _ _ _) rfl ⟨by rw [HB.out, HQ.out]; rfl, HL2.out⟩
  · have e0 : (sv.toList == [110, 111, 116]) = false := what_ne hsv (by decide)
    have e1 : (sv.toList == [109, 105, 110, 117, 115]) = false := what_ne hsv (by decide)
    have e2 : (sv.toList == [97, 110, 100]) = false := what_ne hsv (by decide)
    have e3 : (sv.toList == [111, 114]) = false := what_ne hsv (by decide)
    have e4 : (sv.toList == [43, 43]) = false := what_ne hsv (by decide)
    have e5 : (sv.toList == [99, 97, 108, 108]) = false := what_ne hsv (by decide)
    have HSV := hid hsv
    clear hsv
    obtain ⟨q0, hq0⟩ : ∃ q, (k0 == k1) = q := ⟨_, rfl⟩
    have HQ : Hid ((if k1 = k0 then some (2 : Int) else none) = if q0 = true then some 2 else none) := hid (by rw [← hq0, eq_dec]; simp only [eq_comm (a := k1) (b := k0)]; simp)
    have HB : Hid (binK [62] k0 k1 = if k1 = k0 then some 2 else none) := hid rfl
    go_enter Tryz.func60, Tryz.ntmps60
    go_wp2_with fail
    rw [HSV.out]
    refine (power_any [62] w).mono ?_
    rintro e w' ⟨rfl, hw'⟩
    subst w'
    rw [show powS [62] = 4 from by decide]
    clear e0 e1 e2 e3 e4 e5
    go_upto_region 6 with (fail)
    refine wp_region_lex (by kernel_rfl) (by kernel_rfl) Later Later.refl Later.trans (fun _ => none) (fun _ _ _ _ _ h => by cases h) ?_
    simp only [numbered, Nat.reduceAdd]
    refine LexS.out ?_
    iterate 8
      first
      | (refine LexS.skip rfl ?_; simp only [Act.put, List.setIfInBounds_toArray, List.set])
      | (refine LexS.one' rfl rfl ?_
         apply Exists.intro
         refine ⟨fun w hR hF => ?_, ?_⟩
         · have hP := hR
           repeat (first | replace hP := Later.of_drew hP | replace hP := Later.of_drewN hP | replace hP := Later.of_alloc hP)
           have hcs := hR.cells
           have zc0 := hP.cell c0
           have zc1 := hP.cell c1
           clear hR hF hP
           go_simp
           first | done | rfl
         simp only [Act.put, List.setIfInBounds_toArray, List.set])
    refine LexS.nil ?_
    intro w2 hL2 hF9
    clear hF9
    repeat (first | replace hL2 := Later.of_drew hL2 | replace hL2 := Later.of_drewN hL2 | replace hL2 := Later.of_alloc hL2)
    have HL2 := hid hL2
    clear hL2 c0 c1 hlt hlt2 hb
    try rw [hq0]
    clear hq0
    cases q0 <;>
    · go_wp2_with fail
      exact bodyPost_ret (results_tmp rfl _ _ _) rfl ⟨by rw [HB.out, HQ.out]; rfl, HL2.out⟩
  · have e0 : (sv.toList == [110, 111, 116]) = false := what_ne hsv (by decide)
    have e1 : (sv.toList == [109, 105, 110, 117, 115]) = false := what_ne hsv (by decide)
    have e2 : (sv.toList == [97, 110, 100]) = false := what_ne hsv (by decide)
    have e3 : (sv.toList == [111, 114]) = false := what_ne hsv (by decide)
    have e4 : (sv.toList == [43, 43]) = false := what_ne hsv (by decide)
    have e5 : (sv.toList == [99, 97, 108, 108]) = false := what_ne hsv (by decide)
    have HSV := hid hsv
    clear hsv
    obtain ⟨q0, hq0⟩ : ∃ q, (k0 == k1) = q := ⟨_, rfl⟩
    have HQ : Hid ((if k1 = k0 then some (2 : Int) else none) = if q0 = true then some 2 else none) := hid (by rw [← hq0, eq_dec]; simp only [eq_comm (a := k1) (b := k0)]; simp)
    have HB : Hid (binK [62, 61] k0 k1 = if k1 = k0 then some 2 else none) := hid rfl
    go_enter Tryz.func60, Tryz.ntmps60
    go_wp2_with fail
    rw [HSV.out]
    refine (power_any [62, 61] w).mono ?_
    rintro e w' ⟨rfl, hw'⟩
    subst w'
    rw [show powS [62, 61] = 4 from by decide]
    clear e0 e1 e2 e3 e4 e5
    go_upto_region 6 with (fail)
    refine wp_region_lex (by kernel_rfl) (by kernel_rfl) Later Later.refl Later.trans (fun _ => none) (fun _ _ _ _ _ h => by cases h) ?_
    simp only [numbered, Nat.reduceAdd]
    refine LexS.out ?_
    iterate 8
      first
      | (refine LexS.skip rfl ?_; simp only [Act.put, List.setIfInBounds_toArray, List.set])
      | (refine LexS.one' rfl rfl ?_
         apply Exists.intro
         refine ⟨fun w hR hF => ?_, ?_⟩
         · have hP := hR
           repeat (first | replace hP := Later.of_drew hP | replace hP := Later.of_drewN hP | replace hP := Later.of_alloc hP)
           have hcs := hR.cells
           have zc0 := hP.cell c0
           have zc1 := hP.cell c1
           clear hR hF hP
           go_simp
           first | done | rfl
         simp only [Act.put, List.setIfInBounds_toArray, List.set])
    refine LexS.nil ?_
    intro w2 hL2 hF9
    clear hF9
    repeat (first | replace hL2 := Later.of_drew hL2 | replace hL2 := Later.of_drewN hL2 | replace hL2 := Later.of_alloc hL2)
    have HL2 := hid hL2
    clear hL2 c0 c1 hlt hlt2 hb
    try rw [hq0]
    clear hq0
    cases q0 <;>
    · go_wp2_with fail
      exact bodyPost_ret (results_tmp rfl _ _ _) rfl ⟨by rw [HB.out, HQ.out]; rfl, HL2.out⟩
  · have e0 : (sv.toList == [110, 111, 116]) = false := what_ne hsv (by decide)
    have e1 : (sv.toList == [109, 105, 110, 117, 115]) = false := what_ne hsv (by decide)
    have e2 : (sv.toList == [97, 110, 100]) = false := what_ne hsv (by decide)
    have e3 : (sv.toList == [111, 114]) = false := what_ne hsv (by decide)
    have e4 : (sv.toList == [43, 43]) = false := what_ne hsv (by decide)
    have e5 : (sv.toList == [99, 97, 108, 108]) = false := what_ne hsv (by decide)
    have HSV := hid hsv
    clear hsv
    obtain ⟨q0, hq0⟩ : ∃ q, (k0 == 1) = q := ⟨_, rfl⟩
    obtain ⟨q1, hq1⟩ : ∃ q, (k1 == 1) = q := ⟨_, rfl⟩
    have HQ : Hid ((if k0 = 1 ∧ k1 = 1 then some (1 : Int) else none) = if (q0 && q1) = true then some 1 else none) := hid (by rw [← hq0, ← hq1, eq_dec, eq_dec]; simp)
    have HB : Hid (binK [43] k0 k1 = if k0 = 1 ∧ k1 = 1 then some 1 else none) := hid rfl
    go_enter Tryz.func60, Tryz.ntmps60
    go_wp2_with fail
    rw [HSV.out]
    refine (power_any [43] w).mono ?_
    rintro e w' ⟨rfl, hw'⟩
    subst w'
    rw [show powS [43] = 5 from by decide]
    clear e0 e1 e2 e3 e4 e5
    cases q0 <;> cases q1 <;>
    · go_wp2_with fail
      exact bodyPost_ret (results_tmp rfl _ _ _) rfl ⟨by rw [HB.out, HQ.out]; rfl, Later.refl _⟩
  · have e0 : (sv.toList == [110, 111, 116]) = false := what_ne hsv (by decide)
    have e1 : (sv.toList == [109, 105, 110, 117, 115]) = false := what_ne hsv (by decide)
    have e2 : (sv.toList == [97, 110, 100]) = false := what_ne hsv (by decide)
    have e3 : (sv.toList == [111, 114]) = false := what_ne hsv (by decide)
    have e4 : (sv.toList == [43, 43]) = false := what_ne hsv (by decide)
    have e5 : (sv.toList == [99, 97, 108, 108]) = false := what_ne hsv (by decide)
    have HSV := hid hsv
    clear hsv
    obtain ⟨q0, hq0⟩ : ∃ q, (k0 == 1) = q := ⟨_, rfl⟩
    obtain ⟨q1, hq1⟩ : ∃ q, (k1 == 1) = q := ⟨_, rfl⟩
    have HQ : Hid ((if k0 = 1 ∧ k1 = 1 then some (1 : Int) else none) = if (q0 && q1) = true then some 1 else none) := hid (by rw [← hq0, ← hq1, eq_dec, eq_dec]; simp)
    have HB : Hid (binK [45] k0 k1 = if k0 = 1 ∧ k1 = 1 then some 1 else none) := hid rfl
    go_enter Tryz.func60, Tryz.ntmps60
    go_wp2_with fail
    rw [HSV.out]
    refine (power_any [45] w).mono ?_
    rintro e w' ⟨rfl, hw'⟩
    subst w'
    rw [show powS [45] = 5 from by decide]
    clear e0 e1 e2 e3 e4 e5
    cases q0 <;> cases q1 <;>
    · go_wp2_with fail
      exact bodyPost_ret (results_tmp rfl _ _ _) rfl ⟨by rw [HB.out, HQ.out]; rfl, Later.refl _⟩
  · have e0 : (sv.toList == [110, 111, 116]) = false := what_ne hsv (by decide)
    have e1 : (sv.toList == [109, 105, 110, 117, 115]) = false := what_ne hsv (by decide)
    have e2 : (sv.toList == [97, 110, 100]) = false := what_ne hsv (by decide)
    have e3 : (sv.toList == [111, 114]) = false := what_ne hsv (by decide)
    have e4 : (sv.toList == [43, 43]) = true := what_eq [43, 43] hsv
    obtain ⟨q0, hq0⟩ : ∃ q, (k0 == 3) = q := ⟨_, rfl⟩
    obtain ⟨q1, hq1⟩ : ∃ q, (k1 == 3) = q := ⟨_, rfl⟩
    have HQ : Hid ((if k0 = 3 ∧ k1 = 3 then some (3 : Int) else none) = if (q0 && q1) = true then some 3 else none) := hid (by rw [← hq0, ← hq1, eq_dec, eq_dec]; simp)
    have HB : Hid (binK catW k0 k1 = if k0 = 3 ∧ k1 = 3 then some 3 else none) := hid rfl
    clear hsv
    go_enter Tryz.func60, Tryz.ntmps60
    cases q0 <;> cases q1 <;>
    · go_wp2_with fail
      exact bodyPost_ret (results_tmp rfl _ _ _) rfl ⟨by rw [HB.out, HQ.out]; rfl, Later.refl _⟩
  · have e0 : (sv.toList == [110, 111, 116]) = false := what_ne hsv (by decide)
    have e1 : (sv.toList == [109, 105, 110, 117, 115]) = false := what_ne hsv (by decide)
    have e2 : (sv.toList == [97, 110, 100]) = false := what_ne hsv (by decide)
    have e3 : (sv.toList == [111, 114]) = false := what_ne hsv (by decide)
    have e4 : (sv.toList == [43, 43]) = false := what_ne hsv (by decide)
    have e5 : (sv.toList == [99, 97, 108, 108]) = false := what_ne hsv (by decide)
    have HSV := hid hsv
    clear hsv
    obtain ⟨q0, hq0⟩ : ∃ q, (k0 == 1) = q := ⟨_, rfl⟩
    obtain ⟨q1, hq1⟩ : ∃ q, (k1 == 1) = q := ⟨_, rfl⟩
    have HQ : Hid ((if k0 = 1 ∧ k1 = 1 then some (1 : Int) else none) = if (q0 && q1) = true then some 1 else none) := hid (by rw [← hq0, ← hq1, eq_dec, eq_dec]; simp)
    have HB : Hid (binK [42] k0 k1 = if k0 = 1 ∧ k1 = 1 then some 1 else none) := hid rfl
    go_enter Tryz.func60, Tryz.ntmps60
    go_wp2_with fail
    rw [HSV.out]
    refine (power_any [42] w).mono ?_
    rintro e w' ⟨rfl, hw'⟩
    subst w'
    rw [show powS [42] = 6 from by decide]
    clear e0 e1 e2 e3 e4 e5
    cases q0 <;> cases q1 <;>
    · go_wp2_with fail
      exact bodyPost_ret (results_tmp rfl _ _ _) rfl ⟨by rw [HB.out, HQ.out]; rfl, Later.refl _⟩
  · have e0 : (sv.toList == [110, 111, 116]) = false := what_ne hsv (by decide)
    have e1 : (sv.toList == [109, 105, 110, 117, 115]) = false := what_ne hsv (by decide)
    have e2 : (sv.toList == [97, 110, 100]) = false := what_ne hsv (by decide)
    have e3 : (sv.toList == [111, 114]) = false := what_ne hsv (by decide)
    have e4 : (sv.toList == [43, 43]) = false := what_ne hsv (by decide)
    have e5 : (sv.toList == [99, 97, 108, 108]) = false := what_ne hsv (by decide)
    have HSV := hid hsv
    clear hsv
    obtain ⟨q0, hq0⟩ : ∃ q, (k0 == 1) = q := ⟨_, rfl⟩
    obtain ⟨q1, hq1⟩ : ∃ q, (k1 == 1) = q := ⟨_, rfl⟩
    have HQ : Hid ((if k0 = 1 ∧ k1 = 1 then some (1 : Int) else none) = if (q0 && q1) = true then some 1 else none) := hid (by rw [← hq0, ← hq1, eq_dec, eq_dec]; simp)
    have HB : Hid (binK [47] k0 k1 = if k0 = 1 ∧ k1 = 1 then some 1 else none) := hid rfl
    go_enter Tryz.func60, Tryz.ntmps60
    go_wp2_with fail
    rw [HSV.out]
    refine (power_any [47] w).mono ?_
    rintro e w' ⟨rfl, hw'⟩
    subst w'
    rw [show powS [47] = 6 from by decide]
    clear e0 e1 e2 e3 e4 e5
    cases q0 <;> cases q1 <;>
    · go_wp2_with fail
      exact bodyPost_ret (results_tmp rfl _ _ _) rfl ⟨by rw [HB.out, HQ.out]; rfl, Later.refl _⟩
  · have e0 : (sv.toList == [110, 111, 116]) = false := what_ne hsv (by decide)
    have e1 : (sv.toList == [109, 105, 110, 117, 115]) = false := what_ne hsv (by decide)
    have e2 : (sv.toList == [97, 110, 100]) = false := what_ne hsv (by decide)
    have e3 : (sv.toList == [111, 114]) = false := what_ne hsv (by decide)
    have e4 : (sv.toList == [43, 43]) = false := what_ne hsv (by decide)
    have e5 : (sv.toList == [99, 97, 108, 108]) = false := what_ne hsv (by decide)
    have HSV := hid hsv
    clear hsv
    obtain ⟨q0, hq0⟩ : ∃ q, (k0 == 1) = q := ⟨_, rfl⟩
    obtain ⟨q1, hq1⟩ : ∃ q, (k1 == 1) = q := ⟨_, rfl⟩
    have HQ : Hid ((if k0 = 1 ∧ k1 = 1 then some (1 : Int) else none) = if (q0 && q1) = true then some 1 else none) := hid (by rw [← hq0, ← hq1, eq_dec, eq_dec]; simp)
    have HB : Hid (binK [37] k0 k1 = if k0 = 1 ∧ k1 = 1 then some 1 else none) := hid rfl
    go_enter Tryz.func60, Tryz.ntmps60
    go_wp2_with fail
    rw [HSV.out]
    refine (power_any [37] w).mono ?_
    rintro e w' ⟨rfl, hw'⟩
    subst w'
    rw [show powS [37] = 6 from by decide]
    clear e0 e1 e2 e3 e4 e5
    cases q0 <;> cases q1 <;>
    · go_wp2_with fail
      exact bodyPost_ret (results_tmp rfl _ _ _) rfl ⟨by rw [HB.out, HQ.out]; rfl, Later.refl _⟩
end Go.Proofs.YtgajofkeidjbgaaGreatDoor
