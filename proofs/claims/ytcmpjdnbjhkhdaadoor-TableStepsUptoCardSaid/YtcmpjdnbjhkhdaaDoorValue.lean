/-
  PROVED HERE: contracts of package value: the order of two values, of two lists, of two rows; and of the document's text of the same.
-/
import Derived.Test.YtcmpjdnbjhkhdaaDoorRet
import Derived.Test.YtcmpjdnbjhkhdaaDoorShelf
namespace Go.Proofs.YtcmpjdnbjhkhdaaDoor
set_option linter.unusedSimpArgs false
set_option linter.unusedVariables false
open Go.RowKit

theorem cmpK (a b : Int) (w : World) : Calls Tryd.prog 132 #[.int .i64 a, .int .i64 b] w fun e w' => e = .returned (.int .i64 (cmpI a b)) ∧ w = w' := by
  rcases Int.lt_trichotomy a b with h | h | h
  · have hv : Hid (cmpI a b = -1) := by unfold cmpI Hid; simp [h]
    go_enter Tryd.func132, Tryd.ntmps132
    go_wp2
    go_ret
    exact ⟨ret_int hv.out.symm, rfl⟩
  · subst h
    have hv : Hid (cmpI a a = 0) := by unfold cmpI Hid; simp
    go_enter Tryd.func132, Tryd.ntmps132
    go_wp2
    go_ret
    exact ⟨ret_int hv.out.symm, rfl⟩
  · have hv : Hid (cmpI a b = 1) := by unfold cmpI Hid; rw [if_neg (by omega), if_pos h]
    have h' : ¬ a < b := by omega
    go_enter Tryd.func132, Tryd.ntmps132
    go_wp2
    go_ret
    exact ⟨ret_int hv.out.symm, rfl⟩
theorem cmpN (a b : Int) (w : World) : Calls Tryd.prog 112 #[.int .i64 a, .int .i64 b] w fun e w' => e = .returned (.int .i64 (cmpI a b)) ∧ w = w' := by
  rcases Int.lt_trichotomy a b with h | h | h
  · have hv : Hid (cmpI a b = -1) := by unfold cmpI Hid; simp [h]
    go_enter Tryd.func112, Tryd.ntmps112
    go_wp2
    go_ret
    exact ⟨ret_int hv.out.symm, rfl⟩
  · subst h
    have hv : Hid (cmpI a a = 0) := by unfold cmpI Hid; simp
    go_enter Tryd.func112, Tryd.ntmps112
    go_wp2
    go_ret
    exact ⟨ret_int hv.out.symm, rfl⟩
  · have hv : Hid (cmpI a b = 1) := by unfold cmpI Hid; rw [if_neg (by omega), if_pos h]
    have h' : ¬ a < b := by omega
    go_enter Tryd.func112, Tryd.ntmps112
    go_wp2
    go_ret
    exact ⟨ret_int hv.out.symm, rfl⟩


theorem or_any (b : Nat) (l : List Int) (c : Nat) (w : World) (hl : l.length ≤ 100) (hc : ∀ i (h : i < l.length), w.cell? ⟨b, i, none⟩ = some (.int .i64 l[i])) :
    Calls Tryd.prog 110 #[.slice (some ⟨b, 0, none⟩) l.length c] w fun e w' => e = .returned (.int .i64 (orL l)) ∧ w = w' := by
  go_enter Tryd.func110, Tryd.ntmps110
  go_wp2
  go_loop [8] (fun i => ∃ n : Nat, n ≤ l.length ∧ i = .int .i64 n ∧ ∀ j (h : j < l.length), j < n → l[j] = 0) (fun i => l.length - (intOf i).toNat)
  case atStart => exact ⟨0, by omega, rfl, fun j h h' => by omega⟩
  case round =>
    obtain ⟨n, hn, rfl, hz⟩ := hrel
    have HZ := hid hz; clear hz
    by_cases hlt : n < l.length
    · have h1 := hc n hlt
      have HC := hid hc; clear hc
      by_cases h0 : l[n] = 0
      · have H0 := hid h0
        rw [h0] at h1; clear h0
        go_wp2
        go_round
        case rel => 
          refine ⟨n + 1, by omega, by go_num, fun j h h' => ?_⟩
          by_cases hj : j = n
          · subst hj; exact H0.out
          · exact HZ.out j h (by omega)
        case measure => simp [intOf]; omega
      · have hr : Hid (orL l = l[n]) := by
          unfold Hid orL
          have : l.find? (fun x => x != 0) = some l[n] := by
            rw [List.find?_eq_some_iff_getElem]
            exact ⟨by simpa using h0, n, hlt, rfl, fun j hj => by simpa using HZ.out j (by omega) hj⟩
          rw [this]; rfl
        have h0' : (l[n] != 0) = true := by simpa using h0
        go_wp2
        go_ret
        exact ⟨ret_int hr.out.symm, rfl⟩
    · have hr : Hid (orL l = 0) := by
        unfold Hid orL
        have : l.find? (fun x => x != 0) = none := by
          rw [List.find?_eq_none]
          intro x hx
          obtain ⟨j, hj, rfl⟩ := List.getElem_of_mem hx
          simpa using HZ.out j hj (by omega)
        rw [this]; rfl
      clear hc
      go_wp2
      go_ret
      exact ⟨ret_int hr.out.symm, rfl⟩


set_option maxRecDepth 100000 in
theorem compare_any (x y : Val) (w : World) :
    Calls Tryd.prog 111 #[x.v, y.v] w fun e w' => e = .returned (.int .i64 (compareV x y)) ∧ Later w w' := by
  obtain ⟨k1, n1, t1⟩ := x
  obtain ⟨k2, n2, t2⟩ := y
  unfold compareV
  go_enter Tryd.func111, Tryd.ntmps111
  go_wp2
  refine wp_region_lex (by kernel_rfl) (by kernel_rfl) Later Later.refl Later.trans (kinds [(4, fun v _ => v = .int .i64 (cmpI k1 k2)), (9, fun v _ => v = .int .i64 (cmpI n1 n2)), (14, fun v _ => v = .int .i64 (Lib.compareBytes t1.data.toList t2.data.toList)), (15, fun v w => ∃ b, v = .slice (some ⟨b, 0, none⟩) 3 3 ∧ w.heap[b]? = some (.cells #[.int .i64 (cmpI k1 k2), .int .i64 (cmpI n1 n2), .int .i64 (Lib.compareBytes t1.data.toList t2.data.toList)] 3 (0, 0))), (16, fun v _ => v = .int .i64 (orL [cmpI k1 k2, cmpI n1 n2, Lib.compareBytes t1.data.toList t2.data.toList]))]) (kinds_still (by simp only [List.mem_cons, List.not_mem_nil, or_false, forall_eq_or_imp, forall_eq]; exact ⟨fun _ _ _ _ h => h, fun _ _ _ _ h => h, fun _ _ _ _ h => h, fun _ _ _ hR ⟨b, h, h'⟩ => ⟨b, h, hR.obj h'⟩, fun _ _ _ _ h => h⟩)) ?_
  simp only [numbered, Nat.reduceAdd]
  iterate 4
    first
    | (refine Lex.skip rfl ?_; simp only [Act.put, List.setIfInBounds_toArray, List.set])
    | (refine Lex.one' rfl rfl ?_
       apply Exists.intro
       refine ⟨fun w hR hF => ?_, ?_⟩
       · have hP := hR
         repeat (first | replace hP := Later.of_drew hP | replace hP := Later.of_drewN hP | replace hP := Later.of_alloc hP)
         have hcs := hR.cells
         clear hR hF hP
         go_simp
         first | done | rfl
       simp only [Act.put, List.setIfInBounds_toArray, List.set])
  refine Lex.anyEq rfl rfl (fun w hR hF => ?_) ?_
  · have hP := hR
    repeat (first | replace hP := Later.of_drew hP | replace hP := Later.of_drewN hP | replace hP := Later.of_alloc hP)
    have hcs := hR.cells
    clear hF hR
    unfold Runs
    go_simp
    unfold Yield
    refine (cmpK k1 k2 _).mono ?_
    rintro e w' ⟨rfl, rfl⟩
    exact ⟨_, rfl, Later.refl _, rfl⟩
  simp only [Act.put, List.setIfInBounds_toArray, List.set]
  iterate 4
    first
    | (refine Lex.skip rfl ?_; simp only [Act.put, List.setIfInBounds_toArray, List.set])
    | (refine Lex.one' rfl rfl ?_
       apply Exists.intro
       refine ⟨fun w hR hF => ?_, ?_⟩
       · have hP := hR
         repeat (first | replace hP := Later.of_drew hP | replace hP := Later.of_drewN hP | replace hP := Later.of_alloc hP)
         have hcs := hR.cells
         clear hR hF hP
         go_simp
         first | done | rfl
       simp only [Act.put, List.setIfInBounds_toArray, List.set])
  refine Lex.anyEq rfl rfl (fun w hR hF => ?_) ?_
  · have hP := hR
    repeat (first | replace hP := Later.of_drew hP | replace hP := Later.of_drewN hP | replace hP := Later.of_alloc hP)
    have hcs := hR.cells
    clear hF hR
    unfold Runs
    go_simp
    unfold Yield
    refine (cmpN n1 n2 _).mono ?_
    rintro e w' ⟨rfl, rfl⟩
    exact ⟨_, rfl, Later.refl _, rfl⟩
  simp only [Act.put, List.setIfInBounds_toArray, List.set]
  iterate 4
    first
    | (refine Lex.skip rfl ?_; simp only [Act.put, List.setIfInBounds_toArray, List.set])
    | (refine Lex.one' rfl rfl ?_
       apply Exists.intro
       refine ⟨fun w hR hF => ?_, ?_⟩
       · have hP := hR
         repeat (first | replace hP := Later.of_drew hP | replace hP := Later.of_drewN hP | replace hP := Later.of_alloc hP)
         have hcs := hR.cells
         clear hR hF hP
         go_simp
         first | done | rfl
       simp only [Act.put, List.setIfInBounds_toArray, List.set])
  refine Lex.anyEq rfl rfl (fun w hR hF => ?_) ?_
  · have hP := hR
    repeat (first | replace hP := Later.of_drew hP | replace hP := Later.of_drewN hP | replace hP := Later.of_alloc hP)
    have hcs := hR.cells
    clear hF hR
    unfold Runs
    go_simp
    unfold Yield
    refine (Tryd.strings_Compare t1 t2 _).mono ?_
    rintro e w' ⟨rfl, rfl⟩
    exact ⟨_, rfl, Later.refl _, rfl⟩
  simp only [Act.put, List.setIfInBounds_toArray, List.set]
  refine Lex.any rfl rfl (fun w hR hF => ?_) ?_
  · clear hF hR
    unfold Runs
    go_simp
    exact yield_value (Later.alloc _ _) ⟨_, rfl, obj_new _ _⟩
  rintro v15 ⟨w2, hR2, hF2⟩
  obtain ⟨b, rfl, -⟩ := hF2 _ List.mem_cons_self _ rfl
  clear hF2 hR2 w2
  simp only [Act.put, List.setIfInBounds_toArray, List.set]
  refine Lex.anyEq rfl rfl (fun w hR hF => ?_) ?_
  · obtain ⟨b', hb, h15⟩ := hF _ List.mem_cons_self (by kernel_rfl) _ rfl
    simp only [Value.slice.injEq, Option.some.injEq, Addr.mk.injEq] at hb
    obtain ⟨⟨rfl, -, -⟩, -, -⟩ := hb
    clear hF hR
    unfold Runs
    go_simp
    refine yield_enter ?_
    refine (or_any b [cmpI k1 k2, cmpI n1 n2, Lib.compareBytes t1.data.toList t2.data.toList] 3 w (by simp) ?_).mono ?_
    · intro i hi
      exact cell_obj h15 (by simp only [List.getElem?_toArray, List.length_cons, List.length_nil] at hi ⊢; match i, hi with | 0, _ => rfl | 1, _ => rfl | 2, _ => rfl)
    · rintro e w' ⟨rfl, rfl⟩
      exact ⟨_, rfl, Later.refl _, rfl⟩
  simp only [Act.put, List.setIfInBounds_toArray, List.set]
  iterate 1
    first
    | (refine Lex.skip rfl ?_; simp only [Act.put, List.setIfInBounds_toArray, List.set])
    | (refine Lex.one' rfl rfl ?_
       apply Exists.intro
       refine ⟨fun w hR hF => ?_, ?_⟩
       · have hP := hR
         repeat (first | replace hP := Later.of_drew hP | replace hP := Later.of_drewN hP | replace hP := Later.of_alloc hP)
         have hcs := hR.cells
         clear hR hF hP
         go_simp
         first | done | rfl
       simp only [Act.put, List.setIfInBounds_toArray, List.set])
  intro w1 hR1 hF9
  clear hF9
  go_wp2
  go_ret
  repeat (first | replace hR1 := Later.of_drew hR1 | replace hR1 := Later.of_drewN hR1 | replace hR1 := Later.of_alloc hR1)
  exact ⟨rfl, hR1⟩

set_option maxRecDepth 100000 in
theorem compare_list (a b : List Val) (v u : Value) (w : World) (ha : IsVals w v a) (hb : IsVals w u b) :
    Calls Tryd.prog 130 #[v, u, .func (.func 111) #[] #[]] w fun e w' => e = .returned (.int .i64 (compareL a b)) ∧ Later w w' := by
  obtain ⟨p, c, rfl, hac, hcm, -, hea⟩ := ha
  obtain ⟨q, d, rfl, hbd, hdm, -, heb⟩ := hb
  unfold maxLen at hcm hdm
  go_enter Tryd.func130, Tryd.ntmps130
  go_wp2
  go_loopw [13] (fun i wr => ∃ n : Nat, n ≤ a.length ∧ n ≤ b.length ∧ i = .int .i64 n ∧ Later w wr ∧ Hid (compareL a b = compareL (a.drop n) (b.drop n))) (fun i _ => a.length - (intOf i).toNat)
  case atStart => exact ⟨0, by omega, by omega, rfl, Later.refl _, rfl⟩
  case round =>
    obtain ⟨n, hn1, hn2, rfl, hL, hq⟩ := hrel
    by_cases h1 : n < a.length
    · obtain ⟨b1, o1, rfl, -, e1⟩ := hea n h1
      obtain ⟨p1, p2, p3⟩ := e1.later hL
      have HA := hid hea; have HB := hid heb; clear hea heb e1
      have hd1 : a.drop n = a[n] :: a.drop (n + 1) := List.drop_eq_getElem_cons h1
      have HD1 := hid hd1; clear hd1
      by_cases h2 : n < b.length
      · obtain ⟨b2, o2, rfl, -, e2⟩ := HB.out n h2
        obtain ⟨q1, q2, q3⟩ := e2.later hL
        clear e2
        have hd2 : b.drop n = b[n] :: b.drop (n + 1) := List.drop_eq_getElem_cons h2
        have HD2 := hid hd2; clear hd2
        have hl1 := cell_lt p1
        have hl2 := cell_lt q1
        generalize hx : a[n] = x at *
        generalize hy : b[n] = y at *
        clear hx hy
        by_cases hc : compareV x y = 0
        · have HC := hid hc
          go_wp2_with (go_at_call 111; refine (compare_any x y _).mono ?_; rintro e w2 ⟨rfl, hL2⟩)
          repeat (first | replace hL2 := Later.of_drew hL2 | replace hL2 := Later.of_drewN hL2 | replace hL2 := Later.of_alloc hL2)
          go_roundw
          case rel => exact ⟨n + 1, by omega, by omega, by go_num, Later.trans _ _ _ hL hL2, hid (hq.out.trans (by rw [HD1.out, HD2.out]; simp only [compareL, HC.out, if_true]))⟩
          case measure => simp [intOf]; omega
        · have hc' : (compareV x y != 0) = true := by simpa using hc
          have HR : Hid (compareL a b = compareV x y) := hid (hq.out.trans (by rw [HD1.out, HD2.out]; simp only [compareL, hc, if_false]))
          clear hc
          go_wp2_with (go_at_call 111; refine (compare_any x y _).mono ?_; rintro e w2 ⟨rfl, hL2⟩)
          repeat (first | replace hL2 := Later.of_drew hL2 | replace hL2 := Later.of_drewN hL2 | replace hL2 := Later.of_alloc hL2)
          go_ret
          exact ⟨ret_int HR.out.symm, Later.trans _ _ _ hL hL2⟩
      · have h2' : b.length ≤ n := by omega
        have HR : Hid (compareL a b = 1) := hid (hq.out.trans (by rw [HD1.out, List.drop_eq_nil_of_le h2']; rfl))
        generalize hx : a[n] = x at *
        clear hx
        go_wp2
        go_ret
        exact ⟨ret_int HR.out.symm, hL.alloc' _⟩
    · have h1' : a.drop n = [] := List.drop_eq_nil_of_le (by omega)
      have HR : Hid (compareL a b = if a.length < b.length then -1 else 0) := hid (hq.out.trans (by
        rw [h1']
        by_cases h2 : n < b.length
        · rw [List.drop_eq_getElem_cons h2, if_pos (by omega)]; rfl
        · rw [List.drop_eq_nil_of_le (by omega : b.length ≤ n), if_neg (by omega)]; rfl))
      have H1 := hid h1'
      clear hea heb h1'
      by_cases h2 : a.length < b.length
      · have HR' := hid (HR.out.trans (if_pos h2)); clear HR
        go_wp2
        go_ret
        exact ⟨ret_int HR'.out.symm, hL⟩
      · have HR' := hid (HR.out.trans (if_neg h2)); clear HR
        go_wp2
        go_ret
        exact ⟨ret_int HR'.out.symm, hL⟩
end Go.Proofs.YtcmpjdnbjhkhdaaDoor
