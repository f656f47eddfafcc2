/-
  PROVED HERE: contracts of the document's Before, ListBefore, RowBefore.
-/
import Derived.Test.YtcmpjdnbjhkhdaaDoorValue
import Derived.Test.YtcmpjdnbjhkhdaaDoorEqV
import Derived.OpenShut
import Derived.ShutString
import Derived.ChangeOld
namespace Go.Proofs.YtcmpjdnbjhkhdaaDoor
set_option linter.unusedSimpArgs false
set_option linter.unusedVariables false
open Go.ChangeShapes Go.WideShapes Go.ChangeAt Go.RowKit

attribute [local go_sem high] run_eql_val' run_neq_val'
theorem before_any (x y : Val) (w : World) :
    Calls Tryd.prog 14 #[x.v, y.v] w fun e w' => e = .returned (.bool (beforeV x y)) ∧ Later w w' := by
  obtain ⟨k1, n1, t1⟩ := x
  obtain ⟨k2, n2, t2⟩ := y
  by_cases hk : k1 = k2
  · by_cases hn : n1 = n2
    · subst hk hn
      have HR : Hid (beforeV ⟨k1, n1, t1⟩ ⟨k1, n1, t2⟩ = Op.bytesLess t1.toList t2.toList) := hid (by simp [beforeV, str])
      go_enter Tryd.func14, Tryd.ntmps14
      go_wp2
      go_ret
      exact ⟨ret_bool HR.out.symm, ((Later.refl _).alloc' _).alloc' _⟩
    · subst hk
      have HR : Hid (beforeV ⟨k1, n1, t1⟩ ⟨k1, n2, t2⟩ = decide (n1 < n2)) := hid (by simp [beforeV, hn])
      have hn' : (n1 != n2) = true := by simpa using hn
      clear hn
      go_enter Tryd.func14, Tryd.ntmps14
      go_wp2
      go_ret
      exact ⟨ret_bool HR.out.symm, ((Later.refl _).alloc' _).alloc' _⟩
  · have HR : Hid (beforeV ⟨k1, n1, t1⟩ ⟨k2, n2, t2⟩ = decide (k1 < k2)) := hid (by simp [beforeV, hk])
    have hn' : (k1 != k2) = true := by simpa using hk
    clear hk
    go_enter Tryd.func14, Tryd.ntmps14
    go_wp2
    go_ret
    exact ⟨ret_bool HR.out.symm, ((Later.refl _).alloc' _).alloc' _⟩

theorem before_list (a b : List Val) (v u : Value) (w : World) (ha : IsVals w v a) (hb : IsVals w u b) :
    Calls Tryd.prog 131 #[v, u] w fun e w' => e = .returned (.bool (beforeL a b)) ∧ Later w w' := by
  obtain ⟨p, c, rfl, hac, hcm, -, hea⟩ := ha
  obtain ⟨q, d, rfl, hbd, hdm, -, heb⟩ := hb
  unfold maxLen at hcm hdm
  go_enter Tryd.func131, Tryd.ntmps131
  go_wp2
  go_loopw [5] (fun i wr => ∃ n : Nat, n ≤ a.length ∧ n ≤ b.length ∧ i = .int .i64 n ∧ Later w wr ∧ Hid (beforeL a b = beforeL (a.drop n) (b.drop n))) (fun i _ => a.length - (intOf i).toNat)
  case atStart => exact ⟨0, by omega, by omega, rfl, Later.refl _, rfl⟩
  case round =>
    obtain ⟨n, hn1, hn2, rfl, hL, hq⟩ := hrel
    by_cases h1 : n < a.length
    · obtain ⟨b1, o1, rfl, -, e1⟩ := hea n h1
      obtain ⟨p1, p2, p3⟩ := e1.later hL
      have HA := hid hea; have HB := hid heb; clear hea heb e1
      have hd1 : a.drop n = a[n] :: a.drop (n + 1) := List.drop_eq_getElem_cons h1
      have HD1 := hid hd1; clear hd1
      by_cases h2 : n < b.length
      · obtain ⟨b2, o2, rfl, -, e2⟩ := HB.out n h2
        obtain ⟨q1, q2, q3⟩ := e2.later hL
        clear e2
        have hd2 : b.drop n = b[n] :: b.drop (n + 1) := List.drop_eq_getElem_cons h2
        have HD2 := hid hd2; clear hd2
        have hl1 : b1 < wr.heap.size := cell_lt p1
        have hl2 : b2 < wr.heap.size := cell_lt q1
        have hnn : (0 : Int) ≤ n := by omega
        generalize hx : a[n] = x at *
        generalize hy : b[n] = y at *
        clear hx hy
        cases hc : eqV x y with
        | true =>
          have HC := hid hc
          go_wp2
          refine wp_region_lex (by kernel_rfl) (by kernel_rfl) Later Later.refl Later.trans (fun _ => none) (fun _ _ _ _ _ h => by cases h) ?_
          simp only [numbered, Nat.reduceAdd]
          iterate 9
            first
            | (refine Lex.skip rfl ?_; simp only [Act.put, List.setIfInBounds_toArray, List.set])
            | (refine Lex.one' rfl rfl ?_
               apply Exists.intro
               refine ⟨fun w hR hF => ?_, ?_⟩
               · have hP := hR
                 repeat (first | replace hP := Later.of_drew hP | replace hP := Later.of_drewN hP | replace hP := Later.of_alloc hP)
                 have hcs := hR.cells
                 have zp1 := hP.cell p1
                 have zp2 := hP.cell p2
                 have zp3 := hP.cell p3
                 have zq1 := hP.cell q1
                 have zq2 := hP.cell q2
                 have zq3 := hP.cell q3
                 clear hR hF hP
                 go_simp
                 first | done | rfl
               simp only [Act.put, List.setIfInBounds_toArray, List.set])
          intro w1 hR1 hF9
          clear hF9
          repeat (first | replace hR1 := Later.of_drew hR1 | replace hR1 := Later.of_drewN hR1 | replace hR1 := Later.of_alloc hR1)
          go_wp2
          go_roundw
          case rel => exact ⟨n + 1, by omega, by omega, by go_num, Later.trans _ _ _ hL hR1, hid (hq.out.trans (by rw [HD1.out, HD2.out]; simp only [beforeL, HC.out, if_true]))⟩
          case measure => simp [intOf]; omega
        | false =>
          have HR : Hid (beforeL a b = beforeV x y) := hid (hq.out.trans (by rw [HD1.out, HD2.out]; simp only [beforeL, hc]; rfl))
          go_wp2
          refine wp_region_lex (by kernel_rfl) (by kernel_rfl) Later Later.refl Later.trans (fun _ => none) (fun _ _ _ _ _ h => by cases h) ?_
          simp only [numbered, Nat.reduceAdd]
          iterate 9
            first
            | (refine Lex.skip rfl ?_; simp only [Act.put, List.setIfInBounds_toArray, List.set])
            | (refine Lex.one' rfl rfl ?_
               apply Exists.intro
               refine ⟨fun w hR hF => ?_, ?_⟩
               · have hP := hR
                 repeat (first | replace hP := Later.of_drew hP | replace hP := Later.of_drewN hP | replace hP := Later.of_alloc hP)
                 have hcs := hR.cells
                 have zp1 := hP.cell p1
                 have zp2 := hP.cell p2
                 have zp3 := hP.cell p3
                 have zq1 := hP.cell q1
                 have zq2 := hP.cell q2
                 have zq3 := hP.cell q3
                 clear hR hF hP
                 go_simp
                 first | done | rfl
               simp only [Act.put, List.setIfInBounds_toArray, List.set])
          intro w1 hR1 hF9
          clear hF9
          repeat (first | replace hR1 := Later.of_drew hR1 | replace hR1 := Later.of_drewN hR1 | replace hR1 := Later.of_alloc hR1)
          replace p1 := hR1.cell p1
          replace p2 := hR1.cell p2
          replace p3 := hR1.cell p3
          replace q1 := hR1.cell q1
          replace q2 := hR1.cell q2
          replace q3 := hR1.cell q3
          replace hl1 : b1 < w1.heap.size := cell_lt p1
          replace hl2 : b2 < w1.heap.size := cell_lt q1
          replace hR1 := hid hR1
          go_wp2
          refine wp_region_lex (by kernel_rfl) (by kernel_rfl) Later Later.refl Later.trans (kinds [(8, fun v _ => v = .bool (beforeV x y))]) (kinds_still (by simp +contextual)) ?_
          simp only [numbered, Nat.reduceAdd]
          iterate 8
            first
            | (refine Lex.skip rfl ?_; simp only [Act.put, List.setIfInBounds_toArray, List.set])
            | (refine Lex.one' rfl rfl ?_
               apply Exists.intro
               refine ⟨fun w hR hF => ?_, ?_⟩
               · have hP := hR
                 repeat (first | replace hP := Later.of_drew hP | replace hP := Later.of_drewN hP | replace hP := Later.of_alloc hP)
                 have hcs := hR.cells
                 have zp1 := hP.cell p1
                 have zp2 := hP.cell p2
                 have zp3 := hP.cell p3
                 have zq1 := hP.cell q1
                 have zq2 := hP.cell q2
                 have zq3 := hP.cell q3
                 clear hR hF hP
                 go_simp
                 first | done | rfl
               simp only [Act.put, List.setIfInBounds_toArray, List.set])
          refine Lex.anyEq rfl rfl (fun w hR hF => ?_) ?_
          · have hP := hR
            repeat (first | replace hP := Later.of_drew hP | replace hP := Later.of_drewN hP | replace hP := Later.of_alloc hP)
            have hcs := hR.cells
            clear hF hR
            unfold Runs
            go_simp
            unfold Yield
            refine (before_any x y _).mono ?_
            rintro e w' ⟨rfl, hL⟩
            exact ⟨_, rfl, hL, rfl⟩
          simp only [Act.put, List.setIfInBounds_toArray, List.set]
          iterate 1
            first
            | (refine Lex.skip rfl ?_; simp only [Act.put, List.setIfInBounds_toArray, List.set])
            | (refine Lex.one' rfl rfl ?_
               apply Exists.intro
               refine ⟨fun w hR hF => ?_, ?_⟩
               · have hP := hR
                 repeat (first | replace hP := Later.of_drew hP | replace hP := Later.of_drewN hP | replace hP := Later.of_alloc hP)
                 have hcs := hR.cells
                 clear hR hF hP
                 go_simp
                 first | done | rfl
               simp only [Act.put, List.setIfInBounds_toArray, List.set])
          intro w2 hR2 hF9
          clear hF9
          repeat (first | replace hR2 := Later.of_drew hR2 | replace hR2 := Later.of_drewN hR2 | replace hR2 := Later.of_alloc hR2)
          go_wp2
          go_ret
          exact ⟨ret_bool HR.out.symm, Later.trans _ _ _ hL (Later.trans _ _ _ hR1.out hR2)⟩
      · have h2' : b.length ≤ n := by omega
        have h3 : b.length ≤ a.length := by omega
        have h4 : ¬ a.length < b.length := by omega
        have HR : Hid (beforeL a b = false) := hid (hq.out.trans (by rw [HD1.out, List.drop_eq_nil_of_le h2']; rfl))
        generalize hx : a[n] = x at *
        clear hx
        go_wp2
        go_ret
        exact ⟨ret_bool HR.out.symm, hL⟩
    · have h1' : a.drop n = [] := List.drop_eq_nil_of_le (by omega)
      have HR : Hid (beforeL a b = decide (a.length < b.length)) := hid (hq.out.trans (by
        rw [h1']
        by_cases h2 : n < b.length
        · rw [List.drop_eq_getElem_cons h2]; simp only [beforeL]; exact (decide_eq_true (by omega)).symm
        · rw [List.drop_eq_nil_of_le (by omega : b.length ≤ n)]; simp only [beforeL]; exact (decide_eq_false (by omega)).symm))
      clear hea heb h1'
      go_wp2
      go_ret
      exact ⟨ret_bool (by rw [HR.out]), hL⟩

theorem before_row (s t : Int) (a b : List Val) (v u : Value) (w : World) (ha : IsVals w v a) (hb : IsVals w u b) :
    Calls Tryd.prog 105 #[.agg #[.int .i64 s, v], .agg #[.int .i64 t, u]] w fun e w' => e = .returned (.bool (beforeR ⟨s, a⟩ ⟨t, b⟩)) ∧ Later w w' := by
  by_cases h : s = t
  · subst h
    have HR : Hid (beforeR ⟨s, a⟩ ⟨s, b⟩ = beforeL a b) := hid (by simp [beforeR])
    go_enter Tryd.func105, Tryd.ntmps105
    go_wp2_with (go_at_call 131; refine (before_list a b _ _ _ (ha.later (((Later.refl _).alloc' _).alloc' _)) (hb.later (((Later.refl _).alloc' _).alloc' _))).mono ?_; rintro e w2 ⟨rfl, hL2⟩)
    repeat (first | replace hL2 := Later.of_drew hL2 | replace hL2 := Later.of_drewN hL2 | replace hL2 := Later.of_alloc hL2)
    go_ret
    exact ⟨ret_bool HR.out.symm, hL2⟩
  · have HR : Hid (beforeR ⟨s, a⟩ ⟨t, b⟩ = decide (s < t)) := hid (by simp [beforeR, h])
    have h' : (s != t) = true := by simpa using h
    clear h
    go_enter Tryd.func105, Tryd.ntmps105
    go_wp2
    go_ret
    exact ⟨ret_bool HR.out.symm, ((Later.refl _).alloc' _).alloc' _⟩
end Go.Proofs.YtcmpjdnbjhkhdaaDoor
