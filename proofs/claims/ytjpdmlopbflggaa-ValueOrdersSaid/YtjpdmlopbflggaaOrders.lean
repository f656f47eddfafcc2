/-
  PROVED HERE: streamwrightlaw1.ValueOrders returns true, for every two lists of values and every two times. No conditions.
-/
import Derived.Test.YtjpdmlopbflggaaValue
import Derived.OpenShut
import Derived.ShutString
import Derived.ChangeOld
namespace Go.Proofs.Ytjpdmlopbflggaa
open Go.ChangeShapes Go.WideShapes Go.ChangeAt Go.RowKit

theorem run_eql_val (w : World) (x y : Val) : (binOp .eql 45 x.v y.v).run Try.prog w = .ok (.bool (eqV x y)) w := by
  obtain ⟨k, n, t⟩ := x
  obtain ⟨k', n', t'⟩ := y
  unfold eqV valEq str
  go_simp
  by_cases h1 : k = k' <;> by_cases h2 : n = n' <;> by_cases h3 : t.toList = t'.toList <;> simp [h1, h2, h3]
theorem run_neq_val (w : World) (x y : Val) : (binOp .neq 45 x.v y.v).run Try.prog w = .ok (.bool (!eqV x y)) w := by
  obtain ⟨k, n, t⟩ := x
  obtain ⟨k', n', t'⟩ := y
  unfold eqV valEq str
  go_simp
  by_cases h1 : k = k' <;> by_cases h2 : n = n' <;> by_cases h3 : t.toList = t'.toList <;> simp [h1, h2, h3]
theorem run_eql_val' (w : World) (k n k' n' : Int) (t t' : ByteArray) : (binOp .eql 45 (.agg #[.int .i64 k, .int .i64 n, .string t]) (.agg #[.int .i64 k', .int .i64 n', .string t'])).run Try.prog w = .ok (.bool (eqV ⟨k, n, t⟩ ⟨k', n', t'⟩)) w := run_eql_val w ⟨k, n, t⟩ ⟨k', n', t'⟩
theorem run_neq_val' (w : World) (k n k' n' : Int) (t t' : ByteArray) : (binOp .neq 45 (.agg #[.int .i64 k, .int .i64 n, .string t]) (.agg #[.int .i64 k', .int .i64 n', .string t'])).run Try.prog w = .ok (.bool (!eqV ⟨k, n, t⟩ ⟨k', n', t'⟩)) w := run_neq_val w ⟨k, n, t⟩ ⟨k', n', t'⟩
attribute [local go_sem high] run_eql_val' run_neq_val'

theorem before_any (x y : Val) (w : World) :
    Calls Try.prog 20 #[x.v, y.v] w fun e w' => e = .returned (.bool (beforeV x y)) ∧ Later w w' := by
  obtain ⟨k1, n1, t1⟩ := x
  obtain ⟨k2, n2, t2⟩ := y
  by_cases hk : k1 = k2
  · by_cases hn : n1 = n2
    · subst hk hn
      have HR : Hid (beforeV ⟨k1, n1, t1⟩ ⟨k1, n1, t2⟩ = Op.bytesLess t1.toList t2.toList) := hid (by simp [beforeV, str])
      go_enter Try.func20, Try.ntmps20
      go_wp2
      go_ret
      exact ⟨ret_bool HR.out.symm, ((Later.refl _).alloc' _).alloc' _⟩
    · subst hk
      have HR : Hid (beforeV ⟨k1, n1, t1⟩ ⟨k1, n2, t2⟩ = decide (n1 < n2)) := hid (by simp [beforeV, hn])
      have hn' : (n1 != n2) = true := by simpa using hn
      clear hn
      go_enter Try.func20, Try.ntmps20
      go_wp2
      go_ret
      exact ⟨ret_bool HR.out.symm, ((Later.refl _).alloc' _).alloc' _⟩
  · have HR : Hid (beforeV ⟨k1, n1, t1⟩ ⟨k2, n2, t2⟩ = decide (k1 < k2)) := hid (by simp [beforeV, hk])
    have hn' : (k1 != k2) = true := by simpa using hk
    clear hk
    go_enter Try.func20, Try.ntmps20
    go_wp2
    go_ret
    exact ⟨ret_bool HR.out.symm, ((Later.refl _).alloc' _).alloc' _⟩

theorem sign_any (l s : Bool) (w : World) : Calls Try.prog 21 #[.bool l, .bool s] w fun e w' => e = .returned (.int .i64 (signI l s)) ∧ w = w' := by
  cases l <;> cases s
  all_goals
    go_enter Try.func21, Try.ntmps21
    go_wp2
    go_ret
    exact ⟨rfl, rfl⟩

theorem compare_rows (s t : Int) (a b : List Val) (v u : Value) (w : World) (ha : IsVals w v a) (hb : IsVals w u b) :
    Calls Try.prog 22 #[.agg #[.int .i64 s, v], .agg #[.int .i64 t, u]] w fun e w' => e = .returned (.int .i64 (compareR ⟨s, a⟩ ⟨t, b⟩)) ∧ Later w w' := by
  unfold compareR
  go_enter Try.func22, Try.ntmps22
  go_wp2
  refine wp_region_lex (by kernel_rfl) (by kernel_rfl) Later Later.refl Later.trans (kinds [(4, fun v _ => v = .int .i64 (cmpI s t)), (9, fun v _ => v = .int .i64 (compareL a b)), (10, fun v w => ∃ b', v = .slice (some ⟨b', 0, none⟩) 2 2 ∧ w.heap[b']? = some (.cells #[.int .i64 (cmpI s t), .int .i64 (compareL a b)] 3 (0, 0))), (11, fun v _ => v = .int .i64 (orL [cmpI s t, compareL a b]))]) (kinds_still (by simp only [List.mem_cons, List.not_mem_nil, or_false, forall_eq_or_imp, forall_eq]; exact ⟨fun _ _ _ _ h => h, fun _ _ _ _ h => h, fun _ _ _ hR ⟨b, h, h'⟩ => ⟨b, h, hR.obj h'⟩, fun _ _ _ _ h => h⟩)) ?_
  simp only [numbered, Nat.reduceAdd]
  iterate 4
    first
    | (refine Lex.skip rfl ?_; simp only [Act.put, List.setIfInBounds_toArray, List.set])
    | (refine Lex.one' rfl rfl ?_
       apply Exists.intro
       refine ⟨fun w hR hF => ?_, ?_⟩
       · have hP := hR
         repeat (first | replace hP := Later.of_drew hP | replace hP := Later.of_drewN hP | replace hP := Later.of_alloc hP)
         have hcs := hR.cells
         clear hR hF hP
         go_simp
         first | done | rfl
       simp only [Act.put, List.setIfInBounds_toArray, List.set])
  refine Lex.anyEq rfl rfl (fun w hR hF => ?_) ?_
  · have hP := hR
    repeat (first | replace hP := Later.of_drew hP | replace hP := Later.of_drewN hP | replace hP := Later.of_alloc hP)
    have hcs := hR.cells
    clear hF hR
    unfold Runs
    go_simp
    unfold Yield
    refine (cmpN s t _).mono ?_
    rintro e w' ⟨rfl, rfl⟩
    exact ⟨_, rfl, Later.refl _, rfl⟩
  simp only [Act.put, List.setIfInBounds_toArray, List.set]
  iterate 4
    first
    | (refine Lex.skip rfl ?_; simp only [Act.put, List.setIfInBounds_toArray, List.set])
    | (refine Lex.one' rfl rfl ?_
       apply Exists.intro
       refine ⟨fun w hR hF => ?_, ?_⟩
       · have hP := hR
         repeat (first | replace hP := Later.of_drew hP | replace hP := Later.of_drewN hP | replace hP := Later.of_alloc hP)
         have hcs := hR.cells
         clear hR hF hP
         go_simp
         first | done | rfl
       simp only [Act.put, List.setIfInBounds_toArray, List.set])
  refine Lex.anyEq rfl rfl (fun w hR hF => ?_) ?_
  · have hP := hR
    repeat (first | replace hP := Later.of_drew hP | replace hP := Later.of_drewN hP | replace hP := Later.of_alloc hP)
    have hcs := hR.cells
    clear hF hR
    unfold Runs
    go_simp
    unfold Yield
    refine (compare_list a b _ _ _ (ha.later hP) (hb.later hP)).mono ?_
    rintro e w' ⟨rfl, hL⟩
    exact ⟨_, rfl, hL, rfl⟩
  simp only [Act.put, List.setIfInBounds_toArray, List.set]
  refine Lex.any rfl rfl (fun w hR hF => ?_) ?_
  · clear hF hR
    unfold Runs
    go_simp
    exact yield_value (Later.alloc _ _) ⟨_, rfl, obj_new _ _⟩
  rintro v15 ⟨w2, hR2, hF2⟩
  obtain ⟨b', rfl, -⟩ := hF2 _ List.mem_cons_self _ rfl
  clear hF2 hR2 w2
  simp only [Act.put, List.setIfInBounds_toArray, List.set]
  refine Lex.anyEq rfl rfl (fun w hR hF => ?_) ?_
  · obtain ⟨b', hb, h15⟩ := hF _ List.mem_cons_self (by kernel_rfl) _ rfl
    simp only [Value.slice.injEq, Option.some.injEq, Addr.mk.injEq] at hb
    obtain ⟨⟨rfl, -, -⟩, -, -⟩ := hb
    clear hF hR
    unfold Runs
    go_simp
    refine yield_enter ?_
    refine (or_any b' [cmpI s t, compareL a b] 2 w (by simp) ?_).mono ?_
    · intro i hi
      exact cell_obj h15 (by simp only [List.getElem?_toArray, List.length_cons, List.length_nil] at hi ⊢; match i, hi with | 0, _ => rfl | 1, _ => rfl)
    · rintro e w' ⟨rfl, rfl⟩
      exact ⟨_, rfl, Later.refl _, rfl⟩
  simp only [Act.put, List.setIfInBounds_toArray, List.set]
  iterate 1
    first
    | (refine Lex.skip rfl ?_; simp only [Act.put, List.setIfInBounds_toArray, List.set])
    | (refine Lex.one' rfl rfl ?_
       apply Exists.intro
       refine ⟨fun w hR hF => ?_, ?_⟩
       · have hP := hR
         repeat (first | replace hP := Later.of_drew hP | replace hP := Later.of_drewN hP | replace hP := Later.of_alloc hP)
         have hcs := hR.cells
         clear hR hF hP
         go_simp
         first | done | rfl
       simp only [Act.put, List.setIfInBounds_toArray, List.set])
  intro w1 hR1 hF9
  clear hF9
  go_wp2
  go_ret
  repeat (first | replace hR1 := Later.of_drew hR1 | replace hR1 := Later.of_drewN hR1 | replace hR1 := Later.of_alloc hR1)
  exact ⟨rfl, hR1⟩

theorem before_list (a b : List Val) (v u : Value) (w : World) (ha : IsVals w v a) (hb : IsVals w u b) :
    Calls Try.prog 38 #[v, u] w fun e w' => e = .returned (.bool (beforeL a b)) ∧ Later w w' := by
  obtain ⟨p, c, rfl, hac, hcm, hea⟩ := ha
  obtain ⟨q, d, rfl, hbd, hdm, heb⟩ := hb
  unfold maxLen at hcm hdm
  go_enter Try.func38, Try.ntmps38
  go_wp2
  go_loopw [5] (fun i wr => ∃ n : Nat, n ≤ a.length ∧ n ≤ b.length ∧ i = .int .i64 n ∧ Later w wr ∧ Hid (beforeL a b = beforeL (a.drop n) (b.drop n))) (fun i _ => a.length - (intOf i).toNat)
  case atStart => exact ⟨0, by omega, by omega, rfl, Later.refl _, rfl⟩
  case round =>
    obtain ⟨n, hn1, hn2, rfl, hL, hq⟩ := hrel
    by_cases h1 : n < a.length
    · obtain ⟨b1, o1, rfl, e1⟩ := hea n h1
      obtain ⟨p1, p2, p3⟩ := e1.later hL
      have HA := hid hea; have HB := hid heb; clear hea heb e1
      have hd1 : a.drop n = a[n] :: a.drop (n + 1) := List.drop_eq_getElem_cons h1
      have HD1 := hid hd1; clear hd1
      by_cases h2 : n < b.length
      · obtain ⟨b2, o2, rfl, e2⟩ := HB.out n h2
        obtain ⟨q1, q2, q3⟩ := e2.later hL
        clear e2
        have hd2 : b.drop n = b[n] :: b.drop (n + 1) := List.drop_eq_getElem_cons h2
        have HD2 := hid hd2; clear hd2
        have hl1 : b1 < wr.heap.size := cell_lt p1
        have hl2 : b2 < wr.heap.size := cell_lt q1
        have hnn : (0 : Int) ≤ n := by omega
        generalize hx : a[n] = x at *
        generalize hy : b[n] = y at *
        clear hx hy
        cases hc : eqV x y with
        | true =>
          have HC := hid hc
          go_wp2
          refine wp_region_lex (by kernel_rfl) (by kernel_rfl) Later Later.refl Later.trans (fun _ => none) (fun _ _ _ _ _ h => by cases h) ?_
          simp only [numbered, Nat.reduceAdd]
          iterate 9
            first
            | (refine Lex.skip rfl ?_; simp only [Act.put, List.setIfInBounds_toArray, List.set])
            | (refine Lex.one' rfl rfl ?_
               apply Exists.intro
               refine ⟨fun w hR hF => ?_, ?_⟩
               · have hP := hR
                 repeat (first | replace hP := Later.of_drew hP | replace hP := Later.of_drewN hP | replace hP := Later.of_alloc hP)
                 have hcs := hR.cells
                 have zp1 := hP.cell p1
                 have zp2 := hP.cell p2
                 have zp3 := hP.cell p3
                 have zq1 := hP.cell q1
                 have zq2 := hP.cell q2
                 have zq3 := hP.cell q3
                 clear hR hF hP
                 go_simp
                 first | done | rfl
               simp only [Act.put, List.setIfInBounds_toArray, List.set])
          intro w1 hR1 hF9
          clear hF9
          repeat (first | replace hR1 := Later.of_drew hR1 | replace hR1 := Later.of_drewN hR1 | replace hR1 := Later.of_alloc hR1)
          go_wp2
          go_roundw
          case rel => exact ⟨n + 1, by omega, by omega, by go_num, Later.trans _ _ _ hL hR1, hid (hq.out.trans (by rw [HD1.out, HD2.out]; simp only [beforeL, HC.out, if_true]))⟩
          case measure => simp [intOf]; omega
        | false =>
          have HR : Hid (beforeL a b = beforeV x y) := hid (hq.out.trans (by rw [HD1.out, HD2.out]; simp only [beforeL, hc]; rfl))
          go_wp2
          refine wp_region_lex (by kernel_rfl) (by kernel_rfl) Later Later.refl Later.trans (fun _ => none) (fun _ _ _ _ _ h => by cases h) ?_
          simp only [numbered, Nat.reduceAdd]
          iterate 9
            first
            | (refine Lex.skip rfl ?_; simp only [Act.put, List.setIfInBounds_toArray, List.set])
            | (refine Lex.one' rfl rfl ?_
               apply Exists.intro
               refine ⟨fun w hR hF => ?_, ?_⟩
               · have hP := hR
                 repeat (first | replace hP := Later.of_drew hP | replace hP := Later.of_drewN hP | replace hP := Later.of_alloc hP)
                 have hcs := hR.cells
                 have zp1 := hP.cell p1
                 have zp2 := hP.cell p2
                 have zp3 := hP.cell p3
                 have zq1 := hP.cell q1
                 have zq2 := hP.cell q2
                 have zq3 := hP.cell q3
                 clear hR hF hP
                 go_simp
                 first | done | rfl
               simp only [Act.put, List.setIfInBounds_toArray, List.set])
          intro w1 hR1 hF9
          clear hF9
          repeat (first | replace hR1 := Later.of_drew hR1 | replace hR1 := Later.of_drewN hR1 | replace hR1 := Later.of_alloc hR1)
          replace p1 := hR1.cell p1
          replace p2 := hR1.cell p2
          replace p3 := hR1.cell p3
          replace q1 := hR1.cell q1
          replace q2 := hR1.cell q2
          replace q3 := hR1.cell q3
          replace hl1 : b1 < w1.heap.size := cell_lt p1
          replace hl2 : b2 < w1.heap.size := cell_lt q1
          replace hR1 := hid hR1
          go_wp2
          refine wp_region_lex (by kernel_rfl) (by kernel_rfl) Later Later.refl Later.trans (kinds [(8, fun v _ => v = .bool (beforeV x y))]) (kinds_still (by simp +contextual)) ?_
          simp only [numbered, Nat.reduceAdd]
          iterate 8
            first
            | (refine Lex.skip rfl ?_; simp only [Act.put, List.setIfInBounds_toArray, List.set])
            | (refine Lex.one' rfl rfl ?_
               apply Exists.intro
               refine ⟨fun w hR hF => ?_, ?_⟩
               · have hP := hR
                 repeat (first | replace hP := Later.of_drew hP | replace hP := Later.of_drewN hP | replace hP := Later.of_alloc hP)
                 have hcs := hR.cells
                 have zp1 := hP.cell p1
                 have zp2 := hP.cell p2
                 have zp3 := hP.cell p3
                 have zq1 := hP.cell q1
                 have zq2 := hP.cell q2
                 have zq3 := hP.cell q3
                 clear hR hF hP
                 go_simp
                 first | done | rfl
               simp only [Act.put, List.setIfInBounds_toArray, List.set])
          refine Lex.anyEq rfl rfl (fun w hR hF => ?_) ?_
          · have hP := hR
            repeat (first | replace hP := Later.of_drew hP | replace hP := Later.of_drewN hP | replace hP := Later.of_alloc hP)
            have hcs := hR.cells
            clear hF hR
            unfold Runs
            go_simp
            unfold Yield
            refine (before_any x y _).mono ?_
            rintro e w' ⟨rfl, hL⟩
            exact ⟨_, rfl, hL, rfl⟩
          simp only [Act.put, List.setIfInBounds_toArray, List.set]
          iterate 1
            first
            | (refine Lex.skip rfl ?_; simp only [Act.put, List.setIfInBounds_toArray, List.set])
            | (refine Lex.one' rfl rfl ?_
               apply Exists.intro
               refine ⟨fun w hR hF => ?_, ?_⟩
               · have hP := hR
                 repeat (first | replace hP := Later.of_drew hP | replace hP := Later.of_drewN hP | replace hP := Later.of_alloc hP)
                 have hcs := hR.cells
                 clear hR hF hP
                 go_simp
                 first | done | rfl
               simp only [Act.put, List.setIfInBounds_toArray, List.set])
          intro w2 hR2 hF9
          clear hF9
          repeat (first | replace hR2 := Later.of_drew hR2 | replace hR2 := Later.of_drewN hR2 | replace hR2 := Later.of_alloc hR2)
          go_wp2
          go_ret
          exact ⟨ret_bool HR.out.symm, Later.trans _ _ _ hL (Later.trans _ _ _ hR1.out hR2)⟩
      · have h2' : b.length ≤ n := by omega
        have h3 : b.length ≤ a.length := by omega
        have h4 : ¬ a.length < b.length := by omega
        have HR : Hid (beforeL a b = false) := hid (hq.out.trans (by rw [HD1.out, List.drop_eq_nil_of_le h2']; rfl))
        generalize hx : a[n] = x at *
        clear hx
        go_wp2
        go_ret
        exact ⟨ret_bool HR.out.symm, hL⟩
    · have h1' : a.drop n = [] := List.drop_eq_nil_of_le (by omega)
      have HR : Hid (beforeL a b = decide (a.length < b.length)) := hid (hq.out.trans (by
        rw [h1']
        by_cases h2 : n < b.length
        · rw [List.drop_eq_getElem_cons h2]; simp only [beforeL]; exact (decide_eq_true (by omega)).symm
        · rw [List.drop_eq_nil_of_le (by omega : b.length ≤ n)]; simp only [beforeL]; exact (decide_eq_false (by omega)).symm))
      clear hea heb h1'
      go_wp2
      go_ret
      exact ⟨ret_bool (by rw [HR.out]), hL⟩

theorem before_row (s t : Int) (a b : List Val) (v u : Value) (w : World) (ha : IsVals w v a) (hb : IsVals w u b) :
    Calls Try.prog 23 #[.agg #[.int .i64 s, v], .agg #[.int .i64 t, u]] w fun e w' => e = .returned (.bool (beforeR ⟨s, a⟩ ⟨t, b⟩)) ∧ Later w w' := by
  by_cases h : s = t
  · subst h
    have HR : Hid (beforeR ⟨s, a⟩ ⟨s, b⟩ = beforeL a b) := hid (by simp [beforeR])
    go_enter Try.func23, Try.ntmps23
    go_wp2_with (go_at_call 38; refine (before_list a b _ _ _ (ha.later (((Later.refl _).alloc' _).alloc' _)) (hb.later (((Later.refl _).alloc' _).alloc' _))).mono ?_; rintro e w2 ⟨rfl, hL2⟩)
    repeat (first | replace hL2 := Later.of_drew hL2 | replace hL2 := Later.of_drewN hL2 | replace hL2 := Later.of_alloc hL2)
    go_ret
    exact ⟨ret_bool HR.out.symm, hL2⟩
  · have HR : Hid (beforeR ⟨s, a⟩ ⟨t, b⟩ = decide (s < t)) := hid (by simp [beforeR, h])
    have h' : (s != t) = true := by simpa using h
    clear h
    go_enter Try.func23, Try.ntmps23
    go_wp2
    go_ret
    exact ⟨ret_bool HR.out.symm, ((Later.refl _).alloc' _).alloc' _⟩

theorem walk (a b : List Val) (s t : Int) (v u : Value) (w : World) (ha : IsVals w v a) (hb : IsVals w u b) :
    Calls Try.prog 6 #[v, u, .int .i64 s, .int .i64 t] w fun e w' => e = .returned (.bool true) ∧ Later w w' := by
  have HA := hid ha; have HB := hid hb
  obtain ⟨p, c, rfl, hac, hcm, hea⟩ := ha
  obtain ⟨q, d, rfl, hbd, hdm, heb⟩ := hb
  unfold maxLen at hcm hdm
  have HEA := hid hea; have HEB := hid heb; clear hea heb
  go_enter Try.func6, Try.ntmps6
  go_wp2
  go_loopw [9] (fun i wr => ∃ n : Nat, n ≤ a.length ∧ n ≤ b.length ∧ i = .int .i64 n ∧ Later w wr) (fun i _ => a.length - (intOf i).toNat)
  case atStart => exact ⟨0, by omega, by omega, rfl, Later.refl _⟩
  case round =>
    obtain ⟨n, hn1, hn2, rfl, hL⟩ := hrel
    rcases (by omega : (n < a.length ∧ n < b.length) ∨ (n < a.length ∧ ¬ n < b.length) ∨ ¬ n < a.length) with ⟨h1, h2⟩ | ⟨h1, h2⟩ | h1
    · · obtain ⟨b1, o1, rfl, e1⟩ := HEA.out n h1
        obtain ⟨p1, p2, p3⟩ := e1.later hL
        obtain ⟨b2, o2, rfl, e2⟩ := HEB.out n h2
        obtain ⟨q1, q2, q3⟩ := e2.later hL
        clear e1 e2
        have hnn : (0 : Int) ≤ n := by omega
        generalize hx : a[n] = x at *
        generalize hy : b[n] = y at *
        clear hx hy
        have HC := hid (compareV_eq x y)
        go_wp2
        refine wp_region_lex (by kernel_rfl) (by kernel_rfl) Later Later.refl Later.trans (kinds [(8, fun v _ => v = .int .i64 (compareV x y))]) (kinds_still (by simp +contextual)) ?_
        simp only [numbered, Nat.reduceAdd]
        iterate 8
          first
          | (refine Lex.skip rfl ?_; simp only [Act.put, List.setIfInBounds_toArray, List.set])
          | (refine Lex.one' rfl rfl ?_
             apply Exists.intro
             refine ⟨fun w hR hF => ?_, ?_⟩
             · have hP := hR
               repeat (first | replace hP := Later.of_drew hP | replace hP := Later.of_drewN hP | replace hP := Later.of_alloc hP)
               have hcs := hR.cells
               have zp1 := hP.cell p1
               have zp2 := hP.cell p2
               have zp3 := hP.cell p3
               have zq1 := hP.cell q1
               have zq2 := hP.cell q2
               have zq3 := hP.cell q3
               clear hR hF hP
               go_simp
               first | done | rfl
             simp only [Act.put, List.setIfInBounds_toArray, List.set])
        refine Lex.anyEq rfl rfl (fun w hR hF => ?_) ?_
        · have hP := hR
          repeat (first | replace hP := Later.of_drew hP | replace hP := Later.of_drewN hP | replace hP := Later.of_alloc hP)
          have hcs := hR.cells
          clear hF hR
          unfold Runs
          go_simp
          unfold Yield
          refine (compare_any x y _).mono ?_
          rintro e w' ⟨rfl, hM⟩
          exact ⟨_, rfl, hM, rfl⟩
        simp only [Act.put, List.setIfInBounds_toArray, List.set]
        iterate 1
          first
          | (refine Lex.skip rfl ?_; simp only [Act.put, List.setIfInBounds_toArray, List.set])
          | (refine Lex.one' rfl rfl ?_
             apply Exists.intro
             refine ⟨fun w hR hF => ?_, ?_⟩
             · have hP := hR
               repeat (first | replace hP := Later.of_drew hP | replace hP := Later.of_drewN hP | replace hP := Later.of_alloc hP)
               have hcs := hR.cells
               clear hR hF hP
               go_simp
               first | done | rfl
             simp only [Act.put, List.setIfInBounds_toArray, List.set])
        intro w1 hR1 hF9
        clear hF9
        repeat (first | replace hR1 := Later.of_drew hR1 | replace hR1 := Later.of_drewN hR1 | replace hR1 := Later.of_alloc hR1)
        replace hL := Later.trans _ _ _ hL hR1
        replace p1 := hR1.cell p1
        replace p2 := hR1.cell p2
        replace p3 := hR1.cell p3
        replace q1 := hR1.cell q1
        replace q2 := hR1.cell q2
        replace q3 := hR1.cell q3
        clear hR1
        go_wp2
        refine wp_region_lex (by kernel_rfl) (by kernel_rfl) Later Later.refl Later.trans (kinds [(8, fun v _ => v = .bool (beforeV x y))]) (kinds_still (by simp +contextual)) ?_
        simp only [numbered, Nat.reduceAdd]
        iterate 8
          first
          | (refine Lex.skip rfl ?_; simp only [Act.put, List.setIfInBounds_toArray, List.set])
          | (refine Lex.one' rfl rfl ?_
             apply Exists.intro
             refine ⟨fun w hR hF => ?_, ?_⟩
             · have hP := hR
               repeat (first | replace hP := Later.of_drew hP | replace hP := Later.of_drewN hP | replace hP := Later.of_alloc hP)
               have hcs := hR.cells
               have zp1 := hP.cell p1
               have zp2 := hP.cell p2
               have zp3 := hP.cell p3
               have zq1 := hP.cell q1
               have zq2 := hP.cell q2
               have zq3 := hP.cell q3
               clear hR hF hP
               go_simp
               first | done | rfl
             simp only [Act.put, List.setIfInBounds_toArray, List.set])
        refine Lex.anyEq rfl rfl (fun w hR hF => ?_) ?_
        · have hP := hR
          repeat (first | replace hP := Later.of_drew hP | replace hP := Later.of_drewN hP | replace hP := Later.of_alloc hP)
          have hcs := hR.cells
          clear hF hR
          unfold Runs
          go_simp
          unfold Yield
          refine (before_any x y _).mono ?_
          rintro e w' ⟨rfl, hM⟩
          exact ⟨_, rfl, hM, rfl⟩
        simp only [Act.put, List.setIfInBounds_toArray, List.set]
        iterate 1
          first
          | (refine Lex.skip rfl ?_; simp only [Act.put, List.setIfInBounds_toArray, List.set])
          | (refine Lex.one' rfl rfl ?_
             apply Exists.intro
             refine ⟨fun w hR hF => ?_, ?_⟩
             · have hP := hR
               repeat (first | replace hP := Later.of_drew hP | replace hP := Later.of_drewN hP | replace hP := Later.of_alloc hP)
               have hcs := hR.cells
               clear hR hF hP
               go_simp
               first | done | rfl
             simp only [Act.put, List.setIfInBounds_toArray, List.set])
        intro w2 hR1 hF9
        clear hF9
        repeat (first | replace hR1 := Later.of_drew hR1 | replace hR1 := Later.of_drewN hR1 | replace hR1 := Later.of_alloc hR1)
        replace hL := Later.trans _ _ _ hL hR1
        replace p1 := hR1.cell p1
        replace p2 := hR1.cell p2
        replace p3 := hR1.cell p3
        replace q1 := hR1.cell q1
        replace q2 := hR1.cell q2
        replace q3 := hR1.cell q3
        clear hR1
        go_wp2
        refine wp_region_lex (by kernel_rfl) (by kernel_rfl) Later Later.refl Later.trans (kinds [(10, fun v _ => v = .int .i64 (signI (beforeV x y) (eqV x y)))]) (kinds_still (by simp +contextual)) ?_
        simp only [numbered, Nat.reduceAdd]
        iterate 10
          first
          | (refine Lex.skip rfl ?_; simp only [Act.put, List.setIfInBounds_toArray, List.set])
          | (refine Lex.one' rfl rfl ?_
             apply Exists.intro
             refine ⟨fun w hR hF => ?_, ?_⟩
             · have hP := hR
               repeat (first | replace hP := Later.of_drew hP | replace hP := Later.of_drewN hP | replace hP := Later.of_alloc hP)
               have hcs := hR.cells
               have zp1 := hP.cell p1
               have zp2 := hP.cell p2
               have zp3 := hP.cell p3
               have zq1 := hP.cell q1
               have zq2 := hP.cell q2
               have zq3 := hP.cell q3
               clear hR hF hP
               go_simp
               first | done | rfl
             simp only [Act.put, List.setIfInBounds_toArray, List.set])
        refine Lex.anyEq rfl rfl (fun w hR hF => ?_) ?_
        · have hP := hR
          repeat (first | replace hP := Later.of_drew hP | replace hP := Later.of_drewN hP | replace hP := Later.of_alloc hP)
          have hcs := hR.cells
          clear hF hR
          unfold Runs
          go_simp
          unfold Yield
          refine (sign_any (beforeV x y) (eqV x y) _).mono ?_
          rintro e w' ⟨rfl, rfl⟩
          exact ⟨_, rfl, Later.refl _, rfl⟩
        simp only [Act.put, List.setIfInBounds_toArray, List.set]
        rw [← HC.out]
        iterate 1
          first
          | (refine Lex.skip rfl ?_; simp only [Act.put, List.setIfInBounds_toArray, List.set])
          | (refine Lex.one' rfl rfl ?_
             apply Exists.intro
             refine ⟨fun w hR hF => ?_, ?_⟩
             · have hP := hR
               repeat (first | replace hP := Later.of_drew hP | replace hP := Later.of_drewN hP | replace hP := Later.of_alloc hP)
               have hcs := hR.cells
               clear hR hF hP
               go_simp
               first | done | rfl
             simp only [Act.put, List.setIfInBounds_toArray, List.set])
        intro w3 hR1 hF9
        clear hF9
        repeat (first | replace hR1 := Later.of_drew hR1 | replace hR1 := Later.of_drewN hR1 | replace hR1 := Later.of_alloc hR1)
        replace hL := Later.trans _ _ _ hL hR1
        clear p1 p2 p3 q1 q2 q3 hR1
        go_wp2
        go_roundw
        case rel => exact ⟨n + 1, by omega, by omega, by go_num, hL⟩
        case measure => simp [intOf]; omega
    all_goals
      have HE := hid (compareR_eq ⟨s, a⟩ ⟨t, b⟩)
      go_wp2_with fail
      refine (compare_rows s t a b _ _ _ (HA.out.later ((hL.alloc' _).alloc' _)) (HB.out.later ((hL.alloc' _).alloc' _))).mono ?_
      rintro e w1 ⟨rfl, hL1⟩
      have c1 := hL1.cells
      go_wp2_with fail
      refine (before_row s t a b _ _ _ (HA.out.later (Later.trans _ _ _ ((hL.alloc' _).alloc' _) hL1)) (HB.out.later (Later.trans _ _ _ ((hL.alloc' _).alloc' _) hL1))).mono ?_
      rintro e w2 ⟨rfl, hL2⟩
      have hL12 := Later.trans _ _ _ hL1 hL2
      clear c1 hL2
      have c2 := hL12.cells
      go_wp2_with fail
      refine (before_row t s b a _ _ _ (HB.out.later (Later.trans _ _ _ ((hL.alloc' _).alloc' _) hL12)) (HA.out.later (Later.trans _ _ _ ((hL.alloc' _).alloc' _) hL12))).mono ?_
      rintro e w3 ⟨rfl, hL3⟩
      have hL13 := Later.trans _ _ _ hL12 hL3
      clear c2 hL3
      generalize beforeR ⟨s, a⟩ ⟨t, b⟩ = l at *
      generalize beforeR ⟨t, b⟩ ⟨s, a⟩ = m at *
      repeat (first | replace hL13 := Later.of_drew hL13 | replace hL13 := Later.of_drewN hL13 | replace hL13 := Later.of_alloc hL13)
      cases l <;> cases m
      all_goals
        have HE' := HE.out
        clear HE
        simp only [signI, Bool.not_true, Bool.not_false, Bool.true_and, Bool.and_true, Bool.false_and, if_true, Bool.false_eq_true, if_false] at HE'
        have HE := hid HE'
        clear HE'
        go_wp2_with (go_at_call 21; refine (sign_any _ _ _).mono ?_; rintro e w4 ⟨rfl, rfl⟩)
        go_ret
        exact ⟨ret_bool (by rw [HE.out]; rfl), Later.trans _ _ _ hL hL13⟩

theorem ownValueOrders : ownKnob Try.prog.godebug = none := by kernel_rfl
theorem laidOutValueOrders : laidOutB Try.prog = true := by kernel_rfl
set_option linter.unusedVariables false in
set_option maxRecDepth 100000 in
theorem liftedValueOrders (os : Os) (started : os.Started) (H : Type) (enc : TypeId × Value → H) :
    ReturnsInHanded {} Try.checked os 6 .any (Rows.valueOrdersSpec.pre6 enc Try.prog Try.f6 Rows.valueOrdersRow.domain false) (Rows.valueOrdersSpec.post enc Try.prog Try.f6 false true false false) := by
  refine returnsInHanded_of_change (C := Try.checked) ownValueOrders started (by kernel_rfl) Try.func6
    (ChangeSpec.witness6 (enc := enc) (C := Try.checked) false ⟨#[], #[.slice none 0 0, .slice none 0 0, .int .i64 0, .int .i64 0], []⟩ 8 (by kernel_rfl) (by kernel_rfl) (by kernel_rfl) (by kernel_rfl)) ?_
  intro W base args ds gs before hval0 hW hcnd _
  have hval : ∀ (j : Nat) t v, Try.f6.params[j]? = some t → args[j]? = some v → Value.okWide Try.prog W .any base t v := hval0
  have hW' := hW
  obtain ⟨p, q, hA0, hV, rfl, hfz, hnd⟩ := hW
  have hA : DataW.TrodAll enc Try.prog W 0 (fun _ => true) true Try.f6.params.toList args.toList ds p := hA0
  rw [Try.params6] at hA hval
  obtain ⟨v0, vs0, d0, ds0, p0, q0, hargs, rfl, rfl, h0, r0⟩ := trodAll_cons hA
  obtain ⟨v1, vs1, d1, ds1, p1, q1, rfl, rfl, rfl, h1, r1⟩ := trodAll_cons r0
  obtain ⟨v2, vs2, d2, ds2, p2, q2, rfl, rfl, rfl, h2, r2⟩ := trodAll_cons r1
  obtain ⟨v3, vs3, d3, ds3, p3, q3, rfl, rfl, rfl, h3, r3⟩ := trodAll_cons r2
  obtain ⟨rfl, rfl, rfl⟩ := trodAll_nil r3
  obtain rfl : args = #[v0, v1, v2, v3] := by cases args; simp_all
  obtain ⟨rfl, rfl⟩ := trodVars_none hV
  have k0 := h0
  have lt0 : ∀ x ∈ p0, x.block < W.heap.size := by obtain ⟨m, hm⟩ := k0; exact DataW.trod_lt m _ _ _ hm
  obtain ⟨s0, len0, cap0, rfl⟩ := okWide_slice Try.underlying41 (hval 0 41 v0 rfl rfl)
  obtain ⟨fu0, hf0⟩ := h0
  obtain ⟨u0, a0, hu0, w0, ok0⟩ := open_vals (tK := 43) (tI := 2) (tT := 9) Try.underlying41 Try.underlying45 (by kernel_rfl) (by kernel_rfl) rfl rfl rfl rfl Try.underlying43 Try.underlying2 Try.underlying9 hf0
  obtain rfl : Value.slice s0 len0 cap0 = u0 := by simpa [Value.cells] using hu0
  have k1 := h1
  have lt1 : ∀ x ∈ p1, x.block < W.heap.size := by obtain ⟨m, hm⟩ := k1; exact DataW.trod_lt m _ _ _ hm
  obtain ⟨s1, len1, cap1, rfl⟩ := okWide_slice Try.underlying41 (hval 1 41 v1 rfl rfl)
  obtain ⟨fu1, hf1⟩ := h1
  obtain ⟨u1, a1, hu1, w1, ok1⟩ := open_vals (tK := 43) (tI := 2) (tT := 9) Try.underlying41 Try.underlying45 (by kernel_rfl) (by kernel_rfl) rfl rfl rfl rfl Try.underlying43 Try.underlying2 Try.underlying9 hf1
  obtain rfl : Value.slice s1 len1 cap1 = u1 := by simpa [Value.cells] using hu1
  have k2 := h2
  have lt2 : ∀ x ∈ p2, x.block < W.heap.size := by obtain ⟨m, hm⟩ := k2; exact DataW.trod_lt m _ _ _ hm
  obtain ⟨a2, rfl, rfl, rfl, w2⟩ := open_int Try.underlying2 (hval 2 2 v2 rfl rfl) h2
  have k3 := h3
  have lt3 : ∀ x ∈ p3, x.block < W.heap.size := by obtain ⟨m, hm⟩ := k3; exact DataW.trod_lt m _ _ _ hm
  obtain ⟨a3, rfl, rfl, rfl, w3⟩ := open_int Try.underlying2 (hval 3 2 v3 rfl rfl) h3
  clear hA0 hval0
  refine (walk a0 a1 a2 a3 _ _ W w0 w1).mono fun e W' ⟨he, bel⟩ => ?_
  subst he
  exact ⟨_, rfl, _, _, _, [], _, [], hW', trodAll_mk1 (shut_bool Try.underlying4 _), (trodAll_cons_mk (Below.trod laidOutValueOrders (by kernel_rfl) (of_decide_eq_true (by kernel_rfl)) k0 bel lt0) (trodAll_cons_mk (Below.trod laidOutValueOrders (by kernel_rfl) (of_decide_eq_true (by kernel_rfl)) k1 bel lt1) (trodAll_cons_mk (shut_int Try.underlying2 w2) (trodAll_cons_mk (shut_int Try.underlying2 w3) trodAll_mk0)))), rfl, bel.frame _, fun h => by cases h⟩

theorem overValueOrders : Rows.valueOrdersRow.holds Try.pinned (OpenSpec.ofChange Rows.valueOrdersSpec) :=
  OpenClaim.holds_of_wide 6 Try.f6 rfl rfl rfl rfl rfl rfl rfl ⟨rfl, rfl, rfl, rfl, rfl⟩ rfl rfl rfl rfl rfl (by kernel_rfl) Try.func6 (by kernel_rfl)
    (of_decide_eq_true (by kernel_rfl)) (by unfold Func.isWrapper; first | (rw [if_pos (by decide +kernel)]; kernel_rfl) | (rw [if_neg (by decide +kernel)]; exact ⟨rfl, rfl⟩))
    (fun os started H enc _ => liftedValueOrders os started H enc)
theorem provedValueOrders : Rows.ValueOrdersSaid := overValueOrders
#print axioms provedValueOrders
end Go.Proofs.Ytjpdmlopbflggaa
