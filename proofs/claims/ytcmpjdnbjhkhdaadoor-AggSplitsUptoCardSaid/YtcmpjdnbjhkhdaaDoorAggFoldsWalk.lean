/-
  PROVED HERE: streamwrightlaw6.AggFolds walked: it returns true.
-/
import Derived.Test.YtcmpjdnbjhkhdaaDoorAggLaw
namespace Go.Proofs.YtcmpjdnbjhkhdaaDoor
set_option linter.unusedSimpArgs false
set_option linter.unusedVariables false
open Go.RowKit

attribute [local go_sem high] run_eql_val' run_neq_val'
theorem eqV_self (x : Val) : eqV x x = true := (eqV_iff x x).2 rfl
set_option maxRecDepth 100000 in
set_option maxHeartbeats 2000000 in
theorem folds_walk (kind : Int) (v : Value) (l : List TV) (w : World) (hv : IsTimeds w v l) (hlen : l.length * 40 ≤ 140737488355328) (hg : Laid w) : Calls Tryd.prog 3 #[.int .i64 kind, v] w (BoolTo w true) := by
  have HV := hid hv; have HLEN := hid hlen; have HG := hid hg
  obtain ⟨p, c, rfl, -, -, -, -⟩ := hv
  clear hlen hg
  by_cases hgood : (1 ≤ kind ∧ kind ≤ 7) ∧ okT l = true
  · have HGD := hid hgood
    obtain ⟨⟨h1, h7⟩, hok⟩ := hgood
    have h1' : ¬ kind < 1 := by omega
    have h7' : ¬ 7 < kind := by omega
    have HOK := hid hok
    clear h1 h7 hok
    go_enter Tryd.func3, Tryd.ntmps3
    go_wp2_with fail
    refine (fold_any kind l _ w HV.out HLEN.out).mono ?_
    rintro e w1 ⟨hL1, rfl⟩
    rw [if_pos HGD.out]
    have HL1 := hid hL1
    clear hL1
    obtain ⟨x, hx⟩ : ∃ x, x = foldV kind l := ⟨_, rfl⟩
    have HX := hid hx
    rw [← hx]
    clear hx
    obtain ⟨xk, xn, xt⟩ := x
    go_wp2_with fail
    obtain ⟨w2, hw2⟩ : ∃ w2, w2 = w1.alloc (.cells #[.int .i64 xk, .int .i64 xn, .string xt] 25 (0, 0)) := ⟨_, rfl⟩
    obtain ⟨R, hR⟩ : ∃ R, R = w1.heap.size := ⟨_, rfl⟩
    have HL2 : Hid (Later w w2) := hid (by rw [hw2]; exact Later.trans _ _ _ HL1.out (Later.alloc _ _))
    have HR2 : Hid (w2.heap[R]? = some (.cells #[.int .i64 xk, .int .i64 xn, .string xt] 25 (0, 0))) := hid (by rw [hw2, hR]; exact obj_new _ _)
    rw [← hw2, ← hR]
    clear hw2 hR
    refine (told_nil w2).mono ?_
    rintro e w3 ⟨rfl, hL3⟩
    have HL3 := hid (Later.trans _ _ _ HL2.out hL3)
    have HR3 := hid (hL3.obj HR2.out)
    clear hL3 HL2 HR2
    go_wp2_with fail
    refine (lvalid_any l _ w3 (HV.out.later HL3.out) HLEN.out).mono ?_
    rintro e w4 ⟨rfl, hL4⟩
    rw [HOK.out]
    have HL4 := hid (Later.trans _ _ _ HL3.out hL4)
    have HR4 := hid (hL4.obj HR3.out)
    clear hL4 HL3 HR3
    go_wp2_with fail
    refine (ref_fold kind HGD.out.1.1 HGD.out.1.2 l _ w4 (HV.out.later HL4.out) HLEN.out).mono ?_
    rintro e w5 ⟨rfl, hL5⟩
    rw [← HX.out]
    have HL5 := hid (Later.trans _ _ _ HL4.out hL5)
    have HR5 := hid (hL5.obj HR4.out)
    have r0 := cell_obj (i := 0) HR5.out (v := .int .i64 xk) rfl
    have r1 := cell_obj (i := 1) HR5.out (v := .int .i64 xn) rfl
    have r2 := cell_obj (i := 2) HR5.out (v := .string xt) rfl
    have hr := cell_lt r0
    clear hL5 HL4 HR4
    go_wp2_with fail
    go_ret
    exact ⟨ret_bool (eqV_self _), Later.trans _ _ _ HL5.out (Later.alloc _ _)⟩
  · have HBD := hid hgood
    have HBAD : Hid ((decide (kind < 1) || (decide (7 < kind) || !okT l)) = true) := hid (by
      cases hok : okT l with
      | true => simp [hok] at hgood ⊢; omega
      | false => simp)
    clear hgood
    go_enter Tryd.func3, Tryd.ntmps3
    go_wp2_with fail
    refine (fold_any kind l _ w HV.out HLEN.out).mono ?_
    rintro e w1 ⟨hL1, rfl⟩
    rw [if_neg HBD.out]
    unfold rangeE
    have HL1 := hid hL1
    clear hL1
    go_wp2_with fail
    obtain ⟨w2, hw2⟩ : ∃ w2, w2 = w1.alloc (.cells #[.int .i64 0, .int .i64 0, .string ⟨#[]⟩] 25 (0, 0)) := ⟨_, rfl⟩
    obtain ⟨R, hR⟩ : ∃ R, R = w1.heap.size := ⟨_, rfl⟩
    have HL2 : Hid (Later w w2) := hid (by rw [hw2]; exact Later.trans _ _ _ HL1.out (Later.alloc _ _))
    have HR2 : Hid (w2.heap[R]? = some (.cells #[.int .i64 0, .int .i64 0, .string ⟨#[]⟩] 25 (0, 0))) := hid (by rw [hw2, hR]; exact obj_new _ _)
    change Calls _ _ _ (w1.alloc (.cells #[.int .i64 0, .int .i64 0, .string ⟨#[]⟩] 25 (0, 0))) _
    rw [← hw2, ← hR]
    clear hw2 hR
    refine (told_errno 4 w2 (HG.out.later HL2.out)).mono ?_
    rintro e w3 ⟨rfl, hL3⟩
    have HL3 := hid (Later.trans _ _ _ HL2.out hL3)
    have HR3 := hid (hL3.obj HR2.out)
    clear hL3 HL2 HR2
    go_wp2_with fail
    refine (lvalid_any l _ w3 (HV.out.later HL3.out) HLEN.out).mono ?_
    rintro e w4 ⟨rfl, hL4⟩
    have HL4 := hid (Later.trans _ _ _ HL3.out hL4)
    have HR4 := hid (hL4.obj HR3.out)
    have r0 := cell_obj (i := 0) HR4.out rfl
    have r1 := cell_obj (i := 1) HR4.out rfl
    have r2 := cell_obj (i := 2) HR4.out rfl
    have hr := cell_lt r0
    clear hL4 HL3 HR3
    generalize okT l = ok at *
    by_cases h1 : kind < 1
    · clear HBD HBAD
      go_wp2_with fail
      go_ret
      exact ⟨ret_bool (eqV_self _), HL4.out⟩
    · by_cases h7 : 7 < kind
      · clear HBD HBAD
        go_wp2_with fail
        go_ret
        exact ⟨ret_bool (eqV_self _), HL4.out⟩
      · have hok : ok = false := by
          have := HBAD.out
          cases ok <;> simp [h1, h7] at this ⊢
        subst hok
        clear HBD HBAD
        go_wp2_with fail
        go_ret
        exact ⟨ret_bool (eqV_self _), HL4.out⟩
end Go.Proofs.YtcmpjdnbjhkhdaaDoor
