/-
  PROVED HERE: streamwrightlaw6.AggSplits walked: it returns true.
-/
import Derived.Test.YtcmpjdnbjhkhdaaDoorAggSplitFn
import Derived.Test.YtcmpjdnbjhkhdaaDoorAggFoldsWalk
namespace Go.Proofs.YtcmpjdnbjhkhdaaDoor
set_option linter.unusedSimpArgs false
set_option linter.unusedVariables false
open Go.RowKit

attribute [local go_sem high] run_eql_val' run_neq_val'
theorem okT_app (l m : List TV) : okT (l ++ m) = (okT l && okT m) := by unfold okT; rw [List.all_append]
set_option maxRecDepth 100000 in
set_option maxHeartbeats 2000000 in
theorem splits_walk (kind : Int) (v u : Value) (l m : List TV) (w : World) (hv : IsTimeds w v l) (hu : IsTimeds w u m) (hll : l.length ≤ 1048576) (hml : m.length ≤ 1048576) (hok : ∀ t ∈ l ++ m, TvOk t) (hg : Laid w) : Calls Tryd.prog 5 #[.int .i64 kind, v, u] w (BoolTo w true) := by
  have HV := hid hv; have HU := hid hu; have HLL := hid hll; have HML := hid hml; have HG := hid hg; have HOKS := hid hok
  have HLEN : Hid ((l ++ m).length * 40 ≤ 140737488355328) := hid (by rw [List.length_append]; have := HLL.out; have := HML.out; omega)
  have HLENL : Hid (l.length * 40 ≤ 140737488355328) := hid (by have := HLL.out; omega)
  have HLENM : Hid (m.length * 40 ≤ 140737488355328) := hid (by have := HML.out; omega)
  obtain ⟨p, c, rfl, -, -, -, -⟩ := hv
  obtain ⟨q, d, rfl, -, -, -, -⟩ := hu
  clear hll hml hg hok
  by_cases hgood : (1 ≤ kind ∧ kind ≤ 7) ∧ okT (l ++ m) = true
  · have HGD := hid hgood
    obtain ⟨⟨h1, h7⟩, hok⟩ := hgood
    have h1' : ¬ kind < 1 := by omega
    have h7' : ¬ 7 < kind := by omega
    rw [okT_app, Bool.and_eq_true] at hok
    have HOK := hid hok.1
    have HOK2 := hid hok.2
    clear h1 h7 hok
    go_enter Tryd.func5, Tryd.ntmps5
    go_wp2_with fail
    refine (split_any kind l m _ _ w HV.out HU.out HLL.out HML.out HOKS.out).mono ?_
    rintro e w1 ⟨hL1, rfl⟩
    rw [if_pos HGD.out]
    have HL1 := hid hL1
    clear hL1
    obtain ⟨x, hx⟩ : ∃ x, x = foldV kind (l ++ m) := ⟨_, rfl⟩
    have HX := hid hx
    rw [← hx]
    clear hx
    obtain ⟨xk, xn, xt⟩ := x
    go_wp2_with fail
    obtain ⟨w2, hw2⟩ : ∃ w2, w2 = w1.alloc (.cells #[.int .i64 xk, .int .i64 xn, .string xt] 25 (0, 0)) := ⟨_, rfl⟩
    obtain ⟨R, hR⟩ : ∃ R, R = w1.heap.size := ⟨_, rfl⟩
    have HL2 : Hid (Later w w2) := hid (by rw [hw2]; exact Later.trans _ _ _ HL1.out (Later.alloc _ _))
    have HR2 : Hid (w2.heap[R]? = some (.cells #[.int .i64 xk, .int .i64 xn, .string xt] 25 (0, 0))) := hid (by rw [hw2, hR]; exact obj_new _ _)
    rw [← hw2, ← hR]
    clear hw2 hR
    refine (told_nil w2).mono ?_
    rintro e w3 ⟨rfl, hL3⟩
    have HL3 := hid (Later.trans _ _ _ HL2.out hL3)
    have HR3 := hid (hL3.obj HR2.out)
    clear hL3 HL2 HR2
    go_wp2_with fail
    refine (lvalid_any l _ w3 (HV.out.later HL3.out) HLENL.out).mono ?_
    rintro e w4 ⟨rfl, hL4⟩
    rw [HOK.out]
    have HL4 := hid (Later.trans _ _ _ HL3.out hL4)
    have HR4 := hid (hL4.obj HR3.out)
    clear hL4 HL3 HR3
    go_wp2_with fail
    refine (lvalid_any m _ w4 (HU.out.later HL4.out) HLENM.out).mono ?_
    rintro e w5 ⟨rfl, hL5⟩
    rw [HOK2.out]
    have HL5 := hid (Later.trans _ _ _ HL4.out hL5)
    have HR5 := hid (hL5.obj HR4.out)
    clear hL5 HL4 HR4
    have HRL := hid (Array.getElem?_eq_some_iff.1 HR5.out).1
    have HON := hid (show w5.ownsRow w5.heap.size 36 4 (.slice none 0 0) ([] : List TV).length (timedCells []) from ⟨rfl, .inl ⟨rfl, rfl⟩⟩)
    go_wp2_with (at_builtin; refine wpList_append_timeds rfl _ _ rfl w5.heap.size _ _ [] l rfl HON.out rfl (HV.out.later HL5.out) ?c1 (Nat.le_refl _) ?_)
    case c1 => have := HLENL.out; simp; omega
    intro v6 w6 ho6 hk6
    obtain ⟨a6, c6, rfl⟩ := ownsRow_slice ho6
    have HO6 := hid ho6
    have HL6 := hid (later_keep HL5.out hk6 HL5.out.size)
    have HR6 := hid (hk6.obj (by exact (Array.getElem?_eq_some_iff.1 HR5.out).1) HR5.out)
    have HB6 := hid hk6.size
    clear ho6 hk6 HR5
    go_wp2_with (at_builtin; refine wpList_append_timeds rfl _ _ rfl w5.heap.size _ _ l m rfl HO6.out rfl (HU.out.later HL6.out) ?c2 HB6.out ?_)
    case c2 => have := HLL.out; have := HML.out; omega
    intro v7 w7 ho7 hk7
    obtain ⟨a7, c7, rfl⟩ := ownsRow_slice ho7
    have HT7 : Hid (IsTimeds w7 (.slice a7 (l.length + m.length) c7) (l ++ m)) := hid ((owned_timeds ho7).map fun _ _ _ _ hx => ⟨trivial, hx⟩)
    have HL7 := hid (later_keep HL6.out (hk7.mono fun b _ hb => hb) HL5.out.size)
    have HR7 := hid (hk7.obj HRL.out HR6.out)
    clear ho7 hk7 HO6 HR6
    go_wp2_with fail
    refine (ref_fold kind HGD.out.1.1 HGD.out.1.2 (l ++ m) _ w7 HT7.out HLEN.out).mono ?_
    rintro e w8 ⟨rfl, hL8⟩
    rw [← HX.out]
    have HL8 := hid (Later.trans _ _ _ HL7.out hL8)
    have HR8 := hid (hL8.obj HR7.out)
    have r0 := cell_obj (i := 0) HR8.out (v := .int .i64 xk) rfl
    have r1 := cell_obj (i := 1) HR8.out (v := .int .i64 xn) rfl
    have r2 := cell_obj (i := 2) HR8.out (v := .string xt) rfl
    have hr := cell_lt r0
    clear hL8 HL7 HR7
    go_wp2_with fail
    go_ret
    exact ⟨ret_bool (eqV_self _), Later.trans _ _ _ HL8.out (Later.alloc _ _)⟩
  · have HBD := hid hgood
    have HBAD : Hid ((decide (kind < 1) || (decide (7 < kind) || (!okT l || !okT m))) = true) := hid (by
      rw [okT_app] at hgood
      cases hok : okT l <;> cases hok2 : okT m <;> simp [hok, hok2] at hgood ⊢ <;> omega)
    clear hgood
    go_enter Tryd.func5, Tryd.ntmps5
    go_wp2_with fail
    refine (split_any kind l m _ _ w HV.out HU.out HLL.out HML.out HOKS.out).mono ?_
    rintro e w1 ⟨hL1, rfl⟩
    rw [if_neg HBD.out]
    unfold rangeE
    have HL1 := hid hL1
    clear hL1
    go_wp2_with fail
    obtain ⟨w2, hw2⟩ : ∃ w2, w2 = w1.alloc (.cells #[.int .i64 0, .int .i64 0, .string ⟨#[]⟩] 25 (0, 0)) := ⟨_, rfl⟩
    obtain ⟨R, hR⟩ : ∃ R, R = w1.heap.size := ⟨_, rfl⟩
    have HL2 : Hid (Later w w2) := hid (by rw [hw2]; exact Later.trans _ _ _ HL1.out (Later.alloc _ _))
    have HR2 : Hid (w2.heap[R]? = some (.cells #[.int .i64 0, .int .i64 0, .string ⟨#[]⟩] 25 (0, 0))) := hid (by rw [hw2, hR]; exact obj_new _ _)
    change Calls _ _ _ (w1.alloc (.cells #[.int .i64 0, .int .i64 0, .string ⟨#[]⟩] 25 (0, 0))) _
    rw [← hw2, ← hR]
    clear hw2 hR
    refine (told_errno 4 w2 (HG.out.later HL2.out)).mono ?_
    rintro e w3 ⟨rfl, hL3⟩
    have HL3 := hid (Later.trans _ _ _ HL2.out hL3)
    have HR3 := hid (hL3.obj HR2.out)
    clear hL3 HL2 HR2
    go_wp2_with fail
    refine (lvalid_any l _ w3 (HV.out.later HL3.out) HLENL.out).mono ?_
    rintro e w4 ⟨rfl, hL4⟩
    have HL4 := hid (Later.trans _ _ _ HL3.out hL4)
    have HR4 := hid (hL4.obj HR3.out)
    clear hL4 HL3 HR3
    generalize okT l = ok at *
    go_wp2_with fail
    refine (lvalid_any m _ w4 (HU.out.later HL4.out) HLENM.out).mono ?_
    rintro e w5 ⟨rfl, hL5⟩
    have HL5 := hid (Later.trans _ _ _ HL4.out hL5)
    have HR5 := hid (hL5.obj HR4.out)
    have r0 := cell_obj (i := 0) HR5.out rfl
    have r1 := cell_obj (i := 1) HR5.out rfl
    have r2 := cell_obj (i := 2) HR5.out rfl
    have hr := cell_lt r0
    clear hL5 HL4 HR4
    generalize okT m = ok2 at *
    by_cases h1 : kind < 1
    · clear HBD HBAD
      go_wp2_with fail
      go_ret
      exact ⟨ret_bool (eqV_self _), HL5.out⟩
    · by_cases h7 : 7 < kind
      · clear HBD HBAD
        go_wp2_with fail
        go_ret
        exact ⟨ret_bool (eqV_self _), HL5.out⟩
      · cases ok with
        | false =>
          clear HBD HBAD
          go_wp2_with fail
          go_ret
          exact ⟨ret_bool (eqV_self _), HL5.out⟩
        | true =>
          have hok : ok2 = false := by
            have := HBAD.out
            cases ok2 <;> simp [h1, h7] at this ⊢
          subst hok
          clear HBD HBAD
          go_wp2_with fail
          go_ret
          exact ⟨ret_bool (eqV_self _), HL5.out⟩
end Go.Proofs.YtcmpjdnbjhkhdaaDoor
