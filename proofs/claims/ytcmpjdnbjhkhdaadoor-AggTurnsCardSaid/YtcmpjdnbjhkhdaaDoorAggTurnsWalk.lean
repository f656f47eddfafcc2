/-
  PROVED HERE: streamwrightlaw6.AggTurns walked: it returns true.
-/
import Derived.Test.YtcmpjdnbjhkhdaaDoorAggFoldsWalk
import Derived.Test.YtcmpjdnbjhkhdaaDoorAggPerm
import Derived.Test.YtcmpjdnbjhkhdaaDoorBefore
namespace Go.Proofs.YtcmpjdnbjhkhdaaDoor
set_option linter.unusedSimpArgs false
set_option linter.unusedVariables false
open Go.RowKit

attribute [local go_sem high] run_eql_val' run_neq_val'
theorem okT_perm {l m : List TV} (p : l.Perm m) : okT l = okT m := by
  unfold okT
  rw [Bool.eq_iff_iff, List.all_eq_true, List.all_eq_true]
  exact ⟨fun h x hx => h x (p.mem_iff.2 hx), fun h x hx => h x (p.mem_iff.1 hx)⟩
theorem v_inj {x y : Val} (h : x.v = y.v) : x = y := by
  obtain ⟨a, b, c⟩ := x
  obtain ⟨d, e, f⟩ := y
  simp only [Value.agg.injEq] at h
  have h := congrArg Array.toList h
  simp only [List.cons.injEq, Value.int.injEq, Value.string.injEq, and_true, true_and] at h
  obtain ⟨rfl, rfl, rfl⟩ := h
  rfl
theorem two_inj {a b c d : Value} (h : Value.tuple #[a, b] = .tuple #[c, d]) : a = c ∧ b = d := by
  simp only [Value.tuple.injEq] at h
  have h := congrArg Array.toList h
  simpa using h
theorem fold_res (kind : Int) (l : List TV) : ∃ (xv : Val) (ev : Value) (nv : Int), (if (1 ≤ kind ∧ kind ≤ 7) ∧ okT l = true then Value.tuple #[(foldV kind l).v, .nilIface] else .tuple #[nilV.v, rangeE]) = .tuple #[xv.v, ev] ∧ ∀ w, Laid w → Calls Tryd.prog 11 #[ev] w (NumTo w nv) := by
  by_cases h : (1 ≤ kind ∧ kind ≤ 7) ∧ okT l = true
  · exact ⟨foldV kind l, .nilIface, 0, by rw [if_pos h], fun w _ => told_nil w⟩
  · exact ⟨nilV, rangeE, 4, by rw [if_neg h], fun w hg => told_errno 4 w hg⟩
set_option maxRecDepth 100000 in
set_option maxHeartbeats 4000000 in
theorem turns_walk (kind : Int) (v : Value) (l : List TV) (by_ : Int) (x : TV) (w : World) (hv : IsTimeds w v l) (hlen : l.length * 40 + 40 ≤ 140737488355328) (hg : Laid w) :
    Calls Tryd.prog 4 #[.int .i64 kind, v, .int .i64 by_, x.v] w (BoolTo w true) := by
  have HV := hid hv; have HLEN := hid hlen; have HG := hid hg
  obtain ⟨p, c, rfl, -, -, -, -⟩ := hv
  obtain ⟨xi, ⟨xk, xn, xt⟩⟩ := x
  clear hlen hg
  go_enter Tryd.func4, Tryd.ntmps4
  go_wp2_with fail
  obtain ⟨w2, hw2⟩ : ∃ w2, w2 = (w.alloc (.cells #[.int .i64 xi, .int .i64 xk, .int .i64 xn, .string xt] 36 (0, 0))).alloc (.cells #[.int .i64 0, .int .i64 0, .int .i64 0, .string ⟨#[]⟩, .int .i64 0, .int .i64 0, .int .i64 0, .string ⟨#[]⟩] 36 (0, 0)) := ⟨_, rfl⟩
  obtain ⟨M, hM⟩ : ∃ M, M = w.heap.size := ⟨_, rfl⟩
  obtain ⟨J, hJ⟩ : ∃ J, J = w.heap.size + 1 := ⟨_, rfl⟩
  have HL2 : Hid (Later w w2) := hid (by rw [hw2]; exact Later.trans _ _ _ (Later.alloc _ _) (Later.alloc _ _))
  have HM2 : Hid (w2.heap[M]? = some (.cells #[.int .i64 xi, .int .i64 xk, .int .i64 xn, .string xt] 36 (0, 0))) := hid (by rw [hw2, hM]; exact (Later.alloc _ _).obj (obj_new _ _))
  have HJ2 : Hid (w2.heap[J]? = some (.cells #[.int .i64 0, .int .i64 0, .int .i64 0, .string ⟨#[]⟩, .int .i64 0, .int .i64 0, .int .i64 0, .string ⟨#[]⟩] 36 (0, 0))) := hid (by rw [hw2, hJ, ← World.size_alloc]; exact obj_new _ _)
  rw [← hw2, ← hJ, ← hM]
  clear hw2 hJ hM
  have hnil : IsTimeds w2 (.slice (some ⟨J, 0, none⟩) 2 2) [nilTV, nilTV] := by
    refine ⟨some ⟨J, 0, none⟩, 2, rfl, Nat.le_refl _, by unfold maxLen; omega, fun h => (by cases h), fun i hi => ⟨J, 0, rfl, trivial, ?_⟩⟩
    match i, hi with
    | 0, _ => exact ⟨cell_obj (i := 0) HJ2.out rfl, cell_obj (i := 1) HJ2.out rfl, cell_obj (i := 2) HJ2.out rfl, cell_obj (i := 3) HJ2.out rfl⟩
    | 1, _ => exact ⟨cell_obj (i := 4) HJ2.out rfl, cell_obj (i := 5) HJ2.out rfl, cell_obj (i := 6) HJ2.out rfl, cell_obj (i := 7) HJ2.out rfl⟩
  refine (fold_any 1 [nilTV, nilTV] _ w2 hnil (by simp)).mono ?_
  rintro e w3 ⟨hL3, rfl⟩
  rw [if_pos ⟨⟨by omega, by omega⟩, by kernel_rfl⟩]
  have hf2 : foldV 1 [nilTV, nilTV] = ⟨1, 2, ⟨#[]⟩⟩ := rfl
  rw [hf2]
  have HL3 := hid (Later.trans _ _ _ HL2.out hL3)
  have HM3 := hid (hL3.obj HM2.out)
  have he2 : eqV ⟨1, 2, ⟨#[]⟩⟩ ⟨1, 2, ⟨#[]⟩⟩ = true := eqV_self _
  have hwn : wrap64 ((l.length : Int) - 1) = (l.length : Int) - 1 := by have := HLEN.out; unfold wrap64; omega
  clear hnil hf2 hL3 HJ2 HL2 HM2
  go_wp2_with fail
  clear he2
  rw [hwn]
  clear hwn
  obtain ⟨w4, hw4⟩ : ∃ w4, w4 = w3.alloc (.cells #[.int .i64 1, .int .i64 2, .string ⟨#[]⟩] 25 (0, 0)) := ⟨_, rfl⟩
  have HL4 : Hid (Later w w4) := hid (by rw [hw4]; exact Later.trans _ _ _ HL3.out (Later.alloc _ _))
  have HM4 : Hid (w4.heap[M]? = some (.cells #[.int .i64 xi, .int .i64 xk, .int .i64 xn, .string xt] 36 (0, 0))) := hid (by rw [hw4]; exact (Later.alloc _ _).obj HM3.out)
  rw [← hw4]
  clear hw4 HL3 HM3
  obtain ⟨T, hT⟩ : ∃ T, T = turnL l by_ := ⟨_, rfl⟩
  have HTL : Hid (T.length = l.length) := hid (by rw [hT]; exact turnL_length _ _)
  have HT := hid hT
  clear hT
  obtain ⟨R1, hR1⟩ : ∃ RR_ : (Nat → Value) → World → Prop, RR_ = (fun us wx => ∃ (m : Nat) (vg : Value), us 13 = .int .i64 ((m : Int) - 1) ∧ us 12 = vg ∧ m ≤ l.length ∧ wx.ownsRow w4.heap.size 36 4 vg (l.length - m) (timedCells (T.drop m).reverse) ∧ Later w4 wx) := ⟨_, rfl⟩
  obtain ⟨mu1, hmu1⟩ : ∃ mu : (Nat → Value) → World → Nat, mu = (fun us _ => (intOf (us 13) + 1).toNat) := ⟨_, rfl⟩
  have HR1 := hid hR1; have Hmu1 := hid hmu1; clear hR1 hmu1
  refine wp_loop_frame' [false, false, false, false, false, false, false, false, false, false, false, false, true, true, true, false, false, false, false, false, false, false, false, false, false, false, false, false, false, false, false, false, false, false, false, false, false, false, false, false, false, false, false, false, false, true, true, true, true, true, true, true, true, true, true, true, true, true, true, true, true, true, true, true, true, true, true, true, true, true] R1 _ mu1 HR1.out ?_ ?_
  · exact ⟨l.length, _, rfl, rfl, Nat.le_refl _, ⟨by rw [List.drop_of_length_le (by rw [HTL.out]; exact Nat.le_refl _), Nat.sub_self]; rfl, .inl ⟨rfl, Nat.sub_self _⟩⟩, Later.refl _⟩
  intro us1 wx hrel
  obtain ⟨m, vg, h13, h12, hm, ho, hL⟩ := hrel
  simp only [frameOf, Nat.reduceAdd, h13, h12]
  have Hh13 := hid h13; clear h13
  have Hh12 := hid h12; clear h12
  obtain ⟨ag, cg, rfl⟩ := ownsRow_slice ho
  have HM := hid hm; have HO := hid ho; have HLX := hid hL
  clear hm ho hL
  by_cases hm0 : 0 < m
  · have hge : (0 : Int) ≤ (m : Int) - 1 := by omega
    have hml : m ≤ l.length := HM.out
    have hnp : (0 : Int) < (l.length : Int) := by omega
    by_cases hb : 0 < by_
    · obtain ⟨bn, hbn⟩ : ∃ bn : Nat, by_ = bn := ⟨by_.toNat, by omega⟩
      subst hbn
      obtain ⟨K, hK⟩ : ∃ K, K = ((m - 1) + bn % l.length) % l.length := ⟨_, rfl⟩
      have HKL : Hid (K < l.length) := hid (by rw [hK]; exact Nat.mod_lt _ (by omega))
      have HKT : Hid (T[m - 1]'(by rw [HTL.out]; omega) = l[K]'HKL.out) := hid (by
        simp only [HT.out]
        rw [turnL_get l bn hb (m - 1) (by omega)]
        simp only [hK, Int.toNat_natCast])
      have hwk : (wrap64 ((m : Int) - 1 + (bn : Int) % (l.length : Int))).tmod (l.length : Int) = (K : Int) := by
        have h1 : (bn : Int) % (l.length : Int) = ((bn % l.length : Nat) : Int) := (Int.natCast_emod _ _).symm
        have h2 : (m : Int) - 1 + ((bn % l.length : Nat) : Int) = ((m - 1 + bn % l.length : Nat) : Int) := by omega
        have h3 : wrap64 ((m - 1 + bn % l.length : Nat) : Int) = ((m - 1 + bn % l.length : Nat) : Int) := by
          have := HLEN.out
          have := Nat.mod_lt bn (show 0 < l.length by omega)
          unfold wrap64
          omega
        rw [h1, h2, h3, Int.tmod_eq_emod_of_nonneg (by omega), hK]
        exact (Int.natCast_emod _ _).symm
      have HEL : Hid (Elems All TimedAt 4 w p l) := hid (by obtain ⟨_, _, hq, -, -, -, h⟩ := HV.out; simp only [Value.slice.injEq, true_and] at hq; rw [hq.1]; exact h)
      clear hK
      go_upto_region 12 with (fail)
      clear hwk
      obtain ⟨b1, o1, rfl, -, e1⟩ := HEL.out K HKL.out
      obtain ⟨p0, p1, p2, p3⟩ := e1.later (Later.trans _ _ _ HL4.out HLX.out)
      clear e1
      have hl1 : b1 < wx.heap.size := cell_lt p0
      have HST : Hid ((T.drop (m - 1)).reverse = (T.drop m).reverse ++ [l[K]'HKL.out]) := hid (by
        have h1 : m - 1 < T.length := by rw [HTL.out]; omega
        have h := turn_step T (m - 1) h1
        rw [show m - 1 + 1 = m by omega] at h
        rw [h]
        congr 2)
      have hkl := HKL.out
      generalize l[K]'HKL.out = t at *
      obtain ⟨ti, ⟨tk, tn, tt⟩⟩ := t
      go_wp2_with (at_builtin; go_loud (refine wpList_append_objx rfl _ _ 22 rfl 36 4 40 Tryd.underlying22 timedElem rfl (owns_at HO.out (Later.alloc _ _)) (news := TV.cells ⟨ti, ⟨tk, tn, tt⟩⟩) rfl (obj_at (by simp)) rfl (timed_ones _) ?D1 ?D2 ?D3 ?_))
      case D1 => have := HLEN.out; omega
      case D2 => have := HLEN.out; unfold maxLen; omega
      case D3 => have := HLX.out.size; first | omega | (simp only [World.size_alloc]; omega)
      intro v7 w7 hA7
      have hal := Later.alloc wx (.cells (TV.cells ⟨ti, ⟨tk, tn, tt⟩⟩).toArray 36 (0, 0))
      have HL7 : Hid (Later w4 w7) := hid (later_keep (Later.trans _ _ _ HLX.out hal) (hA7.low (owns_at HO.out hal)) (Nat.le_refl _))
      have HO7 : Hid (w7.ownsRow w4.heap.size 36 4 v7 (l.length - (m - 1)) (timedCells (T.drop (m - 1)).reverse)) := hid (by
        rw [HST.out, timedCells_app, show l.length - (m - 1) = l.length - m + 1 by omega]
        exact hA7.own)
      clear hA7 hal
      go_wp2_with fail
      have hwm : wrap64 ((m : Int) - 1 - 1) = ((m - 1 : Nat) : Int) - 1 := by have := HLEN.out; unfold wrap64; omega
      rw [hwm]
      refine Round.mk' HR1.out Hmu1.out rfl ?_ ?_
      · exact ⟨m - 1, _, rfl, rfl, by omega, HO7.out, HL7.out⟩
      · simp only [slots, List.getD_cons_succ, List.getD_cons_zero, Hh13.out, intOf]
        omega
    · have HKL : Hid (m - 1 < l.length) := hid (by omega)
      obtain ⟨K, hK⟩ : ∃ K, K = m - 1 := ⟨_, rfl⟩
      rw [← hK] at HKL
      have HKT : Hid (T[m - 1]'(by rw [HTL.out]; omega) = l[K]'HKL.out) := hid (by
        simp only [HT.out, hK]
        unfold turnL
        simp only [if_neg hb])
      have hwk0 : (m : Int) - 1 = (K : Int) := by omega
      have HWK := hid hwk0
      have hwm2 : wrap64 ((K : Int) - 1) = ((m - 1 : Nat) : Int) - 1 := by have := HLEN.out; unfold wrap64; omega
      have HW2 := hid hwm2
      clear hwk0 hK hwm2
      have HEL : Hid (Elems All TimedAt 4 w p l) := hid (by obtain ⟨_, _, hq, -, -, -, h⟩ := HV.out; simp only [Value.slice.injEq, true_and] at hq; rw [hq.1]; exact h)
      go_upto_region 12 with (fail)
      rw [HWK.out]
      obtain ⟨b1, o1, rfl, -, e1⟩ := HEL.out K HKL.out
      obtain ⟨p0, p1, p2, p3⟩ := e1.later (Later.trans _ _ _ HL4.out HLX.out)
      clear e1
      have hl1 : b1 < wx.heap.size := cell_lt p0
      have HST : Hid ((T.drop (m - 1)).reverse = (T.drop m).reverse ++ [l[K]'HKL.out]) := hid (by
        have h1 : m - 1 < T.length := by rw [HTL.out]; omega
        have h := turn_step T (m - 1) h1
        rw [show m - 1 + 1 = m by omega] at h
        rw [h]
        congr 2)
      have hkl := HKL.out
      generalize l[K]'HKL.out = t at *
      obtain ⟨ti, ⟨tk, tn, tt⟩⟩ := t
      go_wp2_with (at_builtin; go_loud (refine wpList_append_objx rfl _ _ 22 rfl 36 4 40 Tryd.underlying22 timedElem rfl (owns_at HO.out (Later.alloc _ _)) (news := TV.cells ⟨ti, ⟨tk, tn, tt⟩⟩) rfl (obj_at (by simp)) rfl (timed_ones _) ?E1 ?E2 ?E3 ?_))
      case E1 => have := HLEN.out; omega
      case E2 => have := HLEN.out; unfold maxLen; omega
      case E3 => have := HLX.out.size; first | omega | (simp only [World.size_alloc]; omega)
      intro v7 w7 hA7
      have hal := Later.alloc wx (.cells (TV.cells ⟨ti, ⟨tk, tn, tt⟩⟩).toArray 36 (0, 0))
      have HL7 : Hid (Later w4 w7) := hid (later_keep (Later.trans _ _ _ HLX.out hal) (hA7.low (owns_at HO.out hal)) (Nat.le_refl _))
      have HO7 : Hid (w7.ownsRow w4.heap.size 36 4 v7 (l.length - (m - 1)) (timedCells (T.drop (m - 1)).reverse)) := hid (by
        rw [HST.out, timedCells_app, show l.length - (m - 1) = l.length - m + 1 by omega]
        exact hA7.own)
      clear hA7 hal
      go_wp2_with fail
      have hwm : wrap64 ((m : Int) - 1 - 1) = ((m - 1 : Nat) : Int) - 1 := by have := HLEN.out; unfold wrap64; omega
      first | rw [hwm] | rw [HW2.out]
      refine Round.mk' HR1.out Hmu1.out rfl ?_ ?_
      · exact ⟨m - 1, _, rfl, rfl, by omega, HO7.out, HL7.out⟩
      · simp only [slots, List.getD_cons_succ, List.getD_cons_zero, Hh13.out, intOf]
        omega
  · obtain rfl : m = 0 := by omega
    have hz0 : l.length - 0 = l.length := Nat.sub_zero _
    rw [hz0] at HO Hh12 ⊢
    obtain ⟨Z, hZ⟩ : ∃ Z, Z = T.reverse := ⟨_, rfl⟩
    have HZL : Hid (Z.length = l.length) := hid (by rw [hZ, List.length_reverse]; exact HTL.out)
    have HPERM : Hid (l.Perm Z) := hid (by rw [hZ, HT.out]; exact turnL_perm l by_)
    replace HO : Hid (wx.ownsRow w4.heap.size 36 4 (.slice ag l.length cg) l.length (timedCells Z)) := hid (by have := HO.out; rw [List.drop_zero, ← hZ] at this; exact this)
    clear hz0 hZ HT HTL
    have HLX0 := hid (Later.trans _ _ _ HL4.out HLX.out)
    have HMX := hid (HLX.out.obj HM4.out)
    have HZT : Hid (IsTimeds wx (.slice ag l.length cg) Z) := hid (by
      have h := HO.out
      rw [← HZL.out] at h ⊢
      exact (owned_timeds h).map fun _ _ _ _ hx => ⟨trivial, hx⟩)
    have HBX : Hid (w4.heap.size ≤ wx.heap.size) := hid HLX.out.size
    have HS4 : Hid (w.heap.size ≤ w4.heap.size) := hid HL4.out.size
    clear HLX HL4 HM4
    obtain ⟨xv, ev, nv, hres, htold⟩ := fold_res kind l
    have HRES := hid hres; have HTOLD := hid htold
    have HRES2 : Hid ((if (1 ≤ kind ∧ kind ≤ 7) ∧ okT Z = true then Value.tuple #[(foldV kind Z).v, .nilIface] else .tuple #[nilV.v, rangeE]) = .tuple #[xv.v, ev]) := hid (by
      rw [← okT_perm HPERM.out, ← foldV_perm kind HPERM.out]
      exact hres)
    clear hres htold hm0
    obtain ⟨vk, vn, vt⟩ := xv
    go_wp2_with fail
    refine (fold_any kind l _ wx (HV.out.later HLX0.out) (by have := HLEN.out; omega)).mono ?_
    rintro e w5 ⟨hL5, rfl⟩
    rw [HRES.out]
    have HL5 := hid hL5
    clear hL5
    go_wp2_with fail
    obtain ⟨w6, hw6⟩ : ∃ w6, w6 = w5.alloc (.cells #[.int .i64 vk, .int .i64 vn, .string vt] 25 (0, 0)) := ⟨_, rfl⟩
    obtain ⟨A1, hA1⟩ : ∃ A1, A1 = w5.heap.size := ⟨_, rfl⟩
    have HL6 : Hid (Later wx w6) := hid (by rw [hw6]; exact Later.trans _ _ _ HL5.out (Later.alloc _ _))
    have HA6 : Hid (w6.heap[A1]? = some (.cells #[.int .i64 vk, .int .i64 vn, .string vt] 25 (0, 0))) := hid (by rw [hw6, hA1]; exact obj_new _ _)
    rw [← hw6, ← hA1]
    clear hw6 hA1 HL5
    refine (fold_any kind Z _ w6 (HZT.out.later HL6.out) (by have := HLEN.out; have := HZL.out; omega)).mono ?_
    rintro e w7 ⟨hL7, rfl⟩
    rw [HRES2.out]
    have HL7 := hid (Later.trans _ _ _ HL6.out hL7)
    have HA7 := hid (hL7.obj HA6.out)
    clear hL7 HL6 HA6
    go_wp2_with fail
    obtain ⟨w8, hw8⟩ : ∃ w8, w8 = w7.alloc (.cells #[.int .i64 vk, .int .i64 vn, .string vt] 25 (0, 0)) := ⟨_, rfl⟩
    obtain ⟨A2, hA2⟩ : ∃ A2, A2 = w7.heap.size := ⟨_, rfl⟩
    have HL8 : Hid (Later wx w8) := hid (by rw [hw8]; exact Later.trans _ _ _ HL7.out (Later.alloc _ _))
    have HA8 : Hid (w8.heap[A1]? = some (.cells #[.int .i64 vk, .int .i64 vn, .string vt] 25 (0, 0))) := hid (by rw [hw8]; exact (Later.alloc _ _).obj HA7.out)
    have HB8 : Hid (w8.heap[A2]? = some (.cells #[.int .i64 vk, .int .i64 vn, .string vt] 25 (0, 0))) := hid (by rw [hw8, hA2]; exact obj_new _ _)
    rw [← hw8, ← hA2]
    clear hw8 hA2 HL7 HA7
    refine (HTOLD.out w8 (HG.out.later (Later.trans _ _ _ HLX0.out HL8.out))).mono ?_
    rintro e w9 ⟨rfl, hL9⟩
    have HL9 := hid (Later.trans _ _ _ HL8.out hL9)
    have HA9 := hid (hL9.obj HA8.out)
    have HB9 := hid (hL9.obj HB8.out)
    clear hL9 HL8 HA8 HB8
    go_wp2_with fail
    refine (HTOLD.out w9 (HG.out.later (Later.trans _ _ _ HLX0.out HL9.out))).mono ?_
    rintro e w10 ⟨rfl, hL10⟩
    have HL10 := hid (Later.trans _ _ _ HL9.out hL10)
    have HA10 := hid (hL10.obj HA9.out)
    have HB10 := hid (hL10.obj HB9.out)
    clear hL10 HL9 HA9 HB9
    have r0 := cell_obj (i := 0) HA10.out (v := .int .i64 vk) rfl
    have r1 := cell_obj (i := 1) HA10.out (v := .int .i64 vn) rfl
    have r2 := cell_obj (i := 2) HA10.out (v := .string vt) rfl
    have s0 := cell_obj (i := 0) HB10.out (v := .int .i64 vk) rfl
    have s1 := cell_obj (i := 1) HB10.out (v := .int .i64 vn) rfl
    have s2 := cell_obj (i := 2) HB10.out (v := .string vt) rfl
    have hr := cell_lt r0
    have hs := cell_lt s0
    have hself : eqV ⟨vk, vn, vt⟩ ⟨vk, vn, vt⟩ = true := eqV_self _
    go_wp2_with fail
    clear r0 r1 r2 s0 s1 s2 hr hs hself HA10 HB10 HRES HRES2 HTOLD
    obtain ⟨yv, ey, ny, hres3, -⟩ := fold_res 3 l
    have HRES3 := hid hres3
    clear hres3
    obtain ⟨yk, yn, yt⟩ := yv
    refine (fold_any 3 l _ w10 (HV.out.later (Later.trans _ _ _ HLX0.out HL10.out)) (by have := HLEN.out; omega)).mono ?_
    rintro e w11 ⟨hL11, rfl⟩
    rw [HRES3.out]
    have HL11 := hid (Later.trans _ _ _ HL10.out hL11)
    clear hL11 HL10
    go_upto_region 20 with (fail)
    obtain ⟨w12, hw12⟩ : ∃ w12, w12 = w11.alloc (.cells #[.int .i64 yk, .int .i64 yn, .string yt] 25 (0, 0)) := ⟨_, rfl⟩
    obtain ⟨A3, hA3⟩ : ∃ A3, A3 = w11.heap.size := ⟨_, rfl⟩
    have HL12 : Hid (Later wx w12) := hid (by rw [hw12]; exact Later.trans _ _ _ HL11.out (Later.alloc _ _))
    have HA12 : Hid (w12.heap[A3]? = some (.cells #[.int .i64 yk, .int .i64 yn, .string yt] 25 (0, 0))) := hid (by rw [hw12, hA3]; exact obj_new _ _)
    have HA3B : Hid (wx.heap.size ≤ A3) := hid (by rw [hA3]; exact HL11.out.size)
    rw [← hw12, ← hA3]
    clear hw12 hA3 HL11
    have HM12 := hid (HL12.out.obj HMX.out)
    have m0 := cell_obj (i := 0) HM12.out (v := .int .i64 xi) rfl
    have m1 := cell_obj (i := 1) HM12.out (v := .int .i64 xk) rfl
    have m2 := cell_obj (i := 2) HM12.out (v := .int .i64 xn) rfl
    have m3 := cell_obj (i := 3) HM12.out (v := .string xt) rfl
    have hm := cell_lt m0
    have HO12 := hid (owns_at HO.out HL12.out)
    go_wp2_with (at_builtin; go_loud (refine wpList_append_objx rfl _ _ 22 rfl 36 4 40 Tryd.underlying22 timedElem rfl (owns_at HO12.out (Later.alloc _ _)) (news := TV.cells ⟨xi, ⟨xk, xn, xt⟩⟩) rfl (obj_at (by simp)) rfl (timed_ones _) ?F1 ?F2 ?F3 ?_))
    case F1 => have := HLEN.out; omega
    case F2 => have := HLEN.out; unfold maxLen; omega
    case F3 => have := HL12.out.size; have := HBX.out; first | omega | (simp only [World.size_alloc]; omega)
    intro v13 w13 hA13
    have hal := Later.alloc w12 (.cells (TV.cells ⟨xi, ⟨xk, xn, xt⟩⟩).toArray 36 (0, 0))
    have hown12 := owns_at HO12.out hal
    have HO13 : Hid (w13.ownsRow w4.heap.size 36 4 v13 (l.length + 1) (timedCells (Z ++ [⟨xi, ⟨xk, xn, xt⟩⟩]))) := hid (by
      rw [timedCells_app]
      exact hA13.own)
    have HL13 : Hid (Later w w13) := hid (later_keep (Later.trans _ _ _ (Later.trans _ _ _ HLX0.out HL12.out) hal) (hA13.low hown12) HS4.out)
    have HZ13 : Hid (IsTimeds w13 v13 (Z ++ [⟨xi, ⟨xk, xn, xt⟩⟩])) := hid ((owned_timeds HO13.out).map fun _ _ _ _ hx => ⟨trivial, hx⟩)
    have HA13 : Hid (w13.heap[A3]? = some (.cells #[.int .i64 yk, .int .i64 yn, .string yt] 25 (0, 0))) := hid (by
      have h0 := hal.obj HA12.out
      rcases hA13.kind with ⟨g, cap, e1, -, k⟩ | ⟨k, -⟩
      · refine k.obj ?_ h0
        intro e
        subst e
        simp only [Value.slice.injEq, true_and] at e1
        have := (ownb HO.out A3 (by rw [e1.1]; rfl)).2
        have := HA3B.out
        omega
      · exact k.obj h0)
    clear hA13 hal hown12 m0 m1 m2 m3 hm
    clear HL12 HA12 HM12 HO12 HO HZT HMX HLX0 HBX
    go_wp2_with fail
    obtain ⟨zv, ez, nz, hres4, -⟩ := fold_res 3 (Z ++ [⟨xi, ⟨xk, xn, xt⟩⟩])
    have HRES4 := hid hres4
    clear hres4
    obtain ⟨zk, zn, zt⟩ := zv
    refine (fold_any 3 (Z ++ [⟨xi, ⟨xk, xn, xt⟩⟩]) _ w13 HZ13.out (by have := HLEN.out; have := HZL.out; simp only [List.length_append, List.length_cons, List.length_nil]; omega)).mono ?_
    rintro e w14 ⟨hL14, rfl⟩
    rw [HRES4.out]
    have HL14 := hid (Later.trans _ _ _ HL13.out hL14)
    have HA14 := hid (hL14.obj HA13.out)
    clear hL14 HL13 HA13 HZ13 HO13
    go_upto_region 22 with (fail)
    obtain ⟨w15, hw15⟩ : ∃ w15, w15 = w14.alloc (.cells #[.int .i64 zk, .int .i64 zn, .string zt] 25 (0, 0)) := ⟨_, rfl⟩
    obtain ⟨A4, hA4⟩ : ∃ A4, A4 = w14.heap.size := ⟨_, rfl⟩
    have HL15 : Hid (Later w w15) := hid (by rw [hw15]; exact Later.trans _ _ _ HL14.out (Later.alloc _ _))
    have HA15 : Hid (w15.heap[A3]? = some (.cells #[.int .i64 yk, .int .i64 yn, .string yt] 25 (0, 0))) := hid (by rw [hw15]; exact (Later.alloc _ _).obj HA14.out)
    have HB15 : Hid (w15.heap[A4]? = some (.cells #[.int .i64 zk, .int .i64 zn, .string zt] 25 (0, 0))) := hid (by rw [hw15, hA4]; exact obj_new _ _)
    rw [← hw15, ← hA4]
    clear hw15 hA4 HL14 HA14
    by_cases hok : okT l = true
    · have h3 := HRES3.out
      rw [if_pos ⟨⟨by omega, by omega⟩, hok⟩] at h3
      obtain ⟨hy, rfl⟩ := two_inj h3
      have HY := hid (v_inj hy)
      clear h3 hy
      by_cases hok2 : okT (Z ++ [⟨xi, ⟨xk, xn, xt⟩⟩]) = true
      · have h4 := HRES4.out
        rw [if_pos ⟨⟨by omega, by omega⟩, hok2⟩] at h4
        obtain ⟨hz, rfl⟩ := two_inj h4
        have HZ := hid (v_inj hz)
        clear h4 hz
        have r0 := cell_obj (i := 0) HA15.out (v := .int .i64 yk) rfl
        have r1 := cell_obj (i := 1) HA15.out (v := .int .i64 yn) rfl
        have r2 := cell_obj (i := 2) HA15.out (v := .string yt) rfl
        have s0 := cell_obj (i := 0) HB15.out (v := .int .i64 zk) rfl
        have s1 := cell_obj (i := 1) HB15.out (v := .int .i64 zn) rfl
        have s2 := cell_obj (i := 2) HB15.out (v := .string zt) rfl
        have hr := cell_lt r0
        have hs := cell_lt s0
        by_cases hk0 : yk = 0
        · subst hk0
          clear s0 s1 s2 hs hok hok2 HRES3 HRES4
          go_wp2_with fail
          go_ret
          exact ⟨rfl, HL15.out⟩
        · have hkb : (yk == 0) = false := beq_eq_false_iff_ne.2 hk0
          have HBF : Hid (beforeV ⟨yk, yn, yt⟩ ⟨zk, zn, zt⟩ = false) := hid (by
            rw [← HY.out, ← HZ.out]
            exact least_more l Z HPERM.out _ (by rw [HY.out]; exact hk0))
          clear hk0 hok hok2 HRES3 HRES4
          go_wp2_with fail
          refine (before_any ⟨yk, yn, yt⟩ ⟨zk, zn, zt⟩ w15).mono ?_
          rintro e w16 ⟨rfl, hL16⟩
          rw [HBF.out]
          have HL16 := hid (Later.trans _ _ _ HL15.out hL16)
          clear hL16 r0 r1 r2 s0 s1 s2 hr hs
          go_wp2_with fail
          go_ret
          exact ⟨rfl, HL16.out⟩
      · have h4 := HRES4.out
        rw [if_neg fun h => hok2 h.2] at h4
        obtain ⟨-, rfl⟩ := two_inj h4
        clear h4 hok hok2 HRES3 HRES4
        unfold rangeE
        go_wp2_with fail
        go_ret
        exact ⟨rfl, HL15.out⟩
    · have h3 := HRES3.out
      rw [if_neg fun h => hok h.2] at h3
      obtain ⟨-, rfl⟩ := two_inj h3
      clear h3 hok HRES3 HRES4
      unfold rangeE
      go_wp2_with fail
      go_ret
      exact ⟨rfl, HL15.out⟩
end Go.Proofs.YtcmpjdnbjhkhdaaDoor
