/-
  PROVED HERE: the contract of the document's better.
-/
import Derived.Test.YtcmpjdnbjhkhdaaDoorAggOrd
import Derived.Test.YtcmpjdnbjhkhdaaDoorBefore
namespace Go.Proofs.YtcmpjdnbjhkhdaaDoor
set_option linter.unusedSimpArgs false
set_option linter.unusedVariables false
open Go.RowKit

set_option maxRecDepth 100000 in
set_option maxHeartbeats 2000000 in
theorem better_any (kind : Int) (a b : TV) (w : World) : Calls Tryd.prog 48 #[.int .i64 kind, a.v, b.v] w fun e w' => e = .returned (.bool (betterR kind a b)) ∧ Later w w' := by
  obtain ⟨a1, ⟨ak, an, at_⟩⟩ := a
  obtain ⟨b1, ⟨bk, bn, bt⟩⟩ := b
  go_enter Tryd.func48, Tryd.ntmps48
  go_wp2_with fail
  obtain ⟨w2, hw2⟩ : ∃ w2, w2 = (w.alloc (.cells #[.int .i64 a1, .int .i64 ak, .int .i64 an, .string at_] 36 (0, 0))).alloc (.cells #[.int .i64 b1, .int .i64 bk, .int .i64 bn, .string bt] 36 (0, 0)) := ⟨_, rfl⟩
  obtain ⟨X, hX⟩ : ∃ X, X = w.heap.size := ⟨_, rfl⟩
  obtain ⟨Y, hY⟩ : ∃ Y, Y = w.heap.size + 1 := ⟨_, rfl⟩
  have HL2 : Hid (Later w w2) := hid (by rw [hw2]; exact Later.trans _ _ _ (Later.alloc _ _) (Later.alloc _ _))
  have HX2 : Hid (w2.heap[X]? = some (.cells #[.int .i64 a1, .int .i64 ak, .int .i64 an, .string at_] 36 (0, 0))) := hid (by rw [hw2, hX]; exact (Later.alloc _ _).obj (obj_new _ _))
  have HY2 : Hid (w2.heap[Y]? = some (.cells #[.int .i64 b1, .int .i64 bk, .int .i64 bn, .string bt] 36 (0, 0))) := hid (by rw [hw2, hY, ← World.size_alloc]; exact obj_new _ _)
  rw [← hw2, ← hY, ← hX]
  clear hw2 hX hY
  refine (before_any ⟨bk, bn, bt⟩ ⟨ak, an, at_⟩ w2).mono ?_
  rintro e w3 ⟨rfl, hL3⟩
  have HX3 := hid (hL3.obj HX2.out); have HY3 := hid (hL3.obj HY2.out); have HL3 := hid (Later.trans _ _ _ HL2.out hL3)
  have x1 := cell_obj (i := 1) HX3.out (v := .int .i64 ak) rfl
  have x2 := cell_obj (i := 2) HX3.out (v := .int .i64 an) rfl
  have x3 := cell_obj (i := 3) HX3.out (v := .string at_) rfl
  have y1 := cell_obj (i := 1) HY3.out (v := .int .i64 bk) rfl
  have y2 := cell_obj (i := 2) HY3.out (v := .int .i64 bn) rfl
  have y3 := cell_obj (i := 3) HY3.out (v := .string bt) rfl
  have hx := cell_lt x1
  have hy := cell_lt y1
  clear hL3 HL2 HX2 HY2
  obtain ⟨P, hP⟩ : ∃ P, P = beforeV ⟨bk, bn, bt⟩ ⟨ak, an, at_⟩ := ⟨_, rfl⟩
  obtain ⟨Q, hQ⟩ : ∃ Q, Q = beforeV ⟨ak, an, at_⟩ ⟨bk, bn, bt⟩ := ⟨_, rfl⟩
  have HB : Hid (betterR kind ⟨a1, ⟨ak, an, at_⟩⟩ ⟨b1, ⟨bk, bn, bt⟩⟩ = if kind = 3 then P else if kind = 4 then Q else if kind = 5 then decide (b1 < a1) || (decide (b1 = a1) && P) else decide (a1 < b1) || (decide (b1 = a1) && Q)) := hid (by rw [hP, hQ]; rfl)
  rw [← hP]
  have HP := hid hP; have HQ := hid hQ
  clear hP hQ
  go_wp2_with fail
  refine (before_any ⟨ak, an, at_⟩ ⟨bk, bn, bt⟩ w3).mono ?_
  rintro e w4 ⟨rfl, hL4⟩
  rw [← HQ.out]
  have HX4 := hid (hL4.obj HX3.out); have HY4 := hid (hL4.obj HY3.out); have HL4 := hid (Later.trans _ _ _ HL3.out hL4)
  clear hL4 HL3 HX3 HY3 x1 x2 x3 y1 y2 y3 hx hy
  have x0 := cell_obj (i := 0) HX4.out (v := .int .i64 a1) rfl
  have y0 := cell_obj (i := 0) HY4.out (v := .int .i64 b1) rfl
  have hx := cell_lt x0
  have hy := cell_lt y0
  by_cases h3 : kind = 3
  · subst h3
    go_wp2_with fail
    go_ret
    exact ⟨ret_bool (by rw [HB.out]; rfl), HL4.out⟩
  by_cases h4 : kind = 4
  · subst h4
    go_wp2_with fail
    go_ret
    exact ⟨ret_bool (by rw [HB.out]; rfl), HL4.out⟩
  have HB4 : Hid (betterR kind ⟨a1, ⟨ak, an, at_⟩⟩ ⟨b1, ⟨bk, bn, bt⟩⟩ = if kind = 5 then decide (b1 < a1) || (decide (b1 = a1) && P) else decide (a1 < b1) || (decide (b1 = a1) && Q)) := hid (by rw [HB.out, if_neg h3, if_neg h4])
  have h3' : (kind == 3) = false := beq_eq_false_iff_ne.2 h3
  have h4' : (kind == 4) = false := beq_eq_false_iff_ne.2 h4
  clear h3 h4 HB
  rcases Int.lt_trichotomy a1 b1 with hc | hc | hc
  · have HN := hid (show ¬ b1 < a1 by omega); have HN2 := hid (show ¬ b1 = a1 by omega); have HC := hid hc
    have hn : ¬ b1 < a1 := HN.out
    have hn2 : (b1 == a1) = false := beq_eq_false_iff_ne.2 HN2.out
    by_cases h5 : kind = 5
    · subst h5
      clear hc
      go_wp2_with fail
      go_ret
      exact ⟨ret_bool (by rw [HB4.out]; clear HB4; have q0 := HN.out; have q1 := HN2.out; have q2 := HC.out; cases P <;> cases Q <;> simp <;> omega), HL4.out⟩
    · have h5' : (kind == 5) = false := beq_eq_false_iff_ne.2 h5
      have H5 := hid h5
      clear h5 hn
      go_wp2_with fail
      go_ret
      exact ⟨ret_bool (by rw [HB4.out, if_neg H5.out]; clear HB4; have q0 := HN.out; have q1 := HN2.out; have q2 := HC.out; cases P <;> cases Q <;> simp <;> omega), HL4.out⟩
  · subst hc
    have hn : ¬ a1 < a1 := by omega
    by_cases h5 : kind = 5
    · subst h5
      go_wp2_with fail
      go_ret
      exact ⟨ret_bool (by rw [HB4.out]; clear HB4; cases P <;> cases Q <;> simp <;> omega), HL4.out⟩
    · have h5' : (kind == 5) = false := beq_eq_false_iff_ne.2 h5
      have H5 := hid h5
      clear h5
      go_wp2_with fail
      go_ret
      exact ⟨ret_bool (by rw [HB4.out, if_neg H5.out]; clear HB4; cases P <;> cases Q <;> simp <;> omega), HL4.out⟩
  · have HN := hid (show ¬ a1 < b1 by omega); have HN2 := hid (show ¬ b1 = a1 by omega); have HC := hid hc
    have hn : ¬ a1 < b1 := HN.out
    have hn2 : (b1 == a1) = false := beq_eq_false_iff_ne.2 HN2.out
    by_cases h5 : kind = 5
    · subst h5
      clear hn
      go_wp2_with fail
      go_ret
      exact ⟨ret_bool (by rw [HB4.out]; clear HB4; have q0 := HN.out; have q1 := HN2.out; have q2 := HC.out; cases P <;> cases Q <;> simp <;> omega), HL4.out⟩
    · have h5' : (kind == 5) = false := beq_eq_false_iff_ne.2 h5
      have H5 := hid h5
      clear h5 hc
      go_wp2_with fail
      go_ret
      exact ⟨ret_bool (by rw [HB4.out, if_neg H5.out]; clear HB4; have q0 := HN.out; have q1 := HN2.out; have q2 := HC.out; cases P <;> cases Q <;> simp <;> omega), HL4.out⟩
end Go.Proofs.YtcmpjdnbjhkhdaaDoor
