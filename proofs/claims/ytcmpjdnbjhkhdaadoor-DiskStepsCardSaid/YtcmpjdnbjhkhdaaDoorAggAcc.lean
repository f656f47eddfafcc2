/-
  PROVED HERE: the contracts of the methods Add and Value of what counts, adds up, chooses.
-/
import Derived.Test.YtcmpjdnbjhkhdaaDoorAggOrd
import Derived.Test.YtcmpjdnbjhkhdaaDoorOwn
import Derived.IntWalk
namespace Go.Proofs.YtcmpjdnbjhkhdaaDoor
set_option linter.unusedSimpArgs false
set_option linter.unusedVariables false
open Go.RowKit

def CntAt (w : World) (A : Nat) (n : Int) : Prop := w.heap[A]? = some (.cells #[.int .i64 n] 159 (0, 0))
def SumAt (w : World) (A : Nat) (s : Int × Int) : Prop := w.heap[A]? = some (.cells #[.int .i64 s.1, .int .i64 s.2] 162 (0, 0))
/-- what an Add leaves: a state, and all but its block as it was. -/
def AddTo (S : World → Prop) (A : Nat) (w : World) (e : Ending) (w' : World) : Prop := e = .returned (.tuple #[]) ∧ S w' ∧ Keeps (fun b => b ≠ A) w w'
def ValTo (x : Val) (w : World) (e : Ending) (w' : World) : Prop := e = .returned x.v ∧ Later w w'
def BoolTo (w : World) (b : Bool) (e : Ending) (w' : World) : Prop := e = .returned (.bool b) ∧ Later w w'
/-- a value written into a new block. -/
def put3 (w : World) (R : Nat) (x : Val) : World := ((w.setCell ⟨R, 0, none⟩ (.int .i64 x.k)).setCell ⟨R, 1, none⟩ (.int .i64 x.n)).setCell ⟨R, 2, none⟩ (.string x.t)
theorem put3_later {w0 w : World} (h : Later w0 w) {R : Nat} (hR : w0.heap.size ≤ R) (x : Val) : Later w0 (put3 w R x) := ((h.new (p := ⟨R, 0, none⟩) hR _).new (p := ⟨R, 1, none⟩) hR _).new (p := ⟨R, 2, none⟩) hR _
theorem put3_cells {w : World} {R : Nat} {a b c : Value} {T : TypeId} (h : w.heap[R]? = some (.cells #[a, b, c] T (0, 0))) (x : Val) : (put3 w R x).cell? ⟨R, 0, none⟩ = some (.int .i64 x.k) ∧ (put3 w R x).cell? ⟨R, 1, none⟩ = some (.int .i64 x.n) ∧ (put3 w R x).cell? ⟨R, 2, none⟩ = some (.string x.t) := by
  have h3 := obj_setCell (i := 2) (obj_setCell (i := 1) (obj_setCell (i := 0) h (.int .i64 x.k)) (.int .i64 x.n)) (.string x.t)
  exact ⟨cell_obj h3 rfl, cell_obj h3 rfl, cell_obj h3 rfl⟩
theorem of_any (n : Int) (w : World) : Calls Tryd.prog 59 #[.int .i64 n] w (ValTo (intV n) w) := by
  go_enter Tryd.func59, Tryd.ntmps59
  go_wp2_with fail
  exact bodyPost_ret (v := .agg #[.int .i64 1, .int .i64 n, .string ⟨#[]⟩]) (by simp [results, Tryd.results59, go_sem]) rfl ⟨rfl, Later.alloc _ _⟩
set_option maxRecDepth 100000 in
theorem cnt_add' (A : Nat) (n : Int) (cs : List Value) (T : TypeId) (t : TV) (w : World) (h : w.heap[A]? = some (.cells (.int .i64 n :: cs).toArray T (0, 0))) : Calls Tryd.prog 208 #[.pointer (some ⟨A, 0, none⟩), t.v] w (AddTo (fun w' => w'.heap[A]? = some (.cells (.int .i64 (wrap64 (n + 1)) :: cs).toArray T (0, 0))) A w) := by
  obtain ⟨a1, a2⟩ := t
  have HC := hid h
  have c0 := cell_obj (i := 0) h (v := .int .i64 n) rfl
  have f0 := free_obj (i := 0) h
  have hlt := (Array.getElem?_eq_some_iff.1 h).1
  clear h
  go_enter Tryd.func208, Tryd.ntmps208
  go_wp2_with fail
  refine bodyPost_end (v := .tuple #[]) (by simp [results, Tryd.results208, go_sem]) rfl ⟨rfl, ?_, ?_⟩
  · have h1 := obj_setCell (i := 0) HC.out (.int .i64 (wrap64 (n + 1)))
    exact (Later.alloc _ _).obj h1
  · exact ((Keeps.refl (fun b => b ≠ A) w).setCell (p := ⟨A, 0, none⟩) (.inl fun h => h rfl) _).alloc _
theorem cnt_add (A : Nat) (n : Int) (t : TV) (w : World) (h : CntAt w A n) : Calls Tryd.prog 208 #[.pointer (some ⟨A, 0, none⟩), t.v] w (AddTo (fun w' => CntAt w' A (wrap64 (n + 1))) A w) := cnt_add' A n [] _ t w h
set_option maxRecDepth 100000 in
theorem cnt_val (A : Nat) (n : Int) (w : World) (h : CntAt w A n) : Calls Tryd.prog 211 #[.pointer (some ⟨A, 0, none⟩)] w (ValTo (intV n) w) := by
  have c0 := cell_obj (i := 0) h (v := .int .i64 n) rfl
  have hlt := (Array.getElem?_eq_some_iff.1 h).1
  clear h
  go_enter Tryd.func211, Tryd.ntmps211
  go_wp2_with fail
  refine (of_any n _).mono ?_
  rintro e w1 ⟨rfl, hL1⟩
  have HX := hid (hL1.obj (obj_new w _))
  have HL := hid (Later.trans _ _ _ (Later.alloc _ _) hL1)
  have hs := hL1.size
  have fr := free_obj (i := 0) HX.out
  have fr1 := free_obj (i := 1) HX.out
  have fr2 := free_obj (i := 2) HX.out
  have x0 := cell_obj (i := 0) HX.out rfl
  have x1 := cell_obj (i := 1) HX.out rfl
  have x2 := cell_obj (i := 2) HX.out rfl
  clear hL1 hs
  go_wp2_with fail
  obtain ⟨wf, hwf⟩ : ∃ wf, wf = put3 w1 w.heap.size (intV n) := ⟨_, rfl⟩
  obtain ⟨e0, e1, e2⟩ := put3_cells HX.out (intV n)
  have HP := hid (put3_later HL.out (Nat.le_refl _) (intV n))
  rw [← hwf] at e0 e1 e2 HP
  change bodyPost _ _ _ _ _ (put3 w1 w.heap.size (intV n))
  rw [← hwf]
  clear hwf x0 x1 x2 fr fr1 fr2
  exact bodyPost_ret (v := (intV n).v) (by simp [results, Tryd.results211, go_sem, e0, e1, e2]) rfl ⟨rfl, HP.out⟩
set_option maxRecDepth 100000 in
theorem sum_add (A : Nat) (s : Int × Int) (t : TV) (w : World) (h : SumAt w A s) : Calls Tryd.prog 214 #[.pointer (some ⟨A, 0, none⟩), t.v] w (AddTo (fun w' => SumAt w' A (sumP s t)) A w) := by
  obtain ⟨s1, s2⟩ := s
  obtain ⟨a1, ⟨k, n, tx⟩⟩ := t
  have HC := hid h
  have hlt := (Array.getElem?_eq_some_iff.1 h).1
  clear h
  by_cases hk : k = 1
  · have HS : Hid (sumP (s1, s2) ⟨a1, ⟨k, n, tx⟩⟩ = (wrap64 (s1 + 1), wrap64 (s2 + n))) := hid (by unfold sumP; rw [if_pos hk])
    subst hk
    go_enter Tryd.func214, Tryd.ntmps214
    go_upto_region 2 with (fail)
    obtain ⟨w1, hw1⟩ : ∃ w1, w1 = w.alloc (.cells #[.int .i64 a1, .int .i64 1, .int .i64 n, .string tx] 36 (0, 0)) := ⟨_, rfl⟩
    obtain ⟨T, hT⟩ : ∃ T, T = w.heap.size := ⟨_, rfl⟩
    have HL1 : Hid (Later w w1) := hid (by rw [hw1]; exact Later.alloc _ _)
    have HT1 : Hid (w1.heap[T]? = some (.cells #[.int .i64 a1, .int .i64 1, .int .i64 n, .string tx] 36 (0, 0))) := hid (by rw [hw1, hT]; exact obj_new _ _)
    have HTA : Hid (T ≠ A) := hid (by omega)
    rw [← hw1, ← hT]
    clear hw1 hT hlt
    have t0 := cell_obj (i := 0) HT1.out rfl
    have t1 := cell_obj (i := 1) HT1.out rfl
    have t2 := cell_obj (i := 2) HT1.out rfl
    have t3 := cell_obj (i := 3) HT1.out rfl
    refine wp_region_plan (by kernel_rfl) (by kernel_rfl) [] [4] (by kernel_rfl) (fun _ _ d _ _ h => by cases d <;> exact h) (Later) (Later.refl) (Later.trans) (fun _ => none) (fun _ _ _ _ _ h => by cases h) ?_
    simp only [body, tail, numbered, Nat.reduceAdd, List.filter_cons, List.filter_nil, List.contains_cons, List.contains_nil, Nat.reduceBEq, Bool.or_false, Bool.or_true, Bool.false_or, Bool.true_or, Bool.not_true, Bool.not_false, Bool.and_true, Bool.and_false, Bool.true_and, Bool.false_and, if_true, if_false, reduceIte, Bool.false_eq_true, List.map_cons, List.map_nil]
    simp only [Pures]
    refine LexS.out ?_
    iterate 4
      first
      | (refine LexS.skip rfl ?_; simp only [Act.put, List.setIfInBounds_toArray, List.set])
      | (refine LexS.one' rfl rfl ?_
         apply Exists.intro
         refine ⟨fun w hR hF => ?_, ?_⟩
         · have hP := hR
           repeat (first | replace hP := Later.of_drew hP | replace hP := Later.of_drewN hP | replace hP := Later.of_alloc hP)
           have hcs := hR.cells
           have zt0 := hP.cell t0
           have zt1 := hP.cell t1
           have zt2 := hP.cell t2
           have zt3 := hP.cell t3
           clear hR hF hP
           go_simp
           first | done | rfl
         simp only [Act.put, List.setIfInBounds_toArray, List.set])
    refine LexS.nil ?_
    intro w2 hR2 hF9
    clear hF9
    repeat (first | replace hR2 := Later.of_drew hR2 | replace hR2 := Later.of_drewN hR2 | replace hR2 := Later.of_alloc hR2)
    have HL2 := hid (Later.trans _ _ _ HL1.out hR2)
    have HT2 := hid (hR2.obj HT1.out)
    have HC2 := hid (HL2.out.obj HC.out)
    clear hR2 t0 t1 t2 t3 HT1 HL1 HC
    change wpList _ _ _ _ _ _
    go_wp2_with fail
    refine (cnt_add' A s1 [.int .i64 s2] _ ⟨a1, ⟨1, n, tx⟩⟩ _ HC2.out).mono ?_
    rintro e w3 ⟨rfl, hC3, hk3⟩
    have HC3 := hid hC3; have HK3 := hid ((HL2.out.keeps (fun b => b ≠ A)).trans hk3)
    have HT3 := hid (hk3.obj HTA.out HT2.out)
    clear hC3 hk3 HC2 HL2 HT2
    go_wp2_with fail
    go_upto_region 3 with (fail)
    have c1 := cell_obj (i := 1) HC3.out (v := .int .i64 s2) rfl
    have t2 := cell_obj (i := 2) HT3.out rfl
    refine wp_region_plan (by kernel_rfl) (by kernel_rfl) [] [8, 9, 10] (by kernel_rfl) (fun _ _ d _ _ h => by cases d <;> exact h) (Later) (Later.refl) (Later.trans) (fun _ => none) (fun _ _ _ _ _ h => by cases h) ?_
    simp only [body, tail, numbered, Nat.reduceAdd, List.filter_cons, List.filter_nil, List.contains_cons, List.contains_nil, Nat.reduceBEq, Bool.or_false, Bool.or_true, Bool.false_or, Bool.true_or, Bool.not_true, Bool.not_false, Bool.and_true, Bool.and_false, Bool.true_and, Bool.false_and, if_true, if_false, reduceIte, Bool.false_eq_true, List.map_cons, List.map_nil]
    simp only [Pures]
    refine LexS.out ?_
    iterate 8
      first
      | (refine LexS.skip rfl ?_; simp only [Act.put, List.setIfInBounds_toArray, List.set])
      | (refine LexS.one' rfl rfl ?_
         apply Exists.intro
         refine ⟨fun w hR hF => ?_, ?_⟩
         · have hP := hR
           repeat (first | replace hP := Later.of_drew hP | replace hP := Later.of_drewN hP | replace hP := Later.of_alloc hP)
           have hcs := hR.cells
           have zc1 := hP.cell c1
           have zt2 := hP.cell t2
           clear hR hF hP
           go_simp
           first | done | rfl
         simp only [Act.put, List.setIfInBounds_toArray, List.set])
    refine LexS.nil ?_
    intro w4 hR4 hF9
    clear hF9
    repeat (first | replace hR4 := Later.of_drew hR4 | replace hR4 := Later.of_drewN hR4 | replace hR4 := Later.of_alloc hR4)
    have HC4 := hid (hR4.obj HC3.out)
    have HK4 := hid (HK3.out.more hR4)
    have c1 := cell_obj (i := 1) HC4.out (v := .int .i64 s2) rfl
    have f1 := free_obj (i := 1) HC4.out
    clear hR4 HC3 HK3 HT3
    change wpList _ _ _ _ _ _
    go_wp2_with fail
    refine bodyPost_end (v := .tuple #[]) (by simp [results, Tryd.results214, go_sem]) rfl ⟨rfl, ?_, ?_⟩
    · rw [HS.out]
      exact obj_setCell (i := 1) HC4.out (.int .i64 (wrap64 (s2 + n)))
    · exact HK4.out.setCell (p := ⟨A, 1, none⟩) (.inl fun h => h rfl) _
  · have HS : Hid (sumP (s1, s2) ⟨a1, ⟨k, n, tx⟩⟩ = (s1, s2)) := hid (by unfold sumP; rw [if_neg hk])
    have hk2 : (k == 1) = false := beq_eq_false_iff_ne.2 hk
    go_enter Tryd.func214, Tryd.ntmps214
    go_wp2_with fail
    refine bodyPost_end (v := .tuple #[]) (by simp [results, Tryd.results214, go_sem]) rfl ⟨rfl, ?_, (Later.alloc _ _).keeps _⟩
    rw [HS.out]
    exact (Later.alloc _ _).obj HC.out
def sumV (s : Int × Int) : Val := if s.1 = 0 then nilV else intV s.2
set_option maxRecDepth 100000 in
theorem sum_val (A : Nat) (s : Int × Int) (w : World) (h : SumAt w A s) : Calls Tryd.prog 217 #[.pointer (some ⟨A, 0, none⟩)] w (ValTo (sumV s) w) := by
  obtain ⟨s1, s2⟩ := s
  have c0 := cell_obj (i := 0) h (v := .int .i64 s1) rfl
  have c1 := cell_obj (i := 1) h (v := .int .i64 s2) rfl
  have hlt := (Array.getElem?_eq_some_iff.1 h).1
  clear h
  by_cases h0 : s1 = 0
  · have HS : Hid (sumV (s1, s2) = nilV) := hid (if_pos h0)
    subst h0
    go_enter Tryd.func217, Tryd.ntmps217
    go_wp2_with fail
    rw [HS.out]
    exact bodyPost_ret (v := .agg #[.int .i64 0, .int .i64 0, .string ⟨#[]⟩]) (by simp [results, Tryd.results217, go_sem]) rfl ⟨rfl, Later.alloc _ _⟩
  · have HS : Hid (sumV (s1, s2) = intV s2) := hid (if_neg h0)
    have h02 : (s1 == 0) = false := beq_eq_false_iff_ne.2 h0
    clear h0
    go_enter Tryd.func217, Tryd.ntmps217
    go_wp2_with fail
    refine (of_any s2 _).mono ?_
    rintro e w1 ⟨rfl, hL1⟩
    have HX := hid (hL1.obj (obj_new w _))
    have HL := hid (Later.trans _ _ _ (Later.alloc _ _) hL1)
    have hs := hL1.size
    have fr := free_obj (i := 0) HX.out
    have fr1 := free_obj (i := 1) HX.out
    have fr2 := free_obj (i := 2) HX.out
    have x0 := cell_obj (i := 0) HX.out rfl
    have x1 := cell_obj (i := 1) HX.out rfl
    have x2 := cell_obj (i := 2) HX.out rfl
    clear hL1 hs
    go_wp2_with fail
    obtain ⟨wf, hwf⟩ : ∃ wf, wf = put3 w1 w.heap.size (intV s2) := ⟨_, rfl⟩
    obtain ⟨e0, e1, e2⟩ := put3_cells HX.out (intV s2)
    have HP := hid (put3_later HL.out (Nat.le_refl _) (intV s2))
    rw [← hwf] at e0 e1 e2 HP
    change bodyPost _ _ _ _ _ (put3 w1 w.heap.size (intV s2))
    rw [← hwf]
    clear hwf x0 x1 x2 fr fr1 fr2
    exact bodyPost_ret (v := (intV s2).v) (by simp [results, Tryd.results217, go_sem, e0, e1, e2]) rfl ⟨by rw [HS.out], HP.out⟩
end Go.Proofs.YtcmpjdnbjhkhdaaDoor
