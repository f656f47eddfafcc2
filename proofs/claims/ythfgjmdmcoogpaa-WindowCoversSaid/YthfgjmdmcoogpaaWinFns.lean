/-
  PROVED HERE: the contracts of window.Meet, window.Compare, of the document's Meet and Before, of the two functions that window.Merge hands on.
-/
import Derived.Test.YthfgjmdmcoogpaaWinOwn
import Derived.Test.YthfgjmdmcoogpaaWinValid
import Derived.Test.YthfgjmdmcoogpaaCmpN
import Derived.Test.YthfgjmdmcoogpaaMergePlain
import Derived.Sort.Grow
namespace Go.Proofs.Ythfgjmdmcoogpaa
set_option linter.unusedSimpArgs false
set_option linter.unusedVariables false
open Go.RowKit

theorem wmeet_any (a b : Win) (w : World) : Calls Try.prog 9 #[.agg #[.int .i64 a.1, .int .i64 a.2], .agg #[.int .i64 b.1, .int .i64 b.2]] w (BoolW w (meetW a b)) := by
  obtain ⟨a1, a2⟩ := a
  obtain ⟨b1, b2⟩ := b
  by_cases h1 : a1 < b2 <;> by_cases h2 : b1 < a2
  all_goals
    have HM := hid (show meetW (a1, a2) (b1, b2) = (decide (a1 < b2) && decide (b1 < a2)) from rfl)
    go_enter Try.func9, Try.ntmps9
    go_wp2
    go_ret
    exact ⟨ret_bool (by rw [HM.out]; simp [*] <;> omega), Later.trans _ _ _ (Later.alloc _ _) (Later.alloc _ _)⟩
theorem rmeet_any (a b : Win) (w : World) : Calls Try.prog 10 #[.agg #[.int .i64 a.1, .int .i64 a.2], .agg #[.int .i64 b.1, .int .i64 b.2]] w (BoolW w (meetW a b)) := by
  obtain ⟨a1, a2⟩ := a
  obtain ⟨b1, b2⟩ := b
  by_cases h1 : a1 < b2 <;> by_cases h2 : b1 < a2
  all_goals
    have HM := hid (show meetW (a1, a2) (b1, b2) = (decide (a1 < b2) && decide (b1 < a2)) from rfl)
    go_enter Try.func10, Try.ntmps10
    go_wp2
    go_ret
    exact ⟨ret_bool (by rw [HM.out]; simp [*] <;> omega), Later.trans _ _ _ (Later.alloc _ _) (Later.alloc _ _)⟩
def beforeW (a b : Win) : Bool := decide (a.2 < b.2 ∨ a.2 = b.2 ∧ a.1 < b.1)
theorem rbefore_any (a b : Win) (w : World) : Calls Try.prog 12 #[.agg #[.int .i64 a.1, .int .i64 a.2], .agg #[.int .i64 b.1, .int .i64 b.2]] w (BoolW w (beforeW a b)) := by
  obtain ⟨a1, a2⟩ := a
  obtain ⟨b1, b2⟩ := b
  rcases Int.lt_trichotomy a2 b2 with h | h | h
  · have HM := hid (show beforeW (a1, a2) (b1, b2) = decide (a2 < b2 ∨ a2 = b2 ∧ a1 < b1) from rfl)
    have H := hid h
    go_enter Try.func12, Try.ntmps12
    go_wp2
    go_ret
    exact ⟨ret_bool (by rw [HM.out]; have := H.out; exact (decide_eq_true (.inl this)).symm), Later.trans _ _ _ (Later.alloc _ _) (Later.alloc _ _)⟩
  · subst h
    by_cases h3 : a1 < b1
    all_goals
      have HM := hid (show beforeW (a1, a2) (b1, a2) = decide (a2 < a2 ∨ a2 = a2 ∧ a1 < b1) from rfl)
      have H := hid h3
      go_enter Try.func12, Try.ntmps12
      go_wp2
      go_ret
      exact ⟨ret_bool (by rw [HM.out]; have := H.out; simp [*] <;> omega), Later.trans _ _ _ (Later.alloc _ _) (Later.alloc _ _)⟩
  · have HM := hid (show beforeW (a1, a2) (b1, b2) = decide (a2 < b2 ∨ a2 = b2 ∧ a1 < b1) from rfl)
    have H := hid h
    have hne : ¬ a2 = b2 := by omega
    have hne2 : ¬ a2 < b2 := by omega
    clear h
    go_enter Try.func12, Try.ntmps12
    go_wp2
    go_ret
    exact ⟨ret_bool (by rw [HM.out]; have := H.out; exact (decide_eq_false (by omega)).symm), Later.trans _ _ _ (Later.alloc _ _) (Later.alloc _ _)⟩
theorem del_any (a : Win) (w : World) : Calls Try.prog 20 #[.agg #[.int .i64 a.1, .int .i64 a.2]] w (BoolW w (!keepW a)) := by
  obtain ⟨a1, a2⟩ := a
  by_cases h1 : a1 < a2
  all_goals
    have HM := hid (show keepW (a1, a2) = decide (a1 < a2) from rfl)
    go_enter Try.func20, Try.ntmps20
    go_wp2
    go_ret
    exact ⟨ret_bool (by rw [HM.out]; simp [*] <;> omega), Later.alloc _ _⟩
open Go.Sort in
theorem ord_any (a b : Win) (w : World) : Calls Try.prog 22 #[.agg #[.int .i64 a.1, .int .i64 a.2], .agg #[.int .i64 b.1, .int .i64 b.2]] w fun e w' => e = .returned (.int .i64 (cmpI a.1 b.1)) ∧ ∃ q os', w' = grow (w.drewN q) os' := by
  obtain ⟨a1, a2⟩ := a
  obtain ⟨b1, b2⟩ := b
  go_enter Try.func22, Try.ntmps22
  go_wp2_with (go_at_call 23; refine (cmpN a1 b1 _).mono ?_; rintro e w' ⟨rfl, rfl⟩)
  go_ret
  exact ⟨rfl, 0, _, by rw [alloc_eq_grow, alloc_eq_grow, grow_grow]; rfl⟩
def IntW (w : World) (n : Int) (e : Ending) (w' : World) : Prop := e = .returned (.int .i64 n) ∧ Later w w'
theorem wcompare_any (a b : Win) (w : World) : Calls Try.prog 11 #[.agg #[.int .i64 a.1, .int .i64 a.2], .agg #[.int .i64 b.1, .int .i64 b.2]] w (IntW w (orL [cmpI a.2 b.2, cmpI a.1 b.1])) := by
  obtain ⟨a1, a2⟩ := a
  obtain ⟨b1, b2⟩ := b
  go_enter Try.func11, Try.ntmps11
  go_wp2
  refine wp_region_lex (by kernel_rfl) (by kernel_rfl) Later Later.refl Later.trans (kinds [(4, fun v _ => v = .int .i64 (cmpI a2 b2)), (9, fun v _ => v = .int .i64 (cmpI a1 b1)), (10, fun v w => ∃ b, v = .slice (some ⟨b, 0, none⟩) 2 2 ∧ w.heap[b]? = some (.cells #[.int .i64 (cmpI a2 b2), .int .i64 (cmpI a1 b1)] 3 (0, 0))), (11, fun v _ => v = .int .i64 (orL [cmpI a2 b2, cmpI a1 b1]))]) (kinds_still (by simp only [List.mem_cons, List.not_mem_nil, or_false, forall_eq_or_imp, forall_eq]; exact ⟨fun _ _ _ _ h => h, fun _ _ _ _ h => h, fun _ _ _ hR ⟨b, h, h'⟩ => ⟨b, h, hR.obj h'⟩, fun _ _ _ _ h => h⟩)) ?_
  simp only [numbered, Nat.reduceAdd]
  iterate 4
    first
    | (refine Lex.skip rfl ?_; simp only [Act.put, List.setIfInBounds_toArray, List.set])
    | (refine Lex.one' rfl rfl ?_
       apply Exists.intro
       refine ⟨fun w hR hF => ?_, ?_⟩
       · have hP := hR
         repeat (first | replace hP := Later.of_drew hP | replace hP := Later.of_drewN hP | replace hP := Later.of_alloc hP)
         have hcs := hR.cells
         clear hR hF hP
         go_simp
         first | done | rfl
       simp only [Act.put, List.setIfInBounds_toArray, List.set])
  refine Lex.anyEq rfl rfl (fun w hR hF => ?_) ?_
  · have hP := hR
    repeat (first | replace hP := Later.of_drew hP | replace hP := Later.of_drewN hP | replace hP := Later.of_alloc hP)
    have hcs := hR.cells
    clear hF hR
    unfold Runs
    go_simp
    unfold Yield
    refine (cmpN a2 b2 _).mono ?_
    rintro e w' ⟨rfl, rfl⟩
    exact ⟨_, rfl, Later.refl _, rfl⟩
  simp only [Act.put, List.setIfInBounds_toArray, List.set]
  iterate 4
    first
    | (refine Lex.skip rfl ?_; simp only [Act.put, List.setIfInBounds_toArray, List.set])
    | (refine Lex.one' rfl rfl ?_
       apply Exists.intro
       refine ⟨fun w hR hF => ?_, ?_⟩
       · have hP := hR
         repeat (first | replace hP := Later.of_drew hP | replace hP := Later.of_drewN hP | replace hP := Later.of_alloc hP)
         have hcs := hR.cells
         clear hR hF hP
         go_simp
         first | done | rfl
       simp only [Act.put, List.setIfInBounds_toArray, List.set])
  refine Lex.anyEq rfl rfl (fun w hR hF => ?_) ?_
  · have hP := hR
    repeat (first | replace hP := Later.of_drew hP | replace hP := Later.of_drewN hP | replace hP := Later.of_alloc hP)
    have hcs := hR.cells
    clear hF hR
    unfold Runs
    go_simp
    unfold Yield
    refine (cmpN a1 b1 _).mono ?_
    rintro e w' ⟨rfl, rfl⟩
    exact ⟨_, rfl, Later.refl _, rfl⟩
  simp only [Act.put, List.setIfInBounds_toArray, List.set]
  refine Lex.any rfl rfl (fun w hR hF => ?_) ?_
  · clear hF hR
    unfold Runs
    go_simp
    exact yield_value (Later.alloc _ _) ⟨_, rfl, obj_new _ _⟩
  rintro v15 ⟨w2, hR2, hF2⟩
  obtain ⟨b, rfl, -⟩ := hF2 _ List.mem_cons_self _ rfl
  clear hF2 hR2 w2
  simp only [Act.put, List.setIfInBounds_toArray, List.set]
  refine Lex.anyEq rfl rfl (fun w hR hF => ?_) ?_
  · obtain ⟨b', hb, h15⟩ := hF _ List.mem_cons_self (by kernel_rfl) _ rfl
    simp only [Value.slice.injEq, Option.some.injEq, Addr.mk.injEq] at hb
    obtain ⟨⟨rfl, -, -⟩, -, -⟩ := hb
    clear hF hR
    unfold Runs
    go_simp
    refine yield_enter ?_
    refine (or_any b [cmpI a2 b2, cmpI a1 b1] 2 w (by simp) ?_).mono ?_
    · intro i hi
      exact cell_obj h15 (by simp only [List.getElem?_toArray, List.length_cons, List.length_nil] at hi ⊢; match i, hi with | 0, _ => rfl | 1, _ => rfl)
    · rintro e w' ⟨rfl, rfl⟩
      exact ⟨_, rfl, Later.refl _, rfl⟩
  simp only [Act.put, List.setIfInBounds_toArray, List.set]
  iterate 1
    first
    | (refine Lex.skip rfl ?_; simp only [Act.put, List.setIfInBounds_toArray, List.set])
    | (refine Lex.one' rfl rfl ?_
       apply Exists.intro
       refine ⟨fun w hR hF => ?_, ?_⟩
       · have hP := hR
         repeat (first | replace hP := Later.of_drew hP | replace hP := Later.of_drewN hP | replace hP := Later.of_alloc hP)
         have hcs := hR.cells
         clear hR hF hP
         go_simp
         first | done | rfl
       simp only [Act.put, List.setIfInBounds_toArray, List.set])
  intro w1 hR1 hF9
  clear hF9
  go_wp2
  go_ret
  repeat (first | replace hR1 := Later.of_drew hR1 | replace hR1 := Later.of_drewN hR1 | replace hR1 := Later.of_alloc hR1)
  exact ⟨rfl, hR1⟩
theorem compare_before (a b : Win) : (decide (orL [cmpI a.2 b.2, cmpI a.1 b.1] < 0) = beforeW a b) ∧ (decide (0 < orL [cmpI a.2 b.2, cmpI a.1 b.1]) = beforeW b a) := by
  have e : orL [cmpI a.2 b.2, cmpI a.1 b.1] = if cmpI a.2 b.2 = 0 then cmpI a.1 b.1 else cmpI a.2 b.2 := by
    unfold orL
    by_cases h1 : cmpI a.2 b.2 = 0 <;> by_cases h2 : cmpI a.1 b.1 = 0 <;> simp [h1, h2]
  rw [e]
  unfold beforeW cmpI
  constructor <;> rw [Bool.eq_iff_iff, decide_eq_true_eq, decide_eq_true_eq] <;> (repeat' split) <;> omega
end Go.Proofs.Ythfgjmdmcoogpaa
