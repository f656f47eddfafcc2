/-
  PROVED HERE: the contracts of agg.byValue, agg.byTime and of the closures that choose by them.
-/
import Derived.Test.YtcmpjdnbjhkhdaaDoorAggPlain
import Derived.Test.YtcmpjdnbjhkhdaaDoorValue
import Derived.Test.YtcmpjdnbjhkhdaaDoorLexS
namespace Go.Proofs.YtcmpjdnbjhkhdaaDoor
set_option linter.unusedSimpArgs false
set_option linter.unusedVariables false
open Go.RowKit

abbrev TV.v (x : TV) : Value := .agg #[.int .i64 x.time, .int .i64 x.val.k, .int .i64 x.val.n, .string x.val.t]
def CmpTo (w : World) (n : Int) (e : Ending) (w' : World) : Prop := e = .returned (.int .i64 n) ∧ Later w w'
set_option maxRecDepth 100000 in
set_option maxHeartbeats 1000000 in
theorem byValue_any (a b : TV) (w : World) : Calls Tryd.prog 82 #[a.v, b.v] w (CmpTo w (byValue a b)) := by
  obtain ⟨a1, a2⟩ := a
  obtain ⟨b1, b2⟩ := b
  unfold byValue
  go_enter Tryd.func82, Tryd.ntmps82
  go_wp2_with fail
  refine wp_region_lex (by kernel_rfl) (by kernel_rfl) Later Later.refl Later.trans (kinds [(4, fun v _ => v = .int .i64 (compareV a2 b2)), (9, fun v _ => v = .int .i64 (cmpI a1 b1)), (10, fun v w => ∃ b, v = .slice (some ⟨b, 0, none⟩) 2 2 ∧ w.heap[b]? = some (.cells #[.int .i64 (compareV a2 b2), .int .i64 (cmpI a1 b1)] 3 (0, 0))), (11, fun v _ => v = .int .i64 (orL [compareV a2 b2, cmpI a1 b1]))]) (kinds_still (by simp only [List.mem_cons, List.not_mem_nil, or_false, forall_eq_or_imp, forall_eq]; exact ⟨fun _ _ _ _ h => h, fun _ _ _ _ h => h, fun _ _ _ hR ⟨b, h, h'⟩ => ⟨b, h, hR.obj h'⟩, fun _ _ _ _ h => h⟩)) ?_
  simp only [numbered, Nat.reduceAdd]
  refine LexS.out ?_
  iterate 4
    first
    | (refine LexS.skip rfl ?_; simp only [Act.put, List.setIfInBounds_toArray, List.set])
    | (refine LexS.one' rfl rfl ?_
       apply Exists.intro
       refine ⟨fun w hR hF => ?_, ?_⟩
       · have hP := hR
         repeat (first | replace hP := Later.of_drew hP | replace hP := Later.of_drewN hP | replace hP := Later.of_alloc hP)
         have hcs := hR.cells
         clear hR hF hP
         go_simp
         first | done | rfl
       simp only [Act.put, List.setIfInBounds_toArray, List.set])
  refine LexS.anyEq rfl rfl (fun w hR hF => ?_) ?_
  · have hP := hR
    repeat (first | replace hP := Later.of_drew hP | replace hP := Later.of_drewN hP | replace hP := Later.of_alloc hP)
    have hcs := hR.cells
    clear hF hR
    unfold Runs
    go_simp
    unfold Yield
    refine (compare_any a2 b2 _).mono ?_
    rintro e w' ⟨rfl, hL⟩
    exact ⟨_, rfl, hL, rfl⟩
  simp only [Act.put, List.setIfInBounds_toArray, List.set]
  iterate 4
    first
    | (refine LexS.skip rfl ?_; simp only [Act.put, List.setIfInBounds_toArray, List.set])
    | (refine LexS.one' rfl rfl ?_
       apply Exists.intro
       refine ⟨fun w hR hF => ?_, ?_⟩
       · have hP := hR
         repeat (first | replace hP := Later.of_drew hP | replace hP := Later.of_drewN hP | replace hP := Later.of_alloc hP)
         have hcs := hR.cells
         clear hR hF hP
         go_simp
         first | done | rfl
       simp only [Act.put, List.setIfInBounds_toArray, List.set])
  refine LexS.anyEq rfl rfl (fun w hR hF => ?_) ?_
  · have hP := hR
    repeat (first | replace hP := Later.of_drew hP | replace hP := Later.of_drewN hP | replace hP := Later.of_alloc hP)
    have hcs := hR.cells
    clear hF hR
    unfold Runs
    go_simp
    unfold Yield
    refine (cmpN a1 b1 _).mono ?_
    rintro e w' ⟨rfl, rfl⟩
    exact ⟨_, rfl, Later.refl _, rfl⟩
  simp only [Act.put, List.setIfInBounds_toArray, List.set]
  refine LexS.any rfl rfl (fun w hR hF => ?_) ?_
  · clear hF hR
    unfold Runs
    go_simp
    exact yield_value (Later.alloc _ _) ⟨_, rfl, obj_new _ _⟩
  rintro v15 ⟨w2, hR2, hF2⟩
  obtain ⟨b, rfl, -⟩ := hF2 _ List.mem_cons_self _ rfl
  clear hF2 hR2 w2
  simp only [Act.put, List.setIfInBounds_toArray, List.set]
  refine LexS.anyEq rfl rfl (fun w hR hF => ?_) ?_
  · obtain ⟨b', hb, h15⟩ := hF _ List.mem_cons_self (by kernel_rfl) _ rfl
    simp only [Value.slice.injEq, Option.some.injEq, Addr.mk.injEq] at hb
    obtain ⟨⟨rfl, -, -⟩, -, -⟩ := hb
    clear hF hR
    unfold Runs
    go_simp
    refine yield_enter ?_
    refine (or_any b [compareV a2 b2, cmpI a1 b1] 2 w (by simp) ?_).mono ?_
    · intro i hi
      exact cell_obj h15 (by simp only [List.getElem?_toArray, List.length_cons, List.length_nil] at hi ⊢; match i, hi with | 0, _ => rfl | 1, _ => rfl)
    · rintro e w' ⟨rfl, rfl⟩
      exact ⟨_, rfl, Later.refl _, rfl⟩
  simp only [Act.put, List.setIfInBounds_toArray, List.set]
  iterate 1
    first
    | (refine LexS.skip rfl ?_; simp only [Act.put, List.setIfInBounds_toArray, List.set])
    | (refine LexS.one' rfl rfl ?_
       apply Exists.intro
       refine ⟨fun w hR hF => ?_, ?_⟩
       · have hP := hR
         repeat (first | replace hP := Later.of_drew hP | replace hP := Later.of_drewN hP | replace hP := Later.of_alloc hP)
         have hcs := hR.cells
         clear hR hF hP
         go_simp
         first | done | rfl
       simp only [Act.put, List.setIfInBounds_toArray, List.set])
  refine LexS.nil ?_
  intro w1 hR1 hF9
  clear hF9
  go_wp2_with fail
  go_ret
  repeat (first | replace hR1 := Later.of_drew hR1 | replace hR1 := Later.of_drewN hR1 | replace hR1 := Later.of_alloc hR1)
  exact ⟨rfl, hR1⟩
set_option maxRecDepth 100000 in
set_option maxHeartbeats 1000000 in
theorem byTime_any (a b : TV) (w : World) : Calls Tryd.prog 83 #[a.v, b.v] w (CmpTo w (byTime a b)) := by
  obtain ⟨a1, a2⟩ := a
  obtain ⟨b1, b2⟩ := b
  unfold byTime
  go_enter Tryd.func83, Tryd.ntmps83
  go_wp2_with fail
  refine wp_region_lex (by kernel_rfl) (by kernel_rfl) Later Later.refl Later.trans (kinds [(4, fun v _ => v = .int .i64 (cmpI a1 b1)), (9, fun v _ => v = .int .i64 (compareV a2 b2)), (10, fun v w => ∃ b, v = .slice (some ⟨b, 0, none⟩) 2 2 ∧ w.heap[b]? = some (.cells #[.int .i64 (cmpI a1 b1), .int .i64 (compareV a2 b2)] 3 (0, 0))), (11, fun v _ => v = .int .i64 (orL [cmpI a1 b1, compareV a2 b2]))]) (kinds_still (by simp only [List.mem_cons, List.not_mem_nil, or_false, forall_eq_or_imp, forall_eq]; exact ⟨fun _ _ _ _ h => h, fun _ _ _ _ h => h, fun _ _ _ hR ⟨b, h, h'⟩ => ⟨b, h, hR.obj h'⟩, fun _ _ _ _ h => h⟩)) ?_
  simp only [numbered, Nat.reduceAdd]
  refine LexS.out ?_
  iterate 4
    first
    | (refine LexS.skip rfl ?_; simp only [Act.put, List.setIfInBounds_toArray, List.set])
    | (refine LexS.one' rfl rfl ?_
       apply Exists.intro
       refine ⟨fun w hR hF => ?_, ?_⟩
       · have hP := hR
         repeat (first | replace hP := Later.of_drew hP | replace hP := Later.of_drewN hP | replace hP := Later.of_alloc hP)
         have hcs := hR.cells
         clear hR hF hP
         go_simp
         first | done | rfl
       simp only [Act.put, List.setIfInBounds_toArray, List.set])
  refine LexS.anyEq rfl rfl (fun w hR hF => ?_) ?_
  · have hP := hR
    repeat (first | replace hP := Later.of_drew hP | replace hP := Later.of_drewN hP | replace hP := Later.of_alloc hP)
    have hcs := hR.cells
    clear hF hR
    unfold Runs
    go_simp
    unfold Yield
    refine (cmpN a1 b1 _).mono ?_
    rintro e w' ⟨rfl, rfl⟩
    exact ⟨_, rfl, Later.refl _, rfl⟩
  simp only [Act.put, List.setIfInBounds_toArray, List.set]
  iterate 4
    first
    | (refine LexS.skip rfl ?_; simp only [Act.put, List.setIfInBounds_toArray, List.set])
    | (refine LexS.one' rfl rfl ?_
       apply Exists.intro
       refine ⟨fun w hR hF => ?_, ?_⟩
       · have hP := hR
         repeat (first | replace hP := Later.of_drew hP | replace hP := Later.of_drewN hP | replace hP := Later.of_alloc hP)
         have hcs := hR.cells
         clear hR hF hP
         go_simp
         first | done | rfl
       simp only [Act.put, List.setIfInBounds_toArray, List.set])
  refine LexS.anyEq rfl rfl (fun w hR hF => ?_) ?_
  · have hP := hR
    repeat (first | replace hP := Later.of_drew hP | replace hP := Later.of_drewN hP | replace hP := Later.of_alloc hP)
    have hcs := hR.cells
    clear hF hR
    unfold Runs
    go_simp
    unfold Yield
    refine (compare_any a2 b2 _).mono ?_
    rintro e w' ⟨rfl, hL⟩
    exact ⟨_, rfl, hL, rfl⟩
  simp only [Act.put, List.setIfInBounds_toArray, List.set]
  refine LexS.any rfl rfl (fun w hR hF => ?_) ?_
  · clear hF hR
    unfold Runs
    go_simp
    exact yield_value (Later.alloc _ _) ⟨_, rfl, obj_new _ _⟩
  rintro v15 ⟨w2, hR2, hF2⟩
  obtain ⟨b, rfl, -⟩ := hF2 _ List.mem_cons_self _ rfl
  clear hF2 hR2 w2
  simp only [Act.put, List.setIfInBounds_toArray, List.set]
  refine LexS.anyEq rfl rfl (fun w hR hF => ?_) ?_
  · obtain ⟨b', hb, h15⟩ := hF _ List.mem_cons_self (by kernel_rfl) _ rfl
    simp only [Value.slice.injEq, Option.some.injEq, Addr.mk.injEq] at hb
    obtain ⟨⟨rfl, -, -⟩, -, -⟩ := hb
    clear hF hR
    unfold Runs
    go_simp
    refine yield_enter ?_
    refine (or_any b [cmpI a1 b1, compareV a2 b2] 2 w (by simp) ?_).mono ?_
    · intro i hi
      exact cell_obj h15 (by simp only [List.getElem?_toArray, List.length_cons, List.length_nil] at hi ⊢; match i, hi with | 0, _ => rfl | 1, _ => rfl)
    · rintro e w' ⟨rfl, rfl⟩
      exact ⟨_, rfl, Later.refl _, rfl⟩
  simp only [Act.put, List.setIfInBounds_toArray, List.set]
  iterate 1
    first
    | (refine LexS.skip rfl ?_; simp only [Act.put, List.setIfInBounds_toArray, List.set])
    | (refine LexS.one' rfl rfl ?_
       apply Exists.intro
       refine ⟨fun w hR hF => ?_, ?_⟩
       · have hP := hR
         repeat (first | replace hP := Later.of_drew hP | replace hP := Later.of_drewN hP | replace hP := Later.of_alloc hP)
         have hcs := hR.cells
         clear hR hF hP
         go_simp
         first | done | rfl
       simp only [Act.put, List.setIfInBounds_toArray, List.set])
  refine LexS.nil ?_
  intro w1 hR1 hF9
  clear hF9
  go_wp2_with fail
  go_ret
  repeat (first | replace hR1 := Later.of_drew hR1 | replace hR1 := Later.of_drewN hR1 | replace hR1 := Later.of_alloc hR1)
  exact ⟨rfl, hR1⟩
end Go.Proofs.YtcmpjdnbjhkhdaaDoor
