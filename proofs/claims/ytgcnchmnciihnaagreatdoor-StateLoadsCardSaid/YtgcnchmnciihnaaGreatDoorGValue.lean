/-
  PROVED HERE: lists of values: their order.
  PROVED HERE: the contracts of value.Compare, value.CompareRows with the word that draws are not taken back: what a sort asks of its comparison.
  PROVED HERE: the contracts of window.Compare and state.Compare, with the word that draws are not taken back.
-/
import Derived.Test.YtgcnchmnciihnaaGreatDoorGPutAt
import Derived.Test.YtgcnchmnciihnaaGreatDoorGOrdTotal
import Derived.Sort.Grow
namespace Go.Proofs.YtgcnchmnciihnaaGreatDoor
set_option linter.unusedSimpArgs false
set_option linter.unusedVariables false
open Go.RowKit

set_option maxRecDepth 100000 in
theorem compare_list (a b : List Val) (v u : Value) (w : World) (ha : IsVals w v a) (hb : IsVals w u b) :
    Calls Tryz.prog 75 #[v, u, .func (.func 76) #[] #[]] w fun e w' => e = .returned (.int .i64 (compareL a b)) ∧ Later w w' := by
  obtain ⟨p, c, rfl, hac, hcm, -, hea⟩ := ha
  obtain ⟨q, d, rfl, hbd, hdm, -, heb⟩ := hb
  unfold maxLen at hcm hdm
  go_enter Tryz.func75, Tryz.ntmps75
  go_wp2
  go_loopw [13] (fun i wr => ∃ n : Nat, n ≤ a.length ∧ n ≤ b.length ∧ i = .int .i64 n ∧ Later w wr ∧ Hid (compareL a b = compareL (a.drop n) (b.drop n))) (fun i _ => a.length - (intOf i).toNat)
  case atStart => exact ⟨0, by omega, by omega, rfl, Later.refl _, rfl⟩
  case round =>
    obtain ⟨n, hn1, hn2, rfl, hL, hq⟩ := hrel
    by_cases h1 : n < a.length
    · obtain ⟨b1, o1, rfl, -, e1⟩ := hea n h1
      obtain ⟨p1, p2, p3⟩ := e1.later hL
      have HA := hid hea; have HB := hid heb; clear hea heb e1
      have hd1 : a.drop n = a[n] :: a.drop (n + 1) := List.drop_eq_getElem_cons h1
      have HD1 := hid hd1; clear hd1
      by_cases h2 : n < b.length
      · obtain ⟨b2, o2, rfl, -, e2⟩ := HB.out n h2
        obtain ⟨q1, q2, q3⟩ := e2.later hL
        clear e2
        have hd2 : b.drop n = b[n] :: b.drop (n + 1) := List.drop_eq_getElem_cons h2
        have HD2 := hid hd2; clear hd2
        have hl1 := cell_lt p1
        have hl2 := cell_lt q1
        generalize hx : a[n] = x at *
        generalize hy : b[n] = y at *
        clear hx hy
        by_cases hc : compareV x y = 0
        · have HC := hid hc
          go_wp2_with (go_at_call 76; refine (compare_any x y _).mono ?_; rintro e w2 ⟨rfl, hL2⟩)
          repeat (first | replace hL2 := Later.of_drew hL2 | replace hL2 := Later.of_drewN hL2 | replace hL2 := Later.of_alloc hL2)
          go_roundw
          case rel => exact ⟨n + 1, by omega, by omega, by go_num, Later.trans _ _ _ hL hL2, hid (hq.out.trans (by rw [HD1.out, HD2.out]; simp only [compareL, HC.out, if_true]))⟩
          case measure => simp [intOf]; omega
        · have hc' : (compareV x y != 0) = true := by simpa using hc
          have HR : Hid (compareL a b = compareV x y) := hid (hq.out.trans (by rw [HD1.out, HD2.out]; simp only [compareL, hc, if_false]))
          clear hc
          go_wp2_with (go_at_call 76; refine (compare_any x y _).mono ?_; rintro e w2 ⟨rfl, hL2⟩)
          repeat (first | replace hL2 := Later.of_drew hL2 | replace hL2 := Later.of_drewN hL2 | replace hL2 := Later.of_alloc hL2)
          go_ret
          exact ⟨ret_int HR.out.symm, Later.trans _ _ _ hL hL2⟩
      · have h2' : b.length ≤ n := by omega
        have HR : Hid (compareL a b = 1) := hid (hq.out.trans (by rw [HD1.out, List.drop_eq_nil_of_le h2']; rfl))
        generalize hx : a[n] = x at *
        clear hx
        go_wp2
        go_ret
        exact ⟨ret_int HR.out.symm, hL.alloc' _⟩
    · have h1' : a.drop n = [] := List.drop_eq_nil_of_le (by omega)
      have HR : Hid (compareL a b = if a.length < b.length then -1 else 0) := hid (hq.out.trans (by
        rw [h1']
        by_cases h2 : n < b.length
        · rw [List.drop_eq_getElem_cons h2, if_pos (by omega)]; rfl
        · rw [List.drop_eq_nil_of_le (by omega : b.length ≤ n), if_neg (by omega)]; rfl))
      have H1 := hid h1'
      clear hea heb h1'
      by_cases h2 : a.length < b.length
      · have HR' := hid (HR.out.trans (if_pos h2)); clear HR
        go_wp2
        go_ret
        exact ⟨ret_int HR'.out.symm, hL⟩
      · have HR' := hid (HR.out.trans (if_neg h2)); clear HR
        go_wp2
        go_ret
        exact ⟨ret_int HR'.out.symm, hL⟩
end Go.Proofs.YtgcnchmnciihnaaGreatDoor
namespace Go.Proofs.YtgcnchmnciihnaaGreatDoor
set_option linter.unusedSimpArgs false
set_option linter.unusedVariables false
open Go.RowKit

/-- a later world, and no fewer draws. -/
def LaterD (w w' : World) : Prop := Later w w' ∧ w.drawn ≤ w'.drawn
theorem LaterD.refl (w : World) : LaterD w w := ⟨Later.refl w, Nat.le_refl _⟩
theorem LaterD.trans (a b c : World) (h : LaterD a b) (k : LaterD b c) : LaterD a c := ⟨Later.trans _ _ _ h.1 k.1, Nat.le_trans h.2 k.2⟩
theorem LaterD.alloc (w : World) (o : Obj) : LaterD w (w.alloc o) := ⟨Later.alloc w o, Nat.le_refl _⟩
theorem LaterD.of_alloc {w w' : World} {o : Obj} (h : LaterD (w.alloc o) w') : LaterD w w' := LaterD.trans _ _ _ (LaterD.alloc w o) h
theorem LaterD.of_drew {w w' : World} (h : LaterD w.drew w') : LaterD w w' := ⟨Later.of_drew h.1, Nat.le_trans (Nat.le_succ _) h.2⟩
theorem LaterD.of_drewN {w w' : World} {n : Nat} (h : LaterD (w.drewN n) w') : LaterD w w' := ⟨Later.of_drewN h.1, Nat.le_trans (Nat.le_add_right _ n) h.2⟩
theorem LaterD.cells {w w' : World} (h : LaterD w w') : ∀ b o, b < w.heap.size → w'.cell? ⟨b, o, none⟩ = w.cell? ⟨b, o, none⟩ := h.1.cells
theorem LaterD.cell {w w' : World} (h : LaterD w w') {p : Addr} {v : Value} (hc : w.cell? p = some v) : w'.cell? p = some v := h.1.cell hc
open Go.Sort in
theorem LaterD.grown {w w' : World} (h : LaterD w w') : ∃ q os', w' = grow (w.drewN q) os' := by
  refine ⟨w'.drawn - w.drawn, w'.heap.extract w.heap.size w'.heap.size, ?_⟩
  have hh : w'.heap = w.heap ++ w'.heap.extract w.heap.size w'.heap.size := by
    apply Array.ext_getElem?
    intro i
    by_cases hi : i < w.heap.size
    · rw [h.1.block i hi, Array.getElem?_append_left hi]
    · rw [Array.getElem?_append_right (by omega), Array.getElem?_extract]
      have hs := h.1.size
      split
      · congr 1; omega
      · rw [Array.getElem?_eq_none (by omega)]
  have hd : w'.drawn = w.drawn + (w'.drawn - w.drawn) := by have := h.2; omega
  have h1 := h.1.os; have h2 := h.1.tape; have h3 := h.1.output
  unfold grow World.drewN
  cases w'
  cases w
  simp only at *
  congr 1 <;> first | exact hh | exact hd | exact h1 | exact h2 | exact h3
set_option maxRecDepth 100000 in
theorem compare_anyD (x y : Val) (w : World) :
    Calls Tryz.prog 76 #[x.v, y.v] w fun e w' => e = .returned (.int .i64 (compareV x y)) ∧ LaterD w w' := by
  obtain ⟨k1, n1, t1⟩ := x
  obtain ⟨k2, n2, t2⟩ := y
  unfold compareV
  go_enter Tryz.func76, Tryz.ntmps76
  go_wp2
  refine wp_region_lex (by kernel_rfl) (by kernel_rfl) LaterD LaterD.refl LaterD.trans (kinds [(4, fun v _ => v = .int .i64 (cmpI k1 k2)), (9, fun v _ => v = .int .i64 (cmpI n1 n2)), (14, fun v _ => v = .int .i64 (Lib.compareBytes t1.data.toList t2.data.toList)), (15, fun v w => ∃ b, v = .slice (some ⟨b, 0, none⟩) 3 3 ∧ w.heap[b]? = some (.cells #[.int .i64 (cmpI k1 k2), .int .i64 (cmpI n1 n2), .int .i64 (Lib.compareBytes t1.data.toList t2.data.toList)] 3 (0, 0))), (16, fun v _ => v = .int .i64 (orL [cmpI k1 k2, cmpI n1 n2, Lib.compareBytes t1.data.toList t2.data.toList]))]) (kinds_still (by simp only [List.mem_cons, List.not_mem_nil, or_false, forall_eq_or_imp, forall_eq]; exact ⟨fun _ _ _ _ h => h, fun _ _ _ _ h => h, fun _ _ _ _ h => h, fun _ _ _ hR ⟨b, h, h'⟩ => ⟨b, h, hR.1.obj h'⟩, fun _ _ _ _ h => h⟩)) ?_
  simp only [numbered, Nat.reduceAdd]
  iterate 4
    first
    | (refine Lex.skip rfl ?_; simp only [Act.put, List.setIfInBounds_toArray, List.set])
    | (refine Lex.one' rfl rfl ?_
       apply Exists.intro
       refine ⟨fun w hR hF => ?_, ?_⟩
       · have hP := hR
         repeat (first | replace hP := LaterD.of_drew hP | replace hP := LaterD.of_drewN hP | replace hP := LaterD.of_alloc hP)
         have hcs := hR.cells
         clear hR hF hP
         go_simp
         first | done | rfl
       simp only [Act.put, List.setIfInBounds_toArray, List.set])
  refine Lex.anyEq rfl rfl (fun w hR hF => ?_) ?_
  · have hP := hR
    repeat (first | replace hP := LaterD.of_drew hP | replace hP := LaterD.of_drewN hP | replace hP := LaterD.of_alloc hP)
    have hcs := hR.cells
    clear hF hR
    unfold Runs
    go_simp
    unfold Yield
    refine (cmpK k1 k2 _).mono ?_
    rintro e w' ⟨rfl, rfl⟩
    exact ⟨_, rfl, LaterD.refl _, rfl⟩
  simp only [Act.put, List.setIfInBounds_toArray, List.set]
  iterate 4
    first
    | (refine Lex.skip rfl ?_; simp only [Act.put, List.setIfInBounds_toArray, List.set])
    | (refine Lex.one' rfl rfl ?_
       apply Exists.intro
       refine ⟨fun w hR hF => ?_, ?_⟩
       · have hP := hR
         repeat (first | replace hP := LaterD.of_drew hP | replace hP := LaterD.of_drewN hP | replace hP := LaterD.of_alloc hP)
         have hcs := hR.cells
         clear hR hF hP
         go_simp
         first | done | rfl
       simp only [Act.put, List.setIfInBounds_toArray, List.set])
  refine Lex.anyEq rfl rfl (fun w hR hF => ?_) ?_
  · have hP := hR
    repeat (first | replace hP := LaterD.of_drew hP | replace hP := LaterD.of_drewN hP | replace hP := LaterD.of_alloc hP)
    have hcs := hR.cells
    clear hF hR
    unfold Runs
    go_simp
    unfold Yield
    refine (cmpN n1 n2 _).mono ?_
    rintro e w' ⟨rfl, rfl⟩
    exact ⟨_, rfl, LaterD.refl _, rfl⟩
  simp only [Act.put, List.setIfInBounds_toArray, List.set]
  iterate 4
    first
    | (refine Lex.skip rfl ?_; simp only [Act.put, List.setIfInBounds_toArray, List.set])
    | (refine Lex.one' rfl rfl ?_
       apply Exists.intro
       refine ⟨fun w hR hF => ?_, ?_⟩
       · have hP := hR
         repeat (first | replace hP := LaterD.of_drew hP | replace hP := LaterD.of_drewN hP | replace hP := LaterD.of_alloc hP)
         have hcs := hR.cells
         clear hR hF hP
         go_simp
         first | done | rfl
       simp only [Act.put, List.setIfInBounds_toArray, List.set])
  refine Lex.anyEq rfl rfl (fun w hR hF => ?_) ?_
  · have hP := hR
    repeat (first | replace hP := LaterD.of_drew hP | replace hP := LaterD.of_drewN hP | replace hP := LaterD.of_alloc hP)
    have hcs := hR.cells
    clear hF hR
    unfold Runs
    go_simp
    unfold Yield
    refine (Tryz.strings_Compare t1 t2 _).mono ?_
    rintro e w' ⟨rfl, rfl⟩
    exact ⟨_, rfl, LaterD.refl _, rfl⟩
  simp only [Act.put, List.setIfInBounds_toArray, List.set]
  refine Lex.any rfl rfl (fun w hR hF => ?_) ?_
  · clear hF hR
    unfold Runs
    go_simp
    exact yield_value (LaterD.alloc _ _) ⟨_, rfl, obj_new _ _⟩
  rintro v15 ⟨w2, hR2, hF2⟩
  obtain ⟨b, rfl, -⟩ := hF2 _ List.mem_cons_self _ rfl
  clear hF2 hR2 w2
  simp only [Act.put, List.setIfInBounds_toArray, List.set]
  refine Lex.anyEq rfl rfl (fun w hR hF => ?_) ?_
  · obtain ⟨b', hb, h15⟩ := hF _ List.mem_cons_self (by kernel_rfl) _ rfl
    simp only [Value.slice.injEq, Option.some.injEq, Addr.mk.injEq] at hb
    obtain ⟨⟨rfl, -, -⟩, -, -⟩ := hb
    clear hF hR
    unfold Runs
    go_simp
    refine yield_enter ?_
    refine (or_any b [cmpI k1 k2, cmpI n1 n2, Lib.compareBytes t1.data.toList t2.data.toList] 3 w (by simp) ?_).mono ?_
    · intro i hi
      exact cell_obj h15 (by simp only [List.getElem?_toArray, List.length_cons, List.length_nil] at hi ⊢; match i, hi with | 0, _ => rfl | 1, _ => rfl | 2, _ => rfl)
    · rintro e w' ⟨rfl, rfl⟩
      exact ⟨_, rfl, LaterD.refl _, rfl⟩
  simp only [Act.put, List.setIfInBounds_toArray, List.set]
  iterate 1
    first
    | (refine Lex.skip rfl ?_; simp only [Act.put, List.setIfInBounds_toArray, List.set])
    | (refine Lex.one' rfl rfl ?_
       apply Exists.intro
       refine ⟨fun w hR hF => ?_, ?_⟩
       · have hP := hR
         repeat (first | replace hP := LaterD.of_drew hP | replace hP := LaterD.of_drewN hP | replace hP := LaterD.of_alloc hP)
         have hcs := hR.cells
         clear hR hF hP
         go_simp
         first | done | rfl
       simp only [Act.put, List.setIfInBounds_toArray, List.set])
  intro w1 hR1 hF9
  clear hF9
  go_wp2
  go_ret
  repeat (first | replace hR1 := LaterD.of_drew hR1 | replace hR1 := LaterD.of_drewN hR1 | replace hR1 := LaterD.of_alloc hR1)
  exact ⟨rfl, hR1⟩

set_option maxRecDepth 100000 in
theorem compare_listD (a b : List Val) (v u : Value) (w : World) (ha : IsVals w v a) (hb : IsVals w u b) :
    Calls Tryz.prog 75 #[v, u, .func (.func 76) #[] #[]] w fun e w' => e = .returned (.int .i64 (compareL a b)) ∧ LaterD w w' := by
  obtain ⟨p, c, rfl, hac, hcm, -, hea⟩ := ha
  obtain ⟨q, d, rfl, hbd, hdm, -, heb⟩ := hb
  unfold maxLen at hcm hdm
  go_enter Tryz.func75, Tryz.ntmps75
  go_wp2
  go_loopw [13] (fun i wr => ∃ n : Nat, n ≤ a.length ∧ n ≤ b.length ∧ i = .int .i64 n ∧ LaterD w wr ∧ Hid (compareL a b = compareL (a.drop n) (b.drop n))) (fun i _ => a.length - (intOf i).toNat)
  case atStart => exact ⟨0, by omega, by omega, rfl, LaterD.refl _, rfl⟩
  case round =>
    obtain ⟨n, hn1, hn2, rfl, hL, hq⟩ := hrel
    by_cases h1 : n < a.length
    · obtain ⟨b1, o1, rfl, -, e1⟩ := hea n h1
      obtain ⟨p1, p2, p3⟩ := e1.later hL.1
      have HA := hid hea; have HB := hid heb; clear hea heb e1
      have hd1 : a.drop n = a[n] :: a.drop (n + 1) := List.drop_eq_getElem_cons h1
      have HD1 := hid hd1; clear hd1
      by_cases h2 : n < b.length
      · obtain ⟨b2, o2, rfl, -, e2⟩ := HB.out n h2
        obtain ⟨q1, q2, q3⟩ := e2.later hL.1
        clear e2
        have hd2 : b.drop n = b[n] :: b.drop (n + 1) := List.drop_eq_getElem_cons h2
        have HD2 := hid hd2; clear hd2
        have hl1 := cell_lt p1
        have hl2 := cell_lt q1
        generalize hx : a[n] = x at *
        generalize hy : b[n] = y at *
        clear hx hy
        by_cases hc : compareV x y = 0
        · have HC := hid hc
          go_wp2_with (go_at_call 76; refine (compare_anyD x y _).mono ?_; rintro e w2 ⟨rfl, hL2⟩)
          repeat (first | replace hL2 := LaterD.of_drew hL2 | replace hL2 := LaterD.of_drewN hL2 | replace hL2 := LaterD.of_alloc hL2)
          go_roundw
          case rel => exact ⟨n + 1, by omega, by omega, by go_num, LaterD.trans _ _ _ hL hL2, hid (hq.out.trans (by rw [HD1.out, HD2.out]; simp only [compareL, HC.out, if_true]))⟩
          case measure => simp [intOf]; omega
        · have hc' : (compareV x y != 0) = true := by simpa using hc
          have HR : Hid (compareL a b = compareV x y) := hid (hq.out.trans (by rw [HD1.out, HD2.out]; simp only [compareL, hc, if_false]))
          clear hc
          go_wp2_with (go_at_call 76; refine (compare_anyD x y _).mono ?_; rintro e w2 ⟨rfl, hL2⟩)
          repeat (first | replace hL2 := LaterD.of_drew hL2 | replace hL2 := LaterD.of_drewN hL2 | replace hL2 := LaterD.of_alloc hL2)
          go_ret
          exact ⟨ret_int HR.out.symm, LaterD.trans _ _ _ hL hL2⟩
      · have h2' : b.length ≤ n := by omega
        have HR : Hid (compareL a b = 1) := hid (hq.out.trans (by rw [HD1.out, List.drop_eq_nil_of_le h2']; rfl))
        generalize hx : a[n] = x at *
        clear hx
        go_wp2
        go_ret
        exact ⟨ret_int HR.out.symm, LaterD.trans _ _ _ hL (LaterD.alloc _ _)⟩
    · have h1' : a.drop n = [] := List.drop_eq_nil_of_le (by omega)
      have HR : Hid (compareL a b = if a.length < b.length then -1 else 0) := hid (hq.out.trans (by
        rw [h1']
        by_cases h2 : n < b.length
        · rw [List.drop_eq_getElem_cons h2, if_pos (by omega)]; rfl
        · rw [List.drop_eq_nil_of_le (by omega : b.length ≤ n), if_neg (by omega)]; rfl))
      have H1 := hid h1'
      clear hea heb h1'
      by_cases h2 : a.length < b.length
      · have HR' := hid (HR.out.trans (if_pos h2)); clear HR
        go_wp2
        go_ret
        exact ⟨ret_int HR'.out.symm, hL⟩
      · have HR' := hid (HR.out.trans (if_neg h2)); clear HR
        go_wp2
        go_ret
        exact ⟨ret_int HR'.out.symm, hL⟩
end Go.Proofs.YtgcnchmnciihnaaGreatDoor
namespace Go.Proofs.YtgcnchmnciihnaaGreatDoor
set_option linter.unusedSimpArgs false
set_option linter.unusedVariables false
open Go.RowKit

def CmpDTo (w : World) (n : Int) (e : Ending) (w' : World) : Prop := e = .returned (.int .i64 n) ∧ LaterD w w'
set_option maxRecDepth 100000 in
theorem wcompare_anyD (a b : Win) (w : World) : Calls Tryz.prog 74 #[.agg #[.int .i64 a.1, .int .i64 a.2], .agg #[.int .i64 b.1, .int .i64 b.2]] w (CmpDTo w (cmpW a b)) := by
  obtain ⟨a1, a2⟩ := a
  obtain ⟨b1, b2⟩ := b
  unfold cmpW
  go_enter Tryz.func74, Tryz.ntmps74
  go_wp2
  refine wp_region_lex (by kernel_rfl) (by kernel_rfl) LaterD LaterD.refl LaterD.trans (kinds [(4, fun v _ => v = .int .i64 (cmpI a2 b2)), (9, fun v _ => v = .int .i64 (cmpI a1 b1)), (10, fun v w => ∃ b, v = .slice (some ⟨b, 0, none⟩) 2 2 ∧ w.heap[b]? = some (.cells #[.int .i64 (cmpI a2 b2), .int .i64 (cmpI a1 b1)] 3 (0, 0))), (11, fun v _ => v = .int .i64 (orL [cmpI a2 b2, cmpI a1 b1]))]) (kinds_still (by simp only [List.mem_cons, List.not_mem_nil, or_false, forall_eq_or_imp, forall_eq]; exact ⟨fun _ _ _ _ h => h, fun _ _ _ _ h => h, fun _ _ _ hR ⟨b, h, h'⟩ => ⟨b, h, hR.1.obj h'⟩, fun _ _ _ _ h => h⟩)) ?_
  simp only [numbered, Nat.reduceAdd]
  iterate 4
    first
    | (refine Lex.skip rfl ?_; simp only [Act.put, List.setIfInBounds_toArray, List.set])
    | (refine Lex.one' rfl rfl ?_
       apply Exists.intro
       refine ⟨fun w hR hF => ?_, ?_⟩
       · have hP := hR
         repeat (first | replace hP := LaterD.of_drew hP | replace hP := LaterD.of_drewN hP | replace hP := LaterD.of_alloc hP)
         have hcs := hR.cells
         clear hR hF hP
         go_simp
         first | done | rfl
       simp only [Act.put, List.setIfInBounds_toArray, List.set])
  refine Lex.anyEq rfl rfl (fun w hR hF => ?_) ?_
  · have hP := hR
    repeat (first | replace hP := LaterD.of_drew hP | replace hP := LaterD.of_drewN hP | replace hP := LaterD.of_alloc hP)
    have hcs := hR.cells
    clear hF hR
    unfold Runs
    go_simp
    unfold Yield
    refine (cmpN a2 b2 _).mono ?_
    rintro e w' ⟨rfl, rfl⟩
    exact ⟨_, rfl, LaterD.refl _, rfl⟩
  simp only [Act.put, List.setIfInBounds_toArray, List.set]
  iterate 4
    first
    | (refine Lex.skip rfl ?_; simp only [Act.put, List.setIfInBounds_toArray, List.set])
    | (refine Lex.one' rfl rfl ?_
       apply Exists.intro
       refine ⟨fun w hR hF => ?_, ?_⟩
       · have hP := hR
         repeat (first | replace hP := LaterD.of_drew hP | replace hP := LaterD.of_drewN hP | replace hP := LaterD.of_alloc hP)
         have hcs := hR.cells
         clear hR hF hP
         go_simp
         first | done | rfl
       simp only [Act.put, List.setIfInBounds_toArray, List.set])
  refine Lex.anyEq rfl rfl (fun w hR hF => ?_) ?_
  · have hP := hR
    repeat (first | replace hP := LaterD.of_drew hP | replace hP := LaterD.of_drewN hP | replace hP := LaterD.of_alloc hP)
    have hcs := hR.cells
    clear hF hR
    unfold Runs
    go_simp
    unfold Yield
    refine (cmpN a1 b1 _).mono ?_
    rintro e w' ⟨rfl, rfl⟩
    exact ⟨_, rfl, LaterD.refl _, rfl⟩
  simp only [Act.put, List.setIfInBounds_toArray, List.set]
  refine Lex.any rfl rfl (fun w hR hF => ?_) ?_
  · clear hF hR
    unfold Runs
    go_simp
    exact yield_value (LaterD.alloc _ _) ⟨_, rfl, obj_new _ _⟩
  rintro v15 ⟨w2, hR2, hF2⟩
  obtain ⟨b, rfl, -⟩ := hF2 _ List.mem_cons_self _ rfl
  clear hF2 hR2 w2
  simp only [Act.put, List.setIfInBounds_toArray, List.set]
  refine Lex.anyEq rfl rfl (fun w hR hF => ?_) ?_
  · obtain ⟨b', hb, h15⟩ := hF _ List.mem_cons_self (by kernel_rfl) _ rfl
    simp only [Value.slice.injEq, Option.some.injEq, Addr.mk.injEq] at hb
    obtain ⟨⟨rfl, -, -⟩, -, -⟩ := hb
    clear hF hR
    unfold Runs
    go_simp
    refine yield_enter ?_
    refine (or_any b [cmpI a2 b2, cmpI a1 b1] 2 w (by simp) ?_).mono ?_
    · intro i hi
      exact cell_obj h15 (by simp only [List.getElem?_toArray, List.length_cons, List.length_nil] at hi ⊢; match i, hi with | 0, _ => rfl | 1, _ => rfl)
    · rintro e w' ⟨rfl, rfl⟩
      exact ⟨_, rfl, LaterD.refl _, rfl⟩
  simp only [Act.put, List.setIfInBounds_toArray, List.set]
  iterate 1
    first
    | (refine Lex.skip rfl ?_; simp only [Act.put, List.setIfInBounds_toArray, List.set])
    | (refine Lex.one' rfl rfl ?_
       apply Exists.intro
       refine ⟨fun w hR hF => ?_, ?_⟩
       · have hP := hR
         repeat (first | replace hP := LaterD.of_drew hP | replace hP := LaterD.of_drewN hP | replace hP := LaterD.of_alloc hP)
         have hcs := hR.cells
         clear hR hF hP
         go_simp
         first | done | rfl
       simp only [Act.put, List.setIfInBounds_toArray, List.set])
  intro w1 hR1 hF9
  clear hF9
  go_wp2
  go_ret
  repeat (first | replace hR1 := LaterD.of_drew hR1 | replace hR1 := LaterD.of_drewN hR1 | replace hR1 := LaterD.of_alloc hR1)
  exact ⟨rfl, hR1⟩

set_option maxRecDepth 100000 in
set_option maxHeartbeats 1000000 in
theorem scompare_anyD {V V' : Nat → Prop} (a b : CellP) (u v : Value) (w : World) (ha : CellV V w u a) (hb : CellV V' w v b) :
    Calls Tryz.prog 46 #[u, v] w (CmpDTo w (cmpC a b)) := by
  obtain ⟨p1, c1, p2, c2, rfl, hk1, -⟩ := cell_val ha
  obtain ⟨q1, d1, q2, d2, rfl, hk2, -⟩ := cell_val hb
  have HK1 := hid hk1.all; have HK2 := hid hk2.all
  have HC : Hid (cmpC a b = orL [cmpW a.win b.win, compareL a.key b.key]) := hid rfl
  obtain ⟨ak, ⟨a1, a2⟩, ad⟩ := a
  obtain ⟨bk, ⟨b1, b2⟩, bd⟩ := b
  simp only at HK1 HK2 HC ⊢
  rw [HC.out]
  clear ha hb hk1 hk2 HC
  go_enter Tryz.func46, Tryz.ntmps46
  go_wp2_with fail
  refine wp_region_lex (by kernel_rfl) (by kernel_rfl) LaterD LaterD.refl LaterD.trans (kinds [(4, fun v _ => v = .int .i64 (cmpW (a1, a2) (b1, b2))), (9, fun v _ => v = .int .i64 (compareL ak bk)), (10, fun v w => ∃ b', v = .slice (some ⟨b', 0, none⟩) 2 2 ∧ w.heap[b']? = some (.cells #[.int .i64 (cmpW (a1, a2) (b1, b2)), .int .i64 (compareL ak bk)] 3 (0, 0))), (11, fun v _ => v = .int .i64 (orL [cmpW (a1, a2) (b1, b2), compareL ak bk]))]) (kinds_still (by simp only [List.mem_cons, List.not_mem_nil, or_false, forall_eq_or_imp, forall_eq]; exact ⟨fun _ _ _ _ h => h, fun _ _ _ _ h => h, fun _ _ _ hR ⟨b, h, h'⟩ => ⟨b, h, hR.1.obj h'⟩, fun _ _ _ _ h => h⟩)) ?_
  simp only [numbered, Nat.reduceAdd]
  iterate 4
    first
    | (refine Lex.skip rfl ?_; simp only [Act.put, List.setIfInBounds_toArray, List.set])
    | (refine Lex.one' rfl rfl ?_
       apply Exists.intro
       refine ⟨fun w hR hF => ?_, ?_⟩
       · have hP := hR
         repeat (first | replace hP := LaterD.of_drew hP | replace hP := LaterD.of_drewN hP | replace hP := LaterD.of_alloc hP)
         have hcs := hR.cells
         clear hR hF hP
         go_simp
         first | done | rfl
       simp only [Act.put, List.setIfInBounds_toArray, List.set])
  refine Lex.anyEq rfl rfl (fun w hR hF => ?_) ?_
  · have hP := hR
    repeat (first | replace hP := LaterD.of_drew hP | replace hP := LaterD.of_drewN hP | replace hP := LaterD.of_alloc hP)
    have hcs := hR.cells
    clear hF hR
    unfold Runs
    go_simp
    unfold Yield
    refine (wcompare_anyD (a1, a2) (b1, b2) _).mono ?_
    rintro e w' ⟨rfl, hL⟩
    exact ⟨_, rfl, hL, rfl⟩
  simp only [Act.put, List.setIfInBounds_toArray, List.set]
  iterate 4
    first
    | (refine Lex.skip rfl ?_; simp only [Act.put, List.setIfInBounds_toArray, List.set])
    | (refine Lex.one' rfl rfl ?_
       apply Exists.intro
       refine ⟨fun w hR hF => ?_, ?_⟩
       · have hP := hR
         repeat (first | replace hP := LaterD.of_drew hP | replace hP := LaterD.of_drewN hP | replace hP := LaterD.of_alloc hP)
         have hcs := hR.cells
         clear hR hF hP
         go_simp
         first | done | rfl
       simp only [Act.put, List.setIfInBounds_toArray, List.set])
  refine Lex.anyEq rfl rfl (fun w hR hF => ?_) ?_
  · have hP := hR
    repeat (first | replace hP := LaterD.of_drew hP | replace hP := LaterD.of_drewN hP | replace hP := LaterD.of_alloc hP)
    have hcs := hR.cells
    clear hF hR
    unfold Runs
    go_simp
    unfold Yield
    refine (compare_listD ak bk _ _ _ (HK1.out.later hP.1) (HK2.out.later hP.1)).mono ?_
    rintro e w' ⟨rfl, hL⟩
    exact ⟨_, rfl, hL, rfl⟩
  simp only [Act.put, List.setIfInBounds_toArray, List.set]
  refine Lex.any rfl rfl (fun w hR hF => ?_) ?_
  · clear hF hR
    unfold Runs
    go_simp
    exact yield_value (LaterD.alloc _ _) ⟨_, rfl, obj_new _ _⟩
  rintro v15 ⟨w2, hR2, hF2⟩
  obtain ⟨b', rfl, -⟩ := hF2 _ List.mem_cons_self _ rfl
  clear hF2 hR2 w2
  simp only [Act.put, List.setIfInBounds_toArray, List.set]
  refine Lex.anyEq rfl rfl (fun w hR hF => ?_) ?_
  · obtain ⟨b', hb, h15⟩ := hF _ List.mem_cons_self (by kernel_rfl) _ rfl
    simp only [Value.slice.injEq, Option.some.injEq, Addr.mk.injEq] at hb
    obtain ⟨⟨rfl, -, -⟩, -, -⟩ := hb
    clear hF hR
    unfold Runs
    go_simp
    refine yield_enter ?_
    refine (or_any b' [cmpW (a1, a2) (b1, b2), compareL ak bk] 2 w (by simp) ?_).mono ?_
    · intro i hi
      exact cell_obj h15 (by simp only [List.getElem?_toArray, List.length_cons, List.length_nil] at hi ⊢; match i, hi with | 0, _ => rfl | 1, _ => rfl)
    · rintro e w' ⟨rfl, rfl⟩
      exact ⟨_, rfl, LaterD.refl _, rfl⟩
  simp only [Act.put, List.setIfInBounds_toArray, List.set]
  iterate 1
    first
    | (refine Lex.skip rfl ?_; simp only [Act.put, List.setIfInBounds_toArray, List.set])
    | (refine Lex.one' rfl rfl ?_
       apply Exists.intro
       refine ⟨fun w hR hF => ?_, ?_⟩
       · have hP := hR
         repeat (first | replace hP := LaterD.of_drew hP | replace hP := LaterD.of_drewN hP | replace hP := LaterD.of_alloc hP)
         have hcs := hR.cells
         clear hR hF hP
         go_simp
         first | done | rfl
       simp only [Act.put, List.setIfInBounds_toArray, List.set])
  intro w1 hR1 hF9
  clear hF9
  go_wp2
  go_ret
  repeat (first | replace hR1 := LaterD.of_drew hR1 | replace hR1 := LaterD.of_drewN hR1 | replace hR1 := LaterD.of_alloc hR1)
  exact ⟨rfl, hR1⟩
end Go.Proofs.YtgcnchmnciihnaaGreatDoor
