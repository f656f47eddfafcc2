/-
  PROVED HERE: the contract of the document's Take of a partition.
-/
import Derived.Test.YthfgjmdmcoogpaaDoorRefRd
import Derived.Test.YthfgjmdmcoogpaaDoorCopy
import Derived.Test.YthfgjmdmcoogpaaDoorApp
namespace Go.Proofs.YthfgjmdmcoogpaaDoor
set_option linter.unusedSimpArgs false
set_option linter.unusedVariables false
open Go.RowKit

theorem infoE : ElemInfo Tryd.prog 61 5 56 := ElemInfo.of infoElem rfl (by decide)
/-- a copied row. -/
def RowCopied (B : Nat) (x : Row) (u : Value) (W : World) : Prop := ∃ a c, u = .agg #[.int .i64 x.time, .slice a x.vals.length c] ∧ W.ownsRow B 40 3 (.slice a x.vals.length c) x.vals.length (valCells x.vals)
theorem RowCopied.later {B : Nat} {x : Row} {u : Value} {w w' : World} (h : RowCopied B x u w) (k : Later w w') : RowCopied B x u w' := let ⟨a, c, h1, h2⟩ := h; ⟨a, c, h1, own_later h2 k⟩
theorem elems_add {B : Nat} {w w' : World} {sv sv' v : Value} {es : List Elem} {e : Elem} {vs : List Value} (hl : vs.length = es.length)
    (hvs : ∀ i (h : i < es.length), ValsOwn (fun b => B ≤ b ∧ some b ≠ sv.ownBlock) w (vs[i]'(by omega)) es[i].row.vals) (hv : ValsOwn (fun b => B ≤ b ∧ some b ≠ sv.ownBlock) w v e.row.vals)
    (hA : Appended w B 61 5 sv (es.length + 1) (elemCells es vs ++ e.cells v) sv' w') : ElemsOwn B w' sv' (es ++ [e]) := by
  refine ElemsOwn.append (fs := [e]) (us := [v]) hl rfl hvs (fun i hi => ?_) (by simpa [elemCells] using hA)
  obtain rfl : i = 0 := by simp at hi; omega
  exact hv
theorem oneCell_elem {e : Elem} {v : Value} (h : v.oneCell' = true) : ∀ u ∈ e.cells v, u.oneCell' = true := by
  intro u hu
  simp only [Elem.cells, List.mem_cons, List.not_mem_nil, or_false] at hu
  rcases hu with rfl | rfl | rfl | rfl | rfl <;> first | exact h | rfl

/-- what Take of the document's reader comes to. -/
def RdTakeTo (w : World) (X : Nat) (v : Value) (rows : List Row) (bound : Int) (n : Nat) (e : Ending) (w' : World) : Prop :=
  ∃ sv, e = .returned sv ∧ w'.heap[X]? = some (.cells #[v, .int .i64 bound, .int .i64 ((if rows.length < n then n else n + 1 : Nat) : Int)] 45 (0, 0)) ∧ ElemsOwn w.heap.size w' sv (rdTake rows bound n) ∧ Keeps (fun b => b ≠ X) w w'

set_option maxRecDepth 100000 in
set_option maxHeartbeats 4000000 in
theorem rd_take (X : Nat) (v : Value) (rows : List Row) (bound : Int) (n : Nat) (w : World) (h : Rd4 w X v rows bound n) (hok : SrcOk rows bound) (hn : n ≤ rows.length + 1) :
    Calls Tryd.prog 18 #[.pointer (some ⟨X, 0, none⟩)] w (RdTakeTo w X v rows bound n) := by
  have HOK := hid hok
  have hlen := hok.len
  have H := hid h
  obtain ⟨ho, p, c, rfl, hac, hcm, -, hea⟩ := h
  have HO := hid ho
  have HE := hid hea
  have r0 := cell_obj (i := 0) ho rfl
  have r2 := cell_obj (i := 2) ho rfl
  clear hok ho hac hcm hea
  by_cases h0 : rows.length < n
  · have HT : Hid (rdTake rows bound n = []) := hid (by unfold rdTake; rw [if_pos h0])
    have HN : Hid ((if rows.length < n then n else n + 1 : Nat) = n) := hid (if_pos h0)
    go_enter Tryd.func18, Tryd.ntmps18
    go_wp2_with fail
    refine wp_region_lex (by kernel_rfl) (by kernel_rfl) Later Later.refl Later.trans (fun _ => none) (fun _ _ _ _ _ h => by cases h) ?_
    simp only [numbered, Nat.reduceAdd]
    refine LexS.out ?_
    iterate 10
      first
      | (refine LexS.skip rfl ?_; simp only [Act.put, List.setIfInBounds_toArray, List.set])
      | (refine LexS.one' rfl rfl ?_
         apply Exists.intro
         refine ⟨fun w hR hF => ?_, ?_⟩
         · have hP := hR
           repeat (first | replace hP := Later.of_drew hP | replace hP := Later.of_drewN hP | replace hP := Later.of_alloc hP)
           have hcs := hR.cells
           have zr0 := hP.cell r0
           have zr2 := hP.cell r2
           clear hR hF hP
           go_simp
           first | done | rfl
         simp only [Act.put, List.setIfInBounds_toArray, List.set])
    refine LexS.nil ?_
    intro w1 hR1 hF9
    clear hF9
    repeat (first | replace hR1 := Later.of_drew hR1 | replace hR1 := Later.of_drewN hR1 | replace hR1 := Later.of_alloc hR1)
    have HR1 := hid hR1
    clear hR1 r0 r2
    go_wp2_with fail
    go_ret
    exact ⟨_, rfl, by rw [HN.out]; exact HR1.out.obj HO.out, by rw [HT.out]; exact ElemsOwn.nil _ _, HR1.out.keeps _⟩
  have HT : Hid (rdTake rows bound n = rdRow rows bound n ++ rdTold rows bound n) := hid (by unfold rdTake; rw [if_neg h0])
  have HN : Hid ((if rows.length < n then n else n + 1 : Nat) = n + 1) := hid (if_neg h0)
  go_enter Tryd.func18, Tryd.ntmps18
  go_wp2_with fail
  refine wp_region_lex (by kernel_rfl) (by kernel_rfl) Later Later.refl Later.trans (fun _ => none) (fun _ _ _ _ _ h => by cases h) ?_
  simp only [numbered, Nat.reduceAdd]
  refine LexS.out ?_
  iterate 10
    first
    | (refine LexS.skip rfl ?_; simp only [Act.put, List.setIfInBounds_toArray, List.set])
    | (refine LexS.one' rfl rfl ?_
       apply Exists.intro
       refine ⟨fun w hR hF => ?_, ?_⟩
       · have hP := hR
         repeat (first | replace hP := Later.of_drew hP | replace hP := Later.of_drewN hP | replace hP := Later.of_alloc hP)
         have hcs := hR.cells
         have zr0 := hP.cell r0
         have zr2 := hP.cell r2
         clear hR hF hP
         go_simp
         first | done | rfl
       simp only [Act.put, List.setIfInBounds_toArray, List.set])
  refine LexS.nil ?_
  intro w1 hR1 hF9
  clear hF9
  repeat (first | replace hR1 := Later.of_drew hR1 | replace hR1 := Later.of_drewN hR1 | replace hR1 := Later.of_alloc hR1)
  have HR1 := hid hR1
  replace r0 := hR1.cell r0
  replace r2 := hR1.cell r2
  clear hR1
  go_wp2_with fail
  refine (rd_time X _ rows bound n n _ (H.out.later HR1.out) HOK.out (by omega)).mono ?_
  rintro e w2 ⟨rfl, hL2⟩
  replace r0 := hL2.cell r0
  replace r2 := hL2.cell r2
  have HR2 := hid (Later.trans _ _ _ HR1.out hL2)
  clear hL2 HR1
  go_wp2_with fail
  refine wp_region_lex (by kernel_rfl) (by kernel_rfl) Later Later.refl Later.trans (fun _ => none) (fun _ _ _ _ _ h => by cases h) ?_
  simp only [numbered, Nat.reduceAdd]
  refine LexS.out ?_
  iterate 10
    first
    | (refine LexS.skip rfl ?_; simp only [Act.put, List.setIfInBounds_toArray, List.set])
    | (refine LexS.one' rfl rfl ?_
       apply Exists.intro
       refine ⟨fun w hR hF => ?_, ?_⟩
       · have hP := hR
         repeat (first | replace hP := Later.of_drew hP | replace hP := Later.of_drewN hP | replace hP := Later.of_alloc hP)
         have hcs := hR.cells
         have zr0 := hP.cell r0
         have zr2 := hP.cell r2
         clear hR hF hP
         go_simp
         first | done | rfl
       simp only [Act.put, List.setIfInBounds_toArray, List.set])
  refine LexS.nil ?_
  intro w3 hR3 hF9
  clear hF9
  repeat (first | replace hR3 := Later.of_drew hR3 | replace hR3 := Later.of_drewN hR3 | replace hR3 := Later.of_alloc hR3)
  replace r0 := hR3.cell r0
  replace r2 := hR3.cell r2
  have HR3 := hid (Later.trans _ _ _ HR2.out hR3)
  clear hR3 HR2
  go_upto_if 33 with (fail)
  obtain ⟨R1, hR1⟩ : ∃ RR_ : (Nat → Value) → World → Prop, RR_ = (fun us wx => ∃ a cp, us 3 = .slice a (rdRow rows bound n).length cp ∧ ElemsOwn w.heap.size wx (.slice a (rdRow rows bound n).length cp) (rdRow rows bound n) ∧ Later w wx) := ⟨_, rfl⟩
  have HR1 := hid hR1; clear hR1
  refine wp_cut_frame' [false, false, false, true, false, true, true, false, false, false, false, false, false, false, false, false, false, false, false, false, false, false, false, false, false, false, false, false, false, false, false, false, false, true, true, true, true, true, true, true, true, true, true, true, true, true, true, true, true, true, true, true, true, true, true, true, true, true] R1 _ HR1.out ?_ ?_
  · by_cases hlt : n < rows.length
    · obtain ⟨b1, o1, rfl, -, q1, u1, q2, hu1⟩ := HE.out n hlt
      have hv := List.all_eq_true.1 HOK.out.valid _ (List.getElem_mem hlt)
      have HRow : Hid (rdRow rows bound n = if rdLate rows bound n = true then [] else [rowElem rows[n]]) := hid (by unfold rdRow; rw [List.getElem?_eq_getElem hlt])
      have hnn : (0 : Int) ≤ n := by omega
      generalize rows[n] = x at *
      obtain ⟨va, vc, rfl, hu2⟩ := hu1
      have HV : Hid (IsVals w (.slice va x.vals.length vc) x.vals) := hid (SliceOf.vals_mono (S := fun b => b ≠ X) ⟨va, vc, rfl, hu2⟩ fun _ _ => trivial)
      clear hu2
      have hl8 : x.vals.length * 32 ≤ 140737488355328 := by
        simp only [validR, Bool.and_eq_true, decide_eq_true_eq] at hv; omega
      have HL8 := hid hl8
      replace q1 := HR3.out.cell q1
      replace q2 := HR3.out.cell q2
      clear hv hl8
      go_wp2_with fail
      refine (rd_late X _ rows bound n n _ (H.out.later HR3.out) HOK.out hlt).mono ?_
      rintro e w4 ⟨rfl, hL4⟩
      replace r0 := hL4.cell r0
      replace r2 := hL4.cell r2
      replace q1 := hL4.cell q1
      replace q2 := hL4.cell q2
      have HR4 := hid (Later.trans _ _ _ HR3.out hL4)
      clear hL4
      cases hc : rdLate rows bound n with
      | true =>
        rw [hc] at HRow
        clear hc
        go_wp2_with fail
        refine Meet.mk' HR1.out rfl ?_
        have hr : rdRow rows bound n = [] := HRow.out
        rw [hr]
        exact ⟨none, 0, rfl, ElemsOwn.nil _ _, HR4.out⟩
      | false =>
        rw [hc] at HRow
        clear hc
        go_wp2_with fail
        refine wp_region_plan (by kernel_rfl) (by kernel_rfl) [] [12] (by kernel_rfl) (fun _ _ d _ _ h => by cases d <;> exact h) (Later) (Later.refl) (Later.trans) (kinds [(10, RowCopied w4.heap.size x), (11, NewAt w4.heap.size #[.int .i64 0, .slice none 0 0] 37)]) (kinds_still (by simp only [List.mem_cons, List.not_mem_nil, or_false, forall_eq_or_imp, forall_eq]; exact ⟨fun _ _ _ hR h => h.later hR, fun _ _ _ hR h => h.later hR⟩)) ?_
        simp only [body, tail, numbered, Nat.reduceAdd, List.filter_cons, List.filter_nil, List.contains_cons, List.contains_nil, Nat.reduceBEq, Bool.or_false, Bool.or_true, Bool.false_or, Bool.true_or, Bool.not_true, Bool.not_false, Bool.and_true, Bool.and_false, Bool.true_and, Bool.false_and, if_true, if_false, reduceIte, Bool.false_eq_true, List.map_cons, List.map_nil]
        simp only [Pures]
        refine LexS.out ?_
        iterate 10
          first
          | (refine LexS.skip rfl ?_; simp only [Act.put, List.setIfInBounds_toArray, List.set])
          | (refine LexS.one' rfl rfl ?_
             apply Exists.intro
             refine ⟨fun w hR hF => ?_, ?_⟩
             · have hP := hR
               repeat (first | replace hP := Later.of_drew hP | replace hP := Later.of_drewN hP | replace hP := Later.of_alloc hP)
               have hcs := hR.cells
               have zr0 := hP.cell r0
               have zr2 := hP.cell r2
               have zq1 := hP.cell q1
               have zq2 := hP.cell q2
               clear hR hF hP
               go_simp
               first | done | rfl
             simp only [Act.put, List.setIfInBounds_toArray, List.set])
        refine LexS.any rfl rfl (fun w hR hF => ?_) ?_
        · have hP := hR
          repeat (first | replace hP := Later.of_drew hP | replace hP := Later.of_drewN hP | replace hP := Later.of_alloc hP)
          have hsz := hP.size
          have zr0 := hP.cell r0
          have zr2 := hP.cell r2
          have zq1 := hP.cell q1
          have zq2 := hP.cell q2
          clear hF hR r0 r2 q1 q2
          unfold Runs
          go_simp
          refine yield_enter ?_
          refine (copy_row x.time x.vals _ _ ((HV.out.later HR4.out).later hP) HL8.out).mono ?_
          rintro e w' ⟨v', rfl, ho, hL⟩
          exact ⟨_, rfl, hL, (by obtain ⟨a, c, rfl⟩ := ownsRow_slice ho; exact ⟨a, c, rfl, ownsRow_base ho hsz⟩)⟩
        rintro vk_ ⟨wk_, hRk_, hFk_⟩
        obtain ⟨a5, c5, rfl, -⟩ := hFk_ _ List.mem_cons_self _ rfl
        clear hFk_ hRk_ wk_
        simp only [Act.put, List.setIfInBounds_toArray, List.set]
        refine LexS.any rfl rfl (fun w hR hF => ?_) ?_
        · have hP := hR
          repeat (first | replace hP := Later.of_drew hP | replace hP := Later.of_drewN hP | replace hP := Later.of_alloc hP)
          have hsz := hP.size
          clear hF hR hP r0 r2 q1 q2
          unfold Runs
          go_simp
          exact yield_value (Later.alloc _ _) ⟨_, rfl, obj_new _ _, hsz⟩
        rintro vk_ ⟨wk_, hRk_, hFk_⟩
        obtain ⟨b5, rfl, -⟩ := hFk_ _ List.mem_cons_self _ rfl
        clear hFk_ hRk_ wk_
        simp only [Act.put, List.setIfInBounds_toArray, List.set]
        refine LexS.nil ?_
        intro w5 hR5 hF5
        obtain ⟨b6, h6, hn5, hbs⟩ := hF5 _ List.mem_cons_self _ rfl
        simp only [Value.pointer.injEq, Option.some.injEq, Addr.mk.injEq] at h6
        obtain ⟨rfl, -, -⟩ := h6
        obtain ⟨a6, c6, h6, ho5⟩ := hF5 _ (List.mem_cons_of_mem _ List.mem_cons_self) _ rfl
        simp only [Value.agg.injEq, Array.mk.injEq, List.cons.injEq, Value.slice.injEq, true_and, and_true] at h6
        obtain ⟨rfl, rfl⟩ := h6
        clear hF5
        repeat (first | replace hR5 := Later.of_drew hR5 | replace hR5 := Later.of_drewN hR5 | replace hR5 := Later.of_alloc hR5)
        have n0 := cell_obj (i := 0) hn5 rfl
        have n1 := cell_obj (i := 1) hn5 rfl
        have y0 := free_obj (i := 0) hn5
        have y1 := free_obj (i := 1) hn5
        have HN5 := hid hn5
        have HO5 := hid ho5
        have HR5 := hid (Later.trans _ _ _ HR4.out hR5)
        have hwb : w.heap.size ≤ b5 := Nat.le_trans HR4.out.size hbs
        clear hn5 hR5 ho5 r0 r2 q1 q2
        change wpList _ _ _ _ _ _
        go_upto_region 9 with (fail)
        have hne := own_ne HO5.out HN5.out (by decide)
        have ho6 := own_set (own_set HO5.out (p := ⟨b5, 0, none⟩) hne (.int .i64 x.time)) (p := ⟨b5, 1, none⟩) hne (.slice a5 x.vals.length c5)
        have hn6 := obj_setCell (i := 1) (obj_setCell (i := 0) HN5.out (.int .i64 x.time)) (.slice a5 x.vals.length c5)
        have hL6 : Later w _ := (HR5.out.new (p := ⟨b5, 0, none⟩) hwb (.int .i64 x.time)).new (p := ⟨b5, 1, none⟩) hwb (.slice a5 x.vals.length c5)
        generalize (w5.setCell ⟨b5, 0, none⟩ (.int .i64 x.time)).setCell ⟨b5, 1, none⟩ (.slice a5 x.vals.length c5) = w6 at *
        clear hne HN5 HO5 HR5 n0 n1 y0 y1
        have n0 := cell_obj (i := 0) hn6 rfl
        have n1 := cell_obj (i := 1) hn6 rfl
        have HO6 := hid ho6
        have HL6 := hid hL6
        have HW4 : Hid (w.heap.size ≤ w4.heap.size) := hid HR4.out.size
        clear hn6 ho6 hL6
        go_wp2_with (at_builtin; go_loud (refine wpList_append_obj rfl _ _ 46 rfl 61 5 56 Tryd.underlying46 infoE rfl (World.ownsRow_nil _ w.heap.size _ _) (news := (rowElem x).cells (.slice a5 x.vals.length c5)) rfl (obj_new w6 _) rfl (oneCell_elem rfl) (by omega) (by unfold maxLen; omega) (by have := HL6.out.size; simp only [World.size_alloc]; omega) ?_))
        intro v7 w7 hA7
        have hE7 : ElemsOwn w.heap.size w7 v7 [rowElem x] := elems_add (es := []) (vs := []) (e := rowElem x) rfl (fun i hi => by cases hi) (((owned_valsO HO6.out).o_later (Later.alloc _ _)).o_mono fun b hb => ⟨by have := HW4.out; omega, by simp [Value.ownBlock]⟩) hA7
        obtain ⟨a7, c7, rfl⟩ := ownsRow_slice hA7.own
        have hL7 : Later w w7 := hA7.later (World.ownsRow_nil _ _ _ _) (HL6.out.alloc' _) (Nat.le_refl _)
        have HE7 := hid hE7
        have HL7 := hid hL7
        clear hA7 hE7 hL7 n0 n1 HO6 HL6
        go_wp2_with fail
        refine Meet.mk' HR1.out rfl ?_
        have hr : rdRow rows bound n = [rowElem x] := HRow.out
        rw [hr]
        exact ⟨a7, c7, rfl, HE7.out, HL7.out⟩
    · have hr : rdRow rows bound n = [] := by unfold rdRow; rw [List.getElem?_eq_none (by omega)]
      go_wp2_with fail
      refine Meet.mk' HR1.out rfl ?_
      rw [hr]
      exact ⟨none, 0, rfl, ElemsOwn.nil _ _, HR3.out⟩
  intro us1 w4 hrel
  obtain ⟨a3, c3, h3, hE, hL⟩ := hrel
  simp only [frameOf, Nat.reduceAdd, h3]
  have Hh3 := hid h3; clear h3
  have r0 := cell_obj (i := 0) (hL.obj HO.out) rfl
  have r2 := cell_obj (i := 2) (hL.obj HO.out) rfl
  have z2 := free_obj (i := 2) (hL.obj HO.out)
  have HL4 := hid hL
  have HE4 := hid hE
  have HR4 : Hid (Rd4 (w4.setCell ⟨X, 2, none⟩ (.int .i64 ((n + 1 : Nat) : Int))) X _ rows bound (n + 1)) := hid ((H.out.later hL).seek (n + 1))
  have hXlt : X < w.heap.size := (Array.getElem?_eq_some_iff.1 HO.out).1
  clear hL hE
  go_upto_region 11 with (fail)
  rw [show ((n : Int) + 1) = ((n + 1 : Nat) : Int) by omega]
  have HK5 : Hid (Keeps (fun b => b ≠ X) w (w4.setCell ⟨X, 2, none⟩ (.int .i64 ((n + 1 : Nat) : Int)))) := hid ((HL4.out.keeps _).setCell (.inl (by simp)) _)
  have HE5 : Hid (ElemsOwn w.heap.size (w4.setCell ⟨X, 2, none⟩ (.int .i64 ((n + 1 : Nat) : Int))) (.slice a3 (rdRow rows bound n).length c3) (rdRow rows bound n)) := hid (HE4.out.kept (S := fun b => b ≠ X) ((Keeps.refl _ _).setCell (.inl (by simp)) _) fun b hb => by omega)
  generalize w4.setCell ⟨X, 2, none⟩ (.int .i64 ((n + 1 : Nat) : Int)) = w5 at *
  clear r0 r2 z2 HL4 HE4
  have r2 := cell_obj (i := 2) HR4.out.obj rfl
  go_wp2_with fail
  refine (rd_time X _ rows bound (n + 1) (n + 1) _ HR4.out HOK.out (by omega)).mono ?_
  rintro e w6 ⟨rfl, hL6⟩
  have HR6 := hid (hL6.obj HR4.out.obj)
  have HK6 := hid (HK5.out.more hL6)
  have HE6 := hid (HE5.out.kept (hL6.keeps All) fun _ _ => trivial)
  have hlen1 := rdRow_len rows bound n
  clear hL6 r2 HR4 HK5 HE5
  by_cases hlt : rdTime rows bound n < rdTime rows bound (n + 1)
  · have HT2 : Hid (rdTold rows bound n = [timeElem (rdTime rows bound (n + 1))]) := hid (if_pos hlt)
    generalize rdTime rows bound (n + 1) = t1 at *
    generalize rdTime rows bound n = t0 at *
    obtain ⟨vs, hl, ho, hvs⟩ := HE6.out
    have HVS := hid hvs
    have HOW := hid ho
    have HLS := hid hl
    have hw6 : w.heap.size ≤ w6.heap.size := HK6.out.size
    clear HE6
    go_wp2_with (at_builtin; go_loud (refine wpList_append_obj rfl _ _ 46 rfl 61 5 56 Tryd.underlying46 infoE rfl (own_later HOW.out (Later.alloc _ _)) (news := (timeElem t1).cells (.slice none 0 0)) rfl (obj_new w6 _) rfl (oneCell_elem rfl) (by omega) (by unfold maxLen; omega) (by simp only [World.size_alloc]; omega) ?_))
    intro v7 w7 hA7
    have hE7 : ElemsOwn w.heap.size w7 v7 (rdRow rows bound n ++ [timeElem t1]) := elems_add HLS.out (fun i hi => (HVS.out i hi).o_later (Later.alloc _ _)) (valsO_nil _ _) hA7
    obtain ⟨a7, c7, rfl⟩ := ownsRow_slice hA7.own
    have HE7 := hid hE7
    have HK7 := hid ((HK6.out.alloc _).grown hA7.grown (fun k hk => (HOW.out.lt k hk).1))
    have HX7 : Hid (w7.heap[X]? = _) := hid (hA7.obj ((Later.alloc _ _).obj HR6.out) (fun he => by have := (HOW.out.lt X he.symm).1; omega))
    clear hE7 hA7
    go_wp2
    go_ret
    exact ⟨_, rfl, by rw [HN.out]; exact HX7.out, by rw [HT.out, HT2.out]; exact HE7.out, HK7.out⟩
  · have HT2 : Hid (rdTold rows bound n = []) := hid (if_neg hlt)
    go_wp2
    go_ret
    exact ⟨_, rfl, by rw [HN.out]; exact HR6.out, by rw [HT.out, HT2.out, List.append_nil]; exact HE6.out, HK6.out⟩
end Go.Proofs.YthfgjmdmcoogpaaDoor
