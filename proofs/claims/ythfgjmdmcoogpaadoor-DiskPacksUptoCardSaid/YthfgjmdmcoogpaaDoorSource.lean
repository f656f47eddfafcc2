/-
  PROVED HERE: the contracts of the methods of source.Reader.
-/
import Derived.Test.YthfgjmdmcoogpaaDoorElem
namespace Go.Proofs.YthfgjmdmcoogpaaDoor
set_option linter.unusedSimpArgs false
set_option linter.unusedVariables false
open Go.RowKit

theorem RdrAt.later {S0 : Nat → Prop} {w w' : World} {R : Nat} {s : Src} (h : RdrAt S0 w R s) (k : Later w w') : RdrAt S0 w' R s := let ⟨sv, h1, h2⟩ := h; ⟨sv, k.obj h1, h2.rows_later k⟩
def EndTo (w : World) (s : Src) (e : Ending) (w' : World) : Prop := e = .returned (.bool (decide (s.rows.length < s.at_))) ∧ Later w w'

theorem ended_any {S0 : Nat → Prop} (R : Nat) (s : Src) (w : World) (h : RdrAt S0 w R s) (hs : s.rows.length ≤ 100) (ha : s.at_ ≤ 101) :
    Calls Tryd.prog 23 #[.pointer (some ⟨R, 0, none⟩)] w (EndTo w s) := by
  obtain ⟨sv, ho, a, c, rfl, -⟩ := h
  have r0 := cell_obj (i := 0) ho rfl
  have r2 := cell_obj (i := 2) ho rfl
  clear ho
  go_enter Tryd.func23, Tryd.ntmps23
  go_wp2
  refine wp_region_lex (by kernel_rfl) (by kernel_rfl) Later Later.refl Later.trans (fun _ => none) (fun _ _ _ _ _ h => by cases h) ?_
  simp only [numbered, Nat.reduceAdd]
  iterate 11
    first
    | (refine Lex.skip rfl ?_; simp only [Act.put, List.setIfInBounds_toArray, List.set])
    | (refine Lex.one' rfl rfl ?_
       apply Exists.intro
       refine ⟨fun w hR hF => ?_, ?_⟩
       · have hP := hR
         repeat (first | replace hP := Later.of_drew hP | replace hP := Later.of_drewN hP | replace hP := Later.of_alloc hP)
         have hcs := hR.cells
         have zr0 := hP.cell r0
         have zr2 := hP.cell r2
         clear hR hF hP
         go_simp
         first | done | rfl
       simp only [Act.put, List.setIfInBounds_toArray, List.set])
  intro w1 hR1 hF9
  clear hF9
  repeat (first | replace hR1 := Later.of_drew hR1 | replace hR1 := Later.of_drewN hR1 | replace hR1 := Later.of_alloc hR1)
  go_wp2
  go_ret
  exact ⟨ret_bool (by simp), hR1⟩

def LateTo (w : World) (s : Src) (e : Ending) (w' : World) : Prop := e = .returned (.int .i64 s.late) ∧ w = w'
theorem late_any {S0 : Nat → Prop} (R : Nat) (s : Src) (w : World) (h : RdrAt S0 w R s) : Calls Tryd.prog 22 #[.pointer (some ⟨R, 0, none⟩)] w (LateTo w s) := by
  obtain ⟨sv, ho, a, c, rfl, -⟩ := h
  have r4 := cell_obj (i := 4) ho rfl
  clear ho
  go_enter Tryd.func22, Tryd.ntmps22
  go_wp2
  go_ret
  exact ⟨rfl, rfl⟩

def timeElem (t : Int) : Elem := ⟨2, ⟨0, []⟩, t, 0⟩
def rowElem (r : Row) : Elem := ⟨1, r, 0, 0⟩
def Src.advance (s : Src) (to : Int) : Src × List Elem := if to ≤ s.time then (s, []) else ({ s with time := to }, [timeElem to])
/-- what a step of a reader comes to. -/
def StepTo (S0 : Nat → Prop) (w : World) (R : Nat) (s : Src) (es : List Elem) (e : Ending) (w' : World) : Prop :=
  ∃ v, e = .returned v ∧ RdrAt S0 w' R s ∧ ElemsOwn w.heap.size w' v es ∧ Keeps (fun b => b ≠ R) w w'

theorem vals_nil (S : Nat → Prop) (w : World) : ValsIn S w (.slice none 0 0) [] := ⟨none, 0, rfl, Nat.le_refl _, by unfold maxLen; omega, fun _ => rfl, fun i hi => by cases hi⟩
theorem elemsOwn_one {B : Nat} {w : World} {e : Elem} {v : Value} (hB : B ≤ w.heap.size) (hv : ValsOwn (fun b => B ≤ b ∧ b ≠ w.heap.size) w v e.row.vals) :
    ElemsOwn B (w.alloc (.cells (e.cells v).toArray 61)) (.slice (some ⟨w.heap.size, 0, none⟩) 1 1) [e] := by
  refine ⟨[v], rfl, ?_, fun i hi => ?_⟩
  · have := World.ownsRow_lit (base := B) (e := 61) (size := 5) w (e.cells v).toArray 1 hB (by unfold maxLen; omega) rfl
    simpa [elemCells] using this
  · obtain rfl : i = 0 := by simp at hi; omega
    exact hv.map fun b o x hb hx => ⟨⟨hb.1, by simp [Value.ownBlock]; exact hb.2⟩, hx.later (Later.alloc _ _)⟩
theorem advance_any {S0 : Nat → Prop} (R : Nat) (s : Src) (to : Int) (w : World) (h : RdrAt S0 w R s) :
    Calls Tryd.prog 67 #[.pointer (some ⟨R, 0, none⟩), .int .i64 to] w (StepTo S0 w R (s.advance to).1 (s.advance to).2) := by
  obtain ⟨sv, ho, hrows⟩ := h
  have r3 := cell_obj (i := 3) ho rfl
  have z3 := free_obj (i := 3) ho
  have hlt : R < w.heap.size := (Array.getElem?_eq_some_iff.1 ho).1
  have HO := hid ho; have HR := hid hrows
  clear ho hrows
  by_cases hc : to ≤ s.time
  · have HA : Hid (s.advance to = (s, [])) := hid (by simp [Src.advance, hc])
    go_enter Tryd.func67, Tryd.ntmps67
    go_wp2
    go_ret
    rw [HA.out]
    exact ⟨_, rfl, ⟨sv, HO.out, HR.out⟩, ElemsOwn.nil _ _, Keeps.refl _ _⟩
  · have HA : Hid (s.advance to = ({ s with time := to }, [timeElem to])) := hid (by simp [Src.advance, hc])
    go_enter Tryd.func67, Tryd.ntmps67
    go_wp2
    go_ret
    rw [HA.out]
    have hK : Keeps (fun b => b ≠ R) w (w.setCell ⟨R, 3, none⟩ (.int .i64 to)) := (Keeps.refl _ _).setCell (.inl (by simp)) _
    refine ⟨_, rfl, ⟨sv, (Later.alloc _ _).obj (obj_setCell HO.out _), (HR.out.rows_kept hK fun b hb => by omega).rows_later (Later.alloc _ _)⟩, ?_, hK.alloc _⟩
    have := elemsOwn_one (B := w.heap.size) (w := w.setCell ⟨R, 3, none⟩ (.int .i64 to)) (e := timeElem to) (v := .slice none 0 0) (by simp) (valsO_nil _ _)
    rwa [World.size_setCell] at this

/-- where nothing is told, nothing is made. -/
theorem advance_no {S0 : Nat → Prop} (R : Nat) (s : Src) (to : Int) (w : World) (h : RdrAt S0 w R s) (hc : to ≤ s.time) :
    Calls Tryd.prog 67 #[.pointer (some ⟨R, 0, none⟩), .int .i64 to] w fun e w' => e = .returned (.slice none 0 0) ∧ w = w' := by
  obtain ⟨sv, ho, hrows⟩ := h
  have r3 := cell_obj (i := 3) ho rfl
  clear ho hrows
  go_enter Tryd.func67, Tryd.ntmps67
  go_wp2
  go_ret
  exact ⟨rfl, rfl⟩
def ToldTo (w : World) (R : Nat) (sv : Value) (s : Src) (to : Int) (e : Ending) (w' : World) : Prop :=
  e = .returned (.slice (some ⟨w.heap.size, 0, none⟩) 1 1) ∧ w'.heap[R]? = some (.cells #[sv, .int .i64 s.bound, .int .i64 s.at_, .int .i64 to, .int .i64 s.late] 123 (0, 0)) ∧
    w'.heap[w.heap.size]? = some (.cells (Elem.cells (timeElem to) (.slice none 0 0)).toArray 61 (0, 0)) ∧ Keeps (fun b => b ≠ R) w w'
theorem advance_yes (R : Nat) (sv : Value) (s : Src) (to : Int) (w : World) (ho : w.heap[R]? = some (.cells #[sv, .int .i64 s.bound, .int .i64 s.at_, .int .i64 s.time, .int .i64 s.late] 123 (0, 0))) (hc : ¬ to ≤ s.time) :
    Calls Tryd.prog 67 #[.pointer (some ⟨R, 0, none⟩), .int .i64 to] w (ToldTo w R sv s to) := by
  have r3 := cell_obj (i := 3) ho rfl
  have z3 := free_obj (i := 3) ho
  have hlt : R < w.heap.size := (Array.getElem?_eq_some_iff.1 ho).1
  have HO := hid ho
  clear ho
  go_enter Tryd.func67, Tryd.ntmps67
  go_wp2
  go_ret
  have hK : Keeps (fun b => b ≠ R) w (w.setCell ⟨R, 3, none⟩ (.int .i64 to)) := (Keeps.refl _ _).setCell (.inl (by simp)) _
  refine ⟨rfl, (Later.alloc _ _).obj (obj_setCell HO.out _), ?_, hK.alloc _⟩
  have := obj_new (w.setCell ⟨R, 3, none⟩ (.int .i64 to)) (.cells (Elem.cells (timeElem to) (.slice none 0 0)).toArray 61 (0, 0))
  rwa [World.size_setCell] at this

/-- a new variable, not written yet. -/
def NewAt (B : Nat) (cs : Array Value) (t : TypeId) (v : Value) (w : World) : Prop := ∃ b, v = .pointer (some ⟨b, 0, none⟩) ∧ w.heap[b]? = some (.cells cs t (0, 0)) ∧ B ≤ b
theorem NewAt.later {B : Nat} {cs : Array Value} {t : TypeId} {v : Value} {w w' : World} (h : NewAt B cs t v w) (k : Later w w') : NewAt B cs t v w' := let ⟨b, h1, h2, h3⟩ := h; ⟨b, h1, k.obj h2, h3⟩


def Src.take (s : Src) : Src × List Elem :=
  if s.rows.length < s.at_ then (s, []) else
  match s.rows[s.at_]? with
  | none => Src.advance { s with at_ := s.at_ + 1 } 1099511627777
  | some x => if x.time < s.time then ({ s with at_ := s.at_ + 1, late := s.late + 1 }, []) else
      ((Src.advance { s with at_ := s.at_ + 1 } (x.time - s.bound)).1, rowElem x :: (Src.advance { s with at_ := s.at_ + 1 } (x.time - s.bound)).2)
def Src.Ok (s : Src) : Prop := s.rows.length ≤ 100 ∧ s.rows.all validR = true ∧ 0 ≤ s.bound ∧ s.bound ≤ 1048576 ∧ s.at_ ≤ 101 ∧ 0 ≤ s.late ∧ s.late ≤ 101

set_option maxRecDepth 100000 in
set_option maxHeartbeats 4000000 in
theorem take_any {S0 : Nat → Prop} (R : Nat) (s : Src) (w : World) (h : RdrAt S0 w R s) (hs : s.Ok) :
    Calls Tryd.prog 17 #[.pointer (some ⟨R, 0, none⟩)] w (StepTo S0 w R s.take.1 s.take.2) := by
  obtain ⟨hs1, hs2, hs3, hs4, hs5, hs6, hs7⟩ := hs
  have HRd := hid h
  by_cases h0 : s.rows.length < s.at_
  · have HT : Hid (s.take = (s, [])) := hid (by simp [Src.take, h0])
    have h0' : decide (s.rows.length < s.at_) = true := by simpa using h0
    clear h
    go_enter Tryd.func17, Tryd.ntmps17
    go_wp2_with (go_at_call 23; refine (ended_any R s _ HRd.out (by omega) (by omega)).mono ?_; rintro e w1 ⟨rfl, hL1⟩)
    go_ret
    rw [HT.out]
    exact ⟨_, rfl, HRd.out.later hL1, ElemsOwn.nil _ _, hL1.keeps _⟩
  · have h0' : decide (s.rows.length < s.at_) = false := by simpa using h0
    obtain ⟨sv, ho, hrows⟩ := h
    have HRows := hid hrows
    obtain ⟨a, c, rfl, hac, hcm, -, hea⟩ := hrows
    have HE := hid hea
    have hlt : R < w.heap.size := (Array.getElem?_eq_some_iff.1 ho).1
    have HO := hid ho
    clear hea hcm hac ho
    go_enter Tryd.func17, Tryd.ntmps17
    go_wp2_with fail
    refine (ended_any R s _ HRd.out (by omega) (by omega)).mono ?_
    rintro e w1 ⟨rfl, hL1⟩
    have ho1 := hL1.obj HO.out
    have r2 := cell_obj (i := 2) ho1 rfl
    have z2 := free_obj (i := 2) ho1
    have HO1 := hid ho1
    have HL1 := hid hL1
    clear ho1 hL1
    go_wp2_with fail
    have hRd2 : RdrAt S0 (w1.setCell ⟨R, 2, none⟩ (.int .i64 (s.at_ + 1))) R { s with at_ := s.at_ + 1 } :=
      ⟨_, obj_setCell HO1.out _, (HRows.out.rows_later HL1.out).rows_kept (S' := fun b => b ≠ R) ((Keeps.refl _ _).setCell (.inl (by simp)) _) fun b hb => by omega⟩
    have hK2 : Keeps (fun b => b ≠ R) w (w1.setCell ⟨R, 2, none⟩ (.int .i64 (s.at_ + 1))) := (HL1.out.keeps _).setCell (.inl (by simp)) _
    have hz2 : (w1.setCell ⟨R, 2, none⟩ (.int .i64 (s.at_ + 1))).heap.size = w1.heap.size := by simp
    have hw1 := HL1.out.size
    have HRd2 := hid hRd2; have HK2 := hid hK2
    clear hRd2 hK2 r2 z2
    refine (ended_any R { s with at_ := s.at_ + 1 } _ HRd2.out (by simp; omega) (by simp; omega)).mono ?_
    rintro e w2 ⟨rfl, hL2⟩
    have hw2 : w1.heap.size ≤ w2.heap.size := by have := hL2.size; omega
    have HRd3 := hid (HRd2.out.later hL2)
    have HK3 := hid (HK2.out.more hL2)
    have HO3 := hid (hL2.obj (obj_setCell (i := 2) HO1.out (.int .i64 (s.at_ + 1))))
    have HRows3 : Hid (RowsIn (fun b => (R < b ∧ S0 b) ∧ b < w.heap.size) w2 (.slice a s.rows.length c) s.rows) := hid (((rows_lt HRows.out).rows_later HL1.out).rows_kept (S' := fun b => b ≠ R) ((Keeps.refl _ _).setCell (.inl (by simp)) _) (fun b hb => by omega) |>.rows_later hL2)
    clear hL2 hz2
    by_cases h1 : s.at_ < s.rows.length
    · have h1' : decide (s.rows.length < s.at_ + 1) = false := by simp; omega
      have ho3 := HO3.out
      obtain ⟨a3, c3, e3, -, -, -, hea3⟩ := HRows3.out
      obtain ⟨b1, o1, e1, hb1, p1, v, p2, hv⟩ := hea3 s.at_ h1
      simp only [Value.slice.injEq, true_and] at e3
      obtain ⟨rfl, rfl⟩ := e3
      subst e1
      have r0 := cell_obj (i := 0) ho3 rfl
      have r1 := cell_obj (i := 1) ho3 rfl
      have r2 := cell_obj (i := 2) ho3 rfl
      have r3 := cell_obj (i := 3) ho3 rfl
      have r4 := cell_obj (i := 4) ho3 rfl
      clear ho3 hea3
      have HV := hid hv
      obtain ⟨a2, c2, rfl, -⟩ := HV.out
      have hX : ∃ x, x = s.rows[s.at_] := ⟨_, rfl⟩
      obtain ⟨x, hX⟩ := hX
      have HX := hid hX
      have HVX : Hid (ValsIn (fun b => (R < b ∧ S0 b) ∧ b < w.heap.size) w2 (.slice a2 s.rows[s.at_].vals.length c2) s.rows[s.at_].vals) := HV
      rw [← hX] at p1 p2 HVX
      clear hX HV hv
      have hi1 : IntKind.i64.wrap (s.at_ : Int) = s.at_ := IntWalk.i64_in (s.at_ : Int) (by omega)
      have hi0 : (0 : Int) ≤ s.at_ := by omega
      go_wp2_with fail
      refine wp_region_plan (by kernel_rfl) (by kernel_rfl) [] [12] (by kernel_rfl) (fun _ _ d _ _ h => by cases d <;> exact h) (Later) (Later.refl) (Later.trans) (kinds [(11, NewAt w2.heap.size #[.int .i64 0, .slice none 0 0] 37)]) (kinds_still (by simp only [List.mem_cons, List.not_mem_nil, or_false, forall_eq]; exact fun _ _ _ hR h => h.later hR)) ?_
      simp only [body, tail, numbered, Nat.reduceAdd, List.filter_cons, List.filter_nil, List.contains_cons, List.contains_nil, Nat.reduceBEq, Bool.or_false, Bool.or_true, Bool.false_or, Bool.true_or, Bool.not_true, Bool.not_false, Bool.and_true, Bool.and_false, Bool.true_and, Bool.false_and, if_true, if_false, reduceIte, Bool.false_eq_true, List.map_cons, List.map_nil]
      simp only [Pures]
      iterate 11
        first
        | (refine Lex.skip rfl ?_; simp only [Act.put, List.setIfInBounds_toArray, List.set])
        | (refine Lex.one' rfl rfl ?_
           apply Exists.intro
           refine ⟨fun w hR hF => ?_, ?_⟩
           · have hP := hR
             repeat (first | replace hP := Later.of_drew hP | replace hP := Later.of_drewN hP | replace hP := Later.of_alloc hP)
             have hcs := hR.cells
             have zr0 := hP.cell r0
             have zr2 := hP.cell r2
             have zp1 := hP.cell p1
             have zp2 := hP.cell p2
             clear hR hF hP
             go_simp
             first | done | rfl
           simp only [Act.put, List.setIfInBounds_toArray, List.set])
      refine Lex.any rfl rfl (fun w3 hR hF => ?_) ?_
      · clear hF
        have hP := hR
        repeat (first | replace hP := Later.of_drew hP | replace hP := Later.of_drewN hP | replace hP := Later.of_alloc hP)
        have hsz : w2.heap.size ≤ w3.heap.size := hP.size
        clear hR hP r0 r1 r2 r3 r4 p1 p2
        unfold Runs
        go_simp
        exact yield_value (Later.alloc _ _) ⟨_, rfl, obj_new _ _, hsz⟩
      rintro v11 ⟨w3, hR3, hF3⟩
      obtain ⟨b, rfl, -⟩ := hF3 _ List.mem_cons_self _ rfl
      clear hF3 hR3 w3
      simp only [Act.put, List.setIfInBounds_toArray, List.set]
      intro w3 hR3 hF3
      obtain ⟨b', hb', hn3, hbs⟩ := hF3 _ List.mem_cons_self _ rfl
      simp only [Value.pointer.injEq, Option.some.injEq, Addr.mk.injEq] at hb'
      obtain ⟨rfl, -, -⟩ := hb'
      clear hF3
      repeat (first | replace hR3 := Later.of_drew hR3 | replace hR3 := Later.of_drewN hR3 | replace hR3 := Later.of_alloc hR3)
      have hRlt : R < w2.heap.size := (Array.getElem?_eq_some_iff.1 HO3.out).1
      have n0 := cell_obj (i := 0) hn3 rfl
      have n1 := cell_obj (i := 1) hn3 rfl
      have y0 := free_obj (i := 0) hn3
      have y1 := free_obj (i := 1) hn3
      have HN3 := hid hn3
      have HL3 := hid hR3
      clear hn3 hR3 r0 r1 r2 r3 r4 p1 p2
      go_wp2_with fail
      have hx := obj_setCell (i := 1) (obj_setCell (i := 0) HN3.out (.int .i64 x.time)) (.slice a2 x.vals.length c2)
      have hL4 : Later w2 ((w3.setCell ⟨b, 0, none⟩ (.int .i64 x.time)).setCell ⟨b, 1, none⟩ (.slice a2 x.vals.length c2)) := (HL3.out.new hbs _).new hbs _
      generalize (w3.setCell ⟨b, 0, none⟩ (.int .i64 x.time)).setCell ⟨b, 1, none⟩ (.slice a2 x.vals.length c2) = w4 at *
      clear n0 n1 y0 y1 HN3 HL3
      have x0 := cell_obj (i := 0) hx rfl
      have x1 := cell_obj (i := 1) hx rfl
      have ho4 := hL4.obj HO3.out
      have r1 := cell_obj (i := 1) ho4 rfl
      have r3 := cell_obj (i := 3) ho4 rfl
      have r4 := cell_obj (i := 4) ho4 rfl
      have z4 := free_obj (i := 4) ho4
      have HO4 := hid ho4
      have HV4 := hid (HVX.out.later hL4)
      have HRows4 := hid (HRows3.out.rows_later hL4)
      have HK4 := hid (HK3.out.more hL4)
      have hw4 : w2.heap.size ≤ w4.heap.size := hL4.size
      clear hx ho4 hL4 HVX HRows3 HO3 HRd3 w3
      by_cases hlate : x.time < s.time
      · clear HRd
        refine wp_region_lex (by kernel_rfl) (by kernel_rfl) Later Later.refl Later.trans (fun _ => none) (fun _ _ _ _ _ h => by cases h) ?_
        simp only [numbered, Nat.reduceAdd]
        iterate 7
          first
          | (refine Lex.skip rfl ?_; simp only [Act.put, List.setIfInBounds_toArray, List.set])
          | (refine Lex.one' rfl rfl ?_
             apply Exists.intro
             refine ⟨fun w hR hF => ?_, ?_⟩
             · have hP := hR
               repeat (first | replace hP := Later.of_drew hP | replace hP := Later.of_drewN hP | replace hP := Later.of_alloc hP)
               have hcs := hR.cells
               have zx0 := hP.cell x0
               have zr3 := hP.cell r3
               clear hR hF hP
               go_simp
               first | done | rfl
             simp only [Act.put, List.setIfInBounds_toArray, List.set])
        intro w5 hR5 hF9
        clear hF9
        repeat (first | replace hR5 := Later.of_drew hR5 | replace hR5 := Later.of_drewN hR5 | replace hR5 := Later.of_alloc hR5)
        have ho5 := hR5.obj HO4.out
        replace r4 := cell_obj (i := 4) ho5 rfl
        replace z4 := free_obj (i := 4) ho5
        have HO5 := hid ho5
        have HR5 := hid hR5
        clear x0 x1 r1 r3 ho5 hR5
        have HT : Hid (s.take = ({ s with at_ := s.at_ + 1, late := s.late + 1 }, [])) := hid (by
          have : s.rows[s.at_]? = some x := by rw [HX.out]; exact List.getElem?_eq_getElem h1
          simp [Src.take, h0, this, hlate])
        go_wp2
        go_ret
        rw [HT.out]
        exact ⟨_, rfl, ⟨_, obj_setCell HO5.out _, ((HRows4.out.rows_later HR5.out).rows_kept (S' := fun b => b ≠ R) ((Keeps.refl _ _).setCell (.inl (by simp)) _) fun b hb => by omega).rows_mono fun b hb => hb.1⟩, ElemsOwn.nil _ _, (HK4.out.more HR5.out).setCell (.inl (by simp)) _⟩
      · clear HRd
        refine wp_region_lex (by kernel_rfl) (by kernel_rfl) Later Later.refl Later.trans (fun _ => none) (fun _ _ _ _ _ h => by cases h) ?_
        simp only [numbered, Nat.reduceAdd]
        iterate 7
          first
          | (refine Lex.skip rfl ?_; simp only [Act.put, List.setIfInBounds_toArray, List.set])
          | (refine Lex.one' rfl rfl ?_
             apply Exists.intro
             refine ⟨fun w hR hF => ?_, ?_⟩
             · have hP := hR
               repeat (first | replace hP := Later.of_drew hP | replace hP := Later.of_drewN hP | replace hP := Later.of_alloc hP)
               have hcs := hR.cells
               have zx0 := hP.cell x0
               have zr3 := hP.cell r3
               clear hR hF hP
               go_simp
               first | done | rfl
             simp only [Act.put, List.setIfInBounds_toArray, List.set])
        intro w5 hR5 hF9
        clear hF9
        repeat (first | replace hR5 := Later.of_drew hR5 | replace hR5 := Later.of_drewN hR5 | replace hR5 := Later.of_alloc hR5)
        have ho5 := hR5.obj HO4.out
        replace r1 := cell_obj (i := 1) ho5 rfl
        replace x0 := hR5.cell x0
        replace x1 := hR5.cell x1
        have HO5 := hid ho5
        have HV5 := hid (HV4.out.later hR5)
        have HRows5 := hid (HRows4.out.rows_later hR5)
        have HK5 := hid (HK4.out.more hR5)
        have hw5 : w2.heap.size ≤ w5.heap.size := Nat.le_trans hw4 hR5.size
        clear r3 r4 z4 ho5 hR5 HV4 HRows4 HK4 HO4
        have hvx : validR x = true := by rw [HX.out]; exact List.all_eq_true.1 hs2 _ (List.getElem_mem h1)
        have hl8 : x.vals.length * 32 ≤ 140737488355328 := by
          simp only [validR, Bool.and_eq_true, decide_eq_true_eq] at hvx; omega
        have ht0 : 0 ≤ x.time := by simp only [validR, Bool.and_eq_true, decide_eq_true_eq] at hvx; exact hvx.1
        have ht1 : x.time ≤ 1099511627776 := by simp only [validR, Bool.and_eq_true, decide_eq_true_eq] at hvx; exact hvx.2.1
        obtain ⟨i0, hi, hz0, hz1, hz2⟩ := info_parts infoElem
        have HI := hid hi; have HZ0 := hid hz0; have HZ1 := hid hz1; have HZ2 := hid hz2
        clear hi hz0 hz1 hz2 hvx hs2
        go_wp2_with fail
        refine (clone_row x.time x.vals _ _ (HV5.out.vals_mono fun _ _ => trivial) hl8).mono ?_
        rintro e w6 ⟨v6, rfl, ho6, hL6⟩
        obtain ⟨a6, c6, rfl⟩ := ho6.slice
        have HO6 := hid ho6; have HL6 := hid hL6
        clear ho6 hL6 hl8
        go_wp2_with (at_builtin; refine wpList_append _ rfl _ _ 46 rfl w.heap.size 61 i0 _ 5 56 Tryd.underlying46 HI.out HZ0.out HZ1.out HZ2.out rfl (by decide) (.slice none 0 0) 0 [] rfl (World.ownsRow_nil _ _ _ _) ⟨w6.heap.size, 0, none⟩ 1 1 (elemCells [rowElem x] [.slice a6 x.vals.length c6]) rfl rfl ?c1 ?c2 ?c3 ?c4 ?c5 ?_)
        case c1 =>
          intro j u hu
          rw [add_none rfl, Nat.zero_add]
          exact cell_obj (obj_new _ _) (by simpa [elemCells, Elem.cells, rowElem] using hu)
        case c2 => exact elemCells_one fun v hv => by simp only [List.mem_cons, List.not_mem_nil, or_false] at hv; subst hv; rfl
        case c3 => unfold maxLen; omega
        case c4 => omega
        case c5 => have := HL6.out.size; simp only [World.size_alloc]; omega
        intro v7 w7 hA7
        obtain ⟨a7, c7, rfl⟩ := ownsRow_slice hA7.own
        have hL7 : Later w5 w7 := Later.trans _ _ _ (HL6.out.alloc' _) ((Keeps.of_grown hA7.grown).mono fun _ _ _ => by simp [Value.ownBlock]).later
        have HE7 : Hid (ElemsOwn w.heap.size w7 (.slice a7 1 c7) [rowElem x]) := hid (ElemsOwn.append (sv := .slice none 0 0) (es := []) (vs := []) (fs := [rowElem x]) (us := [.slice a6 x.vals.length c6]) rfl rfl (fun i hi => by cases hi) (fun i hi => by
          obtain rfl : i = 0 := by simp at hi; omega
          exact ((owned_valsO HO6.out.1).o_later (Later.alloc _ _)).o_mono fun b hb => ⟨by have := HL6.out.size; omega, by simp [Value.ownBlock]⟩) hA7)
        clear hA7 HO6 HL6
        replace r1 := hL7.cell r1
        replace x0 := hL7.cell x0
        have HO7 := hid (hL7.obj HO5.out)
        have HRows7 := hid (HRows5.out.rows_later hL7)
        have HK7 := hid (HK5.out.more hL7)
        have hw7 : w5.heap.size ≤ w7.heap.size := hL7.size
        clear hL7 x1 HO5 HRows5 HK5
        have hi2 : IntKind.i64.wrap (x.time - s.bound) = x.time - s.bound := IntWalk.i64_in (x.time - s.bound) (by omega)
        go_wp2
        refine wp_region_plan (by kernel_rfl) (by kernel_rfl) [0] [9, 10, 11] (by kernel_rfl) (fun _ _ d _ _ h => by cases d <;> exact h) (Later) (Later.refl) (Later.trans) (fun _ => none) (fun _ _ _ _ _ h => by cases h) ?_
        simp only [body, tail, numbered, Nat.reduceAdd, List.filter_cons, List.filter_nil, List.contains_cons, List.contains_nil, Nat.reduceBEq, Bool.or_false, Bool.or_true, Bool.false_or, Bool.true_or, Bool.not_true, Bool.not_false, Bool.and_true, Bool.and_false, Bool.true_and, Bool.false_and, if_true, if_false, reduceIte, Bool.false_eq_true, List.map_cons, List.map_nil]
        refine Pures.cons rfl ?_
        apply Exists.intro
        refine ⟨fun w => ?_, ?_⟩
        · go_simp
          first | done | rfl
        simp only [Act.put, List.setIfInBounds_toArray, List.set]
        simp only [Pures]
        iterate 8
          first
          | (refine Lex.skip rfl ?_; simp only [Act.put, List.setIfInBounds_toArray, List.set])
          | (refine Lex.one' rfl rfl ?_
             apply Exists.intro
             refine ⟨fun w hR hF => ?_, ?_⟩
             · have hP := hR
               repeat (first | replace hP := Later.of_drew hP | replace hP := Later.of_drewN hP | replace hP := Later.of_alloc hP)
               have hcs := hR.cells
               have zx0 := hP.cell x0
               have zr1 := hP.cell r1
               clear hR hF hP
               go_simp
               first | done | rfl
             simp only [Act.put, List.setIfInBounds_toArray, List.set])
        intro w8 hR8 hF8
        clear hF8
        repeat (first | replace hR8 := Later.of_drew hR8 | replace hR8 := Later.of_drewN hR8 | replace hR8 := Later.of_alloc hR8)
        have HO8r := hid (hR8.obj HO7.out)
        have HRows8 := hid (HRows7.out.rows_later hR8)
        have HRd8 : Hid (RdrAt S0 w8 R { s with at_ := s.at_ + 1 }) := hid ⟨_, HO8r.out, HRows8.out.rows_mono fun b hb => hb.1⟩
        have HK8 := hid (HK7.out.more hR8)
        have HE8 := hid (HE7.out.kept (hR8.keeps All) fun _ _ => trivial)
        have hw8 : w7.heap.size ≤ w8.heap.size := hR8.size
        clear hR8 HO7 HRows7 HK7 HE7 x0 r1
        have hsx : s.rows[s.at_]? = some x := by rw [HX.out]; exact List.getElem?_eq_getElem h1
        by_cases hto : x.time - s.bound ≤ s.time
        · have HT : Hid (s.take = ({ s with at_ := s.at_ + 1 }, [rowElem x])) := hid (by simp [Src.take, h0, hsx, hlate, Src.advance, hto])
          clear hsx
          go_wp2_with fail
          refine (advance_no R { s with at_ := s.at_ + 1 } (x.time - s.bound) _ HRd8.out hto).mono ?_
          rintro e w9 ⟨rfl, rfl⟩
          obtain ⟨vs8, hl8', ho8, -⟩ := HE8.out
          have HO8 := hid ho8
          clear ho8 hl8'
          go_wp2_with (at_builtin; refine wpList_append_nil _ rfl _ _ 46 rfl w.heap.size 61 i0 5 Tryd.underlying46 HI.out (.slice a7 1 c7) 1 _ rfl HO8.out rfl ?_)
          go_wp2
          go_ret
          rw [HT.out]
          exact ⟨_, rfl, HRd8.out, HE8.out, HK8.out⟩
        · have HT : Hid (s.take = ({ s with at_ := s.at_ + 1, time := x.time - s.bound }, [rowElem x, timeElem (x.time - s.bound)])) := hid (by simp [Src.take, h0, hsx, hlate, Src.advance, hto])
          clear hsx
          go_wp2_with fail
          refine (advance_yes R _ { s with at_ := s.at_ + 1 } (x.time - s.bound) _ HO8r.out (by simpa using hto)).mono ?_
          rintro e w9 ⟨rfl, hr9, ho9, hk9⟩
          have hRlt8 : R < w8.heap.size := by omega
          obtain ⟨vs8, hl8', ho8, hvs8⟩ := HE8.out.kept hk9 fun b hb => by omega
          have HO8 := hid ho8; have HO9 := hid ho9; have HR9 := hid hr9; have HK9 := hid hk9; have HVS := hid hvs8; have HL8 := hid hl8'
          have hw9 : w8.heap.size ≤ w9.heap.size := hk9.size
          clear ho8 ho9 hr9 hk9 hvs8
          go_wp2_with (at_builtin; refine wpList_append _ rfl _ _ 46 rfl w.heap.size 61 i0 _ 5 56 Tryd.underlying46 HI.out HZ0.out HZ1.out HZ2.out rfl (by decide) (.slice a7 1 c7) 1 _ rfl HO8.out ⟨w8.heap.size, 0, none⟩ 1 1 (elemCells [timeElem (x.time - s.bound)] [.slice none 0 0]) rfl rfl ?d1 ?d2 ?d3 ?d4 ?d5 ?_)
          case d1 =>
            intro j u hu
            rw [add_none rfl, Nat.zero_add]
            exact cell_obj HO9.out (by simpa [elemCells] using hu)
          case d2 => exact elemCells_one fun v hv => by simp only [List.mem_cons, List.not_mem_nil, or_false] at hv; subst hv; rfl
          case d3 => unfold maxLen; omega
          case d4 => omega
          case d5 => omega
          intro v10 w10 hA10
          go_wp2
          go_ret
          rw [HT.out]
          have hgr : ∀ k, (Value.slice a7 1 c7).ownBlock = some k → w.heap.size ≤ k := fun k hk => (HO8.out.lt k hk).1
          have hRw : ∀ k, (Value.slice a7 1 c7).ownBlock = some k → k ≠ R := fun k hk => by have := hgr k hk; omega
          refine ⟨_, rfl, ?_, ?_, ?_⟩
          · refine ⟨_, by rw [hA10.grown.block R (by omega) (fun e => hRw R e.symm rfl)]; exact HR9.out, ?_⟩
            have q9 := HRows8.out.rows_kept HK9.out fun b hb => by omega
            exact (q9.rows_kept (Keeps.of_grown hA10.grown) fun b hb e => by have := hgr b e.symm; omega).rows_mono fun b hb => hb.1
          · exact ElemsOwn.append (es := [rowElem x]) (fs := [timeElem (x.time - s.bound)]) (us := [.slice none 0 0]) HL8.out rfl HVS.out (fun i hi => by
              obtain rfl : i = 0 := by simp at hi; omega
              exact valsO_nil _ _) hA10
          · exact (HK8.out.trans HK9.out).grown hA10.grown hgr
    · have h1' : decide (s.rows.length < s.at_ + 1) = true := by simp; omega
      have HT : Hid (s.take = Src.advance { s with at_ := s.at_ + 1 } 1099511627777) := hid (by simp [Src.take, h0, List.getElem?_eq_none (by omega : s.rows.length ≤ s.at_)])
      go_wp2_with fail
      refine (advance_any R { s with at_ := s.at_ + 1 } 1099511627777 _ HRd3.out).mono ?_
      rintro e w3 ⟨v, rfl, hr, he, hk⟩
      go_wp2
      go_ret
      rw [HT.out]
      exact ⟨_, rfl, hr, he.base (by omega), HK3.out.trans hk⟩
end Go.Proofs.YthfgjmdmcoogpaaDoor
