/-
  PROVED HERE: the contracts of Gate.least, of slices.ContainsFunc at lanes; of Gate.Take at a mark.
-/
import Derived.Test.YthfgjmdmcoogpaaDoorGate
import Derived.Test.YthfgjmdmcoogpaaDoorLexS
import Derived.Test.YthfgjmdmcoogpaaDoorErr
namespace Go.Proofs.YthfgjmdmcoogpaaDoor
open Go.RowKit

def LeastIs (w : World) (ls : List (Int × Bool)) (e : Ending) (w' : World) : Prop := e = .returned (.int .i64 (leastT ls)) ∧ Later w w'
set_option maxRecDepth 100000 in
theorem gate_least (G L : Nat) (g : Gt) (w : World) (h : GateAt w G L g) (h1 : 1 ≤ g.lanes.length) (h2 : g.lanes.length ≤ 64) (ht : TimesOk g.lanes) :
    Calls Tryd.prog 70 #[.pointer (some ⟨G, 0, none⟩)] w (LeastIs w g.lanes) := by
  have r0 := cell_obj (i := 0) h.obj rfl
  have H := hid h.lanes
  have HT := hid ht
  clear h ht
  have hfd : ∀ (x : Int) (b : Bool) (w : World), (Instr.field 130 (.agg #[.int .i64 x, .bool b]) 0).run Tryd.prog w = .ok (.int .i64 x) w := fun _ _ _ => by kernel_rfl
  go_enter Tryd.func70, Tryd.ntmps70
  go_wp2_with (go_at_call 105; refine (min_func L g.lanes _ H.out h1 h2 HT.out).mono ?_; rintro e w1 ⟨m, rfl, hm, hL⟩; replace hm := hid hm)
  go_ret
  exact ⟨by rw [← hm.out]; rfl, hL⟩

def UnTo (w : World) (l : Int × Bool) (e : Ending) (w' : World) : Prop := e = .returned (.bool (!l.2)) ∧ Later w w'
theorem take_1 (l : Int × Bool) (w : World) : Calls Tryd.prog 72 #[.agg #[.int .i64 l.1, .bool l.2]] w (UnTo w l) := by
  go_enter Tryd.func72, Tryd.ntmps72
  go_wp2
  go_ret
  exact ⟨rfl, Later.alloc _ _⟩

def IdxTo (w : World) (ls : List (Int × Bool)) (e : Ending) (w' : World) : Prop := ∃ i : Int, e = .returned (.int .i64 i) ∧ decide (0 ≤ i) = ls.any (fun l => !l.2) ∧ Later w w'
set_option maxRecDepth 100000 in
set_option maxHeartbeats 2000000 in
theorem index_func (L : Nat) (ls : List (Int × Bool)) (w : World) (h : w.heap[L]? = some (.cells (laneCells ls).toArray 130 (0, 0))) (h2 : ls.length ≤ 64) :
    Calls Tryd.prog 107 #[.slice (some ⟨L, 0, none⟩) ls.length ls.length, .func (.func 72) #[] #[]] w (IdxTo w ls) := by
  have H := hid h
  clear h
  go_enter Tryd.func107, Tryd.ntmps107
  go_wp2
  go_loopw [8] (fun i wr => ∃ n : Nat, n ≤ ls.length ∧ i = .int .i64 n ∧ Later w wr ∧ Hid (∀ j (h : j < ls.length), j < n → ls[j].2 = true)) (fun i _ => ls.length - (intOf i).toNat)
  case atStart => exact ⟨0, by omega, rfl, Later.refl _, hid fun j h h' => by omega⟩
  case round =>
    obtain ⟨n, hn, rfl, hL, hq⟩ := hrel
    by_cases hlt : n < ls.length
    · obtain ⟨q0, q1⟩ := lane_cells (hL.obj H.out) n hlt
      have hX : ∃ x, x = ls[n] := ⟨_, rfl⟩
      obtain ⟨x, hX⟩ := hX
      have HX := hid hX
      rw [← hX] at q0 q1
      clear hX
      cases hc : x.2 with
      | false =>
        have HC := hid hc
        rw [hc] at q1
        clear hc
        go_wp2_with (go_at_call 72; refine (take_1 (x.1, false) _).mono ?_; rintro e w1 ⟨rfl, hL1⟩)
        go_ret
        refine ⟨n, rfl, ?_, Later.trans _ _ _ hL hL1⟩
        have : ls.any (fun l => !l.2) = true := List.any_eq_true.2 ⟨ls[n], List.getElem_mem hlt, by rw [← HX.out, HC.out]; rfl⟩
        rw [this]; simp
      | true =>
        have HC := hid hc
        rw [hc] at q1
        clear hc
        go_wp2_with (go_at_call 72; refine (take_1 (x.1, true) _).mono ?_; rintro e w1 ⟨rfl, hL1⟩)
        go_roundw
        case rel =>
          refine ⟨n + 1, by omega, by go_num, Later.trans _ _ _ hL hL1, hid fun j h h' => ?_⟩
          by_cases hj : j = n
          · subst hj; rw [← HX.out]; exact HC.out
          · exact hq.out j h (by omega)
        case measure => simp [intOf]; omega
    · obtain rfl : n = ls.length := by omega
      go_wp2
      go_ret
      refine ⟨-1, rfl, ?_, hL⟩
      have : ls.any (fun l => !l.2) = false := by
        rw [Bool.eq_false_iff]
        intro h
        obtain ⟨l, hl, h⟩ := List.any_eq_true.1 h
        obtain ⟨j, hj, rfl⟩ := List.getElem_of_mem hl
        rw [hq.out j hj hj] at h
        cases h
      rw [this]; simp

def AnyTo (w : World) (ls : List (Int × Bool)) (e : Ending) (w' : World) : Prop := e = .returned (.bool (ls.any (fun l => !l.2))) ∧ Later w w'
theorem contains_func (L : Nat) (ls : List (Int × Bool)) (w : World) (h : w.heap[L]? = some (.cells (laneCells ls).toArray 130 (0, 0))) (h2 : ls.length ≤ 64) :
    Calls Tryd.prog 71 #[.slice (some ⟨L, 0, none⟩) ls.length ls.length, .func (.func 72) #[] #[]] w (AnyTo w ls) := by
  have H := hid h
  clear h
  go_enter Tryd.func71, Tryd.ntmps71
  go_wp2_with (go_at_call 107; refine (index_func L ls _ H.out h2).mono ?_; rintro e w1 ⟨i, rfl, hi, hL⟩)
  go_ret
  unfold AnyTo
  rw [← hi]
  exact ⟨rfl, hL⟩

theorem lane_set0 : ∀ (ls : List (Int × Bool)) (n : Nat) (h : n < ls.length) (t : Int), (laneCells ls).set (n * 2) (.int .i64 t) = laneCells (ls.set n (t, ls[n].2))
  | [], n, h, _ => by cases h
  | l :: ls, 0, _, t => by simp [laneCells]
  | l :: ls, n + 1, h, t => by
    have ih := lane_set0 ls n (by simpa using h) t
    rw [show (n + 1) * 2 = n * 2 + 1 + 1 by omega]
    simp only [laneCells, List.set_cons_succ, List.getElem_cons_succ, ih]
theorem lane_set1 : ∀ (ls : List (Int × Bool)) (n : Nat) (h : n < ls.length) (b : Bool), (laneCells ls).set (n * 2 + 1) (.bool b) = laneCells (ls.set n (ls[n].1, b))
  | [], n, h, _ => by cases h
  | l :: ls, 0, _, t => by simp [laneCells]
  | l :: ls, n + 1, h, t => by
    have ih := lane_set1 ls n (by simpa using h) t
    rw [show (n + 1) * 2 + 1 = n * 2 + 1 + 1 + 1 by omega]
    simp only [laneCells, List.set_cons_succ, List.getElem_cons_succ, ih]
theorem GateAt.set0 {w : World} {G L : Nat} {g : Gt} (h : GateAt w G L g) (hGL : G ≠ L) {n : Nat} (hlt : n < g.lanes.length) {x : Int × Bool} (hx : g.lanes[n] = x) (t : Int) :
    GateAt (w.setCell ⟨L, n * 2, none⟩ (.int .i64 t)) G L { g with lanes := g.lanes.set n (t, x.2) } := by
  subst hx
  refine ⟨?_, ?_⟩
  · rw [Below.heap_setCell w ⟨L, n * 2, none⟩ _ _ (fun e => hGL e)]
    simp only [List.length_set]
    exact h.obj
  · have := obj_setCell (i := n * 2) h.lanes (.int .i64 t)
    rw [List.setIfInBounds_toArray, lane_set0 _ _ hlt] at this
    exact this
theorem GateAt.set1 {w : World} {G L : Nat} {g : Gt} (h : GateAt w G L g) (hGL : G ≠ L) {n : Nat} (hlt : n < g.lanes.length) {x : Int × Bool} (hx : g.lanes[n] = x) (b : Bool) :
    GateAt (w.setCell ⟨L, n * 2 + 1, none⟩ (.bool b)) G L { g with lanes := g.lanes.set n (x.1, b) } := by
  subst hx
  refine ⟨?_, ?_⟩
  · rw [Below.heap_setCell w ⟨L, n * 2 + 1, none⟩ _ _ (fun e => hGL e)]
    simp only [List.length_set]
    exact h.obj
  · have := obj_setCell (i := n * 2 + 1) h.lanes (.bool b)
    rw [List.setIfInBounds_toArray, lane_set1 _ _ hlt] at this
    exact this
theorem GateAt.setTime {w : World} {G L : Nat} {g : Gt} (h : GateAt w G L g) (hGL : G ≠ L) (t : Int) : GateAt (w.setCell ⟨G, 1, none⟩ (.int .i64 t)) G L { g with time := t } :=
  ⟨obj_setCell (i := 1) h.obj _, by rw [Below.heap_setCell w ⟨G, 1, none⟩ _ _ (fun e => hGL e.symm)]; exact h.lanes⟩
theorem GateAt.setMark {w : World} {G L : Nat} {g : Gt} (h : GateAt w G L g) (hGL : G ≠ L) (t : Int) : GateAt (w.setCell ⟨G, 2, none⟩ (.int .i64 t)) G L { g with mark := t } :=
  ⟨obj_setCell (i := 2) h.obj _, by rw [Below.heap_setCell w ⟨G, 2, none⟩ _ _ (fun e => hGL e.symm)]; exact h.lanes⟩

/-- the marks of the first lanes are taken away. -/
def unm (ls : List (Int × Bool)) (n : Nat) : List (Int × Bool) := (ls.take n).map (fun l => (l.1, false)) ++ ls.drop n
theorem unm_length (ls : List (Int × Bool)) (n : Nat) (h : n ≤ ls.length) : (unm ls n).length = ls.length := by simp [unm]; omega
theorem unm_zero (ls : List (Int × Bool)) : unm ls 0 = ls := by simp [unm]
theorem unm_all (ls : List (Int × Bool)) : unm ls ls.length = ls.map (fun l => (l.1, false)) := by simp [unm]
theorem unm_at (ls : List (Int × Bool)) (n : Nat) (h : n < ls.length) (h' : n < (unm ls n).length) : (unm ls n)[n] = ls[n] := by
  simp only [unm]
  rw [List.getElem_append_right (by simp; omega)]
  simp only [List.length_map, List.length_take, List.getElem_drop]
  congr 1; omega
theorem unm_set (ls : List (Int × Bool)) (n : Nat) (h : n < ls.length) : (unm ls n).set n (ls[n].1, false) = unm ls (n + 1) := by
  have hl : ((ls.take n).map (fun l : Int × Bool => (l.1, false))).length = n := by simp; omega
  simp only [unm]
  rw [List.set_append_right _ _ (by omega), hl, Nat.sub_self, List.drop_eq_getElem_cons h, List.set_cons_zero, List.take_succ_eq_append_getElem h, List.map_append, List.append_assoc]
  rfl

/-- what an element that is let in comes to. -/
def takeG (g : Gt) (k : Int) (e : Elem) : Gt × Int × List Elem :=
  if openG g k = true then
    if e.kind = 1 then (g, 0, [⟨1, e.row, 0, 0⟩])
    else if e.kind = 2 then
      match g.lanes[k.toNat]? with
      | none => (g, 6, [])
      | some l =>
        if e.time ≤ l.1 ∨ 1099511627777 < e.time then (g, 4, [])
        else if g.time < leastT (g.lanes.set k.toNat (e.time, l.2)) then ({ g with lanes := g.lanes.set k.toNat (e.time, l.2), time := leastT (g.lanes.set k.toNat (e.time, l.2)) }, 0, [⟨2, ⟨0, []⟩, leastT (g.lanes.set k.toNat (e.time, l.2)), 0⟩])
        else ({ g with lanes := g.lanes.set k.toNat (e.time, l.2) }, 0, [])
    else if e.kind = 3 then
      match g.lanes[k.toNat]? with
      | none => (g, 6, [])
      | some l =>
        if e.mark < 1 ∨ (g.mark ≠ 0 ∧ e.mark ≠ g.mark) then (g, 6, [])
        else if (g.lanes.set k.toNat (l.1, true)).any (fun l => !l.2) then ({ g with lanes := g.lanes.set k.toNat (l.1, true), mark := e.mark }, 0, [])
        else ({ lanes := (g.lanes.set k.toNat (l.1, true)).map (fun l => (l.1, false)), time := g.time, mark := 0 }, 0, [⟨3, ⟨0, []⟩, 0, e.mark⟩])
    else (g, 4, [])
  else (g, 6, [])
def TakeTo (w : World) (G L : Nat) (r : Gt × Int × List Elem) (e : Ending) (w' : World) : Prop :=
  ∃ sv, e = .returned (.tuple #[sv, errVal r.2.1]) ∧ GateAt w' G L r.1 ∧ ElemsOwn w.heap.size w' sv r.2.2 ∧ Keeps (fun b => b ≠ G ∧ b ≠ L) w w'

structure GtOk (g : Gt) : Prop where
  one : 1 ≤ g.lanes.length
  most : g.lanes.length ≤ 64
  times : TimesOk g.lanes
set_option maxRecDepth 100000 in
set_option maxHeartbeats 4000000 in
theorem gate_take_mark (G L : Nat) (g : Gt) (k : Int) (e : Elem) (v : Value) (w : World) (k3 : e.kind = 3) (ho : openG g k = true) (h : GateAt w G L g) (hGL : G ≠ L) (hg : GtOk g) (hk : (Lit.int .i64 k).wf = true) (hv : IsVals w v e.row.vals) (hl : e.row.vals.length * 32 ≤ 140737488355328) :
    Calls Tryd.prog 31 #[.pointer (some ⟨G, 0, none⟩), .int .i64 k, .agg #[.int .i64 e.kind, .int .i64 e.row.time, v, .int .i64 e.time, .int .i64 e.mark]] w (TakeTo w G L (takeG g k e)) := by
  obtain ⟨hg1, hg2, hg3⟩ := hg
  have HT := hid hg3
  have HG := hid h
  have HV := hid hv
  have HL := hid hl
  clear h hg3 hv hl
  have hlo : ∀ w', Later w w' → GateAt w' G L g := fun w' k => HG.out.later k
  have hk2 : ∃ n : Nat, k = n ∧ n < g.lanes.length := by
    simp only [openG, Bool.and_eq_true, decide_eq_true_eq] at ho
    obtain ⟨h0, h1⟩ := ho
    refine ⟨k.toNat, by omega, ?_⟩
    cases hx : g.lanes[k.toNat]? with
    | none => rw [hx] at h1; cases h1
    | some x => exact (List.getElem?_eq_some_iff.1 hx).1
  obtain ⟨n, rfl, hlt⟩ := hk2
  have HO := hid ho
  have hX : ∃ x, g.lanes[n]? = some x ∧ g.lanes[n] = x := ⟨_, List.getElem?_eq_getElem hlt, rfl⟩
  obtain ⟨x, hX1, hX2⟩ := hX
  have hx := HT.out x (hX2 ▸ List.getElem_mem hlt)
  have HX1 := hid hX1; have HX2 := hid hX2
  clear ho hX1 hX2
  have hnn : (0 : Int) ≤ n := by omega
  obtain ⟨va, vc, rfl, -⟩ := HV.out
  have hGs : G < w.heap.size := (Array.getElem?_eq_some_iff.1 HG.out.obj).1
  have hLs : L < w.heap.size := (Array.getElem?_eq_some_iff.1 HG.out.lanes).1
  by_cases m1 : e.mark < 1
  · have HR : Hid (takeG g n e = (g, 6, [])) := hid (by simp [takeG, HO.out, k3, HX1.out, m1])
    go_enter Tryd.func31, Tryd.ntmps31
    go_wp2_with fail
    refine (gate_open G L g n _ (HG.out.later (Later.alloc _ _)) hk hg2).mono ?_
    rintro e' w1 ⟨rfl, hL1⟩
    rw [HO.out]
    have hLw := Later.of_alloc hL1
    have hG1 := HG.out.later hLw
    have hV1 := HV.out.later hLw
    have hE := hL1.obj (obj_new w _)
    have e0 := cell_obj (i := 0) hE rfl
    have e1 := cell_obj (i := 1) hE rfl
    have e2 := cell_obj (i := 2) hE rfl
    have e3 := cell_obj (i := 3) hE rfl
    have e4 := cell_obj (i := 4) hE rfl
    have r0 := cell_obj (i := 0) hG1.obj rfl
    have r1 := cell_obj (i := 1) hG1.obj rfl
    have r2 := cell_obj (i := 2) hG1.obj rfl
    obtain ⟨q0, q1⟩ := lane_cells hG1.lanes n hlt
    rw [HX2.out] at q0 q1
    have hs1 := hLw.size
    have HE1 := hid hE; have HG1 := hid hG1; have HV1 := hid hV1; have HLw := hid hLw
    clear hE hG1 hV1 hLw hL1 HG HV hlo
    go_wp2_with fail
    refine wp_region_lex (by kernel_rfl) (by kernel_rfl) Later Later.refl Later.trans (fun _ => none) (fun _ _ _ _ _ h => by cases h) ?_
    simp only [numbered, Nat.reduceAdd]
    refine LexS.out ?_
    iterate 19
      first
      | (refine LexS.skip rfl ?_; simp only [Act.put, List.setIfInBounds_toArray, List.set])
      | (refine LexS.one' rfl rfl ?_
         apply Exists.intro
         refine ⟨fun w hR hF => ?_, ?_⟩
         · have hP := hR
           repeat (first | replace hP := Later.of_drew hP | replace hP := Later.of_drewN hP | replace hP := Later.of_alloc hP)
           have hcs := hR.cells
           have zr2 := hP.cell r2
           have ze4 := hP.cell e4
           clear hR hF hP
           go_simp
           first | done | rfl
         simp only [Act.put, List.setIfInBounds_toArray, List.set])
    refine LexS.nil ?_
    intro w2 hR2 hF9
    clear hF9
    repeat (first | replace hR2 := Later.of_drew hR2 | replace hR2 := Later.of_drewN hR2 | replace hR2 := Later.of_alloc hR2)
    clear e0 e1 e2 e3 e4 r0 r1 r2 q0 q1
    go_wp2
    go_ret2
    rw [HR.out]
    exact ⟨_, rfl, HG1.out.later hR2, ElemsOwn.nil _ _, (Later.trans _ _ _ HLw.out hR2).keeps _⟩
  · have m1' : decide (e.mark < 1) = false := decide_eq_false m1
    by_cases m2 : g.mark = 0
    · have m2' : (g.mark != 0) = false := by simp [m2]
      have HR : Hid (takeG g n e = if (g.lanes.set n (x.1, true)).any (fun l => !l.2) then ({ g with lanes := g.lanes.set n (x.1, true), mark := e.mark }, 0, [])
          else ({ lanes := (g.lanes.set n (x.1, true)).map (fun l => (l.1, false)), time := g.time, mark := 0 }, 0, [⟨3, ⟨0, []⟩, 0, e.mark⟩])) := hid (by simp [takeG, HO.out, k3, HX1.out, m1, m2])
      go_enter Tryd.func31, Tryd.ntmps31
      go_wp2_with fail
      refine (gate_open G L g n _ (HG.out.later (Later.alloc _ _)) hk hg2).mono ?_
      rintro e' w1 ⟨rfl, hL1⟩
      rw [HO.out]
      have hLw := Later.of_alloc hL1
      have hG1 := HG.out.later hLw
      have hV1 := HV.out.later hLw
      have hE := hL1.obj (obj_new w _)
      have e0 := cell_obj (i := 0) hE rfl
      have e1 := cell_obj (i := 1) hE rfl
      have e2 := cell_obj (i := 2) hE rfl
      have e3 := cell_obj (i := 3) hE rfl
      have e4 := cell_obj (i := 4) hE rfl
      have r0 := cell_obj (i := 0) hG1.obj rfl
      have r1 := cell_obj (i := 1) hG1.obj rfl
      have r2 := cell_obj (i := 2) hG1.obj rfl
      obtain ⟨q0, q1⟩ := lane_cells hG1.lanes n hlt
      rw [HX2.out] at q0 q1
      have hs1 := hLw.size
      have HE1 := hid hE; have HG1 := hid hG1; have HV1 := hid hV1; have HLw := hid hLw
      clear hE hG1 hV1 hLw hL1 HG HV hlo
      go_wp2_with fail
      refine wp_region_lex (by kernel_rfl) (by kernel_rfl) Later Later.refl Later.trans (fun _ => none) (fun _ _ _ _ _ h => by cases h) ?_
      simp only [numbered, Nat.reduceAdd]
      refine LexS.out ?_
      iterate 19
        first
        | (refine LexS.skip rfl ?_; simp only [Act.put, List.setIfInBounds_toArray, List.set])
        | (refine LexS.one' rfl rfl ?_
           apply Exists.intro
           refine ⟨fun w hR hF => ?_, ?_⟩
           · have hP := hR
             repeat (first | replace hP := Later.of_drew hP | replace hP := Later.of_drewN hP | replace hP := Later.of_alloc hP)
             have hcs := hR.cells
             have zr2 := hP.cell r2
             have ze4 := hP.cell e4
             clear hR hF hP
             go_simp
             first | done | rfl
           simp only [Act.put, List.setIfInBounds_toArray, List.set])
      refine LexS.nil ?_
      intro w2 hR2 hF9
      clear hF9
      repeat (first | replace hR2 := Later.of_drew hR2 | replace hR2 := Later.of_drewN hR2 | replace hR2 := Later.of_alloc hR2)
      replace e4 := hR2.cell e4
      replace q1 := hR2.cell q1
      have hG2 := HG1.out.later hR2
      have z0 := free_obj (i := n * 2 + 1) hG2.lanes
      have z2 := free_obj (i := 2) hG2.obj
      replace r2 := cell_obj (i := 2) hG2.obj rfl
      replace r0 := cell_obj (i := 0) hG2.obj rfl
      have hLG := hGL.symm
      have HR2 := hid hR2
      have HG2 := hid hG2
      clear e0 e1 e2 e3 r1 q0 hR2 hG2
      go_wp2_with fail
      have hG3 := (HG2.out.setMark hGL e.mark).set1 hGL (x := x) hlt HX2.out true
      have hK23 : Keeps (fun b => b ≠ G ∧ b ≠ L) w2 ((w2.setCell ⟨G, 2, none⟩ (.int .i64 e.mark)).setCell ⟨L, n * 2 + 1, none⟩ (.bool true)) := ((Keeps.refl _ _).setCell (.inl (fun h => h.1 rfl)) _).setCell (.inl (fun h => h.2 rfl)) _
      have hK3 := ((Later.trans _ _ _ HLw.out HR2.out).keeps (fun b => b ≠ G ∧ b ≠ L)).trans hK23
      have hE3 := hK23.obj (b := w.heap.size) ⟨by omega, by omega⟩ (HR2.out.obj HE1.out)
      generalize (w2.setCell ⟨G, 2, none⟩ (.int .i64 e.mark)).setCell ⟨L, n * 2 + 1, none⟩ (.bool true) = w3 at *
      have hc := contains_func L (g.lanes.set n (x.1, true)) w3 hG3.lanes (by simpa using hg2)
      simp only [List.length_set] at hc
      refine hc.mono ?_
      rintro e' w4 ⟨rfl, hL4⟩
      have hX : ∃ ls, ls = g.lanes.set n (x.1, true) := ⟨_, rfl⟩
      obtain ⟨ls, hX⟩ := hX
      have hll : ls.length = g.lanes.length := by rw [hX, List.length_set]
      have HR' := HR.out
      have hG4 := hG3.later hL4
      simp only [← hX] at HR' hG4 ⊢
      have HG4 := hid hG4
      have HK4 := hid (hK3.more hL4)
      have HE4 := hid (hL4.obj hE3)
      have HRR := hid HR'
      clear hG3 hK23 hK3 hE3 hc hG4 HR' hX HR HG2 HG1 HR2 hL4 z0 z2 r2 r0 q1 e4 HE1 HX1 HX2 hx
      cases hany : ls.any (fun l => !l.2) with
      | true =>
        have HA := hid hany
        go_wp2
        go_ret2
        rw [HRR.out, if_pos HA.out]
        exact ⟨_, rfl, HG4.out, ElemsOwn.nil _ _, HK4.out⟩
      | false =>
        have HA := hid hany
        have r0 := cell_obj (i := 0) HG4.out.obj rfl
        have e4 := cell_obj (i := 4) HE4.out rfl
        have HE4' := hid e4
        clear e4
        go_wp2
        go_loopw [106] (fun i wr => ∃ m : Nat, m ≤ ls.length ∧ i = .int .i64 m ∧ GateAt wr G L { lanes := unm ls m, time := g.time, mark := e.mark } ∧ Keeps (fun b => b ≠ G ∧ b ≠ L) w wr ∧ wr.cell? ⟨w.heap.size, 4, none⟩ = some (.int .i64 e.mark)) (fun i _ => ls.length - (intOf i).toNat)
        case atStart => exact ⟨0, by omega, rfl, by rw [unm_zero]; exact HG4.out, HK4.out, HE4'.out⟩
        case round =>
          obtain ⟨m, hm, rfl, hG, hK, hE⟩ := hrel
          clear r0
          have hu := unm_length ls m hm
          have r0 : wr.cell? ⟨G, 0, none⟩ = some (.slice (some ⟨L, 0, none⟩) ls.length ls.length) := (cell_obj (i := 0) hG.obj rfl).trans (by simp [hu])
          have r2 := cell_obj (i := 2) hG.obj rfl
          have z2 := free_obj (i := 2) hG.obj
          have HG5 := hid hG; have HK5 := hid hK; have HE5 := hid hE
          clear hG hK hE
          by_cases hlt2 : m < ls.length
          · have q1 : wr.cell? ⟨L, m * 2 + 1, none⟩ = some (.bool ls[m].2) := by
              have := (lane_cells HG5.out.lanes m (by simp only [hu]; exact hlt2)).2
              rwa [unm_at ls m hlt2] at this
            have z1 := free_obj (i := m * 2 + 1) HG5.out.lanes
            have hG6 := HG5.out.set1 hGL (n := m) (x := ls[m]) (by simp only [hu]; exact hlt2) (unm_at ls m hlt2 _) false
            simp only [unm_set ls m hlt2] at hG6
            have HG6 := hid hG6
            clear hG6
            go_wp2
            go_roundw
            case rel => exact ⟨m + 1, by omega, by go_num, HG6.out, HK5.out.setCell (.inl (fun h => h.2 rfl)) _, ((Keeps.refl (fun b => b ≠ L) _).setCell (.inl (fun h => h rfl)) _).cell (p := ⟨w.heap.size, 4, none⟩) (by simp only; omega) HE5.out⟩
            case measure => simp [intOf]; omega
          · obtain rfl : m = ls.length := by omega
            have e4 := HE5.out
            go_wp2
            go_ret2
            rw [HRR.out, if_neg (by rw [HA.out]; simp)]
            have hG7 := HG5.out.setMark hGL 0
            rw [unm_all] at hG7
            refine ⟨_, rfl, hG7.later (Later.alloc _ _), ?_, (HK5.out.setCell (.inl (fun h => h.1 rfl)) _).alloc _⟩
            have := elemsOwn_one (B := w.heap.size) (w := wr.setCell ⟨G, 2, none⟩ (.int .i64 0)) (e := ⟨3, ⟨0, []⟩, 0, e.mark⟩) (v := .slice none 0 0) (by simpa using HK5.out.size) (vals_nil _ _)
            rwa [World.size_setCell] at this
    · have m2' : (g.mark != 0) = true := by simp [m2]
      by_cases m3 : e.mark = g.mark
      · have m1g : ¬ g.mark < 1 := m3 ▸ m1
        have m3' : (e.mark != g.mark) = false := by simp [m3]
        have HR : Hid (takeG g n e = if (g.lanes.set n (x.1, true)).any (fun l => !l.2) then ({ g with lanes := g.lanes.set n (x.1, true), mark := e.mark }, 0, [])
            else ({ lanes := (g.lanes.set n (x.1, true)).map (fun l => (l.1, false)), time := g.time, mark := 0 }, 0, [⟨3, ⟨0, []⟩, 0, e.mark⟩])) := hid (by simp [takeG, HO.out, k3, HX1.out, m1, m2, m3, m1g])
        clear m3 m1g
        go_enter Tryd.func31, Tryd.ntmps31
        go_wp2_with fail
        refine (gate_open G L g n _ (HG.out.later (Later.alloc _ _)) hk hg2).mono ?_
        rintro e' w1 ⟨rfl, hL1⟩
        rw [HO.out]
        have hLw := Later.of_alloc hL1
        have hG1 := HG.out.later hLw
        have hV1 := HV.out.later hLw
        have hE := hL1.obj (obj_new w _)
        have e0 := cell_obj (i := 0) hE rfl
        have e1 := cell_obj (i := 1) hE rfl
        have e2 := cell_obj (i := 2) hE rfl
        have e3 := cell_obj (i := 3) hE rfl
        have e4 := cell_obj (i := 4) hE rfl
        have r0 := cell_obj (i := 0) hG1.obj rfl
        have r1 := cell_obj (i := 1) hG1.obj rfl
        have r2 := cell_obj (i := 2) hG1.obj rfl
        obtain ⟨q0, q1⟩ := lane_cells hG1.lanes n hlt
        rw [HX2.out] at q0 q1
        have hs1 := hLw.size
        have HE1 := hid hE; have HG1 := hid hG1; have HV1 := hid hV1; have HLw := hid hLw
        clear hE hG1 hV1 hLw hL1 HG HV hlo
        go_wp2_with fail
        refine wp_region_lex (by kernel_rfl) (by kernel_rfl) Later Later.refl Later.trans (fun _ => none) (fun _ _ _ _ _ h => by cases h) ?_
        simp only [numbered, Nat.reduceAdd]
        refine LexS.out ?_
        iterate 19
          first
          | (refine LexS.skip rfl ?_; simp only [Act.put, List.setIfInBounds_toArray, List.set])
          | (refine LexS.one' rfl rfl ?_
             apply Exists.intro
             refine ⟨fun w hR hF => ?_, ?_⟩
             · have hP := hR
               repeat (first | replace hP := Later.of_drew hP | replace hP := Later.of_drewN hP | replace hP := Later.of_alloc hP)
               have hcs := hR.cells
               have zr2 := hP.cell r2
               have ze4 := hP.cell e4
               clear hR hF hP
               go_simp
               first | done | rfl
             simp only [Act.put, List.setIfInBounds_toArray, List.set])
        refine LexS.nil ?_
        intro w2 hR2 hF9
        clear hF9
        repeat (first | replace hR2 := Later.of_drew hR2 | replace hR2 := Later.of_drewN hR2 | replace hR2 := Later.of_alloc hR2)
        replace e4 := hR2.cell e4
        replace q1 := hR2.cell q1
        have hG2 := HG1.out.later hR2
        have z0 := free_obj (i := n * 2 + 1) hG2.lanes
        have z2 := free_obj (i := 2) hG2.obj
        replace r2 := cell_obj (i := 2) hG2.obj rfl
        replace r0 := cell_obj (i := 0) hG2.obj rfl
        have hLG := hGL.symm
        have HR2 := hid hR2
        have HG2 := hid hG2
        clear e0 e1 e2 e3 r1 q0 hR2 hG2
        go_wp2_with fail
        have hG3 := (HG2.out.setMark hGL e.mark).set1 hGL (x := x) hlt HX2.out true
        have hK23 : Keeps (fun b => b ≠ G ∧ b ≠ L) w2 ((w2.setCell ⟨G, 2, none⟩ (.int .i64 e.mark)).setCell ⟨L, n * 2 + 1, none⟩ (.bool true)) := ((Keeps.refl _ _).setCell (.inl (fun h => h.1 rfl)) _).setCell (.inl (fun h => h.2 rfl)) _
        have hK3 := ((Later.trans _ _ _ HLw.out HR2.out).keeps (fun b => b ≠ G ∧ b ≠ L)).trans hK23
        have hE3 := hK23.obj (b := w.heap.size) ⟨by omega, by omega⟩ (HR2.out.obj HE1.out)
        generalize (w2.setCell ⟨G, 2, none⟩ (.int .i64 e.mark)).setCell ⟨L, n * 2 + 1, none⟩ (.bool true) = w3 at *
        have hc := contains_func L (g.lanes.set n (x.1, true)) w3 hG3.lanes (by simpa using hg2)
        simp only [List.length_set] at hc
        refine hc.mono ?_
        rintro e' w4 ⟨rfl, hL4⟩
        have hX : ∃ ls, ls = g.lanes.set n (x.1, true) := ⟨_, rfl⟩
        obtain ⟨ls, hX⟩ := hX
        have hll : ls.length = g.lanes.length := by rw [hX, List.length_set]
        have HR' := HR.out
        have hG4 := hG3.later hL4
        simp only [← hX] at HR' hG4 ⊢
        have HG4 := hid hG4
        have HK4 := hid (hK3.more hL4)
        have HE4 := hid (hL4.obj hE3)
        have HRR := hid HR'
        clear hG3 hK23 hK3 hE3 hc hG4 HR' hX HR HG2 HG1 HR2 hL4 z0 z2 r2 r0 q1 e4 HE1 HX1 HX2 hx
        cases hany : ls.any (fun l => !l.2) with
        | true =>
          have HA := hid hany
          go_wp2
          go_ret2
          rw [HRR.out, if_pos HA.out]
          exact ⟨_, rfl, HG4.out, ElemsOwn.nil _ _, HK4.out⟩
        | false =>
          have HA := hid hany
          have r0 := cell_obj (i := 0) HG4.out.obj rfl
          have e4 := cell_obj (i := 4) HE4.out rfl
          have HE4' := hid e4
          clear e4
          go_wp2
          go_loopw [106] (fun i wr => ∃ m : Nat, m ≤ ls.length ∧ i = .int .i64 m ∧ GateAt wr G L { lanes := unm ls m, time := g.time, mark := e.mark } ∧ Keeps (fun b => b ≠ G ∧ b ≠ L) w wr ∧ wr.cell? ⟨w.heap.size, 4, none⟩ = some (.int .i64 e.mark)) (fun i _ => ls.length - (intOf i).toNat)
          case atStart => exact ⟨0, by omega, rfl, by rw [unm_zero]; exact HG4.out, HK4.out, HE4'.out⟩
          case round =>
            obtain ⟨m, hm, rfl, hG, hK, hE⟩ := hrel
            clear r0
            have hu := unm_length ls m hm
            have r0 : wr.cell? ⟨G, 0, none⟩ = some (.slice (some ⟨L, 0, none⟩) ls.length ls.length) := (cell_obj (i := 0) hG.obj rfl).trans (by simp [hu])
            have r2 := cell_obj (i := 2) hG.obj rfl
            have z2 := free_obj (i := 2) hG.obj
            have HG5 := hid hG; have HK5 := hid hK; have HE5 := hid hE
            clear hG hK hE
            by_cases hlt2 : m < ls.length
            · have q1 : wr.cell? ⟨L, m * 2 + 1, none⟩ = some (.bool ls[m].2) := by
                have := (lane_cells HG5.out.lanes m (by simp only [hu]; exact hlt2)).2
                rwa [unm_at ls m hlt2] at this
              have z1 := free_obj (i := m * 2 + 1) HG5.out.lanes
              have hG6 := HG5.out.set1 hGL (n := m) (x := ls[m]) (by simp only [hu]; exact hlt2) (unm_at ls m hlt2 _) false
              simp only [unm_set ls m hlt2] at hG6
              have HG6 := hid hG6
              clear hG6
              go_wp2
              go_roundw
              case rel => exact ⟨m + 1, by omega, by go_num, HG6.out, HK5.out.setCell (.inl (fun h => h.2 rfl)) _, ((Keeps.refl (fun b => b ≠ L) _).setCell (.inl (fun h => h rfl)) _).cell (p := ⟨w.heap.size, 4, none⟩) (by simp only; omega) HE5.out⟩
              case measure => simp [intOf]; omega
            · obtain rfl : m = ls.length := by omega
              have e4 := HE5.out
              go_wp2
              go_ret2
              rw [HRR.out, if_neg (by rw [HA.out]; simp)]
              have hG7 := HG5.out.setMark hGL 0
              rw [unm_all] at hG7
              refine ⟨_, rfl, hG7.later (Later.alloc _ _), ?_, (HK5.out.setCell (.inl (fun h => h.1 rfl)) _).alloc _⟩
              have := elemsOwn_one (B := w.heap.size) (w := wr.setCell ⟨G, 2, none⟩ (.int .i64 0)) (e := ⟨3, ⟨0, []⟩, 0, e.mark⟩) (v := .slice none 0 0) (by simpa using HK5.out.size) (vals_nil _ _)
              rwa [World.size_setCell] at this
      · have m3' : (e.mark != g.mark) = true := by simp [m3]
        have HR : Hid (takeG g n e = (g, 6, [])) := hid (by simp [takeG, HO.out, k3, HX1.out, m1, m2, m3])
        go_enter Tryd.func31, Tryd.ntmps31
        go_wp2_with fail
        refine (gate_open G L g n _ (HG.out.later (Later.alloc _ _)) hk hg2).mono ?_
        rintro e' w1 ⟨rfl, hL1⟩
        rw [HO.out]
        have hLw := Later.of_alloc hL1
        have hG1 := HG.out.later hLw
        have hV1 := HV.out.later hLw
        have hE := hL1.obj (obj_new w _)
        have e0 := cell_obj (i := 0) hE rfl
        have e1 := cell_obj (i := 1) hE rfl
        have e2 := cell_obj (i := 2) hE rfl
        have e3 := cell_obj (i := 3) hE rfl
        have e4 := cell_obj (i := 4) hE rfl
        have r0 := cell_obj (i := 0) hG1.obj rfl
        have r1 := cell_obj (i := 1) hG1.obj rfl
        have r2 := cell_obj (i := 2) hG1.obj rfl
        obtain ⟨q0, q1⟩ := lane_cells hG1.lanes n hlt
        rw [HX2.out] at q0 q1
        have hs1 := hLw.size
        have HE1 := hid hE; have HG1 := hid hG1; have HV1 := hid hV1; have HLw := hid hLw
        clear hE hG1 hV1 hLw hL1 HG HV hlo
        go_wp2_with fail
        refine wp_region_lex (by kernel_rfl) (by kernel_rfl) Later Later.refl Later.trans (fun _ => none) (fun _ _ _ _ _ h => by cases h) ?_
        simp only [numbered, Nat.reduceAdd]
        refine LexS.out ?_
        iterate 19
          first
          | (refine LexS.skip rfl ?_; simp only [Act.put, List.setIfInBounds_toArray, List.set])
          | (refine LexS.one' rfl rfl ?_
             apply Exists.intro
             refine ⟨fun w hR hF => ?_, ?_⟩
             · have hP := hR
               repeat (first | replace hP := Later.of_drew hP | replace hP := Later.of_drewN hP | replace hP := Later.of_alloc hP)
               have hcs := hR.cells
               have zr2 := hP.cell r2
               have ze4 := hP.cell e4
               clear hR hF hP
               go_simp
               first | done | rfl
             simp only [Act.put, List.setIfInBounds_toArray, List.set])
        refine LexS.nil ?_
        intro w2 hR2 hF9
        clear hF9
        repeat (first | replace hR2 := Later.of_drew hR2 | replace hR2 := Later.of_drewN hR2 | replace hR2 := Later.of_alloc hR2)
        clear e0 e1 e2 e3 e4 r0 r1 r2 q0 q1
        go_wp2
        go_ret2
        rw [HR.out]
        exact ⟨_, rfl, HG1.out.later hR2, ElemsOwn.nil _ _, (Later.trans _ _ _ HLw.out hR2).keeps _⟩
end Go.Proofs.YthfgjmdmcoogpaaDoor
