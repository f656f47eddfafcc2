/-
  PROVED HERE: the contracts of gate.New, Gate.Open, Gate.least and of what they call.
-/
import Derived.Test.YthfgjmdmcoogpaaDoorLane
namespace Go.Proofs.YthfgjmdmcoogpaaDoor
open Go.RowKit

/-- a gate: its channels' times and marks, the time told, the mark awaited. -/
structure Gt where
  lanes : List (Int × Bool)
  time : Int
  mark : Int
structure GateAt (w : World) (G L : Nat) (g : Gt) : Prop where
  obj : w.heap[G]? = some (.cells #[.slice (some ⟨L, 0, none⟩) g.lanes.length g.lanes.length, .int .i64 g.time, .int .i64 g.mark] 132 (0, 0))
  lanes : w.heap[L]? = some (.cells (laneCells g.lanes).toArray 130 (0, 0))
theorem GateAt.later {w w' : World} {G L : Nat} {g : Gt} (h : GateAt w G L g) (k : Later w w') : GateAt w' G L g := ⟨k.obj h.obj, k.obj h.lanes⟩
theorem lane_cells {w : World} {L : Nat} {ls : List (Int × Bool)} (h : w.heap[L]? = some (.cells (laneCells ls).toArray 130 (0, 0))) (i : Nat) (hi : i < ls.length) :
    w.cell? ⟨L, i * 2, none⟩ = some (.int .i64 ls[i].1) ∧ w.cell? ⟨L, i * 2 + 1, none⟩ = some (.bool ls[i].2) :=
  ⟨cell_obj h (by simpa using (laneCells_get ls i hi).1), cell_obj h (by simpa using (laneCells_get ls i hi).2)⟩

def GNewTo (w : World) (c : Nat) (e : Ending) (w' : World) : Prop :=
  ∃ G L, e = .returned (.tuple #[.pointer (some ⟨G, 0, none⟩), .nilIface]) ∧ w.heap.size ≤ G ∧ w.heap.size ≤ L ∧ GateAt w' G L ⟨List.replicate c (-1, false), -1, 0⟩ ∧ Later w w'

set_option maxRecDepth 100000 in
set_option maxHeartbeats 2000000 in
theorem gate_new (c : Nat) (w : World) (h1 : 1 ≤ c) (h2 : c ≤ 64) : Calls Tryd.prog 26 #[.int .i64 c] w (GNewTo w c) := by
  go_enter Tryd.func26, Tryd.ntmps26
  go_wp2_with (go_at_call 69; refine (repeat_lane _ (-1, false) c _ (obj_new _ _) h1 h2).mono ?_; rintro e w1 ⟨L, rfl, hL1, hL2, hL3⟩)
  go_ret2
  refine ⟨w1.heap.size, L, rfl, ?_, ?_, ⟨?_, ?_⟩, ?_⟩
  · have := hL3.size; simp at this; omega
  · simp at hL1; omega
  · simpa using obj_new _ _
  · exact (Later.alloc _ _).obj hL2
  · exact (Later.of_alloc hL3).alloc' _

set_option maxRecDepth 100000 in
set_option maxHeartbeats 2000000 in
theorem gate_new_no (c : Int) (w : World) (h : c < 1 ∨ 64 < c) : Calls Tryd.prog 26 #[.int .i64 c] w fun e w' => e = .returned (.tuple #[.pointer none, .iface 33 (.int .i64 4)]) ∧ Later w w' := by
  go_enter Tryd.func26, Tryd.ntmps26
  rcases h with h | h
  · go_wp2
    go_ret2
    exact ⟨rfl, Later.refl _⟩
  · by_cases h' : c < 1
    · go_wp2
      go_ret2
      exact ⟨rfl, Later.refl _⟩
    · go_wp2
      go_ret2
      exact ⟨rfl, Later.refl _⟩

def openG (g : Gt) (k : Int) : Bool := decide (0 ≤ k) && (match g.lanes[k.toNat]? with | some l => !l.2 | none => false)

theorem gate_open (G L : Nat) (g : Gt) (k : Int) (w : World) (h : GateAt w G L g) (hk : (Lit.int .i64 k).wf = true) (hn : g.lanes.length ≤ 64) :
    Calls Tryd.prog 28 #[.pointer (some ⟨G, 0, none⟩), .int .i64 k] w fun e w' => e = .returned (.bool (openG g k)) ∧ Later w w' := by
  have r0 := cell_obj (i := 0) h.obj rfl
  have H := hid h.lanes
  clear h
  by_cases h0 : 0 ≤ k
  · by_cases h1 : k < g.lanes.length
    · obtain ⟨n, rfl⟩ := Int.eq_ofNat_of_zero_le h0
      have hlt : n < g.lanes.length := by omega
      obtain ⟨-, q⟩ := lane_cells H.out n hlt
      have HO : Hid (openG g n = !g.lanes[n].2) := hid (by simp [openG, List.getElem?_eq_getElem hlt])
      go_enter Tryd.func28, Tryd.ntmps28
      go_wp2
      go_ret
      rw [HO.out]
      exact ⟨rfl, Later.refl _⟩
    · have HO : Hid (openG g k = false) := hid (by
        have : g.lanes[k.toNat]? = none := List.getElem?_eq_none (by omega)
        simp [openG, this])
      go_enter Tryd.func28, Tryd.ntmps28
      go_wp2
      go_ret
      rw [HO.out]
      exact ⟨rfl, Later.refl _⟩
  · have HO : Hid (openG g k = false) := hid (by simp [openG, h0])
    go_enter Tryd.func28, Tryd.ntmps28
    go_wp2
    go_ret
    rw [HO.out]
    exact ⟨rfl, Later.refl _⟩

def cmpLane (a b : Int × Bool) : Int := min 1 (max (-1) (a.1 - b.1))
theorem cmpLane_neg {a b : Int × Bool} (h : a.1 < b.1) : decide (cmpLane a b < 0) = true := by
  rw [cmpLane, Int.min_def, Int.max_def, decide_eq_true_eq]
  split <;> split <;> omega
theorem cmpLane_nn {a b : Int × Bool} (h : ¬ a.1 < b.1) : decide (cmpLane a b < 0) = false := by
  rw [cmpLane, Int.min_def, Int.max_def, decide_eq_false_iff_not]
  split <;> split <;> omega
def CmpTo (w : World) (a b : Int × Bool) (e : Ending) (w' : World) : Prop := e = .returned (.int .i64 (cmpLane a b)) ∧ Later w w'
theorem least_1 (a b : Int × Bool) (w : World) (ha : -1 ≤ a.1) (ha' : a.1 ≤ 1099511627777) (hb : -1 ≤ b.1) (hb' : b.1 ≤ 1099511627777) :
    Calls Tryd.prog 106 #[.agg #[.int .i64 a.1, .bool a.2], .agg #[.int .i64 b.1, .bool b.2]] w (CmpTo w a b) := by
  have hw : IntKind.i64.wrap (a.1 - b.1) = a.1 - b.1 := IntWalk.i64_in _ (by omega)
  go_enter Tryd.func106, Tryd.ntmps106
  go_wp2
  go_ret
  exact ⟨rfl, ((Later.alloc _ _).alloc' _)⟩

theorem results_cell {fn : Func} {t : Tmp} {ty : TypeId} (h : fn.results = #[.cell t ty]) (tmps : Array Value) (P : Program) (w : World) :
    (results fn tmps).run P w = (do loadVar ty (← asAddr (tmps.getD t undef)) : Sem Value).run P w := by
  simp [results, h]
def leastT : List (Int × Bool) → Int
  | [] => 0
  | l :: ls => ls.foldl (fun a x => min a x.1) l.1
theorem leastT_one (l : Int × Bool) : leastT [l] = l.1 := rfl
theorem leastT_snoc {ls : List (Int × Bool)} (h : ls ≠ []) (x : Int × Bool) : leastT (ls ++ [x]) = min (leastT ls) x.1 := by
  cases ls with
  | nil => cases h rfl
  | cons l ls => simp [leastT, List.foldl_append]
def TimesOk (ls : List (Int × Bool)) : Prop := ∀ l ∈ ls, -1 ≤ l.1 ∧ l.1 ≤ 1099511627777
def LeastTo (w : World) (ls : List (Int × Bool)) (e : Ending) (w' : World) : Prop := ∃ m : Int × Bool, e = .returned (.agg #[.int .i64 m.1, .bool m.2]) ∧ m.1 = leastT ls ∧ Later w w'

set_option maxRecDepth 100000 in
set_option maxHeartbeats 2000000 in
theorem min_func (L : Nat) (ls : List (Int × Bool)) (w : World) (h : w.heap[L]? = some (.cells (laneCells ls).toArray 130 (0, 0))) (h1 : 1 ≤ ls.length) (h2 : ls.length ≤ 64) (ht : TimesOk ls) :
    Calls Tryd.prog 105 #[.slice (some ⟨L, 0, none⟩) ls.length ls.length, .func (.func 106) #[] #[]] w (LeastTo w ls) := by
  have H := hid h
  clear h
  obtain ⟨p0, p1⟩ := lane_cells H.out 0 h1
  have hl := cell_lt p0
  have HT := hid ht
  clear ht
  go_enter Tryd.func105, Tryd.ntmps105
  go_wp2
  go_loopw [6] (fun i wr => ∃ n : Nat, 1 ≤ n ∧ n ≤ ls.length ∧ i = .int .i64 n ∧ Later w wr ∧ wr.heap[w.heap.size]? = some (.cells #[.int .i64 0, .bool false] 130 (0, 0)) ∧
      ∃ m : Int × Bool, wr.heap[w.heap.size + 1]? = some (.cells #[.int .i64 m.1, .bool m.2] 130 (0, 0)) ∧ m.1 = leastT (ls.take n) ∧ -1 ≤ m.1 ∧ m.1 ≤ 1099511627777) (fun i _ => ls.length - (intOf i).toNat)
  case atStart =>
    have e1 : ls.take 1 = [ls[0]] := by rw [List.take_succ_eq_append_getElem h1]; simp
    have h0 := HT.out _ (List.getElem_mem h1)
    exact ⟨1, by omega, h1, rfl, (Later.alloc _ _).alloc' _, (Later.alloc _ _).obj (obj_new _ _), ls[0], by simpa using obj_new (w.alloc (.cells #[.int .i64 0, .bool false] 130)) _, by rw [e1]; rfl, h0⟩
  case round =>
    obtain ⟨n, hn1, hn2, rfl, hL, hr, m, hm, hmt, hm1, hm2⟩ := hrel
    have HR := hid hr; have HM := hid hm; have HMT := hid hmt
    clear hr hm p0 p1 hmt
    by_cases hlt : n < ls.length
    · obtain ⟨q0, q1⟩ := lane_cells (hL.obj H.out) n hlt
      have hx := HT.out _ (List.getElem_mem hlt)
      have HS : Hid (leastT (ls.take (n + 1)) = min (leastT (ls.take n)) ls[n].1) := hid (by
        rw [List.take_succ_eq_append_getElem hlt, leastT_snoc]
        intro h
        have := congrArg List.length h
        rw [List.length_take] at this
        simp only [List.length_nil] at this
        omega)
      generalize ls[n] = x at *
      obtain ⟨hx1, hx2⟩ := hx
      have m0 := cell_obj (i := 0) HM.out rfl
      have m1 := cell_obj (i := 1) HM.out rfl
      have hnn : (0 : Int) ≤ n := by omega
      go_wp2
      refine wp_region_lex (by kernel_rfl) (by kernel_rfl) Later Later.refl Later.trans (kinds [(6, fun v _ => v = .int .i64 (cmpLane x m))]) (kinds_still (by simp +contextual)) ?_
      simp only [numbered, Nat.reduceAdd]
      iterate 6
        first
        | (refine Lex.skip rfl ?_; simp only [Act.put, List.setIfInBounds_toArray, List.set])
        | (refine Lex.one' rfl rfl ?_
           apply Exists.intro
           refine ⟨fun w hR hF => ?_, ?_⟩
           · have hP := hR
             repeat (first | replace hP := Later.of_drew hP | replace hP := Later.of_drewN hP | replace hP := Later.of_alloc hP)
             have hcs := hR.cells
             have zq0 := hP.cell q0
             have zq1 := hP.cell q1
             have zm0 := hP.cell m0
             have zm1 := hP.cell m1
             clear hR hF hP
             go_simp
             first | done | rfl
           simp only [Act.put, List.setIfInBounds_toArray, List.set])
      refine Lex.anyEq rfl rfl (fun w hR hF => ?_) ?_
      · have hP := hR
        repeat (first | replace hP := Later.of_drew hP | replace hP := Later.of_drewN hP | replace hP := Later.of_alloc hP)
        have hcs := hR.cells
        clear hF hR
        unfold Runs
        go_simp
        unfold Yield
        refine (least_1 x m _ hx1 hx2 hm1 hm2).mono ?_
        rintro e w' ⟨rfl, hL7⟩
        exact ⟨_, rfl, hL7, rfl⟩
      simp only [Act.put, List.setIfInBounds_toArray, List.set]
      iterate 1
        first
        | (refine Lex.skip rfl ?_; simp only [Act.put, List.setIfInBounds_toArray, List.set])
        | (refine Lex.one' rfl rfl ?_
           apply Exists.intro
           refine ⟨fun w hR hF => ?_, ?_⟩
           · have hP := hR
             repeat (first | replace hP := Later.of_drew hP | replace hP := Later.of_drewN hP | replace hP := Later.of_alloc hP)
             have hcs := hR.cells
             clear hR hF hP
             go_simp
             first | done | rfl
           simp only [Act.put, List.setIfInBounds_toArray, List.set])
      intro w4 hR4 hF9
      clear hF9
      repeat (first | replace hR4 := Later.of_drew hR4 | replace hR4 := Later.of_drewN hR4 | replace hR4 := Later.of_alloc hR4)
      clear m0 m1
      replace q0 := hR4.cell q0
      replace q1 := hR4.cell q1
      have hm4 := hR4.obj HM.out
      have c0 := cell_obj (i := 0) hm4 rfl
      have c1 := cell_obj (i := 1) hm4 rfl
      have z0 := free_obj (i := 0) hm4
      have z1 := free_obj (i := 1) hm4
      have HM4 := hid hm4
      have HR4 := hid (hR4.obj HR.out)
      have HL4 := hid (Later.trans _ _ _ hL hR4)
      clear hm4 hR4
      by_cases hlt2 : x.1 < m.1
      · have hd : cmpLane x m < 0 := of_decide_eq_true (cmpLane_neg hlt2)
        have HM5 : Hid (((w4.setCell ⟨w.heap.size + 1, 0, none⟩ (.int .i64 x.1)).setCell ⟨w.heap.size + 1, 1, none⟩ (.bool x.2)).heap[w.heap.size + 1]? = some (.cells #[.int .i64 x.1, .bool x.2] 130 (0, 0))) := hid (obj_setCell (i := 1) (obj_setCell (i := 0) HM4.out (.int .i64 x.1)) (.bool x.2))
        have HL5 : Hid (Later w ((w4.setCell ⟨w.heap.size + 1, 0, none⟩ (.int .i64 x.1)).setCell ⟨w.heap.size + 1, 1, none⟩ (.bool x.2))) := hid ((HL4.out.new (p := ⟨_, _, none⟩) (Nat.le_succ _) _).new (p := ⟨_, _, none⟩) (Nat.le_succ _) _)
        have HR5 : Hid (((w4.setCell ⟨w.heap.size + 1, 0, none⟩ (.int .i64 x.1)).setCell ⟨w.heap.size + 1, 1, none⟩ (.bool x.2)).heap[w.heap.size]? = some (.cells #[.int .i64 0, .bool false] 130 (0, 0))) := hid (by
          rw [Below.heap_setCell _ ⟨w.heap.size + 1, 1, none⟩ _ _ (by simp), Below.heap_setCell _ ⟨w.heap.size + 1, 0, none⟩ _ _ (by simp)]
          exact HR4.out)
        have HE5 : Hid (x.1 = leastT (ls.take (n + 1))) := hid (by rw [HS.out, ← HMT.out]; exact (Int.min_eq_right (Int.le_of_lt hlt2)).symm)
        go_wp2
        go_roundw
        case rel => exact ⟨n + 1, by omega, by omega, by go_num, HL5.out, HR5.out, x, HM5.out, HE5.out, hx1, hx2⟩
        case measure => simp [intOf]; omega
      · have hd : ¬ cmpLane x m < 0 := of_decide_eq_false (cmpLane_nn hlt2)
        go_wp2
        go_roundw
        case rel => exact ⟨n + 1, by omega, by omega, by go_num, HL4.out, HR4.out, m, HM4.out, by rw [HS.out, ← HMT.out]; exact (Int.min_eq_left (Int.not_lt.1 hlt2)).symm, hm1, hm2⟩
        case measure => simp [intOf]; omega
    · obtain rfl : n = ls.length := by omega
      have m0 := cell_obj (i := 0) HM.out rfl
      have m1 := cell_obj (i := 1) HM.out rfl
      have c0 := cell_obj (i := 0) HR.out rfl
      have c1 := cell_obj (i := 1) HR.out rfl
      have z0 := free_obj (i := 0) HR.out
      have z1 := free_obj (i := 1) HR.out
      go_wp2
      have hf : wr.heap[w.heap.size]? = some (.cells #[.int .i64 0, .bool false] 130 (0, 0)) := HR.out
      have hb := obj_setCell (i := 1) (obj_setCell (i := 0) hf (.int .i64 m.1)) (.bool m.2)
      have hL9 : Later w ((wr.setCell ⟨w.heap.size, 0, none⟩ (.int .i64 m.1)).setCell ⟨w.heap.size, 1, none⟩ (.bool m.2)) := (hL.new (p := ⟨_, _, none⟩) (Nat.le_refl _) _).new (p := ⟨_, _, none⟩) (Nat.le_refl _) _
      have hmt := HMT.out
      rw [List.take_length] at hmt
      generalize (wr.setCell ⟨w.heap.size, 0, none⟩ (.int .i64 m.1)).setCell ⟨w.heap.size, 1, none⟩ (.bool m.2) = w9 at *
      clear c0 c1 z0 z1 m0 m1
      have c0 := cell_obj (i := 0) hb rfl
      have c1 := cell_obj (i := 1) hb rfl
      have HB := hid hb; have HMT' := hid hmt; have HL9 := hid hL9
      clear hb hf hmt hL9 hm1 hm2 hn1 hn2
      refine bodyPost_ret (v := .agg #[.int .i64 m.1, .bool m.2]) ?_ rfl ⟨m, rfl, HMT'.out, HL9.out⟩
      rw [results_cell (t := 4) (ty := 130) rfl]
      go_simp
end Go.Proofs.YthfgjmdmcoogpaaDoor
