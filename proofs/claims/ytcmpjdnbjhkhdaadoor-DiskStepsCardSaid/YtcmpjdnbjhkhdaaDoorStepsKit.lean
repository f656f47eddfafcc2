/-
  PROVED HERE: what the walk of DiskSteps asks of memory. No program of its own.
-/
import Derived.Test.YtcmpjdnbjhkhdaaDoorDiskCalls
namespace Go.Proofs.YtcmpjdnbjhkhdaaDoor
set_option linter.unusedSimpArgs false
set_option linter.unusedVariables false
open Go.RowKit

/-- a step of the script. -/
structure OpD where
  kind : Int
  a : Int
  name : List UInt8
  dv : Value
  data : List UInt8
def OpDAt (w : World) (b o : Nat) (x : OpD) : Prop := w.cell? ⟨b, o, none⟩ = some (.int .i64 x.kind) ∧ w.cell? ⟨b, o + 1, none⟩ = some (.int .i64 x.a) ∧ w.cell? ⟨b, o + 2, none⟩ = some (.string (strB x.name)) ∧ w.cell? ⟨b, o + 3, none⟩ = some x.dv
abbrev IsOpsD (w : World) (v : Value) (l : List OpD) : Prop := SliceOf All OpDAt 4 w v l
structure GoodOp (W : World) (x : OpD) : Prop where
  low : BytesIn (fun b => b < W.heap.size) W x.dv x.data
  name : x.name.length ≤ maxLen
  data : x.data.length ≤ 140737488355328
/-- a row of cells. -/
def RowObj (w : World) (g n : Nat) : Prop := ∃ cs t, w.heap[g]? = some (.cells cs t (0, 0)) ∧ n ≤ cs.size
theorem RowObj.cell {w : World} {g n m : Nat} (h : RowObj w g n) (hm : m < n) : ∃ u, w.cell? ⟨g, m, none⟩ = some u := by
  obtain ⟨cs, t, h, hs⟩ := h
  exact ⟨cs[m]'(by omega), cell_obj h (by rw [Array.getElem?_eq_getElem])⟩
theorem RowObj.free {w : World} {g n : Nat} (h : RowObj w g n) (m : Nat) : w.frozen? ⟨g, m, none⟩ = false := let ⟨_, _, h, _⟩ := h; free_obj h
theorem RowObj.set {w : World} {g n : Nat} (h : RowObj w g n) (m : Nat) (u : Value) : RowObj (w.setCell ⟨g, m, none⟩ u) g n := by
  obtain ⟨cs, t, h, hs⟩ := h
  exact ⟨_, t, obj_setCell h u, by rw [Array.size_setIfInBounds]; exact hs⟩
theorem RowObj.later {w w' : World} {g n : Nat} (h : RowObj w g n) (k : Later w w') : RowObj w' g n := let ⟨cs, t, h, hs⟩ := h; ⟨cs, t, k.obj h, hs⟩
theorem RowObj.keep {S : Nat → Prop} {w w' : World} {g n : Nat} (h : RowObj w g n) (k : Keeps S w w') (hg : S g) : RowObj w' g n := let ⟨cs, t, h, hs⟩ := h; ⟨cs, t, k.obj hg h, hs⟩
/-! files that stay -/
theorem fileCells_stay : ∀ (l : List FE) (i : Nat) (h : i < l.length), fileCells (l.set i (stay l[i])) = (fileCells l).set (i * 3 + 2) (.bool false)
  | x :: l, 0, _ => rfl
  | x :: l, i + 1, h => by
    have ih := fileCells_stay l i (by simpa using h)
    rw [show (i + 1) * 3 + 2 = i * 3 + 2 + 1 + 1 + 1 by omega]
    show FE.cells x ++ fileCells (l.set i (stay (l[i]'(by simpa using h)))) = _
    rw [ih]
    rfl
theorem OwnF.stays {B n c g i : Nat} {w : World} {l : List FE} (h : OwnF B w (.slice (some ⟨g, 0, none⟩) n c) l) (hn : n = l.length) (hi : i < l.length) : OwnF B (w.setCell ⟨g, i * 3 + 2, none⟩ (.bool false)) (.slice (some ⟨g, 0, none⟩) n c) (l.set i (stay l[i])) := by
  subst hn
  have := owns_put (i := i * 3 + 2) h (.bool false)
  unfold OwnF
  rw [List.length_set, fileCells_stay l i hi]
  exact this
def stayed (m : Nat) (F : List FE) : List FE := (F.take m).map stay ++ F.drop m
theorem stayed_zero (F : List FE) : stayed 0 F = F := rfl
theorem stayed_all (F : List FE) : stayed F.length F = F.map stay := by unfold stayed; rw [List.take_length, List.drop_length, List.append_nil]
theorem stayed_len (m : Nat) (F : List FE) : (stayed m F).length = F.length := by unfold stayed; rw [List.length_append, List.length_map, List.length_take, List.length_drop]; omega
theorem stayed_succ {m : Nat} {F : List FE} (hm : m < F.length) : (stayed m F).set m (stay ((stayed m F)[m]'(by rw [stayed_len]; exact hm))) = stayed (m + 1) F := by
  have hl : ((F.take m).map stay).length = m := by rw [List.length_map, List.length_take]; omega
  have e1 : (stayed m F)[m]'(by rw [stayed_len]; exact hm) = F[m] := by
    unfold stayed
    rw [List.getElem_append_right (by omega), List.getElem_drop]
    simp only [hl]
    congr 1
    omega
  rw [e1]
  unfold stayed
  rw [List.set_append_right _ _ (by omega), hl, Nat.sub_self, List.take_succ_eq_append_getElem hm, List.map_append, List.append_assoc, List.drop_eq_getElem_cons hm]
  rfl
/-! how many can be lost -/
def cnt (m : Nat) (F : List FE) : Nat := (looseF (F.take m)).length
theorem cnt_succ {m : Nat} {F : List FE} (hm : m < F.length) : cnt (m + 1) F = if F[m].loose = true then cnt m F + 1 else cnt m F := by
  unfold cnt looseF
  rw [List.take_succ_eq_append_getElem hm, List.filter_append, List.map_append, List.length_append, List.filter_cons, List.filter_nil]
  split
  · rfl
  · rfl
theorem cnt_all (F : List FE) : cnt F.length F = (looseF F).length := by unfold cnt; rw [List.take_length]
theorem cnt_le (m : Nat) (F : List FE) : cnt m F ≤ m := Nat.le_trans (loose_len _) (by rw [List.length_take]; omega)
/-- what find tells. -/
def Found (F : List FE) (k : List UInt8) (q : Int) : Prop := (q = -1 ∧ hasF F k = false) ∨ ∃ (i : Nat) (h : i < F.length), q = i ∧ F[i].name = k ∧ hasF F k = true
theorem found_of {F : List FE} {k : List UInt8} {w w' : World} {e : Ending} (h : FindTo k F w e w') : w' = w ∧ ∃ q, e = .returned (.int .i64 q) ∧ Found F k q := by
  obtain ⟨rfl, ⟨rfl, h⟩ | ⟨i, hi, rfl, h, -⟩⟩ := h
  · refine ⟨rfl, _, rfl, .inl ⟨rfl, decide_eq_false fun hm => ?_⟩⟩
    obtain ⟨x, hx, hn⟩ := mem_names.1 hm
    exact h x hx hn
  · exact ⟨rfl, _, rfl, .inr ⟨i, hi, rfl, h, decide_eq_true (mem_names.2 ⟨_, List.getElem_mem hi, h⟩)⟩⟩
end Go.Proofs.YtcmpjdnbjhkhdaaDoor
