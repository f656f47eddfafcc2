/-
  PROVED HERE: a slice of rows of one's own: a place of it, when it is written. No program of its own.
  PROVED HERE: in plain Lean: a row laid in its place among rows in their order. No program of its own.
-/
import Derived.Test.YtcmpjdnbjhkhdaaDoorSortedRows
import Derived.Test.YtcmpjdnbjhkhdaaDoorOrdTotal
namespace Go.Proofs.YtcmpjdnbjhkhdaaDoor
set_option linter.unusedSimpArgs false
set_option linter.unusedVariables false
open Go.RowKit

theorem rxCells_set : ∀ (l : List RX) (i : Nat) (x : RX), i < l.length → ((rxCells l).set (i * 2) (.int .i64 x.row.time)).set (i * 2 + 1) x.v = rxCells (l.set i x)
  | y :: l, 0, x, _ => by rw [rxCells_cons]; rfl
  | y :: l, i + 1, x, h => by
    have ih := rxCells_set l i x (by simpa using h)
    rw [rxCells_cons, show (i + 1) * 2 = i * 2 + 1 + 1 by omega, List.set_cons_succ, List.set_cons_succ, List.set_cons_succ, List.set_cons_succ, ih]
    rfl
theorem OwnR.cells {B n c : Nat} {w : World} {a : Option Addr} {l : List RX} (h : OwnR B w (.slice a n c) l) {i : Nat} (hi : i < l.length) :
    ∃ g, a = some ⟨g, 0, none⟩ ∧ B ≤ g ∧ w.cell? ⟨g, i * 2, none⟩ = some (.int .i64 l[i].row.time) ∧ w.cell? ⟨g, i * 2 + 1, none⟩ = some l[i].v ∧ ∀ j, w.frozen? ⟨g, j, none⟩ = false := by
  obtain ⟨hl, h⟩ := h
  rcases h with ⟨h, h0⟩ | ⟨g, cap', cur, hv, hb, hg, h1, h2, h3, h4⟩
  · omega
  · simp only [Value.slice.injEq] at hv
    obtain ⟨rfl, rfl, rfl⟩ := hv
    have cell : ∀ j u, (rxCells l)[j]? = some u → w.cell? ⟨g, j, none⟩ = some u := fun j u hu => by
      refine cell_obj hg ?_
      rw [← h4, List.getElem?_take] at hu
      split at hu
      · simpa using hu
      · cases hu
    obtain ⟨q1, q2⟩ := rxCells_at l i hi
    exact ⟨g, rfl, hb, cell _ _ q1, cell _ _ q2, fun j => free_obj hg⟩
theorem OwnR.set {B c g i : Nat} {w : World} {l : List RX} (h : OwnR B w (.slice (some ⟨g, 0, none⟩) l.length c) l) (hi : i < l.length) (x : RX) :
    OwnR B ((w.setCell ⟨g, i * 2, none⟩ (.int .i64 x.row.time)).setCell ⟨g, i * 2 + 1, none⟩ x.v) (.slice (some ⟨g, 0, none⟩) l.length c) (l.set i x) := by
  have := owns_put (i := i * 2 + 1) (owns_put (i := i * 2) h (.int .i64 x.row.time)) x.v
  rw [rxCells_set l i x hi] at this
  unfold OwnR
  rwa [List.length_set]
/-- every row has values of its own. -/
def AllR (B : Nat) (w : World) (l : List RX) : Prop := ∀ x ∈ l, w.ownsRow B 25 3 x.v x.row.vals.length (valCells x.row.vals)
theorem AllR.later {B : Nat} {w w' : World} {l : List RX} (h : AllR B w l) (k : Later w w') : AllR B w' l := fun x hx => owns_at (h x hx) k
theorem AllR.keep {B : Nat} {S : Nat → Prop} {w w' : World} {l : List RX} (h : AllR B w l) (k : Keeps S w w') (hs : ∀ x ∈ l, ∀ b, x.v.ownBlock = some b → S b) : AllR B w' l := fun x hx => owns_keep (h x hx) k (hs x hx)
theorem AllR.off {B B' : Nat} {w : World} {l : List RX} {v : Value} {xs : List RX} (h : AllR B w l) (k : OwnR B' w v xs) : ∀ x ∈ l, ∀ b, x.v.ownBlock = some b → some b ≠ v.ownBlock :=
  fun x hx b hb hv => own_apart k (h x hx) (by decide) b hv.symm hb
theorem AllR.slice {B : Nat} {w : World} {l : List RX} (h : AllR B w l) {x : RX} (hx : x ∈ l) : ∃ a c, x.v = .slice a x.row.vals.length c := ownsRow_slice (h x hx)
/-- rows of one's own, read. -/
theorem OwnR.rows {B B' : Nat} {w : World} {v : Value} {l : List RX} (h : OwnR B w v l) (k : AllR B' w l) (hB : B' ≤ B) : RowsIn (fun b => B' ≤ b) w v (l.map (·.row)) := by
  obtain ⟨a, c, rfl⟩ := ownsRow_slice h
  obtain ⟨hl, hh⟩ := h
  have hlen : l.length ≤ c ∧ c ≤ maxLen ∧ (a = none → c = 0) := by
    rcases hh with ⟨hv, h0⟩ | ⟨g, cap', cur, hv, hb, hg, h1, h2, h3, h4⟩
    · simp only [Value.slice.injEq] at hv
      obtain ⟨rfl, _, rfl⟩ := hv
      exact ⟨by omega, by unfold maxLen; omega, fun _ => rfl⟩
    · simp only [Value.slice.injEq] at hv
      obtain ⟨rfl, _, rfl⟩ := hv
      exact ⟨h1, h2, fun h => by cases h⟩
  refine ⟨a, c, by rw [List.length_map], by rw [List.length_map]; exact hlen.1, hlen.2.1, hlen.2.2, fun i hi => ?_⟩
  rw [List.length_map] at hi
  obtain ⟨g, rfl, hb, h1, h2, -⟩ := OwnR.cells (B := B) (c := c) (n := l.length) ⟨hl, hh⟩ hi
  rw [List.getElem_map]
  refine ⟨g, 0, rfl, Nat.le_trans hB hb, ?_, l[i].v, ?_, owned_vals (k _ (List.getElem_mem hi))⟩
  · rw [Nat.zero_add]; exact h1
  · rw [Nat.zero_add]; exact h2
/-- rows of one's own that are moved about in their block, while another row lies ready. -/
structure InsSt (w : World) (B g T c : Nat) (xs : List RX) (y : RX) (N : List RX) (wy : World) : Prop where
  own : OwnR B wy (.slice (some ⟨g, 0, none⟩) N.length c) N
  all : AllR B wy xs
  one : wy.ownsRow B 25 3 y.v y.row.vals.length (valCells y.row.vals)
  obj : wy.heap[T]? = some (.cells #[.int .i64 y.row.time, y.v] 79 (0, 0))
  later : Later w wy
  ne : T ≠ g
  base : B ≤ g
theorem InsSt.put {w : World} {B g T c : Nat} {xs : List RX} {y : RX} {N : List RX} {wy : World} (h : InsSt w B g T c xs y N wy) (hw : w.heap.size ≤ B) {i : Nat} (hi : i < N.length) (x : RX) :
    InsSt w B g T c xs y (N.set i x) ((wy.setCell ⟨g, i * 2, none⟩ (.int .i64 x.row.time)).setCell ⟨g, i * 2 + 1, none⟩ x.v) := by
  have hk : Keeps (fun b => b ≠ g) wy ((wy.setCell ⟨g, i * 2, none⟩ (.int .i64 x.row.time)).setCell ⟨g, i * 2 + 1, none⟩ x.v) :=
    ((Keeps.refl (fun b => b ≠ g) wy).setCell (p := ⟨g, i * 2, none⟩) (.inl fun h => h rfl) _).setCell (p := ⟨g, i * 2 + 1, none⟩) (.inl fun h => h rfl) _
  refine ⟨?_, h.all.keep hk fun z hz b hb e => ?_, owns_keep h.one hk fun b hb e => ?_, hk.obj h.ne h.obj, (h.later.new (p := ⟨g, i * 2, none⟩) (Nat.le_trans hw h.base) _).new (p := ⟨g, i * 2 + 1, none⟩) (Nat.le_trans hw h.base) _, h.ne, h.base⟩
  · have := OwnR.set h.own hi x
    rw [List.length_set]
    exact this
  · subst e; exact h.all.off h.own z hz b hb rfl
  · subst e; exact own_apart h.own h.one (by decide) b rfl hb
end Go.Proofs.YtcmpjdnbjhkhdaaDoor
namespace Go.Proofs.YtcmpjdnbjhkhdaaDoor
set_option linter.unusedSimpArgs false
set_option linter.unusedVariables false

def insAt {α : Type} (l : List α) (k : Nat) (z : α) : List α := l.take k ++ z :: l.drop k
theorem insAt_length {α : Type} {l : List α} {k : Nat} (hk : k ≤ l.length) (z : α) : (insAt l k z).length = l.length + 1 := by unfold insAt; simp; omega
theorem insAt_end {α : Type} (l : List α) (z : α) : insAt l l.length z = l ++ [z] := by unfold insAt; simp
theorem insAt_get {α : Type} {l : List α} {m : Nat} (hm : m < l.length) (z : α) : (insAt l (m + 1) z)[m]'(by rw [insAt_length hm]; omega) = l[m] := by
  unfold insAt
  rw [List.getElem_append_left (by rw [List.length_take]; omega), List.getElem_take]
theorem insAt_set {α : Type} {l : List α} {k : Nat} (hk : k ≤ l.length) (z y : α) : (insAt l k z).set k y = insAt l k y := by
  unfold insAt
  rw [List.set_append_right _ _ (by rw [List.length_take]; omega), List.length_take, Nat.min_eq_left hk, Nat.sub_self]
  rfl
theorem insAt_shift {α : Type} {l : List α} {m : Nat} (hm : m < l.length) (z : α) : insAt l (m + 1) l[m] = insAt l m l[m] := by
  unfold insAt
  rw [List.take_succ_eq_append_getElem hm, List.append_assoc]
  congr 1
  rw [List.drop_eq_getElem_cons hm]
  rfl
theorem insAt_perm {α : Type} (l : List α) (k : Nat) (z : α) : (insAt l k z).Perm (l ++ [z]) := by
  unfold insAt
  refine List.perm_middle.trans ?_
  rw [List.take_append_drop]
  exact List.perm_append_comm (l₁ := [z]) (l₂ := l)
theorem insAt_map {α β : Type} (f : α → β) (l : List α) (k : Nat) (z : α) : (insAt l k z).map f = insAt (l.map f) k (f z) := by
  unfold insAt
  rw [List.map_append, List.map_cons, List.map_take, List.map_drop]
theorem insAt_mem {α : Type} {l : List α} {k : Nat} {z x : α} : x ∈ insAt l k z → x ∈ l ∨ x = z := by
  intro h
  rcases List.mem_append.1 ((insAt_perm l k z).mem_iff.1 h) with h | h
  · exact .inl h
  · exact .inr (List.mem_singleton.1 h)
theorem leR_trans {a b c : Row} (h : 0 ≤ compareR b a) (k : 0 ≤ compareR c b) : 0 ≤ compareR c a := by
  have t := compareR_total
  have n1 := t.neg a b; have n2 := t.neg b c; have n3 := t.neg a c
  by_cases e1 : compareR a b = 0
  · rw [(t.eq _ _).1 e1]; exact k
  · by_cases e2 : compareR b c = 0
    · rw [← (t.eq _ _).1 e2]; exact h
    · have := t.trans a b c (by omega) (by omega)
      omega
theorem sortedR_ins {ys : List Row} {x : Row} {k : Nat} (hs : SortedR ys) (hk : k ≤ ys.length) (h1 : ∀ (h : 0 < k), beforeR x (ys[k - 1]'(by omega)) = false) (h2 : ∀ j (h : j < ys.length), k ≤ j → beforeR x ys[j] = true) : SortedR (insAt ys k x) := by
  have hs' := List.pairwise_iff_getElem.1 hs
  unfold SortedR insAt
  refine List.pairwise_append.2 ⟨hs.sublist (List.take_sublist _ _), List.pairwise_cons.2 ⟨fun y hy => ?_, hs.sublist (List.drop_sublist _ _)⟩, fun a ha b hb => ?_⟩
  · obtain ⟨j, hj, rfl⟩ := List.getElem_of_mem hy
    rw [List.getElem_drop]
    rw [List.length_drop] at hj
    have := h2 (k + j) (by omega) (by omega)
    rw [beforeR_cmp] at this
    have := of_decide_eq_true this
    have := compareR_total.neg x (ys[k + j]'(by omega))
    omega
  · have hax : 0 ≤ compareR x a := by
      obtain ⟨j, hj, rfl⟩ := List.getElem_of_mem ha
      rw [List.length_take] at hj
      rw [List.getElem_take]
      have hl : 0 ≤ compareR x (ys[k - 1]'(by omega)) := by
        have := h1 (by omega)
        rw [beforeR_cmp] at this
        have := of_decide_eq_false this
        omega
      by_cases e : j = k - 1
      · subst e; exact hl
      · exact leR_trans (hs' j (k - 1) (by omega) (by omega) (by omega)) hl
    rcases List.mem_cons.1 hb with rfl | hb
    · exact hax
    · obtain ⟨i, hi, rfl⟩ := List.getElem_of_mem ha
      obtain ⟨j, hj, rfl⟩ := List.getElem_of_mem hb
      rw [List.length_take] at hi
      rw [List.length_drop] at hj
      rw [List.getElem_take, List.getElem_drop]
      exact hs' i (k + j) (by omega) (by omega) (by omega)
end Go.Proofs.YtcmpjdnbjhkhdaaDoor
