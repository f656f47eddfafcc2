/-
  PROVED HERE: rows that came in with the slices that hold their values; marks; values written one by one. No program of its own.
-/
import Derived.Test.YthfgjmdmcoogpaaMarked
import Derived.Test.YthfgjmdmcoogpaaAppX
import Derived.OwnWalk
namespace Go.Proofs.Ythfgjmdmcoogpaa
set_option linter.unusedSimpArgs false
set_option linter.unusedVariables false
open Go.RowKit

theorem rows_rx {S : Nat → Prop} {w : World} {a : Option Addr} {n c : Nat} {l : List Row} (h : RowsIn S w (.slice a n c) l) :
    ∃ rx : List RX, rx.map (·.row) = l ∧ (∀ x ∈ rx, ValsIn S w x.v x.row.vals) ∧ ∀ ad, a = some ad → ∀ j u, (rxCells rx)[j]? = some u → w.cell? (ad.add j) = some u := by
  obtain ⟨a', c', e, h1, h2, h3, h4⟩ := h
  simp only [Value.slice.injEq] at e
  obtain ⟨rfl, rfl, rfl⟩ := e
  have key : ∀ i, i < l.length → ∃ x : RX, l[i]? = some x.row ∧ ValsIn S w x.v x.row.vals ∧ ∃ b o, a = some ⟨b, o, none⟩ ∧ w.cell? ⟨b, o + i * 2, none⟩ = some (.int .i64 x.row.time) ∧ w.cell? ⟨b, o + i * 2 + 1, none⟩ = some x.v := fun i hi => by
    obtain ⟨b, o, ha, -, p1, v, p2, hv⟩ := h4 i hi
    exact ⟨⟨l[i], v⟩, List.getElem?_eq_getElem hi, hv, b, o, ha, p1, p2⟩
  obtain ⟨rx, hl, hp⟩ := list_of l.length key
  refine ⟨rx, ?_, fun x hx => ?_, fun ad ha j u hu => ?_⟩
  · apply List.ext_getElem?
    intro i
    by_cases hi : i < rx.length
    · rw [List.getElem?_map, List.getElem?_eq_getElem hi, (hp i hi).1]; rfl
    · rw [List.getElem?_eq_none (by rw [List.length_map]; omega), List.getElem?_eq_none (by omega)]
  · obtain ⟨i, hi, rfl⟩ := List.getElem_of_mem hx
    exact (hp i hi).2.1
  · have hj : j < rx.length * 2 := by rw [← rxCells_length]; exact (List.getElem?_eq_some_iff.1 hu).1
    obtain ⟨_, _, b, o, hb, p1, p2⟩ := hp (j / 2) (by omega)
    rw [ha] at hb
    injection hb with hb
    subst hb
    obtain ⟨q1, q2⟩ := rxCells_at rx (j / 2) (by omega)
    rw [add_none rfl]
    rcases (by omega : j = j / 2 * 2 ∨ j = j / 2 * 2 + 1) with e | e
    · rw [e] at hu; rw [q1] at hu; cases hu
      simpa [← e] using p1
    · rw [e] at hu; rw [q2] at hu; cases hu
      rw [Nat.add_assoc, ← e] at p2
      simpa using p2
/-- rows of a block of one's own whose values stand anywhere. -/
theorem rx_rows {B : Nat} {w : World} {v : Value} {l : List RX} (h : OwnR B w v l) (k : ∀ x ∈ l, IsVals w x.v x.row.vals) : IsRows w v (l.map (·.row)) := by
  obtain ⟨a, c, rfl⟩ := ownsRow_slice h
  obtain ⟨hl, hh⟩ := h
  have hlen : l.length ≤ c ∧ c ≤ maxLen ∧ (a = none → c = 0) := by
    rcases hh with ⟨hv, h0⟩ | ⟨g, cap', cur, hv, hb, hg, h1, h2, h3, h4⟩
    · simp only [Value.slice.injEq] at hv
      obtain ⟨rfl, _, rfl⟩ := hv
      exact ⟨by omega, by unfold maxLen; omega, fun _ => rfl⟩
    · simp only [Value.slice.injEq] at hv
      obtain ⟨rfl, _, rfl⟩ := hv
      exact ⟨h1, h2, fun h => by cases h⟩
  refine ⟨a, c, by rw [List.length_map], by rw [List.length_map]; exact hlen.1, hlen.2.1, hlen.2.2, fun i hi => ?_⟩
  rw [List.length_map] at hi
  obtain ⟨g, rfl, hb, h1, h2, -⟩ := OwnR.cells (B := B) (c := c) (n := l.length) ⟨hl, hh⟩ hi
  rw [List.getElem_map]
  refine ⟨g, 0, rfl, trivial, ?_, l[i].v, ?_, k _ (List.getElem_mem hi)⟩
  · rw [Nat.zero_add]; exact h1
  · rw [Nat.zero_add]; exact h2
theorem SliceOf.vals_lt {S : Nat → Prop} {w : World} {v : Value} {l : List Val} (h : ValsIn S w v l) : ValsIn (fun b => b < w.heap.size) w v l := h.map fun _ _ _ _ hx => ⟨cell_lt hx.1, hx⟩
theorem SliceOf.rows_lt {S : Nat → Prop} {w : World} {v : Value} {l : List Row} (h : RowsIn S w v l) : RowsIn (fun b => b < w.heap.size) w v l :=
  h.map fun _ _ _ _ hx => ⟨cell_lt hx.1, hx.1, let ⟨v, h1, h2⟩ := hx.2; ⟨v, h1, h2.vals_lt⟩⟩
theorem rxCells_take (l : List RX) (k : Nat) : rxCells (l.take k) = (rxCells l).take (k * 2) := by
  induction l generalizing k with
  | nil => simp [rxCells]
  | cons x l ih =>
    cases k with
    | zero => simp [rxCells]
    | succ k => rw [List.take_succ_cons, rxCells_cons, rxCells_cons, ih, show (k + 1) * 2 = k * 2 + 1 + 1 by omega, List.take_succ_cons, List.take_succ_cons]
theorem rxCells_drop (l : List RX) (k : Nat) : rxCells (l.drop k) = (rxCells l).drop (k * 2) := by
  induction l generalizing k with
  | nil => simp [rxCells]
  | cons x l ih =>
    cases k with
    | zero => simp
    | succ k => rw [List.drop_succ_cons, rxCells_cons, ih, show (k + 1) * 2 = k * 2 + 1 + 1 by omega, List.drop_succ_cons, List.drop_succ_cons]
theorem OwnR.cut {B n c g i : Nat} {w : World} {l : List RX} (h : w.ownsRow B 42 2 (.slice (some ⟨g, 0, none⟩) n c) l.length (rxCells l)) (hi : i ≤ l.length) : w.ownsRow B 42 2 (.slice (some ⟨g, 0, none⟩) i c) (l.take i).length (rxCells (l.take i)) := by
  obtain ⟨hl, ⟨h, h0⟩ | ⟨g', cap', cur, hv, hb, hg, h1, h2, h3, h4⟩⟩ := h
  · cases h
  · simp only [Value.slice.injEq, Option.some.injEq, Addr.mk.injEq, and_true] at hv
    obtain ⟨rfl, rfl, rfl⟩ := hv
    have e : (l.take i).length = i := by rw [List.length_take]; omega
    refine ⟨by rw [rxCells_length], .inr ⟨g, c, cur, by rw [e], hb, hg, by rw [e]; omega, h2, h3, ?_⟩⟩
    rw [e, rxCells_take, ← h4, List.take_take, Nat.min_eq_left (by omega)]
theorem made_nil (n : Nat) : (madeCells #[.int .i64 0, .slice none 0 0] (n * 2)).toList = rxCells (List.replicate n nilRX) := by
  apply List.ext_getElem?
  intro t
  by_cases ht : t < n * 2
  · have h1 : (madeCells #[.int .i64 0, .slice none 0 0] (n * 2)).toList[t]? = some (#[Value.int .i64 0, .slice none 0 0][t % 2]!) := by
      simp [madeCells, ht]
    rw [h1]
    have hi : t / 2 < (List.replicate n nilRX).length := by rw [List.length_replicate]; omega
    obtain ⟨q1, q2⟩ := rxCells_at (List.replicate n nilRX) (t / 2) hi
    rw [List.getElem_replicate] at q1 q2
    rcases (by omega : t % 2 = 0 ∨ t % 2 = 1) with h | h
    · rw [h]
      have e : t = t / 2 * 2 := by omega
      rw [show (rxCells (List.replicate n nilRX))[t]? = (rxCells (List.replicate n nilRX))[t / 2 * 2]? by rw [← e], q1]
      rfl
    · rw [h]
      have e : t = t / 2 * 2 + 1 := by omega
      rw [show (rxCells (List.replicate n nilRX))[t]? = (rxCells (List.replicate n nilRX))[t / 2 * 2 + 1]? by rw [← e], q2]
      rfl
  · rw [List.getElem?_eq_none (by simp [madeCells]; omega), List.getElem?_eq_none (by rw [rxCells_length, List.length_replicate]; omega)]
theorem valCells_set : ∀ (l : List Val) (i : Nat) (x : Val), i < l.length → (((valCells l).set (i * 3) (.int .i64 x.k)).set (i * 3 + 1) (.int .i64 x.n)).set (i * 3 + 2) (.string x.t) = valCells (l.set i x)
  | y :: l, 0, x, _ => rfl
  | y :: l, i + 1, x, h => by
    have ih := valCells_set l i x (by simpa using h)
    have e : valCells (y :: l) = .int .i64 y.k :: .int .i64 y.n :: .string y.t :: valCells l := rfl
    have e2 : valCells ((y :: l).set (i + 1) x) = .int .i64 y.k :: .int .i64 y.n :: .string y.t :: valCells (l.set i x) := rfl
    rw [e, e2, show (i + 1) * 3 = i * 3 + 1 + 1 + 1 by omega, ← ih]
    rfl
theorem own_val_put {B n cap g i : Nat} {e : TypeId} {w : World} {C : List Val} (h : w.ownsRow B e 3 (.slice (some ⟨g, 0, none⟩) n cap) n (valCells C)) (hi : i < C.length) (x : Val) :
    (((w.setCell ⟨g, i * 3, none⟩ (.int .i64 x.k)).setCell ⟨g, i * 3 + 1, none⟩ (.int .i64 x.n)).setCell ⟨g, i * 3 + 2, none⟩ (.string x.t)).ownsRow B e 3 (.slice (some ⟨g, 0, none⟩) n cap) n (valCells (C.set i x)) := by
  have := owns_put (i := i * 3 + 2) (owns_put (i := i * 3 + 1) (owns_put (i := i * 3) h (.int .i64 x.k)) (.int .i64 x.n)) (.string x.t)
  rwa [valCells_set C i x hi] at this
theorem own_cell {B s n cap g : Nat} {e : TypeId} {w : World} {xs : List Value} (h : w.ownsRow B e s (.slice (some ⟨g, 0, none⟩) n cap) n xs) {j : Nat} {u : Value} (hu : xs[j]? = some u) : w.cell? ⟨g, j, none⟩ = some u ∧ w.frozen? ⟨g, j, none⟩ = false := by
  obtain ⟨hl, ⟨h, h0⟩ | ⟨g', cap', cur, hv, hb, hg, h1, h2, h3, h4⟩⟩ := h
  · cases h
  · simp only [Value.slice.injEq, Option.some.injEq, Addr.mk.injEq, and_true, true_and] at hv
    obtain ⟨rfl, rfl⟩ := hv
    refine ⟨cell_obj hg ?_, free_obj hg⟩
    rw [← h4, List.getElem?_take] at hu
    split at hu
    · simpa using hu
    · cases hu
theorem MarkAt.keep {S : Nat → Prop} {w w' : World} {x : RX} {j : Nat} (h : MarkAt w x j) (k : Keeps S w w') (hs : ∀ b, x.v.ownBlock = some b → S b) : MarkAt w' x j := fun q hq =>
  let ⟨g, c, e, h1⟩ := h q hq; ⟨g, c, e, k.cell (hs g (by rw [e]; rfl)) h1⟩
/-- the marks of a row, read off what its slice, or one that goes on behind it, holds. -/
theorem mark_of {w : World} {B n cap g : Nat} {e : TypeId} {x : RX} {j c : Nat} {C E : List Val} (hx : x.v = .slice (some ⟨g, 0, none⟩) x.row.vals.length c) (h : w.ownsRow B e 3 (.slice (some ⟨g, 0, none⟩) n cap) n (valCells (C ++ E))) (hl : C.length = x.row.vals.length) (hC : ∀ y ∈ C, y.n = j) : MarkAt w x j := by
  intro q hq
  refine ⟨g, c, hx, (own_cell h ?_).1⟩
  have hql : q < (C ++ E).length := by rw [List.length_append]; omega
  have hqC : q < C.length := by omega
  obtain ⟨_, h2, _⟩ := valCells_get (C ++ E) q hql
  rw [h2, List.getElem_append_left hqC, hC _ (List.getElem_mem hqC)]
theorem own_some {w : World} {B n c : Nat} {e : TypeId} {a : Option Addr} {C : List Val} (h : w.ownsRow B e 3 (.slice a n c) n (valCells C)) (hC : 0 < C.length) : ∃ g, a = some ⟨g, 0, none⟩ := by
  obtain ⟨hl, ⟨h, h0⟩ | ⟨g, cap', cur, hv, _⟩⟩ := h
  · rw [valCells_length] at hl; omega
  · simp only [Value.slice.injEq] at hv
    exact ⟨g, hv.1⟩
theorem valCells_app (a b : List Val) : valCells (a ++ b) = valCells a ++ valCells b := by simp [valCells]
end Go.Proofs.Ythfgjmdmcoogpaa
