/-
  PROVED HERE: a slice of windows of one's own: what it holds, when it is written. No program of its own.
-/
import Derived.Test.YthfgjmdmcoogpaaWinInfo
namespace Go.Proofs.Ythfgjmdmcoogpaa
set_option linter.unusedSimpArgs false
set_option linter.unusedVariables false
open Go.RowKit

theorem ownb {w : World} {B s n : Nat} {e : TypeId} {v : Value} {xs : List Value} (h : w.ownsRow B e s v n xs) : ∀ g, v.ownBlock = some g → B ≤ g ∧ g < w.heap.size := by
  intro g hg
  rcases h.2 with ⟨rfl, _⟩ | ⟨g', cap, cur, rfl, hb, hh, _⟩
  · cases hg
  · simp only [Value.ownBlock, Option.some.injEq] at hg
    subst hg
    exact ⟨hb, (Array.getElem?_eq_some_iff.1 hh).1⟩
theorem owns_put {w : World} {B s : Nat} {e : TypeId} {n cap g i : Nat} {xs : List Value} (h : w.ownsRow B e s (.slice (some ⟨g, 0, none⟩) n cap) n xs) (u : Value) :
    (w.setCell ⟨g, i, none⟩ u).ownsRow B e s (.slice (some ⟨g, 0, none⟩) n cap) n (xs.set i u) := by
  obtain ⟨hl, h⟩ := h
  refine ⟨by simpa using hl, .inr ?_⟩
  rcases h with ⟨h, _⟩ | ⟨g', cap', cur, hv, hb, hg, h1, h2, h3, h4⟩
  · cases h
  · simp only [Value.slice.injEq, Option.some.injEq, Addr.mk.injEq, and_true, true_and] at hv
    obtain ⟨rfl, rfl⟩ := hv
    refine ⟨g, cap, cur.setIfInBounds i u, rfl, hb, obj_setCell (i := i) hg u, h1, h2, by simpa using h3, ?_⟩
    rw [Array.toList_setIfInBounds, List.take_set, h4]
theorem owns_at {w w' : World} {B s n : Nat} {e : TypeId} {v : Value} {xs : List Value} (h : w.ownsRow B e s v n xs) (k : Later w w') : w'.ownsRow B e s v n xs :=
  ⟨h.1, h.2.imp id fun ⟨g, cp, cur, a1, a2, a3, a4⟩ => ⟨g, cp, cur, a1, a2, k.obj a3, a4⟩⟩
theorem owns_keep {S : Nat → Prop} {w w' : World} {B s n : Nat} {e : TypeId} {v : Value} {xs : List Value} (h : w.ownsRow B e s v n xs) (k : Keeps S w w') (hs : ∀ g, v.ownBlock = some g → S g) : w'.ownsRow B e s v n xs :=
  ⟨h.1, h.2.imp id fun ⟨g, cp, cur, a1, a2, a3, a4⟩ => ⟨g, cp, cur, a1, a2, k.obj (hs g (by rw [a1]; rfl)) a3, a4⟩⟩
theorem winCells_cons (x : Win) (l : List Win) : winCells (x :: l) = .int .i64 x.1 :: .int .i64 x.2 :: winCells l := rfl
theorem winCells_app (a b : List Win) : winCells (a ++ b) = winCells a ++ winCells b := by simp [winCells]
theorem winCells_set : ∀ (l : List Win) (i : Nat) (x : Win), i < l.length → ((winCells l).set (i * 2) (.int .i64 x.1)).set (i * 2 + 1) (.int .i64 x.2) = winCells (l.set i x)
  | y :: l, 0, x, _ => by rw [winCells_cons]; rfl
  | y :: l, i + 1, x, h => by
    have ih := winCells_set l i x (by simpa using h)
    rw [winCells_cons, show (i + 1) * 2 = i * 2 + 1 + 1 by omega, List.set_cons_succ, List.set_cons_succ, List.set_cons_succ, List.set_cons_succ, ih]
    rfl
theorem winCells_set0 : ∀ (l : List Win) (i : Nat) (a : Int) (h : i < l.length), (winCells l).set (i * 2) (.int .i64 a) = winCells (l.set i (a, l[i].2))
  | y :: l, 0, a, _ => by rw [winCells_cons]; rfl
  | y :: l, i + 1, a, h => by
    have ih := winCells_set0 l i a (by simpa using h)
    rw [winCells_cons, show (i + 1) * 2 = i * 2 + 1 + 1 by omega, List.set_cons_succ, List.set_cons_succ, ih]
    rfl
theorem winCells_set1 : ∀ (l : List Win) (i : Nat) (b : Int) (h : i < l.length), (winCells l).set (i * 2 + 1) (.int .i64 b) = winCells (l.set i (l[i].1, b))
  | y :: l, 0, a, _ => by rw [winCells_cons]; rfl
  | y :: l, i + 1, a, h => by
    have ih := winCells_set1 l i a (by simpa using h)
    rw [winCells_cons, show (i + 1) * 2 + 1 = i * 2 + 1 + 1 + 1 by omega, List.set_cons_succ, List.set_cons_succ, ih]
    rfl
abbrev OwnW (B : Nat) (w : World) (v : Value) (l : List Win) : Prop := w.ownsRow B 24 2 v l.length (winCells l)
theorem OwnW.nil (B : Nat) (w : World) : OwnW B w (.slice none 0 0) [] := ⟨rfl, .inl ⟨rfl, rfl⟩⟩
/-- a place of a slice of one's own: its block, its cells. -/
theorem OwnW.cells {B n c : Nat} {w : World} {a : Option Addr} {l : List Win} (h : OwnW B w (.slice a n c) l) {i : Nat} (hi : i < l.length) :
    ∃ g, a = some ⟨g, 0, none⟩ ∧ B ≤ g ∧ w.cell? ⟨g, i * 2, none⟩ = some (.int .i64 l[i].1) ∧ w.cell? ⟨g, i * 2 + 1, none⟩ = some (.int .i64 l[i].2) ∧ ∀ j, w.frozen? ⟨g, j, none⟩ = false := by
  obtain ⟨hl, h⟩ := h
  rcases h with ⟨h, h0⟩ | ⟨g, cap', cur, hv, hb, hg, h1, h2, h3, h4⟩
  · omega
  · simp only [Value.slice.injEq] at hv
    obtain ⟨rfl, rfl, rfl⟩ := hv
    have cell : ∀ j u, (winCells l)[j]? = some u → w.cell? ⟨g, j, none⟩ = some u := fun j u hu => by
      refine cell_obj hg ?_
      rw [← h4, List.getElem?_take] at hu
      split at hu
      · simpa using hu
      · cases hu
    obtain ⟨q1, q2⟩ := winCells_at l i hi
    exact ⟨g, rfl, hb, cell _ _ q1, cell _ _ q2, fun j => free_obj hg⟩
theorem OwnW.set {B n c g i : Nat} {w : World} {l : List Win} (h : OwnW B w (.slice (some ⟨g, 0, none⟩) n c) l) (hn : n = l.length) (hi : i < l.length) (x : Win) :
    OwnW B ((w.setCell ⟨g, i * 2, none⟩ (.int .i64 x.1)).setCell ⟨g, i * 2 + 1, none⟩ (.int .i64 x.2)) (.slice (some ⟨g, 0, none⟩) n c) (l.set i x) := by
  subst hn
  have := owns_put (i := i * 2 + 1) (owns_put (i := i * 2) h (.int .i64 x.1)) (.int .i64 x.2)
  rw [winCells_set l i x hi] at this
  unfold OwnW
  rwa [List.length_set]
theorem OwnW.set0 {B n c g i : Nat} {w : World} {l : List Win} (h : OwnW B w (.slice (some ⟨g, 0, none⟩) n c) l) (hn : n = l.length) (hi : i < l.length) (a : Int) :
    OwnW B (w.setCell ⟨g, i * 2, none⟩ (.int .i64 a)) (.slice (some ⟨g, 0, none⟩) n c) (l.set i (a, l[i].2)) := by
  subst hn
  have := owns_put (i := i * 2) h (.int .i64 a)
  rw [winCells_set0 l i a hi] at this
  unfold OwnW
  rwa [List.length_set]
theorem OwnW.set1 {B n c g i : Nat} {w : World} {l : List Win} (h : OwnW B w (.slice (some ⟨g, 0, none⟩) n c) l) (hn : n = l.length) (hi : i < l.length) (b : Int) :
    OwnW B (w.setCell ⟨g, i * 2 + 1, none⟩ (.int .i64 b)) (.slice (some ⟨g, 0, none⟩) n c) (l.set i (l[i].1, b)) := by
  subst hn
  have := owns_put (i := i * 2 + 1) h (.int .i64 b)
  rw [winCells_set1 l i b hi] at this
  unfold OwnW
  rwa [List.length_set]
theorem OwnW.len {B n c : Nat} {w : World} {a : Option Addr} {l : List Win} (h : OwnW B w (.slice a n c) l) : n = l.length ∧ n ≤ c ∧ c ≤ maxLen ∧ (a = none → n = 0 ∧ c = 0) := by
  obtain ⟨hl, ⟨h, h0⟩ | ⟨g, cap', cur, hv, hb, hg, h1, h2, h3, h4⟩⟩ := h
  · simp only [Value.slice.injEq] at h
    obtain ⟨rfl, rfl, rfl⟩ := h
    exact ⟨h0.symm, Nat.le_refl _, by unfold maxLen; omega, fun _ => ⟨rfl, rfl⟩⟩
  · simp only [Value.slice.injEq] at hv
    obtain ⟨rfl, rfl, rfl⟩ := hv
    exact ⟨rfl, h1, h2, fun h => (by cases h)⟩
theorem OwnW.free {B n c g : Nat} {w : World} {l : List Win} (h : OwnW B w (.slice (some ⟨g, 0, none⟩) n c) l) (o : Nat) : w.frozen? ⟨g, o, none⟩ = false := by
  obtain ⟨hl, ⟨h, h0⟩ | ⟨g', cap', cur, hv, hb, hg, h1, h2, h3, h4⟩⟩ := h
  · cases h
  · simp only [Value.slice.injEq, Option.some.injEq, Addr.mk.injEq, and_true] at hv
    obtain ⟨rfl, rfl, rfl⟩ := hv
    exact free_obj hg
theorem OwnW.slice {B : Nat} {w : World} {v : Value} {l : List Win} (h : OwnW B w v l) : ∃ a c, v = .slice a l.length c := by
  rcases h.2 with ⟨rfl, h0⟩ | ⟨g, cap, cur, rfl, _⟩
  · exact ⟨none, 0, by rw [h0]⟩
  · exact ⟨_, _, rfl⟩
theorem winCells_take (l : List Win) (k : Nat) : winCells (l.take k) = (winCells l).take (k * 2) := by
  induction l generalizing k with
  | nil => simp [winCells]
  | cons x l ih =>
    cases k with
    | zero => simp [winCells]
    | succ k => rw [List.take_succ_cons, winCells_cons, winCells_cons, ih, show (k + 1) * 2 = k * 2 + 1 + 1 by omega, List.take_succ_cons, List.take_succ_cons]
theorem winCells_drop (l : List Win) (k : Nat) : winCells (l.drop k) = (winCells l).drop (k * 2) := by
  induction l generalizing k with
  | nil => simp [winCells]
  | cons x l ih =>
    cases k with
    | zero => simp
    | succ k => rw [List.drop_succ_cons, winCells_cons, ih, show (k + 1) * 2 = k * 2 + 1 + 1 by omega, List.drop_succ_cons, List.drop_succ_cons]
theorem OwnW.news {B n c g : Nat} {w : World} {l : List Win} (h : OwnW B w (.slice (some ⟨g, 0, none⟩) n c) l) : ∀ j u, (winCells l)[j]? = some u → w.cell? ⟨g, j, none⟩ = some u := by
  intro j u hu
  obtain ⟨hl, ⟨h, h0⟩ | ⟨g', cap', cur, hv, hb, hg, h1, h2, h3, h4⟩⟩ := h
  · cases h
  · simp only [Value.slice.injEq, Option.some.injEq, Addr.mk.injEq, and_true] at hv
    obtain ⟨rfl, rfl, rfl⟩ := hv
    refine cell_obj hg ?_
    rw [← h4, List.getElem?_take] at hu
    split at hu
    · simpa using hu
    · cases hu
theorem news_take {w : World} {g : Nat} {l : List Win} (h : ∀ j u, (winCells l)[j]? = some u → w.cell? ⟨g, j, none⟩ = some u) (k : Nat) : ∀ j u, (winCells (l.take k))[j]? = some u → w.cell? ⟨g, 0 + j, none⟩ = some u := by
  intro j u hu
  rw [winCells_take, List.getElem?_take] at hu
  rw [Nat.zero_add]
  split at hu
  · exact h j u hu
  · cases hu
theorem news_drop {w : World} {g : Nat} {l : List Win} (h : ∀ j u, (winCells l)[j]? = some u → w.cell? ⟨g, j, none⟩ = some u) (k : Nat) : ∀ j u, (winCells (l.drop k))[j]? = some u → w.cell? ⟨g, k * 2 + j, none⟩ = some u := by
  intro j u hu
  rw [winCells_drop, List.getElem?_drop] at hu
  exact h _ u hu
theorem win_ones (l : List Win) : ∀ u ∈ winCells l, u.oneCell' = true := by
  intro u hu
  simp only [winCells, List.mem_flatMap, List.mem_cons, List.not_mem_nil, or_false] at hu
  obtain ⟨x, _, rfl | rfl⟩ := hu <;> rfl
theorem wpList_append_win {P : Program} {w : World} {ops : Array Oper} {rest : List Oper} {o : Oper} {a : Act} {Q : Exit → Act → World → Prop} (hgd : o.guard = none) (s x : Operand) (t : TypeId)
    (ho : o.op = .call { callee := .builtin .append, args := #[s, x], argTypes := #[t, t] })
    (e : TypeId) (ht : P.underlying t = some (.slice e)) (hI : ElemInfo P e 2 16)
    {base : Nat} {v : Value} (l : List Win) (hs : a.eval s = v) (hown : w.ownsRow base e 2 v l.length (winCells l))
    {g off m c : Nat} (N : List Win) (hx : a.eval x = .slice (some ⟨g, off, none⟩) m c) (hm : m = N.length) (hsrc : ∀ j u, (winCells N)[j]? = some u → w.cell? ⟨g, off + j, none⟩ = some u)
    (hb : (l.length + N.length) * 16 ≤ 140737488355328) (hbase : base ≤ w.heap.size)
    (h : ∀ v' w', Appended w base e 2 v (l ++ N).length (winCells (l ++ N)) v' w' → wpList P ops Q rest (a.put o.dst v') w') : wpList P ops Q (o :: rest) a w := by
  obtain ⟨i, z, hi, hz, h3, h4, h5, h6⟩ := hI.ex
  subst hm
  refine wpList_append w hgd s x t ho base e i z 2 16 ht hi hz h3 h4 h5 h6 v l.length (winCells l) hs hown ⟨g, off, none⟩ N.length c (winCells N) hx (by rw [winCells_length]) ?_ (win_ones N) (by unfold maxLen; omega) hb hbase (fun v' w' hA => h v' w' (by rw [List.length_append, winCells_app]; exact hA))
  intro j u hu
  rw [add_none rfl]
  exact hsrc j u hu
end Go.Proofs.Ythfgjmdmcoogpaa
