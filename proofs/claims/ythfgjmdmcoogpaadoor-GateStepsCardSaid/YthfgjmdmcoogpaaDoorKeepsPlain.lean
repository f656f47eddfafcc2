/-
  PROVED HERE: what the law of the gate keeps from round to round, in plain Lean. No program of its own.
-/
import Derived.Test.YthfgjmdmcoogpaaDoorGateTake
import Derived.Test.YthfgjmdmcoogpaaDoorOpenIn
namespace Go.Proofs.YthfgjmdmcoogpaaDoor
open Go.RowKit

theorem foldl_min_le : ∀ (ls : List (Int × Bool)) (a : Int), ls.foldl (fun a x => min a x.1) a ≤ a ∧ ∀ l ∈ ls, ls.foldl (fun a x => min a x.1) a ≤ l.1
  | [], a => ⟨Int.le_refl _, fun l h => by cases h⟩
  | x :: ls, a => by
    obtain ⟨h1, h2⟩ := foldl_min_le ls (min a x.1)
    simp only [List.foldl_cons]
    refine ⟨by omega, fun l hl => ?_⟩
    rcases List.mem_cons.1 hl with rfl | hl
    · omega
    · exact h2 l hl
theorem foldl_min_ge : ∀ (ls : List (Int × Bool)) (a b : Int), b ≤ a → (∀ l ∈ ls, b ≤ l.1) → b ≤ ls.foldl (fun a x => min a x.1) a
  | [], a, b, h, _ => h
  | x :: ls, a, b, h, h' => by
    simp only [List.foldl_cons]
    exact foldl_min_ge ls _ b (by have := h' x List.mem_cons_self; omega) fun l hl => h' l (List.mem_cons_of_mem _ hl)
theorem leastT_le {ls : List (Int × Bool)} {l : Int × Bool} (h : l ∈ ls) : leastT ls ≤ l.1 := by
  cases ls with
  | nil => cases h
  | cons x ls =>
    obtain ⟨h1, h2⟩ := foldl_min_le ls x.1
    unfold leastT
    rcases List.mem_cons.1 h with rfl | h
    · exact h1
    · exact h2 l h
theorem leastT_ge {ls : List (Int × Bool)} {b : Int} (h0 : ls ≠ []) (h : ∀ l ∈ ls, b ≤ l.1) : b ≤ leastT ls := by
  cases ls with
  | nil => cases h0 rfl
  | cons x ls => exact foldl_min_ge ls x.1 b (h x List.mem_cons_self) fun l hl => h l (List.mem_cons_of_mem _ hl)
theorem leastT_fst {ls ms : List (Int × Bool)} (h : ls.map (·.1) = ms.map (·.1)) : leastT ls = leastT ms := by
  have e : ∀ (ls : List (Int × Bool)) (a : Int), ls.foldl (fun a x => min a x.1) a = (ls.map (·.1)).foldl min a := fun ls a => by rw [List.foldl_map]
  cases ls with
  | nil => cases ms with
    | nil => rfl
    | cons => simp at h
  | cons x ls => cases ms with
    | nil => simp at h
    | cons y ms =>
      simp only [List.map_cons, List.cons.injEq] at h
      show ls.foldl (fun a x => min a x.1) x.1 = ms.foldl (fun a x => min a x.1) y.1
      rw [e, e, h.1, h.2]
theorem leastT_raise {ls : List (Int × Bool)} {n : Nat} (h : n < ls.length) {t : Int} {b : Bool} (ht : ls[n].1 ≤ t) : leastT ls ≤ leastT (ls.set n (t, b)) := by
  refine leastT_ge (by intro e; have := congrArg List.length e; simp at this; simp [this] at h) fun l hl => ?_
  rcases List.mem_or_eq_of_mem_set hl with hl | rfl
  · exact leastT_le hl
  · exact Int.le_trans (leastT_le (List.getElem_mem h)) ht

/-- what holds of a gate when the law looks at it. -/
structure GInv (c : Nat) (g : Gt) (last : Int) : Prop where
  len : g.lanes.length = c
  one : 1 ≤ c
  most : c ≤ 64
  times : TimesOk g.lanes
  time : g.time = leastT g.lanes
  mark : g.mark = 0 ∨ g.mark = last + 1
  last : 0 ≤ last
theorem GInv.ok {c : Nat} {g : Gt} {last : Int} (h : GInv c g last) : GtOk g := ⟨by rw [h.len]; exact h.one, by rw [h.len]; exact h.most, h.times⟩
theorem GInv.start {c : Nat} (h1 : 1 ≤ c) (h2 : c ≤ 64) : GInv c ⟨List.replicate c (-1, false), -1, 0⟩ 0 :=
  ⟨by simp, h1, h2, fun l hl => by rw [List.eq_of_mem_replicate hl]; simp, by
    have a := leastT_ge (b := -1) (ls := List.replicate c ((-1 : Int), false)) (by intro e; have := congrArg List.length e; simp at this; omega) (fun l hl => by rw [List.eq_of_mem_replicate hl]; simp)
    have b := leastT_le (ls := List.replicate c ((-1 : Int), false)) (l := (-1, false)) (by rw [List.mem_replicate]; exact ⟨by omega, rfl⟩)
    simp only at b ⊢
    omega, .inl rfl, by omega⟩
theorem openG_nat {g : Gt} {n : Nat} (h : n < g.lanes.length) : openG g n = !g.lanes[n].2 := by simp [openG, List.getElem?_eq_getElem h]

section
variable {c : Nat} {g : Gt} {last : Int} {n : Nat} {e : Elem}
theorem keep_shut (hn : n < g.lanes.length) (hm : g.lanes[n].2 = true) : takeG g n e = (g, 6, []) := by simp [takeG, openG_nat hn, hm]
theorem keep_row (hn : n < g.lanes.length) (hm : g.lanes[n].2 = false) (hk : e.kind = 1) : takeG g n e = (g, 0, [⟨1, e.row, 0, 0⟩]) := by simp [takeG, openG_nat hn, hm, hk]
theorem keep_odd (hn : n < g.lanes.length) (hm : g.lanes[n].2 = false) (h1 : e.kind ≠ 1) (h2 : e.kind ≠ 2) (h3 : e.kind ≠ 3) : takeG g n e = (g, 4, []) := by simp [takeG, openG_nat hn, hm, h1, h2, h3]
theorem keep_late (hn : n < g.lanes.length) (hm : g.lanes[n].2 = false) (h2 : e.kind = 2) (h : e.time ≤ g.lanes[n].1 ∨ 1099511627777 < e.time) : takeG g n e = (g, 4, []) := by
  simp [takeG, openG_nat hn, hm, h2, List.getElem?_eq_getElem hn, h]
/-- a time that is taken: the channel's time is set; a later time is told, if there is one. -/
theorem keep_time (hI : GInv c g last) (hn : n < g.lanes.length) (hm : g.lanes[n].2 = false) (h2 : e.kind = 2) (h : ¬ (e.time ≤ g.lanes[n].1 ∨ 1099511627777 < e.time)) :
    ∃ t, GInv c ⟨g.lanes.set n (e.time, false), t, g.mark⟩ last ∧ ((t = g.time ∧ takeG g n e = (⟨g.lanes.set n (e.time, false), t, g.mark⟩, 0, [])) ∨
      (g.time < t ∧ takeG g n e = (⟨g.lanes.set n (e.time, false), t, g.mark⟩, 0, [⟨2, ⟨0, []⟩, t, 0⟩]))) := by
  have hr := leastT_raise hn (t := e.time) (b := false) (by omega)
  have hT : TimesOk (g.lanes.set n (e.time, false)) := fun l hl => by
    rcases List.mem_or_eq_of_mem_set hl with hl | rfl
    · exact hI.times l hl
    · have := hI.times _ (List.getElem_mem hn); exact ⟨by simp only; omega, by simp only; omega⟩
  have ht := hI.time
  have key : takeG g n e = if g.time < leastT (g.lanes.set n (e.time, false)) then (⟨g.lanes.set n (e.time, false), leastT (g.lanes.set n (e.time, false)), g.mark⟩, 0, [⟨2, ⟨0, []⟩, leastT (g.lanes.set n (e.time, false)), 0⟩]) else (⟨g.lanes.set n (e.time, false), g.time, g.mark⟩, 0, []) := by
    simp [takeG, openG_nat hn, hm, h2, List.getElem?_eq_getElem hn, h]
  rw [key]
  by_cases hlt : g.time < leastT (g.lanes.set n (e.time, false))
  · rw [if_pos hlt]
    exact ⟨_, ⟨by simpa using hI.len, hI.one, hI.most, hT, rfl, hI.mark, hI.last⟩, .inr ⟨hlt, rfl⟩⟩
  · rw [if_neg hlt]
    exact ⟨_, ⟨by simpa using hI.len, hI.one, hI.most, hT, Int.le_antisymm (by rw [ht]; exact hr) (Int.not_lt.1 hlt), hI.mark, hI.last⟩, .inl ⟨rfl, rfl⟩⟩
/-- a mark that is not the last channel's. -/
theorem keep_mark (hI : GInv c g last) (hn : n < g.lanes.length) (hm : g.lanes[n].2 = false) (h3 : e.kind = 3) (he : e.mark = last + 1) :
    ∃ g' es, takeG g n e = (g', 0, es) ∧ g'.time = g.time ∧ g'.lanes.map (·.1) = g.lanes.map (·.1) ∧
      (((g.lanes.map (·.2)).set n true).all id = false ∧ es = [] ∧ g'.lanes.map (·.2) = (g.lanes.map (·.2)).set n true ∧ GInv c g' last ∨
       ((g.lanes.map (·.2)).set n true).all id = true ∧ es = [⟨3, ⟨0, []⟩, 0, last + 1⟩] ∧ g'.lanes.map (·.2) = List.replicate c false ∧ GInv c g' (last + 1)) := by
  have hl0 := hI.last
  have hmk : ¬ (e.mark < 1 ∨ (g.mark ≠ 0 ∧ e.mark ≠ g.mark)) := by
    have := hI.mark; omega
  have hset : (g.lanes.set n (g.lanes[n].1, true)).map (·.1) = g.lanes.map (·.1) := by
    rw [List.map_set]
    simp only
    rw [show g.lanes[n].1 = (g.lanes.map (·.1))[n]'(by simpa using hn) by simp, List.set_getElem_self]
  have hset2 : (g.lanes.set n (g.lanes[n].1, true)).map (·.2) = (g.lanes.map (·.2)).set n true := by rw [List.map_set]
  have hany : (g.lanes.set n (g.lanes[n].1, true)).any (fun l => !l.2) = !((g.lanes.map (·.2)).set n true).all id := by
    rw [← hset2, List.all_map, List.not_all_eq_any_not]
    rfl
  have hT : TimesOk (g.lanes.set n (g.lanes[n].1, true)) := fun l hl => by
    rcases List.mem_or_eq_of_mem_set hl with hl | rfl
    · exact hI.times l hl
    · have := hI.times _ (List.getElem_mem hn); exact this
  have key : takeG g n e = if (g.lanes.set n (g.lanes[n].1, true)).any (fun l => !l.2) then ({ g with lanes := g.lanes.set n (g.lanes[n].1, true), mark := e.mark }, 0, [])
      else ({ lanes := (g.lanes.set n (g.lanes[n].1, true)).map (fun l => (l.1, false)), time := g.time, mark := 0 }, 0, [⟨3, ⟨0, []⟩, 0, e.mark⟩]) := by
    simp only [takeG, openG_nat hn, hm, h3, List.getElem?_eq_getElem hn, Int.toNat_natCast, Bool.not_false, if_true, if_neg hmk]
    simp
  rw [key, hany]
  cases hall : ((g.lanes.map (·.2)).set n true).all id with
  | false =>
    rw [if_pos (by rfl)]
    refine ⟨_, _, rfl, rfl, hset, .inl ⟨rfl, rfl, hset2, ⟨by simpa using hI.len, hI.one, hI.most, hT, ?_, .inr he, hl0⟩⟩⟩
    exact hI.time.trans (leastT_fst hset).symm
  | true =>
    rw [if_neg (by simp), he]
    refine ⟨_, _, rfl, rfl, ?_, .inr ⟨rfl, rfl, ?_, ⟨by simpa using hI.len, hI.one, hI.most, ?_, ?_, .inl rfl, by omega⟩⟩⟩
    · simp only [List.map_map]; exact hset
    · simp only [List.map_map]
      rw [← hI.len]
      refine List.ext_getElem (by simp) fun i h1 h2 => by rw [List.getElem_map, List.getElem_replicate]; rfl
    · intro l hl
      obtain ⟨x, hx, rfl⟩ := List.mem_map.1 hl
      exact hT x hx
    · exact hI.time.trans (leastT_fst (by simp only [List.map_map]; exact hset.symm))
/-- what a time comes to. -/
theorem keep_when (hI : GInv c g last) (hn : n < g.lanes.length) (hm : g.lanes[n].2 = false) (h2 : e.kind = 2) :
    ∃ g' cd es, takeG g n e = (g', cd, es) ∧ GInv c g' last ∧ g'.lanes.map (·.2) = g.lanes.map (·.2) ∧
      (cd = 0 ∧ g'.lanes.map (·.1) = (g.lanes.map (·.1)).set n e.time ∨ cd = 4 ∧ g'.lanes.map (·.1) = g.lanes.map (·.1)) ∧
      (es = [] ∧ g'.time = g.time ∨ es = [⟨2, ⟨0, []⟩, g'.time, 0⟩] ∧ g.time < g'.time) := by
  by_cases h : e.time ≤ g.lanes[n].1 ∨ 1099511627777 < e.time
  · exact ⟨_, _, _, keep_late hn hm h2 h, hI, rfl, .inr ⟨rfl, rfl⟩, .inl ⟨rfl, rfl⟩⟩
  · obtain ⟨t, hI', hc⟩ := keep_time hI hn hm h2 h
    have e1 : (g.lanes.set n (e.time, false)).map (·.1) = (g.lanes.map (·.1)).set n e.time := by rw [List.map_set]
    have e2 : (g.lanes.set n (e.time, false)).map (·.2) = g.lanes.map (·.2) := by
      rw [List.map_set]
      simp only
      rw [← hm, show g.lanes[n].2 = (g.lanes.map (·.2))[n]'(by simpa using hn) by simp, List.set_getElem_self]
    rcases hc with ⟨ht, hc⟩ | ⟨ht, hc⟩
    · exact ⟨_, _, _, hc, hI', e2, .inl ⟨rfl, e1⟩, .inl ⟨rfl, ht⟩⟩
    · exact ⟨_, _, _, hc, hI', e2, .inl ⟨rfl, e1⟩, .inr ⟨rfl, ht⟩⟩
theorem keep_told (hI : GInv c g last) (hn : n < g.lanes.length) : g.time ≤ g.lanes[n].1 := by rw [hI.time]; exact leastT_le (List.getElem_mem hn)
end

/-- a block of numbers, of truths. -/
def intCells (l : List Int) : Array Value := (l.map (Value.int .i64)).toArray
def boolCells (l : List Bool) : Array Value := (l.map Value.bool).toArray
theorem intCells_set (l : List Int) (n : Nat) (x : Int) : (intCells l).setIfInBounds n (.int .i64 x) = intCells (l.set n x) := by simp [intCells, List.map_set]
theorem boolCells_set (l : List Bool) (n : Nat) (x : Bool) : (boolCells l).setIfInBounds n (.bool x) = boolCells (l.set n x) := by simp [boolCells, List.map_set]
theorem fill_set {n c : Nat} (h : n < c) : (List.replicate n (-1 : Int) ++ List.replicate (c - n) 0).set n (-1) = List.replicate (n + 1) (-1) ++ List.replicate (c - (n + 1)) 0 := by
  rw [List.set_append_right _ _ (by simp), List.length_replicate, Nat.sub_self, show c - n = (c - (n + 1)) + 1 by omega, List.replicate_succ (n := c - (n + 1)), List.set_cons_zero, List.replicate_succ' (n := n), List.append_assoc]
  rfl
theorem intCells_zero (z : List Value) (c : Nat) (h : z = List.replicate c (.int .i64 0)) : z.toArray = intCells (List.replicate c 0) := by simp [h, intCells]
theorem boolCells_zero (z : List Value) (c : Nat) (h : z = List.replicate c (.bool false)) : z.toArray = boolCells (List.replicate c false) := by simp [h, boolCells]
theorem int_cell {w : World} {b n : Nat} {l : List Int} {t : TypeId} {f : Nat × Nat} (h : w.heap[b]? = some (.cells (intCells l) t f)) (hn : n < l.length) : w.cell? ⟨b, n, none⟩ = some (.int .i64 l[n]) :=
  cell_obj h (by simp [intCells, hn])
theorem bool_cell {w : World} {b n : Nat} {l : List Bool} {t : TypeId} {f : Nat × Nat} (h : w.heap[b]? = some (.cells (boolCells l) t f)) (hn : n < l.length) : w.cell? ⟨b, n, none⟩ = some (.bool l[n]) :=
  cell_obj h (by simp [boolCells, hn])
theorem all_snoc {l : List Bool} {m : Nat} (h : m < l.length) : (l.take (m + 1)).all id = ((l.take m).all id && l[m]) := by
  rw [List.take_succ_eq_append_getElem h, List.all_append]
  simp
/-- is a round passed over? -/
def skipB (e : Elem) (sd last : Int) : Bool := (e.kind == 1 && decide (e.row.time < sd)) || (e.kind == 3 && e.mark != last + 1)
/-- what Take comes to, the slice opened. -/
def GotTo (w : World) (G L : Nat) (g : Gt) (ev : Value) (n : Nat) (es : List Elem) (e : Ending) (w' : World) : Prop :=
  ∃ a c, e = .returned (.tuple #[.slice a n c, ev]) ∧ GateAt w' G L g ∧ Elems (fun b => w.heap.size ≤ b) (ElemAt (fun b => w.heap.size ≤ b)) 5 w' a es ∧ Keeps (fun b => b ≠ G ∧ b ≠ L) w w'
theorem TakeTo.got {w w' : World} {G L n : Nat} {g : Gt} {cd : Int} {ev : Value} {es : List Elem} {r : Gt × Int × List Elem} {e : Ending} (h : TakeTo w G L r e w') (hr : r = (g, cd, es)) (hn : es.length = n) (he : errVal cd = ev) : GotTo w G L g ev n es e w' := by
  subst hr hn he
  obtain ⟨sv, rfl, h1, h2, h3⟩ := h
  obtain ⟨a, c, rfl, -, -, -, h4⟩ := h2.elems
  exact ⟨a, c, rfl, h1, h4, h3⟩
theorem elems_kept {S S' : Nat → Prop} {w w' : World} {a : Option Addr} {es : List Elem} (h : Elems S (ElemAt S) 5 w a es) (k : Keeps S' w w') (hs : ∀ b, S b → S' b) : Elems S (ElemAt S) 5 w' a es :=
  fun i hi => let ⟨b, o, ha, hb, c1, c2, ⟨v, c3, hv⟩, c4, c5⟩ := h i hi
    ⟨b, o, ha, hb, k.cell (hs _ hb) c1, k.cell (hs _ hb) c2, ⟨v, k.cell (hs _ hb) c3, hv.vals_kept k hs⟩, k.cell (hs _ hb) c4, k.cell (hs _ hb) c5⟩
end Go.Proofs.YthfgjmdmcoogpaaDoor
