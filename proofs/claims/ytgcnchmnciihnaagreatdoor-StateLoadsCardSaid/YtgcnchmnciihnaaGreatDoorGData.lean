/-
  PROVED HERE: what it is that memory holds a list of values, a list of rows; that it holds them still in every later world. No program of its own.
  PROVED HERE: an append onto a slice of the call's own, with the word of where the slice lies behind it: where it lay, or in a new block. No program of its own.
-/
import Derived.Test.YtgcnchmnciihnaaGreatDoorGLex
import Derived.WalkKit
import Derived.ProofKit
import Derived.Deep.Slices
import Derived.Deep.Fields
import Derived.ChangeSame
import Derived.Lib.Bytealg
import Derived.Deep.Cut
namespace Go.Proofs.YtgcnchmnciihnaaGreatDoor
set_option linter.unusedSimpArgs false
set_option linter.unusedVariables false
open Go Go.RowKit Go.ChangeShapes Go.WideShapes Go.Deep

/-- a value: its kind, its number, its text. -/
structure Val where
  k : Int
  n : Int
  t : ByteArray
abbrev Val.v (x : Val) : Value := .agg #[.int .i64 x.k, .int .i64 x.n, .string x.t]
/-- a row: its time, its values. -/
structure Row where
  time : Int
  vals : List Val

/-- its numbers fit, its text is no longer than a text can be. -/
def ValOk (x : Val) : Prop := (Lit.int .i64 x.k).wf = true ∧ (Lit.int .i64 x.n).wf = true ∧ x.t.size ≤ maxLen
theorem add_none {a : Addr} (h : a.spot = none) (k : Nat) : a.add k = ⟨a.block, a.off + k, none⟩ := by
  cases a; simp only at h; subst h
  unfold Addr.add
  split
  · rename_i hk; simp_all
  · rfl
/-- a later world in which the blocks of 'S' that were there are unchanged. -/
structure Keeps (S : Nat → Prop) (w w' : World) : Prop where
  os : w'.os = w.os
  tape : w'.tape = w.tape
  output : w'.output = w.output
  size : w.heap.size ≤ w'.heap.size
  block : ∀ k, k < w.heap.size → S k → w'.heap[k]? = w.heap[k]?
theorem Keeps.refl (S : Nat → Prop) (w : World) : Keeps S w w := ⟨rfl, rfl, rfl, Nat.le_refl _, fun _ _ _ => rfl⟩
theorem Keeps.trans {S : Nat → Prop} {a b c : World} (h : Keeps S a b) (k : Keeps S b c) : Keeps S a c :=
  ⟨k.os.trans h.os, k.tape.trans h.tape, k.output.trans h.output, Nat.le_trans h.size k.size, fun i hi hs => (k.block i (Nat.lt_of_lt_of_le hi h.size) hs).trans (h.block i hi hs)⟩
theorem Keeps.mono {S S' : Nat → Prop} {w w' : World} (h : Keeps S w w') (hs : ∀ k, k < w.heap.size → S' k → S k) : Keeps S' w w' := ⟨h.os, h.tape, h.output, h.size, fun k hk hk' => h.block k hk (hs k hk hk')⟩
theorem Later.keeps {w w' : World} (h : Later w w') (S : Nat → Prop) : Keeps S w w' := ⟨h.os, h.tape, h.output, h.size, fun k hk _ => h.block k hk⟩
theorem Keeps.later {w w' : World} (h : Keeps (fun _ => True) w w') : Later w w' := ⟨h.os, h.tape, h.output, h.size, fun k hk => h.block k hk trivial⟩
theorem Keeps.cell {S : Nat → Prop} {w w' : World} (h : Keeps S w w') {p : Addr} {v : Value} (hs : S p.block) (hc : w.cell? p = some v) : w'.cell? p = some v := by
  rw [World.cell?_of_block (w := w) (h.block p.block (cell_lt hc) hs)]; exact hc
theorem Keeps.obj {S : Nat → Prop} {w w' : World} (h : Keeps S w w') {b : Nat} {o : Obj} (hs : S b) (hc : w.heap[b]? = some o) : w'.heap[b]? = some o := by
  rw [h.block b (Array.getElem?_eq_some_iff.1 hc).1 hs]; exact hc
theorem Keeps.of_grown {w w' : World} {row : Option Nat} (h : w.grownBy w' row) : Keeps (fun b => some b ≠ row) w w' := ⟨h.os, h.tape, h.output, h.size, h.block⟩
theorem Keeps.setCell {S : Nat → Prop} {a w : World} (h : Keeps S a w) {p : Addr} (hp : ¬ S p.block ∨ a.heap.size ≤ p.block) (u : Value) : Keeps S a (w.setCell p u) :=
  ⟨h.os, h.tape, h.output, by simpa [World.setCell] using h.size, fun k hk hs => (Below.heap_setCell w p u k (by
    rintro rfl
    rcases hp with hp | hp
    · exact hp hs
    · omega)).trans (h.block k hk hs)⟩
theorem Keeps.alloc {S : Nat → Prop} {a w : World} (h : Keeps S a w) (o : Obj) : Keeps S a (w.alloc o) := h.trans ((Later.alloc w o).keeps S)
theorem Keeps.drew {S : Nat → Prop} {a w : World} (h : Keeps S a w) : Keeps S a w.drew := h.trans ((Later.drew w).keeps S)
theorem Keeps.more {S : Nat → Prop} {a w w' : World} (h : Keeps S a w) (k : Later w w') : Keeps S a w' := h.trans (k.keeps S)

/-- at offset 'o' of block 'b' stands the value 'x'. -/
def ValAt (w : World) (b o : Nat) (x : Val) : Prop := w.cell? ⟨b, o, none⟩ = some (.int .i64 x.k) ∧ w.cell? ⟨b, o + 1, none⟩ = some (.int .i64 x.n) ∧ w.cell? ⟨b, o + 2, none⟩ = some (.string x.t)
theorem ValAt.later {w w' : World} {b o : Nat} {x : Val} (h : ValAt w b o x) (k : Later w w') : ValAt w' b o x := ⟨k.cell h.1, k.cell h.2.1, k.cell h.2.2⟩
theorem ValAt.kept {S : Nat → Prop} {w w' : World} {b o : Nat} {x : Val} (h : ValAt w b o x) (hs : S b) (k : Keeps S w w') : ValAt w' b o x := ⟨k.cell hs h.1, k.cell hs h.2.1, k.cell hs h.2.2⟩

/-- the elements of a slice that starts at 'a', each of 'size' cells, in blocks of 'S'. -/
def Elems {α : Type} (S : Nat → Prop) (at_ : World → Nat → Nat → α → Prop) (size : Nat) (w : World) (a : Option Addr) (l : List α) : Prop :=
  ∀ i (h : i < l.length), ∃ b o, a = some ⟨b, o, none⟩ ∧ S b ∧ at_ w b (o + i * size) l[i]
/-- 'v' is a slice whose elements are those of the list. -/
def SliceOf {α : Type} (S : Nat → Prop) (at_ : World → Nat → Nat → α → Prop) (size : Nat) (w : World) (v : Value) (l : List α) : Prop :=
  ∃ a c, v = .slice a l.length c ∧ l.length ≤ c ∧ c ≤ maxLen ∧ (a = none → c = 0) ∧ Elems S at_ size w a l
theorem SliceOf.map {α : Type} {S S' : Nat → Prop} {at_ at' : World → Nat → Nat → α → Prop} {size : Nat} {w w' : World} {v : Value} {l : List α} (h : SliceOf S at_ size w v l)
    (hat : ∀ b o x, S b → at_ w b o x → S' b ∧ at' w' b o x) : SliceOf S' at' size w' v l :=
  let ⟨a, c, hv, hl, hc, hn, he⟩ := h; ⟨a, c, hv, hl, hc, hn, fun i hi => let ⟨b, o, ha, hs, hx⟩ := he i hi; ⟨b, o, ha, hat _ _ _ hs hx⟩⟩
abbrev ValsIn (S : Nat → Prop) (w : World) (v : Value) (l : List Val) : Prop := SliceOf S ValAt 3 w v l
def All (_ : Nat) : Prop := True
abbrev IsVals (w : World) (v : Value) (l : List Val) : Prop := ValsIn All w v l
theorem SliceOf.vals_kept {S S' : Nat → Prop} {w w' : World} {v : Value} {l : List Val} (h : ValsIn S w v l) (k : Keeps S' w w') (hs : ∀ b, S b → S' b) : ValsIn S w' v l := h.map fun _ _ _ hb hx => ⟨hb, hx.kept (hs _ hb) k⟩
theorem SliceOf.vals_mono {S S' : Nat → Prop} {w : World} {v : Value} {l : List Val} (h : ValsIn S w v l) (hs : ∀ b, S b → S' b) : ValsIn S' w v l := h.map fun _ _ _ hb hx => ⟨hs _ hb, hx⟩
theorem SliceOf.later {S : Nat → Prop} {w w' : World} {v : Value} {l : List Val} (h : ValsIn S w v l) (k : Later w w') : ValsIn S w' v l := h.map fun _ _ _ hb hx => ⟨hb, hx.later k⟩
/-- at offset 'o' of block 'b' stands the row 'r'. -/
def RowAt (S : Nat → Prop) (w : World) (b o : Nat) (r : Row) : Prop := w.cell? ⟨b, o, none⟩ = some (.int .i64 r.time) ∧ ∃ v, w.cell? ⟨b, o + 1, none⟩ = some v ∧ ValsIn S w v r.vals
theorem RowAt.later {S : Nat → Prop} {w w' : World} {b o : Nat} {r : Row} (h : RowAt S w b o r) (k : Later w w') : RowAt S w' b o r := let ⟨v, h1, h2⟩ := h.2; ⟨k.cell h.1, v, k.cell h1, h2.later k⟩
theorem RowAt.kept {S S' : Nat → Prop} {w w' : World} {b o : Nat} {r : Row} (h : RowAt S w b o r) (hb : S b) (k : Keeps S' w w') (hs : ∀ b, S b → S' b) : RowAt S w' b o r :=
  let ⟨v, h1, h2⟩ := h.2; ⟨k.cell (hs _ hb) h.1, v, k.cell (hs _ hb) h1, h2.vals_kept k hs⟩
abbrev RowsIn (S : Nat → Prop) (w : World) (v : Value) (l : List Row) : Prop := SliceOf S (RowAt S) 2 w v l
abbrev IsRows (w : World) (v : Value) (l : List Row) : Prop := RowsIn All w v l
theorem SliceOf.rows_later {S : Nat → Prop} {w w' : World} {v : Value} {l : List Row} (h : RowsIn S w v l) (k : Later w w') : RowsIn S w' v l := h.map fun _ _ _ hb hx => ⟨hb, hx.later k⟩
theorem SliceOf.rows_kept {S S' : Nat → Prop} {w w' : World} {v : Value} {l : List Row} (h : RowsIn S w v l) (k : Keeps S' w w') (hs : ∀ b, S b → S' b) : RowsIn S w' v l := h.map fun _ _ _ hb hx => ⟨hb, hx.kept hb k hs⟩
theorem SliceOf.rows_mono {S S' : Nat → Prop} {w : World} {v : Value} {l : List Row} (h : RowsIn S w v l) (hs : ∀ b, S b → S' b) : RowsIn S' w v l :=
  h.map fun _ _ _ hb hx => ⟨hs _ hb, hx.1, let ⟨v, h1, h2⟩ := hx.2; ⟨v, h1, h2.vals_mono hs⟩⟩

/-- what a call has made of values: a slice of its own. -/
def Val.cells (x : Val) : List Value := [.int .i64 x.k, .int .i64 x.n, .string x.t]
def valCells (l : List Val) : List Value := l.flatMap Val.cells
theorem valCells_length (l : List Val) : (valCells l).length = l.length * 3 := by
  induction l with
  | nil => rfl
  | cons x l ih => simp only [valCells, List.flatMap_cons, List.length_append, List.length_cons] at ih ⊢; simp only [Val.cells, List.length_cons, List.length_nil]; omega
theorem valCells_get : ∀ (l : List Val) (i : Nat) (h : i < l.length), (valCells l)[i * 3]? = some (.int .i64 l[i].k) ∧ (valCells l)[i * 3 + 1]? = some (.int .i64 l[i].n) ∧ (valCells l)[i * 3 + 2]? = some (.string l[i].t)
  | [], i, h => by cases h
  | x :: l, 0, _ => by simp [valCells, Val.cells]
  | x :: l, i + 1, h => by
    have ih := valCells_get l i (by simpa using h)
    have e : ∀ j, (valCells (x :: l))[(i + 1) * 3 + j]? = (valCells l)[i * 3 + j]? := fun j => by
      show (Val.cells x ++ valCells l)[(i + 1) * 3 + j]? = _
      rw [List.getElem?_append_right (by simp [Val.cells]; omega)]
      congr 1
      simp [Val.cells]; omega
    have e0 := e 0
    simp only [Nat.add_zero] at e0
    rw [e0, e 1, e 2]
    simpa using ih
theorem owned_vals {w : World} {base : Nat} {e : TypeId} {v : Value} {n : Nat} {l : List Val} (h : w.ownsRow base e 3 v n (valCells l)) : ValsIn (fun b => base ≤ b) w v l := by
  obtain ⟨hn, hv⟩ := h
  rw [valCells_length] at hn
  obtain rfl : l.length = n := by omega
  rcases hv with ⟨rfl, h0⟩ | ⟨g, cap, cur, rfl, hb, hg, hl, hm, hc, ht⟩
  · have : l = [] := List.eq_nil_of_length_eq_zero h0
    subst this
    exact ⟨none, 0, rfl, Nat.le_refl _, by unfold maxLen; omega, fun _ => rfl, fun i hi => by cases hi⟩
  · refine ⟨_, cap, rfl, hl, hm, fun h => (by cases h), fun i hi => ⟨g, 0, rfl, hb, ?_⟩⟩
    have cell : ∀ j u, (valCells l)[j]? = some u → w.cell? ⟨g, j, none⟩ = some u := fun j u hu => by
      refine cell_obj hg ?_
      rw [← ht, List.getElem?_take] at hu
      split at hu
      · simpa using hu
      · cases hu
    obtain ⟨h1, h2, h3⟩ := valCells_get l i hi
    simp only [Nat.zero_add]
    exact ⟨cell _ _ h1, cell _ _ h2, cell _ _ h3⟩

section
variable {H : Type} {enc : TypeId × Value → H} {P : Program} {w : World} {base : Nat} {spare : Nat → Bool} {held : Bool}
/-- an argument that is a slice of structs of one-cell fields (after the guide's page on structs). -/
theorem open_slice_fields {t e : TypeId} {fs : Array Field} {fuel : Nat} {cs : List Value} {x : DataW H × List MemPlace} (ht : P.underlying t = some (.slice e)) (he : P.underlying e = some (.struct fs))
    (hone : oneCellFields P fs = true) (hC : P.cellsOf e = fs.size) (h : DataW.trod enc P w base spare held fuel t cs = some x) :
    (cs = [.slice none 0 0] ∧ x = (.nil, [])) ∨
    ∃ (a : Addr) (len cap m : Nat) (D : Nat → DataW H) (Pl : Nat → List MemPlace), cs = [.slice (some a) len cap] ∧ base ≤ a.block ∧ len ≤ cap ∧ cap ≤ maxLen ∧ m = (if spare a.block then cap else len) ∧
      x = (.slice ((List.range len).map D) ((List.range (m - len)).map fun j => D (len + j)), MemPlace.row a (m * fs.size) ++ (List.range m).flatMap Pl) ∧
      ∀ i, i < m → ∃ (ys : List (DataW H × List MemPlace)) (n : Nat), D i = .agg (ys.map (·.1)) ∧ Pl i = ys.flatMap (·.2) ∧ ys.length = fs.size ∧
        ∀ (j : Nat) (f : Field), fs[j]? = some f → ∃ (v : Value) (y : DataW H × List MemPlace), w.cell? (a.add (i * fs.size + j)) = some v ∧ ys[j]? = some y ∧ DataW.trod enc P w base spare held n f.type [v] = some y := by
  rcases open_slice ht h with h0 | ⟨a, len, cap, m, n, D, Pl, hcs, hb, hl, hm, hmm, hx, hi⟩
  · exact .inl h0
  · refine .inr ⟨a, len, cap, m, D, Pl, hcs, hb, hl, hm, hmm, by rw [hC] at hx; exact hx, fun i him => ?_⟩
    obtain ⟨cs', hc, ht'⟩ := hi i him
    rw [hC] at hc
    obtain ⟨ys, n', hn', hy, hlen, hyl, hf⟩ := DataW.trod_struct he ht'
    obtain ⟨_, hcl, hat⟩ := World.cells?_some hc
    simp only [Prod.mk.injEq] at hy
    refine ⟨ys, n', hy.1, hy.2, hyl, fun j f hj => ?_⟩
    obtain ⟨ho, hk⟩ := hone_of hone j f hj
    have hjl : j < fs.size := (Array.getElem?_eq_some_iff.1 hj).1
    have hcell := hat j hjl
    have hv : cs'[j]? = some (cs'[j]'(by omega)) := List.getElem?_eq_getElem (by omega)
    have h1 := hf j f hj
    rw [ho, hk] at h1
    have hone' : (cs'.drop j).take 1 = [cs'[j]'(by omega)] := by
      rw [List.drop_eq_getElem_cons (by omega)]
      rfl
    rw [hone'] at h1
    have hys : ys[j]? = some (ys[j]'(by omega)) := List.getElem?_eq_getElem (by omega)
    refine ⟨_, _, ?_, hys, h1.trans hys⟩
    rw [← Go.Deep.add_add, hcell, hv]

/-- a function that names what is there for each number below 'n', as a list. -/
theorem list_of {α : Type} (n : Nat) {p : Nat → α → Prop} (h : ∀ i, i < n → ∃ x, p i x) : ∃ l : List α, l.length = n ∧ ∀ i (hi : i < l.length), p i l[i] := by
  induction n with
  | zero => exact ⟨[], rfl, fun i hi => by cases hi⟩
  | succ n ih =>
    obtain ⟨l, hl, hp⟩ := ih fun i hi => h i (by omega)
    obtain ⟨x, hx⟩ := h n (by omega)
    refine ⟨l ++ [x], by simp [hl], fun i hi => ?_⟩
    by_cases hlt : i < l.length
    · rw [List.getElem_append_left hlt]; exact hp i hlt
    · have hi' : i = l.length := by simp at hi; omega
      subst hi'
      rw [List.getElem_append_right (Nat.le_refl _)]
      simpa [hl] using hx

/-- a slice of values that came in. -/
theorem open_vals {tS tV tK tI tT : TypeId} {fs : Array Field} {fuel : Nat} {cs : List Value} {x : DataW H × List MemPlace} (ht : P.underlying tS = some (.slice tV)) (he : P.underlying tV = some (.struct fs))
    (hone : oneCellFields P fs = true) (hC : P.cellsOf tV = fs.size) (hsz : fs.size = 3) (h0 : (fs[0]?).map (·.type) = some tK) (h1 : (fs[1]?).map (·.type) = some tI) (h2 : (fs[2]?).map (·.type) = some tT)
    (hK : P.underlying tK = some (.int .i64)) (hI : P.underlying tI = some (.int .i64)) (hT : P.underlying tT = some .string)
    (h : DataW.trod enc P w base spare held fuel tS cs = some x) : ∃ v l, cs = [v] ∧ IsVals w v l ∧ ∀ x ∈ l, ValOk x := by
  rcases open_slice_fields ht he hone hC h with ⟨rfl, _⟩ | ⟨a, len, cap, m, D, Pl, rfl, _, hl, hm, hmm, _, hf⟩
  · exact ⟨_, [], rfl, ⟨none, 0, rfl, Nat.le_refl _, by unfold maxLen; omega, fun _ => rfl, fun i hi => (by cases hi)⟩, fun x hx => (by cases hx)⟩
  · have hlm : len ≤ m := by rw [hmm]; split <;> omega
    have hspot : 0 < len → a.spot = none := fun h => by
      obtain ⟨ys, n, _, _, _, hj⟩ := hf 0 (by omega)
      obtain ⟨f0, e0, rfl⟩ := Option.map_eq_some_iff.1 h0
      obtain ⟨v0, y0, c0, _, t0⟩ := hj 0 f0 e0
      simpa [Addr.add] using World.cell?_spot c0
    have key : ∀ i, i < len → ∃ x : Val, (a.spot = none ∧ ValOk x) ∧ ValAt w a.block (a.off + i * 3) x := fun i hi => by
      obtain ⟨ys, n, _, _, _, hj⟩ := hf i (by omega)
      obtain ⟨f0, e0, rfl⟩ := Option.map_eq_some_iff.1 h0
      obtain ⟨f1, e1, rfl⟩ := Option.map_eq_some_iff.1 h1
      obtain ⟨f2, e2, rfl⟩ := Option.map_eq_some_iff.1 h2
      obtain ⟨v0, y0, c0, _, t0⟩ := hj 0 f0 e0
      obtain ⟨v1, y1, c1, _, t1⟩ := hj 1 f1 e1
      obtain ⟨v2, y2, c2, _, t2⟩ := hj 2 f2 e2
      obtain ⟨k, q0, _, wk⟩ := DataW.trod_int hK t0
      obtain ⟨z, q1, _, wz⟩ := DataW.trod_int hI t1
      obtain ⟨s, q2, _, ws⟩ := DataW.trod_string hT t2
      simp only [List.cons.injEq, and_true] at q0 q1 q2
      subst q0 q1 q2
      rw [hsz] at c0 c1 c2
      have hs : a.spot = none := hspot (by omega)
      have ea : ∀ k, a.add k = ⟨a.block, a.off + k, none⟩ := add_none hs
      rw [ea] at c0 c1 c2
      exact ⟨⟨k, z, s⟩, ⟨hs, wk, wz, ws⟩, by simpa using c0, by simpa [Nat.add_assoc] using c1, by simpa [Nat.add_assoc] using c2⟩
    obtain ⟨l, rfl, hp⟩ := list_of len key
    exact ⟨_, l, rfl, ⟨some a, cap, rfl, hl, hm, fun h => (by cases h), fun i hi => ⟨a.block, a.off, (by obtain ⟨⟨hs, _⟩, _⟩ := hp i hi; cases a; simp only at hs; subst hs; rfl), trivial, (hp i hi).2⟩⟩, fun x hx => (by obtain ⟨i, hi, rfl⟩ := List.getElem_of_mem hx; exact (hp i hi).1.2)⟩

/-- a slice of rows that came in. -/
theorem open_rows {tR tW tM tS tV tK tI tT : TypeId} {rs fs : Array Field} {fuel : Nat} {cs : List Value} {x : DataW H × List MemPlace} (hr : P.underlying tR = some (.slice tW)) (hw : P.underlying tW = some (.struct rs))
    (hrone : oneCellFields P rs = true) (hrC : P.cellsOf tW = rs.size) (hrz : rs.size = 2) (r0 : (rs[0]?).map (·.type) = some tM) (r1 : (rs[1]?).map (·.type) = some tS) (hM : P.underlying tM = some (.int .i64))
    (ht : P.underlying tS = some (.slice tV)) (he : P.underlying tV = some (.struct fs))
    (hone : oneCellFields P fs = true) (hC : P.cellsOf tV = fs.size) (hsz : fs.size = 3) (h0 : (fs[0]?).map (·.type) = some tK) (h1 : (fs[1]?).map (·.type) = some tI) (h2 : (fs[2]?).map (·.type) = some tT)
    (hK : P.underlying tK = some (.int .i64)) (hI : P.underlying tI = some (.int .i64)) (hT : P.underlying tT = some .string)
    (h : DataW.trod enc P w base spare held fuel tR cs = some x) : ∃ v l, cs = [v] ∧ IsRows w v l ∧ ∀ r ∈ l, (Lit.int .i64 r.time).wf = true ∧ ∀ x ∈ r.vals, ValOk x := by
  rcases open_slice_fields hr hw hrone hrC h with ⟨rfl, _⟩ | ⟨a, len, cap, m, D, Pl, rfl, _, hl, hm, hmm, _, hf⟩
  · exact ⟨_, [], rfl, ⟨none, 0, rfl, Nat.le_refl _, by unfold maxLen; omega, fun _ => rfl, fun i hi => (by cases hi)⟩, fun x hx => (by cases hx)⟩
  · have hlm : len ≤ m := by rw [hmm]; split <;> omega
    have hspot : 0 < len → a.spot = none := fun h => by
      obtain ⟨ys, n, _, _, _, hj⟩ := hf 0 (by omega)
      obtain ⟨f0, e0, rfl⟩ := Option.map_eq_some_iff.1 r0
      obtain ⟨v0, y0, c0, _, t0⟩ := hj 0 f0 e0
      simpa [Addr.add] using World.cell?_spot c0
    have key : ∀ i, i < len → ∃ x : Row, (a.spot = none ∧ (Lit.int .i64 x.time).wf = true ∧ ∀ y ∈ x.vals, ValOk y) ∧ RowAt All w a.block (a.off + i * 2) x := fun i hi => by
      obtain ⟨ys, n, _, _, _, hj⟩ := hf i (by omega)
      obtain ⟨f0, e0, rfl⟩ := Option.map_eq_some_iff.1 r0
      obtain ⟨f1, e1, rfl⟩ := Option.map_eq_some_iff.1 r1
      obtain ⟨v0, y0, c0, _, t0⟩ := hj 0 f0 e0
      obtain ⟨v1, y1, c1, _, t1⟩ := hj 1 f1 e1
      obtain ⟨k, q0, _, wk⟩ := DataW.trod_int hM t0
      obtain ⟨v, l, q1, hv, hok⟩ := open_vals ht he hone hC hsz h0 h1 h2 hK hI hT t1
      simp only [List.cons.injEq, and_true] at q0 q1
      subst q0 q1
      rw [hrz] at c0 c1
      have hs : a.spot = none := hspot (by omega)
      have ea : ∀ k, a.add k = ⟨a.block, a.off + k, none⟩ := add_none hs
      rw [ea] at c0 c1
      exact ⟨⟨k, l⟩, ⟨hs, wk, hok⟩, by simpa using c0, _, by simpa [Nat.add_assoc] using c1, hv⟩
    obtain ⟨l, rfl, hp⟩ := list_of len key
    exact ⟨_, l, rfl, ⟨some a, cap, rfl, hl, hm, fun h => (by cases h), fun i hi => ⟨a.block, a.off, (by obtain ⟨⟨hs, _⟩, _⟩ := hp i hi; cases a; simp only at hs; subst hs; rfl), trivial, (hp i hi).2⟩⟩, fun x hx => (by obtain ⟨i, hi, rfl⟩ := List.getElem_of_mem hx; exact (hp i hi).1.2)⟩
end
end Go.Proofs.YtgcnchmnciihnaaGreatDoor
namespace Go.Proofs.YtgcnchmnciihnaaGreatDoor
set_option linter.unusedSimpArgs false
set_option linter.unusedVariables false
open Go Go.RowKit

section
variable {P : Program} (w : World)
theorem append_block {base : Nat} {t ty e : TypeId} {i : TypeInfo} {z : Value} {size bytes : Nat} (ht : P.underlying t = some (.slice e)) (hi : P.info? e = some i) (hz : i.zero = some z)
    (hsize : i.size = size) (hby : i.bytes = bytes) {v : Value} {n : Nat} {xs : List Value} (hown : w.ownsRow base e size v n xs)
    {a : Addr} {m c : Nat} {news : List Value} (hl : news.length = m * size) (hnews : ∀ j u, news[j]? = some u → w.cell? (a.add j) = some u) (h1 : ∀ u ∈ news, u.oneCell' = true)
    (h63 : n + m ≤ maxLen) (hbytes : (n + m) * bytes ≤ 140737488355328) {v' : Value} {w' : World} (hr : (Builtin.append_ #[t, t] ty #[v, .slice (some a) m c]).run P w = .ok v' w') :
    v'.ownBlock = v.ownBlock ∨ ∃ g, v'.ownBlock = some g ∧ w.heap.size ≤ g := by
  subst hsize
  subst hby
  have hsmall : n + m ≤ 9223372036854775807 := by simp only [maxLen] at h63; omega
  rcases hown.2 with ⟨rfl, rfl⟩ | ⟨g, cap, cur, rfl, hbg, hg, hnc, hcm, hcs, htake⟩
  · by_cases hm : m = 0
    · subst hm
      have hn : news = [] := List.eq_nil_of_length_eq_zero (by simpa using hl)
      subst hn
      have : (Builtin.append_ #[t, t] ty #[.slice none 0 0, .slice (some a) 0 c]).run P w = .ok (.slice none 0 0) w := by
        simp [Builtin.append_, run_underlying ht, sizeOf, typeInfo, hi, Builtin.lenOf, Builtin.firstCells, loadCells, loadCellsFrom]
      rw [this] at hr
      injection hr with hv _
      subst hv
      exact .inl rfl
    · have hr' := run_append_nil (P := P) w t ty e i z ht hi hz a m c news hl hnews (by omega) (by omega) (by have hb := hbytes; simp only [Nat.zero_add] at hb; omega)
      rw [hr'] at hr
      injection hr with hv _
      subst hv
      exact .inr ⟨_, rfl, Nat.le_refl _⟩
  · by_cases hroom : n + m ≤ cap
    · have hfit : n * i.size + news.length ≤ cur.size := by rw [hl, hcs, ← Nat.add_mul]; exact Nat.mul_le_mul_right _ hroom
      rw [run_append_room (P := P) w t ty e i ht hi g n cap cur hg a m c news hl hnews h1 hroom hfit] at hr
      injection hr with hv _
      subst hv
      exact .inl rfl
    · have holds : ∀ j u, xs[j]? = some u → w.cell? ((⟨g, 0, none⟩ : Addr).add j) = some u := hown.cells (g := g) rfl
      have hr' := run_append_grow (P := P) w t ty e i z ht hi hz ⟨g, 0, none⟩ n cap xs hown.1 holds a m c news hl hnews (by omega) (by omega) (growslice_fits (by omega) hbytes)
      rw [hr'] at hr
      injection hr with hv _
      subst hv
      exact .inr ⟨_, rfl, Nat.le_refl _⟩

theorem Keeps.grown {S : Nat → Prop} {a w w' : World} {row : Option Nat} (h : Keeps S a w) (g : w.grownBy w' row) (hr : ∀ k, row = some k → a.heap.size ≤ k) : Keeps S a w' :=
  ⟨g.os.trans h.os, g.tape.trans h.tape, g.output.trans h.output, Nat.le_trans h.size g.size, fun k hk hs => (g.block k (Nat.lt_of_lt_of_le hk h.size) (fun e => by have := hr k e.symm; omega)).trans (h.block k hk hs)⟩
/-- 'append' onto a slice of one's own: what it comes to. -/
structure Appended (w : World) (base : Nat) (e : TypeId) (size : Nat) (v : Value) (n : Nat) (xs : List Value) (v' : Value) (w' : World) : Prop where
  own : w'.ownsRow base e size v' n xs
  grown : w.grownBy w' v.ownBlock
  block : v'.ownBlock = v.ownBlock ∨ ∃ g, v'.ownBlock = some g ∧ w.heap.size ≤ g

theorem wpList_append {ops : Array Oper} {rest : List Oper} {o : Oper} {a : Act} {Q : Exit → Act → World → Prop} (hgd : o.guard = none) (s x : Operand) (t : TypeId)
    (ho : o.op = .call { callee := .builtin .append, args := #[s, x], argTypes := #[t, t] })
    (base : Nat) (e : TypeId) (i : TypeInfo) (z : Value) (size bytes : Nat) (ht : P.underlying t = some (.slice e)) (hi : P.info? e = some i) (hz : i.zero = some z)
    (hsize : i.size = size) (hby : i.bytes = bytes) (hzs : z.cells.size = size) (hsz : 0 < size)
    (v : Value) (n : Nat) (xs : List Value) (hs : a.eval s = v) (hown : w.ownsRow base e size v n xs)
    (ad : Addr) (m c : Nat) (news : List Value) (hx : a.eval x = .slice (some ad) m c) (hl : news.length = m * size) (hnews : ∀ j u, news[j]? = some u → w.cell? (ad.add j) = some u) (h1 : ∀ u ∈ news, u.oneCell' = true)
    (h63 : n + m ≤ maxLen) (hbytes : (n + m) * bytes ≤ 140737488355328) (hbase : base ≤ w.heap.size)
    (h : ∀ v' w', Appended w base e size v (n + m) (xs ++ news) v' w' → wpList P ops Q rest (a.put o.dst v') w') : wpList P ops Q (o :: rest) a w := by
  refine wpList_plain hgd fun K hK => ?_
  obtain ⟨v', w', hr, h2, h3, _⟩ := run_append_own (P := P) w base t o.type e i z size bytes ht hi hz hsize hby hzs hsz v n xs hown ad m c news hl hnews h1 h63 hbytes hbase
  have hb := append_block w ht hi hz hsize hby hown hl hnews h1 h63 hbytes hr
  unfold Oper.wp execOp
  simp only [ho, resolve, invoke, builtin, Sem.run_bind, Sem.run_pure, Result.andThen_ok, List.map_toArray, List.map_cons, List.map_nil, hs, hx, hr]
  exact hK _ _ (h v' w' ⟨h2, h3, hb⟩)

/-- an append of nothing. -/
theorem wpList_append_nil {ops : Array Oper} {rest : List Oper} {o : Oper} {a : Act} {Q : Exit → Act → World → Prop} (hgd : o.guard = none) (s x : Operand) (t : TypeId)
    (ho : o.op = .call { callee := .builtin .append, args := #[s, x], argTypes := #[t, t] })
    (base : Nat) (e : TypeId) (i : TypeInfo) (size : Nat) (ht : P.underlying t = some (.slice e)) (hi : P.info? e = some i)
    (v : Value) (n : Nat) (xs : List Value) (hs : a.eval s = v) (hown : w.ownsRow base e size v n xs) (hx : a.eval x = .slice none 0 0)
    (h : wpList P ops Q rest (a.put o.dst v) w) : wpList P ops Q (o :: rest) a w := by
  refine wpList_plain hgd fun K hK => ?_
  have hr := run_append_owned_none (P := P) w base t o.type e i size ht hi v n xs hown
  unfold Oper.wp execOp
  simp only [ho, resolve, invoke, builtin, Sem.run_bind, Sem.run_pure, Result.andThen_ok, List.map_toArray, List.map_cons, List.map_nil, hs, hx, hr]
  exact hK _ _ h

/-- the same, as one operation of a walk. -/
theorem runs_append {Rel : World → World → Prop} {o : Oper} {a : Act} {τ : Value → World → Prop} (s x : Operand) (t : TypeId)
    (ho : o.op = .call { callee := .builtin .append, args := #[s, x], argTypes := #[t, t] })
    (base : Nat) (e : TypeId) (i : TypeInfo) (z : Value) (size bytes : Nat) (ht : P.underlying t = some (.slice e)) (hi : P.info? e = some i) (hz : i.zero = some z)
    (hsize : i.size = size) (hby : i.bytes = bytes) (hzs : z.cells.size = size) (hsz : 0 < size)
    (v : Value) (n : Nat) (xs : List Value) (hs : a.eval s = v) (hown : w.ownsRow base e size v n xs)
    (ad : Addr) (m c : Nat) (news : List Value) (hx : a.eval x = .slice (some ad) m c) (hl : news.length = m * size) (hnews : ∀ j u, news[j]? = some u → w.cell? (ad.add j) = some u) (h1 : ∀ u ∈ news, u.oneCell' = true)
    (h63 : n + m ≤ maxLen) (hbytes : (n + m) * bytes ≤ 140737488355328) (hbase : base ≤ w.heap.size)
    (h : ∀ v' w', Appended w base e size v (n + m) (xs ++ news) v' w' → Rel w w' ∧ τ v' w') : Runs P Rel o a w τ := by
  obtain ⟨v', w', hr, h2, h3, _⟩ := run_append_own (P := P) w base t o.type e i z size bytes ht hi hz hsize hby hzs hsz v n xs hown ad m c news hl hnews h1 h63 hbytes hbase
  have hb := append_block w ht hi hz hsize hby hown hl hnews h1 h63 hbytes hr
  unfold Runs execOp
  simp only [ho, resolve, invoke, builtin, Sem.run_bind, Sem.run_pure, Result.andThen_ok, List.map_toArray, List.map_cons, List.map_nil, hs, hx, hr]
  exact h v' w' ⟨h2, h3, hb⟩

/-- copy of elements of any size. -/
theorem run_copy_rows (dT sT ty elem : TypeId) (i : TypeInfo) (size : Nat) (g o dLen dCap : Nat) (a : Addr) (sLen sCap : Nat) (cur : Array Value) (t : TypeId) (n : Nat) (cs : List Value)
    (hu : P.underlying dT = some (.slice elem)) (hi : P.info? elem = some i) (hsize : i.size = size) (hg : w.heap[g]? = some (.cells cur t (0, 0))) (hn : n = Nat.min sLen dLen) (hl : cs.length = n * size)
    (hsrc : ∀ j v, cs[j]? = some v → w.cell? (a.add j) = some v) (hfit : o + cs.length ≤ cur.size) (h1 : ∀ v ∈ cs, v.oneCell' = true) :
    (Builtin.copy_ #[dT, sT] ty #[.slice (some ⟨g, o, none⟩) dLen dCap, .slice (some a) sLen sCap]).run P w =
      .ok (goInt n) (w.setRow g (cur.toList.take o ++ cs ++ cur.toList.drop (o + cs.length)).toArray) := by
  subst hsize
  have hf := run_firstCells_some (P := P) w i.size n a sLen sCap cs hl hsrc
  have hst := run_storeCells_at P g o t cs 0 cur w hg (by simpa using hfit) h1
  simp [Builtin.copy_, run_underlying hu, Builtin.lenOf, sizeOf, typeInfo, hi, ← hn, hf, hst]
theorem wpList_copy_rows {ops : Array Oper} {rest : List Oper} {o : Oper} {a : Act} {Q : Exit → Act → World → Prop} (hgd : o.guard = none) (d s : Operand) (dT sT : TypeId)
    (ho : o.op = .call { callee := .builtin .copy, args := #[d, s], argTypes := #[dT, sT] }) (elem : TypeId) (i : TypeInfo) (size : Nat) (hu : P.underlying dT = some (.slice elem)) (hi : P.info? elem = some i) (hsize : i.size = size)
    (g off dLen dCap : Nat) (ad : Addr) (sLen sCap : Nat) (hd : a.eval d = .slice (some ⟨g, off, none⟩) dLen dCap) (hs : a.eval s = .slice (some ad) sLen sCap)
    (cur : Array Value) (t : TypeId) (hg : w.heap[g]? = some (.cells cur t (0, 0))) (n : Nat) (hn : n = Nat.min sLen dLen) (cs : List Value) (hl : cs.length = n * size)
    (hsrc : ∀ j v, cs[j]? = some v → w.cell? (ad.add j) = some v) (hfit : off + cs.length ≤ cur.size) (h1 : ∀ v ∈ cs, v.oneCell' = true)
    (h : ∀ w', w'.heap[g]? = some (.cells (cur.toList.take off ++ cs ++ cur.toList.drop (off + cs.length)).toArray t (0, 0)) → Keeps (fun b => b ≠ g) w w' → wpList P ops Q rest (a.put o.dst (goInt n)) w') : wpList P ops Q (o :: rest) a w := by
  refine wpList_plain hgd fun K hK => ?_
  have hrun := run_copy_rows (P := P) w dT sT o.type elem i size g off dLen dCap ad sLen sCap cur t n cs hu hi hsize hg hn hl hsrc hfit h1
  unfold Oper.wp execOp
  simp only [ho, resolve, invoke, builtin, Sem.run_bind, Sem.run_pure, Result.andThen_ok, List.map_toArray, List.map_cons, List.map_nil, hd, hs, hrun]
  refine hK _ _ (h _ (setRow_heap w g _ _ t _ hg) ⟨rfl, rfl, rfl, by simp [World.setRow], fun k hk hne => setRow_other w g k _ hne⟩)
end
theorem owned_block {w : World} {base : Nat} {e : TypeId} {size g n : Nat} {xs : List Value} (h : w.ownsRow base e size (.slice (some ⟨g, 0, none⟩) n n) n xs) : w.heap[g]? = some (.cells xs.toArray e (0, 0)) := by
  obtain ⟨hl, h⟩ := h
  rcases h with ⟨h, _⟩ | ⟨g', cap, cur, hv, _, hg, _, _, hs, ht⟩
  · cases h
  · simp only [Value.slice.injEq, Option.some.injEq, Addr.mk.injEq, and_true, true_and] at hv
    obtain ⟨rfl, rfl⟩ := hv
    rw [List.take_of_length_le (by simp [hs])] at ht
    rw [hg, ← ht]
theorem obj_setCell {w : World} {b i : Nat} {c : Array Value} {t : TypeId} {f : Nat × Nat} (h : w.heap[b]? = some (.cells c t f)) (v : Value) : (w.setCell ⟨b, i, none⟩ v).heap[b]? = some (.cells (c.setIfInBounds i v) t f) := by
  have hlt : b < w.heap.size := (Array.getElem?_eq_some_iff.1 h).1
  have hb : w.heap[b] = .cells c t f := (Array.getElem?_eq_some_iff.1 h).2
  show (w.heap.modify b _)[b]? = _
  rw [Array.getElem?_eq_getElem (by simpa using hlt), Array.getElem_modify_self, hb]
  rfl
theorem ownsRow_slice {w : World} {B : Nat} {e : TypeId} {s n : Nat} {v : Value} {xs : List Value} (h : w.ownsRow B e s v n xs) : ∃ a c, v = .slice a n c := by
  rcases h.2 with ⟨rfl, h0⟩ | ⟨g, cap, cur, rfl, _⟩
  · exact ⟨none, 0, by rw [h0]⟩
  · exact ⟨_, _, rfl⟩
theorem free_obj {w : World} {b i : Nat} {c : Array Value} {t : TypeId} (h : w.heap[b]? = some (.cells c t (0, 0))) : w.frozen? ⟨b, i, none⟩ = false := by simp [World.frozen?, h]
end Go.Proofs.YtgcnchmnciihnaaGreatDoor
