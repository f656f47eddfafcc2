/-
  PROVED HERE: slices of elements that a call makes: what they hold, and what an append makes of them.
-/
import Derived.Test.YthfgjmdmcoogpaaDoorSourceNew
namespace Go.Proofs.YthfgjmdmcoogpaaDoor
set_option linter.unusedSimpArgs false
set_option linter.unusedVariables false
open Go.RowKit

theorem infoElem : (Tryd.prog.info? 61).map (fun i => (i.zero, i.size, i.bytes)) = some (some (.agg #[.int .i64 0, .int .i64 0, .slice none 0 0, .int .i64 0, .int .i64 0]), 5, 56) := by kernel_rfl
/-- an element: its kind, its row, its time, its mark. -/
structure Elem where
  kind : Int
  row : Row
  time : Int
  mark : Int
def ElemAt (S : Nat → Prop) (w : World) (b o : Nat) (e : Elem) : Prop :=
  w.cell? ⟨b, o, none⟩ = some (.int .i64 e.kind) ∧ w.cell? ⟨b, o + 1, none⟩ = some (.int .i64 e.row.time) ∧ (∃ v, w.cell? ⟨b, o + 2, none⟩ = some v ∧ ValsIn S w v e.row.vals) ∧ w.cell? ⟨b, o + 3, none⟩ = some (.int .i64 e.time) ∧ w.cell? ⟨b, o + 4, none⟩ = some (.int .i64 e.mark)
abbrev ElemsIn (S : Nat → Prop) (w : World) (v : Value) (l : List Elem) : Prop := SliceOf S (ElemAt S) 5 w v l

def Elem.cells (e : Elem) (v : Value) : List Value := [.int .i64 e.kind, .int .i64 e.row.time, v, .int .i64 e.time, .int .i64 e.mark]
def elemCells : List Elem → List Value → List Value
  | e :: es, v :: vs => e.cells v ++ elemCells es vs
  | _, _ => []
theorem elemCells_length : ∀ (es : List Elem) (vs : List Value), vs.length = es.length → (elemCells es vs).length = es.length * 5
  | [], vs, h => by cases vs <;> simp_all [elemCells]
  | r :: rs, v :: vs, h => by
    have ih := elemCells_length rs vs (by simpa using h)
    simp only [elemCells, Elem.cells, List.length_append, List.length_cons, List.length_nil, ih]; omega
  | _ :: _, [], h => by simp at h
theorem elemCells_append : ∀ (es : List Elem) (vs : List Value) (fs : List Elem) (us : List Value), vs.length = es.length → elemCells (es ++ fs) (vs ++ us) = elemCells es vs ++ elemCells fs us
  | [], vs, fs, us, h => by cases vs <;> simp_all [elemCells]
  | r' :: rs, v' :: vs, fs, us, h => by
    have ih := elemCells_append rs vs fs us (by simpa using h)
    simp only [List.cons_append, elemCells, ih, List.append_assoc]
  | _ :: _, [], _, _, h => by simp at h
theorem elemCells_get : ∀ (es : List Elem) (vs : List Value) (hl : vs.length = es.length) (i : Nat) (h : i < es.length) (j : Nat), j < 5 → (elemCells es vs)[i * 5 + j]? = (es[i].cells (vs[i]'(by omega)))[j]?
  | [], _, _, i, h, _, _ => by cases h
  | r :: rs, v :: vs, hl, 0, _, j, hj => by
    simp only [elemCells, Nat.zero_mul, Nat.zero_add, List.getElem_cons_zero]
    rw [List.getElem?_append_left (by simp [Elem.cells]; omega)]
  | r :: rs, v :: vs, hl, i + 1, h, j, hj => by
    have ih := elemCells_get rs vs (by simpa using hl) i (by simpa using h) j hj
    simp only [elemCells, List.getElem_cons_succ]
    rw [List.getElem?_append_right (by simp [Elem.cells]; omega), ← ih]
    congr 1
    simp [Elem.cells]; omega
  | _ :: _, [], hl, _, _, _, _ => by simp at hl
theorem elemCells_one {es : List Elem} {vs : List Value} (h : ∀ v ∈ vs, v.oneCell' = true) : ∀ u ∈ elemCells es vs, u.oneCell' = true := by
  induction es generalizing vs with
  | nil => intro u hu; cases vs <;> simp [elemCells] at hu
  | cons e es ih =>
    cases vs with
    | nil => intro u hu; simp [elemCells] at hu
    | cons v vs =>
      intro u hu
      simp only [elemCells, Elem.cells, List.mem_append, List.mem_cons, List.not_mem_nil, or_false] at hu
      rcases hu with (rfl | rfl | rfl | rfl | rfl) | hu
      · rfl
      · rfl
      · exact h _ List.mem_cons_self
      · rfl
      · rfl
      · exact ih (fun v hv => h v (List.mem_cons_of_mem _ hv)) u hu

/-- a value in a block that nothing bars from being written. -/
def ValAtF (w : World) (b o : Nat) (x : Val) : Prop := ValAt w b o x ∧ ∃ cs : Array Value, w.heap[b]? = some (.cells cs 40 (0, 0))
theorem ValAtF.later {w w' : World} {b o : Nat} {x : Val} (h : ValAtF w b o x) (k : Later w w') : ValAtF w' b o x := let ⟨cs, hc⟩ := h.2; ⟨h.1.later k, cs, k.obj hc⟩
theorem ValAtF.kept {S : Nat → Prop} {w w' : World} {b o : Nat} {x : Val} (h : ValAtF w b o x) (hs : S b) (k : Keeps S w w') : ValAtF w' b o x := let ⟨cs, hc⟩ := h.2; ⟨h.1.kept hs k, cs, k.obj hs hc⟩
abbrev ValsOwn (S : Nat → Prop) (w : World) (v : Value) (l : List Val) : Prop := SliceOf S ValAtF 3 w v l
theorem SliceOf.vals {S : Nat → Prop} {w : World} {v : Value} {l : List Val} (h : ValsOwn S w v l) : ValsIn S w v l := h.map fun _ _ _ hb hx => ⟨hb, hx.1⟩
theorem SliceOf.o_later {S : Nat → Prop} {w w' : World} {v : Value} {l : List Val} (h : ValsOwn S w v l) (k : Later w w') : ValsOwn S w' v l := h.map fun _ _ _ hb hx => ⟨hb, hx.later k⟩
theorem SliceOf.o_kept {S S' : Nat → Prop} {w w' : World} {v : Value} {l : List Val} (h : ValsOwn S w v l) (k : Keeps S' w w') (hs : ∀ b, S b → S' b) : ValsOwn S w' v l := h.map fun _ _ _ hb hx => ⟨hb, hx.kept (hs _ hb) k⟩
theorem SliceOf.o_mono {S S' : Nat → Prop} {w : World} {v : Value} {l : List Val} (h : ValsOwn S w v l) (hs : ∀ b, S b → S' b) : ValsOwn S' w v l := h.map fun _ _ _ hb hx => ⟨hs _ hb, hx⟩
theorem SliceOf.o_lt {S : Nat → Prop} {w : World} {v : Value} {l : List Val} (h : ValsOwn S w v l) : ValsOwn (fun b => S b ∧ b < w.heap.size) w v l := h.map fun b o x hb hx => ⟨⟨hb, by have := cell_lt hx.1.1; exact this⟩, hx⟩
theorem SliceOf.o_swap {S S' : Nat → Prop} {w w' : World} {v : Value} {l : List Val} (h : ValsOwn S w v l) (k : Keeps S w w') (hs : ∀ b, S b → b < w.heap.size → S' b) : ValsOwn S' w' v l :=
  h.map fun b o x hb hx => ⟨hs b hb (by have := cell_lt hx.1.1; exact this), hx.kept hb k⟩
theorem valsO_nil (S : Nat → Prop) (w : World) : ValsOwn S w (.slice none 0 0) [] := ⟨none, 0, rfl, Nat.le_refl _, by unfold maxLen; omega, fun _ => rfl, fun i hi => by cases hi⟩
theorem owned_valsO {w : World} {base n : Nat} {v : Value} {l : List Val} (h : w.ownsRow base 40 3 v n (valCells l)) : ValsOwn (fun b => base ≤ b) w v l := by
  have hv := owned_vals h
  obtain ⟨hn, hc⟩ := h
  rw [valCells_length] at hn
  obtain rfl : l.length = n := by omega
  rcases hc with ⟨rfl, h0⟩ | ⟨g, cap, cur, rfl, hb, hg, -⟩
  · have : l = [] := List.eq_nil_of_length_eq_zero h0
    subst this
    exact valsO_nil _ _
  · obtain ⟨a, c, e1, e2, e3, e4, e5⟩ := hv
    simp only [Value.slice.injEq, true_and] at e1
    obtain ⟨rfl, rfl⟩ := e1
    refine ⟨_, _, rfl, e2, e3, e4, fun i hi => ?_⟩
    obtain ⟨b, o, h1, h2, h3⟩ := e5 i hi
    simp only [Option.some.injEq, Addr.mk.injEq, and_true] at h1
    obtain ⟨rfl, rfl⟩ := h1
    exact ⟨_, _, rfl, h2, h3, cur, hg⟩

/-- elements that a call has made: a slice of its own, its rows' lists in other blocks, as new. -/
def ElemsOwn (B : Nat) (w : World) (sv : Value) (es : List Elem) : Prop :=
  ∃ vs : List Value, ∃ hl : vs.length = es.length, w.ownsRow B 61 5 sv es.length (elemCells es vs) ∧ ∀ i (h : i < es.length), ValsOwn (fun b => B ≤ b ∧ some b ≠ sv.ownBlock) w (vs[i]'(by omega)) es[i].row.vals

theorem ElemsOwn.elems {B : Nat} {w : World} {sv : Value} {es : List Elem} (h : ElemsOwn B w sv es) : ElemsIn (fun b => B ≤ b) w sv es := by
  obtain ⟨vs, hl, ⟨hn, hv⟩, hvs⟩ := h
  rcases hv with ⟨rfl, h0⟩ | ⟨g, cap, cur, rfl, hb, hg, hle, hm, hc, ht⟩
  · have : es = [] := List.eq_nil_of_length_eq_zero h0
    subst this
    exact ⟨none, 0, rfl, Nat.le_refl _, by unfold maxLen; omega, fun _ => rfl, fun i hi => by cases hi⟩
  · refine ⟨_, cap, rfl, hle, hm, fun h => (by cases h), fun i hi => ⟨g, 0, rfl, hb, ?_⟩⟩
    have cell : ∀ j u, (elemCells es vs)[j]? = some u → w.cell? ⟨g, j, none⟩ = some u := fun j u hu => by
      refine cell_obj hg ?_
      rw [← ht, List.getElem?_take] at hu
      split at hu
      · simpa using hu
      · cases hu
    have hc := elemCells_get es vs hl i hi
    simp only [Nat.zero_add]
    exact ⟨cell _ _ (hc 0 (by omega)), cell _ _ (hc 1 (by omega)), ⟨_, cell _ _ (hc 2 (by omega)), (hvs i hi).vals.vals_mono fun b hb => hb.1⟩, cell _ _ (hc 3 (by omega)), cell _ _ (hc 4 (by omega))⟩
theorem ElemsOwn.kept {B : Nat} {S : Nat → Prop} {w w' : World} {sv : Value} {es : List Elem} (h : ElemsOwn B w sv es) (k : Keeps S w w') (hs : ∀ b, B ≤ b → S b) : ElemsOwn B w' sv es := by
  obtain ⟨vs, hl, ho, hvs⟩ := h
  exact ⟨vs, hl, ⟨ho.1, ho.2.imp id fun ⟨g, c, cur, h1, h2, h3, h4⟩ => ⟨g, c, cur, h1, h2, k.obj (hs _ h2) h3, h4⟩⟩, fun i hi => (hvs i hi).o_kept k fun b hb => hs b hb.1⟩
theorem ElemsOwn.base {B B' : Nat} {w : World} {sv : Value} {es : List Elem} (h : ElemsOwn B w sv es) (hB : B' ≤ B) : ElemsOwn B' w sv es := by
  obtain ⟨vs, hl, ho, hvs⟩ := h
  exact ⟨vs, hl, ownsRow_base ho hB, fun i hi => (hvs i hi).o_mono fun b hb => ⟨Nat.le_trans hB hb.1, hb.2⟩⟩
theorem ElemsOwn.nil (B : Nat) (w : World) : ElemsOwn B w (.slice none 0 0) [] := ⟨[], rfl, ⟨rfl, .inl ⟨rfl, rfl⟩⟩, fun i hi => by cases hi⟩
theorem ElemsOwn.append {B : Nat} {w w' : World} {sv sv' : Value} {es fs : List Elem} {vs us : List Value} (hl : vs.length = es.length) (hu : us.length = fs.length)
    (hvs : ∀ i (h : i < es.length), ValsOwn (fun b => B ≤ b ∧ some b ≠ sv.ownBlock) w (vs[i]'(by omega)) es[i].row.vals) (hus : ∀ i (h : i < fs.length), ValsOwn (fun b => B ≤ b ∧ some b ≠ sv.ownBlock) w (us[i]'(by omega)) fs[i].row.vals)
    (hA : Appended w B 61 5 sv (es.length + fs.length) (elemCells es vs ++ elemCells fs us) sv' w') : ElemsOwn B w' sv' (es ++ fs) := by
  obtain ⟨h1, h2, h3⟩ := hA
  have key : ∀ b, (B ≤ b ∧ some b ≠ sv.ownBlock) → b < w.heap.size → B ≤ b ∧ some b ≠ sv'.ownBlock := fun b hb hlt => ⟨hb.1, by
    rcases h3 with h3 | ⟨g, h3, hg⟩
    · rw [h3]; exact hb.2
    · rw [h3]; intro e; injection e with e; omega⟩
  have hk : Keeps (fun b => B ≤ b ∧ some b ≠ sv.ownBlock) w w' := (Keeps.of_grown h2).mono fun _ _ h => h.2
  refine ⟨vs ++ us, by simp [hl, hu], by rw [elemCells_append _ _ _ _ hl]; simpa using h1, fun i hi => ?_⟩
  by_cases hlt : i < es.length
  · simp only [List.getElem_append_left hlt, List.getElem_append_left (by omega : i < vs.length)]
    exact (hvs i hlt).o_swap hk key
  · have hi' : i - es.length < fs.length := by simp at hi; omega
    have e1 : (vs ++ us)[i]'(by simp [hl, hu] at hi ⊢; omega) = us[i - es.length]'(by omega) := by
      rw [List.getElem_append_right (by omega)]; simp only [hl]
    have e2 : (es ++ fs)[i] = fs[i - es.length] := List.getElem_append_right (by omega)
    rw [e1, e2]
    exact (hus _ hi').o_swap hk key
end Go.Proofs.YthfgjmdmcoogpaaDoor
