/-
  PROVED HERE: what it is that memory holds a list of values, a list of rows; that it holds them still in every later world. No program of its own.
-/
import Derived.Test.YtjpdmlopbflggaaLex
import Derived.WalkKit
import Derived.ProofKit
import Derived.Deep.Slices
import Derived.Deep.Fields
import Derived.ChangeSame
import Derived.Lib.Bytealg
namespace Go.Proofs.Ytjpdmlopbflggaa
open Go Go.RowKit Go.ChangeShapes Go.WideShapes Go.Deep

/-- a value: its kind, its number, its text. -/
structure Val where
  k : Int
  n : Int
  t : ByteArray
abbrev Val.v (x : Val) : Value := .agg #[.int .i64 x.k, .int .i64 x.n, .string x.t]
/-- a row: its time, its values. -/
structure Row where
  time : Int
  vals : List Val

/-- its numbers fit, its text is no longer than a text can be. -/
def ValOk (x : Val) : Prop := (Lit.int .i64 x.k).wf = true ∧ (Lit.int .i64 x.n).wf = true ∧ x.t.size ≤ maxLen
theorem add_none {a : Addr} (h : a.spot = none) (k : Nat) : a.add k = ⟨a.block, a.off + k, none⟩ := by
  cases a; simp only at h; subst h
  unfold Addr.add
  split
  · rename_i hk; simp_all
  · rfl
/-- at offset 'o' of block 'b' stands the value 'x'. -/
def ValAt (w : World) (b o : Nat) (x : Val) : Prop := w.cell? ⟨b, o, none⟩ = some (.int .i64 x.k) ∧ w.cell? ⟨b, o + 1, none⟩ = some (.int .i64 x.n) ∧ w.cell? ⟨b, o + 2, none⟩ = some (.string x.t)
theorem ValAt.later {w w' : World} {b o : Nat} {x : Val} (h : ValAt w b o x) (k : Later w w') : ValAt w' b o x := ⟨k.cell h.1, k.cell h.2.1, k.cell h.2.2⟩

/-- the elements of a slice that starts at 'a', each of 'size' cells. -/
def Elems {α : Type} (at_ : World → Nat → Nat → α → Prop) (size : Nat) (w : World) (a : Option Addr) (l : List α) : Prop :=
  ∀ i (h : i < l.length), ∃ b o, a = some ⟨b, o, none⟩ ∧ at_ w b (o + i * size) l[i]
def IsVals (w : World) (v : Value) (l : List Val) : Prop := ∃ a c, v = .slice a l.length c ∧ l.length ≤ c ∧ c ≤ maxLen ∧ Elems ValAt 3 w a l
theorem Elems.later {α : Type} {at_ : World → Nat → Nat → α → Prop} {size : Nat} {w w' : World} {a : Option Addr} {l : List α} (hat : ∀ b o x, at_ w b o x → at_ w' b o x) (h : Elems at_ size w a l) : Elems at_ size w' a l :=
  fun i hi => let ⟨b, o, ha, hx⟩ := h i hi; ⟨b, o, ha, hat _ _ _ hx⟩
theorem IsVals.later {w w' : World} {v : Value} {l : List Val} (h : IsVals w v l) (k : Later w w') : IsVals w' v l :=
  let ⟨a, c, hv, hl, hc, he⟩ := h; ⟨a, c, hv, hl, hc, he.later fun _ _ _ hx => hx.later k⟩
/-- at offset 'o' of block 'b' stands the row 'r'. -/
def RowAt (w : World) (b o : Nat) (r : Row) : Prop := w.cell? ⟨b, o, none⟩ = some (.int .i64 r.time) ∧ ∃ v, w.cell? ⟨b, o + 1, none⟩ = some v ∧ IsVals w v r.vals
theorem RowAt.later {w w' : World} {b o : Nat} {r : Row} (h : RowAt w b o r) (k : Later w w') : RowAt w' b o r := let ⟨v, h1, h2⟩ := h.2; ⟨k.cell h.1, v, k.cell h1, h2.later k⟩
def IsRows (w : World) (v : Value) (l : List Row) : Prop := ∃ a c, v = .slice a l.length c ∧ l.length ≤ c ∧ c ≤ maxLen ∧ Elems RowAt 2 w a l
theorem IsRows.later {w w' : World} {v : Value} {l : List Row} (h : IsRows w v l) (k : Later w w') : IsRows w' v l :=
  let ⟨a, c, hv, hl, hc, he⟩ := h; ⟨a, c, hv, hl, hc, he.later fun _ _ _ hx => hx.later k⟩

section
variable {H : Type} {enc : TypeId × Value → H} {P : Program} {w : World} {base : Nat} {spare : Nat → Bool} {held : Bool}
/-- an argument that is a slice of structs of one-cell fields (after the guide's page on structs). -/
theorem open_slice_fields {t e : TypeId} {fs : Array Field} {fuel : Nat} {cs : List Value} {x : DataW H × List MemPlace} (ht : P.underlying t = some (.slice e)) (he : P.underlying e = some (.struct fs))
    (hone : oneCellFields P fs = true) (hC : P.cellsOf e = fs.size) (h : DataW.trod enc P w base spare held fuel t cs = some x) :
    (cs = [.slice none 0 0] ∧ x = (.nil, [])) ∨
    ∃ (a : Addr) (len cap m : Nat) (D : Nat → DataW H) (Pl : Nat → List MemPlace), cs = [.slice (some a) len cap] ∧ base ≤ a.block ∧ len ≤ cap ∧ cap ≤ maxLen ∧ m = (if spare a.block then cap else len) ∧
      x = (.slice ((List.range len).map D) ((List.range (m - len)).map fun j => D (len + j)), MemPlace.row a (m * fs.size) ++ (List.range m).flatMap Pl) ∧
      ∀ i, i < m → ∃ (ys : List (DataW H × List MemPlace)) (n : Nat), D i = .agg (ys.map (·.1)) ∧ Pl i = ys.flatMap (·.2) ∧ ys.length = fs.size ∧
        ∀ (j : Nat) (f : Field), fs[j]? = some f → ∃ (v : Value) (y : DataW H × List MemPlace), w.cell? (a.add (i * fs.size + j)) = some v ∧ ys[j]? = some y ∧ DataW.trod enc P w base spare held n f.type [v] = some y := by
  rcases open_slice ht h with h0 | ⟨a, len, cap, m, n, D, Pl, hcs, hb, hl, hm, hmm, hx, hi⟩
  · exact .inl h0
  · refine .inr ⟨a, len, cap, m, D, Pl, hcs, hb, hl, hm, hmm, by rw [hC] at hx; exact hx, fun i him => ?_⟩
    obtain ⟨cs', hc, ht'⟩ := hi i him
    rw [hC] at hc
    obtain ⟨ys, n', hn', hy, hlen, hyl, hf⟩ := DataW.trod_struct he ht'
    obtain ⟨_, hcl, hat⟩ := World.cells?_some hc
    simp only [Prod.mk.injEq] at hy
    refine ⟨ys, n', hy.1, hy.2, hyl, fun j f hj => ?_⟩
    obtain ⟨ho, hk⟩ := hone_of hone j f hj
    have hjl : j < fs.size := (Array.getElem?_eq_some_iff.1 hj).1
    have hcell := hat j hjl
    have hv : cs'[j]? = some (cs'[j]'(by omega)) := List.getElem?_eq_getElem (by omega)
    have h1 := hf j f hj
    rw [ho, hk] at h1
    have hone' : (cs'.drop j).take 1 = [cs'[j]'(by omega)] := by
      rw [List.drop_eq_getElem_cons (by omega)]
      rfl
    rw [hone'] at h1
    have hys : ys[j]? = some (ys[j]'(by omega)) := List.getElem?_eq_getElem (by omega)
    refine ⟨_, _, ?_, hys, h1.trans hys⟩
    rw [← Go.Deep.add_add, hcell, hv]

/-- a function that names what is there for each number below 'n', as a list. -/
theorem list_of {α : Type} (n : Nat) {p : Nat → α → Prop} (h : ∀ i, i < n → ∃ x, p i x) : ∃ l : List α, l.length = n ∧ ∀ i (hi : i < l.length), p i l[i] := by
  induction n with
  | zero => exact ⟨[], rfl, fun i hi => by cases hi⟩
  | succ n ih =>
    obtain ⟨l, hl, hp⟩ := ih fun i hi => h i (by omega)
    obtain ⟨x, hx⟩ := h n (by omega)
    refine ⟨l ++ [x], by simp [hl], fun i hi => ?_⟩
    by_cases hlt : i < l.length
    · rw [List.getElem_append_left hlt]; exact hp i hlt
    · have hi' : i = l.length := by simp at hi; omega
      subst hi'
      rw [List.getElem_append_right (Nat.le_refl _)]
      simpa [hl] using hx

/-- a slice of values that came in. -/
theorem open_vals {tS tV tK tI tT : TypeId} {fs : Array Field} {fuel : Nat} {cs : List Value} {x : DataW H × List MemPlace} (ht : P.underlying tS = some (.slice tV)) (he : P.underlying tV = some (.struct fs))
    (hone : oneCellFields P fs = true) (hC : P.cellsOf tV = fs.size) (hsz : fs.size = 3) (h0 : (fs[0]?).map (·.type) = some tK) (h1 : (fs[1]?).map (·.type) = some tI) (h2 : (fs[2]?).map (·.type) = some tT)
    (hK : P.underlying tK = some (.int .i64)) (hI : P.underlying tI = some (.int .i64)) (hT : P.underlying tT = some .string)
    (h : DataW.trod enc P w base spare held fuel tS cs = some x) : ∃ v l, cs = [v] ∧ IsVals w v l ∧ ∀ x ∈ l, ValOk x := by
  rcases open_slice_fields ht he hone hC h with ⟨rfl, _⟩ | ⟨a, len, cap, m, D, Pl, rfl, _, hl, hm, hmm, _, hf⟩
  · exact ⟨_, [], rfl, ⟨none, 0, rfl, Nat.le_refl _, by unfold maxLen; omega, fun i hi => (by cases hi)⟩, fun x hx => (by cases hx)⟩
  · have hlm : len ≤ m := by rw [hmm]; split <;> omega
    have hspot : 0 < len → a.spot = none := fun h => by
      obtain ⟨ys, n, _, _, _, hj⟩ := hf 0 (by omega)
      obtain ⟨f0, e0, rfl⟩ := Option.map_eq_some_iff.1 h0
      obtain ⟨v0, y0, c0, _, t0⟩ := hj 0 f0 e0
      simpa [Addr.add] using World.cell?_spot c0
    have key : ∀ i, i < len → ∃ x : Val, (a.spot = none ∧ ValOk x) ∧ ValAt w a.block (a.off + i * 3) x := fun i hi => by
      obtain ⟨ys, n, _, _, _, hj⟩ := hf i (by omega)
      obtain ⟨f0, e0, rfl⟩ := Option.map_eq_some_iff.1 h0
      obtain ⟨f1, e1, rfl⟩ := Option.map_eq_some_iff.1 h1
      obtain ⟨f2, e2, rfl⟩ := Option.map_eq_some_iff.1 h2
      obtain ⟨v0, y0, c0, _, t0⟩ := hj 0 f0 e0
      obtain ⟨v1, y1, c1, _, t1⟩ := hj 1 f1 e1
      obtain ⟨v2, y2, c2, _, t2⟩ := hj 2 f2 e2
      obtain ⟨k, q0, _, wk⟩ := DataW.trod_int hK t0
      obtain ⟨z, q1, _, wz⟩ := DataW.trod_int hI t1
      obtain ⟨s, q2, _, ws⟩ := DataW.trod_string hT t2
      simp only [List.cons.injEq, and_true] at q0 q1 q2
      subst q0 q1 q2
      rw [hsz] at c0 c1 c2
      have hs : a.spot = none := hspot (by omega)
      have ea : ∀ k, a.add k = ⟨a.block, a.off + k, none⟩ := add_none hs
      rw [ea] at c0 c1 c2
      exact ⟨⟨k, z, s⟩, ⟨hs, wk, wz, ws⟩, by simpa using c0, by simpa [Nat.add_assoc] using c1, by simpa [Nat.add_assoc] using c2⟩
    obtain ⟨l, rfl, hp⟩ := list_of len key
    exact ⟨_, l, rfl, ⟨some a, cap, rfl, hl, hm, fun i hi => ⟨a.block, a.off, (by obtain ⟨⟨hs, _⟩, _⟩ := hp i hi; cases a; simp only at hs; subst hs; rfl), (hp i hi).2⟩⟩, fun x hx => (by obtain ⟨i, hi, rfl⟩ := List.getElem_of_mem hx; exact (hp i hi).1.2)⟩
end
end Go.Proofs.Ytjpdmlopbflggaa
