/-
  PROVED HERE: values and rows that came in, opened by their cells.
  PROVED HERE: what the bound on the bulk says of values, rows, bytes that came in.
  PROVED HERE: a row that came in as an argument, with its bulk. No program of its own.
-/
import Derived.Test.YtbabfibmopfghaaGreatDoorRows
import Derived.Test.YtbabfibmopfghaaGreatDoorOpen
import Derived.Test.YtbabfibmopfghaaGreatDoorPutPlain
import Derived.Lib.SmallJoins
namespace Go.Proofs.YtbabfibmopfghaaGreatDoor
set_option linter.unusedSimpArgs false
set_option linter.unusedVariables false
open Go Go.RowKit Go.Deep

theorem list_one {α : Type} : ∀ {l : List α}, l.length = 1 → ∃ a, l = [a]
  | [a], _ => ⟨a, rfl⟩
theorem list_take {α : Type} {l : List α} {n i : Nat} (hl : l.length = n) (h : i < n) : ∃ a, l[i]? = some a ∧ (l.drop i).take 1 = [a] :=
  ⟨l[i]'(by omega), List.getElem?_eq_getElem (by omega), by rw [List.drop_eq_getElem_cons (by omega)]; rfl⟩
theorem list_three {α : Type} {l : List α} (h : l.length = 3) {a b c : α} (h0 : l[0]? = some a) (h1 : l[1]? = some b) (h2 : l[2]? = some c) : l = [a, b, c] := by
  match l, h with
  | [x, y, z], _ => simp at h0 h1 h2; simp [h0, h1, h2]

section
variable {H : Type} {enc : TypeId × Value → H} {w : World} {base : Nat} {spare : Nat → Bool} {held : Bool}
theorem cell_kind : Tryz.prog.cellsOf 60 = 1 := by kernel_rfl
theorem cell_i64 : Tryz.prog.cellsOf 2 = 1 := by kernel_rfl
theorem cell_str : Tryz.prog.cellsOf 9 = 1 := by kernel_rfl
theorem val_cells {n : Nat} {cs : List Value} {d : DataW H} {pl : List MemPlace} (h : DataW.trod enc Tryz.prog w base spare held n 62 cs = some (d, pl)) (hf : Fits Tryz.prog 62 d) : ∃ x : Val, cs = x.cells ∧ ValOk x := by
  obtain ⟨hl, hfs⟩ := open_struct Tryz.underlying62 h hf
  have hl' : cs.length = 3 := hl.trans (by kernel_rfl)
  obtain ⟨n0, d0, p0, t0, f0⟩ := hfs 0 _ rfl
  obtain ⟨n1, d1, p1, t1, f1⟩ := hfs 1 _ rfl
  obtain ⟨n2, d2, p2, t2, f2⟩ := hfs 2 _ rfl
  obtain ⟨a0, e0, s0⟩ := list_take (i := 0) hl' (by omega)
  obtain ⟨a1, e1, s1⟩ := list_take (i := 1) hl' (by omega)
  obtain ⟨a2, e2, s2⟩ := list_take (i := 2) hl' (by omega)
  change DataW.trod enc Tryz.prog w base spare held n0 60 ((cs.drop 0).take (Tryz.prog.cellsOf 60)) = _ at t0
  rw [cell_kind, s0] at t0
  change DataW.trod enc Tryz.prog w base spare held n1 2 ((cs.drop 1).take (Tryz.prog.cellsOf 2)) = _ at t1
  rw [cell_i64, s1] at t1
  change DataW.trod enc Tryz.prog w base spare held n2 9 ((cs.drop 2).take (Tryz.prog.cellsOf 9)) = _ at t2
  rw [cell_str, s2] at t2
  obtain ⟨k, q0, _, w0⟩ := DataW.trod_int Tryz.underlying60 t0
  obtain ⟨i, q1, _, w1⟩ := DataW.trod_int Tryz.underlying2 t1
  obtain ⟨s, q2, _, w2⟩ := DataW.trod_string Tryz.underlying9 t2
  simp only [List.cons.injEq, and_true] at q0 q1 q2
  subst q0 q1 q2
  exact ⟨⟨k, i, s⟩, list_three hl' e0 e1 e2, w0, w1, w2⟩
theorem vals_of {n : Nat} {cs : List Value} {d : DataW H} {pl : List MemPlace} (h : DataW.trod enc Tryz.prog w base spare held n 22 cs = some (d, pl)) (hf : Fits Tryz.prog 22 d) :
    ∃ v l, cs = [v] ∧ IsVals w v l ∧ (∀ x ∈ l, ValOk x) ∧ l.length * 32 ≤ reachBytes := by
  obtain ⟨v, l, h1, h2, h3, h4⟩ := open_list (At := ValAt) (Good := ValOk) (size := 3) Tryz.underlying22 (by kernel_rfl) (by decide) (fun n cs' d pl ht hf _ => by
    obtain ⟨x, rfl, hx⟩ := val_cells ht hf
    exact ⟨x, hx, fun b o hc => ⟨hc 0 _ rfl, hc 1 _ rfl, hc 2 _ rfl⟩⟩) h hf
  have hb : Tryz.prog.bytesOf 62 = 32 := by kernel_rfl
  rw [hb] at h4
  exact ⟨v, l, h1, h2, h3, h4⟩
def RowGood (x : Row) : Prop := (Lit.int .i64 x.time).wf = true ∧ (∀ y ∈ x.vals, ValOk y) ∧ x.vals.length * 32 ≤ reachBytes
theorem cell_vals : Tryz.prog.cellsOf 22 = 1 := by kernel_rfl
theorem list_two {α : Type} {l : List α} (h : l.length = 2) {a b : α} (h0 : l[0]? = some a) (h1 : l[1]? = some b) : l = [a, b] := by
  match l, h with
  | [x, y], _ => simp at h0 h1; simp [h0, h1]
theorem row_cells {n : Nat} {cs : List Value} {d : DataW H} {pl : List MemPlace} (h : DataW.trod enc Tryz.prog w base spare held n 24 cs = some (d, pl)) (hf : Fits Tryz.prog 24 d) :
    ∃ (x : Row) (v : Value), cs = [.int .i64 x.time, v] ∧ IsVals w v x.vals ∧ RowGood x := by
  obtain ⟨hl, hfs⟩ := open_struct Tryz.underlying24 h hf
  have hl' : cs.length = 2 := hl.trans (by kernel_rfl)
  obtain ⟨n0, d0, p0, t0, f0⟩ := hfs 0 _ rfl
  obtain ⟨n1, d1, p1, t1, f1⟩ := hfs 1 _ rfl
  obtain ⟨a0, e0, s0⟩ := list_take (i := 0) hl' (by omega)
  obtain ⟨a1, e1, s1⟩ := list_take (i := 1) hl' (by omega)
  change DataW.trod enc Tryz.prog w base spare held n0 2 ((cs.drop 0).take (Tryz.prog.cellsOf 2)) = _ at t0
  rw [cell_i64, s0] at t0
  change DataW.trod enc Tryz.prog w base spare held n1 22 ((cs.drop 1).take (Tryz.prog.cellsOf 22)) = _ at t1
  rw [cell_vals, s1] at t1
  obtain ⟨k, q0, _, w0⟩ := DataW.trod_int Tryz.underlying2 t0
  obtain ⟨v, l, q1, hv, hok, hb⟩ := vals_of t1 f1
  simp only [List.cons.injEq, and_true] at q0 q1
  subst q0 q1
  exact ⟨⟨k, l⟩, _, list_two hl' e0 e1, hv, w0, hok, hb⟩
end
end Go.Proofs.YtbabfibmopfghaaGreatDoor
namespace Go.Proofs.YtbabfibmopfghaaGreatDoor
set_option linter.unusedSimpArgs false
set_option linter.unusedVariables false
open Go Go.RowKit Go.Deep

section
variable {H : Type} {P : Program} {enc : TypeId × Value → H} {w : World} {base : Nat} {spare : Nat → Bool} {held : Bool}
theorem bulk_range (n : Nat) (D : Nat → DataW H) (f : Nat → Nat) (h : ∀ i, i < n → f i ≤ Rows.uptoBulk (D i)) : ((List.range n).map f).sum ≤ Rows.uptoBulkAll ((List.range n).map D) := by
  have key : ∀ l : List Nat, (∀ i ∈ l, i < n) → (l.map f).sum ≤ Rows.uptoBulkAll (l.map D) := by
    intro l
    induction l with
    | nil => intro _; simp [Rows.uptoBulkAll]
    | cons i l ih =>
      intro hl
      have h1 := h i (hl i List.mem_cons_self)
      have h2 := ih fun j hj => hl j (List.mem_cons_of_mem _ hj)
      simp only [List.map_cons, List.sum_cons, Rows.uptoBulkAll]
      omega
  exact key _ fun i hi => List.mem_range.1 hi
theorem open_parts {t : TypeId} {fs : Array Field} {n : Nat} {cs : List Value} {d : DataW H} {pl : List MemPlace} (ht : P.underlying t = some (.struct fs)) (h : DataW.trod enc P w base spare held n t cs = some (d, pl)) :
    ∃ parts, d = .agg parts ∧ cs.length = P.cellsOf t ∧ parts.length = fs.size ∧ ∀ (i : Nat) (f : Field), fs[i]? = some f → ∃ n' d' pl', parts[i]? = some d' ∧ DataW.trod enc P w base spare held n' f.type ((cs.drop f.offset).take (P.cellsOf f.type)) = some (d', pl') := by
  obtain ⟨xs, n', _, hx, hl, hxl, hfs⟩ := DataW.trod_struct ht h
  simp only [Prod.mk.injEq] at hx
  obtain ⟨rfl, -⟩ := hx
  refine ⟨_, rfl, hl, by simpa using hxl, fun i f hi => ?_⟩
  have hlt : i < xs.length := by rw [hxl]; exact (Array.getElem?_eq_some_iff.1 hi).1
  have hg := hfs i f hi
  rw [List.getElem?_eq_getElem hlt] at hg
  exact ⟨n', xs[i].1, xs[i].2, by simp [hlt], hg⟩
theorem open_list_bulk {α : Type} {tS e : TypeId} {size fuel : Nat} {At : World → Nat → Nat → α → Prop} {Good : α → Prop} {sz : α → Nat} {cs : List Value} {d : DataW H} {pl : List MemPlace} (ht : P.underlying tS = some (.slice e)) (hC : P.cellsOf e = size) (hpos : 0 < size)
    (hE : ∀ n cs' d pl, DataW.trod enc P w base spare held n e cs' = some (d, pl) → cs'.length = size → ∃ x, Good x ∧ sz x ≤ Rows.uptoBulk d ∧ ∀ b o, (∀ j u, cs'[j]? = some u → w.cell? ⟨b, o + j, none⟩ = some u) → At w b o x)
    (h : DataW.trod enc P w base spare held fuel tS cs = some (d, pl)) : ∃ v l, cs = [v] ∧ SliceOf All At size w v l ∧ (∀ x ∈ l, Good x) ∧ (l.map sz).sum + 1 ≤ Rows.uptoBulk d := by
  rcases open_slice ht h with ⟨rfl, hd⟩ | ⟨a, len, cap, m, n, D, Pl, rfl, _, hl, hm, hmm, hx, hi⟩
  · simp only [Prod.mk.injEq] at hd
    obtain ⟨rfl, -⟩ := hd
    exact ⟨_, [], rfl, ⟨none, 0, rfl, Nat.le_refl _, by unfold maxLen; omega, fun _ => rfl, fun i hi => (by cases hi)⟩, (fun x hx => (by cases hx)), by simp [Rows.uptoBulk]⟩
  · have hlm : len ≤ m := by rw [hmm]; split <;> omega
    simp only [Prod.mk.injEq] at hx
    obtain ⟨rfl, -⟩ := hx
    have key : ∀ i, i < len → ∃ x, (a.spot = none ∧ Good x ∧ sz x ≤ Rows.uptoBulk (D i)) ∧ At w a.block (a.off + i * size) x := fun i hil => by
      obtain ⟨cs', hc, ht'⟩ := hi i (by omega)
      rw [hC] at hc
      obtain ⟨_, hcl, hat⟩ := World.cells?_some hc
      have hs : a.spot = none := by
        obtain ⟨cs0, hc0, _⟩ := hi 0 (by omega)
        rw [hC] at hc0
        obtain ⟨_, hcl0, hat0⟩ := World.cells?_some hc0
        have h0 := hat0 0 hpos
        rw [List.getElem?_eq_getElem (by omega)] at h0
        have := World.cell?_spot h0
        simpa [Addr.add] using this
      obtain ⟨x, hg, hb, hA⟩ := hE n cs' _ _ ht' hcl
      refine ⟨x, ⟨hs, hg, hb⟩, hA _ _ fun j u hu => ?_⟩
      have hj : j < size := by have := (List.getElem?_eq_some_iff.1 hu).1; omega
      have hh := hat j hj
      rw [hu, add_none hs, add_none rfl] at hh
      exact hh
    obtain ⟨l, rfl, hp⟩ := list_of len key
    refine ⟨_, l, rfl, ⟨some a, cap, rfl, hl, hm, fun h => (by cases h), fun i hi => ⟨a.block, a.off, (by obtain ⟨⟨hs, _⟩, _⟩ := hp i hi; cases a; simp only at hs; subst hs; rfl), trivial, (hp i hi).2⟩⟩, fun x hx => (by obtain ⟨i, hi, rfl⟩ := List.getElem_of_mem hx; exact (hp i hi).1.2.1), ?_⟩
    have h1 := bulk_range l.length D (fun i => if h : i < l.length then sz l[i] else 0) fun i hi => by
      simp only [hi, dite_true]
      exact (hp i hi).1.2.2
    have h2 : (List.range l.length).map (fun i => if h : i < l.length then sz l[i] else 0) = l.map sz := by
      refine List.ext_getElem (by simp) fun i h1 h2 => ?_
      have hi : i < l.length := by simpa using h2
      simp [hi]
    rw [h2] at h1
    simp only [Rows.uptoBulk]
    omega
end

section
variable {H : Type} {enc : TypeId × Value → H} {w : World} {base : Nat} {spare : Nat → Bool} {held : Bool}
def Val.bulk (x : Val) : Nat := x.t.size + 4
def Row.bulk (r : Row) : Nat := (r.vals.map Val.bulk).sum + 3
theorem val_bulk {n : Nat} {cs : List Value} {d : DataW H} {pl : List MemPlace} (h : DataW.trod enc Tryz.prog w base spare held n 62 cs = some (d, pl)) : ∃ x : Val, cs = x.cells ∧ ValOk x ∧ x.bulk ≤ Rows.uptoBulk d := by
  obtain ⟨parts, rfl, hl, hpl, hfs⟩ := open_parts Tryz.underlying62 h
  have hl' : cs.length = 3 := hl.trans (by kernel_rfl)
  obtain ⟨n0, d0, p0, g0, t0⟩ := hfs 0 _ rfl
  obtain ⟨n1, d1, p1, g1, t1⟩ := hfs 1 _ rfl
  obtain ⟨n2, d2, p2, g2, t2⟩ := hfs 2 _ rfl
  have hp := list_three (hpl.trans rfl) g0 g1 g2
  obtain ⟨a0, e0, s0⟩ := list_take (i := 0) hl' (by omega)
  obtain ⟨a1, e1, s1⟩ := list_take (i := 1) hl' (by omega)
  obtain ⟨a2, e2, s2⟩ := list_take (i := 2) hl' (by omega)
  change DataW.trod enc Tryz.prog w base spare held n0 60 ((cs.drop 0).take (Tryz.prog.cellsOf 60)) = _ at t0
  rw [cell_kind, s0] at t0
  change DataW.trod enc Tryz.prog w base spare held n1 2 ((cs.drop 1).take (Tryz.prog.cellsOf 2)) = _ at t1
  rw [cell_i64, s1] at t1
  change DataW.trod enc Tryz.prog w base spare held n2 9 ((cs.drop 2).take (Tryz.prog.cellsOf 9)) = _ at t2
  rw [cell_str, s2] at t2
  obtain ⟨k, q0, x0, w0⟩ := DataW.trod_int Tryz.underlying60 t0
  obtain ⟨i, q1, x1, w1⟩ := DataW.trod_int Tryz.underlying2 t1
  obtain ⟨s, q2, x2, w2⟩ := DataW.trod_string Tryz.underlying9 t2
  simp only [List.cons.injEq, and_true] at q0 q1 q2
  simp only [Prod.mk.injEq] at x0 x1 x2
  obtain ⟨rfl, -⟩ := x0; obtain ⟨rfl, -⟩ := x1; obtain ⟨rfl, -⟩ := x2
  subst q0 q1 q2 hp
  refine ⟨⟨k, i, s⟩, list_three hl' e0 e1 e2, ⟨w0, w1, w2⟩, ?_⟩
  have e : s.data.toList.length = s.size := by rw [Array.length_toList]; rfl
  simp only [Rows.uptoBulk, Rows.uptoBulkAll, Val.bulk]
  omega
theorem row_bulk {n : Nat} {cs : List Value} {d : DataW H} {pl : List MemPlace} (h : DataW.trod enc Tryz.prog w base spare held n 24 cs = some (d, pl)) :
    ∃ (x : Row) (v : Value), cs = [.int .i64 x.time, v] ∧ IsVals w v x.vals ∧ ((Lit.int .i64 x.time).wf = true ∧ ∀ y ∈ x.vals, ValOk y) ∧ x.bulk ≤ Rows.uptoBulk d := by
  obtain ⟨parts, rfl, hl, hpl, hfs⟩ := open_parts Tryz.underlying24 h
  have hl' : cs.length = 2 := hl.trans (by kernel_rfl)
  obtain ⟨n0, d0, p0, g0, t0⟩ := hfs 0 _ rfl
  obtain ⟨n1, d1, p1, g1, t1⟩ := hfs 1 _ rfl
  have hp := list_two (hpl.trans rfl) g0 g1
  obtain ⟨a0, e0, s0⟩ := list_take (i := 0) hl' (by omega)
  obtain ⟨a1, e1, s1⟩ := list_take (i := 1) hl' (by omega)
  change DataW.trod enc Tryz.prog w base spare held n0 2 ((cs.drop 0).take (Tryz.prog.cellsOf 2)) = _ at t0
  rw [cell_i64, s0] at t0
  change DataW.trod enc Tryz.prog w base spare held n1 22 ((cs.drop 1).take (Tryz.prog.cellsOf 22)) = _ at t1
  rw [cell_vals, s1] at t1
  obtain ⟨k, q0, x0, w0⟩ := DataW.trod_int Tryz.underlying2 t0
  obtain ⟨v, l, q1, hv, hok, hb⟩ := open_list_bulk (At := ValAt) (Good := ValOk) (sz := Val.bulk) (size := 3) Tryz.underlying22 (by kernel_rfl) (by decide) (fun n cs' d pl ht _ => by
    obtain ⟨x, rfl, hx, hbx⟩ := val_bulk ht
    exact ⟨x, hx, hbx, fun b o hc => ⟨hc 0 _ rfl, hc 1 _ rfl, hc 2 _ rfl⟩⟩) t1
  simp only [List.cons.injEq, and_true] at q0 q1
  simp only [Prod.mk.injEq] at x0
  obtain ⟨rfl, -⟩ := x0
  subst q0 q1 hp
  refine ⟨⟨k, l⟩, _, list_two hl' e0 e1, hv, ⟨w0, hok⟩, ?_⟩
  simp only [Rows.uptoBulk, Rows.uptoBulkAll, Row.bulk]
  omega
theorem rows_bulk {n : Nat} {cs : List Value} {d : DataW H} {pl : List MemPlace} (h : DataW.trod enc Tryz.prog w base spare held n 444 cs = some (d, pl)) :
    ∃ v l, cs = [v] ∧ IsRows w v l ∧ (∀ x ∈ l, (Lit.int .i64 x.time).wf = true ∧ ∀ y ∈ x.vals, ValOk y) ∧ (l.map Row.bulk).sum + 1 ≤ Rows.uptoBulk d :=
  open_list_bulk (At := RowAt All) (Good := fun x : Row => (Lit.int .i64 x.time).wf = true ∧ ∀ y ∈ x.vals, ValOk y) (sz := Row.bulk) (size := 2) Tryz.underlying444 (by kernel_rfl) (by decide) (fun n cs' d pl ht _ => by
    obtain ⟨x, v, rfl, hv, hg, hb⟩ := row_bulk ht
    exact ⟨x, hg, hb, fun b o hc => ⟨hc 0 _ rfl, v, hc 1 _ rfl, hv⟩⟩) h
theorem encVals_bulk (l : List Val) : (encVals l).length ≤ 12 * (l.map Val.bulk).sum := by
  induction l with
  | nil => simp [encVals]
  | cons x l ih =>
    have h1 : (encVal x).length ≤ 12 + x.t.size := by
      have e : x.t.data.toList.length = x.t.size := by rw [Array.length_toList]; rfl
      unfold encVal
      rw [List.length_cons]
      split
      · have := encInt_length x.n; omega
      · split
        · have := encInt_length (x.t.size : Int)
          rw [encText, List.length_append, e]; omega
        · simp; omega
    simp only [encVals, List.flatMap_cons, List.length_append, List.map_cons, List.sum_cons] at ih ⊢
    simp only [Val.bulk]
    omega
theorem encRows_bulk (l : List Row) : (encRows l).length ≤ 11 + 12 * (l.map Row.bulk).sum := by
  have key : (encRowList l).length ≤ 12 * (l.map Row.bulk).sum := by
    induction l with
    | nil => simp [encRowList]
    | cons r l ih =>
      have h1 := encVals_bulk r.vals
      have h2 := encInt_length r.time
      have h3 := encInt_length (r.vals.length : Int)
      simp only [encRowList, List.flatMap_cons, List.length_append, List.map_cons, List.sum_cons, encRow] at ih ⊢
      simp only [Row.bulk]
      omega
  have := encInt_length (l.length : Int)
  rw [encRows, List.length_append]
  omega
/-- bytes that came in, and how many. -/
theorem bytes_bulk {tS e : TypeId} {n : Nat} {cs : List Value} {d : DataW H} {pl : List MemPlace} (ht : Tryz.prog.underlying tS = some (.slice e)) (he : Tryz.prog.underlying e = some (.int .u8)) (hC : Tryz.prog.cellsOf e = 1)
    (h : DataW.trod enc Tryz.prog w base spare held n tS cs = some (d, pl)) : ∃ v l, cs = [v] ∧ IsBytes w v l ∧ l.length + 1 ≤ Rows.uptoBulk d := by
  obtain ⟨v, l, h1, h2, _, h4⟩ := open_list_bulk (At := ByteAt) (Good := fun _ => True) (sz := fun _ => 1) (size := 1) ht hC (by decide) (fun n cs' d pl ht' hl => by
    obtain ⟨c0, rfl⟩ := list_one' hl
    obtain ⟨k, q0, x0, hw⟩ := DataW.trod_int he ht'
    have hk : 0 ≤ k ∧ k < 256 := by
      simp [Lit.wf, IntKind.min, IntKind.max, IntKind.bits, IntKind.signed] at hw
      omega
    simp only [Prod.mk.injEq] at x0
    obtain ⟨rfl, -⟩ := x0
    refine ⟨UInt8.ofNat k.toNat, trivial, by simp [Rows.uptoBulk], fun b o hc => ?_⟩
    have := hc 0 c0 rfl
    simp only [List.cons.injEq, and_true] at q0
    subst q0
    unfold ByteAt
    rw [Nat.add_zero] at this
    rw [this]
    exact congrArg (fun z => some (Value.int .u8 z)) (by rw [UInt8.toNat_ofNat']; omega)) h
  have hs : ∀ l : List UInt8, (l.map fun _ => 1).sum = l.length := fun l => by induction l <;> simp_all [Nat.add_comm]
  rw [hs] at h4
  exact ⟨v, l, h1, h2, h4⟩
end
end Go.Proofs.YtbabfibmopfghaaGreatDoor
namespace Go.Proofs.YtbabfibmopfghaaGreatDoor
set_option linter.unusedSimpArgs false
set_option linter.unusedVariables false
open Go Go.RowKit Go.Deep Go.Joins Go.WideShapes

section
variable {H : Type} {enc : TypeId × Value → H} {w : World} {base b0 : Nat} {spare : Nat → Bool} {held : Bool} {r : Reach}
theorem upto_pos (d : DataW H) : 1 ≤ Rows.uptoBulk d := by
  cases d with
  | lit l => cases l <;> unfold Rows.uptoBulk <;> omega
  | _ => unfold Rows.uptoBulk; omega
set_option maxRecDepth 100000 in
theorem row_arg_bulk {v : Value} {d : DataW H} {p : List MemPlace} (hv : Value.okWide Tryz.prog w r b0 24 v) (h : DataW.Trod enc Tryz.prog w base spare held 24 v d p) :
    ∃ (x : Row) (u : Value), v = .agg #[.int .i64 x.time, u] ∧ IsVals w u x.vals ∧ (Lit.int .i64 x.time).wf = true ∧ (∀ y ∈ x.vals, ValOk y) ∧ x.bulk ≤ Rows.uptoBulk d := by
  obtain ⟨c0, c1, y0, y1, n, rfl, rfl, -, h0, h1⟩ := open_agg2 Tryz.underlying24 (by kernel_rfl) (by kernel_rfl) hv h
  obtain ⟨k, q0, _, w0⟩ := DataW.trod_int Tryz.underlying2 h0
  obtain ⟨d1, p1⟩ := y1
  obtain ⟨u, l, q1, hl, hok, hb⟩ := open_list_bulk (At := ValAt) (Good := ValOk) (sz := Val.bulk) (size := 3) Tryz.underlying22 (by kernel_rfl) (by decide) (fun n cs' d pl ht _ => by
    obtain ⟨x, rfl, hx, hbx⟩ := val_bulk ht
    exact ⟨x, hx, hbx, fun b o hc => ⟨hc 0 _ rfl, hc 1 _ rfl, hc 2 _ rfl⟩⟩) h1
  simp only [List.cons.injEq, and_true] at q0 q1
  subst q0 q1
  refine ⟨⟨k, l⟩, _, rfl, hl, w0, hok, ?_⟩
  simp only [Rows.uptoBulk, Rows.uptoBulkAll, Row.bulk]
  have h3 : 1 ≤ Rows.uptoBulk y0.1 := upto_pos y0.1
  omega
theorem vals_len_bulk (l : List Val) : l.length ≤ (l.map Val.bulk).sum := by
  induction l with
  | nil => simp
  | cons x l ih => simp only [List.length_cons, List.map_cons, List.sum_cons, Val.bulk]; omega
end
end Go.Proofs.YtbabfibmopfghaaGreatDoor
