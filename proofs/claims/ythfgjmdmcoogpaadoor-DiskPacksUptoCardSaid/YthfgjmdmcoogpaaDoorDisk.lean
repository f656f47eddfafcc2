/-
  PROVED HERE: checkpoints in memory, as bytes; a checkpoint that came in. No program of its own.
-/
import Derived.Test.YthfgjmdmcoogpaaDoorUpto
import Derived.Test.YthfgjmdmcoogpaaDoorBackParts
import Derived.Lib.SmallJoins
namespace Go.Proofs.YthfgjmdmcoogpaaDoor
set_option linter.unusedSimpArgs false
set_option linter.unusedVariables false
open Go Go.RowKit Go.Deep Go.Joins

abbrev Off := Int × Int × Int
structure Held where
  node : Int
  group : Int
  bytes : List UInt8
structure Chk where
  mark : Int
  offs : List Off
  helds : List Held
def I64 (n : Int) : Prop := (Lit.int .i64 n).wf = true
def OffOk (x : Off) : Prop := I64 x.1 ∧ I64 x.2.1 ∧ I64 x.2.2
def HeldOk (x : Held) : Prop := I64 x.node ∧ I64 x.group
def OffAt (w : World) (b o : Nat) (x : Off) : Prop := w.cell? ⟨b, o, none⟩ = some (.int .i64 x.1) ∧ w.cell? ⟨b, o + 1, none⟩ = some (.int .i64 x.2.1) ∧ w.cell? ⟨b, o + 2, none⟩ = some (.int .i64 x.2.2)
def HeldAt (S : Nat → Prop) (w : World) (b o : Nat) (x : Held) : Prop := w.cell? ⟨b, o, none⟩ = some (.int .i64 x.node) ∧ w.cell? ⟨b, o + 1, none⟩ = some (.int .i64 x.group) ∧ ∃ v, w.cell? ⟨b, o + 2, none⟩ = some v ∧ BytesIn S w v x.bytes
abbrev OffsIn (S : Nat → Prop) (w : World) (v : Value) (l : List Off) : Prop := SliceOf S OffAt 3 w v l
abbrev HeldsIn (S : Nat → Prop) (w : World) (v : Value) (l : List Held) : Prop := SliceOf S (HeldAt S) 3 w v l
theorem SliceOf.offs_later {S : Nat → Prop} {w w' : World} {v : Value} {l : List Off} (h : OffsIn S w v l) (k : Later w w') : OffsIn S w' v l := h.map fun _ _ _ hb hx => ⟨hb, k.cell hx.1, k.cell hx.2.1, k.cell hx.2.2⟩
theorem HeldAt.later {S : Nat → Prop} {w w' : World} {b o : Nat} {x : Held} (h : HeldAt S w b o x) (k : Later w w') : HeldAt S w' b o x := let ⟨v, h1, h2⟩ := h.2.2; ⟨k.cell h.1, k.cell h.2.1, v, k.cell h1, h2.bytes_later k⟩
theorem SliceOf.helds_later {S : Nat → Prop} {w w' : World} {v : Value} {l : List Held} (h : HeldsIn S w v l) (k : Later w w') : HeldsIn S w' v l := h.map fun _ _ _ hb hx => ⟨hb, hx.later k⟩

def encOff (x : Off) : List UInt8 := encInt x.1 ++ (encInt x.2.1 ++ encInt x.2.2)
def encHeld (x : Held) : List UInt8 := encInt x.node ++ (encInt x.group ++ (encInt x.bytes.length ++ x.bytes))
def encChk (c : Chk) : List UInt8 := encInt c.mark ++ (encInt c.offs.length ++ (c.offs.flatMap encOff ++ (encInt c.helds.length ++ c.helds.flatMap encHeld)))

section
variable {H : Type} {enc : TypeId × Value → H} {w : World} {base b0 : Nat} {spare : Nat → Bool} {held : Bool} {r : Reach}
def Held.bulk (x : Held) : Nat := x.bytes.length + 3
theorem cell_int : Tryd.prog.cellsOf 3 = 1 := by kernel_rfl
theorem cell_u8s : Tryd.prog.cellsOf 76 = 1 := by kernel_rfl
theorem cell_piece : Tryd.prog.cellsOf 156 = 2 := by kernel_rfl
set_option maxRecDepth 100000 in
theorem off_bulk {n : Nat} {cs : List Value} {d : DataW H} {pl : List MemPlace} (h : DataW.trod enc Tryd.prog w base spare held n 154 cs = some (d, pl)) : ∃ x : Off, cs = [.int .i64 x.1, .int .i64 x.2.1, .int .i64 x.2.2] ∧ OffOk x ∧ 4 ≤ Rows.uptoBulk d := by
  obtain ⟨parts, rfl, hl, hpl, hfs⟩ := open_parts Tryd.underlying154 h
  have hl' : cs.length = 3 := hl.trans (by kernel_rfl)
  obtain ⟨n0, d0, p0, g0, t0⟩ := hfs 0 _ rfl
  obtain ⟨n1, d1, p1, g1, t1⟩ := hfs 1 _ rfl
  obtain ⟨n2, d2, p2, g2, t2⟩ := hfs 2 _ rfl
  have hp := list_three (hpl.trans rfl) g0 g1 g2
  obtain ⟨a0, e0, s0⟩ := list_take (i := 0) hl' (by omega)
  obtain ⟨a1, e1, s1⟩ := list_take (i := 1) hl' (by omega)
  obtain ⟨a2, e2, s2⟩ := list_take (i := 2) hl' (by omega)
  change DataW.trod enc Tryd.prog w base spare held n0 3 ((cs.drop 0).take (Tryd.prog.cellsOf 3)) = _ at t0
  rw [cell_int, s0] at t0
  change DataW.trod enc Tryd.prog w base spare held n1 3 ((cs.drop 1).take (Tryd.prog.cellsOf 3)) = _ at t1
  rw [cell_int, s1] at t1
  change DataW.trod enc Tryd.prog w base spare held n2 3 ((cs.drop 2).take (Tryd.prog.cellsOf 3)) = _ at t2
  rw [cell_int, s2] at t2
  obtain ⟨k, q0, x0, w0⟩ := DataW.trod_int Tryd.underlying3 t0
  obtain ⟨i, q1, x1, w1⟩ := DataW.trod_int Tryd.underlying3 t1
  obtain ⟨s, q2, x2, w2⟩ := DataW.trod_int Tryd.underlying3 t2
  simp only [List.cons.injEq, and_true] at q0 q1 q2
  simp only [Prod.mk.injEq] at x0 x1 x2
  obtain ⟨rfl, -⟩ := x0; obtain ⟨rfl, -⟩ := x1; obtain ⟨rfl, -⟩ := x2
  subst q0 q1 q2 hp
  exact ⟨(k, i, s), list_three hl' e0 e1 e2, ⟨w0, w1, w2⟩, by simp [Rows.uptoBulk, Rows.uptoBulkAll]⟩
set_option maxRecDepth 100000 in
theorem held_bulk {n : Nat} {cs : List Value} {d : DataW H} {pl : List MemPlace} (h : DataW.trod enc Tryd.prog w base spare held n 158 cs = some (d, pl)) :
    ∃ (x : Held) (v : Value), cs = [.int .i64 x.node, .int .i64 x.group, v] ∧ IsBytes w v x.bytes ∧ HeldOk x ∧ x.bulk ≤ Rows.uptoBulk d := by
  obtain ⟨parts, rfl, hl, hpl, hfs⟩ := open_parts Tryd.underlying158 h
  have hl' : cs.length = 3 := hl.trans (by kernel_rfl)
  obtain ⟨n0, d0, p0, g0, t0⟩ := hfs 0 _ rfl
  obtain ⟨n1, d1, p1, g1, t1⟩ := hfs 1 _ rfl
  have hp := list_two (hpl.trans rfl) g0 g1
  obtain ⟨c0, c1, c2, rfl⟩ : ∃ c0 c1 c2, cs = [c0, c1, c2] := by
    match cs, hl' with
    | [c0, c1, c2], _ => exact ⟨_, _, _, rfl⟩
  change DataW.trod enc Tryd.prog w base spare held n0 3 (([c0, c1, c2].drop 0).take (Tryd.prog.cellsOf 3)) = _ at t0
  rw [cell_int] at t0
  change DataW.trod enc Tryd.prog w base spare held n1 156 (([c0, c1, c2].drop 1).take (Tryd.prog.cellsOf 156)) = _ at t1
  rw [cell_piece] at t1
  simp only [List.drop_zero, List.take_succ_cons, List.take_zero, List.drop_succ_cons] at t0 t1
  obtain ⟨parts1, rfl, hl1, hpl1, hfs1⟩ := open_parts Tryd.underlying156 t1
  obtain ⟨m0, f0, r0, k0, u0⟩ := hfs1 0 _ rfl
  obtain ⟨m1, f1, r1, k1, u1⟩ := hfs1 1 _ rfl
  have hp1 := list_two (hpl1.trans rfl) k0 k1
  change DataW.trod enc Tryd.prog w base spare held m0 3 (([c1, c2].drop 0).take (Tryd.prog.cellsOf 3)) = _ at u0
  rw [cell_int] at u0
  change DataW.trod enc Tryd.prog w base spare held m1 76 (([c1, c2].drop 1).take (Tryd.prog.cellsOf 76)) = _ at u1
  rw [cell_u8s] at u1
  simp only [List.drop_zero, List.take_succ_cons, List.take_zero, List.drop_succ_cons] at u0 u1
  obtain ⟨k, q0, x0, w0⟩ := DataW.trod_int Tryd.underlying3 t0
  obtain ⟨i, q1, x1, w1⟩ := DataW.trod_int Tryd.underlying3 u0
  obtain ⟨v, l, q2, hv, hb⟩ := bytes_bulk Tryd.underlying76 Tryd.underlying5 (by kernel_rfl) u1
  simp only [List.cons.injEq, and_true] at q0 q1 q2
  simp only [Prod.mk.injEq] at x0 x1
  obtain ⟨rfl, -⟩ := x0; obtain ⟨rfl, -⟩ := x1
  subst q0 q1 q2 hp hp1
  refine ⟨⟨k, i, l⟩, _, rfl, hv, ⟨w0, w1⟩, ?_⟩
  simp only [Rows.uptoBulk, Rows.uptoBulkAll, Held.bulk]
  omega
theorem offs_bulk {n : Nat} {cs : List Value} {d : DataW H} {pl : List MemPlace} (h : DataW.trod enc Tryd.prog w base spare held n 101 cs = some (d, pl)) :
    ∃ v l, cs = [v] ∧ OffsIn All w v l ∧ (∀ x ∈ l, OffOk x) ∧ (l.map fun _ => 4).sum + 1 ≤ Rows.uptoBulk d :=
  open_list_bulk (At := OffAt) (Good := OffOk) (sz := fun _ => 4) (size := 3) Tryd.underlying101 (by kernel_rfl) (by decide) (fun n cs' d pl ht _ => by
    obtain ⟨x, rfl, hg, hb⟩ := off_bulk ht
    exact ⟨x, hg, hb, fun b o hc => ⟨hc 0 _ rfl, hc 1 _ rfl, hc 2 _ rfl⟩⟩) h
theorem helds_bulk {n : Nat} {cs : List Value} {d : DataW H} {pl : List MemPlace} (h : DataW.trod enc Tryd.prog w base spare held n 102 cs = some (d, pl)) :
    ∃ v l, cs = [v] ∧ HeldsIn All w v l ∧ (∀ x ∈ l, HeldOk x) ∧ (l.map Held.bulk).sum + 1 ≤ Rows.uptoBulk d :=
  open_list_bulk (At := HeldAt All) (Good := HeldOk) (sz := Held.bulk) (size := 3) Tryd.underlying102 (by kernel_rfl) (by decide) (fun n cs' d pl ht _ => by
    obtain ⟨x, v, rfl, hv, hg, hb⟩ := held_bulk ht
    exact ⟨x, hg, hb, fun b o hc => ⟨hc 0 _ rfl, hc 1 _ rfl, v, hc 2 _ rfl, hv⟩⟩) h
set_option maxRecDepth 100000 in
theorem chk_arg {v : Value} {d : DataW H} {p : List MemPlace} (hv : Value.okWide Tryd.prog w r b0 104 v) (h : DataW.Trod enc Tryd.prog w base spare held 104 v d p) :
    ∃ (c : Chk) (v1 v2 : Value), v = .agg #[.int .i64 c.mark, v1, v2] ∧ OffsIn All w v1 c.offs ∧ HeldsIn All w v2 c.helds ∧ I64 c.mark ∧ (∀ x ∈ c.offs, OffOk x) ∧ (∀ x ∈ c.helds, HeldOk x) ∧ (c.offs.map fun _ => 4).sum + (c.helds.map Held.bulk).sum ≤ Rows.uptoBulk d := by
  obtain ⟨c0, c1, c2, y0, y1, y2, n, rfl, rfl, -, h0, h1, h2⟩ := open_agg3 Tryd.underlying104 (by kernel_rfl) (by kernel_rfl) hv h
  obtain ⟨k, q0, x0, w0⟩ := DataW.trod_int Tryd.underlying3 h0
  obtain ⟨d1, p1⟩ := y1
  obtain ⟨d2, p2⟩ := y2
  obtain ⟨v1, l1, q1, hv1, ok1, hb1⟩ := offs_bulk h1
  obtain ⟨v2, l2, q2, hv2, ok2, hb2⟩ := helds_bulk h2
  simp only [List.cons.injEq, and_true] at q0 q1 q2
  subst q0 q1 q2
  refine ⟨⟨k, l1, l2⟩, _, _, rfl, hv1, hv2, w0, ok1, ok2, ?_⟩
  simp only [Rows.uptoBulk, Rows.uptoBulkAll]
  omega
end
end Go.Proofs.YthfgjmdmcoogpaaDoor
