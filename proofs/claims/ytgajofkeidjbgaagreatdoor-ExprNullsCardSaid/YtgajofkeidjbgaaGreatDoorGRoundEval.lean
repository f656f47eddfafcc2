/-
  PROVED HERE: in plain Lean: what is printed checks and comes to the same; what "1 + 2 * 3" comes to.
  PROVED HERE: values that came in, opened by their cells.
  PROVED HERE: columns that came in, opened by their cells.
  PROVED HERE: (*strings.Builder).WriteString as this translation has it.
  PROVED HERE: a call of print through the interface of a tree.
  PROVED HERE: expr's writing of trees: what it leaves as it was; bracket; literals and names.
-/
import Derived.Test.YtgajofkeidjbgaaGreatDoorGRoundLex
import Derived.Test.YtgajofkeidjbgaaGreatDoorGFits
import Derived.Test.YtgajofkeidjbgaaGreatDoorRows
import Derived.Test.YtgajofkeidjbgaaGreatDoorGOpen
import Derived.Test.YtgajofkeidjbgaaGreatDoorGParAll
import Derived.Test.YtgajofkeidjbgaaGreatDoorGParText
import Derived.Test.YtgajofkeidjbgaaGreatDoorShelf3
import Derived.Lib.BufferKept
import Derived.Test.YtgajofkeidjbgaaGreatDoorGNameKeep
import Derived.Test.YtgajofkeidjbgaaGreatDoorGExprDoc
import Derived.Handy
import Derived.Test.YtgajofkeidjbgaaGreatDoorGParUnP
namespace Go.Proofs.YtgajofkeidjbgaaGreatDoor
set_option linter.unusedSimpArgs false
set_option linter.unusedVariables false
open Go Go.RowKit

theorem same_check {cs : List Col} {x x' : Ex} (h : SameE x x') : KindEq (checkR cs (.ok x)) (checkR cs (.ok x')) ∨ ∃ k, checkR cs (.ok x) = .ok (k, x) ∧ checkR cs (.ok x') = .ok (k, x') := by
  unfold checkR
  simp only
  by_cases hc : colsP cs = true
  · rw [if_pos hc, if_pos hc]
    have hk := kind_eq cs x x' h
    cases h1 : kindP cs x with
    | error f =>
      cases h2 : kindP cs x' with
      | error g => rw [h1, h2] at hk; exact .inl hk
      | ok b => rw [h1, h2] at hk; exact hk.elim
    | ok a =>
      cases h2 : kindP cs x' with
      | error g => rw [h1, h2] at hk; exact hk.elim
      | ok b =>
        rw [h1, h2] at hk
        have hk : a = b := hk
        subst hk
        exact .inr ⟨a, rfl, rfl⟩
  · rw [if_neg hc, if_neg hc]
    exact .inl rfl
theorem same_eval {cs : List Col} {row : List Val} {x x' : Ex} (h : SameE x x') : evalR cs row (.ok x) = evalR cs row (.ok x') := by
  unfold evalR
  rcases same_check (cs := cs) h with hk | ⟨k, h1, h2⟩
  · cases h1 : checkR cs (.ok x) with
    | error f =>
      cases h2 : checkR cs (.ok x') with
      | error g =>
        rw [h1, h2] at hk
        have hk : f.1 = g.1 := hk
        simp only
        rw [hk]
      | ok b => rw [h1, h2] at hk; exact hk.elim
    | ok a =>
      cases h2 : checkR cs (.ok x') with
      | error g => rw [h1, h2] at hk; exact hk.elim
      | ok b =>
        obtain ⟨e1, -, e3⟩ := check_ok h1
        obtain ⟨e2, -, e4⟩ := check_ok h2
        have e1 := Except.ok.inj e1
        have e2 := Except.ok.inj e2
        simp only
        rw [← e1, ← e2, eval_eq cs row x x' h]
  · rw [h1, h2]
    simp only
    rw [eval_eq cs row x x' h]
/-- what Check tells of a text: the kind, the fault. -/
def chkK (cs : List Col) (r : Except Fault Ex) : Int := match checkR cs r with
  | .error _ => 0
  | .ok kx => kx.1
def chkE (cs : List Col) (r : Except Fault Ex) : Option Int := match checkR cs r with
  | .error f => some f.1
  | .ok _ => none
theorem same_chk {cs : List Col} {x x' : Ex} (h : SameE x x') : chkK cs (.ok x) = chkK cs (.ok x') ∧ chkE cs (.ok x) = chkE cs (.ok x') := by
  unfold chkK chkE
  rcases same_check (cs := cs) h with hk | ⟨k, h1, h2⟩
  · cases h1 : checkR cs (.ok x) with
    | error f =>
      cases h2 : checkR cs (.ok x') with
      | error g =>
        rw [h1, h2] at hk
        have hk : f.1 = g.1 := hk
        exact ⟨rfl, by show some f.1 = some g.1; rw [hk]⟩
      | ok b => rw [h1, h2] at hk; exact hk.elim
    | ok a =>
      cases h2 : checkR cs (.ok x') with
      | error g => rw [h1, h2] at hk; exact hk.elim
      | ok b =>
        rw [h1, h2] at hk
        have hk : a = b := hk
        rw [hk]
        exact ⟨rfl, rfl⟩
  · rw [h1, h2]
    exact ⟨rfl, rfl⟩
/-- a text whose expression a measured parse finds. -/
theorem text_by {s : List UInt8} {l : List Tok} {x : Ex} {r : List Tok} (hs : s.length ≤ 200) (hl : lexX s.length 0 s = .ok l) (hp : parseX true 60 (.bin 0) 0 l = some (.ok (x, r))) (hr : (hdT r).k = 0) : TextR true s (.ok x) := by
  unfold TextR
  rw [if_neg (by omega), hl]
  refine ⟨.ok (x, r), ⟨60, hp⟩, ?_⟩
  unfold doneR
  simp only
  rw [if_pos hr]
abbrev sumS : List UInt8 := [49, 32, 43, 32, 50, 32, 42, 32, 51]
def numE' (n : Int) : Ex := .lit ⟨1, n, ByteArray.empty⟩
def sumX : Ex := .bin [43] 2 (numE' 1) (.bin [42] 6 (numE' 2) (numE' 3))
theorem sum_text : TextR true sumS (.ok sumX) := text_by (l := [⟨48, [49], 0⟩, ⟨111, [43], 2⟩, ⟨48, [50], 4⟩, ⟨111, [42], 6⟩, ⟨48, [51], 8⟩, ⟨0, [], 9⟩]) (r := [⟨0, [], 9⟩]) (by decide) (by kernel_rfl) (by kernel_rfl) (by kernel_rfl)
theorem sum_eval : evalR [] [] (.ok sumX) = .ok (intV 7) := by kernel_rfl
end Go.Proofs.YtgajofkeidjbgaaGreatDoor
namespace Go.Proofs.YtgajofkeidjbgaaGreatDoor
set_option linter.unusedSimpArgs false
set_option linter.unusedVariables false
open Go Go.RowKit Go.Deep

theorem list_one {α : Type} : ∀ {l : List α}, l.length = 1 → ∃ a, l = [a]
  | [a], _ => ⟨a, rfl⟩
theorem list_take {α : Type} {l : List α} {n i : Nat} (hl : l.length = n) (h : i < n) : ∃ a, l[i]? = some a ∧ (l.drop i).take 1 = [a] :=
  ⟨l[i]'(by omega), List.getElem?_eq_getElem (by omega), by rw [List.drop_eq_getElem_cons (by omega)]; rfl⟩
theorem list_three {α : Type} {l : List α} (h : l.length = 3) {a b c : α} (h0 : l[0]? = some a) (h1 : l[1]? = some b) (h2 : l[2]? = some c) : l = [a, b, c] := by
  match l, h with
  | [x, y, z], _ => simp at h0 h1 h2; simp [h0, h1, h2]

section
variable {H : Type} {enc : TypeId × Value → H} {w : World} {base : Nat} {spare : Nat → Bool} {held : Bool}
theorem cell_kind : Tryz.prog.cellsOf 33 = 1 := by kernel_rfl
theorem cell_i64 : Tryz.prog.cellsOf 2 = 1 := by kernel_rfl
theorem cell_str : Tryz.prog.cellsOf 9 = 1 := by kernel_rfl
theorem val_cells {n : Nat} {cs : List Value} {d : DataW H} {pl : List MemPlace} (h : DataW.trod enc Tryz.prog w base spare held n 38 cs = some (d, pl)) (hf : Fits Tryz.prog 38 d) : ∃ x : Val, cs = x.cells ∧ ValOk x := by
  obtain ⟨hl, hfs⟩ := open_struct Tryz.underlying38 h hf
  have hl' : cs.length = 3 := hl.trans (by kernel_rfl)
  obtain ⟨n0, d0, p0, t0, f0⟩ := hfs 0 _ rfl
  obtain ⟨n1, d1, p1, t1, f1⟩ := hfs 1 _ rfl
  obtain ⟨n2, d2, p2, t2, f2⟩ := hfs 2 _ rfl
  obtain ⟨a0, e0, s0⟩ := list_take (i := 0) hl' (by omega)
  obtain ⟨a1, e1, s1⟩ := list_take (i := 1) hl' (by omega)
  obtain ⟨a2, e2, s2⟩ := list_take (i := 2) hl' (by omega)
  change DataW.trod enc Tryz.prog w base spare held n0 33 ((cs.drop 0).take (Tryz.prog.cellsOf 33)) = _ at t0
  rw [cell_kind, s0] at t0
  change DataW.trod enc Tryz.prog w base spare held n1 2 ((cs.drop 1).take (Tryz.prog.cellsOf 2)) = _ at t1
  rw [cell_i64, s1] at t1
  change DataW.trod enc Tryz.prog w base spare held n2 9 ((cs.drop 2).take (Tryz.prog.cellsOf 9)) = _ at t2
  rw [cell_str, s2] at t2
  obtain ⟨k, q0, _, w0⟩ := DataW.trod_int Tryz.underlying33 t0
  obtain ⟨i, q1, _, w1⟩ := DataW.trod_int Tryz.underlying2 t1
  obtain ⟨s, q2, _, w2⟩ := DataW.trod_string Tryz.underlying9 t2
  simp only [List.cons.injEq, and_true] at q0 q1 q2
  subst q0 q1 q2
  exact ⟨⟨k, i, s⟩, list_three hl' e0 e1 e2, w0, w1, w2⟩
theorem vals_of {n : Nat} {cs : List Value} {d : DataW H} {pl : List MemPlace} (h : DataW.trod enc Tryz.prog w base spare held n 39 cs = some (d, pl)) (hf : Fits Tryz.prog 39 d) :
    ∃ v l, cs = [v] ∧ IsVals w v l ∧ (∀ x ∈ l, ValOk x) ∧ l.length * 32 ≤ reachBytes := by
  obtain ⟨v, l, h1, h2, h3, h4⟩ := open_list (At := ValAt) (Good := ValOk) (size := 3) Tryz.underlying39 (by kernel_rfl) (by decide) (fun n cs' d pl ht hf _ => by
    obtain ⟨x, rfl, hx⟩ := val_cells ht hf
    exact ⟨x, hx, fun b o hc => ⟨hc 0 _ rfl, hc 1 _ rfl, hc 2 _ rfl⟩⟩) h hf
  have hb : Tryz.prog.bytesOf 38 = 32 := by kernel_rfl
  rw [hb] at h4
  exact ⟨v, l, h1, h2, h3, h4⟩
theorem cell_vals : Tryz.prog.cellsOf 39 = 1 := by kernel_rfl
theorem list_two {α : Type} {l : List α} (h : l.length = 2) {a b : α} (h0 : l[0]? = some a) (h1 : l[1]? = some b) : l = [a, b] := by
  match l, h with
  | [x, y], _ => simp at h0 h1; simp [h0, h1]
end
end Go.Proofs.YtgajofkeidjbgaaGreatDoor
namespace Go.Proofs.YtgajofkeidjbgaaGreatDoor
set_option linter.unusedSimpArgs false
set_option linter.unusedVariables false
open Go Go.RowKit Go.Deep

section
variable {H : Type} {enc : TypeId × Value → H} {w : World} {base : Nat} {spare : Nat → Bool} {held : Bool}
theorem str_bound {t : TypeId} {s : ByteArray} (h : Fits (H := H) Tryz.prog t (.lit (.string s.data.toList))) : s.data.toList.length ≤ 140737488355328 := Nat.le_trans (h s.data.toList.length (by unfold DataW.weights; exact List.mem_singleton.2 rfl)) (by unfold reachBytes; omega)
def ColGood (x : Col) : Prop := x.s.length ≤ 140737488355328
theorem col_cells {n : Nat} {cs : List Value} {d : DataW H} {pl : List MemPlace} (h : DataW.trod enc Tryz.prog w base spare held n 35 cs = some (d, pl)) (hf : Fits Tryz.prog 35 d) :
    ∃ x : Col, cs = [.string (strB x.s), .int .i64 x.k] ∧ ColGood x := by
  obtain ⟨hl, hfs⟩ := open_struct Tryz.underlying35 h hf
  have hl' : cs.length = 2 := hl.trans (by kernel_rfl)
  obtain ⟨n0, d0, p0, t0, f0⟩ := hfs 0 _ rfl
  obtain ⟨n1, d1, p1, t1, f1⟩ := hfs 1 _ rfl
  obtain ⟨a0, e0, s0⟩ := list_take (i := 0) hl' (by omega)
  obtain ⟨a1, e1, s1⟩ := list_take (i := 1) hl' (by omega)
  change DataW.trod enc Tryz.prog w base spare held n0 9 ((cs.drop 0).take (Tryz.prog.cellsOf 9)) = _ at t0
  rw [cell_str, s0] at t0
  change DataW.trod enc Tryz.prog w base spare held n1 33 ((cs.drop 1).take (Tryz.prog.cellsOf 33)) = _ at t1
  rw [cell_kind, s1] at t1
  obtain ⟨s, q0, hd, w0⟩ := DataW.trod_string Tryz.underlying9 t0
  obtain ⟨k, q1, _, w1⟩ := DataW.trod_int Tryz.underlying33 t1
  simp only [List.cons.injEq, and_true] at q0 q1
  subst q0 q1
  simp only [Prod.mk.injEq] at hd
  obtain ⟨rfl, -⟩ := hd
  refine ⟨⟨s.data.toList, k⟩, ?_, str_bound f0⟩
  rw [strB_data]
  exact list_two hl' e0 e1
theorem cols_of {n : Nat} {cs : List Value} {d : DataW H} {pl : List MemPlace} (h : DataW.trod enc Tryz.prog w base spare held n 36 cs = some (d, pl)) (hf : Fits Tryz.prog 36 d) :
    ∃ v l, cs = [v] ∧ SliceOf All ColC 2 w v l ∧ (∀ x ∈ l, ColGood x) ∧ l.length * 24 ≤ reachBytes := by
  obtain ⟨v, l, h1, h2, h3, h4⟩ := open_list (At := ColC) (Good := ColGood) (size := 2) Tryz.underlying36 (by kernel_rfl) (by decide) (fun n cs' d pl ht hf _ => by
    obtain ⟨x, rfl, hx⟩ := col_cells ht hf
    exact ⟨x, hx, fun b o hc => ⟨hc 0 _ rfl, hc 1 _ rfl⟩⟩) h hf
  have hb : Tryz.prog.bytesOf 35 = 24 := by kernel_rfl
  rw [hb] at h4
  exact ⟨v, l, h1, h2, h3, h4⟩
theorem cols_arg {W : World} {v : Value} {l : List Col} (h : SliceOf All ColC 2 W v l) (hg : ∀ x ∈ l, ColGood x) (hb : l.length * 24 ≤ reachBytes) : ∃ ao c, v = .slice ao l.length c ∧ ColsArg W ao c l := by
  obtain ⟨a, c, hv, hl, hc, hn, he⟩ := h
  exact ⟨a, c, hv, he, ⟨hl, by unfold reachBytes at hb; omega⟩, hg⟩
end
end Go.Proofs.YtgajofkeidjbgaaGreatDoor
namespace Go.Proofs.YtgajofkeidjbgaaGreatDoor
set_option linter.unusedSimpArgs false
set_option linter.unusedVariables false
open Go Go.RowKit

set_option maxRecDepth 100000 in
set_option maxHeartbeats 2000000 in
theorem check_fresh (b : Nat) (w : World) (h0 : w.cell? ⟨b, 0, none⟩ = some (.pointer none)) (hsh : w.shape? b = some (57, 2)) (hfz : w.frozen? ⟨b, 0, none⟩ = false) :
    Calls Tryz.prog 195 #[.pointer (some ⟨b, 0, none⟩)] w fun e w' => e = .returned (.tuple #[]) ∧ w' = w.setCell ⟨b, 0, none⟩ (.pointer (some ⟨b, 0, none⟩)) := by
  obtain ⟨j, hj, hjs⟩ := Option.map_eq_some_iff.1 Tryz.Builder_Extra_169.sizeBuilder
  go_enter Tryz.func195, Tryz.ntmps195
  go_wp2
  rw [Lib.run_to_unsafe w ⟨b, 0, none⟩ Tryz.underlying54 Tryz.underlying108 hj (by rw [hjs]; decide) hsh (Nat.zero_lt_succ 1)]
  simp only [Result.andThen]
  rw [Oper.upon_value]
  go_wp2
  rw [run_callFunc_extern Tryz.func196 (by kernel_rfl) (by kernel_rfl) (by kernel_rfl) (e := Extern.AbiNoEscape.same) (by kernel_rfl)]
  rw [Lib.run_noEscape]
  simp only [Result.andThen]
  rw [Oper.upon_value]
  go_wp2
  rw [Lib.run_from_unsafe w ⟨b, 0, none⟩ Tryz.underlying108 Tryz.underlying54 hj hsh Tryz.Builder_Extra_169.liesBuilder]
  simp only [Result.andThen]
  rw [Oper.upon_value]
  go_wp2
  go_end0
  exact ⟨rfl, rfl⟩
set_option maxRecDepth 100000 in
set_option maxHeartbeats 2000000 in
theorem check_used (b : Nat) (w : World) (h0 : w.cell? ⟨b, 0, none⟩ = some (.pointer (some ⟨b, 0, none⟩))) :
    Calls Tryz.prog 195 #[.pointer (some ⟨b, 0, none⟩)] w fun e w' => e = .returned (.tuple #[]) ∧ w' = w := by
  obtain ⟨j, hj, _⟩ := Option.map_eq_some_iff.1 Tryz.Builder_Extra_169.sizeBuilder
  go_enter Tryz.func195, Tryz.ntmps195
  go_wp2
  rw [Lib.run_neq_ptr_same w _ Tryz.underlying54 hj]
  go_wp2
  go_end0
  exact ⟨rfl, rfl⟩
/-- a builder with its bytes. -/
abbrev BdAt (w : World) (B b : Nat) (l : List UInt8) : Prop := Lib.IsBuilderF 57 5 B b (Lib.byteCells l) w
/-- what a writer leaves: but the builder, and rows of bytes, all is as it was. -/
def Wrote (B b : Nat) (l s : List UInt8) (w w' : World) : Prop := BdAt w' B b (l ++ s) ∧ Below B w w' ∧ Lib.OthersKept 5 (some b) w w'
theorem cells_str (s : List UInt8) : Lib.strCells (strB s) = Lib.byteCells s := rfl
set_option maxRecDepth 100000 in
set_option maxHeartbeats 2000000 in
theorem write_any (B b : Nat) (l s : List UInt8) (w : World) (h : BdAt w B b l) (hlen : l.length + s.length ≤ 140737488355328) (hBw : B ≤ w.heap.size) :
    Calls Tryz.prog 194 #[.pointer (some ⟨b, 0, none⟩), .string (strB s)] w fun e w' => e = .returned (.tuple #[.int .i64 s.length, .nilIface]) ∧ Wrote B b l s w w' := by
  obtain ⟨i0, hi, hz0, hz1, hz2⟩ := info_parts Tryz.Builder_Extra_169.infoByte
  have hchk : Calls Tryz.prog 195 #[.pointer (some ⟨b, 0, none⟩)] w fun e w' => e = .returned (.tuple #[]) ∧ (Lib.BuilderAtF 57 5 B b (.pointer (some ⟨b, 0, none⟩)) (Lib.byteCells l) w' ∧ Below B w w' ∧ Lib.OthersKept 5 (some b) w w') := by
    rcases h with h | h
    · refine (check_fresh b w h.cell0 h.shape h.frozen0).mono ?_
      rintro e w' ⟨rfl, rfl⟩
      exact ⟨rfl, h.used _, (Below.refl B w).setCell (p := ⟨b, 0, none⟩) h.1 _, (Lib.OthersKept.refl _ _ w).setCell ⟨b, 0, none⟩ rfl _⟩
    · refine (check_used b w h.cell0).mono ?_
      rintro e w' ⟨rfl, rfl⟩
      exact ⟨rfl, h, Below.refl B _, Lib.OthersKept.refl _ _ _⟩
  have HC := hid hchk
  have hsz : (strB s).size = s.length := strB_size _
  have HSZ := hid hsz
  clear hchk hsz h
  go_enter Tryz.func194, Tryz.ntmps194
  go_wp2_with fail
  refine HC.out.mono ?_
  rintro e w1 ⟨rfl, h1, hb1, hk1⟩
  obtain ⟨hB, v, hbk, hown, hne⟩ := h1
  have c0 : w1.cell? ⟨b, 0, none⟩ = some (.pointer (some ⟨b, 0, none⟩)) := by rw [Lib.cell_of_heap hbk]; rfl
  have c1 : w1.cell? ⟨b, 1, none⟩ = some v := by rw [Lib.cell_of_heap hbk]; rfl
  have hbl : (Lib.byteCells l).length = l.length := Lib.byteCells_length l
  go_wp2_with (at_builtin; refine Lib.wpList_append_own_stringF _ rfl _ _ 55 9 rfl B 5 i0 Tryz.underlying55 Tryz.underlying9 hi hz0 hz1 hz2 _ _ _ rfl hown (strB s) rfl ?c3 ?c4 ?c5 ?_)
  case c3 => have := HSZ.out; unfold maxLen; omega
  case c4 => have := HSZ.out; omega
  case c5 => have := hb1.size; omega
  intro v' w2 hown' hgrow _
  have hlt : b < w1.heap.size := by
    rcases Nat.lt_or_ge b w1.heap.size with h' | h'
    · exact h'
    · simp [Array.getElem?_eq_none h'] at hbk
  have hb2 : w2.heap[b]? = some (.cells #[.pointer (some ⟨b, 0, none⟩), v] 57 (0, 0)) := by
    rw [hgrow.block b hlt (fun e => hne e.symm)]
    exact hbk
  have d0 : w2.cell? ⟨b, 0, none⟩ = some (.pointer (some ⟨b, 0, none⟩)) := by rw [Lib.cell_of_heap hb2]; rfl
  have d1 : w2.cell? ⟨b, 1, none⟩ = some v := by rw [Lib.cell_of_heap hb2]; rfl
  have f1 : w2.frozen? ⟨b, 1, none⟩ = false := Lib.frozen_of_heap hb2 1
  obtain ⟨ao, n', cap, rfl⟩ : ∃ ao n' cap, v' = .slice ao n' cap := by
    rcases hown'.2 with ⟨hv, _⟩ | ⟨g, cap, cur, fz, hv, _⟩
    · exact ⟨_, _, _, hv⟩
    · exact ⟨_, _, _, hv⟩
  go_wp2_with fail
  go_ret2
  rw [HSZ.out]
  refine ⟨rfl, ?_, ?_, (hk1.grown hgrow (Lib.ownsRowF_kind hown)).setCell ⟨b, 1, none⟩ rfl _⟩
  · have h := Lib.BuilderAtF.put (T := 57) (e := 5) hB hb2 (bs' := Lib.byteCells l ++ Lib.strCells (strB s)) (by simpa [Lib.strCells_length, Lib.byteCells_length] using hown') (by decide)
    rw [cells_str] at h
    have e : Lib.byteCells (l ++ s) = Lib.byteCells l ++ Lib.byteCells s := by simp [Lib.byteCells]
    show Lib.IsBuilderF _ _ B b (Lib.byteCells (l ++ s)) _
    rw [e]
    exact .inr h
  · exact (hb1.grown hgrow (by have := hb1.size; omega) (fun k hk => (hown.lt k hk).1)).setCell (p := ⟨b, 1, none⟩) hB _
end Go.Proofs.YtgajofkeidjbgaaGreatDoor
namespace Go.Proofs.YtgajofkeidjbgaaGreatDoor
set_option linter.unusedSimpArgs false
set_option linter.unusedVariables false
open Go.RowKit

/-- the method that writes a tree. -/
def printF : Ex → FuncId
  | .lit _ => 210
  | .name _ _ => 211
  | .un _ _ _ => 191
  | .bin _ _ _ _ => 197
  | .call _ _ _ => 212
theorem print_lit (N : Nat) (u1 u2 : Value) (w : World) : (callMethod (.iface 161 (.pointer (some ⟨N, 0, none⟩))) "streamwright/expr.print" #[u1, u2]).run Tryz.prog w = .ok (.enter 210 #[.pointer (some ⟨N, 0, none⟩), u1, u2]) w := by kernel_rfl
theorem print_name (N : Nat) (u1 u2 : Value) (w : World) : (callMethod (.iface 164 (.pointer (some ⟨N, 0, none⟩))) "streamwright/expr.print" #[u1, u2]).run Tryz.prog w = .ok (.enter 211 #[.pointer (some ⟨N, 0, none⟩), u1, u2]) w := by kernel_rfl
theorem print_un (N : Nat) (u1 u2 : Value) (w : World) : (callMethod (.iface 137 (.pointer (some ⟨N, 0, none⟩))) "streamwright/expr.print" #[u1, u2]).run Tryz.prog w = .ok (.enter 191 #[.pointer (some ⟨N, 0, none⟩), u1, u2]) w := by kernel_rfl
theorem print_bin (N : Nat) (u1 u2 : Value) (w : World) : (callMethod (.iface 140 (.pointer (some ⟨N, 0, none⟩))) "streamwright/expr.print" #[u1, u2]).run Tryz.prog w = .ok (.enter 197 #[.pointer (some ⟨N, 0, none⟩), u1, u2]) w := by kernel_rfl
theorem print_call (N : Nat) (u1 u2 : Value) (w : World) : (callMethod (.iface 168 (.pointer (some ⟨N, 0, none⟩))) "streamwright/expr.print" #[u1, u2]).run Tryz.prog w = .ok (.enter 212 #[.pointer (some ⟨N, 0, none⟩), u1, u2]) w := by kernel_rfl
theorem print_at (x : Ex) (N : Nat) (u1 u2 : Value) (w : World) : (callMethod (.iface (nodeT x) (.pointer (some ⟨N, 0, none⟩))) "streamwright/expr.print" #[u1, u2]).run Tryz.prog w = .ok (.enter (printF x) #[.pointer (some ⟨N, 0, none⟩), u1, u2]) w := by
  cases x
  · exact print_lit N u1 u2 w
  · exact print_name N u1 u2 w
  · exact print_un N u1 u2 w
  · exact print_bin N u1 u2 w
  · exact print_call N u1 u2 w
theorem oper_print {o : Oper} {a : Act} {w : World} {K : Act → World → Prop} {Q : Exit → Act → World → Prop} (i x1 x2 : Operand)
    (ho : o.op = .call { callee := .invoke i "streamwright/expr.print", args := #[x1, x2], argTypes := #[54, 3] })
    {x : Ex} {N : Nat} {u1 u2 : Value} (hi : a.eval i = .iface (nodeT x) (.pointer (some ⟨N, 0, none⟩))) (h1 : a.eval x1 = u1) (h2 : a.eval x2 = u2)
    (hc : Calls Tryz.prog (printF x) #[.pointer (some ⟨N, 0, none⟩), u1, u2] w fun e w' => e = .returned (.tuple #[]) ∧ K (a.put o.dst (.tuple #[])) w') : Oper.wp Tryz.prog o a w K Q := by
  unfold Oper.wp execOp
  simp only [ho, resolve, invoke, Sem.run_bind, Sem.run_pure, Result.andThen_ok, List.map_toArray, List.map_cons, List.map_nil, hi, h1, h2]
  have h := print_at x N u1 u2 w
  show Oper.upon _ o a K Q ((callMethod (.iface (nodeT x) (.pointer (some ⟨N, 0, none⟩))) "streamwright/expr.print" #[u1, u2]).run Tryz.prog w)
  rw [h]
  simp only [Oper.upon]
  refine hc.mono ?_
  rintro e w' ⟨rfl, hK⟩
  exact hK
end Go.Proofs.YtgajofkeidjbgaaGreatDoor
namespace Go.Proofs.YtgajofkeidjbgaaGreatDoor
set_option linter.unusedSimpArgs false
set_option linter.unusedVariables false
open Go.RowKit

/-- but the builder and rows of bytes all is as it was. -/
def Fr (B b : Nat) (w w' : World) : Prop := Below B w w' ∧ Lib.OthersKept 5 (some b) w w'
theorem Fr.refl (B b : Nat) (w : World) : Fr B b w w := ⟨Below.refl _ _, Lib.OthersKept.refl _ _ _⟩
theorem Fr.trans {B b : Nat} {x y z : World} (h : Fr B b x y) (k : Fr B b y z) : Fr B b x z := ⟨h.1.trans k.1, h.2.trans k.2⟩
theorem Fr.later {B b : Nat} {w w' : World} (h : Later w w') (hB : B ≤ w.heap.size) : Fr B b w w' := ⟨Below.mono h hB, (Lib.OthersKept.refl _ _ _).below h⟩
theorem Fr.obj {B b : Nat} {w w' : World} (h : Fr B b w w') {k : Nat} {cs : Array Value} {T : TypeId} {f : Nat × Nat} (hk : w.heap[k]? = some (.cells cs T f)) (hb : k ≠ b) (hT : T ≠ 5) : w'.heap[k]? = some (.cells cs T f) :=
  h.2 k _ hk (fun e => hb (Option.some.inj e)) fun c fz e => by injection e with _ e; exact hT e
theorem Fr.size {B b : Nat} {w w' : World} (h : Fr B b w w') : w.heap.size ≤ w'.heap.size := h.1.size
theorem Wrote.fr {B b : Nat} {l s : List UInt8} {w w' : World} (h : Wrote B b l s w w') : Fr B b w w' := ⟨h.2.1, h.2.2⟩
theorem Wrote.at_ {B b : Nat} {l s : List UInt8} {w w' : World} (h : Wrote B b l s w w') : BdAt w' B b (l ++ s) := h.1
theorem Wrote.of {B b : Nat} {l s t : List UInt8} {w w' w2 : World} (h : Wrote B b l s w w') (k : Wrote B b (l ++ s) t w' w2) : Wrote B b l (s ++ t) w w2 := by
  refine ⟨?_, h.2.1.trans k.2.1, h.2.2.trans k.2.2⟩
  have := k.1
  rw [List.append_assoc] at this
  exact this
theorem Wrote.before {B b : Nat} {l s : List UInt8} {w0 w w' : World} (h : Wrote B b l s w w') (k : Fr B b w0 w) : Wrote B b l s w0 w' := ⟨h.1, k.1.trans h.2.1, k.2.trans h.2.2⟩
theorem Wrote.none {B b : Nat} {l : List UInt8} {w : World} (h : BdAt w B b l) : Wrote B b l [] w w := ⟨by rw [List.append_nil]; exact h, Below.refl _ _, Lib.OthersKept.refl _ _ _⟩
theorem BdAt.later {B b : Nat} {l : List UInt8} {w w' : World} (h : BdAt w B b l) (k : Later w w') : BdAt w' B b l := by
  have hat : ∀ p, Lib.BuilderAtF 57 5 B b p (Lib.byteCells l) w → Lib.BuilderAtF 57 5 B b p (Lib.byteCells l) w' := by
    rintro p ⟨hB, v, hbk, hown, hne⟩
    refine ⟨hB, v, k.obj hbk, ⟨hown.1, hown.2.imp id ?_⟩, hne⟩
    rintro ⟨g, cap, cur, fz, h1, h2, h3, h4⟩
    exact ⟨g, cap, cur, fz, h1, h2, k.obj h3, h4⟩
  exact h.imp (hat _) (hat _)
theorem BdAt.base {B b : Nat} {l : List UInt8} {w : World} (h : BdAt w B b l) : B ≤ b ∧ b < w.heap.size := by
  rcases h with ⟨hB, v, hbk, -⟩ | ⟨hB, v, hbk, -⟩ <;> exact ⟨hB, obj_lt hbk⟩
/-- the table that numbers are written by lies below the builder. -/
def EnvB (B : Nat) (w : World) : Prop := ∃ w0, Below w0.heap.size w0 w ∧ w0.heap.size ≤ B ∧ PowTab w0
theorem EnvB.fr {B b : Nat} {w w' : World} (h : EnvB B w) (k : Fr B b w w') : EnvB B w' := by
  obtain ⟨w0, h1, h2, h3⟩ := h
  exact ⟨w0, h1.trans (k.1.mono h2), h2, h3⟩
theorem EnvB.pow {B : Nat} {w : World} (h : EnvB B w) : PowTab w := by
  obtain ⟨w0, h1, h2, h3⟩ := h
  exact PowTab.later h3 h1
theorem ArgsIn.fr {B b : Nat} {w w' : World} {a : Value} {vs : List Value} (h : ArgsIn (fun g => g ≠ b) w a vs) (k : Fr B b w w') : ArgsIn (fun g => g ≠ b) w' a vs := by
  obtain ⟨⟨h1, h2⟩, h3⟩ := h
  refine ⟨⟨h1, h2.imp id ?_⟩, h3⟩
  rintro ⟨g, cap, cur, hv, hb, hg, hr⟩
  exact ⟨g, cap, cur, hv, hb, k.obj hg (h3 g (by rw [hv]; rfl)) (by decide), hr⟩
mutual
theorem NodeIn.fr {B b : Nat} {w w' : World} (k : Fr B b w w') : ∀ (v : Value) (x : Ex), NodeIn (fun g => g ≠ b) w v x → NodeIn (fun g => g ≠ b) w' v x
  | v, .lit x, h => by
    unfold NodeIn at h ⊢
    obtain ⟨N, h1, h2, h3⟩ := h
    exact ⟨N, h1, h2, k.obj h3 h1 (by decide)⟩
  | v, .name s p, h => by
    unfold NodeIn at h ⊢
    obtain ⟨N, h1, h2, h3⟩ := h
    exact ⟨N, h1, h2, k.obj h3 h1 (by decide)⟩
  | v, .un neg p x, h => by
    unfold NodeIn at h ⊢
    obtain ⟨N, u, h1, h2, h3, h4⟩ := h
    exact ⟨N, u, h1, h2, k.obj h3 h1 (by decide), NodeIn.fr k u x h4⟩
  | v, .bin o p x y, h => by
    unfold NodeIn at h ⊢
    obtain ⟨N, u1, u2, h1, h2, h3, h4, h5⟩ := h
    exact ⟨N, u1, u2, h1, h2, k.obj h3 h1 (by decide), NodeIn.fr k u1 x h4, NodeIn.fr k u2 y h5⟩
  | v, .call f p l, h => by
    unfold NodeIn at h ⊢
    obtain ⟨N, vs, a, h1, h2, h3, h4, h5⟩ := h
    exact ⟨N, vs, a, h1, h2, k.obj h3 h1 (by decide), h4.fr k, NodesIn.fr k vs l h5⟩
theorem NodesIn.fr {B b : Nat} {w w' : World} (k : Fr B b w w') : ∀ (vs : List Value) (l : List Ex), NodesIn (fun g => g ≠ b) w vs l → NodesIn (fun g => g ≠ b) w' vs l
  | [], [], h => by unfold NodesIn; trivial
  | v :: vs, x :: l, h => by
    unfold NodesIn at h ⊢
    exact ⟨NodeIn.fr k v x h.1, NodesIn.fr k vs l h.2⟩
  | [], _ :: _, h => by unfold NodesIn at h; exact h.elim
  | _ :: _, [], h => by unfold NodesIn at h; exact h.elim
end
theorem brk_len (b : Bool) (l : List UInt8) : (brk b l).length ≤ l.length + 2 := by
  unfold brk
  split <;> simp
mutual
theorem print_len : ∀ (x : Ex) (L : Nat), (printP x L).length ≤ costP x
  | .lit v, L => by unfold printP costP; exact Nat.le_refl _
  | .name s p, L => by unfold printP costP; exact Nat.le_refl _
  | .un neg p x, L => by
    unfold printP costP
    refine Nat.le_trans (brk_len _ _) ?_
    have := print_len x (if neg = true then 5 else 2)
    rw [List.length_append]
    have h : (if neg = true then ([45] : List UInt8) else [110, 111, 116, 32]).length ≤ 4 := by cases neg <;> decide
    omega
  | .bin o p x y, L => by
    unfold printP costP
    refine Nat.le_trans (brk_len _ _) ?_
    have h1 := print_len x (if levelO o = 2 then 3 else levelO o)
    have h2 := print_len y (levelO o + 1)
    simp only [List.length_append, List.length_cons, List.length_nil]
    omega
  | .call f p l, L => by
    unfold printP costP
    have := prints_len l false
    simp only [List.length_append, List.length_cons, List.length_nil]
    omega
theorem prints_len : ∀ (l : List Ex) (m : Bool), (printsP m l).length ≤ costsP l
  | [], m => by unfold printsP costsP; exact Nat.le_refl _
  | x :: l, m => by
    unfold printsP costsP
    have h1 := print_len x 0
    have h2 := prints_len l true
    have h : (if m = true then ([44, 32] : List UInt8) else []).length ≤ 2 := by cases m <;> decide
    simp only [List.length_append]
    omega
end
def brkO (b : Bool) : List UInt8 := if b = true then [40] else []
/-- what writing a tree answers. -/
def PrTo (B b : Nat) (l s : List UInt8) (w : World) (e : Ending) (w' : World) : Prop := e = .returned (.tuple #[]) ∧ Wrote B b l s w w'
set_option maxRecDepth 100000 in
set_option maxHeartbeats 2000000 in
theorem bracket_any (F : FuncId) (hent : ∀ args w, (callFunc F args).run Tryz.prog w = .ok (.enter F args) w) (caps : Array Value) (nd : Bool) (B b : Nat) (l s : List UInt8) (w : World) (h : BdAt w B b l) (hB : B ≤ w.heap.size) (hlen : l.length + s.length + 2 ≤ 140737488355328)
    (hF : ∀ w1, Fr B b w w1 → BdAt w1 B b (l ++ brkO nd) → Calls Tryz.prog F caps w1 (PrTo B b (l ++ brkO nd) s w1)) :
    Calls Tryz.prog 192 #[.pointer (some ⟨b, 0, none⟩), .bool nd, .func (.func F) #[] caps] w (PrTo B b l (brk nd s) w) := by
  have HB := hid h; have HF := hid hF; have HBW := hid hB; have HL := hid hlen
  clear h hF hB hlen
  cases nd with
  | false =>
    go_enter Tryz.func192, Tryz.ntmps192
    go_wp2_with fail
    refine (HF.out w (Fr.refl _ _ _) (by rw [show brkO false = [] from rfl, List.append_nil]; exact HB.out)).mono ?_
    rintro e w1 ⟨rfl, hw⟩
    rw [show brkO false = [] from rfl, List.append_nil] at hw
    have HW := hid hw
    clear hw
    go_wp2_with fail
    exact bodyPost_end (results_none rfl _ _ _) rfl ⟨rfl, HW.out⟩
  | true =>
    go_enter Tryz.func192, Tryz.ntmps192
    go_wp2_with fail
    refine (write_any B b l [40] w HB.out (by have := HL.out; simp only [List.length_cons, List.length_nil]; omega) HBW.out).mono ?_
    rintro e w1 ⟨rfl, hw⟩
    have HW := hid hw
    clear hw
    go_wp2_with fail
    refine (HF.out w1 HW.out.fr HW.out.at_).mono ?_
    rintro e w2 ⟨rfl, hw⟩
    rw [show brkO true = [40] from rfl] at hw
    have HW2 := hid hw
    clear hw
    go_wp2_with fail
    refine (write_any B b (l ++ [40] ++ s) [41] w2 HW2.out.at_ (by have := HL.out; simp only [List.length_cons, List.length_nil, List.length_append]; omega) (by have := HBW.out; have := HW.out.fr.size; have := HW2.out.fr.size; omega)).mono ?_
    rintro e w3 ⟨rfl, hw⟩
    have HW3 := hid hw
    clear hw
    go_wp2_with fail
    refine bodyPost_end (results_none rfl _ _ _) rfl ⟨rfl, ?_⟩
    have h := (HW.out.of HW2.out).of (by rw [← List.append_assoc]; exact HW3.out)
    unfold brk
    rw [if_pos rfl]
    have e : [40] ++ s ++ [41] = 40 :: (s ++ [41]) := by simp
    rw [← e]
    exact h
end Go.Proofs.YtgajofkeidjbgaaGreatDoor
