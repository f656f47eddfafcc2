/-
  PROVED HERE: a copy of nothing. No program of its own.
-/
import Derived.Test.YtbabfibmopfghaaGreatDoorOwn
namespace Go.Proofs.YtbabfibmopfghaaGreatDoor
set_option linter.unusedSimpArgs false
set_option linter.unusedVariables false
open Go Go.RowKit

section
variable {P : Program} {w : World}
/-- a copy of nothing. -/
theorem run_copy_zero (dT sT ty elem : TypeId) (i : TypeInfo) (da : Option Addr) (dLen dCap : Nat) (sa : Option Addr) (sLen sCap : Nat) (hu : P.underlying dT = some (.slice elem)) (hi : P.info? elem = some i) (hn : Nat.min sLen dLen = 0) :
    (Builtin.copy_ #[dT, sT] ty #[.slice da dLen dCap, .slice sa sLen sCap]).run P w = .ok (goInt 0) w := by
  cases sa <;> cases da <;> simp [Builtin.copy_, run_underlying hu, Builtin.lenOf, sizeOf, typeInfo, hi, hn, Builtin.firstCells, loadCells, loadCellsFrom, storeCells]
theorem wpList_copy_zero {ops : Array Oper} {rest : List Oper} {o : Oper} {a : Act} {Q : Exit → Act → World → Prop} (hgd : o.guard = none) (d s : Operand) (dT sT : TypeId)
    (ho : o.op = .call { callee := .builtin .copy, args := #[d, s], argTypes := #[dT, sT] }) (elem : TypeId) (i : TypeInfo) (hu : P.underlying dT = some (.slice elem)) (hi : P.info? elem = some i)
    (da : Option Addr) (dLen dCap : Nat) (sa : Option Addr) (sLen sCap : Nat) (hd : a.eval d = .slice da dLen dCap) (hs : a.eval s = .slice sa sLen sCap) (hn : Nat.min sLen dLen = 0)
    (h : wpList P ops Q rest (a.put o.dst (goInt 0)) w) : wpList P ops Q (o :: rest) a w := by
  refine wpList_plain hgd fun K hK => ?_
  have hrun := run_copy_zero (P := P) (w := w) dT sT o.type elem i da dLen dCap sa sLen sCap hu hi hn
  unfold Oper.wp execOp
  simp only [ho, resolve, invoke, builtin, Sem.run_bind, Sem.run_pure, Result.andThen_ok, List.map_toArray, List.map_cons, List.map_nil, hd, hs, hrun]
  exact hK _ _ h
/-- a copy of all of a slice into a block of one's own. -/
theorem wpList_copy_list {ops : Array Oper} {rest : List Oper} {o : Oper} {a : Act} {Q : Exit → Act → World → Prop} (hgd : o.guard = none) (d s : Operand) (dT sT : TypeId)
    (ho : o.op = .call { callee := .builtin .copy, args := #[d, s], argTypes := #[dT, sT] }) (elem : TypeId) (i : TypeInfo) (size : Nat) (hu : P.underlying dT = some (.slice elem)) (hi : P.info? elem = some i) (hsize : i.size = size) (hpos : 0 < size)
    (g dLen dCap : Nat) (sa : Option Addr) (sLen sCap : Nat) (hd : a.eval d = .slice (some ⟨g, 0, none⟩) dLen dCap) (hs : a.eval s = .slice sa sLen sCap)
    (cur : List Value) (t : TypeId) (hg : w.heap[g]? = some (.cells cur.toArray t (0, 0))) (hle : sLen ≤ dLen) (hcur : dLen * size ≤ cur.length) (cs : List Value) (hl : cs.length = sLen * size) (h0 : sa = none → sLen = 0)
    (hsrc : ∀ ad, sa = some ad → ∀ j v, cs[j]? = some v → w.cell? (ad.add j) = some v) (h1 : ∀ v ∈ cs, v.oneCell' = true)
    (h : ∀ w', w'.heap[g]? = some (.cells (cs ++ cur.drop cs.length).toArray t (0, 0)) → Keeps (fun b => b ≠ g) w w' → wpList P ops Q rest (a.put o.dst (goInt sLen)) w') : wpList P ops Q (o :: rest) a w := by
  have hm : Nat.min sLen dLen = sLen := Nat.min_eq_left hle
  by_cases hz : sLen = 0
  · have hcs : cs = [] := List.eq_nil_of_length_eq_zero (by rw [hl, hz, Nat.zero_mul])
    subst hcs
    refine wpList_copy_zero hgd d s dT sT ho elem i hu hi _ _ _ _ _ _ hd hs (hm.trans hz) ?_
    rw [hz] at h
    exact h w (by simpa using hg) (Keeps.refl _ _)
  · cases sa with
    | none => exact absurd (h0 rfl) hz
    | some ad =>
      refine wpList_copy_rows w hgd d s dT sT ho elem i size hu hi hsize g 0 dLen dCap ad sLen sCap hd hs cur.toArray t hg sLen hm.symm cs hl (hsrc ad rfl) (by have := Nat.mul_le_mul_right size hle; simp; omega) h1 fun w' hw hk => h w' ?_ hk
      simpa using hw
end
end Go.Proofs.YtbabfibmopfghaaGreatDoor
