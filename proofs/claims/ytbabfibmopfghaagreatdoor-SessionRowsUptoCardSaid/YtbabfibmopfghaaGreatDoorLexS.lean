/-
  PROVED HERE: the walk in the order of the text behind a structure, so that nothing unfolds it. No program of its own.
-/
import Derived.Test.YtbabfibmopfghaaGreatDoorLex
namespace Go.Proofs.YtbabfibmopfghaaGreatDoor
set_option linter.unusedSimpArgs false
set_option linter.unusedVariables false
open Go Go.RowKit

structure LexS (P : Program) (md : Region.Mode) (ops : Array Oper) (Rel : World → World → Prop) (W : World) (T : Kinds) (Q : Act → World → Prop) (L : List (Nat × Oper)) (done : List (Nat × Value)) (a : Act) : Prop where
  out : Lex P md ops Rel W T Q L done a

section
variable {P : Program} {md : Region.Mode} {ops : Array Oper} {Rel : World → World → Prop} {W : World} {T : Kinds} {Q : Act → World → Prop}
theorem LexS.one' {k : Nat} {o : Oper} {rest : List (Nat × Oper)} {done : List (Nat × Value)} {a : Act} (hT : T k = none) (hw : Region.wanted o (yielded ops a.tmps) = true)
    (h : ∃ c, (∀ w, Rel W w → (∀ p ∈ done, waits md o p.1 = true → Told T p w) → (execOp a.eval o).run P w = .ok (.value c) w) ∧ LexS P md ops Rel W T Q rest done (a.put o.dst c)) :
    LexS P md ops Rel W T Q ((k, o) :: rest) done a := let ⟨c, h1, h2⟩ := h; ⟨Lex.one hT hw c h1 h2.out⟩
theorem LexS.any {k : Nat} {o : Oper} {rest : List (Nat × Oper)} {done : List (Nat × Value)} {a : Act} {τ : Value → World → Prop} (hT : T k = some τ) (hw : Region.wanted o (yielded ops a.tmps) = true)
    (h1 : ∀ w, Rel W w → (∀ p ∈ done, waits md o p.1 = true → Told T p w) → Runs P Rel o a w τ)
    (h2 : ∀ v, (∃ w, Rel W w ∧ ∀ p ∈ (k, v) :: done, Told T p w) → LexS P md ops Rel W T Q rest ((k, v) :: done) (a.put o.dst v)) :
    LexS P md ops Rel W T Q ((k, o) :: rest) done a := ⟨Lex.any hT hw h1 fun v hv => (h2 v hv).out⟩
theorem LexS.anyEq {k : Nat} {o : Oper} {rest : List (Nat × Oper)} {done : List (Nat × Value)} {a : Act} {c : Value} (hT : T k = some (fun v _ => v = c)) (hw : Region.wanted o (yielded ops a.tmps) = true)
    (h1 : ∀ w, Rel W w → (∀ p ∈ done, waits md o p.1 = true → Told T p w) → Runs P Rel o a w (fun v _ => v = c))
    (h2 : LexS P md ops Rel W T Q rest ((k, c) :: done) (a.put o.dst c)) : LexS P md ops Rel W T Q ((k, o) :: rest) done a := ⟨Lex.anyEq hT hw h1 h2.out⟩
theorem LexS.skip {k : Nat} {o : Oper} {rest : List (Nat × Oper)} {done : List (Nat × Value)} {a : Act} (hw : Region.wanted o (yielded ops a.tmps) = false)
    (h2 : LexS P md ops Rel W T Q rest done (a.put o.dst undef)) : LexS P md ops Rel W T Q ((k, o) :: rest) done a := ⟨Lex.skip hw h2.out⟩
theorem LexS.nil {done : List (Nat × Value)} {a : Act} (h : ∀ w, Rel W w → (∀ p ∈ done, Told T p w) → Q a w) : LexS P md ops Rel W T Q [] done a := ⟨h⟩
end
end Go.Proofs.YtbabfibmopfghaaGreatDoor
