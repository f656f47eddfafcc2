/-
  PROVED HERE: loops and cuts over frames of many slots: the slots that turn are one function's values. No program of its own.
-/
import Derived.Control
import Derived.Deep.CutRange
import Derived.WalkKit
namespace Go.Proofs.YtbabfibmopfghaaGreatDoor
set_option linter.unusedSimpArgs false
set_option linter.unusedVariables false
open Go Go.RowKit

/-- the frame in which the masked slots hold what 'us' says, the others what they hold in 'f'. -/
def frameOf (us : Nat → Value) : List Bool → Nat → List Value → List Value
  | [], _, f => f
  | _ :: _, _, [] => []
  | true :: m, n, _ :: f => us n :: frameOf us m (n + 1) f
  | false :: m, n, x :: f => x :: frameOf us m (n + 1) f
def slots (l : List Value) (i : Nat) : Value := l.getD i undef
/-- the same, out of a list. -/
def frameL : List Bool → List Value → List Value → List Value
  | [], f, _ => f
  | _ :: _, [], _ => []
  | _ :: _, _ :: _, [] => [undef]
  | true :: m, _ :: f, y :: l => y :: frameL m f l
  | false :: m, x :: f, _ :: l => x :: frameL m f l
theorem frameOf_frameL : ∀ (m : List Bool) (pre f l : List Value), frameL m f l = l → frameOf (slots (pre ++ l)) m pre.length f = l
  | [], _, _, _, h => h
  | _ :: _, _, [], _, h => h
  | _ :: _, _, _ :: _, [], h => by cases h
  | true :: m, pre, x :: f, y :: l, h => by
    simp only [frameL, List.cons.injEq, true_and] at h
    have ih := frameOf_frameL m (pre ++ [y]) f l h
    simp only [List.append_assoc, List.singleton_append, List.length_append, List.length_cons, List.length_nil, Nat.zero_add] at ih
    simp only [frameOf, ih]
    simp [slots]
  | false :: m, pre, x :: f, y :: l, h => by
    simp only [frameL, List.cons.injEq] at h
    obtain ⟨rfl, h⟩ := h
    have ih := frameOf_frameL m (pre ++ [x]) f l h
    simp only [List.append_assoc, List.singleton_append, List.length_append, List.length_cons, List.length_nil, Nat.zero_add] at ih
    simp only [frameOf, ih]
theorem frameL_self : ∀ (m : List Bool) (f : List Value), frameL m f f = f
  | [], _ => rfl
  | _ :: _, [] => rfl
  | true :: m, x :: f => by simp only [frameL, frameL_self m f]
  | false :: m, x :: f => by simp only [frameL, frameL_self m f]
theorem frameOf_self (m : List Bool) (f : List Value) : frameOf (slots f) m 0 f = f := frameOf_frameL m [] f f (frameL_self m f)

section
variable {P : Program} {Q : Exit → Act → World → Prop}
/-- the end of a round. -/
def Round (m : List Bool) (f : List Value) (R : (Nat → Value) → World → Prop) (mu : (Nat → Value) → World → Nat) (us : Nat → Value) (wr : World) (a : Act) (w : World) : Prop :=
  ∃ l, a = ⟨l.toArray, []⟩ ∧ frameOf (slots l) m 0 f = l ∧ R (slots l) w ∧ mu (slots l) w < mu us wr
theorem wp_loop_frame {c : Code} {f : List Value} {w : World} (m : List Bool) (R : (Nat → Value) → World → Prop) (mu : (Nat → Value) → World → Nat) (h0 : R (slots f) w)
    (round : ∀ us wr, R us wr → c.wp P (Exit.then (Round m f R mu us wr) Q) ⟨(frameOf us m 0 f).toArray, []⟩ wr) : (Code.loop c).wp P Q ⟨f.toArray, []⟩ w := by
  refine wp_loop (fun a w => ∃ l, a = ⟨l.toArray, []⟩ ∧ frameOf (slots l) m 0 f = l ∧ R (slots l) w) (fun a w => mu (slots a.tmps.toList) w) ⟨f, rfl, frameOf_self m f, h0⟩ ?_
  rintro a w ⟨l, rfl, hl, hR⟩
  have := round (slots l) w hR
  rw [hl] at this
  refine wp_mono this ?_
  intro e a' w' hq
  cases e with
  | normal =>
    obtain ⟨l', rfl, h1, h2, h3⟩ := hq
    exact ⟨⟨l', rfl, h1, h2⟩, h3⟩
  | exit id => exact hq
  | goto l => exact hq
  | ret => exact hq
  | panic ch => exact hq
  | outgrown => exact hq

/-- where ways meet. -/
def Meet (m : List Bool) (f : List Value) (R : (Nat → Value) → World → Prop) (a : Act) (w : World) : Prop :=
  ∃ l, a = ⟨l.toArray, []⟩ ∧ frameOf (slots l) m 0 f = l ∧ R (slots l) w
theorem wp_cut_frame {s : Code} {K : Act → World → Prop} {f : List Value} {w : World} (m : List Bool) (R : (Nat → Value) → World → Prop)
    (first : s.wp P (Exit.then (Meet m f R) Q) ⟨f.toArray, []⟩ w) (rest : ∀ us wr, R us wr → K ⟨(frameOf us m 0 f).toArray, []⟩ wr) : s.wp P (Exit.then K Q) ⟨f.toArray, []⟩ w := by
  refine wp_mono first ?_
  intro e a' w' hq
  cases e with
  | normal =>
    obtain ⟨l, rfl, h1, h2⟩ := hq
    have := rest (slots l) w' h2
    rwa [h1] at this
  | exit id => exact hq
  | goto l => exact hq
  | ret => exact hq
  | panic ch => exact hq
  | outgrown => exact hq
theorem Meet.mk {m : List Bool} {f l : List Value} {R : (Nat → Value) → World → Prop} {w : World} (hf : frameL m f l = l) (h : R (slots l) w) : Meet m f R ⟨l.toArray, []⟩ w := ⟨l, rfl, frameOf_frameL m [] f l hf, h⟩
theorem Round.mk {m : List Bool} {f l : List Value} {R : (Nat → Value) → World → Prop} {mu : (Nat → Value) → World → Nat} {us : Nat → Value} {wr w : World} (hf : frameL m f l = l) (h : R (slots l) w)
    (hm : mu (slots l) w < mu us wr) : Round m f R mu us wr ⟨l.toArray, []⟩ w := ⟨l, rfl, frameOf_frameL m [] f l hf, h, hm⟩
theorem Meet.mk' {m : List Bool} {f l : List Value} {R R0 : (Nat → Value) → World → Prop} {w : World} (hR : R = R0) (hf : frameL m f l = l) (h : R0 (slots l) w) : Meet m f R ⟨l.toArray, []⟩ w := hR ▸ Meet.mk hf h
theorem Round.mk' {m : List Bool} {f l : List Value} {R R0 : (Nat → Value) → World → Prop} {mu mu0 : (Nat → Value) → World → Nat} {us : Nat → Value} {wr w : World} (hR : R = R0) (hmu : mu = mu0) (hf : frameL m f l = l) (h : R0 (slots l) w)
    (hm : mu0 (slots l) w < mu0 us wr) : Round m f R mu us wr ⟨l.toArray, []⟩ w := by subst hR hmu; exact Round.mk hf h hm
theorem wp_loop_frame' {c : Code} {f : List Value} {w : World} (m : List Bool) (R R0 : (Nat → Value) → World → Prop) (mu : (Nat → Value) → World → Nat) (hR : R = R0) (h0 : R0 (slots f) w)
    (round : ∀ us wr, R0 us wr → c.wp P (Exit.then (Round m f R mu us wr) Q) ⟨(frameOf us m 0 f).toArray, []⟩ wr) : (Code.loop c).wp P Q ⟨f.toArray, []⟩ w := by subst hR; exact wp_loop_frame m R mu h0 round
theorem wp_cut_frame' {s : Code} {K : Act → World → Prop} {f : List Value} {w : World} (m : List Bool) (R R0 : (Nat → Value) → World → Prop) (hR : R = R0)
    (first : s.wp P (Exit.then (Meet m f R) Q) ⟨f.toArray, []⟩ w) (rest : ∀ us wr, R0 us wr → K ⟨(frameOf us m 0 f).toArray, []⟩ wr) : s.wp P (Exit.then K Q) ⟨f.toArray, []⟩ w := by subst hR; exact wp_cut_frame m R first rest
end
end Go.Proofs.YtbabfibmopfghaaGreatDoor
