/-
  PROVED HERE: the walk in the order of the text behind a structure, so that nothing unfolds it. No program of its own.
  PROVED HERE: the order of values and rows in plain Lean: what the program's comparison gives is the sign that the document's order gives. No program of its own.
  PROVED HERE: two endings with equal numbers, equal truths. No program of its own.
  PROVED HERE: loops and cuts over frames of many slots: the slots that turn are one function's values. No program of its own.
-/
import Derived.Test.YtgajofkeidjbgaaGreatDoorLex
import Derived.Test.YtgajofkeidjbgaaGreatDoorGData
import Derived.Test.YtgajofkeidjbgaaGreatDoorRows
import Derived.Deep.QuietTactic
import Derived.BigQuiet
import Derived.WalkLawsBesides
import Derived.Control
import Derived.Deep.CutRange
import Derived.WalkKit
namespace Go.Proofs.YtgajofkeidjbgaaGreatDoor
set_option linter.unusedSimpArgs false
set_option linter.unusedVariables false
open Go Go.RowKit

structure LexS (P : Program) (md : Region.Mode) (ops : Array Oper) (Rel : World → World → Prop) (W : World) (T : Kinds) (Q : Act → World → Prop) (L : List (Nat × Oper)) (done : List (Nat × Value)) (a : Act) : Prop where
  out : Lex P md ops Rel W T Q L done a

section
variable {P : Program} {md : Region.Mode} {ops : Array Oper} {Rel : World → World → Prop} {W : World} {T : Kinds} {Q : Act → World → Prop}
theorem LexS.one' {k : Nat} {o : Oper} {rest : List (Nat × Oper)} {done : List (Nat × Value)} {a : Act} (hT : T k = none) (hw : Region.wanted o (yielded ops a.tmps) = true)
    (h : ∃ c, (∀ w, Rel W w → (∀ p ∈ done, waits md o p.1 = true → Told T p w) → (execOp a.eval o).run P w = .ok (.value c) w) ∧ LexS P md ops Rel W T Q rest done (a.put o.dst c)) :
    LexS P md ops Rel W T Q ((k, o) :: rest) done a := let ⟨c, h1, h2⟩ := h; ⟨Lex.one hT hw c h1 h2.out⟩
theorem LexS.any {k : Nat} {o : Oper} {rest : List (Nat × Oper)} {done : List (Nat × Value)} {a : Act} {τ : Value → World → Prop} (hT : T k = some τ) (hw : Region.wanted o (yielded ops a.tmps) = true)
    (h1 : ∀ w, Rel W w → (∀ p ∈ done, waits md o p.1 = true → Told T p w) → Runs P Rel o a w τ)
    (h2 : ∀ v, (∃ w, Rel W w ∧ ∀ p ∈ (k, v) :: done, Told T p w) → LexS P md ops Rel W T Q rest ((k, v) :: done) (a.put o.dst v)) :
    LexS P md ops Rel W T Q ((k, o) :: rest) done a := ⟨Lex.any hT hw h1 fun v hv => (h2 v hv).out⟩
theorem LexS.anyEq {k : Nat} {o : Oper} {rest : List (Nat × Oper)} {done : List (Nat × Value)} {a : Act} {c : Value} (hT : T k = some (fun v _ => v = c)) (hw : Region.wanted o (yielded ops a.tmps) = true)
    (h1 : ∀ w, Rel W w → (∀ p ∈ done, waits md o p.1 = true → Told T p w) → Runs P Rel o a w (fun v _ => v = c))
    (h2 : LexS P md ops Rel W T Q rest ((k, c) :: done) (a.put o.dst c)) : LexS P md ops Rel W T Q ((k, o) :: rest) done a := ⟨Lex.anyEq hT hw h1 h2.out⟩
theorem LexS.skip {k : Nat} {o : Oper} {rest : List (Nat × Oper)} {done : List (Nat × Value)} {a : Act} (hw : Region.wanted o (yielded ops a.tmps) = false)
    (h2 : LexS P md ops Rel W T Q rest done (a.put o.dst undef)) : LexS P md ops Rel W T Q ((k, o) :: rest) done a := ⟨Lex.skip hw h2.out⟩
theorem LexS.nil {done : List (Nat × Value)} {a : Act} (h : ∀ w, Rel W w → (∀ p ∈ done, Told T p w) → Q a w) : LexS P md ops Rel W T Q [] done a := ⟨h⟩
end
end Go.Proofs.YtgajofkeidjbgaaGreatDoor
namespace Go.Proofs.YtgajofkeidjbgaaGreatDoor
set_option linter.unusedSimpArgs false
set_option linter.unusedVariables false
open Go Go.RowKit

def cmpI (a b : Int) : Int := if a < b then -1 else if b < a then 1 else 0
def orL (l : List Int) : Int := (l.find? (fun x => x != 0)).getD 0
def signI (less same : Bool) : Int := if same then 0 else if less then -1 else 1
def str (t : ByteArray) : List UInt8 := t.toList
def valEq (k n : Int) (t : ByteArray) (k' n' : Int) (t' : ByteArray) : Bool := k == k' && (n == n' && str t == str t')
def eqV (x y : Val) : Bool := valEq x.k x.n x.t y.k y.n y.t
def compareV (x y : Val) : Int := orL [cmpI x.k y.k, cmpI x.n y.n, Lib.compareBytes x.t.data.toList y.t.data.toList]
def beforeV (x y : Val) : Bool := if x.k = y.k then (if x.n = y.n then Op.bytesLess (str x.t) (str y.t) else decide (x.n < y.n)) else decide (x.k < y.k)
def compareL : List Val → List Val → Int
  | [], [] => 0
  | [], _ :: _ => -1
  | _ :: _, [] => 1
  | x :: a, y :: b => if compareV x y = 0 then compareL a b else compareV x y
def beforeL : List Val → List Val → Bool
  | _, [] => false
  | [], _ :: _ => true
  | x :: a, y :: b => if eqV x y then beforeL a b else beforeV x y
def compareR (x y : Row) : Int := orL [cmpI x.time y.time, compareL x.vals y.vals]
def beforeR (x y : Row) : Bool := if x.time = y.time then beforeL x.vals y.vals else decide (x.time < y.time)

theorem str_data (t : ByteArray) : t.data.toList = str t := by
  unfold str
  exact (ByteArray.toList_eq t).symm
theorem compareBytes_eq : ∀ (a b : List UInt8), Lib.compareBytes a b = signI (Op.bytesLess a b) (a == b)
  | [], [] => by simp [Lib.compareBytes, signI]
  | [], _ :: _ => by simp [Lib.compareBytes, signI, Op.bytesLess]
  | _ :: _, [] => by simp [Lib.compareBytes, signI, Op.bytesLess]
  | x :: a, y :: b => by
    have ih := compareBytes_eq a b
    unfold Lib.compareBytes
    by_cases h : x < y
    · have hne : ¬ x = y := fun e => by subst e; exact absurd h (UInt8.lt_irrefl _)
      simp [h, signI, Op.bytesLess, hne]
    · by_cases h' : y < x
      · have hne : ¬ x = y := fun e => by subst e; exact absurd h' (UInt8.lt_irrefl _)
        simp [h, h', signI, Op.bytesLess, hne]
      · have he : x = y := UInt8.le_antisymm (UInt8.not_lt.1 h') (UInt8.not_lt.1 h)
        subst he
        simp [h, ih, signI, Op.bytesLess]
theorem cmpI_eq (a b : Int) : cmpI a b = signI (decide (a < b)) (a == b) := by
  unfold cmpI signI
  by_cases h : a < b
  · have : ¬ a = b := by omega
    simp [h, this]
  · by_cases h' : b < a
    · have : ¬ a = b := by omega
      simp [h, h', this]
    · have : a = b := by omega
      subst this; simp
theorem orL3 (a b c : Int) : orL [a, b, c] = if a = 0 then (if b = 0 then c else b) else a := by
  unfold orL
  by_cases ha : a = 0
  · by_cases hb : b = 0
    · by_cases hc : c = 0 <;> simp [ha, hb, hc]
    · simp [ha, hb]
  · simp [ha]
theorem orL2 (a b : Int) : orL [a, b] = if a = 0 then b else a := by
  unfold orL
  by_cases ha : a = 0
  · by_cases hb : b = 0 <;> simp [ha, hb]
  · simp [ha]
theorem signI_zero {l s : Bool} : signI l s = 0 ↔ s = true := by cases l <;> cases s <;> simp [signI]
theorem compareV_eq (x y : Val) : compareV x y = signI (beforeV x y) (eqV x y) := by
  unfold compareV beforeV eqV valEq
  rw [orL3, cmpI_eq, cmpI_eq, compareBytes_eq, str_data, str_data]
  by_cases hk : x.k = y.k
  · by_cases hn : x.n = y.n
    · simp [hk, hn, signI_zero]
    · have hb : (x.n == y.n) = false := by simpa using hn
      simp [hk, hn, hb, signI]; intro h; split at h <;> simp at h
  · have hb : (x.k == y.k) = false := by simpa using hk
    simp [hk, hb, signI]; intro h; split at h <;> simp at h
theorem bytes_tri : ∀ (a b : List UInt8), (a == b) = (!Op.bytesLess a b && !Op.bytesLess b a)
  | [], [] => rfl
  | [], _ :: _ => rfl
  | _ :: _, [] => rfl
  | x :: a, y :: b => by
    have ih := bytes_tri a b
    simp only [Op.bytesLess]
    by_cases h : x < y
    · have hne : ¬ x = y := fun e => by subst e; exact absurd h (UInt8.lt_irrefl _)
      simp [h, hne]
    · by_cases h' : y < x
      · have hne : ¬ x = y := fun e => by subst e; exact absurd h' (UInt8.lt_irrefl _)
        simp [h, h', hne]
      · have he : x = y := UInt8.le_antisymm (UInt8.not_lt.1 h') (UInt8.not_lt.1 h)
        subst he
        simp [h, ih]
theorem eqV_tri (x y : Val) : eqV x y = (!beforeV x y && !beforeV y x) := by
  unfold eqV valEq beforeV
  by_cases hk : x.k = y.k
  · by_cases hn : x.n = y.n
    · simp [hk, hn, bytes_tri]
    · have hn' : ¬ y.n = x.n := fun e => hn e.symm
      have hb : (x.n == y.n) = false := by simpa using hn
      rw [hk]
      simp only [hn, hn', hb, beq_self_eq_true, Bool.true_and, Bool.false_and, if_true, if_false]
      rcases Int.lt_or_gt_of_ne hn with h | h
      · have : ¬ y.n < x.n := by omega
        simp [h]
      · have : ¬ x.n < y.n := by omega
        simp [h]
  · have hk' : ¬ y.k = x.k := fun e => hk e.symm
    have hb : (x.k == y.k) = false := by simpa using hk
    simp only [hk, hk', hb, Bool.false_and, if_false]
    rcases Int.lt_or_gt_of_ne hk with h | h
    · simp [h]
    · simp [h]
theorem eqV_comm (x y : Val) : eqV x y = eqV y x := by rw [eqV_tri, eqV_tri y x, Bool.and_comm]
theorem compareL_eq : ∀ (a b : List Val), compareL a b = signI (beforeL a b) (!beforeL a b && !beforeL b a)
  | [], [] => rfl
  | [], _ :: _ => rfl
  | _ :: _, [] => rfl
  | x :: a, y :: b => by
    have ih := compareL_eq a b
    simp only [compareL, beforeL]
    rw [compareV_eq, eqV_comm y x]
    by_cases he : eqV x y = true
    · simp [he, ih, signI_zero]
    · have he' : eqV x y = false := by simpa using he
      have ht := eqV_tri x y
      rw [he'] at ht
      simp only [he', signI_zero, Bool.false_eq_true, if_false, ← ht]
theorem compareR_eq (x y : Row) : compareR x y = signI (beforeR x y) (!beforeR x y && !beforeR y x) := by
  unfold compareR beforeR
  rw [orL2, cmpI_eq, compareL_eq]
  by_cases h : x.time = y.time
  · simp [h, signI_zero]
  · have h' : ¬ y.time = x.time := fun e => h e.symm
    have hb : (x.time == y.time) = false := by simpa using h
    simp only [h, h', hb, if_false]
    by_cases hl : x.time < y.time
    · have : ¬ y.time < x.time := by omega
      simp [hl, signI]
    · have : y.time < x.time := by omega
      simp [hl, this, signI]
end Go.Proofs.YtgajofkeidjbgaaGreatDoor
namespace Go.Proofs.YtgajofkeidjbgaaGreatDoor
set_option linter.unusedSimpArgs false
set_option linter.unusedVariables false
open Go.RowKit

theorem ret_int {k : IntKind} {a b : Int} (h : a = b) : Ending.returned (.int k a) = .returned (.int k b) := by rw [h]
theorem ret_bool {a b : Bool} (h : a = b) : Ending.returned (.bool a) = .returned (.bool b) := by rw [h]
end Go.Proofs.YtgajofkeidjbgaaGreatDoor
namespace Go.Proofs.YtgajofkeidjbgaaGreatDoor
set_option linter.unusedSimpArgs false
set_option linter.unusedVariables false
open Go Go.RowKit

/-- the frame in which the masked slots hold what 'us' says, the others what they hold in 'f'. -/
def frameOf (us : Nat → Value) : List Bool → Nat → List Value → List Value
  | [], _, f => f
  | _ :: _, _, [] => []
  | true :: m, n, _ :: f => us n :: frameOf us m (n + 1) f
  | false :: m, n, x :: f => x :: frameOf us m (n + 1) f
def slots (l : List Value) (i : Nat) : Value := l.getD i undef
/-- the same, out of a list. -/
def frameL : List Bool → List Value → List Value → List Value
  | [], f, _ => f
  | _ :: _, [], _ => []
  | _ :: _, _ :: _, [] => [undef]
  | true :: m, _ :: f, y :: l => y :: frameL m f l
  | false :: m, x :: f, _ :: l => x :: frameL m f l
theorem frameOf_frameL : ∀ (m : List Bool) (pre f l : List Value), frameL m f l = l → frameOf (slots (pre ++ l)) m pre.length f = l
  | [], _, _, _, h => h
  | _ :: _, _, [], _, h => h
  | _ :: _, _, _ :: _, [], h => by cases h
  | true :: m, pre, x :: f, y :: l, h => by
    simp only [frameL, List.cons.injEq, true_and] at h
    have ih := frameOf_frameL m (pre ++ [y]) f l h
    simp only [List.append_assoc, List.singleton_append, List.length_append, List.length_cons, List.length_nil, Nat.zero_add] at ih
    simp only [frameOf, ih]
    simp [slots]
  | false :: m, pre, x :: f, y :: l, h => by
    simp only [frameL, List.cons.injEq] at h
    obtain ⟨rfl, h⟩ := h
    have ih := frameOf_frameL m (pre ++ [x]) f l h
    simp only [List.append_assoc, List.singleton_append, List.length_append, List.length_cons, List.length_nil, Nat.zero_add] at ih
    simp only [frameOf, ih]
theorem frameL_self : ∀ (m : List Bool) (f : List Value), frameL m f f = f
  | [], _ => rfl
  | _ :: _, [] => rfl
  | true :: m, x :: f => by simp only [frameL, frameL_self m f]
  | false :: m, x :: f => by simp only [frameL, frameL_self m f]
theorem frameOf_self (m : List Bool) (f : List Value) : frameOf (slots f) m 0 f = f := frameOf_frameL m [] f f (frameL_self m f)

section
variable {P : Program} {Q : Exit → Act → World → Prop}
/-- the end of a round. -/
def Round (m : List Bool) (f : List Value) (R : (Nat → Value) → World → Prop) (mu : (Nat → Value) → World → Nat) (us : Nat → Value) (wr : World) (a : Act) (w : World) : Prop :=
  ∃ l, a = ⟨l.toArray, []⟩ ∧ frameOf (slots l) m 0 f = l ∧ R (slots l) w ∧ mu (slots l) w < mu us wr
theorem wp_loop_frame {c : Code} {f : List Value} {w : World} (m : List Bool) (R : (Nat → Value) → World → Prop) (mu : (Nat → Value) → World → Nat) (h0 : R (slots f) w)
    (round : ∀ us wr, R us wr → c.wp P (Exit.then (Round m f R mu us wr) Q) ⟨(frameOf us m 0 f).toArray, []⟩ wr) : (Code.loop c).wp P Q ⟨f.toArray, []⟩ w := by
  refine wp_loop (fun a w => ∃ l, a = ⟨l.toArray, []⟩ ∧ frameOf (slots l) m 0 f = l ∧ R (slots l) w) (fun a w => mu (slots a.tmps.toList) w) ⟨f, rfl, frameOf_self m f, h0⟩ ?_
  rintro a w ⟨l, rfl, hl, hR⟩
  have := round (slots l) w hR
  rw [hl] at this
  refine wp_mono this ?_
  intro e a' w' hq
  cases e with
  | normal =>
    obtain ⟨l', rfl, h1, h2, h3⟩ := hq
    exact ⟨⟨l', rfl, h1, h2⟩, h3⟩
  | exit id => exact hq
  | goto l => exact hq
  | ret => exact hq
  | panic ch => exact hq
  | outgrown => exact hq

/-- where ways meet. -/
def Meet (m : List Bool) (f : List Value) (R : (Nat → Value) → World → Prop) (a : Act) (w : World) : Prop :=
  ∃ l, a = ⟨l.toArray, []⟩ ∧ frameOf (slots l) m 0 f = l ∧ R (slots l) w
theorem wp_cut_frame {s : Code} {K : Act → World → Prop} {f : List Value} {w : World} (m : List Bool) (R : (Nat → Value) → World → Prop)
    (first : s.wp P (Exit.then (Meet m f R) Q) ⟨f.toArray, []⟩ w) (rest : ∀ us wr, R us wr → K ⟨(frameOf us m 0 f).toArray, []⟩ wr) : s.wp P (Exit.then K Q) ⟨f.toArray, []⟩ w := by
  refine wp_mono first ?_
  intro e a' w' hq
  cases e with
  | normal =>
    obtain ⟨l, rfl, h1, h2⟩ := hq
    have := rest (slots l) w' h2
    rwa [h1] at this
  | exit id => exact hq
  | goto l => exact hq
  | ret => exact hq
  | panic ch => exact hq
  | outgrown => exact hq
theorem Meet.mk {m : List Bool} {f l : List Value} {R : (Nat → Value) → World → Prop} {w : World} (hf : frameL m f l = l) (h : R (slots l) w) : Meet m f R ⟨l.toArray, []⟩ w := ⟨l, rfl, frameOf_frameL m [] f l hf, h⟩
theorem Round.mk {m : List Bool} {f l : List Value} {R : (Nat → Value) → World → Prop} {mu : (Nat → Value) → World → Nat} {us : Nat → Value} {wr w : World} (hf : frameL m f l = l) (h : R (slots l) w)
    (hm : mu (slots l) w < mu us wr) : Round m f R mu us wr ⟨l.toArray, []⟩ w := ⟨l, rfl, frameOf_frameL m [] f l hf, h, hm⟩
theorem Meet.mk' {m : List Bool} {f l : List Value} {R R0 : (Nat → Value) → World → Prop} {w : World} (hR : R = R0) (hf : frameL m f l = l) (h : R0 (slots l) w) : Meet m f R ⟨l.toArray, []⟩ w := hR ▸ Meet.mk hf h
theorem Round.mk' {m : List Bool} {f l : List Value} {R R0 : (Nat → Value) → World → Prop} {mu mu0 : (Nat → Value) → World → Nat} {us : Nat → Value} {wr w : World} (hR : R = R0) (hmu : mu = mu0) (hf : frameL m f l = l) (h : R0 (slots l) w)
    (hm : mu0 (slots l) w < mu0 us wr) : Round m f R mu us wr ⟨l.toArray, []⟩ w := by subst hR hmu; exact Round.mk hf h hm
theorem wp_loop_frame' {c : Code} {f : List Value} {w : World} (m : List Bool) (R R0 : (Nat → Value) → World → Prop) (mu : (Nat → Value) → World → Nat) (hR : R = R0) (h0 : R0 (slots f) w)
    (round : ∀ us wr, R0 us wr → c.wp P (Exit.then (Round m f R mu us wr) Q) ⟨(frameOf us m 0 f).toArray, []⟩ wr) : (Code.loop c).wp P Q ⟨f.toArray, []⟩ w := by subst hR; exact wp_loop_frame m R mu h0 round
theorem wp_cut_frame' {s : Code} {K : Act → World → Prop} {f : List Value} {w : World} (m : List Bool) (R R0 : (Nat → Value) → World → Prop) (hR : R = R0)
    (first : s.wp P (Exit.then (Meet m f R) Q) ⟨f.toArray, []⟩ w) (rest : ∀ us wr, R0 us wr → K ⟨(frameOf us m 0 f).toArray, []⟩ wr) : s.wp P (Exit.then K Q) ⟨f.toArray, []⟩ w := by subst hR; exact wp_cut_frame m R first rest
end
end Go.Proofs.YtgajofkeidjbgaaGreatDoor
