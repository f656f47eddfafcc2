/-
  PROVED HERE: what the table of types says of a byte.
  PROVED HERE: the walk in the order of the text behind a structure, so that nothing unfolds it. No program of its own.
  PROVED HERE: the order of values and rows in plain Lean: what the program's comparison gives is the sign that the document's order gives. No program of its own.
  PROVED HERE: two endings with equal numbers, equal truths. No program of its own.
  PROVED HERE: loops and cuts over frames of many slots: the slots that turn are one function's values. No program of its own.
  PROVED HERE: the contract of value.Quote.
-/
import Derived.Test.YtgcnchmnciihnaaGreatDoorGOpen
import Derived.Test.YtgcnchmnciihnaaGreatDoorRows
import Derived.Test.YtgcnchmnciihnaaGreatDoorGLex
import Derived.Test.YtgcnchmnciihnaaGreatDoorGData
import Derived.Deep.QuietTactic
import Derived.BigQuiet
import Derived.WalkLawsBesides
import Derived.Control
import Derived.Deep.CutRange
import Derived.WalkKit
import Derived.Test.YtgcnchmnciihnaaGreatDoorGPutLaws
namespace Go.Proofs.YtgcnchmnciihnaaGreatDoor
set_option linter.unusedSimpArgs false
set_option linter.unusedVariables false
open Go.RowKit
theorem infoU8 : (Tryz.prog.info? 5).map (fun i => (i.zero, i.size, i.bytes)) = some (some (.int .u8 0), 1, 1) := by kernel_rfl
end Go.Proofs.YtgcnchmnciihnaaGreatDoor
namespace Go.Proofs.YtgcnchmnciihnaaGreatDoor
set_option linter.unusedSimpArgs false
set_option linter.unusedVariables false
open Go Go.RowKit

structure LexS (P : Program) (md : Region.Mode) (ops : Array Oper) (Rel : World → World → Prop) (W : World) (T : Kinds) (Q : Act → World → Prop) (L : List (Nat × Oper)) (done : List (Nat × Value)) (a : Act) : Prop where
  out : Lex P md ops Rel W T Q L done a

section
variable {P : Program} {md : Region.Mode} {ops : Array Oper} {Rel : World → World → Prop} {W : World} {T : Kinds} {Q : Act → World → Prop}
theorem LexS.one' {k : Nat} {o : Oper} {rest : List (Nat × Oper)} {done : List (Nat × Value)} {a : Act} (hT : T k = none) (hw : Region.wanted o (yielded ops a.tmps) = true)
    (h : ∃ c, (∀ w, Rel W w → (∀ p ∈ done, waits md o p.1 = true → Told T p w) → (execOp a.eval o).run P w = .ok (.value c) w) ∧ LexS P md ops Rel W T Q rest done (a.put o.dst c)) :
    LexS P md ops Rel W T Q ((k, o) :: rest) done a := let ⟨c, h1, h2⟩ := h; ⟨Lex.one hT hw c h1 h2.out⟩
theorem LexS.any {k : Nat} {o : Oper} {rest : List (Nat × Oper)} {done : List (Nat × Value)} {a : Act} {τ : Value → World → Prop} (hT : T k = some τ) (hw : Region.wanted o (yielded ops a.tmps) = true)
    (h1 : ∀ w, Rel W w → (∀ p ∈ done, waits md o p.1 = true → Told T p w) → Runs P Rel o a w τ)
    (h2 : ∀ v, (∃ w, Rel W w ∧ ∀ p ∈ (k, v) :: done, Told T p w) → LexS P md ops Rel W T Q rest ((k, v) :: done) (a.put o.dst v)) :
    LexS P md ops Rel W T Q ((k, o) :: rest) done a := ⟨Lex.any hT hw h1 fun v hv => (h2 v hv).out⟩
theorem LexS.anyEq {k : Nat} {o : Oper} {rest : List (Nat × Oper)} {done : List (Nat × Value)} {a : Act} {c : Value} (hT : T k = some (fun v _ => v = c)) (hw : Region.wanted o (yielded ops a.tmps) = true)
    (h1 : ∀ w, Rel W w → (∀ p ∈ done, waits md o p.1 = true → Told T p w) → Runs P Rel o a w (fun v _ => v = c))
    (h2 : LexS P md ops Rel W T Q rest ((k, c) :: done) (a.put o.dst c)) : LexS P md ops Rel W T Q ((k, o) :: rest) done a := ⟨Lex.anyEq hT hw h1 h2.out⟩
theorem LexS.skip {k : Nat} {o : Oper} {rest : List (Nat × Oper)} {done : List (Nat × Value)} {a : Act} (hw : Region.wanted o (yielded ops a.tmps) = false)
    (h2 : LexS P md ops Rel W T Q rest done (a.put o.dst undef)) : LexS P md ops Rel W T Q ((k, o) :: rest) done a := ⟨Lex.skip hw h2.out⟩
theorem LexS.nil {done : List (Nat × Value)} {a : Act} (h : ∀ w, Rel W w → (∀ p ∈ done, Told T p w) → Q a w) : LexS P md ops Rel W T Q [] done a := ⟨h⟩
end
end Go.Proofs.YtgcnchmnciihnaaGreatDoor
namespace Go.Proofs.YtgcnchmnciihnaaGreatDoor
set_option linter.unusedSimpArgs false
set_option linter.unusedVariables false
open Go Go.RowKit

def cmpI (a b : Int) : Int := if a < b then -1 else if b < a then 1 else 0
def orL (l : List Int) : Int := (l.find? (fun x => x != 0)).getD 0
def signI (less same : Bool) : Int := if same then 0 else if less then -1 else 1
def str (t : ByteArray) : List UInt8 := t.toList
def valEq (k n : Int) (t : ByteArray) (k' n' : Int) (t' : ByteArray) : Bool := k == k' && (n == n' && str t == str t')
def eqV (x y : Val) : Bool := valEq x.k x.n x.t y.k y.n y.t
def compareV (x y : Val) : Int := orL [cmpI x.k y.k, cmpI x.n y.n, Lib.compareBytes x.t.data.toList y.t.data.toList]
def beforeV (x y : Val) : Bool := if x.k = y.k then (if x.n = y.n then Op.bytesLess (str x.t) (str y.t) else decide (x.n < y.n)) else decide (x.k < y.k)
def compareL : List Val → List Val → Int
  | [], [] => 0
  | [], _ :: _ => -1
  | _ :: _, [] => 1
  | x :: a, y :: b => if compareV x y = 0 then compareL a b else compareV x y
def beforeL : List Val → List Val → Bool
  | _, [] => false
  | [], _ :: _ => true
  | x :: a, y :: b => if eqV x y then beforeL a b else beforeV x y
def compareR (x y : Row) : Int := orL [cmpI x.time y.time, compareL x.vals y.vals]
def beforeR (x y : Row) : Bool := if x.time = y.time then beforeL x.vals y.vals else decide (x.time < y.time)

theorem str_data (t : ByteArray) : t.data.toList = str t := by
  unfold str
  exact (ByteArray.toList_eq t).symm
theorem compareBytes_eq : ∀ (a b : List UInt8), Lib.compareBytes a b = signI (Op.bytesLess a b) (a == b)
  | [], [] => by simp [Lib.compareBytes, signI]
  | [], _ :: _ => by simp [Lib.compareBytes, signI, Op.bytesLess]
  | _ :: _, [] => by simp [Lib.compareBytes, signI, Op.bytesLess]
  | x :: a, y :: b => by
    have ih := compareBytes_eq a b
    unfold Lib.compareBytes
    by_cases h : x < y
    · have hne : ¬ x = y := fun e => by subst e; exact absurd h (UInt8.lt_irrefl _)
      simp [h, signI, Op.bytesLess, hne]
    · by_cases h' : y < x
      · have hne : ¬ x = y := fun e => by subst e; exact absurd h' (UInt8.lt_irrefl _)
        simp [h, h', signI, Op.bytesLess, hne]
      · have he : x = y := UInt8.le_antisymm (UInt8.not_lt.1 h') (UInt8.not_lt.1 h)
        subst he
        simp [h, ih, signI, Op.bytesLess]
theorem cmpI_eq (a b : Int) : cmpI a b = signI (decide (a < b)) (a == b) := by
  unfold cmpI signI
  by_cases h : a < b
  · have : ¬ a = b := by omega
    simp [h, this]
  · by_cases h' : b < a
    · have : ¬ a = b := by omega
      simp [h, h', this]
    · have : a = b := by omega
      subst this; simp
theorem orL3 (a b c : Int) : orL [a, b, c] = if a = 0 then (if b = 0 then c else b) else a := by
  unfold orL
  by_cases ha : a = 0
  · by_cases hb : b = 0
    · by_cases hc : c = 0 <;> simp [ha, hb, hc]
    · simp [ha, hb]
  · simp [ha]
theorem orL2 (a b : Int) : orL [a, b] = if a = 0 then b else a := by
  unfold orL
  by_cases ha : a = 0
  · by_cases hb : b = 0 <;> simp [ha, hb]
  · simp [ha]
theorem signI_zero {l s : Bool} : signI l s = 0 ↔ s = true := by cases l <;> cases s <;> simp [signI]
theorem compareV_eq (x y : Val) : compareV x y = signI (beforeV x y) (eqV x y) := by
  unfold compareV beforeV eqV valEq
  rw [orL3, cmpI_eq, cmpI_eq, compareBytes_eq, str_data, str_data]
  by_cases hk : x.k = y.k
  · by_cases hn : x.n = y.n
    · simp [hk, hn, signI_zero]
    · have hb : (x.n == y.n) = false := by simpa using hn
      simp [hk, hn, hb, signI]; intro h; split at h <;> simp at h
  · have hb : (x.k == y.k) = false := by simpa using hk
    simp [hk, hb, signI]; intro h; split at h <;> simp at h
theorem bytes_tri : ∀ (a b : List UInt8), (a == b) = (!Op.bytesLess a b && !Op.bytesLess b a)
  | [], [] => rfl
  | [], _ :: _ => rfl
  | _ :: _, [] => rfl
  | x :: a, y :: b => by
    have ih := bytes_tri a b
    simp only [Op.bytesLess]
    by_cases h : x < y
    · have hne : ¬ x = y := fun e => by subst e; exact absurd h (UInt8.lt_irrefl _)
      simp [h, hne]
    · by_cases h' : y < x
      · have hne : ¬ x = y := fun e => by subst e; exact absurd h' (UInt8.lt_irrefl _)
        simp [h, h', hne]
      · have he : x = y := UInt8.le_antisymm (UInt8.not_lt.1 h') (UInt8.not_lt.1 h)
        subst he
        simp [h, ih]
theorem eqV_tri (x y : Val) : eqV x y = (!beforeV x y && !beforeV y x) := by
  unfold eqV valEq beforeV
  by_cases hk : x.k = y.k
  · by_cases hn : x.n = y.n
    · simp [hk, hn, bytes_tri]
    · have hn' : ¬ y.n = x.n := fun e => hn e.symm
      have hb : (x.n == y.n) = false := by simpa using hn
      rw [hk]
      simp only [hn, hn', hb, beq_self_eq_true, Bool.true_and, Bool.false_and, if_true, if_false]
      rcases Int.lt_or_gt_of_ne hn with h | h
      · have : ¬ y.n < x.n := by omega
        simp [h]
      · have : ¬ x.n < y.n := by omega
        simp [h]
  · have hk' : ¬ y.k = x.k := fun e => hk e.symm
    have hb : (x.k == y.k) = false := by simpa using hk
    simp only [hk, hk', hb, Bool.false_and, if_false]
    rcases Int.lt_or_gt_of_ne hk with h | h
    · simp [h]
    · simp [h]
theorem eqV_comm (x y : Val) : eqV x y = eqV y x := by rw [eqV_tri, eqV_tri y x, Bool.and_comm]
theorem compareL_eq : ∀ (a b : List Val), compareL a b = signI (beforeL a b) (!beforeL a b && !beforeL b a)
  | [], [] => rfl
  | [], _ :: _ => rfl
  | _ :: _, [] => rfl
  | x :: a, y :: b => by
    have ih := compareL_eq a b
    simp only [compareL, beforeL]
    rw [compareV_eq, eqV_comm y x]
    by_cases he : eqV x y = true
    · simp [he, ih, signI_zero]
    · have he' : eqV x y = false := by simpa using he
      have ht := eqV_tri x y
      rw [he'] at ht
      simp only [he', signI_zero, Bool.false_eq_true, if_false, ← ht]
theorem compareR_eq (x y : Row) : compareR x y = signI (beforeR x y) (!beforeR x y && !beforeR y x) := by
  unfold compareR beforeR
  rw [orL2, cmpI_eq, compareL_eq]
  by_cases h : x.time = y.time
  · simp [h, signI_zero]
  · have h' : ¬ y.time = x.time := fun e => h e.symm
    have hb : (x.time == y.time) = false := by simpa using h
    simp only [h, h', hb, if_false]
    by_cases hl : x.time < y.time
    · have : ¬ y.time < x.time := by omega
      simp [hl, signI]
    · have : y.time < x.time := by omega
      simp [hl, this, signI]
end Go.Proofs.YtgcnchmnciihnaaGreatDoor
namespace Go.Proofs.YtgcnchmnciihnaaGreatDoor
set_option linter.unusedSimpArgs false
set_option linter.unusedVariables false
open Go.RowKit

theorem ret_int {k : IntKind} {a b : Int} (h : a = b) : Ending.returned (.int k a) = .returned (.int k b) := by rw [h]
theorem ret_bool {a b : Bool} (h : a = b) : Ending.returned (.bool a) = .returned (.bool b) := by rw [h]
end Go.Proofs.YtgcnchmnciihnaaGreatDoor
namespace Go.Proofs.YtgcnchmnciihnaaGreatDoor
set_option linter.unusedSimpArgs false
set_option linter.unusedVariables false
open Go Go.RowKit

/-- the frame in which the masked slots hold what 'us' says, the others what they hold in 'f'. -/
def frameOf (us : Nat → Value) : List Bool → Nat → List Value → List Value
  | [], _, f => f
  | _ :: _, _, [] => []
  | true :: m, n, _ :: f => us n :: frameOf us m (n + 1) f
  | false :: m, n, x :: f => x :: frameOf us m (n + 1) f
def slots (l : List Value) (i : Nat) : Value := l.getD i undef
/-- the same, out of a list. -/
def frameL : List Bool → List Value → List Value → List Value
  | [], f, _ => f
  | _ :: _, [], _ => []
  | _ :: _, _ :: _, [] => [undef]
  | true :: m, _ :: f, y :: l => y :: frameL m f l
  | false :: m, x :: f, _ :: l => x :: frameL m f l
theorem frameOf_frameL : ∀ (m : List Bool) (pre f l : List Value), frameL m f l = l → frameOf (slots (pre ++ l)) m pre.length f = l
  | [], _, _, _, h => h
  | _ :: _, _, [], _, h => h
  | _ :: _, _, _ :: _, [], h => by cases h
  | true :: m, pre, x :: f, y :: l, h => by
    simp only [frameL, List.cons.injEq, true_and] at h
    have ih := frameOf_frameL m (pre ++ [y]) f l h
    simp only [List.append_assoc, List.singleton_append, List.length_append, List.length_cons, List.length_nil, Nat.zero_add] at ih
    simp only [frameOf, ih]
    simp [slots]
  | false :: m, pre, x :: f, y :: l, h => by
    simp only [frameL, List.cons.injEq] at h
    obtain ⟨rfl, h⟩ := h
    have ih := frameOf_frameL m (pre ++ [x]) f l h
    simp only [List.append_assoc, List.singleton_append, List.length_append, List.length_cons, List.length_nil, Nat.zero_add] at ih
    simp only [frameOf, ih]
theorem frameL_self : ∀ (m : List Bool) (f : List Value), frameL m f f = f
  | [], _ => rfl
  | _ :: _, [] => rfl
  | true :: m, x :: f => by simp only [frameL, frameL_self m f]
  | false :: m, x :: f => by simp only [frameL, frameL_self m f]
theorem frameOf_self (m : List Bool) (f : List Value) : frameOf (slots f) m 0 f = f := frameOf_frameL m [] f f (frameL_self m f)

section
variable {P : Program} {Q : Exit → Act → World → Prop}
/-- the end of a round. -/
def Round (m : List Bool) (f : List Value) (R : (Nat → Value) → World → Prop) (mu : (Nat → Value) → World → Nat) (us : Nat → Value) (wr : World) (a : Act) (w : World) : Prop :=
  ∃ l, a = ⟨l.toArray, []⟩ ∧ frameOf (slots l) m 0 f = l ∧ R (slots l) w ∧ mu (slots l) w < mu us wr
theorem wp_loop_frame {c : Code} {f : List Value} {w : World} (m : List Bool) (R : (Nat → Value) → World → Prop) (mu : (Nat → Value) → World → Nat) (h0 : R (slots f) w)
    (round : ∀ us wr, R us wr → c.wp P (Exit.then (Round m f R mu us wr) Q) ⟨(frameOf us m 0 f).toArray, []⟩ wr) : (Code.loop c).wp P Q ⟨f.toArray, []⟩ w := by
  refine wp_loop (fun a w => ∃ l, a = ⟨l.toArray, []⟩ ∧ frameOf (slots l) m 0 f = l ∧ R (slots l) w) (fun a w => mu (slots a.tmps.toList) w) ⟨f, rfl, frameOf_self m f, h0⟩ ?_
  rintro a w ⟨l, rfl, hl, hR⟩
  have := round (slots l) w hR
  rw [hl] at this
  refine wp_mono this ?_
  intro e a' w' hq
  cases e with
  | normal =>
    obtain ⟨l', rfl, h1, h2, h3⟩ := hq
    exact ⟨⟨l', rfl, h1, h2⟩, h3⟩
  | exit id => exact hq
  | goto l => exact hq
  | ret => exact hq
  | panic ch => exact hq
  | outgrown => exact hq

/-- where ways meet. -/
def Meet (m : List Bool) (f : List Value) (R : (Nat → Value) → World → Prop) (a : Act) (w : World) : Prop :=
  ∃ l, a = ⟨l.toArray, []⟩ ∧ frameOf (slots l) m 0 f = l ∧ R (slots l) w
theorem wp_cut_frame {s : Code} {K : Act → World → Prop} {f : List Value} {w : World} (m : List Bool) (R : (Nat → Value) → World → Prop)
    (first : s.wp P (Exit.then (Meet m f R) Q) ⟨f.toArray, []⟩ w) (rest : ∀ us wr, R us wr → K ⟨(frameOf us m 0 f).toArray, []⟩ wr) : s.wp P (Exit.then K Q) ⟨f.toArray, []⟩ w := by
  refine wp_mono first ?_
  intro e a' w' hq
  cases e with
  | normal =>
    obtain ⟨l, rfl, h1, h2⟩ := hq
    have := rest (slots l) w' h2
    rwa [h1] at this
  | exit id => exact hq
  | goto l => exact hq
  | ret => exact hq
  | panic ch => exact hq
  | outgrown => exact hq
theorem Meet.mk {m : List Bool} {f l : List Value} {R : (Nat → Value) → World → Prop} {w : World} (hf : frameL m f l = l) (h : R (slots l) w) : Meet m f R ⟨l.toArray, []⟩ w := ⟨l, rfl, frameOf_frameL m [] f l hf, h⟩
theorem Round.mk {m : List Bool} {f l : List Value} {R : (Nat → Value) → World → Prop} {mu : (Nat → Value) → World → Nat} {us : Nat → Value} {wr w : World} (hf : frameL m f l = l) (h : R (slots l) w)
    (hm : mu (slots l) w < mu us wr) : Round m f R mu us wr ⟨l.toArray, []⟩ w := ⟨l, rfl, frameOf_frameL m [] f l hf, h, hm⟩
theorem Meet.mk' {m : List Bool} {f l : List Value} {R R0 : (Nat → Value) → World → Prop} {w : World} (hR : R = R0) (hf : frameL m f l = l) (h : R0 (slots l) w) : Meet m f R ⟨l.toArray, []⟩ w := hR ▸ Meet.mk hf h
theorem Round.mk' {m : List Bool} {f l : List Value} {R R0 : (Nat → Value) → World → Prop} {mu mu0 : (Nat → Value) → World → Nat} {us : Nat → Value} {wr w : World} (hR : R = R0) (hmu : mu = mu0) (hf : frameL m f l = l) (h : R0 (slots l) w)
    (hm : mu0 (slots l) w < mu0 us wr) : Round m f R mu us wr ⟨l.toArray, []⟩ w := by subst hR hmu; exact Round.mk hf h hm
theorem wp_loop_frame' {c : Code} {f : List Value} {w : World} (m : List Bool) (R R0 : (Nat → Value) → World → Prop) (mu : (Nat → Value) → World → Nat) (hR : R = R0) (h0 : R0 (slots f) w)
    (round : ∀ us wr, R0 us wr → c.wp P (Exit.then (Round m f R mu us wr) Q) ⟨(frameOf us m 0 f).toArray, []⟩ wr) : (Code.loop c).wp P Q ⟨f.toArray, []⟩ w := by subst hR; exact wp_loop_frame m R mu h0 round
theorem wp_cut_frame' {s : Code} {K : Act → World → Prop} {f : List Value} {w : World} (m : List Bool) (R R0 : (Nat → Value) → World → Prop) (hR : R = R0)
    (first : s.wp P (Exit.then (Meet m f R) Q) ⟨f.toArray, []⟩ w) (rest : ∀ us wr, R0 us wr → K ⟨(frameOf us m 0 f).toArray, []⟩ wr) : s.wp P (Exit.then K Q) ⟨f.toArray, []⟩ w := by subst hR; exact wp_cut_frame m R first rest
end
end Go.Proofs.YtgcnchmnciihnaaGreatDoor
namespace Go.Proofs.YtgcnchmnciihnaaGreatDoor
set_option linter.unusedSimpArgs false
set_option linter.unusedVariables false
open Go.RowKit

theorem infoB : ElemInfo Tryz.prog 5 1 1 := ElemInfo.of infoU8 rfl (by decide)
theorem hex_at : ∀ k : Nat, k < 16 → (⟨#[48, 49, 50, 51, 52, 53, 54, 55, 56, 57, 97, 98, 99, 100, 101, 102]⟩ : ByteArray).data.toList[k]?.map (fun b => (b.toNat : Int)) = some ((hexD k).toNat : Int) := by decide
theorem oddB_true {c : UInt8} (h : oddB c = true) : quoteC c = [92, hexD (c.toNat / 16), hexD (c.toNat % 16)] := by unfold quoteC; rw [if_pos h]
theorem oddB_false {c : UInt8} (h : oddB c = false) : quoteC c = [c] := by unfold quoteC; rw [h]; rfl

def hexS : ByteArray := ⟨#[48, 49, 50, 51, 52, 53, 54, 55, 56, 57, 97, 98, 99, 100, 101, 102]⟩
theorem hexS_at : ∀ k : Fin 16, hexS.data[k.1]? = some (hexD k.1) := by decide
theorem run_hex (w : World) (p : Nat) (hp : p < 16) : (Go.Instr.index 9 (.string ⟨#[48, 49, 50, 51, 52, 53, 54, 55, 56, 57, 97, 98, 99, 100, 101, 102]⟩) (.int .u8 (p : Int))).run Tryz.prog w = .ok (.int .u8 ((hexD p).toNat : Int)) w := by
  rw [run_index_string _ _ _ _ _ Tryz.underlying9]
  have h1 : (0 : Int) ≤ p ∧ (p : Int) < ((⟨#[48, 49, 50, 51, 52, 53, 54, 55, 56, 57, 97, 98, 99, 100, 101, 102]⟩ : ByteArray).size : Int) := ⟨by omega, by show (p : Int) < 16; omega⟩
  rw [dif_pos h1]
  have h2 := hexS_at ⟨p, hp⟩
  have h3 := (Array.getElem?_eq_some_iff.1 h2).2
  congr 3
  rw [← h3]
  rfl

theorem and15 : ∀ m : Fin 256, bits BinOp.and IntKind.u8 ((m.1 : Nat) : Int) 15 = ((m.1 % 16 : Nat) : Int) := by decide +kernel
attribute [local go_sem high] run_hex

set_option maxRecDepth 100000 in
set_option maxHeartbeats 2000000 in
theorem quote_any (s : ByteArray) (w : World) (hs : s.size ≤ 1099511627776) : Calls Tryz.prog 100 #[.string s] w (StrTo w (quoteL s.data.toList)) := by
  obtain ⟨l, hl⟩ : ∃ l, l = s.data.toList := ⟨_, rfl⟩
  have hsl : l.length = s.size := by rw [hl]; rfl
  rw [← hl]
  have HLD := hid hl
  clear hl
  go_enter Tryz.func100, Tryz.ntmps100
  go_upto_region 2 with (fail)
  have hO0 := World.ownsRow_lit (base := w.heap.size) (e := 5) (size := 1) w #[.int .u8 39] 1 (Nat.le_refl _) (by unfold maxLen; omega) rfl
  have HP0 : Hid (Put 5 w w.heap.size (.slice none 0 0) [39] (.slice (some ⟨w.heap.size, 0, none⟩) 1 1) (w.alloc (.cells #[.int .u8 39] 5))) := hid ⟨hO0, (Later.alloc w _).keeps _, .inr ⟨w.heap.size, rfl, Nat.le_refl _⟩⟩
  clear hO0
  generalize w.alloc (.cells #[.int .u8 39] 5) = w1 at *
  go_wp2_with (refine wpList_bytes_of rfl _ 9 35 5 rfl Tryz.underlying9 Tryz.underlying35 Tryz.underlying5 s rfl ?_)
  intro c w2 hL2 hz2 hcell
  obtain ⟨B, hB⟩ : ∃ B, B = w1.heap.size := ⟨_, rfl⟩
  rw [← hB] at hcell ⊢
  have hw1 : w.heap.size < w1.heap.size := by
    have h9 := (owns_block HP0.out.own w.heap.size rfl).2; omega
  have HC : Hid (∀ k (hk : k < l.length), w2.cell? ⟨B, k, none⟩ = some (.int .u8 ((l[k]).toNat : Int))) := hid (by have h := HLD.out; subst h; exact hcell)
  have HP2 := hid (HP0.out.behind hL2)
  have HB : Hid (w.heap.size < B) := hid (by omega)
  have hB0 := HB.out
  clear hcell hL2 hz2 hB hw1 HP0
  go_wp2_with fail
  obtain ⟨R1, hR1⟩ : ∃ RR_ : (Nat → Value) → World → Prop, RR_ = (fun us wx => ∃ (k : Nat) (v : Value), k ≤ l.length ∧ us 10 = .int .i64 k ∧ us 3 = v ∧ Put 5 w w.heap.size (.slice none 0 0) (39 :: (l.take k).flatMap quoteC) v wx ∧ (∀ k (hk : k < l.length), wx.cell? ⟨B, k, none⟩ = some (.int .u8 ((l[k]).toNat : Int))) ∧ some B ≠ v.ownBlock) := ⟨_, rfl⟩
  obtain ⟨mu1, hmu1⟩ : ∃ mu : (Nat → Value) → World → Nat, mu = (fun us _ => l.length - (intOf (us 10)).toNat) := ⟨_, rfl⟩
  have HR1 := hid hR1; have Hmu1 := hid hmu1; clear hR1 hmu1
  refine wp_loop_frame' [false, false, false, true, false, true, false, false, false, false, true, true, true, true, true, true, true, true, true, true, true, true, true, true, true, true, true, true, true, true, true, true, true, true, true, true, true, true, true, true, true, true] R1 _ mu1 HR1.out ?_ ?_
  · exact ⟨0, .slice (some ⟨w.heap.size, 0, none⟩) 1 1, by omega, rfl, rfl, HP2.out, HC.out, fun h => by simp only [Value.ownBlock, Option.some.injEq] at h; omega⟩
  clear HP2 HC
  intro us1 wx hrel
  obtain ⟨k, v, hk, h10, h3, hP, hC, hne⟩ := hrel
  simp only [frameOf, Nat.reduceAdd, h10, h3]
  have Hh10 := hid h10; clear h10
  have Hh3 := hid h3; clear h3
  have HP := hid hP
  have HC := hid hC
  have HNE := hid hne
  clear hP hC hne
  by_cases hlt : k < l.length
  · have q0 := HC.out k hlt
    have HX : Hid ((l.take (k + 1)).flatMap quoteC = (l.take k).flatMap quoteC ++ quoteC l[k]) := hid (flat_snoc hlt)
    have hfl := flat_len (l.take k)
    have htl : (l.take k).length ≤ l.length := by rw [List.length_take]; omega
    generalize l[k] = ch at *
    obtain ⟨m, hm⟩ : ∃ m, m = ch.toNat := ⟨_, rfl⟩
    have hm8 : m < 256 := by rw [hm]; exact ch.toNat_lt
    have HM := hid hm
    rw [← hm] at q0
    have hkk : (0 : Int) ≤ k := by omega
    clear hm
    go_upto_region 5 with (fail)
    obtain ⟨R2, hR2⟩ : ∃ RR_ : (Nat → Value) → World → Prop, RR_ = (fun us wy => us 27 = .bool (oddB ch) ∧ wy = wx) := ⟨_, rfl⟩
    have HR2 := hid hR2; clear hR2
    refine wp_cut_frame' [false, false, false, false, false, false, false, false, false, false, false, false, false, false, true, true, true, true, true, true, true, true, true, true, true, true, true, true] R2 _ HR2.out ?_ ?_
    · by_cases c1 : (m : Int) < 32
      · go_wp2_with fail
        refine Meet.mk' HR2.out rfl ?_
        exact ⟨by simp [slots, oddB, ← HM.out, show m < 32 by omega], rfl⟩
      by_cases c2 : (126 : Int) < m
      · go_wp2_with fail
        refine Meet.mk' HR2.out rfl ?_
        exact ⟨by simp [slots, oddB, ← HM.out, show ¬ m < 32 by omega, show 126 < m by omega], rfl⟩
      by_cases c3 : (m : Int) = 39
      · go_wp2_with fail
        refine Meet.mk' HR2.out rfl ?_
        exact ⟨by simp [slots, oddB, ← HM.out, show m = 39 by omega], rfl⟩
      by_cases c4 : (m : Int) = 92
      · go_wp2_with fail
        refine Meet.mk' HR2.out rfl ?_
        exact ⟨by simp [slots, oddB, ← HM.out, show m = 92 by omega], rfl⟩
      · go_wp2_with fail
        refine Meet.mk' HR2.out rfl ?_
        exact ⟨by simp [slots, oddB, ← HM.out, show ¬ m < 32 by omega, show ¬ 126 < m by omega, c3, c4, show ¬ m = 39 by omega, show ¬ m = 92 by omega], rfl⟩
    intro us2 wy hrel
    obtain ⟨h27, rfl⟩ := hrel
    simp only [frameOf, Nat.reduceAdd, h27]
    have Hh27 := hid h27; clear h27
    cases hod : oddB ch with
    | true =>
      obtain ⟨p, hp⟩ : ∃ p, p = m / 16 := ⟨_, rfl⟩
      obtain ⟨q, hq⟩ : ∃ q, q = m % 16 := ⟨_, rfl⟩
      have hpi : (m : Int) / 16 = p := by omega
      have hqi : bits BinOp.and IntKind.u8 (m : Int) 15 = (q : Int) := by rw [hq]; exact and15 ⟨m, hm8⟩
      have hp16 : p < 16 := by omega
      have hq16 : q < 16 := by omega
      have HQC : Hid (quoteC ch = [92, hexD p, hexD q]) := hid (by rw [oddB_true hod, ← HM.out, hp, hq])
      clear hp hq
      go_wp2_with fail
      refine wp_region_plan (by kernel_rfl) (by kernel_rfl) [0] [7, 8, 9] (by kernel_rfl) (fun _ _ d _ _ h => by cases d <;> exact h) (Later) (Later.refl) (Later.trans) (fun _ => none) (fun _ _ _ _ _ h => by cases h) ?_
      simp only [body, tail, numbered, Nat.reduceAdd, List.filter_cons, List.filter_nil, List.contains_cons, List.contains_nil, Nat.reduceBEq, Bool.or_false, Bool.or_true, Bool.false_or, Bool.true_or, Bool.not_true, Bool.not_false, Bool.and_true, Bool.and_false, Bool.true_and, Bool.false_and, if_true, if_false, reduceIte, Bool.false_eq_true, List.map_cons, List.map_nil]
      refine Pures.cons rfl ?_
      apply Exists.intro
      refine ⟨fun w => ?_, ?_⟩
      · go_simp
        first | done | rfl
      simp only [Act.put, List.setIfInBounds_toArray, List.set]
      simp only [Pures]
      refine LexS.out ?_
      iterate 6
        first
        | (refine LexS.skip rfl ?_; simp only [Act.put, List.setIfInBounds_toArray, List.set])
        | (refine LexS.one' rfl rfl ?_
           apply Exists.intro
           refine ⟨fun w hR hF => ?_, ?_⟩
           · have hP := hR
             repeat (first | replace hP := Later.of_drew hP | replace hP := Later.of_drewN hP | replace hP := Later.of_alloc hP)
             have hcs := hR.cells
             clear hR hF hP
             go_simp
             first | done | rfl
           simp only [Act.put, List.setIfInBounds_toArray, List.set])
      refine LexS.nil ?_
      intro w4 hR4 hF9
      clear hF9
      repeat (first | replace hR4 := Later.of_drew hR4 | replace hR4 := Later.of_drewN hR4 | replace hR4 := Later.of_alloc hR4)
      have HP4 := hid (HP.out.behind hR4)
      have HC4 := hid fun k hk => hR4.cell (HC.out k hk)
      have hsz4 : w.heap.size ≤ w4.heap.size := HP4.out.keep.size
      have hbl : B < w4.heap.size := cell_lt (HC4.out k hlt)
      clear hR4 hpi hqi q0
      change wpList _ _ _ _ _ _
      go_wp2_with (at_builtin; go_loud (refine wpList_append_obj rfl _ _ 35 rfl 5 1 1 Tryz.underlying35 infoB rfl (owns_later HP4.out.own (Later.alloc _ _)) (news := byteCells [92, hexD p, hexD q]) rfl (obj_at (by simp)) rfl (byteCells_one _) ?c1 ?c2 ?c3 ?_))
      case c1 => simp only [List.length_cons]; omega
      case c2 => simp only [List.length_cons]; unfold maxLen; omega
      case c3 => simp only [World.size_alloc]; omega
      intro v7 w7 hA7
      have hp7 : Put 5 _ w.heap.size v (39 :: (l.take (k + 1)).flatMap quoteC) v7 w7 := Put.of_appended hA7 (by rw [HX.out, HQC.out]; simp) (by rw [HX.out, HQC.out]; simp [byteCells])
      have HP7 := hid (HP4.out.trans (Put.ahead (Later.alloc _ _) hp7))
      have HC7 : Hid (∀ k (hk : k < l.length), w7.cell? ⟨B, k, none⟩ = some (.int .u8 ((l[k]).toNat : Int))) := hid fun k hk => hp7.keep.cell (p := ⟨B, k, none⟩) HNE.out ((Later.alloc _ _).cell (HC4.out k hk))
      have HN7 : Hid (some B ≠ v7.ownBlock) := hid (hp7.other (by simp only [World.size_alloc]; omega) HNE.out)
      clear hA7 hp7
      go_wp2_with fail
      refine Round.mk' HR1.out Hmu1.out rfl ?_ ?_
      · exact ⟨k + 1, v7, by omega, by go_num, rfl, HP7.out, HC7.out, HN7.out⟩
      · rw [Hh10.out]; simp [intOf, slots]; omega
    | false =>
      have HQC : Hid (quoteC ch = [ch]) := hid (oddB_false hod)
      have hsz4 : w.heap.size ≤ wy.heap.size := HP.out.keep.size
      have hbl : B < wy.heap.size := cell_lt (HC.out k hlt)
      clear q0
      go_wp2_with (at_builtin; go_loud (refine wpList_append_obj rfl _ _ 35 rfl 5 1 1 Tryz.underlying35 infoB rfl (owns_later HP.out.own (Later.alloc _ _)) (news := [.int .u8 (m : Int)]) rfl (obj_at (by simp)) rfl ?c0 ?c1 ?c2 ?c3 ?_))
      case c0 => intro u hu; simp only [List.mem_cons, List.not_mem_nil, or_false] at hu; subst hu; rfl
      case c1 => simp only [List.length_cons]; omega
      case c2 => simp only [List.length_cons]; unfold maxLen; omega
      case c3 => simp only [World.size_alloc]; omega
      intro v7 w7 hA7
      have hp7 : Put 5 _ w.heap.size v (39 :: (l.take (k + 1)).flatMap quoteC) v7 w7 := Put.of_appended hA7 (by rw [HX.out, HQC.out]; simp) (by rw [HX.out, HQC.out, HM.out]; simp [byteCells])
      have HP7 := hid (HP.out.trans (Put.ahead (Later.alloc _ _) hp7))
      have HC7 : Hid (∀ k (hk : k < l.length), w7.cell? ⟨B, k, none⟩ = some (.int .u8 ((l[k]).toNat : Int))) := hid fun k hk => hp7.keep.cell (p := ⟨B, k, none⟩) HNE.out ((Later.alloc _ _).cell (HC.out k hk))
      have HN7 : Hid (some B ≠ v7.ownBlock) := hid (hp7.other (by simp only [World.size_alloc]; omega) HNE.out)
      clear hA7 hp7
      go_wp2_with fail
      refine Round.mk' HR1.out Hmu1.out rfl ?_ ?_
      · exact ⟨k + 1, v7, by omega, by go_num, rfl, HP7.out, HC7.out, HN7.out⟩
      · rw [Hh10.out]; simp [intOf, slots]; omega
  · obtain rfl : k = l.length := by omega
    rw [List.take_length] at HP
    have hfl := flat_len l
    have hsz4 : w.heap.size ≤ wx.heap.size := HP.out.keep.size
    go_wp2_with (at_builtin; go_loud (refine wpList_append_obj rfl _ _ 35 rfl 5 1 1 Tryz.underlying35 infoB rfl (owns_later HP.out.own (Later.alloc _ _)) (news := byteCells [39]) rfl (obj_at (by simp)) rfl (byteCells_one _) ?c1 ?c2 ?c3 ?_))
    case c1 => simp only [List.length_cons]; omega
    case c2 => simp only [List.length_cons]; unfold maxLen; omega
    case c3 => simp only [World.size_alloc]; omega
    intro v7 w7 hA7
    have hp7 : Put 5 _ w.heap.size v (quoteL l) v7 w7 := Put.of_appended hA7 (by simp [quoteL]) (by simp [quoteL, byteCells])
    have hP7 := HP.out.trans (Put.ahead (Later.alloc _ _) hp7)
    have HL7 := hid (hP7.later rfl)
    have hstr := (owned_bytes hP7.own).string (src := 35) (dst := 9) Tryz.underlying35 Tryz.underlying5 Tryz.underlying9
    obtain ⟨a7, c7, rfl⟩ := ownsRow_slice hP7.own
    clear hA7 hp7 hP7
    go_wp2_with fail
    go_ret
    exact ⟨rfl, HL7.out⟩
end Go.Proofs.YtgcnchmnciihnaaGreatDoor
