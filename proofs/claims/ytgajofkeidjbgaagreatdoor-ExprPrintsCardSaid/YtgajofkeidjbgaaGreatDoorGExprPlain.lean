/-
  PROVED HERE: expressions in plain Lean: tokens, trees, the program's parser and the document's, and that they answer alike.
  PROVED HERE: how a text is cut into tokens, in plain Lean.
  PROVED HERE: the contract of slices.IndexFunc at texts, whatever function it is handed.
  PROVED HERE: slices of one's own: what holds of one when another, or the world, is turned. No program of its own.
  PROVED HERE: an append onto a slice of one's own, with the word of which of two things it did: it filled the slice's own block, or it left all as it was and made a new one. No program of its own.
-/
import Derived.Test.YtgajofkeidjbgaaGreatDoorGReadsPlain
import Derived.Test.YtgajofkeidjbgaaGreatDoorGLexS
import Derived.Test.YtgajofkeidjbgaaGreatDoorGBytes
import Derived.Test.YtgajofkeidjbgaaGreatDoorUnquote
import Derived.Test.YtgajofkeidjbgaaGreatDoorGData
namespace Go.Proofs.YtgajofkeidjbgaaGreatDoor
set_option linter.unusedSimpArgs false
set_option linter.unusedVariables false
open Go Go.RowKit

structure Tok where
  k : UInt8
  t : List UInt8
  p : Nat

inductive Ex where
  | lit (v : Val)
  | name (s : List UInt8) (p : Nat)
  | un (neg : Bool) (p : Nat) (x : Ex)
  | bin (o : List UInt8) (p : Nat) (x y : Ex)
  | call (f : List UInt8) (p : Nat) (l : List Ex)

/-- what is wrong, and where. -/
abbrev Fault := Int × Nat
/-- none: not enough fuel. -/
abbrev PR (α : Type) := Option (Except Fault α)
def PR.err {α : Type} (c : Int) (p : Nat) : PR α := some (.error (c, p))
def PR.ok {α : Type} (a : α) : PR α := some (.ok a)
def PR.thn {α β : Type} (x : PR α) (f : α → PR β) : PR β := match x with
  | none => none
  | some (.error e) => some (.error e)
  | some (.ok a) => f a

def hdT (l : List Tok) : Tok := l.headD ⟨0, [], 0⟩
def isW (t : Tok) (s : List UInt8) : Bool := t.t == s && (t.k == 111 || t.k == 110)
abbrev notW : List UInt8 := [110, 111, 116]
abbrev minusW : List UInt8 := [45]
abbrev openW : List UInt8 := [40]
abbrev closeW : List UInt8 := [41]
abbrev commaW : List UInt8 := [44]
abbrev trueW : List UInt8 := [116, 114, 117, 101]
abbrev falseW : List UInt8 := [102, 97, 108, 115, 101]
def wordsW : List (List UInt8) := [[97, 110, 100], [111, 114], notW, trueW, falseW, [97, 115]]
def lvlOps : Nat → List (List UInt8)
  | 0 => [[111, 114]]
  | 1 => [[97, 110, 100]]
  | 2 => [[61], [60, 62], [60], [60, 61], [62], [62, 61]]
  | 3 => [[43], [45], [43, 43]]
  | 4 => [[42], [47], [37]]
  | _ => []
def powS (s : List UInt8) : Nat :=
  if s ∈ lvlOps 0 then 1 else if s ∈ lvlOps 1 then 2 else if s ∈ lvlOps 2 then 4 else if s ∈ lvlOps 3 then 5 else if s ∈ lvlOps 4 then 6 else 0
def powT (t : Tok) : Nat := if t.k = 111 ∨ t.k = 110 then powS t.t else 0
def powL : Nat → Nat
  | 0 => 1
  | 1 => 2
  | 2 => 4
  | 3 => 5
  | 4 => 6
  | _ => 9
def leastL : Nat → Nat
  | 0 => 0
  | 1 => 2
  | 2 => 3
  | 3 => 5
  | 4 => 6
  | _ => 7

inductive Job where
  | bin (L : Nat)
  | loop (L : Nat) (x : Ex)
  | climb (q : Nat)
  | cloop (q most : Nat) (fresh : Bool) (x : Ex)
  | un
  | args (f : List UInt8) (p : Nat) (acc : List Ex)
def topJ : Bool → Job
  | true => .bin 0
  | false => .climb 0
/-- cloop stands still here. -/
def Halt (q most : Nat) (fresh : Bool) (p : Nat) : Prop := p = 0 ∨ p < q ∨ most < p ∨ (fresh = true ∧ 2 < p)
instance (q most : Nat) (fresh : Bool) (p : Nat) : Decidable (Halt q most fresh p) := by unfold Halt; infer_instance
/-- the two parsers: 'true' the program's, level by level; 'false' the document's. -/
def parseX (R : Bool) : Nat → Job → Nat → List Tok → PR (Ex × List Tok)
  | 0, _, _, _ => none
  | n + 1, .bin L, d, l =>
    if 5 ≤ L then parseX R n .un d l
    else if L = 2 ∧ isW (hdT l) notW = true then
      if 12 < d + 1 then .err 4 (hdT l).p else (parseX R n (.bin 2) (d + 1) l.tail).thn fun x => .ok (.un false (hdT l).p x.1, x.2)
    else (parseX R n (.bin (L + 1)) d l).thn fun x => parseX R n (.loop L x.1) d x.2
  | n + 1, .loop L x, d, l =>
    if (lvlOps L).any (isW (hdT l)) = true then
      (parseX R n (.bin (L + 1)) d l.tail).thn fun y => if L = 2 then .ok (.bin (hdT l).t (hdT l).p x y.1, y.2) else parseX R n (.loop L (.bin (hdT l).t (hdT l).p x y.1)) d y.2
    else .ok (x, l)
  | n + 1, .climb q, d, l =>
    if isW (hdT l) notW = true ∧ q ≤ 3 then
      if 12 < d + 1 then .err 4 (hdT l).p else (parseX R n (.climb 3) (d + 1) l.tail).thn fun x => parseX R n (.cloop q 9 true (.un false (hdT l).p x.1)) d x.2
    else (parseX R n .un d l).thn fun x => parseX R n (.cloop q 9 false x.1) d x.2
  | n + 1, .cloop q most fresh x, d, l =>
    if Halt q most fresh (powT (hdT l)) then .ok (x, l)
    else (parseX R n (.climb (powT (hdT l) + 1)) d l.tail).thn fun y => parseX R n (.cloop q (if powT (hdT l) = 4 then 3 else powT (hdT l)) false (.bin (hdT l).t (hdT l).p x y.1)) d y.2
  | n + 1, .un, d, l =>
    if isW (hdT l) minusW = true then
      if 12 < d + 1 then .err 4 (hdT l).p else (parseX R n .un (d + 1) l.tail).thn fun x => .ok (.un true (hdT l).p x.1, x.2)
    else if isW (hdT l) openW = true then
      if 12 < d + 1 then .err 4 (hdT l).p else (parseX R n (topJ R) (d + 1) l.tail).thn fun x => if isW (hdT x.2) closeW = true then .ok (x.1, x.2.tail) else .err 1 (hdT x.2).p
    else if (hdT l).k = 48 ∨ (hdT l).k = 39 then
      match readP (hdT l).t with
      | some v => .ok (.lit v, l.tail)
      | none => .err 1 (hdT l).p
    else if (hdT l).t = trueW ∨ (hdT l).t = falseW then .ok (.lit ⟨2, if (hdT l).t = trueW then 1 else 0, ⟨#[]⟩⟩, l.tail)
    else if (hdT l).k = 110 ∧ (hdT l).t ∉ wordsW then
      if 12 < (hdT l).t.length then .err 4 (hdT l).p
      else if isW (hdT l.tail) openW = true then
        if 12 < d + 1 then .err 4 (hdT l.tail).p else parseX R n (.args (hdT l).t (hdT l).p []) (d + 1) l.tail.tail
      else .ok (.name (hdT l).t (hdT l).p, l.tail)
    else .err 1 (hdT l).p
  | n + 1, .args f p acc, d, l =>
    if isW (hdT l) closeW = true then .ok (.call f p acc, l.tail)
    else if acc ≠ [] ∧ ¬ isW (hdT l) commaW = true then .err 1 (hdT l).p
    else (parseX R n (topJ R) d (if acc = [] then l else l.tail)).thn fun x => parseX R n (.args f p (acc ++ [x.1])) d x.2

/-! more fuel gives the same -/
def LeP {α : Type} (x y : PR α) : Prop := ∀ r, x = some r → y = some r
theorem LeP.refl {α : Type} (x : PR α) : LeP x x := fun _ h => h
theorem LeP.thn {α β : Type} {x y : PR α} {f g : α → PR β} (h : LeP x y) (hf : ∀ a, LeP (f a) (g a)) : LeP (x.thn f) (y.thn g) := by
  intro r hr
  unfold PR.thn at hr ⊢
  cases x with
  | none => cases hr
  | some v =>
    rw [h _ rfl]
    cases v with
    | error e => exact hr
    | ok a => exact hf a r hr
theorem LeP.ite {α : Type} {c : Prop} [Decidable c] {x y u v : PR α} (h : LeP x y) (h' : LeP u v) : LeP (if c then x else u) (if c then y else v) := by
  split
  · exact h
  · exact h'
theorem parseX_succ (R : Bool) : ∀ (n : Nat) (j : Job) (d : Nat) (l : List Tok), LeP (parseX R n j d l) (parseX R (n + 1) j d l)
  | 0, _, _, _ => fun _ h => by unfold parseX at h; cases h
  | n + 1, j, d, l => by
    have ih := parseX_succ R n
    cases j with
    | bin L =>
      unfold parseX
      exact .ite (ih _ _ _) (.ite (.ite (.refl _) (.thn (ih _ _ _) fun _ => .refl _)) (.thn (ih _ _ _) fun _ => ih _ _ _))
    | loop L x =>
      unfold parseX
      exact .ite (.thn (ih _ _ _) fun _ => .ite (.refl _) (ih _ _ _)) (.refl _)
    | climb q =>
      unfold parseX
      exact .ite (.ite (.refl _) (.thn (ih _ _ _) fun _ => ih _ _ _)) (.thn (ih _ _ _) fun _ => ih _ _ _)
    | cloop q m f x =>
      unfold parseX
      exact .ite (.refl _) (.thn (ih _ _ _) fun _ => ih _ _ _)
    | un =>
      unfold parseX
      exact .ite (.ite (.refl _) (.thn (ih _ _ _) fun _ => .refl _)) (.ite (.ite (.refl _) (.thn (ih _ _ _) fun _ => .refl _)) (.ite (.refl _) (.ite (.refl _) (.ite (.ite (.refl _) (.ite (.ite (.refl _) (ih _ _ _)) (.refl _))) (.refl _)))))
    | args f p acc =>
      unfold parseX
      exact .ite (.refl _) (.ite (.refl _) (.thn (ih _ _ _) fun _ => ih _ _ _))
theorem parseX_more {R : Bool} {n m : Nat} (h : n ≤ m) (j : Job) (d : Nat) (l : List Tok) : LeP (parseX R n j d l) (parseX R m j d l) := by
  induction h with
  | refl => exact .refl _
  | step _ ih => exact fun r hr => parseX_succ R _ j d l r (ih r hr)
abbrev Res := Except Fault (Ex × List Tok)
/-- the parser answers so. -/
def Par (R : Bool) (j : Job) (d : Nat) (l : List Tok) (r : Res) : Prop := ∃ n, parseX R n j d l = some r
theorem Par.one {R : Bool} {j : Job} {d : Nat} {l : List Tok} {r s : Res} (h : Par R j d l r) (h' : Par R j d l s) : r = s := by
  obtain ⟨n, h⟩ := h
  obtain ⟨m, h'⟩ := h'
  have h1 := parseX_more (Nat.le_max_left n m) j d l r h
  have h2 := parseX_more (Nat.le_max_right n m) j d l s h'
  rw [h1] at h2
  exact Option.some.inj h2
/-- two answers, at one measure of fuel. -/
theorem Par.both {R : Bool} {j j' : Job} {d d' : Nat} {l l' : List Tok} {r r' : Res} (h : Par R j d l r) (h' : Par R j' d' l' r') : ∃ n, parseX R n j d l = some r ∧ parseX R n j' d' l' = some r' := by
  obtain ⟨n, h⟩ := h
  obtain ⟨m, h'⟩ := h'
  exact ⟨max n m, parseX_more (Nat.le_max_left n m) j d l r h, parseX_more (Nat.le_max_right n m) j' d' l' r' h'⟩

/-! the loop of the document's -/
theorem Par.halt {q m : Nat} {f : Bool} {x : Ex} {d : Nat} {l : List Tok} (h : Halt q m f (powT (hdT l))) : Par false (.cloop q m f x) d l (.ok (x, l)) := ⟨1, by unfold parseX; rw [if_pos h]; rfl⟩
theorem Par.go {q m : Nat} {f : Bool} {x y : Ex} {d : Nat} {l r : List Tok} {s : Res} (h : ¬ Halt q m f (powT (hdT l))) (h1 : Par false (.climb (powT (hdT l) + 1)) d l.tail (.ok (y, r)))
    (h2 : Par false (.cloop q (if powT (hdT l) = 4 then 3 else powT (hdT l)) false (.bin (hdT l).t (hdT l).p x y)) d r s) : Par false (.cloop q m f x) d l s := by
  obtain ⟨n, e1, e2⟩ := h1.both h2
  exact ⟨n + 1, by unfold parseX; rw [if_neg h, e1]; exact e2⟩
theorem Par.bad {q m : Nat} {f : Bool} {x : Ex} {d : Nat} {l : List Tok} {e : Fault} (h : ¬ Halt q m f (powT (hdT l))) (h1 : Par false (.climb (powT (hdT l) + 1)) d l.tail (.error e)) : Par false (.cloop q m f x) d l (.error e) := by
  obtain ⟨n, e1⟩ := h1
  exact ⟨n + 1, by unfold parseX; rw [if_neg h, e1]; rfl⟩

/-- where a loop with a higher least power stands still, one with a lower one goes on. -/
def Splits (q q' pl : Nat) (J : Job) (d : Nat) (l : List Tok) : Res → Prop
  | .error e => Par false J d l (.error e)
  | .ok (x, r) => ∃ m f, Halt q' m f (powT (hdT r)) ∧ pl ≤ m ∧ ¬ (f = true ∧ 2 < pl) ∧ ∀ s, Par false (.cloop q m f x) d r s → Par false J d l s
theorem cloop_splits {q q' pl : Nat} (hq : q ≤ q') (hpl : pl < q') : ∀ (n m : Nat) (f : Bool) (x : Ex) (d : Nat) (l : List Tok) (s : Res), pl ≤ m → ¬ (f = true ∧ 2 < pl) → parseX false n (.cloop q' m f x) d l = some s → Splits q q' pl (.cloop q m f x) d l s
  | 0, _, _, _, _, _, _, _, _, h => by unfold parseX at h; cases h
  | n + 1, m, f, x, d, l, s, h1, h2, h => by
    unfold parseX at h
    by_cases hh : Halt q' m f (powT (hdT l))
    · rw [if_pos hh] at h
      obtain rfl := Option.some.inj h
      exact ⟨m, f, hh, h1, h2, fun s hs => hs⟩
    · rw [if_neg hh] at h
      have hn : ¬ Halt q m f (powT (hdT l)) := by
        unfold Halt at hh ⊢
        simp only [not_or] at hh ⊢
        exact ⟨hh.1, by omega, hh.2.2.1, hh.2.2.2⟩
      have hp : q' ≤ powT (hdT l) := by unfold Halt at hh; omega
      cases hc : parseX false n (.climb (powT (hdT l) + 1)) d l.tail with
      | none => rw [hc] at h; cases h
      | some v =>
        rw [hc] at h
        cases v with
        | error e =>
          obtain rfl := Option.some.inj h
          exact Par.bad hn ⟨n, hc⟩
        | ok y =>
          obtain ⟨y, r⟩ := y
          have ih := cloop_splits hq hpl n (if powT (hdT l) = 4 then 3 else powT (hdT l)) false (.bin (hdT l).t (hdT l).p x y) d r s (by split <;> omega) (by simp) h
          cases s with
          | error e => exact Par.go hn ⟨n, hc⟩ ih
          | ok z =>
            obtain ⟨m', f', i1, i2, i3, i4⟩ := ih
            exact ⟨m', f', i1, i2, i3, fun s hs => Par.go hn ⟨n, hc⟩ (i4 s hs)⟩
theorem climb_splits {q q' pl : Nat} (hq : q ≤ q') (hpl : pl < q') (hp9 : pl ≤ 9) {n d : Nat} {l : List Tok} {s : Res} (hn : isW (hdT l) notW = true → (q' ≤ 3 ∨ 3 < q)) (h : parseX false n (.climb q') d l = some s) : Splits q q' pl (.climb q) d l s := by
  cases n with
  | zero => unfold parseX at h; cases h
  | succ n =>
    unfold parseX at h
    by_cases hw : isW (hdT l) notW = true ∧ q' ≤ 3
    · rw [if_pos hw] at h
      by_cases hd : 12 < d + 1
      · rw [if_pos hd] at h
        obtain rfl := Option.some.inj h
        exact ⟨1, by unfold parseX; rw [if_pos ⟨hw.1, by omega⟩, if_pos hd]; rfl⟩
      · rw [if_neg hd] at h
        cases hc : parseX false n (.climb 3) (d + 1) l.tail with
        | none => rw [hc] at h; cases h
        | some v =>
          rw [hc] at h
          cases v with
          | error e =>
            obtain rfl := Option.some.inj h
            exact ⟨n + 1, by unfold parseX; rw [if_pos ⟨hw.1, by omega⟩, if_neg hd, hc]; rfl⟩
          | ok y =>
            have hsp := cloop_splits hq hpl n 9 true (.un false (hdT l).p y.1) d y.2 s hp9 (fun hx => by have := hx.2; omega) h
            have up : ∀ s, Par false (.cloop q 9 true (.un false (hdT l).p y.1)) d y.2 s → Par false (.climb q) d l s := by
              intro s hs
              obtain ⟨k, e1, e2⟩ := Par.both ⟨n, hc⟩ hs
              exact ⟨k + 1, by unfold parseX; rw [if_pos ⟨hw.1, by omega⟩, if_neg hd, e1]; exact e2⟩
            cases s with
            | error e => exact up _ hsp
            | ok z =>
              obtain ⟨m', f', i1, i2, i3, i4⟩ := hsp
              exact ⟨m', f', i1, i2, i3, fun s hs => up _ (i4 s hs)⟩
    · rw [if_neg hw] at h
      have hw' : ¬ (isW (hdT l) notW = true ∧ q ≤ 3) := fun hx => by
        rcases hn hx.1 with h' | h'
        · exact hw ⟨hx.1, h'⟩
        · omega
      cases hc : parseX false n .un d l with
      | none => rw [hc] at h; cases h
      | some v =>
        rw [hc] at h
        cases v with
        | error e =>
          obtain rfl := Option.some.inj h
          exact ⟨n + 1, by unfold parseX; rw [if_neg hw', hc]; rfl⟩
        | ok y =>
          have hsp := cloop_splits hq hpl n 9 false y.1 d y.2 s hp9 (by simp) h
          have up : ∀ s, Par false (.cloop q 9 false y.1) d y.2 s → Par false (.climb q) d l s := by
            intro s hs
            obtain ⟨k, e1, e2⟩ := Par.both ⟨n, hc⟩ hs
            exact ⟨k + 1, by unfold parseX; rw [if_neg hw', e1]; exact e2⟩
          cases s with
          | error e => exact up _ hsp
          | ok z =>
            obtain ⟨m', f', i1, i2, i3, i4⟩ := hsp
            exact ⟨m', f', i1, i2, i3, fun s hs => up _ (i4 s hs)⟩

/-! levels and powers -/
theorem powS_vals (s : List UInt8) : powS s = 0 ∨ powS s = 1 ∨ powS s = 2 ∨ powS s = 4 ∨ powS s = 5 ∨ powS s = 6 := by
  unfold powS
  repeat' split
  all_goals simp
theorem powT_vals (t : Tok) : powT t = 0 ∨ powT t = 1 ∨ powT t = 2 ∨ powT t = 4 ∨ powT t = 5 ∨ powT t = 6 := by
  unfold powT
  split
  · exact powS_vals _
  · exact .inl rfl
theorem any_isW (t : Tok) (l : List (List UInt8)) : l.any (isW t) = (decide (t.t ∈ l) && (t.k == 111 || t.k == 110)) := by
  induction l with
  | nil => simp
  | cons a l ih =>
    rw [List.any_cons, ih]
    unfold isW
    by_cases h : t.t = a
    · simp [h]
    · have : (t.t == a) = false := by simp [h]
      rw [this]; simp [h]
theorem lvl_pow (t : Tok) {L : Nat} (hL : L < 5) : (lvlOps L).any (isW t) = true ↔ powT t = powL L := by
  rw [any_isW]
  unfold powT
  have hk : (t.k == 111 || t.k == 110) = decide (t.k = 111 ∨ t.k = 110) := by
    by_cases h1 : t.k = 111 <;> by_cases h2 : t.k = 110 <;> simp [h1, h2]
  rw [hk]
  by_cases h : t.k = 111 ∨ t.k = 110
  · rw [if_pos h]
    simp only [h, decide_true, Bool.and_true, decide_eq_true_eq]
    generalize t.t = s
    unfold powS
    have hd : ∀ i j, i < 5 → j < 5 → i ≠ j → s ∈ lvlOps i → s ∉ lvlOps j := by
      intro i j hi hj hij h1 h2
      have : ∀ i j : Fin 5, i ≠ j → ∀ x ∈ lvlOps i, x ∉ lvlOps j := by decide
      exact this ⟨i, hi⟩ ⟨j, hj⟩ (fun e => hij (congrArg Fin.val e)) s h1 h2
    constructor
    · intro hm
      match L, hL with
      | 0, _ => rw [if_pos hm]; rfl
      | 1, _ => rw [if_neg (hd 1 0 (by omega) (by omega) (by omega) hm), if_pos hm]; rfl
      | 2, _ => rw [if_neg (hd 2 0 (by omega) (by omega) (by omega) hm), if_neg (hd 2 1 (by omega) (by omega) (by omega) hm), if_pos hm]; rfl
      | 3, _ => rw [if_neg (hd 3 0 (by omega) (by omega) (by omega) hm), if_neg (hd 3 1 (by omega) (by omega) (by omega) hm), if_neg (hd 3 2 (by omega) (by omega) (by omega) hm), if_pos hm]; rfl
      | 4, _ => rw [if_neg (hd 4 0 (by omega) (by omega) (by omega) hm), if_neg (hd 4 1 (by omega) (by omega) (by omega) hm), if_neg (hd 4 2 (by omega) (by omega) (by omega) hm), if_neg (hd 4 3 (by omega) (by omega) (by omega) hm), if_pos hm]; rfl
    · intro hp
      refine Decidable.byContradiction fun hc => ?_
      revert hp
      match L, hL, hc with
      | 0, _, hc => rw [if_neg hc]; simp only [powL]; (repeat' split) <;> (intro h; omega)
      | 1, _, hc => rw [if_neg hc]; simp only [powL]; (repeat' split) <;> (intro h; omega)
      | 2, _, hc => rw [if_neg hc]; simp only [powL]; (repeat' split) <;> (intro h; omega)
      | 3, _, hc => rw [if_neg hc]; simp only [powL]; (repeat' split) <;> (intro h; omega)
      | 4, _, hc => rw [if_neg hc]; simp only [powL]; (repeat' split) <;> (intro h; omega)
  · rw [if_neg h]
    simp only [h, decide_false, Bool.and_false]
    have : powL L ≠ 0 := by
      match L, hL with
      | 0, _ => decide
      | 1, _ => decide
      | 2, _ => decide
      | 3, _ => decide
      | 4, _ => decide
    simp; omega
theorem least_succ {L : Nat} (hL : L < 5) : leastL (L + 1) = powL L + 1 := by
  match L, hL with
  | 0, _ => rfl
  | 1, _ => rfl
  | 2, _ => rfl
  | 3, _ => rfl
  | 4, _ => rfl
theorem least_le {L : Nat} (hL : L < 5) : leastL L ≤ powL L ∧ (leastL L = powL L ∨ leastL L + 1 = powL L) ∧ powL L ≤ 6 ∧ 0 < powL L ∧ (leastL L + 1 = powL L → leastL L = 0 ∨ leastL L = 3) := by
  match L, hL with
  | 0, _ => decide
  | 1, _ => decide
  | 2, _ => decide
  | 3, _ => decide
  | 4, _ => decide

/-! the program's parser answers what the document's does -/
theorem par_same : ∀ n : Nat,
    (∀ d l s, parseX true n .un d l = some s → Par false .un d l s) ∧
    (∀ f p acc d l s, parseX true n (.args f p acc) d l = some s → Par false (.args f p acc) d l s) ∧
    (∀ L d l s, L ≤ 5 → parseX true n (.bin L) d l = some s → Par false (.climb (leastL L)) d l s) ∧
    (∀ L x d l s m f, L < 5 → (powL L < powT (hdT l) → m < powT (hdT l) ∨ (f = true ∧ 2 < powT (hdT l))) → powL L ≤ m → ¬ (f = true ∧ 2 < powL L) → parseX true n (.loop L x) d l = some s → Par false (.cloop (leastL L) m f x) d l s)
  | 0 => by
    refine ⟨?_, ?_, ?_, ?_⟩
    · intro d l s h; unfold parseX at h; cases h
    · intro f p acc d l s h; unfold parseX at h; cases h
    · intro L d l s _ h; unfold parseX at h; cases h
    · intro L x d l s m f _ _ _ _ h; unfold parseX at h; cases h
  | n + 1 => by
    obtain ⟨iu, ia, ib, il⟩ := par_same n
    refine ⟨?_, ?_, ?_, ?_⟩
    · intro d l s h
      unfold parseX at h
      split at h
      · rename_i h1
        split at h
        · rename_i h2; exact ⟨1, by unfold parseX; rw [if_pos h1, if_pos h2]; exact h⟩
        · rename_i h2
          cases hc : parseX true n .un (d + 1) l.tail with
          | none => rw [hc] at h; cases h
          | some v =>
            rw [hc] at h
            obtain ⟨k, hk⟩ := iu _ _ _ hc
            exact ⟨k + 1, by unfold parseX; rw [if_pos h1, if_neg h2, hk]; exact h⟩
      · rename_i h1
        split at h
        · rename_i h2
          split at h
          · rename_i h3; exact ⟨1, by unfold parseX; rw [if_neg h1, if_pos h2, if_pos h3]; exact h⟩
          · rename_i h3
            cases hc : parseX true n (topJ true) (d + 1) l.tail with
            | none => rw [hc] at h; cases h
            | some v =>
              rw [hc] at h
              obtain ⟨k, hk⟩ := ib 0 _ _ _ (by omega) hc
              exact ⟨k + 1, by unfold parseX; rw [if_neg h1, if_pos h2, if_neg h3, show topJ false = .climb (leastL 0) from rfl, hk]; exact h⟩
        · rename_i h2
          split at h
          · rename_i h3
            exact ⟨1, by unfold parseX; rw [if_neg h1, if_neg h2, if_pos h3]; exact h⟩
          · rename_i h3
            split at h
            · rename_i h4; exact ⟨1, by unfold parseX; rw [if_neg h1, if_neg h2, if_neg h3, if_pos h4]; exact h⟩
            · rename_i h4
              split at h
              · rename_i h5
                split at h
                · rename_i h6; exact ⟨1, by unfold parseX; rw [if_neg h1, if_neg h2, if_neg h3, if_neg h4, if_pos h5, if_pos h6]; exact h⟩
                · rename_i h6
                  split at h
                  · rename_i h7
                    split at h
                    · rename_i h8; exact ⟨1, by unfold parseX; rw [if_neg h1, if_neg h2, if_neg h3, if_neg h4, if_pos h5, if_neg h6, if_pos h7, if_pos h8]; exact h⟩
                    · rename_i h8
                      obtain ⟨k, hk⟩ := ia _ _ _ _ _ _ h
                      exact ⟨k + 1, by unfold parseX; rw [if_neg h1, if_neg h2, if_neg h3, if_neg h4, if_pos h5, if_neg h6, if_pos h7, if_neg h8]; exact hk⟩
                  · rename_i h7; exact ⟨1, by unfold parseX; rw [if_neg h1, if_neg h2, if_neg h3, if_neg h4, if_pos h5, if_neg h6, if_neg h7]; exact h⟩
              · rename_i h5; exact ⟨1, by unfold parseX; rw [if_neg h1, if_neg h2, if_neg h3, if_neg h4, if_neg h5]; exact h⟩
    · intro f p acc d l s h
      unfold parseX at h
      split at h
      · rename_i h1; exact ⟨1, by unfold parseX; rw [if_pos h1]; exact h⟩
      · rename_i h1
        split at h
        · rename_i h2; exact ⟨1, by unfold parseX; rw [if_neg h1, if_pos h2]; exact h⟩
        · rename_i h2
          cases hc : parseX true n (topJ true) d (if acc = [] then l else l.tail) with
          | none => rw [hc] at h; cases h
          | some v =>
            rw [hc] at h
            have hk := ib 0 _ _ _ (by omega) hc
            cases v with
            | error e =>
              obtain ⟨k, hk⟩ := hk
              exact ⟨k + 1, by unfold parseX; rw [if_neg h1, if_neg h2, show topJ false = .climb (leastL 0) from rfl, hk]; exact h⟩
            | ok y =>
              obtain ⟨k, e1, e2⟩ := hk.both (ia _ _ _ _ _ _ h)
              exact ⟨k + 1, by unfold parseX; rw [if_neg h1, if_neg h2, show topJ false = .climb (leastL 0) from rfl, e1]; exact e2⟩
    · intro L d l s hL h
      unfold parseX at h
      split at h
      · rename_i h5
        obtain rfl : L = 5 := by omega
        have hw : ¬ (isW (hdT l) notW = true ∧ leastL 5 ≤ 3) := fun hx => absurd hx.2 (by decide)
        have hk := iu _ _ _ h
        cases s with
        | error e =>
          obtain ⟨k, hk⟩ := hk
          exact ⟨k + 1, by unfold parseX; rw [if_neg hw, hk]; rfl⟩
        | ok y =>
          have hh : Halt (leastL 5) 9 false (powT (hdT y.2)) := by
            have h1 := powT_vals (hdT y.2)
            unfold Halt
            have : leastL 5 = 7 := rfl
            omega
          obtain ⟨k, e1, e2⟩ := hk.both (Par.halt (x := y.1) (d := d) hh)
          exact ⟨k + 1, by unfold parseX; rw [if_neg hw, e1]; exact e2⟩
      · rename_i h5
        split at h
        · rename_i h2
          obtain ⟨rfl, hn⟩ := h2
          have hw : isW (hdT l) notW = true ∧ leastL 2 ≤ 3 := ⟨hn, by decide⟩
          split at h
          · rename_i hd; exact ⟨1, by unfold parseX; rw [if_pos hw, if_pos hd]; exact h⟩
          · rename_i hd
            cases hc : parseX true n (.bin 2) (d + 1) l.tail with
            | none => rw [hc] at h; cases h
            | some v =>
              rw [hc] at h
              have hk := ib 2 _ _ _ (by omega) hc
              cases v with
              | error e =>
                obtain ⟨k, hk⟩ := hk
                exact ⟨k + 1, by unfold parseX; rw [if_pos hw, if_neg hd, show (3 : Nat) = leastL 2 from rfl, hk]; exact h⟩
              | ok y =>
                have hh : Halt (leastL 2) 9 true (powT (hdT y.2)) := by
                  have h1 := powT_vals (hdT y.2)
                  unfold Halt
                  have : leastL 2 = 3 := rfl
                  simp only [true_and]
                  omega
                obtain ⟨k, e1, e2⟩ := hk.both (Par.halt (x := .un false (hdT l).p y.1) (d := d) hh)
                refine ⟨k + 1, ?_⟩
                unfold parseX
                rw [if_pos hw, if_neg hd, show Job.climb 3 = .climb (leastL 2) from rfl, e1]
                exact e2.trans h
        · rename_i h2
          have hL5 : L < 5 := by omega
          have hls := least_succ hL5
          have hll := least_le hL5
          cases hc : parseX true n (.bin (L + 1)) d l with
          | none => rw [hc] at h; cases h
          | some v =>
            rw [hc] at h
            obtain ⟨k, hk⟩ := ib (L + 1) _ _ _ (by omega) hc
            have hsp := climb_splits (q := leastL L) (q' := leastL (L + 1)) (pl := powL L) (by omega) (by omega) (by omega) (fun hx => by
              match L, hL5, h2 with
              | 0, _, _ => left; decide
              | 1, _, _ => left; decide
              | 2, _, h2 => exact absurd ⟨rfl, hx⟩ h2
              | 3, _, _ => right; decide
              | 4, _, _ => right; decide) hk
            cases v with
            | error e =>
              obtain rfl := Option.some.inj h
              exact hsp
            | ok y =>
              obtain ⟨m, f, i1, i2, i3, i4⟩ := hsp
              refine i4 s (il L y.1 d y.2 s m f hL5 (fun hx => ?_) i2 i3 h)
              unfold Halt at i1
              rcases i1 with i | i | i | i
              · omega
              · omega
              · exact .inl i
              · exact .inr i
    · intro L x d l s m f hL H1 H2 H3 h
      have hls := least_succ hL
      have hll := least_le hL
      unfold parseX at h
      split at h
      · rename_i h1
        have hp := (lvl_pow (hdT l) hL).1 h1
        have hn : ¬ Halt (leastL L) m f (powT (hdT l)) := by
          unfold Halt
          rw [hp]
          simp only [not_or]
          exact ⟨by omega, by omega, by omega, H3⟩
        cases hc : parseX true n (.bin (L + 1)) d l.tail with
        | none => rw [hc] at h; cases h
        | some v =>
          rw [hc] at h
          have hk := ib (L + 1) _ _ _ (by omega) hc
          rw [hls, ← hp] at hk
          cases v with
          | error e =>
            obtain rfl := Option.some.inj h
            exact Par.bad hn hk
          | ok y =>
            refine Par.go hn hk ?_
            change (if L = 2 then PR.ok (Ex.bin (hdT l).t (hdT l).p x y.1, y.2) else parseX true n (.loop L (.bin (hdT l).t (hdT l).p x y.1)) d y.2) = some s at h
            by_cases h2 : L = 2
            · rw [if_pos h2] at h
              obtain rfl := Option.some.inj h
              subst h2
              refine Par.halt ?_
              have h1 := powT_vals (hdT y.2)
              rw [hp]
              unfold Halt
              have e1 : leastL 2 = 3 := rfl
              have e2 : powL 2 = 4 := rfl
              rw [e2, if_pos rfl]
              omega
            · rw [if_neg h2] at h
              have h4 : powT (hdT l) ≠ 4 := by
                rw [hp]
                match L, hL, h2 with
                | 0, _, _ => decide
                | 1, _, _ => decide
                | 2, _, h2 => exact absurd rfl h2
                | 3, _, _ => decide
                | 4, _, _ => decide
              rw [if_neg h4]
              exact il L _ d y.2 s (powT (hdT l)) false hL (fun hx => .inl (by omega)) (by omega) (by simp) h
      · rename_i h1
        obtain rfl := Option.some.inj h
        refine Par.halt ?_
        have hp : powT (hdT l) ≠ powL L := fun hx => h1 ((lvl_pow (hdT l) hL).2 hx)
        have hv := powT_vals (hdT l)
        unfold Halt
        by_cases hx : powL L < powT (hdT l)
        · rcases H1 hx with h' | h'
          · omega
          · right; right; right; exact h'
        · rcases hll.2.1 with h' | h'
          · omega
          · rcases hll.2.2.2.2 h' with h'' | h'' <;> omega
theorem par_agree {d : Nat} {l : List Tok} {r s : Res} (h : Par true (.bin 0) d l r) (h' : Par false (.climb 0) d l s) : r = s := by
  obtain ⟨n, h⟩ := h
  exact ((par_same n).2.2.1 0 d l r (by omega) h).one h'
end Go.Proofs.YtgajofkeidjbgaaGreatDoor
namespace Go.Proofs.YtgajofkeidjbgaaGreatDoor
set_option linter.unusedSimpArgs false
set_option linter.unusedVariables false
open Go Go.RowKit

def letterB (c : UInt8) : Bool := c.toNat == 95 || (decide (97 ≤ c.toNat) && decide (c.toNat ≤ 122)) || (decide (65 ≤ c.toNat) && decide (c.toNat ≤ 90))
def digitB (c : UInt8) : Bool := decide (48 ≤ c.toNat) && decide (c.toNat ≤ 57)
def wordB (c : UInt8) : Bool := letterB c || digitB c
def spaceB (c : UInt8) : Bool := c == 32 || c == 9 || c == 10
def notQuote (c : UInt8) : Bool := c != 39
def signsW : List (List UInt8) := [[60, 62], [60, 61], [62, 61], [43, 43], [61], [60], [62], [43], [45], [42], [47], [37], [40], [41], [44]]
/-- the length of the sign that a text begins with; 0: none. -/
def signLen (r : List UInt8) : Nat := match signsW.find? (fun g => g.isPrefixOf r) with
  | none => 0
  | some g => g.length
/-- the token at the beginning of 'c :: t': its sort and its length. -/
def tokAt (c : UInt8) (t : List UInt8) : Option (UInt8 × Nat) :=
  if wordB c = true then some (if digitB c = true then 48 else 110, 1 + (t.takeWhile wordB).length)
  else if c = 39 then (if (t.takeWhile notQuote).length < t.length then some (39, (t.takeWhile notQuote).length + 2) else none)
  else if signLen (c :: t) = 0 then none else some (111, signLen (c :: t))
/-- the tokens of what is left, from a place on; or where there is none. -/
def lexX : Nat → Nat → List UInt8 → Except Nat (List Tok)
  | _, p, [] => .ok [⟨0, [], p⟩]
  | 0, p, _ => .ok [⟨0, [], p⟩]
  | n + 1, p, c :: t =>
    if spaceB c = true then lexX n (p + 1) t
    else match tokAt c t with
      | none => .error p
      | some (k, m) => match lexX n (p + m) ((c :: t).drop m) with
        | .error e => .error e
        | .ok l => .ok (⟨k, (c :: t).take m, p⟩ :: l)
def addT (acc : List Tok) : Except Nat (List Tok) → Except Nat (List Tok)
  | .error e => .error e
  | .ok l => .ok (acc ++ l)
theorem tokAt_len {c : UInt8} {t : List UInt8} {k : UInt8} {m : Nat} (h : tokAt c t = some (k, m)) : 1 ≤ m ∧ m ≤ t.length + 1 := by
  unfold tokAt at h
  have hw : ∀ p : UInt8 → Bool, (t.takeWhile p).length ≤ t.length := fun p => (List.takeWhile_prefix p).length_le
  split at h
  · cases h
    have := hw wordB
    omega
  · split at h
    · split at h
      · cases h; omega
      · cases h
    · split at h
      · cases h
      · rename_i h0
        cases h
        refine ⟨by omega, ?_⟩
        unfold signLen
        split
        · omega
        · rename_i g hg
          have := List.find?_some hg
          have := (List.isPrefixOf_iff_prefix.1 this).length_le
          simpa using this
theorem lexX_enough : ∀ (n m p : Nat) (r : List UInt8), r.length ≤ n → r.length ≤ m → lexX n p r = lexX m p r
  | _, _, _, [], _, _ => by unfold lexX; rfl
  | 0, _, _, _ :: _, h, _ => by simp at h
  | _ + 1, 0, _, _ :: _, _, h => by simp at h
  | n + 1, m + 1, p, c :: t, h1, h2 => by
    simp only [List.length_cons] at h1 h2
    unfold lexX
    split
    · exact lexX_enough n m _ t (by omega) (by omega)
    · cases ht : tokAt c t with
      | none => rfl
      | some x =>
        obtain ⟨k, l⟩ := x
        have hl := tokAt_len ht
        simp only
        rw [lexX_enough n m (p + l) ((c :: t).drop l) (by simp; omega) (by simp; omega)]
/-- at a place, with what was read: what is to come is 'T'. -/
def LexAt (s : List UInt8) (i : Nat) (acc : List Tok) (T : Except Nat (List Tok)) : Prop := T = addT acc (lexX s.length i (s.drop i))
theorem LexAt.first (s : List UInt8) : LexAt s 0 [] (lexX s.length 0 s) := by
  unfold LexAt
  rw [List.drop_zero]
  cases lexX s.length 0 s <;> rfl
theorem LexAt.space {s : List UInt8} {i : Nat} {acc : List Tok} {T : Except Nat (List Tok)} (h : LexAt s i acc T) (hi : i < s.length) (hs : spaceB s[i] = true) : LexAt s (i + 1) acc T := by
  unfold LexAt at h ⊢
  rw [h, List.drop_eq_getElem_cons hi, lexX_enough s.length ((s.drop (i + 1)).length + 1) i _ (by simp only [List.length_cons, List.length_drop]; omega) (by simp only [List.length_cons]; omega)]
  conv => lhs; unfold lexX
  rw [if_pos hs]
  congr 1
  exact lexX_enough _ _ _ _ (Nat.le_refl _) (by simp)
theorem LexAt.done {s : List UInt8} {acc : List Tok} {T : Except Nat (List Tok)} (h : LexAt s s.length acc T) : T = .ok (acc ++ [⟨0, [], s.length⟩]) := by
  unfold LexAt at h
  rw [h, List.drop_length]
  unfold lexX
  rfl
theorem LexAt.bad {s : List UInt8} {i : Nat} {acc : List Tok} {T : Except Nat (List Tok)} (h : LexAt s i acc T) (hi : i < s.length) (hs : spaceB s[i] = false) (ht : tokAt s[i] (s.drop (i + 1)) = none) : T = .error i := by
  unfold LexAt at h
  rw [h, List.drop_eq_getElem_cons hi, lexX_enough s.length ((s.drop (i + 1)).length + 1) i _ (by simp only [List.length_cons, List.length_drop]; omega) (by simp only [List.length_cons]; omega)]
  unfold lexX
  rw [if_neg (by rw [hs]; simp), ht]
  rfl
theorem LexAt.tok {s : List UInt8} {i : Nat} {acc : List Tok} {T : Except Nat (List Tok)} {k : UInt8} {m : Nat} (h : LexAt s i acc T) (hi : i < s.length) (hs : spaceB s[i] = false) (ht : tokAt s[i] (s.drop (i + 1)) = some (k, m)) :
    LexAt s (i + m) (acc ++ [⟨k, (s.drop i).take m, i⟩]) T := by
  unfold LexAt at h ⊢
  have hl := tokAt_len ht
  rw [h, List.drop_eq_getElem_cons hi, lexX_enough s.length ((s.drop (i + 1)).length + 1) i _ (by simp only [List.length_cons, List.length_drop]; omega) (by simp only [List.length_cons]; omega)]
  conv => lhs; unfold lexX
  rw [if_neg (by rw [hs]; simp), ht, ← List.drop_eq_getElem_cons hi]
  simp only [List.drop_drop]
  rw [lexX_enough _ s.length (i + m) (s.drop (i + m)) (by simp; omega) (by simp)]
  cases lexX s.length (i + m) (s.drop (i + m)) with
  | error e => rfl
  | ok l => simp [addT]
/-- how far a loop that goes on while 'p' holds has come. -/
theorem while_at (p : UInt8 → Bool) {s : List UInt8} {i k : Nat} (h1 : i ≤ k) (h2 : k ≤ i + ((s.drop i).takeWhile p).length) :
    (∃ h : k < s.length, (p s[k] = true ∧ k + 1 ≤ i + ((s.drop i).takeWhile p).length) ∨ (p s[k] = false ∧ k = i + ((s.drop i).takeWhile p).length)) ∨ (s.length ≤ k ∧ k = i + ((s.drop i).takeWhile p).length) := by
  have hle := (List.takeWhile_prefix p (l := s.drop i)).length_le
  rw [List.length_drop] at hle
  by_cases h : k < s.length
  · left
    refine ⟨h, ?_⟩
    have key : ∀ (r : List UInt8) (j : Nat) (hj : j < r.length), j ≤ (r.takeWhile p).length → (p r[j] = true ∧ j + 1 ≤ (r.takeWhile p).length) ∨ (p r[j] = false ∧ j = (r.takeWhile p).length) := by
      intro r
      induction r with
      | nil => intro j hj; cases hj
      | cons c r ih =>
        intro j hj hjl
        cases hc : p c with
        | false =>
          rw [List.takeWhile_cons_of_neg (by rw [hc]; simp)] at hjl ⊢
          obtain rfl : j = 0 := by simpa using hjl
          exact .inr ⟨hc, rfl⟩
        | true =>
          rw [List.takeWhile_cons_of_pos hc] at hjl ⊢
          cases j with
          | zero => exact .inl ⟨hc, by simp⟩
          | succ j =>
            simp only [List.length_cons, List.getElem_cons_succ] at hj hjl ⊢
            rcases ih j (by omega) (by omega) with ⟨a, b⟩ | ⟨a, b⟩
            · exact .inl ⟨a, by omega⟩
            · exact .inr ⟨a, by omega⟩
    have hk := key (s.drop i) (k - i) (by simp; omega) (by omega)
    have e : (s.drop i)[k - i]'(by simp; omega) = s[k] := by
      rw [List.getElem_drop]
      congr 1
      omega
    rw [e] at hk
    rcases hk with ⟨a, b⟩ | ⟨a, b⟩
    · exact .inl ⟨a, by omega⟩
    · exact .inr ⟨a, by omega⟩
  · exact .inr ⟨by omega, by omega⟩
/-- what a token's sort says of its text. -/
def TokOk (t : Tok) : Prop :=
  (t.k = 0 ∧ t.t = []) ∨ (t.k = 110 ∧ ∃ c r, t.t = c :: r ∧ letterB c = true) ∨ (t.k = 48 ∧ ∃ c r, t.t = c :: r ∧ digitB c = true) ∨ (t.k = 39 ∧ ∃ r, t.t = 39 :: r) ∨ (t.k = 111 ∧ t.t ∈ signsW)
theorem tokAt_ok {c : UInt8} {t : List UInt8} {k : UInt8} {m : Nat} (h : tokAt c t = some (k, m)) (p : Nat) : TokOk ⟨k, (c :: t).take m, p⟩ := by
  have hl := tokAt_len h
  obtain ⟨m', rfl⟩ : ∃ m', m = m' + 1 := ⟨m - 1, by omega⟩
  unfold tokAt at h
  split at h
  · rename_i hw
    simp only [Option.some.injEq, Prod.mk.injEq] at h
    obtain ⟨rfl, -⟩ := h
    cases hd : digitB c with
    | true => exact .inr (.inr (.inl ⟨by simp, c, _, rfl, hd⟩))
    | false =>
      have : letterB c = true := by unfold wordB at hw; rw [hd] at hw; simpa using hw
      exact .inr (.inl ⟨by simp, c, _, rfl, this⟩)
  · split at h
    · rename_i hc
      subst hc
      split at h
      · simp only [Option.some.injEq, Prod.mk.injEq] at h
        obtain ⟨rfl, -⟩ := h
        exact .inr (.inr (.inr (.inl ⟨rfl, _, rfl⟩)))
      · cases h
    · split at h
      · cases h
      · simp only [Option.some.injEq, Prod.mk.injEq] at h
        obtain ⟨rfl, h⟩ := h
        refine .inr (.inr (.inr (.inr ⟨rfl, ?_⟩)))
        unfold signLen at h
        split at h
        · omega
        · rename_i g hg
          have h0 := List.find?_some hg
          have h1 := List.isPrefixOf_iff_prefix.1 h0
          have h2 := List.mem_of_find?_eq_some hg
          have h3 : (c :: t).take (m' + 1) = g := by rw [← h]; exact (List.prefix_iff_eq_take.1 h1).symm
          simp only
          rw [h3]
          exact h2
end Go.Proofs.YtgajofkeidjbgaaGreatDoor
namespace Go.Proofs.YtgajofkeidjbgaaGreatDoor
set_option linter.unusedSimpArgs false
set_option linter.unusedVariables false
open Go.RowKit

/-- texts that can be read, one behind the other. -/
def StrsAt (w : World) (b off : Nat) (xs : List (List UInt8)) : Prop := ∀ j (h : j < xs.length), w.cell? ⟨b, off + j, none⟩ = some (.string (strB xs[j]))
theorem StrsAt.later {w w' : World} {b off : Nat} {xs : List (List UInt8)} (h : StrsAt w b off xs) (hL : Later w w') : StrsAt w' b off xs := fun j hj => hL.cell (h j hj)
def Found (xs : List (List UInt8)) (q : List UInt8 → Bool) (I : World → Prop) (T : List UInt8 → World → Prop) (e : Ending) (w' : World) : Prop :=
  (e = .returned (.int .i64 (-1)) ∧ I w' ∧ ∀ x ∈ xs, q x = false) ∨ ∃ (k : Nat) (h : k < xs.length), e = .returned (.int .i64 k) ∧ q xs[k] = true ∧ T xs[k] w' ∧ ∀ j (h : j < xs.length), j < k → q xs[j] = false
set_option maxRecDepth 100000 in
set_option maxHeartbeats 2000000 in
theorem idxf (F : FuncId) (hent : ∀ args w, (callFunc F args).run Tryz.prog w = .ok (.enter F args) w) (caps : Array Value) (b off c : Nat) (xs : List (List UInt8)) (w : World) (q : List UInt8 → Bool) (I : World → Prop) (T : List UInt8 → World → Prop)
    (hI : ∀ w', I w' → StrsAt w' b off xs) (hw : I w) (hlen : xs.length ≤ 1048576)
    (hF : ∀ x ∈ xs, ∀ w', I w' → Calls Tryz.prog F (#[.string (strB x)] ++ caps) w' fun e w'' => e = .returned (.bool (q x)) ∧ (q x = false → I w'') ∧ (q x = true → T x w'')) :
    Calls Tryz.prog 66 #[.slice (some ⟨b, off, none⟩) xs.length c, .func (.func F) #[] caps] w (Found xs q I T) := by
  have HI := hid hI; have HW := hid hw; have HLN := hid hlen; have HF := hid hF
  clear hI hw hlen hF
  go_enter Tryz.func66, Tryz.ntmps66
  go_wp2_with fail
  obtain ⟨R1, hR1⟩ : ∃ RR_ : (Nat → Value) → World → Prop, RR_ = (fun us wx => ∃ k : Nat, us 8 = .int .i64 k ∧ k ≤ xs.length ∧ I wx ∧ ∀ j (h : j < xs.length), j < k → q xs[j] = false) := ⟨_, rfl⟩
  obtain ⟨mu1, hmu1⟩ : ∃ mu : (Nat → Value) → World → Nat, mu = (fun us _ => xs.length - (intOf (us 8)).toNat) := ⟨_, rfl⟩
  have HR1 := hid hR1; have Hmu1 := hid hmu1; clear hR1 hmu1
  refine wp_loop_frame' [false, false, false, false, true, true, false, false, true, true, true, true, true, true, true, true, true, true, true] R1 _ mu1 HR1.out ?_ ?_
  · exact ⟨0, rfl, Nat.zero_le _, HW.out, fun j h h0 => by omega⟩
  intro us1 wx hrel
  obtain ⟨k, h8, hk, hL, hall⟩ := hrel
  simp only [frameOf, Nat.reduceAdd, h8]
  have Hh8 := hid h8; clear h8
  have HL := hid hL; have HK := hid hk; have HA := hid hall
  clear hL hk hall
  by_cases hlt : k < xs.length
  · have HLT := hid hlt
    have p1 := HI.out _ HL.out k hlt
    have hg := cell_lt p1
    have HWK : Hid (wrap64 ((k : Int) + 1) = ((k + 1 : Nat) : Int)) := hid (by have := HLT.out; have := HLN.out; unfold wrap64; omega)
    obtain ⟨y, hy⟩ : ∃ y, xs[k]'HLT.out = y := ⟨_, rfl⟩
    have HY := hid hy
    have HM : Hid (y ∈ xs) := hid (hy ▸ List.getElem_mem _)
    rw [hy] at p1
    clear hy
    go_wp2_with fail
    refine (HF.out y HM.out _ HL.out).mono ?_
    rintro e w1 ⟨rfl, h0, h1⟩
    cases hq : q y with
    | true =>
      have HT := hid (h1 hq)
      have HQ : Hid (q (xs[k]'HLT.out) = true) := hid (by rw [HY.out]; exact hq)
      clear hq h0 h1 p1
      go_wp2_with fail
      go_ret
      exact .inr ⟨k, HLT.out, rfl, HQ.out, by rw [HY.out]; exact HT.out, fun j h hj => HA.out j h hj⟩
    | false =>
      have HT := hid (h0 hq)
      have HQ : Hid (q (xs[k]'HLT.out) = false) := hid (by rw [HY.out]; exact hq)
      clear hq h0 h1 p1
      go_wp2_with fail
      try simp only [HWK.out]
      refine Round.mk' HR1.out Hmu1.out rfl ?_ ?_
      · refine ⟨k + 1, rfl, HLT.out, HT.out, fun j h hj => ?_⟩
        by_cases hjk : j = k
        · subst hjk; exact HQ.out
        · exact HA.out j h (by omega)
      · rw [Hh8.out]; have := HLT.out; simp [intOf, slots]; omega
  · go_wp2_with fail
    go_ret
    exact .inl ⟨rfl, HL.out, fun x hx => by obtain ⟨j, hj, rfl⟩ := List.getElem_of_mem hx; exact HA.out j hj (by omega)⟩
end Go.Proofs.YtgajofkeidjbgaaGreatDoor
namespace Go.Proofs.YtgajofkeidjbgaaGreatDoor
set_option linter.unusedSimpArgs false
set_option linter.unusedVariables false
open Go Go.RowKit

theorem ownb {w : World} {B s n : Nat} {e : TypeId} {v : Value} {xs : List Value} (h : w.ownsRow B e s v n xs) : ∀ g, v.ownBlock = some g → B ≤ g ∧ g < w.heap.size := by
  intro g hg
  rcases h.2 with ⟨rfl, _⟩ | ⟨g', cap, cur, rfl, hb, hh, _⟩
  · cases hg
  · simp only [Value.ownBlock, Option.some.injEq] at hg
    subst hg
    exact ⟨hb, (Array.getElem?_eq_some_iff.1 hh).1⟩
theorem owns_put {w : World} {B s : Nat} {e : TypeId} {n cap g i : Nat} {xs : List Value} (h : w.ownsRow B e s (.slice (some ⟨g, 0, none⟩) n cap) n xs) (u : Value) :
    (w.setCell ⟨g, i, none⟩ u).ownsRow B e s (.slice (some ⟨g, 0, none⟩) n cap) n (xs.set i u) := by
  obtain ⟨hl, h⟩ := h
  refine ⟨by simpa using hl, .inr ?_⟩
  rcases h with ⟨h, _⟩ | ⟨g', cap', cur, hv, hb, hg, h1, h2, h3, h4⟩
  · cases h
  · simp only [Value.slice.injEq, Option.some.injEq, Addr.mk.injEq, and_true, true_and] at hv
    obtain ⟨rfl, rfl⟩ := hv
    refine ⟨g, cap, cur.setIfInBounds i u, rfl, hb, obj_setCell (i := i) hg u, h1, h2, by simpa using h3, ?_⟩
    rw [Array.toList_setIfInBounds, List.take_set, h4]
theorem owns_at {w w' : World} {B s n : Nat} {e : TypeId} {v : Value} {xs : List Value} (h : w.ownsRow B e s v n xs) (k : Later w w') : w'.ownsRow B e s v n xs :=
  ⟨h.1, h.2.imp id fun ⟨g, cp, cur, a1, a2, a3, a4⟩ => ⟨g, cp, cur, a1, a2, k.obj a3, a4⟩⟩
theorem owns_keep {S : Nat → Prop} {w w' : World} {B s n : Nat} {e : TypeId} {v : Value} {xs : List Value} (h : w.ownsRow B e s v n xs) (k : Keeps S w w') (hs : ∀ g, v.ownBlock = some g → S g) : w'.ownsRow B e s v n xs :=
  ⟨h.1, h.2.imp id fun ⟨g, cp, cur, a1, a2, a3, a4⟩ => ⟨g, cp, cur, a1, a2, k.obj (hs g (by rw [a1]; rfl)) a3, a4⟩⟩
theorem later_keep {w0 w w' : World} {B : Nat} (hL : Later w0 w) (k : Keeps (fun b => b < B) w w') (hB : w0.heap.size ≤ B) : Later w0 w' :=
  ((hL.keeps (fun b => b < B)).trans k).mono (S' := fun _ => True) (fun k hk _ => by omega) |>.later
theorem own_lt {w : World} {B s n b : Nat} {e : TypeId} {v : Value} {xs : List Value} (h : w.ownsRow B e s v n xs) (hb : b < B) : some b ≠ v.ownBlock := fun e => by have := (ownb h b e.symm).1; omega
/-- two of other types lie in other blocks. -/
theorem own_apart {w : World} {B B' s s' n m : Nat} {e e' : TypeId} {v u : Value} {xs ys : List Value} (h : w.ownsRow B e s v n xs) (k : w.ownsRow B' e' s' u m ys) (hne : e ≠ e') : ∀ b, v.ownBlock = some b → u.ownBlock ≠ some b := by
  intro b hv hu
  rcases h.2 with ⟨rfl, _⟩ | ⟨g, cap, cur, rfl, _, hg, _⟩
  · cases hv
  rcases k.2 with ⟨rfl, _⟩ | ⟨g', cap', cur', rfl, _, hg', _⟩
  · cases hu
  simp only [Value.ownBlock, Option.some.injEq] at hv hu
  subst hv hu
  rw [hg] at hg'
  injection hg' with h'
  injection h' with _ h'
  exact hne h'
theorem own_base {w : World} {B B' : Nat} {e : TypeId} {s n : Nat} {v : Value} {xs : List Value} (h : w.ownsRow B e s v n xs) (hB : B' ≤ B) : w.ownsRow B' e s v n xs :=
  ⟨h.1, h.2.imp id fun ⟨g, cap, cur, a1, a2, a3⟩ => ⟨g, cap, cur, a1, Nat.le_trans hB a2, a3⟩⟩
/-- values of one's own, in the slice's own block. -/
theorem owned_vals_at {w : World} {base : Nat} {e : TypeId} {v : Value} {n : Nat} {l : List Val} (h : w.ownsRow base e 3 v n (valCells l)) : ValsIn (fun b => v.ownBlock = some b) w v l := by
  obtain ⟨a, c, rfl, h1, h2, h3, h4⟩ := owned_vals h
  exact ⟨a, c, rfl, h1, h2, h3, fun i hi => let ⟨b, o, ha, _, hx⟩ := h4 i hi; ⟨b, o, ha, by subst ha; rfl, hx⟩⟩
end Go.Proofs.YtgajofkeidjbgaaGreatDoor
namespace Go.Proofs.YtgajofkeidjbgaaGreatDoor
set_option linter.unusedSimpArgs false
set_option linter.unusedVariables false
open Go Go.RowKit

section
variable {P : Program} {w : World}
structure AppX (w : World) (base : Nat) (e : TypeId) (size : Nat) (v : Value) (n m : Nat) (xs : List Value) (v' : Value) (w' : World) : Prop where
  own : w'.ownsRow base e size v' (n + m) xs
  kind : (∃ g cap, v = .slice (some ⟨g, 0, none⟩) n cap ∧ v' = .slice (some ⟨g, 0, none⟩) (n + m) cap ∧ Keeps (fun b => b ≠ g) w w') ∨ (Later w w' ∧ ∀ b, v'.ownBlock = some b → w.heap.size ≤ b)
theorem append_x {base : Nat} {t ty e : TypeId} {i : TypeInfo} {z : Value} {size bytes : Nat} (ht : P.underlying t = some (.slice e)) (hi : P.info? e = some i) (hz : i.zero = some z)
    (hsize : i.size = size) (hby : i.bytes = bytes) {v : Value} {n : Nat} {xs : List Value} (hown : w.ownsRow base e size v n xs)
    {a : Addr} {m c : Nat} {news : List Value} (hl : news.length = m * size) (hnews : ∀ j u, news[j]? = some u → w.cell? (a.add j) = some u) (h1 : ∀ u ∈ news, u.oneCell' = true)
    (h63 : n + m ≤ maxLen) (hbytes : (n + m) * bytes ≤ 140737488355328) {v' : Value} {w' : World} (hr : (Builtin.append_ #[t, t] ty #[v, .slice (some a) m c]).run P w = .ok v' w') (h3 : w.grownBy w' v.ownBlock) :
    (∃ g cap, v = .slice (some ⟨g, 0, none⟩) n cap ∧ v' = .slice (some ⟨g, 0, none⟩) (n + m) cap ∧ Keeps (fun b => b ≠ g) w w') ∨ (Later w w' ∧ ∀ b, v'.ownBlock = some b → w.heap.size ≤ b) := by
  subst hsize
  subst hby
  have hsmall : n + m ≤ 9223372036854775807 := by simp only [maxLen] at h63; omega
  rcases hown.2 with ⟨rfl, rfl⟩ | ⟨g, cap, cur, rfl, hbg, hg, hnc, hcm, hcs, htake⟩
  · by_cases hm : m = 0
    · subst hm
      have hn : news = [] := List.eq_nil_of_length_eq_zero (by simpa using hl)
      subst hn
      have : (Builtin.append_ #[t, t] ty #[.slice none 0 0, .slice (some a) 0 c]).run P w = .ok (.slice none 0 0) w := by
        simp [Builtin.append_, run_underlying ht, sizeOf, typeInfo, hi, Builtin.lenOf, Builtin.firstCells, loadCells, loadCellsFrom]
      rw [this] at hr
      injection hr with hv hw
      subst hv hw
      exact .inr ⟨Later.refl _, fun b hb => by cases hb⟩
    · have hr' := run_append_nil (P := P) w t ty e i z ht hi hz a m c news hl hnews (by omega) (by omega) (by have hb := hbytes; simp only [Nat.zero_add] at hb; omega)
      rw [hr'] at hr
      injection hr with hv hw
      subst hv hw
      exact .inr ⟨((Later.refl w).drew').alloc' _, fun b hb => by simp only [Value.ownBlock, Option.some.injEq] at hb; omega⟩
  · by_cases hroom : n + m ≤ cap
    · have hfit : n * i.size + news.length ≤ cur.size := by rw [hl, hcs, ← Nat.add_mul]; exact Nat.mul_le_mul_right _ hroom
      rw [run_append_room (P := P) w t ty e i ht hi g n cap cur hg a m c news hl hnews h1 hroom hfit] at hr
      injection hr with hv hw
      subst hv
      exact .inl ⟨g, cap, rfl, rfl, (Keeps.of_grown h3).mono fun b _ hb e => hb (by simp only [Value.ownBlock, Option.some.injEq] at e; exact e)⟩
    · have holds : ∀ j u, xs[j]? = some u → w.cell? ((⟨g, 0, none⟩ : Addr).add j) = some u := hown.cells (g := g) rfl
      have hr' := run_append_grow (P := P) w t ty e i z ht hi hz ⟨g, 0, none⟩ n cap xs hown.1 holds a m c news hl hnews (by omega) (by omega) (growslice_fits (by omega) hbytes)
      rw [hr'] at hr
      injection hr with hv hw
      subst hv hw
      exact .inr ⟨((Later.refl w).drew').alloc' _, fun b hb => by simp only [Value.ownBlock, Option.some.injEq] at hb; omega⟩
theorem wpList_append_objx {ops : Array Oper} {rest : List Oper} {o : Oper} {a : Act} {Q : Exit → Act → World → Prop} (hgd : o.guard = none) (s x : Operand) (t : TypeId)
    (ho : o.op = .call { callee := .builtin .append, args := #[s, x], argTypes := #[t, t] })
    (e : TypeId) (size bytes : Nat) (ht : P.underlying t = some (.slice e)) (hI : ElemInfo P e size bytes)
    {base : Nat} {v : Value} {n : Nat} {xs : List Value} (hs : a.eval s = v) (hown : w.ownsRow base e size v n xs)
    {b m c : Nat} {news : List Value} {T : TypeId} {f : Nat × Nat} (hx : a.eval x = .slice (some ⟨b, 0, none⟩) m c) (hsrc : w.heap[b]? = some (.cells news.toArray T f)) (hl : news.length = m * size) (h1 : ∀ u ∈ news, u.oneCell' = true)
    (hbytes : (n + m) * bytes ≤ 140737488355328) (h63 : n + m ≤ maxLen) (hbase : base ≤ w.heap.size)
    (h : ∀ v' w', AppX w base e size v n m (xs ++ news) v' w' → wpList P ops Q rest (a.put o.dst v') w') : wpList P ops Q (o :: rest) a w := by
  obtain ⟨i, z, hi, hz, h3, h4, h5, h6⟩ := hI.ex
  have hnews : ∀ j u, news[j]? = some u → w.cell? ((⟨b, 0, none⟩ : Addr).add j) = some u := by
    intro j u hu
    rw [add_none rfl]
    exact cell_obj hsrc (by simpa using hu)
  refine wpList_plain hgd fun K hK => ?_
  obtain ⟨v', w', hr, k2, k3, _⟩ := run_append_own (P := P) w base t o.type e i z size bytes ht hi hz h3 h4 h5 h6 v n xs hown ⟨b, 0, none⟩ m c news hl hnews h1 h63 hbytes hbase
  have hb := append_x ht hi hz h3 h4 hown hl hnews h1 h63 hbytes hr k3
  unfold Oper.wp execOp
  simp only [ho, resolve, invoke, builtin, Sem.run_bind, Sem.run_pure, Result.andThen_ok, List.map_toArray, List.map_cons, List.map_nil, hs, hx, hr]
  exact hK _ _ (h v' w' ⟨k2, hb⟩)
end
end Go.Proofs.YtgajofkeidjbgaaGreatDoor
