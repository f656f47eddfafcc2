/-
  PROVED HERE: a statement whose order of evaluation is left open, walked once in the order of its text: operations that make memory, and calls that do, among them. No program of its own.
-/
import Derived.Tactics
import Derived.Tactics2
import Derived.Orders
import Derived.Below
import Derived.Deep.Draws
namespace Go.Proofs.YtgcnchmnciihnaaGreatDoor
set_option linter.unusedSimpArgs false
set_option linter.unusedVariables false
open Go Go.RowKit

section
variable {P : Program} {ops : Array Oper} {md : Region.Mode}

/-- does operation 'o' wait for operation number 'i'? -/
def waits (md : Region.Mode) (o : Oper) (i : Nat) : Bool := o.after.any fun e => Region.binds md e && e.on == i

/-- what one operation comes to: a value of the kind told, in a later world. -/
def Yield (P : Program) (Rel : World → World → Prop) (w : World) (τ : Value → World → Prop) : Result Next → Prop
  | .ok (.value v) w' => Rel w w' ∧ τ v w'
  | .ok .skip w' => Rel w w' ∧ τ undef w'
  | .ok (.enter f args) w' => Calls P f args w' (fun e w'' => ∃ v, e = .returned v ∧ Rel w w'' ∧ τ v w'')
  | .ok (.row r args) w' => Rows P r args w' (fun v w'' => Rel w w'' ∧ τ v w'')
  | _ => False

def Runs (P : Program) (Rel : World → World → Prop) (o : Oper) (a : Act) (w : World) (τ : Value → World → Prop) : Prop := Yield P Rel w τ ((execOp a.eval o).run P w)


abbrev Kinds := Nat → Option (Value → World → Prop)
/-- what is told of the value that operation 'k' has yielded. -/
def Told (T : Kinds) (p : Nat × Value) (w : World) : Prop := ∀ τ, T p.1 = some τ → τ p.2 w

/-- the walk in the order of the text: an operation of which nothing is told yields one value, whatever the later world; of another one any value of the kind that is told. -/
def Lex (P : Program) (md : Region.Mode) (ops : Array Oper) (Rel : World → World → Prop) (W : World) (T : Kinds) (Q : Act → World → Prop) : List (Nat × Oper) → List (Nat × Value) → Act → Prop
  | [], done, a => ∀ w, Rel W w → (∀ p ∈ done, Told T p w) → Q a w
  | (k, o) :: rest, done, a =>
    if Region.wanted o (yielded ops a.tmps) then
      (T k = none → ∃ c, (∀ w, Rel W w → (∀ p ∈ done, waits md o p.1 = true → Told T p w) → (execOp a.eval o).run P w = .ok (.value c) w) ∧ Lex P md ops Rel W T Q rest done (a.put o.dst c)) ∧
      (∀ τ, T k = some τ → (∀ w, Rel W w → (∀ p ∈ done, waits md o p.1 = true → Told T p w) → Runs P Rel o a w τ) ∧
        ∀ v, (∃ w, Rel W w ∧ ∀ p ∈ (k, v) :: done, Told T p w) → Lex P md ops Rel W T Q rest ((k, v) :: done) (a.put o.dst v))
    else Lex P md ops Rel W T Q rest done (a.put o.dst undef)

variable {Rel : World → World → Prop} {W : World} {T : Kinds} {Q : Act → World → Prop}

theorem mem_more {p q : Nat × Value} {d d' : List (Nat × Value)} (hs : ∀ p ∈ d, p ∈ d') (h : p ∈ q :: d) : p ∈ q :: d' := by
  rcases List.mem_cons.1 h with h | h
  · exact h ▸ List.mem_cons_self
  · exact List.mem_cons_of_mem _ (hs p h)

theorem Lex.more : ∀ {L : List (Nat × Oper)} {d d' : List (Nat × Value)} {a : Act}, (∀ p ∈ d, p ∈ d') → Lex P md ops Rel W T Q L d a → Lex P md ops Rel W T Q L d' a
  | [], _, _, _, hs, h => fun w hw hd => h w hw fun p hp => hd p (hs p hp)
  | (k, o) :: rest, d, d', a, hs, h => by
    simp only [Lex] at *
    split
    · rename_i hw
      simp only [hw, if_true] at h
      refine ⟨fun hT => ?_, fun τ hT => ?_⟩
      · obtain ⟨c, h1, h2⟩ := h.1 hT
        exact ⟨c, fun w hR hd => h1 w hR fun p hp => hd p (hs p hp), Lex.more hs h2⟩
      · obtain ⟨h1, h2⟩ := h.2 τ hT
        refine ⟨fun w hR hd => h1 w hR fun p hp => hd p (hs p hp), fun v hv => ?_⟩
        obtain ⟨w, hR, hd⟩ := hv
        exact Lex.more (fun p hp => mem_more hs hp) (h2 v ⟨w, hR, fun p hp => hd p (mem_more hs hp)⟩)
    · rename_i hw
      simp only [hw] at h
      exact Lex.more hs h

theorem yield_value {w w' : World} {τ : Value → World → Prop} {v : Value} (h : Rel w w') (h' : τ v w') : Yield P Rel w τ (.ok (.value v) w') := ⟨h, h'⟩
theorem yield_skip {w w' : World} {τ : Value → World → Prop} (h : Rel w w') (h' : τ undef w') : Yield P Rel w τ (.ok .skip w') := ⟨h, h'⟩
theorem yield_enter {w w' : World} {τ : Value → World → Prop} {f : FuncId} {args : Array Value} (h : Calls P f args w' (fun e w'' => ∃ v, e = .returned v ∧ Rel w w'' ∧ τ v w'')) : Yield P Rel w τ (.ok (.enter f args) w') := h
theorem Runs.ex {o : Oper} {a : Act} {w : World} {τ : Value → World → Prop} (h : Runs P Rel o a w τ) : ∃ v w', Rel w w' ∧ τ v w' := by
  unfold Runs at h
  generalize (execOp a.eval o).run P w = r at h
  cases r with
  | ok n w' =>
    cases n <;> simp only [Yield] at h
    case value v => exact ⟨_, _, h⟩
    case skip => exact ⟨_, _, h⟩
    case enter f args =>
      obtain ⟨e, w'', fr, ⟨v, _, hr⟩, _⟩ := h []
      exact ⟨_, _, hr⟩
    case row r args =>
      obtain ⟨v, w'', hr, _⟩ := h { fn := 0, tmps := #[], todo := [], defers := [], mode := .run, kind := .normal } []
      exact ⟨_, _, hr⟩
  | halt x w' => cases x <;> simp only [Yield] at h

theorem Runs.wp {o : Oper} {a : Act} {w : World} {τ : Value → World → Prop} {K : Act → World → Prop} {Q' : Exit → Act → World → Prop} (h : Runs P Rel o a w τ)
    (hK : ∀ v w', Rel w w' → τ v w' → K (a.put o.dst v) w') : o.wp P a w K Q' := by
  unfold Runs at h
  unfold Oper.wp
  generalize (execOp a.eval o).run P w = r at h
  cases r with
  | ok n w' =>
    cases n <;> simp only [Yield] at h <;> simp only [Oper.upon]
    case value v => exact hK _ _ h.1 h.2
    case skip => exact hK _ _ h.1 h.2
    case enter f args => exact h.mono fun e w'' ⟨v, he, h1, h2⟩ => by subst he; exact hK _ _ h1 h2
    case row r args => exact h.mono fun v w'' ⟨h1, h2⟩ => hK _ _ h1 h2
  | halt x w' => cases x <;> simp only [Yield] at h

theorem Lex.one {k : Nat} {o : Oper} {rest : List (Nat × Oper)} {done : List (Nat × Value)} {a : Act} (hT : T k = none) (hw : Region.wanted o (yielded ops a.tmps) = true) (c : Value)
    (h1 : ∀ w, Rel W w → (∀ p ∈ done, waits md o p.1 = true → Told T p w) → (execOp a.eval o).run P w = .ok (.value c) w) (h2 : Lex P md ops Rel W T Q rest done (a.put o.dst c)) :
    Lex P md ops Rel W T Q ((k, o) :: rest) done a := by
  simp only [Lex, hw, if_true]
  exact ⟨fun _ => ⟨c, h1, h2⟩, fun τ h => by rw [hT] at h; cases h⟩
theorem Lex.one' {k : Nat} {o : Oper} {rest : List (Nat × Oper)} {done : List (Nat × Value)} {a : Act} (hT : T k = none) (hw : Region.wanted o (yielded ops a.tmps) = true)
    (h : ∃ c, (∀ w, Rel W w → (∀ p ∈ done, waits md o p.1 = true → Told T p w) → (execOp a.eval o).run P w = .ok (.value c) w) ∧ Lex P md ops Rel W T Q rest done (a.put o.dst c)) :
    Lex P md ops Rel W T Q ((k, o) :: rest) done a := let ⟨c, h1, h2⟩ := h; Lex.one hT hw c h1 h2
theorem Lex.any {k : Nat} {o : Oper} {rest : List (Nat × Oper)} {done : List (Nat × Value)} {a : Act} {τ : Value → World → Prop} (hT : T k = some τ) (hw : Region.wanted o (yielded ops a.tmps) = true)
    (h1 : ∀ w, Rel W w → (∀ p ∈ done, waits md o p.1 = true → Told T p w) → Runs P Rel o a w τ)
    (h2 : ∀ v, (∃ w, Rel W w ∧ ∀ p ∈ (k, v) :: done, Told T p w) → Lex P md ops Rel W T Q rest ((k, v) :: done) (a.put o.dst v)) :
    Lex P md ops Rel W T Q ((k, o) :: rest) done a := by
  simp only [Lex, hw, if_true]
  exact ⟨fun h => (by rw [hT] at h; cases h), fun τ' h => (by rw [hT] at h; cases h; exact ⟨h1, h2⟩)⟩
theorem Lex.anyEq {k : Nat} {o : Oper} {rest : List (Nat × Oper)} {done : List (Nat × Value)} {a : Act} {c : Value} (hT : T k = some (fun v _ => v = c)) (hw : Region.wanted o (yielded ops a.tmps) = true)
    (h1 : ∀ w, Rel W w → (∀ p ∈ done, waits md o p.1 = true → Told T p w) → Runs P Rel o a w (fun v _ => v = c))
    (h2 : Lex P md ops Rel W T Q rest ((k, c) :: done) (a.put o.dst c)) :
    Lex P md ops Rel W T Q ((k, o) :: rest) done a :=
  Lex.any hT hw h1 fun v ⟨w, _, hF⟩ => by
    have e : v = c := hF (k, v) List.mem_cons_self _ hT
    subst e; exact h2
theorem Lex.skip {k : Nat} {o : Oper} {rest : List (Nat × Oper)} {done : List (Nat × Value)} {a : Act} (hw : Region.wanted o (yielded ops a.tmps) = false)
    (h2 : Lex P md ops Rel W T Q rest done (a.put o.dst undef)) : Lex P md ops Rel W T Q ((k, o) :: rest) done a := by
  simp only [Lex, hw]
  exact h2
theorem Lex.one_inv {k : Nat} {o : Oper} {rest : List (Nat × Oper)} {done : List (Nat × Value)} {a : Act} (h : Lex P md ops Rel W T Q ((k, o) :: rest) done a) (hT : T k = none) (hw : Region.wanted o (yielded ops a.tmps) = true) :
    ∃ c, (∀ w, Rel W w → (∀ p ∈ done, waits md o p.1 = true → Told T p w) → (execOp a.eval o).run P w = .ok (.value c) w) ∧ Lex P md ops Rel W T Q rest done (a.put o.dst c) := by
  simp only [Lex, hw, if_true] at h; exact h.1 hT
theorem Lex.any_inv {k : Nat} {o : Oper} {rest : List (Nat × Oper)} {done : List (Nat × Value)} {a : Act} {τ : Value → World → Prop} (h : Lex P md ops Rel W T Q ((k, o) :: rest) done a) (hT : T k = some τ) (hw : Region.wanted o (yielded ops a.tmps) = true) :
    (∀ w, Rel W w → (∀ p ∈ done, waits md o p.1 = true → Told T p w) → Runs P Rel o a w τ) ∧
      ∀ v, (∃ w, Rel W w ∧ ∀ p ∈ (k, v) :: done, Told T p w) → Lex P md ops Rel W T Q rest ((k, v) :: done) (a.put o.dst v) := by
  simp only [Lex, hw, if_true] at h; exact h.2 τ hT
theorem Lex.skip_inv {k : Nat} {o : Oper} {rest : List (Nat × Oper)} {done : List (Nat × Value)} {a : Act} (h : Lex P md ops Rel W T Q ((k, o) :: rest) done a) (hw : Region.wanted o (yielded ops a.tmps) = false) :
    Lex P md ops Rel W T Q rest done (a.put o.dst undef) := by
  simp only [Lex, hw] at h; exact h

/-- the operation that stands second may stand first, if neither touches the other's slots, and it does not wait. -/
theorem lex_swap (htr : ∀ a b c, Rel a b → Rel b c → Rel a c) (hst : ∀ k τ v w w', T k = some τ → Rel w w' → τ v w → τ v w') {i j : Nat} {oi oj : Oper} (hsi : ∀ cs b, oi.op ≠ .select cs b) (hsj : ∀ cs b, oj.op ≠ .select cs b)
    (hwi : waits md oj i = false) (hap : oi.apart ops oj = true) {L : List (Nat × Oper)} {done : List (Nat × Value)} {a : Act} (hex : ∃ w, Rel W w ∧ ∀ p ∈ done, Told T p w)
    (h : Lex P md ops Rel W T Q ((i, oi) :: (j, oj) :: L) done a) : Lex P md ops Rel W T Q ((j, oj) :: (i, oi) :: L) done a := by
  obtain ⟨h1, h2, h3⟩ := Oper.apart_spec hap
  have comm : ∀ u v, (a.put oi.dst u).put oj.dst v = (a.put oj.dst v).put oi.dst u := fun u v => Act.put_comm a u v h2
  have eqj : ∀ u, execOp (a.put oi.dst u).eval oj = execOp a.eval oj := fun u => execOp_put (ops := ops) oj hsj a oi.dst u h1
  have eqi : ∀ u, execOp (a.put oj.dst u).eval oi = execOp a.eval oi := fun u => execOp_put (ops := ops) oi hsi a oj.dst u h3
  have wj : ∀ u, Region.wanted oj (yielded ops (a.put oi.dst u).tmps) = Region.wanted oj (yielded ops a.tmps) := fun u => wanted_put (ops := ops) oj a oi.dst u h1
  have wi : ∀ u, Region.wanted oi (yielded ops (a.put oj.dst u).tmps) = Region.wanted oi (yielded ops a.tmps) := fun u => wanted_put (ops := ops) oi a oj.dst u h3
  have rj : ∀ u w τ, Runs P Rel oj (a.put oi.dst u) w τ = Runs P Rel oj a w τ := fun u w τ => by unfold Runs; rw [eqj]
  have ri : ∀ u w τ, Runs P Rel oi (a.put oj.dst u) w τ = Runs P Rel oi a w τ := fun u w τ => by unfold Runs; rw [eqi]
  have drop : ∀ {v : Value} {w : World}, (∀ p ∈ done, waits md oj p.1 = true → Told T p w) → ∀ p ∈ (i, v) :: done, waits md oj p.1 = true → Told T p w := fun {v w} hF p hm hwp => by
    rcases List.mem_cons.1 hm with rfl | hm
    · exact absurd hwp (by simp [hwi])
    · exact hF p hm hwp
  have tail : ∀ {q : Nat × Value} {w : World}, (∀ p ∈ q :: done, Told T p w) → ∀ p ∈ done, Told T p w := fun hF p hm => hF p (List.mem_cons_of_mem _ hm)
  have more : ∀ {q : Nat × Value} {w : World} {o : Oper}, (∀ p ∈ q :: done, waits md o p.1 = true → Told T p w) → ∀ p ∈ done, waits md o p.1 = true → Told T p w := fun hF p hm => hF p (List.mem_cons_of_mem _ hm)
  have bring : ∀ {q : Nat × Value} {w : World} {d : List (Nat × Value)}, Told T q w → (∀ p ∈ d, Told T p w) → ∀ p ∈ q :: d, Told T p w := fun hq hF p hm => by
    rcases List.mem_cons.1 hm with rfl | hm
    · exact hq
    · exact hF p hm
  obtain ⟨w0, hR0, hF0⟩ := hex
  by_cases hw : Region.wanted oi (yielded ops a.tmps) = true
  · by_cases hwj : Region.wanted oj (yielded ops a.tmps) = true
    · cases hTi : T i with
      | none =>
        obtain ⟨c, hc, hk⟩ := h.one_inv hTi hw
        cases hTj : T j with
        | none =>
          obtain ⟨d, hd, hl⟩ := hk.one_inv hTj (by rw [wj]; exact hwj)
          exact Lex.one hTj hwj d (fun w hR hF => by rw [← eqj c]; exact hd w hR hF) (Lex.one hTi (by rw [wi]; exact hw) c (fun w hR hF => by rw [eqi]; exact hc w hR hF) (by rw [← comm]; exact hl))
        | some τj =>
          obtain ⟨hd, hl⟩ := hk.any_inv hTj (by rw [wj]; exact hwj)
          exact Lex.any hTj hwj (fun w hR hF => by rw [← rj c]; exact hd w hR hF) fun v hv =>
            Lex.one hTi (by rw [wi]; exact hw) c (fun w hR hF => by rw [eqi]; exact hc w hR (more hF)) (by rw [← comm]; exact hl v hv)
      | some τi =>
        obtain ⟨hrun, hk⟩ := h.any_inv hTi hw
        obtain ⟨v0, w1, hR1, hT1⟩ := (hrun w0 hR0 fun p hm _ => hF0 p hm).ex
        have hex1 : ∃ w, Rel W w ∧ ∀ p ∈ (i, v0) :: done, Told T p w := ⟨w1, htr _ _ _ hR0 hR1, bring (fun τ hτ => by rw [hTi] at hτ; cases hτ; exact hT1) fun p hm τ hτ => hst _ _ _ _ _ hτ hR1 (hF0 p hm τ hτ)⟩
        cases hTj : T j with
        | none =>
          obtain ⟨d, hd, _⟩ := (hk v0 hex1).one_inv hTj (by rw [wj]; exact hwj)
          have hone : (execOp a.eval oj).run P w0 = .ok (.value d) w0 := by rw [← eqj v0]; exact hd w0 hR0 (drop fun p hm _ => hF0 p hm)
          refine Lex.one hTj hwj d (fun w hR hF => by rw [← eqj v0]; exact hd w hR (drop hF)) (Lex.any hTi (by rw [wi]; exact hw) (fun w hR hF => by rw [ri]; exact hrun w hR hF) fun v hv => ?_)
          obtain ⟨d', hd', hl⟩ := (hk v hv).one_inv hTj (by rw [wj]; exact hwj)
          have h' : (execOp a.eval oj).run P w0 = .ok (.value d') w0 := by rw [← eqj v]; exact hd' w0 hR0 (drop fun p hm _ => hF0 p hm)
          rw [hone] at h'
          have : d = d' := by injection h' with h' _; injection h'
          rw [← comm, this]; exact hl
        | some τj =>
          obtain ⟨hd, _⟩ := (hk v0 hex1).any_inv hTj (by rw [wj]; exact hwj)
          refine Lex.any hTj hwj (fun w hR hF => by rw [← rj v0]; exact hd w hR (drop hF)) fun u hu => Lex.any hTi (by rw [wi]; exact hw) (fun w hR hF => by rw [ri]; exact hrun w hR (more hF)) fun v hv => ?_
          obtain ⟨w2, hR2, hF2⟩ := hv
          have hFi : Told T (i, v) w2 := hF2 _ List.mem_cons_self
          have hFj : Told T (j, u) w2 := hF2 _ (List.mem_cons_of_mem _ List.mem_cons_self)
          have hFd : ∀ p ∈ done, Told T p w2 := fun p hm => hF2 p (List.mem_cons_of_mem _ (List.mem_cons_of_mem _ hm))
          obtain ⟨_, hl⟩ := (hk v ⟨w2, hR2, bring hFi hFd⟩).any_inv hTj (by rw [wj]; exact hwj)
          rw [← comm]
          refine Lex.more (fun p hm => ?_) (hl u ⟨w2, hR2, bring hFj (bring hFi hFd)⟩)
          simp only [List.mem_cons] at hm ⊢
          rcases hm with hm | hm | hm
          · exact .inr (.inl hm)
          · exact .inl hm
          · exact .inr (.inr hm)
    · have hwj' : Region.wanted oj (yielded ops a.tmps) = false := by simpa using hwj
      refine Lex.skip hwj' ?_
      cases hTi : T i with
      | none =>
        obtain ⟨c, hc, hk⟩ := h.one_inv hTi hw
        exact Lex.one hTi (by rw [wi]; exact hw) c (fun w hR hF => by rw [eqi]; exact hc w hR hF) (by rw [← comm]; exact hk.skip_inv (by rw [wj]; exact hwj'))
      | some τi =>
        obtain ⟨hrun, hk⟩ := h.any_inv hTi hw
        exact Lex.any hTi (by rw [wi]; exact hw) (fun w hR hF => by rw [ri]; exact hrun w hR hF) fun v hv => by rw [← comm]; exact (hk v hv).skip_inv (by rw [wj]; exact hwj')
  · have hw' : Region.wanted oi (yielded ops a.tmps) = false := by simpa using hw
    have hk := h.skip_inv hw'
    by_cases hwj : Region.wanted oj (yielded ops a.tmps) = true
    · cases hTj : T j with
      | none =>
        obtain ⟨d, hd, hl⟩ := hk.one_inv hTj (by rw [wj]; exact hwj)
        exact Lex.one hTj hwj d (fun w hR hF => by rw [← eqj undef]; exact hd w hR hF) (Lex.skip (by rw [wi]; exact hw') (by rw [← comm]; exact hl))
      | some τj =>
        obtain ⟨hd, hl⟩ := hk.any_inv hTj (by rw [wj]; exact hwj)
        exact Lex.any hTj hwj (fun w hR hF => by rw [← rj undef]; exact hd w hR hF) fun v hv => Lex.skip (by rw [wi]; exact hw') (by rw [← comm]; exact hl v hv)
    · have hwj' : Region.wanted oj (yielded ops a.tmps) = false := by simpa using hwj
      exact Lex.skip hwj' (Lex.skip (by rw [wi]; exact hw') (by rw [← comm]; exact hk.skip_inv (by rw [wj]; exact hwj')))

/-- one step of the walk, whatever it is, is carried over to another rest. -/
theorem lex_step {k : Nat} {o : Oper} {L L' : List (Nat × Oper)} {done : List (Nat × Value)} {a : Act}
    (hi : ∀ d a', (∃ w, Rel W w ∧ ∀ p ∈ d, Told T p w) → Lex P md ops Rel W T Q L d a' → Lex P md ops Rel W T Q L' d a') (hex : ∃ w, Rel W w ∧ ∀ p ∈ done, Told T p w)
    (h : Lex P md ops Rel W T Q ((k, o) :: L) done a) : Lex P md ops Rel W T Q ((k, o) :: L') done a := by
  by_cases hw : Region.wanted o (yielded ops a.tmps) = true
  · cases hT : T k with
    | none =>
      obtain ⟨c, hc, hk⟩ := h.one_inv hT hw
      exact Lex.one hT hw c hc (hi _ _ hex hk)
    | some τ =>
      obtain ⟨hr, hk⟩ := h.any_inv hT hw
      exact Lex.any hT hw hr fun v hv => hi _ _ hv (hk v hv)
  · have hw' : Region.wanted o (yielded ops a.tmps) = false := by simpa using hw
    exact Lex.skip hw' (hi _ _ hex (h.skip_inv hw'))

/-- an operation that waits for none ahead of it is brought to the front. -/
theorem lex_front (htr : ∀ a b c, Rel a b → Rel b c → Rel a c) (hst : ∀ k τ v w w', T k = some τ → Rel w w' → τ v w → τ v w') {j : Nat} {oj : Oper} (hsj : ∀ cs b, oj.op ≠ .select cs b) {L2 : List (Nat × Oper)} :
    ∀ (L1 : List (Nat × Oper)) (done : List (Nat × Value)) (a : Act), (∀ p ∈ L1, waits md oj p.1 = false ∧ p.2.apart ops oj = true ∧ ∀ cs b, p.2.op ≠ .select cs b) →
      (∃ w, Rel W w ∧ ∀ p ∈ done, Told T p w) → Lex P md ops Rel W T Q (L1 ++ (j, oj) :: L2) done a → Lex P md ops Rel W T Q ((j, oj) :: (L1 ++ L2)) done a
  | [], _, _, _, _, h => h
  | (i, oi) :: L1, done, a, hp, hex, h => by
    obtain ⟨hwi, hap, hsi⟩ := hp (i, oi) List.mem_cons_self
    refine lex_swap htr hst hsi hsj hwi hap hex ?_
    exact lex_step (fun d a' hex' h' => lex_front htr hst hsj L1 d a' (fun p hm => hp p (List.mem_cons_of_mem _ hm)) hex' h') hex h

/-- the closed fact on a region: no select; an operation waits for earlier ones alone; two of which neither waits for the other touch not one another's slots. -/
def lexOk (md : Region.Mode) (ops : Array Oper) : Bool :=
  Region.noSelect ops && (List.range ops.size).all fun k => match ops[k]? with
    | some o => (o.after.all fun e => !Region.binds md e || decide (e.on < k)) && (List.range k).all fun i => match ops[i]? with
        | some oi => waits md o i || oi.apart ops o
        | none => true
    | none => true

theorem lexOk_spec (h : lexOk md ops = true) : (∀ (j : Nat) (o : Oper) cs b, ops[j]? = some o → o.op ≠ .select cs b) ∧
    (∀ k o, ops[k]? = some o → ∀ e ∈ o.after, Region.binds md e = true → e.on < k) ∧
    (∀ i k oi o, i < k → ops[i]? = some oi → ops[k]? = some o → waits md o i = false → oi.apart ops o = true) := by
  simp only [lexOk, Bool.and_eq_true, List.all_eq_true, List.mem_range] at h
  refine ⟨Region.noSelect_spec h.1, fun k o ho e he hb => ?_, fun i k oi o hik hi ho hw => ?_⟩
  · have hlt : k < ops.size := (Array.getElem?_eq_some_iff.1 ho).1
    have h1 := h.2 k hlt
    simp only [ho, Bool.and_eq_true, Array.all_eq_true_iff_forall_mem] at h1
    have := h1.1 e he
    simpa [hb] using this
  · have hlt : k < ops.size := (Array.getElem?_eq_some_iff.1 ho).1
    have h1 := h.2 k hlt
    simp only [ho, Bool.and_eq_true, List.all_eq_true, List.mem_range] at h1
    have := h1.2 i hik
    simpa [hi, hw] using this

/-- whatever order is drawn. -/
theorem lex_wpAny (htr : ∀ a b c, Rel a b → Rel b c → Rel a c) (hst : ∀ k τ v w w', T k = some τ → Rel w w' → τ v w → τ v w') (hok : lexOk md ops = true) {Q' : Exit → Act → World → Prop} (hQ : ∀ a w, Q a w → Q' .normal a w) :
    ∀ (L : List (Nat × Oper)) (listed : Array Bool) (done : List (Nat × Value)) (a : Act) (w : World), L.Pairwise (fun p q => p.1 < q.1) → (∀ k o, (k, o) ∈ L ↔ ops[k]? = some o ∧ listed.getD k true = false) →
      Rel W w → (∀ p ∈ done, Told T p w) → Lex P md ops Rel W T Q L done a → wpAny P md ops Q' L.length listed a w := by
  obtain ⟨hsel, hlow, hfree⟩ := lexOk_spec hok
  suffices H : ∀ (n : Nat) (L : List (Nat × Oper)) (listed : Array Bool) (done : List (Nat × Value)) (a : Act) (w : World), L.length = n → L.Pairwise (fun p q => p.1 < q.1) → (∀ k o, (k, o) ∈ L ↔ ops[k]? = some o ∧ listed.getD k true = false) →
      Rel W w → (∀ p ∈ done, Told T p w) → Lex P md ops Rel W T Q L done a → wpAny P md ops Q' L.length listed a w from fun L listed done a w => H _ L listed done a w rfl
  intro n
  induction n with
  | zero =>
    intro L listed done a w hn hpw hL hR hF h
    obtain rfl := List.eq_nil_of_length_eq_zero hn
    refine ⟨?_, hQ _ _ (h w hR hF)⟩
    rw [List.eq_nil_iff_forall_not_mem]
    intro j hj
    obtain ⟨h0, o, ho, _⟩ := mem_ready.1 hj
    exact absurd ((hL j o).2 ⟨ho, h0⟩) (by simp)
  | succ n ih =>
    intro L listed done a w hn hpw hL hR hF h
    rw [hn]
    refine ⟨fun hno => ?_, fun j hj => ?_⟩
    · -- the first of those that are left is ready
      obtain ⟨⟨k, o⟩, L', rfl⟩ : ∃ p L', L = p :: L' := by cases L with
        | nil => simp at hn
        | cons p L' => exact ⟨p, L', rfl⟩
      obtain ⟨ho, hk⟩ := (hL k o).1 List.mem_cons_self
      have : k ∈ Region.ready md ops listed := mem_ready.2 ⟨hk, o, ho, fun e he hb => by
        have hlt := hlow k o ho e he hb
        by_cases hl : listed.getD e.on true = false
        · have hklt : k < ops.size := (Array.getElem?_eq_some_iff.1 ho).1
          have hoe : ops[e.on]? = some (ops[e.on]'(by omega)) := Array.getElem?_eq_getElem (by omega)
          have hm := (hL e.on _).2 ⟨hoe, hl⟩
          rcases List.mem_cons.1 hm with hm | hm
          · simp only [Prod.mk.injEq] at hm; omega
          · have := (List.pairwise_cons.1 hpw).1 _ hm; simp only at this; omega
        · have hlk : k < listed.size := by
            rcases Nat.lt_or_ge k listed.size with h' | h'
            · exact h'
            · simp [Array.getElem?_eq_none h'] at hk
          have hle : e.on < listed.size := by omega
          simp [hle] at hl ⊢
          exact hl⟩
      rw [hno] at this
      cases this
    · obtain ⟨hj0, oj, hoj, hall⟩ := mem_ready.1 hj
      obtain ⟨L1, L2, hL12⟩ := List.append_of_mem ((hL j oj).2 ⟨hoj, hj0⟩)
      subst hL12
      have hpw1 := List.pairwise_append.1 hpw
      have hpre : ∀ p ∈ L1, waits md oj p.1 = false ∧ p.2.apart ops oj = true ∧ ∀ cs b, p.2.op ≠ .select cs b := fun p hm => by
        obtain ⟨hp1, hp2⟩ := (hL p.1 p.2).1 (List.mem_append_left _ hm)
        have hlt : p.1 < j := hpw1.2.2 p hm (j, oj) List.mem_cons_self
        have hwt : waits md oj p.1 = false := by
          rw [Bool.eq_false_iff]
          intro hw
          obtain ⟨e, he, hb⟩ := Array.any_eq_true'.1 hw
          simp only [Bool.and_eq_true, beq_iff_eq] at hb
          have h1 := hall e he hb.1
          rw [hb.2] at h1
          rcases Nat.lt_or_ge p.1 listed.size with h' | h'
          · simp [h'] at hp2 h1; rw [hp2] at h1; cases h1
          · simp [Array.getElem?_eq_none h'] at h1
        exact ⟨hwt, hfree p.1 j p.2 oj hlt hp1 hoj hwt, fun cs b => hsel p.1 p.2 cs b hp1⟩
      have hfr := lex_front htr hst (fun cs b => hsel j oj cs b hoj) L1 done a hpre ⟨w, hR, hF⟩ h
      have hlen : (L1 ++ L2).length = n := by simp at hn ⊢; omega
      have hjs : j < listed.size := by
        rcases Nat.lt_or_ge j listed.size with h' | h'
        · exact h'
        · simp [Array.getElem?_eq_none h'] at hj0
      have hpw' : (L1 ++ L2).Pairwise (fun p q => p.1 < q.1) := List.pairwise_append.2 ⟨hpw1.1, (List.pairwise_cons.1 hpw1.2.1).2, fun p hp q hq => hpw1.2.2 p hp q (List.mem_cons_of_mem _ hq)⟩
      have hL' : ∀ k o, (k, o) ∈ L1 ++ L2 ↔ ops[k]? = some o ∧ (listed.setIfInBounds j true).getD k true = false := fun k o => by
        have h0 := hL k o
        constructor
        · intro hm
          have hm' : (k, o) ∈ L1 ++ (j, oj) :: L2 := by
            rcases List.mem_append.1 hm with hm | hm
            · exact List.mem_append_left _ hm
            · exact List.mem_append_right _ (List.mem_cons_of_mem _ hm)
          have hne : j ≠ k := fun e => by
            subst e
            rcases List.mem_append.1 hm with hm | hm
            · have := hpw1.2.2 _ hm (j, oj) List.mem_cons_self; simp only at this; omega
            · have := (List.pairwise_cons.1 hpw1.2.1).1 _ hm; simp only at this; omega
          exact ⟨(h0.1 hm').1, by rw [getD_set_ne true hne]; exact (h0.1 hm').2⟩
        · rintro ⟨ho, hk⟩
          have hne : j ≠ k := fun e => by subst e; simp [hjs] at hk
          rw [getD_set_ne true hne] at hk
          have hm := h0.2 ⟨ho, hk⟩
          rcases List.mem_append.1 hm with hm | hm
          · exact List.mem_append_left _ hm
          · rcases List.mem_cons.1 hm with hm | hm
            · simp only [Prod.mk.injEq] at hm; exact absurd hm.1.symm hne
            · exact List.mem_append_right _ hm
      unfold wpOp
      simp only [hoj]
      split
      · rename_i hw
        left
        cases hT : T j with
        | none =>
          obtain ⟨c, hc, hk⟩ := hfr.one_inv hT hw
          unfold Oper.wp
          rw [hc w hR fun p hm _ => hF p hm]
          have := ih _ _ _ _ _ hlen hpw' hL' hR hF hk
          rw [hlen] at this
          exact this
        | some τ =>
          obtain ⟨hr, hk⟩ := hfr.any_inv hT hw
          refine (hr w hR fun p hm _ => hF p hm).wp fun v w' hR' hτ => ?_
          have hF' : ∀ p ∈ (j, v) :: done, Told T p w' := fun p hm => by
            rcases List.mem_cons.1 hm with rfl | hm
            · intro τ' hτ'; rw [hT] at hτ'; cases hτ'; exact hτ
            · exact fun τ' hτ' => hst _ _ _ _ _ hτ' hR' (hF p hm τ' hτ')
          have := ih _ _ _ _ _ hlen hpw' hL' (htr _ _ _ hR hR') hF' (hk v ⟨w', htr _ _ _ hR hR', hF'⟩)
          rw [hlen] at this
          exact this
      · rename_i hw
        have := ih _ _ _ _ _ hlen hpw' hL' hR hF (hfr.skip_inv (by simpa using hw))
        rw [hlen] at this
        exact this

/-- the operations with their numbers. -/
def numbered : Nat → List Oper → List (Nat × Oper)
  | _, [] => []
  | k, o :: l => (k, o) :: numbered (k + 1) l

theorem numbered_mem : ∀ (l : List Oper) (n k : Nat) (o : Oper), (k, o) ∈ numbered n l ↔ n ≤ k ∧ l[k - n]? = some o
  | [], n, k, o => by simp [numbered]
  | x :: l, n, k, o => by
    simp only [numbered, List.mem_cons, Prod.mk.injEq, numbered_mem l (n + 1) k o]
    constructor
    · rintro (⟨rfl, rfl⟩ | ⟨h1, h2⟩)
      · simp
      · refine ⟨by omega, ?_⟩
        rw [show k - n = (k - (n + 1)) + 1 by omega]; simpa using h2
    · rintro ⟨h1, h2⟩
      by_cases hk : k = n
      · subst hk; simp at h2; exact .inl ⟨rfl, h2.symm⟩
      · refine .inr ⟨by omega, ?_⟩
        rw [show k - n = (k - (n + 1)) + 1 by omega] at h2; simpa using h2

theorem numbered_pairwise : ∀ (l : List Oper) (n : Nat), (numbered n l).Pairwise (fun p q => p.1 < q.1)
  | [], _ => List.Pairwise.nil
  | x :: l, n => List.pairwise_cons.2 ⟨fun q hq => by have := (numbered_mem l (n + 1) q.1 q.2).1 hq; show n < q.1; omega, numbered_pairwise l (n + 1)⟩

theorem numbered_length : ∀ (l : List Oper) (n : Nat), (numbered n l).length = l.length
  | [], _ => rfl
  | _ :: l, n => by simp [numbered, numbered_length l]

/-- **A region that asks the tape, its operations written out**: the walk in the order of the text serves every order. -/
theorem wp_region_lex {id : Nat} {a : Act} {w : World} {l : List Oper} {Q' : Exit → Act → World → Prop} (hm : P.follows .mixedOrders = true) (hok : lexOk .any l.toArray = true)
    (Rel : World → World → Prop) (hrf : ∀ a, Rel a a) (htr : ∀ a b c, Rel a b → Rel b c → Rel a c) (T : Kinds) (hst : ∀ k τ v w w', T k = some τ → Rel w w' → τ v w → τ v w')
    (h : Lex P .any l.toArray Rel w.drew T (fun a' w' => Q' .normal a' w') (numbered 0 l) [] a) : (Code.region id l.toArray true).wp P Q' a w := by
  refine wp_region_any hm ?_
  have h0 := lex_wpAny (Q' := Q') htr hst hok (fun _ _ h => h) (numbered 0 l) (Array.replicate l.toArray.size false) [] a w.drew (numbered_pairwise l 0) (fun k o => by
    rw [numbered_mem]
    simp only [Nat.sub_zero, Nat.zero_le, true_and, List.getElem?_toArray, List.size_toArray]
    constructor
    · intro ho
      have hlt : k < l.length := (List.getElem?_eq_some_iff.1 ho).1
      exact ⟨ho, by simp [hlt]⟩
    · exact fun h => h.1) (hrf _) (fun p hp => by cases hp) h
  rw [numbered_length] at h0
  exact h0

/-- does operation 'j' wait for 'i', by whatever way? -/
def anc (md : Region.Mode) (ops : Array Oper) : Nat → Nat → Nat → Bool
  | 0, _, _ => false
  | f + 1, j, i => match ops[j]? with
    | some o => o.after.any fun e => Region.binds md e && (e.on == i || anc md ops f e.on i)
    | none => false
/-- what is listed has all listed for which it waits. -/
def Closed (md : Region.Mode) (ops : Array Oper) (listed : Array Bool) : Prop :=
  ∀ k o, ops[k]? = some o → listed.getD k true = true → ∀ e ∈ o.after, Region.binds md e = true → listed.getD e.on true = true
theorem anc_listed {listed : Array Bool} (hcl : Closed md ops listed) : ∀ (f j i : Nat) (o : Oper), ops[j]? = some o → (∀ e ∈ o.after, Region.binds md e = true → listed.getD e.on true = true) → anc md ops f j i = true → listed.getD i true = true
  | 0, _, _, _, _, _, h => by simp [anc] at h
  | f + 1, j, i, o, ho, hd, h => by
    simp only [anc, ho] at h
    obtain ⟨e, he, hb⟩ := Array.any_eq_true'.1 h
    simp only [Bool.and_eq_true, Bool.or_eq_true, beq_iff_eq] at hb
    have h1 := hd e he hb.1
    rcases hb.2 with hb2 | hb2
    · exact hb2 ▸ h1
    · cases ho' : ops[e.on]? with
      | none =>
        cases f with
        | zero => simp [anc] at hb2
        | succ f => simp [anc, ho'] at hb2
      | some o' => exact anc_listed hcl f e.on i o' ho' (fun e' he' hb' => hcl e.on o' ho' h1 e' he' hb') hb2

theorem anc_lt (hlow : ∀ k o, ops[k]? = some o → ∀ e ∈ o.after, Region.binds md e = true → e.on < k) : ∀ (f j i : Nat), anc md ops f j i = true → i < j
  | 0, _, _, h => by simp [anc] at h
  | f + 1, j, i, h => by
    cases ho : ops[j]? with
    | none => simp [anc, ho] at h
    | some o =>
      simp only [anc, ho] at h
      obtain ⟨e, he, hb⟩ := Array.any_eq_true'.1 h
      simp only [Bool.and_eq_true, Bool.or_eq_true, beq_iff_eq] at hb
      have h1 := hlow j o ho e he hb.1
      rcases hb.2 with hb2 | hb2
      · omega
      · have := anc_lt hlow f _ _ hb2; omega
theorem Closed.list {listed : Array Bool} {j : Nat} {o : Oper} (hcl : Closed md ops listed) (hj : ops[j]? = some o) (hd : ∀ e ∈ o.after, Region.binds md e = true → listed.getD e.on true = true) : Closed md ops (listed.setIfInBounds j true) := by
  have up : ∀ k, listed.getD k true = true → (listed.setIfInBounds j true).getD k true = true := fun k hk => by
    by_cases h : j = k
    · subst h; rcases Nat.lt_or_ge j listed.size with h' | h' <;> simp [h']
    · rw [getD_set_ne true h]; exact hk
  intro k o' ho' hk e he hb
  by_cases h : j = k
  · subst h
    rw [hj] at ho'; cases ho'
    exact up _ (hd e he hb)
  · rw [getD_set_ne true h] at hk
    exact up _ (hcl k o' ho' hk e he hb)

/-- the operations of the tail, one behind the other: no other order is left. -/
theorem tail_wpAny (hok : lexOk md ops = true) {Q' : Exit → Act → World → Prop} : ∀ (C : List (Nat × Oper)) (listed : Array Bool) (a : Act) (w : World), listed.size = ops.size → C.Pairwise (fun p q => p.1 < q.1 ∧ anc md ops ops.size q.1 p.1 = true) →
    (∀ k o, (k, o) ∈ C ↔ ops[k]? = some o ∧ listed.getD k true = false) → Closed md ops listed → wpList P ops Q' (C.map (·.2)) a w → wpAny P md ops Q' C.length listed a w := by
  obtain ⟨_, hlow, _⟩ := lexOk_spec hok
  intro C
  induction C with
  | nil =>
    intro listed a w _ _ hC _ h
    refine ⟨?_, h⟩
    rw [List.eq_nil_iff_forall_not_mem]
    intro j hj
    obtain ⟨h0, o, ho, _⟩ := mem_ready.1 hj
    exact absurd ((hC j o).2 ⟨ho, h0⟩) (by simp)
  | cons c C ih =>
    obtain ⟨k, o⟩ := c
    intro listed a w hsz hpw hC hcl h
    obtain ⟨ho, hk⟩ := (hC k o).1 List.mem_cons_self
    have hks : k < listed.size := by rw [hsz]; exact (Array.getElem?_eq_some_iff.1 ho).1
    have dep : ∀ e ∈ o.after, Region.binds md e = true → listed.getD e.on true = true := fun e he hb => by
      have hlt := hlow k o ho e he hb
      cases hl : listed.getD e.on true with
      | true => rfl
      | false =>
        have hoe : ops[e.on]? = some (ops[e.on]'(by omega)) := Array.getElem?_eq_getElem (by omega)
        have hm := (hC e.on _).2 ⟨hoe, hl⟩
        rcases List.mem_cons.1 hm with hm | hm
        · simp only [Prod.mk.injEq] at hm; omega
        · have := ((List.pairwise_cons.1 hpw).1 _ hm).1; simp only at this; omega
    have tt : ∀ j, listed.getD j true = true → j < ops.size → listed.getD j false = true := fun j hj hlt => by
      have : j < listed.size := by omega
      simp [this] at hj ⊢; exact hj
    have hrk : k ∈ Region.ready md ops listed := mem_ready.2 ⟨hk, o, ho, fun e he hb => tt _ (dep e he hb) (by have := hlow k o ho e he hb; omega)⟩
    have hC' : ∀ k' o', (k', o') ∈ C ↔ ops[k']? = some o' ∧ (listed.setIfInBounds k true).getD k' true = false := fun k' o' => by
      constructor
      · intro hm
        have hlt := ((List.pairwise_cons.1 hpw).1 _ hm).1
        simp only at hlt
        rw [getD_set_ne true (by omega)]
        exact (hC k' o').1 (List.mem_cons_of_mem _ hm)
      · rintro ⟨ho', hk'⟩
        have hne : k ≠ k' := fun e => by subst e; simp [hks] at hk'
        rw [getD_set_ne true hne] at hk'
        rcases List.mem_cons.1 ((hC k' o').2 ⟨ho', hk'⟩) with hm | hm
        · simp only [Prod.mk.injEq] at hm; exact absurd hm.1.symm hne
        · exact hm
    refine ⟨fun hno => (by rw [hno] at hrk; cases hrk), fun j hj => ?_⟩
    obtain ⟨hj0, oj, hoj, hall⟩ := mem_ready.1 hj
    obtain rfl : j = k := by
      rcases List.mem_cons.1 ((hC j oj).2 ⟨hoj, hj0⟩) with hm | hm
      · simp only [Prod.mk.injEq] at hm; exact hm.1
      · have ha := ((List.pairwise_cons.1 hpw).1 _ hm).2
        have := anc_listed hcl _ _ _ oj hoj (fun e he hb => by
          have h1 := hall e he hb
          rcases Nat.lt_or_ge e.on listed.size with h' | h'
          · simp [h'] at h1 ⊢; exact h1
          · simp [Array.getElem?_eq_none h'] at h1) ha
        simp only at this
        rw [hk] at this; cases this
    rw [ho] at hoj; cases hoj
    have hn := ih (listed.setIfInBounds j true)
    unfold wpOp
    simp only [ho]
    simp only [List.map_cons, wpList] at h
    split
    · rename_i hw
      simp only [hw, if_true] at h
      rcases h with h | h
      · exact .inl (Oper.wp_mono (fun a' w' h' => hn a' w' (by simpa using hsz) (List.pairwise_cons.1 hpw).2 hC' (hcl.list ho dep) h') h)
      · exact .inr h
    · rename_i hw
      simp only [hw] at h
      exact hn _ _ (by simpa using hsz) (List.pairwise_cons.1 hpw).2 hC' (hcl.list ho dep) h

/-- whatever order is drawn, a tail behind it that waits for all. -/
theorem lex_tail (htr : ∀ a b c, Rel a b → Rel b c → Rel a c) (hst : ∀ k τ v w w', T k = some τ → Rel w w' → τ v w → τ v w') (hok : lexOk md ops = true) {Q' : Exit → Act → World → Prop} (C : List (Nat × Oper))
    (hCp : C.Pairwise (fun p q => p.1 < q.1 ∧ anc md ops ops.size q.1 p.1 = true)) (hQ : ∀ a w, Q a w → wpList P ops Q' (C.map (·.2)) a w) :
    ∀ (n : Nat) (L : List (Nat × Oper)) (listed : Array Bool) (done : List (Nat × Value)) (a : Act) (w : World), L.length = n → listed.size = ops.size → L.Pairwise (fun p q => p.1 < q.1) → (∀ p ∈ L, ∀ q ∈ C, p.1 ≠ q.1 ∧ anc md ops ops.size q.1 p.1 = true) →
      (∀ k o, (k, o) ∈ L ++ C ↔ ops[k]? = some o ∧ listed.getD k true = false) → Closed md ops listed →
      Rel W w → (∀ p ∈ done, Told T p w) → Lex P md ops Rel W T Q L done a → wpAny P md ops Q' (n + C.length) listed a w := by
  obtain ⟨hsel, hlow, hfree⟩ := lexOk_spec hok
  intro n
  induction n with
  | zero =>
    intro L listed done a w hn hsz hpw hLC hL hcl hR hF h
    obtain rfl := List.eq_nil_of_length_eq_zero hn
    rw [Nat.zero_add]
    exact tail_wpAny hok C listed a w hsz hCp (by simpa using hL) hcl (hQ _ _ (h w hR hF))
  | succ n ih =>
    intro L listed done a w hn hsz hpw hLC hL hcl hR hF h
    rw [show n + 1 + C.length = (n + C.length) + 1 by omega]
    have tt : ∀ j, listed.getD j true = true → j < ops.size → listed.getD j false = true := fun j hj hlt => by
      have : j < listed.size := by omega
      simp [this] at hj ⊢; exact hj
    have ff : ∀ j, listed.getD j false = true → listed.getD j true = true := fun j h1 => by
      rcases Nat.lt_or_ge j listed.size with h' | h'
      · simp [h'] at h1 ⊢; exact h1
      · simp [Array.getElem?_eq_none h'] at h1
    refine ⟨fun hno => ?_, fun j hj => ?_⟩
    · obtain ⟨⟨k, o⟩, L', rfl⟩ : ∃ p L', L = p :: L' := by cases L with
        | nil => simp at hn
        | cons p L' => exact ⟨p, L', rfl⟩
      obtain ⟨ho, hk⟩ := (hL k o).1 (List.mem_append_left _ List.mem_cons_self)
      have : k ∈ Region.ready md ops listed := mem_ready.2 ⟨hk, o, ho, fun e he hb => by
        have hlt := hlow k o ho e he hb
        have hklt : k < ops.size := (Array.getElem?_eq_some_iff.1 ho).1
        refine tt _ ?_ (by omega)
        cases hl : listed.getD e.on true with
        | true => rfl
        | false =>
          have hoe : ops[e.on]? = some (ops[e.on]'(by omega)) := Array.getElem?_eq_getElem (by omega)
          rcases List.mem_append.1 ((hL e.on _).2 ⟨hoe, hl⟩) with hm | hm
          · rcases List.mem_cons.1 hm with hm | hm
            · simp only [Prod.mk.injEq] at hm; omega
            · have := (List.pairwise_cons.1 hpw).1 _ hm; simp only at this; omega
          · -- an operation of the tail waits for 'k' itself
            have ha := (hLC (k, o) List.mem_cons_self _ hm).2
            exact absurd (anc_lt hlow _ _ _ ha) (by simp only; omega)⟩
      rw [hno] at this
      cases this
    · obtain ⟨hj0, oj, hoj, hall⟩ := mem_ready.1 hj
      have hjL : (j, oj) ∈ L := by
        rcases List.mem_append.1 ((hL j oj).2 ⟨hoj, hj0⟩) with hm | hm
        · exact hm
        · exfalso
          obtain ⟨⟨k, o⟩, L', rfl⟩ : ∃ p L', L = p :: L' := by cases L with
            | nil => simp at hn
            | cons p L' => exact ⟨p, L', rfl⟩
          have ha := (hLC (k, o) List.mem_cons_self _ hm).2
          have h1 := anc_listed hcl _ _ _ oj hoj (fun e he hb => ff _ (hall e he hb)) ha
          have h2 := ((hL k o).1 (List.mem_append_left _ List.mem_cons_self)).2
          simp only at h1
          rw [h2] at h1; cases h1
      obtain ⟨L1, L2, hL12⟩ := List.append_of_mem hjL
      subst hL12
      have hpw1 := List.pairwise_append.1 hpw
      have hpre : ∀ p ∈ L1, waits md oj p.1 = false ∧ p.2.apart ops oj = true ∧ ∀ cs b, p.2.op ≠ .select cs b := fun p hm => by
        obtain ⟨hp1, hp2⟩ := (hL p.1 p.2).1 (List.mem_append_left _ (List.mem_append_left _ hm))
        have hlt : p.1 < j := hpw1.2.2 p hm (j, oj) List.mem_cons_self
        have hwt : waits md oj p.1 = false := by
          rw [Bool.eq_false_iff]
          intro hw
          obtain ⟨e, he, hb⟩ := Array.any_eq_true'.1 hw
          simp only [Bool.and_eq_true, beq_iff_eq] at hb
          have h1 := ff _ (hall e he hb.1)
          rw [hb.2, hp2] at h1
          cases h1
        exact ⟨hwt, hfree p.1 j p.2 oj hlt hp1 hoj hwt, fun cs b => hsel p.1 p.2 cs b hp1⟩
      have hfr := lex_front htr hst (fun cs b => hsel j oj cs b hoj) L1 done a hpre ⟨w, hR, hF⟩ h
      have hlen : (L1 ++ L2).length = n := by simp at hn ⊢; omega
      have hjs : j < listed.size := by rw [hsz]; exact (Array.getElem?_eq_some_iff.1 hoj).1
      have hpw' : (L1 ++ L2).Pairwise (fun p q => p.1 < q.1) := List.pairwise_append.2 ⟨hpw1.1, (List.pairwise_cons.1 hpw1.2.1).2, fun p hp q hq => hpw1.2.2 p hp q (List.mem_cons_of_mem _ hq)⟩
      have hLC' : ∀ p ∈ L1 ++ L2, ∀ q ∈ C, p.1 ≠ q.1 ∧ anc md ops ops.size q.1 p.1 = true := fun p hp => hLC p (by
        rcases List.mem_append.1 hp with hp | hp
        · exact List.mem_append_left _ hp
        · exact List.mem_append_right _ (List.mem_cons_of_mem _ hp))
      have hL' : ∀ k o, (k, o) ∈ (L1 ++ L2) ++ C ↔ ops[k]? = some o ∧ (listed.setIfInBounds j true).getD k true = false := fun k o => by
        have h0 := hL k o
        simp only [List.mem_append, List.mem_cons] at h0 ⊢
        constructor
        · intro hm
          have hne : j ≠ k := fun e => by
            subst e
            rcases hm with (hm | hm) | hm
            · have := hpw1.2.2 _ hm (j, oj) List.mem_cons_self; simp only at this; omega
            · have := (List.pairwise_cons.1 hpw1.2.1).1 _ hm; simp only at this; omega
            · exact (hLC (j, oj) hjL _ hm).1 rfl
          have h1 := h0.1 (by
            rcases hm with (hm | hm) | hm
            · exact .inl (.inl hm)
            · exact .inl (.inr (.inr hm))
            · exact .inr hm)
          exact ⟨h1.1, by rw [getD_set_ne true hne]; exact h1.2⟩
        · rintro ⟨ho, hk⟩
          have hne : j ≠ k := fun e => by subst e; simp [hjs] at hk
          rw [getD_set_ne true hne] at hk
          rcases h0.2 ⟨ho, hk⟩ with (hm | hm | hm) | hm
          · exact .inl (.inl hm)
          · simp only [Prod.mk.injEq] at hm; exact absurd hm.1.symm hne
          · exact .inl (.inr hm)
          · exact .inr hm
      have hcl' := hcl.list hoj fun e he hb => ff _ (hall e he hb)
      have hsz' : (listed.setIfInBounds j true).size = ops.size := by simpa using hsz
      unfold wpOp
      simp only [hoj]
      split
      · rename_i hw
        left
        cases hT : T j with
        | none =>
          obtain ⟨c, hc, hk⟩ := hfr.one_inv hT hw
          unfold Oper.wp
          rw [hc w hR fun p hm _ => hF p hm]
          exact ih _ _ _ _ _ hlen hsz' hpw' hLC' hL' hcl' hR hF hk
        | some τ =>
          obtain ⟨hr, hk⟩ := hfr.any_inv hT hw
          refine (hr w hR fun p hm _ => hF p hm).wp fun v w' hR' hτ => ?_
          have hF' : ∀ p ∈ (j, v) :: done, Told T p w' := fun p hm => by
            rcases List.mem_cons.1 hm with rfl | hm
            · intro τ' hτ'; rw [hT] at hτ'; cases hτ'; exact hτ
            · exact fun τ' hτ' => hst _ _ _ _ _ hτ' hR' (hF p hm τ' hτ')
          exact ih _ _ _ _ _ hlen hsz' hpw' hLC' hL' hcl' (htr _ _ _ hR hR') hF' (hk v ⟨w', htr _ _ _ hR hR', hF'⟩)
      · rename_i hw
        exact ih _ _ _ _ _ hlen hsz' hpw' hLC' hL' hcl' hR hF (hfr.skip_inv (by simpa using hw))

/-- operations that yield one value in whatever world, taken first. -/
def PureOps (P : Program) (ops : Array Oper) : List Nat → (Act → Prop) → Act → Prop
  | [], K, a => K a
  | u :: r, K, a => ∃ o v, ops[u]? = some o ∧ Region.wanted o (yielded ops a.tmps) = true ∧ (∀ w, (execOp a.eval o).run P w = .ok (.value v) w) ∧ PureOps P ops r K (a.put o.dst v)
theorem PureOps.cons {u : Nat} {r : List Nat} {K : Act → Prop} {a : Act} {o : Oper} (ho : ops[u]? = some o) (hw : Region.wanted o (yielded ops a.tmps) = true)
    (h : ∃ v, (∀ w, (execOp a.eval o).run P w = .ok (.value v) w) ∧ PureOps P ops r K (a.put o.dst v)) : PureOps P ops (u :: r) K a := let ⟨v, h1, h2⟩ := h; ⟨o, v, ho, hw, h1, h2⟩
def pureOk (md : Region.Mode) (ops : Array Oper) : List Nat → Array Bool → Bool
  | [], _ => true
  | u :: r, listed => (Region.ready md ops listed).contains u && Region.free md ops listed u && pureOk md ops r (listed.setIfInBounds u true)
theorem pure_wpAny (hs : Region.noSelect ops = true) {Q' : Exit → Act → World → Prop} (hQ : ∀ c a d v w, Q' (.panic c) (a.put d v) w → Q' (.panic c) a w) {w : World} {K : Act → Prop} :
    ∀ (U : List Nat) (listed : Array Bool) (a : Act) (m : Nat), pureOk md ops U listed = true → listed.size = ops.size → Closed md ops listed → PureOps P ops U K a →
      (∀ listed' a', listed'.size = ops.size → Closed md ops listed' → (∀ k, listed'.getD k true = (listed.getD k true || U.contains k)) → K a' → wpAny P md ops Q' m listed' a' w) → wpAny P md ops Q' (U.length + m) listed a w
  | [], listed, a, m, _, hsz, hcl, h, hk => by
    simp only [List.length_nil, Nat.zero_add]
    exact hk listed a hsz hcl (by simp) h
  | u :: r, listed, a, m, hok, hsz, hcl, h, hk => by
    simp only [pureOk, Bool.and_eq_true] at hok
    obtain ⟨⟨hr, hf⟩, hok'⟩ := hok
    obtain ⟨o, v, ho, hw, hv, hrest⟩ := h
    have hu : u < ops.size := (Array.getElem?_eq_some_iff.1 ho).1
    obtain ⟨_, o', ho', hall⟩ := mem_ready.1 (by simpa using hr : u ∈ Region.ready md ops listed)
    rw [ho] at ho'; cases ho'
    rw [show (u :: r).length + m = (r.length + m) + 1 by simp; omega]
    refine wpAny_take ho hs hf hr (fun c a w => hQ c a _ _ w) (.inl ⟨hw, hv⟩) ?_
    refine pure_wpAny hs hQ r (listed.setIfInBounds u true) (a.put o.dst v) m hok' (by simpa using hsz) (hcl.list ho fun e he hb => ?_) hrest fun listed' a' h1 h2 h3 => hk listed' a' h1 h2 fun k => ?_
    · have h1 := hall e he hb
      rcases Nat.lt_or_ge e.on listed.size with h' | h'
      · simp [h'] at h1 ⊢; exact h1
      · simp [Array.getElem?_eq_none h'] at h1
    · rw [h3]
      by_cases hk : u = k
      · subst hk; simp [hsz, hu]
      · rw [getD_set_ne true hk]
        have : ¬ k = u := fun e => hk e.symm
        simp [this]

def body (U C : List Nat) (l : List (Nat × Oper)) : List (Nat × Oper) := l.filter fun p => !U.contains p.1 && !C.contains p.1
def tail (C : List Nat) (l : List (Nat × Oper)) : List (Nat × Oper) := l.filter fun p => C.contains p.1

/-- the plan of a walk: 'U' are taken first, 'C' stand at the end, one behind the other. -/
def planOk (l : List Oper) (ops : Array Oper) (U C : List Nat) : Bool :=
  decide ((tail U (numbered 0 l)).map (·.1) = U) && decide (l.toArray.size = U.length + ((body U C (numbered 0 l)).length + (tail C (numbered 0 l)).length)) && pureOk .any ops U (Array.replicate ops.size false) && (List.range ops.size).all fun k =>
    if C.contains k then !U.contains k && (List.range ops.size).all fun i => if U.contains i then true else if C.contains i then decide (k ≤ i) || anc .any ops ops.size k i else anc .any ops ops.size k i
    else true
/-- the same, the operations beside their numbers. -/
def Pures (P : Program) (ops : Array Oper) : List (Nat × Oper) → (Act → Prop) → Act → Prop
  | [], K, a => K a
  | (_, o) :: r, K, a => Region.wanted o (yielded ops a.tmps) = true ∧ ∃ v, (∀ w, (execOp a.eval o).run P w = .ok (.value v) w) ∧ Pures P ops r K (a.put o.dst v)
theorem Pures.toOps {K : Act → Prop} : ∀ {L : List (Nat × Oper)} {a : Act}, (∀ p ∈ L, ops[p.1]? = some p.2) → Pures P ops L K a → PureOps P ops (L.map (·.1)) K a
  | [], _, _, h => h
  | (u, o) :: r, a, hm, ⟨hw, v, hv, h⟩ => ⟨o, v, hm (u, o) List.mem_cons_self, hw, hv, Pures.toOps (fun p hp => hm p (List.mem_cons_of_mem _ hp)) h⟩
theorem Pures.cons {u : Nat} {r : List (Nat × Oper)} {K : Act → Prop} {a : Act} {o : Oper} (hw : Region.wanted o (yielded ops a.tmps) = true)
    (h : ∃ v, (∀ w, (execOp a.eval o).run P w = .ok (.value v) w) ∧ Pures P ops r K (a.put o.dst v)) : Pures P ops ((u, o) :: r) K a := ⟨hw, h⟩

/-- **A region that asks the tape**: operations of which nothing hangs on the world first; then the walk in the order of the text; then a tail that waits for all of it. -/
theorem wp_region_plan {id : Nat} {a : Act} {w : World} {l : List Oper} {Q' : Exit → Act → World → Prop} (hm : P.follows .mixedOrders = true) (hok : lexOk .any l.toArray = true) (U C : List Nat) (hplan : planOk l l.toArray U C = true)
    (hQ : ∀ c a d v w, Q' (.panic c) (a.put d v) w → Q' (.panic c) a w)
    (Rel : World → World → Prop) (hrf : ∀ a, Rel a a) (htr : ∀ a b c, Rel a b → Rel b c → Rel a c) (T : Kinds) (hst : ∀ k τ v w w', T k = some τ → Rel w w' → τ v w → τ v w')
    (h : Pures P l.toArray (tail U (numbered 0 l)) (Lex P .any l.toArray Rel w.drew T (fun a' w' => wpList P l.toArray Q' ((tail C (numbered 0 l)).map (·.2)) a' w') (body U C (numbered 0 l)) []) a) : (Code.region id l.toArray true).wp P Q' a w := by
  refine wp_region_any hm ?_
  simp only [planOk, Bool.and_eq_true] at hplan
  obtain ⟨⟨⟨hU, hcount⟩, hpure⟩, hpl⟩ := hplan
  replace hcount := of_decide_eq_true hcount
  replace hU := of_decide_eq_true hU
  have hpl' := fun k (hk : k < l.toArray.size) => List.all_eq_true.1 hpl k (List.mem_range.2 hk)
  have hs : Region.noSelect l.toArray = true := by unfold lexOk at hok; simp only [Bool.and_eq_true] at hok; exact hok.1
  have nm : ∀ k o, (k, o) ∈ numbered 0 l ↔ l[k]? = some o := fun k o => by simpa using numbered_mem l 0 k o
  have toA : ∀ k : Nat, l.toArray[k]? = l[k]? := fun k => List.getElem?_toArray
  have lt : ∀ {k : Nat} {o : Oper}, l[k]? = some o → k < l.toArray.size := fun {k o} h => by simpa using (List.getElem?_eq_some_iff.1 h).1
  have hcs : ∀ k o, (k, o) ∈ numbered 0 l → C.contains k = true → U.contains k = false := fun k o hm hc => by
    have := hpl' k (lt ((nm k o).1 hm))
    simp only [hc, if_true, Bool.and_eq_true, Bool.not_eq_true'] at this
    exact this.1
  have split : ∀ k, ∀ o, (k, o) ∈ body U C (numbered 0 l) ++ tail C (numbered 0 l) ↔ l[k]? = some o ∧ U.contains k = false := fun k o => by
    simp only [body, tail, List.mem_append, List.mem_filter, Bool.and_eq_true, Bool.not_eq_true', nm]
    constructor
    · rintro (⟨h1, h2, _⟩ | ⟨h1, h2⟩)
      · exact ⟨h1, h2⟩
      · exact ⟨h1, hcs k o ((nm k o).2 h1) h2⟩
    · rintro ⟨h1, h2⟩
      by_cases hc : C.contains k = true
      · exact .inr ⟨h1, hc⟩
      · exact .inl ⟨h1, h2, by simpa using hc⟩
  · rw [hcount]
    refine pure_wpAny (K := _) hs hQ U (Array.replicate (U.length + ((body U C (numbered 0 l)).length + (tail C (numbered 0 l)).length)) false) a _ (by rw [← hcount]; exact hpure) (by simp [← hcount]) (fun k o ho hk => by
      exfalso
      rcases Nat.lt_or_ge k (U.length + ((body U C (numbered 0 l)).length + (tail C (numbered 0 l)).length)) with h' | h'
      · simp [h'] at hk
      · have := (Array.getElem?_eq_some_iff.1 ho).1; omega) (by have h' := Pures.toOps (fun p hp => by simp only [tail, List.mem_filter] at hp; rw [toA]; exact (nm p.1 p.2).1 hp.1) h; rw [hU] at h'; exact h') fun listed a' hsz hcl hl hlex => ?_
    have hl' : ∀ k, k < l.toArray.size → listed.getD k true = U.contains k := fun k hk => by
      have hk' : k < U.length + ((body U C (numbered 0 l)).length + (tail C (numbered 0 l)).length) := by rw [← hcount]; exact hk
      rw [hl k]; simp [hk']
    refine lex_tail htr hst hok (tail C (numbered 0 l)) ?_ (fun _ _ h => h) _ _ listed [] a' _ rfl hsz ((numbered_pairwise l 0).filter _) ?_ (fun k o => ?_) hcl (hrf _) (fun p hp => by cases hp) hlex
    · have hf : (tail C (numbered 0 l)).Pairwise (fun p q => p.1 < q.1) := (numbered_pairwise l 0).filter _
      refine hf.imp_of_mem ?_
      · intro p q hp hq hlt
        simp only [tail, List.mem_filter] at hp hq
        have := hpl' q.1 (lt ((nm q.1 q.2).1 hq.1))
        simp only [hq.2, if_true, Bool.and_eq_true, List.all_eq_true, List.mem_range] at this
        have := this.2 p.1 (lt ((nm p.1 p.2).1 hp.1))
        rw [if_neg (by rw [hcs p.1 p.2 hp.1 hp.2]; simp), if_pos hp.2] at this
        simp only [Bool.or_eq_true, decide_eq_true_eq] at this
        exact ⟨hlt, this.resolve_left (by omega)⟩
    · intro p hp q hq
      simp only [body, tail, List.mem_filter, Bool.and_eq_true, Bool.not_eq_true'] at hp hq
      have := hpl' q.1 (lt ((nm q.1 q.2).1 hq.1))
      simp only [hq.2, if_true, Bool.and_eq_true, List.all_eq_true, List.mem_range] at this
      have := this.2 p.1 (lt ((nm p.1 p.2).1 hp.1))
      rw [if_neg (by rw [hp.2.1]; simp), if_neg (by rw [hp.2.2]; simp)] at this
      exact ⟨fun e => by rw [e] at hp; rw [hp.2.2] at hq; exact absurd hq.2 (by simp), this⟩
    · rw [split, toA]
      constructor
      · rintro ⟨h1, h2⟩; exact ⟨h1, by rw [hl' k (lt h1)]; exact h2⟩
      · rintro ⟨h1, h2⟩; exact ⟨h1, by rw [hl' k (by simpa using (List.getElem?_eq_some_iff.1 h1).1)] at h2; exact h2⟩
end
theorem hid {p : Prop} (h : p) : Hid p := h
/-- the relation of later worlds: what was there is there unchanged. -/
def Later (w w' : World) : Prop := Below w.heap.size w w'
theorem Later.refl (w : World) : Later w w := Below.refl _ _
theorem Later.trans (a b c : World) (h : Later a b) (k : Later b c) : Later a c := Below.trans h (Below.mono k h.size)
theorem kinds_nil {Rel : World → World → Prop} : ∀ k τ v w w', (fun _ : Nat => (none : Option (Value → World → Prop))) k = some τ → Rel w w' → τ v w → τ v w' := fun _ _ _ _ _ h => by cases h
/-- the kinds, as a list of numbers and what is told of each. -/
def kinds (l : List (Nat × (Value → World → Prop))) : Kinds := fun k => l.lookup k
theorem kinds_mem {l : List (Nat × (Value → World → Prop))} {k : Nat} {τ : Value → World → Prop} (h : kinds l k = some τ) : ∃ n, (n, τ) ∈ l := by
  unfold kinds at h
  induction l with
  | nil => cases h
  | cons x l ih =>
    obtain ⟨n, σ⟩ := x
    rw [List.lookup_cons] at h
    split at h
    · cases h; exact ⟨n, List.mem_cons_self⟩
    · obtain ⟨m, hm⟩ := ih h; exact ⟨m, List.mem_cons_of_mem _ hm⟩
theorem kinds_still {Rel : World → World → Prop} {l : List (Nat × (Value → World → Prop))} (h : ∀ p ∈ l, ∀ v w w', Rel w w' → p.2 v w → p.2 v w') : ∀ k τ v w w', kinds l k = some τ → Rel w w' → τ v w → τ v w' :=
  fun _ _ v w w' hk hR hv => let ⟨_, hm⟩ := kinds_mem hk; h _ hm v w w' hR hv
theorem Later.alloc (w : World) (o : Obj) : Later w (w.alloc o) := (Below.refl _ _).alloc (Nat.le_refl _) o
theorem cell_lt {w : World} {p : Addr} {v : Value} (h : w.cell? p = some v) : p.block < w.heap.size := by
  rcases Nat.lt_or_ge p.block w.heap.size with h' | h'
  · exact h'
  · simp [World.cell?, Array.getElem?_eq_none h'] at h
theorem Later.cell {w w' : World} (h : Later w w') {p : Addr} {v : Value} (hc : w.cell? p = some v) : w'.cell? p = some v := by
  rw [Below.cell h (cell_lt hc)]; exact hc
theorem Later.obj {w w' : World} (h : Later w w') {b : Nat} {o : Obj} (hc : w.heap[b]? = some o) : w'.heap[b]? = some o := by
  rw [h.block b (Array.getElem?_eq_some_iff.1 hc).1]; exact hc
theorem Later.below {B : Nat} {a w w' : World} (h : Below B a w) (k : Later w w') (hB : B ≤ w.heap.size) : Below B a w' := h.trans (k.mono hB)
theorem Later.of_alloc {w w' : World} {o : Obj} (h : Later (w.alloc o) w') : Later w w' := Later.trans _ _ _ (Later.alloc w o) h
theorem Later.drew (w : World) : Later w w.drew := (Below.refl _ _).drew
theorem Later.drewN (w : World) (n : Nat) : Later w (w.drewN n) := ⟨rfl, rfl, rfl, Nat.le_refl _, fun _ _ => rfl⟩
theorem Later.of_drew {w w' : World} (h : Later w.drew w') : Later w w' := Later.trans _ _ _ (Later.drew w) h
theorem Later.of_drewN {w w' : World} {n : Nat} (h : Later (w.drewN n) w') : Later w w' := Later.trans _ _ _ (Later.drewN w n) h
theorem Later.alloc' {w w' : World} (h : Later w w') (o : Obj) : Later w (w'.alloc o) := Later.trans _ _ _ h (Later.alloc w' o)
theorem Later.drew' {w w' : World} (h : Later w w') : Later w w'.drew := Later.trans _ _ _ h (Later.drew w')
theorem Later.drewN' {w w' : World} (h : Later w w') (n : Nat) : Later w (w'.drewN n) := Later.trans _ _ _ h (Later.drewN w' n)
theorem Later.new {w w' : World} (h : Later w w') {p : Addr} (hp : w.heap.size ≤ p.block) (v : Value) : Later w (w'.setCell p v) := Below.setCell h hp v
theorem obj_new (w : World) (o : Obj) : (w.alloc o).heap[w.heap.size]? = some o := by
  show (w.heap.push o)[w.heap.size]? = _
  simp
theorem cell_obj {w : World} {b i : Nat} {c : Array Value} {t : TypeId} {f : Nat × Nat} {v : Value} (h : w.heap[b]? = some (.cells c t f)) (hv : c[i]? = some v) : w.cell? ⟨b, i, none⟩ = some v := by
  simp [World.cell?, h, hv]
theorem Later.cells {w w' : World} (h : Later w w') : ∀ b o, b < w.heap.size → w'.cell? ⟨b, o, none⟩ = w.cell? ⟨b, o, none⟩ := fun _ _ hb => Below.cell h (p := ⟨_, _, none⟩) hb
theorem Later.frozens {w w' : World} (h : Later w w') : ∀ b o, b < w.heap.size → w'.frozen? ⟨b, o, none⟩ = w.frozen? ⟨b, o, none⟩ := fun _ _ hb => Below.frozen h (p := ⟨_, _, none⟩) hb
end Go.Proofs.YtgcnchmnciihnaaGreatDoor
