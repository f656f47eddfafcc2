/-
  PROVED HERE: append of elements that stand in a block of their own; what it leaves as it was. No program of its own.
-/
import Derived.Test.YtbabfibmopfghaaGreatDoorOwn
import Derived.OwnWalk
namespace Go.Proofs.YtbabfibmopfghaaGreatDoor
set_option linter.unusedSimpArgs false
set_option linter.unusedVariables false
open Go Go.RowKit

/-- a type of elements: its size in cells, in bytes. -/
structure ElemInfo (P : Program) (e : TypeId) (size bytes : Nat) : Prop where
  ex : ∃ i z, P.info? e = some i ∧ i.zero = some z ∧ i.size = size ∧ i.bytes = bytes ∧ z.cells.size = size ∧ 0 < size
theorem ElemInfo.of {P : Program} {e : TypeId} {z : Value} {size bytes : Nat} (h : (P.info? e).map (fun i => (i.zero, i.size, i.bytes)) = some (some z, size, bytes)) (hz : z.cells.size = size) (h0 : 0 < size) : ElemInfo P e size bytes := by
  obtain ⟨i, h1, h2, h3, h4⟩ := info_parts h
  exact ⟨i, z, h1, h2, h3, h4, hz, h0⟩

theorem obj_at {w : World} {o : Obj} {b : Nat} (h : b = w.heap.size) : (w.alloc o).heap[b]? = some o := h ▸ obj_new w o
section
variable {P : Program} {w : World}
theorem wpList_append_obj {ops : Array Oper} {rest : List Oper} {o : Oper} {a : Act} {Q : Exit → Act → World → Prop} (hgd : o.guard = none) (s x : Operand) (t : TypeId)
    (ho : o.op = .call { callee := .builtin .append, args := #[s, x], argTypes := #[t, t] })
    (e : TypeId) (size bytes : Nat) (ht : P.underlying t = some (.slice e)) (hI : ElemInfo P e size bytes)
    {base : Nat} {v : Value} {n : Nat} {xs : List Value} (hs : a.eval s = v) (hown : w.ownsRow base e size v n xs)
    {b m c : Nat} {news : List Value} {T : TypeId} {f : Nat × Nat} (hx : a.eval x = .slice (some ⟨b, 0, none⟩) m c) (hsrc : w.heap[b]? = some (.cells news.toArray T f)) (hl : news.length = m * size) (h1 : ∀ u ∈ news, u.oneCell' = true)
    (hbytes : (n + m) * bytes ≤ 140737488355328) (h63 : n + m ≤ maxLen) (hbase : base ≤ w.heap.size)
    (h : ∀ v' w', Appended w base e size v (n + m) (xs ++ news) v' w' → wpList P ops Q rest (a.put o.dst v') w') : wpList P ops Q (o :: rest) a w := by
  obtain ⟨i, z, hi, hz, h3, h4, h5, h6⟩ := hI.ex
  refine wpList_append w hgd s x t ho base e i z size bytes ht hi hz h3 h4 h5 h6 v n xs hs hown ⟨b, 0, none⟩ m c news hx hl ?_ h1 h63 hbytes hbase h
  intro j u hu
  rw [add_none rfl]
  exact cell_obj hsrc (by simpa using hu)

theorem wpList_make0 {ops : Array Oper} {rest : List Oper} {o : Oper} {a : Act} {Q : Exit → Act → World → Prop} (hgd : o.guard = none) (l c : Operand) (t : TypeId) (hop : o.op = Op.makeSlice t l c)
    (base : Nat) (e : TypeId) (size bytes : Nat) (ht : P.underlying t = some (.slice e)) (hI : ElemInfo P e size bytes) {kl kc : IntKind} {C : Int} {n : Nat} (hl : a.eval l = .int kl 0) (hc : a.eval c = .int kc C) (hC : C = (n : Int))
    (b2 : bytes * n ≤ 281474976710656) (b3 : n ≤ maxLen) (b4 : base ≤ w.heap.size)
    (hK : ∀ w', w'.ownsRow base e size (.slice (some ⟨w.heap.size, 0, none⟩) 0 n) 0 [] → w.grownBy w' none → wpList P ops Q rest (a.put o.dst (.slice (some ⟨w.heap.size, 0, none⟩) 0 n)) w') : wpList P ops Q (o :: rest) a w := by
  obtain ⟨i, z, hi, hz, h3, h4, h5, h6⟩ := hI.ex
  exact wpList_make_own w hgd l c t hop base e i z size ht hi hz h3 kl kc C n hl hc hC (by rw [h4]; exact b2) b3 b4 hK
theorem wpList_makeN {ops : Array Oper} {rest : List Oper} {o : Oper} {a : Act} {Q : Exit → Act → World → Prop} (hgd : o.guard = none) (l c : Operand) (t : TypeId) (hop : o.op = Op.makeSlice t l c)
    (base : Nat) (e : TypeId) (z : Value) (size bytes : Nat) (ht : P.underlying t = some (.slice e)) (hI : (P.info? e).map (fun i => (i.zero, i.size, i.bytes)) = some (some z, size, bytes)) {kl kc : IntKind} {L C : Int} {n : Nat} (hl : a.eval l = .int kl L) (hc : a.eval c = .int kc C)
    (hL : L = (n : Int)) (hC : C = (n : Int)) (b2 : bytes * n ≤ 281474976710656) (b3 : n ≤ maxLen) (b4 : base ≤ w.heap.size)
    (hK : ∀ w', w'.ownsRow base e size (.slice (some ⟨w.heap.size, 0, none⟩) n n) n (madeCells z.cells (n * size)).toList → w.grownBy w' none → wpList P ops Q rest (a.put o.dst (.slice (some ⟨w.heap.size, 0, none⟩) n n)) w') : wpList P ops Q (o :: rest) a w := by
  obtain ⟨i, hi, hz, h3, h4⟩ := info_parts hI
  exact wpList_make_full w hgd l c t hop base e i z size ht hi hz h3 kl kc L C n hl hc hL hC (by rw [h4]; exact b2) b3 b4 hK
theorem grown_none {w' : World} (h : w.grownBy w' none) : Later w w' := Keeps.later ((Keeps.of_grown h).mono fun _ _ _ => by simp)

theorem Appended.keeps {B s n : Nat} {e : TypeId} {xs : List Value} {v v' : Value} {w' : World} (hA : Appended w B e s v n xs v' w') : Keeps (fun b => some b ≠ v.ownBlock) w w' := Keeps.of_grown hA.grown
theorem Appended.low {B s n m : Nat} {e : TypeId} {xs ys : List Value} {v v' : Value} {w' : World} (hA : Appended w B e s v n xs v' w') (ho : w.ownsRow B e s v m ys) : Keeps (fun b => b < B) w w' :=
  hA.keeps.mono fun k _ hk he => by have := (ho.lt k he.symm).1; omega
theorem Appended.later {B s n m : Nat} {e : TypeId} {xs ys : List Value} {v v' : Value} {w0 w' : World} (hA : Appended w B e s v n xs v' w') (ho : w.ownsRow B e s v m ys) (hL : Later w0 w) (hB : w0.heap.size ≤ B) : Later w0 w' :=
  ((hL.keeps (fun b => b < B)).trans (hA.low ho)).mono (S' := fun _ => True) (fun k hk _ => by omega) |>.later
end
/-- what is not a slice's own block is there still. -/
theorem Appended.obj {w w' : World} {B s n : Nat} {e : TypeId} {xs : List Value} {v v' : Value} (hA : Appended w B e s v n xs v' w') {b : Nat} {o : Obj} (h : w.heap[b]? = some o) (hb : some b ≠ v.ownBlock) : w'.heap[b]? = some o := hA.keeps.obj hb h

theorem own_ne {w : World} {B s n b : Nat} {e t : TypeId} {v : Value} {xs : List Value} {cs : Array Value} {f : Nat × Nat} (h : w.ownsRow B e s v n xs) (hb : w.heap[b]? = some (.cells cs t f)) (hne : e ≠ t) : v.ownBlock ≠ some b := by
  intro he
  rcases h.2 with ⟨rfl, _⟩ | ⟨g, cap, cur, rfl, _, hg, _⟩
  · cases he
  · obtain rfl : g = b := by simpa [Value.ownBlock] using he
    rw [hg] at hb
    injection hb with hb
    injection hb with _ hb
    exact hne hb
theorem own_set {w : World} {B s n : Nat} {e : TypeId} {v : Value} {xs : List Value} (h : w.ownsRow B e s v n xs) {p : Addr} (hp : v.ownBlock ≠ some p.block) (u : Value) : (w.setCell p u).ownsRow B e s v n xs := by
  refine ⟨h.1, h.2.imp id fun ⟨g, cap, cur, h1, h2, h3, h4⟩ => ⟨g, cap, cur, h1, h2, ?_, h4⟩⟩
  rw [Below.heap_setCell _ _ _ _ (by rintro rfl; exact hp (by rw [h1]; rfl))]
  exact h3

/-- a world in which but the cells of 'S' are as they were (those of 'S' are there still). -/
structure Scrib (S : Nat → Nat → Prop) (w w' : World) : Prop where
  os : w'.os = w.os
  tape : w'.tape = w.tape
  output : w'.output = w.output
  size : w.heap.size ≤ w'.heap.size
  block : ∀ b, b < w.heap.size → (∀ o, ¬ S b o) → w'.heap[b]? = w.heap[b]?
  cell : ∀ b o v, w.cell? ⟨b, o, none⟩ = some v → ∃ v', w'.cell? ⟨b, o, none⟩ = some v' ∧ (¬ S b o → v' = v)
  free : ∀ b o, b < w.heap.size → w.frozen? ⟨b, o, none⟩ = false → w'.frozen? ⟨b, o, none⟩ = false
theorem Scrib.refl (S : Nat → Nat → Prop) (w : World) : Scrib S w w := ⟨rfl, rfl, rfl, Nat.le_refl _, fun _ _ _ => rfl, fun _ _ v h => ⟨v, h, fun _ => rfl⟩, fun _ _ _ h => h⟩
theorem Scrib.trans {S : Nat → Nat → Prop} {a b c : World} (h : Scrib S a b) (k : Scrib S b c) : Scrib S a c :=
  ⟨k.os.trans h.os, k.tape.trans h.tape, k.output.trans h.output, Nat.le_trans h.size k.size, fun i hi hs => (k.block i (Nat.lt_of_lt_of_le hi h.size) hs).trans (h.block i hi hs),
    fun i o v hv => (let ⟨v1, h1, e1⟩ := h.cell i o v hv; let ⟨v2, h2, e2⟩ := k.cell i o v1 h1; ⟨v2, h2, fun hs => (e2 hs).trans (e1 hs)⟩), fun i o hi hf => k.free i o (Nat.lt_of_lt_of_le hi h.size) (h.free i o hi hf)⟩
theorem Scrib.of_later {S : Nat → Nat → Prop} {w w' : World} (h : Later w w') : Scrib S w w' :=
  ⟨h.os, h.tape, h.output, h.size, fun i hi _ => h.block i hi, fun _ _ v hv => ⟨v, h.cell hv, fun _ => rfl⟩, fun b o hb hf => by rw [h.frozens b o hb]; exact hf⟩
theorem Scrib.mono {S S' : Nat → Nat → Prop} {w w' : World} (h : Scrib S w w') (hs : ∀ b o, S b o → S' b o) : Scrib S' w w' :=
  ⟨h.os, h.tape, h.output, h.size, fun i hi hn => h.block i hi fun o ho => hn o (hs _ _ ho), fun b o v hv => (let ⟨v', h1, h2⟩ := h.cell b o v hv; ⟨v', h1, fun hn => h2 fun ho => hn (hs _ _ ho)⟩), h.free⟩
theorem Scrib.keeps {S : Nat → Nat → Prop} {w w' : World} (h : Scrib S w w') : Keeps (fun b => ∀ o, ¬ S b o) w w' := ⟨h.os, h.tape, h.output, h.size, fun k hk hs => h.block k hk hs⟩
theorem Scrib.same {S : Nat → Nat → Prop} {w w' : World} (h : Scrib S w w') {b o : Nat} {v : Value} (hv : w.cell? ⟨b, o, none⟩ = some v) (hs : ¬ S b o) : w'.cell? ⟨b, o, none⟩ = some v := by
  obtain ⟨v', h1, h2⟩ := h.cell b o v hv
  rw [h1, h2 hs]
theorem Scrib.there {S : Nat → Nat → Prop} {w w' : World} (h : Scrib S w w') {b o : Nat} {v : Value} (hv : w.cell? ⟨b, o, none⟩ = some v) : ∃ v', w'.cell? ⟨b, o, none⟩ = some v' := let ⟨v', h1, _⟩ := h.cell b o v hv; ⟨v', h1⟩
theorem cell_set_other {w : World} {p q : Addr} {x v : Value} (h : w.cell? q = some v) (hpq : p.block ≠ q.block ∨ (q.spot = none ∧ p.spot = none ∧ p.off ≠ q.off)) : (w.setCell p x).cell? q = some v := by
  obtain ⟨v', hv'⟩ := cell?_setCell_some (w := w) (p := p) (x := x) (q := q) (v := v) h
  rw [hv']
  obtain ⟨b, i, s⟩ := p
  obtain ⟨b', i', s'⟩ := q
  rcases hpq with hb | ⟨hs, hs', hi⟩
  · have hh := Below.heap_setCell w ⟨b, i, s⟩ x b' (fun e => hb e.symm)
    have := World.cell?_of_block (w := w) (w' := w.setCell ⟨b, i, s⟩ x) (a := ⟨b', i', s'⟩) hh
    rw [this, h] at hv'
    exact hv'.symm
  · simp only at hs hs' hi
    subst hs hs'
    by_cases hb : b = b'
    · subst hb
      unfold World.cell? at h hv'
      cases hw : w.heap[b]? with
      | none => simp [hw] at h
      | some o =>
        cases o with
        | cells c t f =>
          have h2 := obj_setCell (i := i) hw x
          simp only [hw] at h
          simp only [h2] at hv'
          simp_all
        | _ => simp_all
    · have hh := Below.heap_setCell w ⟨b, i, none⟩ x b' (fun e => hb e.symm)
      have := World.cell?_of_block (w := w) (w' := w.setCell ⟨b, i, none⟩ x) (a := ⟨b', i', none⟩) hh
      rw [this, h] at hv'
      exact hv'.symm
theorem Scrib.set {S : Nat → Nat → Prop} {a w : World} (h : Scrib S a w) {b o : Nat} (hs : S b o) (v : Value) : Scrib S a (w.setCell ⟨b, o, none⟩ v) := by
  refine h.trans ⟨rfl, rfl, rfl, by simp [World.setCell], fun k hk hn => Below.heap_setCell w _ v k (by rintro rfl; exact hn _ hs), fun b' o' u hu => ?_, fun b' o' hb hf => ?_⟩
  · obtain ⟨v', hv'⟩ := cell?_setCell_some (w := w) (p := ⟨b, o, none⟩) (x := v) (q := ⟨b', o', none⟩) (v := u) hu
    refine ⟨v', hv', fun hn => ?_⟩
    have := cell_set_other (p := ⟨b, o, none⟩) (x := v) hu (by
      by_cases hb : b = b'
      · exact .inr ⟨rfl, rfl, fun he => hn (by subst hb; simp only at he; subst he; exact hs)⟩
      · exact .inl hb)
    rw [this] at hv'
    exact (Option.some.inj hv').symm
  · rw [World.frozen?_setCell]; exact hf
end Go.Proofs.YtbabfibmopfghaaGreatDoor
