/-
  PROVED HERE: the contract of wire.NewReader.
  PROVED HERE: the contract of wire.Reader.End.
  PROVED HERE: in plain Lean: the cells of a piece, read one by one and put; what read comes to. The contract of wire.Reader.Text, whatever the reader. Bytes that a reader reads stand in no store.
  PROVED HERE: a cut round a block that a loop is left from in more than one place. No program of its own.
  PROVED HERE: '[]byte(s)' in a walk: bytes of one's own, with the room that the slice has. No program of its own.
  PROVED HERE: in plain Lean: a sum tells each change of one byte; what is sealed is opened. No program of its own.
-/
import Derived.Test.YtgcnchmnciihnaaGreatDoorGOrdTotal
import Derived.Test.YtgcnchmnciihnaaGreatDoorGU8
import Derived.Test.YtgcnchmnciihnaaGreatDoorGStPut2
import Derived.Test.YtgcnchmnciihnaaGreatDoorGWirePlain
import Derived.Test.YtgcnchmnciihnaaGreatDoorGReaderKit
import Derived.Test.YtgcnchmnciihnaaGreatDoorGPutLaws
import Derived.Laws.AppendOwn
namespace Go.Proofs.YtgcnchmnciihnaaGreatDoor
set_option linter.unusedSimpArgs false
set_option linter.unusedVariables false
open Go.RowKit

def RNewTo (w : World) (l : List UInt8) (e : Ending) (w' : World) : Prop := ∃ R, e = .returned (.pointer (some ⟨R, 0, none⟩)) ∧ RdB w' R false l ∧ w.heap.size ≤ R ∧ Later w w'
theorem read_new (v : Value) (l : List UInt8) (w : World) (h : IsBytes w v l) : Calls Tryz.prog 51 #[v] w (RNewTo w l) := by
  have hb := SliceOf.blt h
  have HB := hid hb
  obtain ⟨a, c, rfl, -⟩ := hb
  clear h
  go_enter Tryz.func51, Tryz.ntmps51
  go_wp2_with fail
  go_ret
  exact ⟨_, rfl, ⟨_, obj_new _ _, HB.out.bytes_later (Later.alloc _ _)⟩, Nat.le_refl _, Later.alloc _ _⟩
end Go.Proofs.YtgcnchmnciihnaaGreatDoor
namespace Go.Proofs.YtgcnchmnciihnaaGreatDoor
set_option linter.unusedSimpArgs false
set_option linter.unusedVariables false
open Go.RowKit

def REndTo (w : World) (bad : Bool) (l : List UInt8) (e : Ending) (w' : World) : Prop := e = .returned (.bool (!bad && l.isEmpty)) ∧ w' = w
theorem read_end (R : Nat) (bad : Bool) (l : List UInt8) (w : World) (h : RdB w R bad l) : Calls Tryz.prog 56 #[.pointer (some ⟨R, 0, none⟩)] w (REndTo w bad l) := by
  obtain ⟨v, ho, a, c, rfl, hlc, hcm, -⟩ := h
  have r0 := cell_obj (i := 0) ho rfl
  have r1 := cell_obj (i := 1) ho rfl
  clear ho
  have hlen : l.length ≤ 9223372036854775807 := by unfold maxLen at hcm; omega
  cases bad with
  | true =>
    go_enter Tryz.func56, Tryz.ntmps56
    go_wp2_with fail
    go_ret
    exact ⟨rfl, rfl⟩
  | false =>
    cases l with
    | nil =>
      go_enter Tryz.func56, Tryz.ntmps56
      go_wp2_with fail
      go_ret
      exact ⟨rfl, rfl⟩
    | cons x l =>
      have hne : ¬ (((x :: l).length : Nat) : Int) = 0 := by simp only [List.length_cons]; omega
      generalize hL : (x :: l).length = L at *
      go_enter Tryz.func56, Tryz.ntmps56
      go_wp2_with fail
      go_ret
      exact ⟨ret_bool (by simp only [List.isEmpty_cons, Bool.and_false]; exact beq_false_of_ne hne), rfl⟩

end Go.Proofs.YtgcnchmnciihnaaGreatDoor
namespace Go.Proofs.YtgcnchmnciihnaaGreatDoor
set_option linter.unusedSimpArgs false
set_option linter.unusedVariables false
open Go Go.RowKit

theorem valid_ok {x : Val} (hv : validV x = true) (hn : -9223372036854775808 ≤ x.n ∧ x.n ≤ 9223372036854775807) : ValOk x := by
  obtain ⟨k, n, t⟩ := x
  have hl : ∀ {t : ByteArray}, (str t).isEmpty = true → t.size = 0 := fun {t} h => by
    rw [str_none (List.isEmpty_iff.1 h)]; rfl
  unfold validV at hv
  simp only at hv hn
  have hw : ∀ k : Int, 0 ≤ k → k ≤ 3 → (Lit.int .i64 k).wf = true := fun k h1 h2 => by simp [Lit.wf, IntKind.min, IntKind.max, IntKind.bits, IntKind.signed]; omega
  have hwn : (Lit.int .i64 n).wf = true := by simpa [Lit.wf, IntKind.min, IntKind.max, IntKind.bits, IntKind.signed] using hn
  split at hv
  · rename_i h; simp only [Bool.and_eq_true] at hv; exact ⟨hw k (by omega) (by omega), hwn, by have := hl hv.2; unfold maxLen; simp only; omega⟩
  · split at hv
    · rename_i h; exact ⟨hw k (by omega) (by omega), hwn, by have := hl hv; unfold maxLen; simp only; omega⟩
    · split at hv
      · rename_i h; simp only [Bool.and_eq_true] at hv; exact ⟨hw k (by omega) (by omega), hwn, by have := hl hv.1; unfold maxLen; simp only; omega⟩
      · split at hv
        · rename_i h; simp only [Bool.and_eq_true, decide_eq_true_eq] at hv; exact ⟨hw k (by omega) (by omega), hwn, by unfold maxLen; simp only; omega⟩
        · cases hv
theorem dFill_n {k : Int} {l r : List UInt8} {x : Val} (h : dFill k l = some (x, r)) : -9223372036854775808 ≤ x.n ∧ x.n ≤ 9223372036854775807 := by
  unfold dFill at h
  split at h
  · obtain ⟨p, h1, h2⟩ := Option.map_eq_some_iff.1 h
    have := (dInt_sound (n := p.1) (r := p.2) h1).2
    simp only [Prod.mk.injEq] at h2
    rw [← h2.1]; exact this
  · split at h
    · obtain ⟨p, h1, h2⟩ := Option.map_eq_some_iff.1 h
      simp only [Prod.mk.injEq] at h2
      rw [← h2.1]; simp
    · simp only [Option.some.injEq, Prod.mk.injEq] at h
      rw [← h.1]; simp
theorem dVal_ok {l r : List UInt8} {x : Val} (h : dVal l = some (x, r)) : ValOk x := by
  cases l with
  | nil => cases h
  | cons c l =>
    simp only [dVal] at h
    cases hf : dFill c.toNat l with
    | none => rw [hf] at h; cases h
    | some p =>
      rw [hf] at h
      simp only at h
      split at h
      · rename_i hv
        simp only [Option.some.injEq, Prod.mk.injEq] at h
        rw [← h.1]
        exact valid_ok hv (dFill_n (x := p.1) (r := p.2) hf)
      · cases h
theorem dMany_ok : ∀ {n : Nat} {l r : List UInt8} {ys : List Val}, dMany dVal n l = some (ys, r) → ∀ x ∈ ys, ValOk x
  | 0, l, r, ys, h => by
    simp only [dMany, Option.some.injEq, Prod.mk.injEq] at h
    intro x hx
    rw [← h.1] at hx; cases hx
  | n + 1, l, r, ys, h => by
    unfold dMany at h
    cases h1 : dVal l with
    | none => rw [h1] at h; cases h
    | some p =>
      obtain ⟨y, r1⟩ := p
      rw [h1] at h
      simp only at h
      obtain ⟨q, h2, h3⟩ := Option.map_eq_some_iff.1 h
      simp only [Prod.mk.injEq] at h3
      intro x hx
      rw [← h3.1] at hx
      rcases List.mem_cons.1 hx with rfl | hx
      · exact dVal_ok h1
      · exact dMany_ok (ys := q.1) (r := q.2) h2 x hx
def dCell (l : List UInt8) : Option (CellP × List UInt8) :=
  match dInt l with
  | none => none
  | some (k, r) => if k < 0 then none else match dMany dVal k.toNat r with
    | none => none
    | some (ys, r1) => match dInt r1 with
      | none => none
      | some (a, r2) => match dInt r2 with
        | none => none
        | some (b, r3) => match dText r3 with
          | none => none
          | some (t, r4) => some (⟨ys, (a, b), t.data.toList⟩, r4)
theorem dCell_len (l : List UInt8) (x : CellP) (r : List UInt8) (h : dCell l = some (x, r)) : r.length < l.length := by
  unfold dCell at h
  cases h1 : dInt l with
  | none => rw [h1] at h; cases h
  | some p =>
    obtain ⟨k, r0⟩ := p
    rw [h1] at h
    simp only at h
    split at h
    · cases h
    · cases h2 : dMany dVal k.toNat r0 with
      | none => rw [h2] at h; cases h
      | some p =>
        obtain ⟨ys, r1⟩ := p
        rw [h2] at h
        simp only at h
        cases h3 : dInt r1 with
        | none => rw [h3] at h; cases h
        | some p =>
          obtain ⟨a, r2⟩ := p
          rw [h3] at h
          simp only at h
          cases h4 : dInt r2 with
          | none => rw [h4] at h; cases h
          | some p =>
            obtain ⟨b, r3⟩ := p
            rw [h4] at h
            simp only at h
            cases h5 : dText r3 with
            | none => rw [h5] at h; cases h
            | some p =>
              obtain ⟨t, r4⟩ := p
              rw [h5] at h
              simp only [Option.some.injEq, Prod.mk.injEq] at h
              have a1 := dInt_len h1
              have a2 := (dMany_len dVal_len _ _ _ _ h2).1
              have a3 := dInt_len h3
              have a4 := dInt_len h4
              have a5 := dText_len h5
              rw [← h.2]; omega
theorem dCell_none1 {l : List UInt8} (h : dInt l = none) : dCell l = none := by unfold dCell; rw [h]
theorem dCell_none2 {l r rest : List UInt8} {k : Int} {j : Nat} {ys : List Val} (h : dInt l = some (k, r)) (h3 : dMany dVal j r = some (ys, rest)) (h4 : dVal rest = none) (hj : 0 ≤ k → (j : Int) < k) : dCell l = none := by
  unfold dCell
  rw [h]; simp only
  split
  · rfl
  · rename_i hk
    have := hj (by omega)
    rw [dMany_stop h3 h4 (m := k.toNat) (by omega)]
section
variable {l r r1 : List UInt8} {j : Nat} {ys : List Val} (h : dInt l = some ((j : Int), r)) (h3 : dMany dVal j r = some (ys, r1))
include h h3
theorem dCell_none3 (h4 : dInt r1 = none) : dCell l = none := by
  unfold dCell
  rw [h]; simp only
  rw [if_neg (by omega), Int.toNat_natCast, h3]; simp only
  rw [h4]
theorem dCell_none4 {a : Int} {r2 : List UInt8} (h4 : dInt r1 = some (a, r2)) (h5 : dInt r2 = none) : dCell l = none := by
  unfold dCell
  rw [h]; simp only
  rw [if_neg (by omega), Int.toNat_natCast, h3]; simp only
  rw [h4]; simp only
  rw [h5]
theorem dCell_none5 {a b : Int} {r2 r3 : List UInt8} (h4 : dInt r1 = some (a, r2)) (h5 : dInt r2 = some (b, r3)) (h6 : dText r3 = none) : dCell l = none := by
  unfold dCell
  rw [h]; simp only
  rw [if_neg (by omega), Int.toNat_natCast, h3]; simp only
  rw [h4]; simp only
  rw [h5]; simp only
  rw [h6]
theorem dCell_some {a b : Int} {r2 r3 r4 : List UInt8} {t : ByteArray} (h4 : dInt r1 = some (a, r2)) (h5 : dInt r2 = some (b, r3)) (h6 : dText r3 = some (t, r4)) : dCell l = some (⟨ys, (a, b), t.data.toList⟩, r4) := by
  unfold dCell
  rw [h]; simp only
  rw [if_neg (by omega), Int.toNat_natCast, h3]; simp only
  rw [h4]; simp only
  rw [h5]; simp only
  rw [h6]
end

/-- may this cell come next. -/
def afterC (last : Option CellP) (c : CellP) : Bool := match last with
  | none => true
  | some d => decide (cmpC d c < 0)
def okC (lo hi g : Int) (L : List CellP) (last : Option CellP) (c : CellP) : Bool := decide ((groupK c.key : Int) = g) && (afterC last c && decide (putErr lo hi L c = 0))
/-- n cells read and put, one by one. -/
def readN (lo hi g : Int) : Nat → List CellP → Option CellP → List UInt8 → Option (List CellP × List UInt8)
  | 0, L, _, l => some (L, l)
  | n + 1, L, last, l => match dCell l with
    | none => none
    | some (c, r) => if okC lo hi g L last c then readN lo hi g n (insC c L) (some c) r else none
def readP (lo hi g : Int) (L : List CellP) (body : List UInt8) : Option (List CellP) :=
  match dInt body with
  | none => none
  | some (n, r) => if n < 0 then none else match readN lo hi g n.toNat L none r with
    | none => none
    | some (L', r') => if r' = [] then some L' else none
/-- what read comes to: the error, and else the cells. -/
def readE (lo hi g : Int) (L : List CellP) (l : List UInt8) : Int × List CellP :=
  if (openB l 0).2.2 ≠ 0 then ((openB l 0).2.2, L)
  else match readP lo hi g L (openB l 0).1 with
    | none => (7, L)
    | some L' => if (openB l 0).2.1 = l.length then (0, L') else (7, L)
section
variable {lo hi g : Int} {L : List CellP}
theorem readN_none {n : Nat} {last : Option CellP} {l : List UInt8} (h : dCell l = none) : readN lo hi g (n + 1) L last l = none := by unfold readN; rw [h]
theorem readN_bad {n : Nat} {last : Option CellP} {l r : List UInt8} {c : CellP} (h : dCell l = some (c, r)) (hb : okC lo hi g L last c = false) : readN lo hi g (n + 1) L last l = none := by
  unfold readN; rw [h]; simp only; rw [hb]; rfl
theorem readN_ok {n : Nat} {last : Option CellP} {l r : List UInt8} {c : CellP} (h : dCell l = some (c, r)) (hb : okC lo hi g L last c = true) : readN lo hi g (n + 1) L last l = readN lo hi g n (insC c L) (some c) r := by
  conv => lhs; unfold readN
  rw [h]; simp only; rw [hb]; rfl
theorem readP_none {body r0 rest : List UInt8} {n : Int} {j : Nat} {Lx : List CellP} {last : Option CellP} (hd : dInt body = some (n, r0)) (hg : ∀ m, readN lo hi g (j + m) L none r0 = readN lo hi g m Lx last rest) (hj : 0 ≤ n → (j : Int) < n) (hn : ∀ m, readN lo hi g (m + 1) Lx last rest = none) : readP lo hi g L body = none := by
  unfold readP
  rw [hd]; simp only
  split
  · rfl
  · rename_i hk
    have := hj (by omega)
    have e : n.toNat = j + ((n.toNat - j - 1) + 1) := by omega
    rw [e, hg, hn]
theorem readP_some {body r0 rest : List UInt8} {j : Nat} {Lx : List CellP} {last : Option CellP} (hd : dInt body = some ((j : Int), r0)) (hg : ∀ m, readN lo hi g (j + m) L none r0 = readN lo hi g m Lx last rest) : readP lo hi g L body = if rest = [] then some Lx else none := by
  unfold readP
  rw [hd]; simp only
  rw [if_neg (by omega), Int.toNat_natCast]
  have := hg 0
  rw [Nat.add_zero] at this
  rw [this]
  rfl
end

/-- what Text comes to, whatever the reader. -/
def TextAny (w : World) (R : Nat) (bad : Bool) (l : List UInt8) (e : Ending) (w' : World) : Prop :=
  ∃ t bad' r, e = .returned (.string t) ∧ RdB w' R bad' r ∧ Keeps (fun b => b ≠ R) w w' ∧ (bad' = false → bad = false ∧ dText l = some (t, r)) ∧ (bad' = true → t = ⟨#[]⟩ ∧ (bad = true ∨ dText l = none))
set_option maxHeartbeats 1000000 in
theorem read_text_any (R : Nat) (bad : Bool) (l : List UInt8) (w : World) (h : RdB w R bad l) : Calls Tryz.prog 55 #[.pointer (some ⟨R, 0, none⟩)] w (TextAny w R bad l) := by
  cases bad with
  | true =>
    have HR := hid h
    clear h
    go_enter Tryz.func55, Tryz.ntmps55
    go_wp2_with fail
    refine (read_int_bad R l _ HR.out).mono ?_
    rintro e w1 ⟨rfl, hr, hk⟩
    have HR1 := hid hr
    have HK := hid hk
    clear hr hk
    go_wp2_with fail
    refine (take_no R true 0 _ _ HR1.out (.inl rfl)).mono ?_
    rintro e w2 ⟨rfl, hr2, hk2⟩
    have HR2 := hid hr2
    have HK2 := hid (HK.out.trans hk2)
    have hcv := nil_string w2
    clear hr2 hk2
    go_wp2_with fail
    go_ret
    exact ⟨_, true, _, rfl, HR2.out, HK2.out, fun h => (by cases h), fun _ => ⟨rfl, .inl rfl⟩⟩
  | false =>
    refine (read_text R l w h).mono ?_
    rintro e w1 ⟨hk, hT⟩
    cases hd : dText l with
    | none =>
      rw [hd] at hT
      obtain ⟨rfl, r, hr⟩ := hT
      exact ⟨_, true, r, rfl, hr, hk, fun h => (by cases h), fun _ => ⟨rfl, .inr hd⟩⟩
    | some p =>
      obtain ⟨t, r⟩ := p
      rw [hd] at hT
      obtain ⟨rfl, hr⟩ := hT
      exact ⟨t, false, r, rfl, hr, hk, fun _ => ⟨rfl, hd⟩, fun h => (by cases h)⟩
/-- what a store is made of holds no bytes. -/
theorem RdB.put_keep {V : Nat → Prop} {w w' : World} {S M R : Nat} {lo hi : Int} {L : List CellP} {bad : Bool} {l : List UInt8} (h : RdB w R bad l) (hs : StAt V w S M lo hi L) (hS : R ≠ S) (hM : R ≠ M) (k : Keeps (fun b => b ≠ S ∧ b ≠ M) w w') : RdB w' R bad l := by
  obtain ⟨v, h1, h2⟩ := h
  obtain ⟨D, ⟨es, clock, hb, -⟩, -⟩ := hs.map
  refine ⟨v, k.obj ⟨hS, hM⟩ h1, h2.map fun b o x hb' hx => ⟨hb', ?_⟩⟩
  refine ByteAt.kept hx ⟨?_, ?_⟩ k
  · rintro rfl
    have hx' := hx
    unfold ByteAt at hx'
    simp only [World.cell?, hs.obj] at hx'
    have := List.mem_of_getElem? (by simpa using hx')
    simp at this
  · rintro rfl
    have hx' := hx
    unfold ByteAt at hx'
    simp only [World.cell?, hb] at hx'
    cases hx'
end Go.Proofs.YtgcnchmnciihnaaGreatDoor
namespace Go.Proofs.YtgcnchmnciihnaaGreatDoor
set_option linter.unusedSimpArgs false
set_option linter.unusedVariables false
open Go Go.RowKit

section
variable {P : Program} {Q : Exit → Act → World → Prop}
theorem inBlock_mono {id : Nat} {A B : Exit → Act → World → Prop} (h : ∀ e a w, A e a w → B e a w) : ∀ e a w, Exit.inBlock id A e a w → Exit.inBlock id B e a w := by
  intro e a w
  unfold Exit.inBlock
  cases e with
  | exit i =>
    simp only
    split
    · exact h _ _ _
    · exact h _ _ _
  | normal => exact h _ _ _
  | goto l => exact h _ _ _
  | ret => exact h _ _ _
  | panic ch => exact h _ _ _
  | outgrown => exact h _ _ _
theorem wp_block_frame' {s : Code} {id : Nat} {K : Act → World → Prop} {f : List Value} {w : World} (m : List Bool) (R R0 : (Nat → Value) → World → Prop) (hR : R = R0)
    (first : s.wp P (Exit.inBlock id (Exit.then (Meet m f R) Q)) ⟨f.toArray, []⟩ w) (rest : ∀ us wr, R0 us wr → K ⟨(frameOf us m 0 f).toArray, []⟩ wr) : s.wp P (Exit.inBlock id (Exit.then K Q)) ⟨f.toArray, []⟩ w := by
  subst hR
  refine wp_mono first ?_
  refine inBlock_mono ?_
  intro e a' w' hq
  cases e with
  | normal =>
    obtain ⟨l, rfl, h1, h2⟩ := hq
    have := rest (slots l) w' h2
    rwa [h1] at this
  | exit id => exact hq
  | goto l => exact hq
  | ret => exact hq
  | panic ch => exact hq
  | outgrown => exact hq
end
end Go.Proofs.YtgcnchmnciihnaaGreatDoor
namespace Go.Proofs.YtgcnchmnciihnaaGreatDoor
set_option linter.unusedSimpArgs false
set_option linter.unusedVariables false
open Go Go.RowKit

section
variable {P : Program} {w : World}
/-- []byte(s): bytes of one's own. -/
theorem wpList_bytes_new {ops : Array Oper} {rest : List Oper} {o : Oper} {a : Act} {Q : Exit → Act → World → Prop} (hgd : o.guard = none) (x : Operand) (src dst e : TypeId)
    (ho : o.op = .convert src dst x) (hs : P.underlying src = some .string) (hd : P.underlying dst = some (.slice e)) (he : P.underlying e = some (.int .u8)) (s : ByteArray) (hx : a.eval x = .string s) (hm : s.size ≤ maxLen)
    (h : ∀ c w', Later w w' → w'.heap.size = w.heap.size + 1 → BytesIn (fun b => b = w.heap.size) w' (.slice (some ⟨w.heap.size, 0, none⟩) s.size c) s.data.toList → wpList P ops Q rest (a.put o.dst (.slice (some ⟨w.heap.size, 0, none⟩) s.size c)) w') :
    wpList P ops Q (o :: rest) a w := by
  refine wpList_plain hgd fun K hK => ?_
  have hr := run_bytes_of_string (P := P) w src dst e s hs hd he
  unfold Oper.wp execOp
  simp only [ho, hx, Sem.run_bind, Sem.run_pure, Result.andThen_ok, hr]
  have hsz2 : s.data.toList.length = s.size := by rw [Array.length_toList]; rfl
  refine hK _ _ (h _ _ ((Later.drew w).alloc' _) (by simp [World.alloc]) ⟨_, _, by rw [hsz2], by rw [hsz2]; exact grownCap_ge _ _ _ _, grownCap_le_maxLen _ _ _ _ hm, fun h => (by cases h), fun k hk => ⟨w.heap.size, 0, rfl, rfl, ?_⟩⟩)
  have hsz : w.drew.heap.size = w.heap.size := rfl
  unfold ByteAt
  rw [← hsz]
  refine cell_obj (obj_new w.drew _) ?_
  unfold bytesRow
  have hk' : k < s.data.size := by simpa using hk
  rw [Nat.mul_one, Nat.zero_add, Array.getElem?_append_left (by simpa using hk')]
  simp
  exact ⟨s.data[k], by simp [hk'], rfl⟩
end
end Go.Proofs.YtgcnchmnciihnaaGreatDoor
namespace Go.Proofs.YtgcnchmnciihnaaGreatDoor
set_option linter.unusedSimpArgs false
set_option linter.unusedVariables false
open Go Go.RowKit

theorem poly_bit : poly.testBit 31 = true := by decide
theorem crcStep_inj {s t : Nat} (hs : s < 2 ^ 32) (ht : t < 2 ^ 32) (h : crcStep s = crcStep t) : s = t := by
  have mix : ∀ a b : Nat, a < 2 ^ 32 → b < 2 ^ 32 → (a / 2) ^^^ poly ≠ b / 2 := fun a b ha hb e => by
    have h1 := congrArg (fun x => Nat.testBit x 31) e
    simp only [Nat.testBit_xor, poly_bit] at h1
    rw [Nat.testBit_lt_two_pow (x := a / 2) (by omega), Nat.testBit_lt_two_pow (x := b / 2) (by omega)] at h1
    simp at h1
  unfold crcStep at h
  split at h
  · split at h
    · have h2 := congrArg (· ^^^ poly) h
      simp only [Nat.xor_assoc, Nat.xor_self, Nat.xor_zero] at h2
      omega
    · exact absurd h (mix s t hs ht)
  · split at h
    · exact absurd h.symm (mix t s ht hs)
    · omega
theorem stepN_inj {s t : Nat} (hs : s < 2 ^ 32) (ht : t < 2 ^ 32) : ∀ k, stepN s k = stepN t k → s = t
  | 0, h => h
  | k + 1, h => stepN_inj hs ht k (crcStep_inj (stepN_lt hs k) (stepN_lt ht k) h)
theorem xor_inj_left {a b c : Nat} (h : a ^^^ b = a ^^^ c) : b = c := by
  have h2 := congrArg (a ^^^ ·) h
  simpa [← Nat.xor_assoc] using h2
theorem xor_inj_right {a b c : Nat} (h : b ^^^ a = c ^^^ a) : b = c := xor_inj_left (a := a) (by rw [Nat.xor_comm a b, Nat.xor_comm a c]; exact h)
theorem crcByte_state {s t : Nat} (x : UInt8) (hs : s < 2 ^ 32) (ht : t < 2 ^ 32) (h : crcByte s x = crcByte t x) : s = t := by
  have hx : x.toNat < 2 ^ 32 := by have := x.toNat_lt; omega
  rw [← step_byte, ← step_byte] at h
  exact xor_inj_right (stepN_inj (Nat.xor_lt_two_pow hs hx) (Nat.xor_lt_two_pow ht hx) 8 h)
theorem crcByte_byte {s : Nat} {x y : UInt8} (hs : s < 2 ^ 32) (h : crcByte s x = crcByte s y) : x = y := by
  have hx : x.toNat < 2 ^ 32 := by have := x.toNat_lt; omega
  have hy : y.toNat < 2 ^ 32 := by have := y.toNat_lt; omega
  rw [← step_byte, ← step_byte] at h
  exact UInt8.toNat_inj.1 (xor_inj_left (stepN_inj (Nat.xor_lt_two_pow hs hx) (Nat.xor_lt_two_pow hs hy) 8 h))
theorem crcFold_state : ∀ (l : List UInt8) {s t : Nat}, s < 2 ^ 32 → t < 2 ^ 32 → crcFold s l = crcFold t l → s = t
  | [], _, _, _, _, h => h
  | x :: l, _, _, hs, ht, h => crcByte_state x hs ht (crcFold_state l (crcByte_lt x hs) (crcByte_lt x ht) h)
theorem crc_byte (a r : List UInt8) {x y : UInt8} (h : crc (a ++ x :: r) = crc (a ++ y :: r)) : x = y := by
  have h2 := xor_inj_right h
  unfold crcFold at h2
  simp only [List.foldl_append, List.foldl_cons] at h2
  have ha : crcFold 0xffffffff a < 2 ^ 32 := crcFold_lt a (by decide)
  exact crcByte_byte ha (crcFold_state r (crcByte_lt x ha) (crcByte_lt y ha) h2)

theorem be4_append {p r : List UInt8} (h : p.length = 4) : be4 (p ++ r) = be4 p := by
  match p, h with
  | [a, b, c, d], _ => rfl
theorem be4_w4 {n : Nat} (h : n < 2 ^ 32) : be4 (w4 n) = n := ((w4_be4 (l := w4 n) rfl h).1 rfl).symm
/-- a body with four bytes ahead of it that say how long it is, and four more. -/
theorem openB_at (a q body z : List UInt8) (hq : q.length = 4) (hb : body.length ≤ 134217728) :
    openB (a ++ (w4 body.length ++ (q ++ body)) ++ z) a.length = if crc body = be4 q then (body, (a.length : Int) + 8 + body.length, 0) else ([], 0, 8) := by
  have h4 : (w4 body.length).length = 4 := rfl
  have hL : (a ++ (w4 body.length ++ (q ++ body)) ++ z).length = a.length + 8 + body.length + z.length := by simp only [List.length_append, h4, hq]; omega
  have e0 : (a ++ (w4 body.length ++ (q ++ body)) ++ z).drop a.length = w4 body.length ++ (q ++ (body ++ z)) := by simp [List.append_assoc]
  have e4 : (a ++ (w4 body.length ++ (q ++ body)) ++ z).drop (a.length + 4) = q ++ (body ++ z) := by rw [← List.drop_drop, e0]; exact List.drop_left' h4
  have e8 : (a ++ (w4 body.length ++ (q ++ body)) ++ z).drop (a.length + 8) = body ++ z := by rw [show a.length + 8 = a.length + 4 + 4 by omega, ← List.drop_drop, e4]; exact List.drop_left' hq
  have b0 : be4 ((a ++ (w4 body.length ++ (q ++ body)) ++ z).drop a.length) = body.length := by rw [e0, be4_append h4, be4_w4 (by omega)]
  have b4 : be4 ((a ++ (w4 body.length ++ (q ++ body)) ++ z).drop (a.length + 4)) = be4 q := by rw [e4, be4_append hq]
  unfold openB
  rw [if_neg (by rw [hL]; omega)]
  simp only [Int.toNat_natCast]
  rw [b0, b4, if_neg (by rw [hL]; omega)]
  have eb : ((a ++ (w4 body.length ++ (q ++ body)) ++ z).take (a.length + 8 + body.length)).drop (a.length + 8) = body := by
    rw [List.drop_take, e8, show a.length + 8 + body.length - (a.length + 8) = body.length by omega]
    exact List.take_left
  rw [eb]
/-- what Seal gives. -/
def sealed (l : List UInt8) : List UInt8 := w4 l.length ++ (w4 (crc l) ++ l)
theorem sealed_length (l : List UInt8) : (sealed l).length = l.length + 8 := by
  have h4 : ∀ n, (w4 n).length = 4 := fun _ => rfl
  simp only [sealed, List.length_append, h4]; omega
theorem open_sealed (a l z : List UInt8) (hl : l.length ≤ 134217728) : openB (a ++ sealed l ++ z) a.length = (l, (a.length : Int) + 8 + l.length, 0) := by
  unfold sealed
  rw [openB_at a (w4 (crc l)) l z rfl hl, if_pos (be4_w4 (crc_lt l)).symm]
theorem set_split {α : Type} : ∀ (l : List α) (k : Nat) (y : α) (h : k < l.length), l.set k y = l.take k ++ y :: l.drop (k + 1) ∧ l = l.take k ++ l[k] :: l.drop (k + 1)
  | x :: l, 0, y, _ => ⟨rfl, rfl⟩
  | x :: l, k + 1, y, h => by
    obtain ⟨h1, h2⟩ := set_split l k y (by simpa using h)
    exact ⟨by simp only [List.set_cons_succ, h1]; rfl, by simp only [List.take_succ_cons, List.cons_append, List.getElem_cons_succ, List.drop_succ_cons]; rw [← h2]⟩
theorem open_turned (l : List UInt8) (k : Nat) (y : UInt8) (hl : l.length ≤ 134217728) (h4 : 4 ≤ k) (hk : k < (sealed l).length) (hy : y ≠ (sealed l)[k]) : openB ((sealed l).set k y) 0 = ([], 0, 8) := by
  have hk' := hk
  rw [sealed_length] at hk'
  by_cases h8 : k < 8
  · have e : (sealed l).set k y = w4 l.length ++ ((w4 (crc l)).set (k - 4) y ++ l) := by
      unfold sealed
      rw [List.set_append_right _ _ (by show 4 ≤ k; omega), show (w4 l.length).length = 4 from rfl, List.set_append_left _ _ (by show k - 4 < 4; omega)]
    have g : (sealed l)[k] = (w4 (crc l))[k - 4]'(by show k - 4 < 4; omega) := by
      simp only [sealed]
      rw [List.getElem_append_right (by show 4 ≤ k; omega), List.getElem_append_left (by show k - 4 < 4; omega)]
      rfl
    have ho := openB_at [] ((w4 (crc l)).set (k - 4) y) l [] (by rw [List.length_set]; rfl) hl
    rw [List.nil_append, List.append_nil, ← e] at ho
    rw [if_neg] at ho
    · exact ho
    · intro hc
      have h5 := (w4_be4 (l := (w4 (crc l)).set (k - 4) y) (by rw [List.length_set]; rfl) (crc_lt l)).2 hc
      have h6 : (w4 (crc l))[k - 4]'(by show k - 4 < 4; omega) = y := by
        have h7 : (w4 (crc l))[k - 4]? = some y := by rw [h5]; exact List.getElem?_set_self (by show k - 4 < 4; omega)
        have h8 := List.getElem?_eq_getElem (l := w4 (crc l)) (i := k - 4) (by show k - 4 < 4; omega)
        rw [h8] at h7
        exact Option.some.inj h7
      exact hy (h6.symm.trans g.symm)
  · have e : (sealed l).set k y = w4 l.length ++ (w4 (crc l) ++ l.set (k - 8) y) := by
      unfold sealed
      rw [List.set_append_right _ _ (by show 4 ≤ k; omega), show (w4 l.length).length = 4 from rfl, List.set_append_right _ _ (by show 4 ≤ k - 4; omega), show (w4 (crc l)).length = 4 from rfl, show k - 4 - 4 = k - 8 by omega]
    have g : (sealed l)[k] = l[k - 8]'(by omega) := by
      simp only [sealed]
      rw [List.getElem_append_right (by show 4 ≤ k; omega), List.getElem_append_right (by show 4 ≤ k - 4; omega)]
      rfl
    have ho := openB_at [] (w4 (crc l)) (l.set (k - 8) y) [] rfl (by rw [List.length_set]; exact hl)
    rw [List.nil_append, List.append_nil, List.length_set, ← e, be4_w4 (crc_lt l)] at ho
    rw [if_neg] at ho
    · exact ho
    · intro hc
      obtain ⟨h5, h6⟩ := set_split l (k - 8) y (by omega)
      rw [h5] at hc
      have : crc l = crc (l.take (k - 8) ++ l[k - 8]'(by omega) :: l.drop (k - 8 + 1)) := congrArg crc h6
      rw [this] at hc
      exact hy ((crc_byte _ _ hc).trans g.symm)
end Go.Proofs.YtgcnchmnciihnaaGreatDoor
