/-
  PROVED HERE: bytes that are put behind a slice of one's own, one after the other. No program of its own.
-/
import Derived.Test.YtbabfibmopfghaaGreatDoorPutPlain
import Derived.Lib.AppendStr
namespace Go.Proofs.YtbabfibmopfghaaGreatDoor
set_option linter.unusedSimpArgs false
set_option linter.unusedVariables false
open Go Go.RowKit

theorem owns_block {w : World} {B : Nat} {e : TypeId} {s n : Nat} {v : Value} {xs : List Value} (h : w.ownsRow B e s v n xs) : ∀ g, v.ownBlock = some g → B ≤ g ∧ g < w.heap.size := by
  intro g hg
  rcases h.2 with ⟨rfl, _⟩ | ⟨g', cap, cur, rfl, hb, hh, _⟩
  · cases hg
  · simp only [Value.ownBlock, Option.some.injEq] at hg
    subst hg
    exact ⟨hb, (Array.getElem?_eq_some_iff.1 hh).1⟩
theorem owns_later {w w' : World} {B : Nat} {e : TypeId} {s n : Nat} {v : Value} {xs : List Value} (h : w.ownsRow B e s v n xs) (k : Later w w') : w'.ownsRow B e s v n xs :=
  ⟨h.1, h.2.imp id fun ⟨g, cp, cur, a1, a2, a3, a4⟩ => ⟨g, cp, cur, a1, a2, k.obj a3, a4⟩⟩
theorem owns_kept {S : Nat → Prop} {w w' : World} {B : Nat} {e : TypeId} {s n : Nat} {v : Value} {xs : List Value} (h : w.ownsRow B e s v n xs) (k : Keeps S w w') (hs : ∀ g, v.ownBlock = some g → S g) : w'.ownsRow B e s v n xs :=
  ⟨h.1, h.2.imp id fun ⟨g, cp, cur, a1, a2, a3, a4⟩ => ⟨g, cp, cur, a1, a2, k.obj (hs g (by rw [a1]; rfl)) a3, a4⟩⟩

theorem SliceOf.vlt {S : Nat → Prop} {w : World} {v : Value} {l : List Val} (h : ValsIn S w v l) : ValsIn (fun b => b < w.heap.size) w v l := h.map fun b o x _ hx => ⟨by have := cell_lt hx.1; exact this, hx⟩
theorem SliceOf.rlt {S : Nat → Prop} {w : World} {v : Value} {l : List Row} (h : RowsIn S w v l) : RowsIn (fun b => b < w.heap.size) w v l :=
  h.map fun b o x _ hx => ⟨by have := cell_lt hx.1; exact this, hx.1, let ⟨v, h1, h2⟩ := hx.2; ⟨v, h1, h2.vlt⟩⟩
theorem bytes_prefix {S : Nat → Prop} {w : World} {a : Option Addr} {n c : Nat} {l m : List UInt8} (h : BytesIn S w (.slice a n c) (l ++ m)) : BytesIn S w (.slice a l.length c) l := by
  obtain ⟨a', c', hv, h1, h2, h3, he⟩ := h
  simp only [Value.slice.injEq] at hv
  obtain ⟨rfl, rfl, rfl⟩ := hv
  refine ⟨a, c, rfl, by rw [List.length_append] at h1; omega, h2, h3, fun i hi => ?_⟩
  obtain ⟨b, o, ha, hs, hx⟩ := he i (by rw [List.length_append]; omega)
  rw [List.getElem_append_left hi] at hx
  exact ⟨b, o, ha, hs, hx⟩
/-- bytes that were put behind what 'v' has: 'l' is there now. -/
structure Put (e : TypeId) (w : World) (B : Nat) (v : Value) (l : List UInt8) (v' : Value) (w' : World) : Prop where
  own : w'.ownsRow B e 1 v' l.length (byteCells l)
  keep : Keeps (fun b => some b ≠ v.ownBlock) w w'
  block : v'.ownBlock = v.ownBlock ∨ ∃ g, v'.ownBlock = some g ∧ w.heap.size ≤ g
theorem Put.refl {e : TypeId} {w : World} {B : Nat} {v : Value} {l : List UInt8} (h : w.ownsRow B e 1 v l.length (byteCells l)) : Put e w B v l v w := ⟨h, Keeps.refl _ _, .inl rfl⟩
theorem Put.trans {e : TypeId} {w w1 w2 : World} {B : Nat} {v v1 v2 : Value} {l1 l2 : List UInt8} (h : Put e w B v l1 v1 w1) (k : Put e w1 B v1 l2 v2 w2) : Put e w B v l2 v2 w2 := by
  refine ⟨k.own, ⟨k.keep.os.trans h.keep.os, k.keep.tape.trans h.keep.tape, k.keep.output.trans h.keep.output, Nat.le_trans h.keep.size k.keep.size, fun b hb hs => ?_⟩, ?_⟩
  · refine (k.keep.block b (Nat.lt_of_lt_of_le hb h.keep.size) fun he => ?_).trans (h.keep.block b hb hs)
    rcases h.block with h1 | ⟨g, h1, h2⟩
    · exact hs (he.trans h1)
    · rw [h1] at he
      injection he with he
      omega
  · rcases k.block with k1 | ⟨g, k1, k2⟩
    · rw [k1]; exact h.block
    · exact .inr ⟨g, k1, Nat.le_trans h.keep.size k2⟩
/-- what a later world has put was put behind the first one. -/
theorem Put.ahead {e : TypeId} {w w0 w' : World} {B : Nat} {v v' : Value} {l : List UInt8} (k : Later w w0) (h : Put e w0 B v l v' w') : Put e w B v l v' w' :=
  ⟨h.own, ⟨h.keep.os.trans k.os, h.keep.tape.trans k.tape, h.keep.output.trans k.output, Nat.le_trans k.size h.keep.size, fun b hb hs => (h.keep.block b (Nat.lt_of_lt_of_le hb k.size) hs).trans (k.block b hb)⟩,
    h.block.imp id fun ⟨g, a, b⟩ => ⟨g, a, Nat.le_trans k.size b⟩⟩
theorem Put.behind {e : TypeId} {w w1 w' : World} {B : Nat} {v v' : Value} {l : List UInt8} (h : Put e w B v l v' w1) (k : Later w1 w') : Put e w B v l v' w' :=
  ⟨owns_later h.own k, h.keep.more k, h.block⟩
theorem Put.of_appended {e : TypeId} {w w' : World} {B n : Nat} {v v' : Value} {xs : List Value} {l : List UInt8} (h : Appended w B e 1 v n xs v' w') (hn : n = l.length) (hx : xs = byteCells l) : Put e w B v l v' w' := by
  subst hn hx
  exact ⟨h.own, Keeps.of_grown h.grown, h.block⟩
/-- nothing that was there turns, when nothing was there to be put behind. -/
theorem Put.later {e : TypeId} {w w' : World} {B : Nat} {v v' : Value} {l : List UInt8} (h : Put e w B v l v' w') (hv : v.ownBlock = none) : Later w w' :=
  Keeps.later (h.keep.mono fun b _ _ => by rw [hv]; simp)
theorem Put.base {e : TypeId} {w w' : World} {B : Nat} {v v' : Value} {l : List UInt8} (h : Put e w B v l v' w') (hv : v.ownBlock = none) : w'.ownsRow w.heap.size e 1 v' l.length (byteCells l) := by
  refine ⟨h.own.1, h.own.2.imp id fun ⟨g, cp, cur, a1, a2, a3, a4⟩ => ⟨g, cp, cur, a1, ?_, a3, a4⟩⟩
  rcases h.block with h1 | ⟨g', h1, h2⟩
  · rw [hv, a1] at h1; cases h1
  · rw [a1] at h1
    simp only [Value.ownBlock, Option.some.injEq] at h1
    omega
theorem Put.other {e : TypeId} {w w' : World} {B : Nat} {v v' : Value} {l : List UInt8} (h : Put e w B v l v' w') {b : Nat} (hb : b < w.heap.size) (hs : some b ≠ v.ownBlock) : some b ≠ v'.ownBlock := by
  rcases h.block with h1 | ⟨g, h1, h2⟩
  · rw [h1]; exact hs
  · rw [h1]; intro e; injection e with e; omega
def PutTo (e : TypeId) (w : World) (B : Nat) (v : Value) (l : List UInt8) (en : Ending) (w' : World) : Prop := ∃ v', en = .returned v' ∧ Put e w B v l v' w'

section
variable {P : Program} {w : World}
/-- one byte that was laid down in a block of its own. -/
theorem wpList_put_byte {ops : Array Oper} {rest : List Oper} {o : Oper} {a : Act} {Q : Exit → Act → World → Prop} (hgd : o.guard = none) (s x : Operand) (t : TypeId)
    (ho : o.op = .call { callee := .builtin .append, args := #[s, x], argTypes := #[t, t] })
    (B : Nat) (e : TypeId) (ii : TypeInfo) (ht : P.underlying t = some (.slice e)) (hi : P.info? e = some ii) (hz : ii.zero = some (.int .u8 0)) (hsize : ii.size = 1) (hby : ii.bytes = 1)
    (v : Value) (l : List UInt8) (hs : a.eval s = v) (hown : w.ownsRow B e 1 v l.length (byteCells l)) (g : Nat) (y : Int) (hx : a.eval x = .slice (some ⟨g, 0, none⟩) 1 1) (hy : w.cell? ⟨g, 0, none⟩ = some (.int .u8 y))
    (c : UInt8) (hc : y = (c.toNat : Int)) (hsz : l.length + 1 ≤ 70368744177664) (hbase : B ≤ w.heap.size)
    (h : ∀ v' w', Put e w B v (l ++ [c]) v' w' → wpList P ops Q rest (a.put o.dst v') w') : wpList P ops Q (o :: rest) a w := by
  refine wpList_append w hgd s x t ho B e ii (.int .u8 0) 1 1 ht hi hz hsize hby rfl (by decide) v l.length (byteCells l) hs hown ⟨g, 0, none⟩ 1 1 (byteCells [c]) hx rfl (fun j u hu => ?_) (byteCells_one _) (by unfold maxLen; omega) (by omega) hbase fun v' w' hA => h v' w' (Put.of_appended hA (by simp) (byteCells_append _ _).symm)
  have hj : j = 0 := by have := (List.getElem?_eq_some_iff.1 hu).1; simp [byteCells] at this; omega
  subst hj
  simp only [byteCells, List.map_cons, List.map_nil, List.getElem?_cons_zero, Option.some.injEq] at hu
  rw [add_none rfl, ← hu, ← hc]
  exact hy
/-- bytes of a slice. -/
theorem wpList_put_bytes {ops : Array Oper} {rest : List Oper} {o : Oper} {a : Act} {Q : Exit → Act → World → Prop} (hgd : o.guard = none) (s x : Operand) (t : TypeId)
    (ho : o.op = .call { callee := .builtin .append, args := #[s, x], argTypes := #[t, t] })
    (B : Nat) (e : TypeId) (ii : TypeInfo) (ht : P.underlying t = some (.slice e)) (hi : P.info? e = some ii) (hz : ii.zero = some (.int .u8 0)) (hsize : ii.size = 1) (hby : ii.bytes = 1)
    (v : Value) (l : List UInt8) (hs : a.eval s = v) (hown : w.ownsRow B e 1 v l.length (byteCells l)) (S : Nat → Prop) (xv : Value) (m : List UInt8) (hx : a.eval x = xv) (hm : BytesIn S w xv m)
    (hsz : l.length + m.length ≤ 70368744177664) (hbase : B ≤ w.heap.size)
    (h : ∀ v' w', Put e w B v (l ++ m) v' w' → wpList P ops Q rest (a.put o.dst v') w') : wpList P ops Q (o :: rest) a w := by
  have hm0 := hm
  obtain ⟨ad, c, rfl, hl, hc, hn, he⟩ := hm
  cases ad with
  | none =>
    have h0 := hn rfl
    have hm1 : m = [] := List.eq_nil_of_length_eq_zero (by omega)
    subst hm1 h0
    refine wpList_append_nil w hgd s x t ho B e ii 1 ht hi v l.length (byteCells l) hs hown hx (h v w ?_)
    rw [List.append_nil]
    exact Put.refl hown
  | some ad =>
    exact wpList_append w hgd s x t ho B e ii (.int .u8 0) 1 1 ht hi hz hsize hby rfl (by decide) v l.length (byteCells l) hs hown ad m.length c (byteCells m) hx (by rw [byteCells_length, Nat.mul_one]) (hm0.news rfl rfl) (byteCells_one _) (by unfold maxLen; omega) (by omega) hbase fun v' w' hA => h v' w' (Put.of_appended hA (by simp) (byteCells_append _ _).symm)
theorem strCells_bytes (s : ByteArray) : Lib.strCells s = byteCells s.data.toList := rfl
/-- the bytes of a text. -/
theorem wpList_put_text {ops : Array Oper} {rest : List Oper} {o : Oper} {a : Act} {Q : Exit → Act → World → Prop} (hgd : o.guard = none) (sl x : Operand) (t u : TypeId)
    (ho : o.op = .call { callee := .builtin .append, args := #[sl, x], argTypes := #[t, u] })
    (B : Nat) (e : TypeId) (ii : TypeInfo) (ht : P.underlying t = some (.slice e)) (hu : P.underlying u = some .string) (hi : P.info? e = some ii) (hz : ii.zero = some (.int .u8 0)) (hsize : ii.size = 1) (hby : ii.bytes = 1)
    (v : Value) (l : List UInt8) (hs : a.eval sl = v) (hown : w.ownsRow B e 1 v l.length (byteCells l)) (s : ByteArray) (hx : a.eval x = .string s)
    (hsz : l.length + s.size ≤ 70368744177664) (hbase : B ≤ w.heap.size)
    (h : ∀ v' w', Put e w B v (l ++ s.data.toList) v' w' → wpList P ops Q rest (a.put o.dst v') w') : wpList P ops Q (o :: rest) a w := by
  refine wpList_plain hgd fun K hK => ?_
  have hsm : s.data.toList.length = s.size := by rw [Array.length_toList]; rfl
  obtain ⟨v', w', hr, h2, h3, _⟩ := Lib.run_append_own_string (P := P) w B t u o.type e ii ht hu hi hz hsize hby v l.length (byteCells l) hown s (by unfold maxLen; omega) (by omega) hbase
  have hblk : v'.ownBlock = v.ownBlock ∨ ∃ g, v'.ownBlock = some g ∧ w.heap.size ≤ g := by
    rcases hown.2 with ⟨rfl, h0⟩ | ⟨g, cap, cur, rfl, hbg, hg, hnc, hcm, hcs, htake⟩
    · have hl0 : l = [] := List.eq_nil_of_length_eq_zero h0
      subst hl0
      by_cases hm : s.size = 0
      · have hf := Lib.run_firstCells_string (P := P) w 1 s
        rw [hm] at hf
        have : (Builtin.append_ #[t, u] o.type #[.slice none 0 0, .string s]).run P w = .ok (.slice none 0 0) w := by
          simp [Builtin.append_, run_underlying ht, run_underlying hu, sizeOf, typeInfo, hi, hsize, Builtin.lenOf, hm, hf]
        rw [this] at hr
        injection hr with hv _
        subst hv
        exact .inl rfl
      · have hr' := run_append_nil_string (P := P) w t u o.type e ii (.int .u8 0) ht hu hi hz s (by omega) (by omega) (by rw [hby]; omega)
        rw [hr'] at hr
        injection hr with hv _
        subst hv
        exact .inr ⟨_, rfl, Nat.le_refl _⟩
    · by_cases hroom : l.length + s.size ≤ cap
      · have hcs' : cur.size = cap := by simpa using hcs
        rw [Lib.run_append_room_string (P := P) w t u o.type e ii ht hu hi hsize g l.length cap cur hg s hroom (by omega)] at hr
        injection hr with hv _
        subst hv
        exact .inl rfl
      · have holds : ∀ j u, (byteCells l)[j]? = some u → w.cell? ((⟨g, 0, none⟩ : Addr).add j) = some u := hown.cells (g := g) rfl
        have hr' := Lib.run_append_grow_string (P := P) w t u o.type e ii (.int .u8 0) ht hu hi hz ⟨g, 0, none⟩ l.length cap (byteCells l) (by rw [hsize, byteCells_length, Nat.mul_one]) holds s (by omega) (by omega) (by rw [hby]; exact growslice_fits (by omega) (by omega))
        rw [hr'] at hr
        injection hr with hv _
        subst hv
        exact .inr ⟨_, rfl, Nat.le_refl _⟩
  unfold Oper.wp execOp
  simp only [ho, resolve, invoke, builtin, Sem.run_bind, Sem.run_pure, Result.andThen_ok, List.map_toArray, List.map_cons, List.map_nil, hs, hx, hr]
  refine hK _ _ (h v' w' ⟨?_, Keeps.of_grown h3, hblk⟩)
  rw [List.length_append, hsm, byteCells_append]
  exact h2
end
end Go.Proofs.YtbabfibmopfghaaGreatDoor
