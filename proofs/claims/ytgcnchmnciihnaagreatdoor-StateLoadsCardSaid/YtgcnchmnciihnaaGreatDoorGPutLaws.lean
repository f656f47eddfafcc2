/-
  PROVED HERE: bytes that are put behind a slice of one's own, one after the other. No program of its own.
  PROVED HERE: append of elements that stand in a block of their own; what it leaves as it was. No program of its own.
  PROVED HERE: '[]byte(s)' in a walk; what is written of a value, in plain Lean. No program of its own.
-/
import Derived.Test.YtgcnchmnciihnaaGreatDoorGOpen
import Derived.Lib.AppendStr
import Derived.Test.YtgcnchmnciihnaaGreatDoorGData
import Derived.OwnWalk
import Derived.Laws.IdiomStrings
import Derived.Lib.ItoaNum
import Derived.Lib.AppendIntMem
namespace Go.Proofs.YtgcnchmnciihnaaGreatDoor
set_option linter.unusedSimpArgs false
set_option linter.unusedVariables false
open Go Go.RowKit

theorem owns_block {w : World} {B : Nat} {e : TypeId} {s n : Nat} {v : Value} {xs : List Value} (h : w.ownsRow B e s v n xs) : ∀ g, v.ownBlock = some g → B ≤ g ∧ g < w.heap.size := by
  intro g hg
  rcases h.2 with ⟨rfl, _⟩ | ⟨g', cap, cur, rfl, hb, hh, _⟩
  · cases hg
  · simp only [Value.ownBlock, Option.some.injEq] at hg
    subst hg
    exact ⟨hb, (Array.getElem?_eq_some_iff.1 hh).1⟩
theorem owns_later {w w' : World} {B : Nat} {e : TypeId} {s n : Nat} {v : Value} {xs : List Value} (h : w.ownsRow B e s v n xs) (k : Later w w') : w'.ownsRow B e s v n xs :=
  ⟨h.1, h.2.imp id fun ⟨g, cp, cur, a1, a2, a3, a4⟩ => ⟨g, cp, cur, a1, a2, k.obj a3, a4⟩⟩
theorem owns_kept {S : Nat → Prop} {w w' : World} {B : Nat} {e : TypeId} {s n : Nat} {v : Value} {xs : List Value} (h : w.ownsRow B e s v n xs) (k : Keeps S w w') (hs : ∀ g, v.ownBlock = some g → S g) : w'.ownsRow B e s v n xs :=
  ⟨h.1, h.2.imp id fun ⟨g, cp, cur, a1, a2, a3, a4⟩ => ⟨g, cp, cur, a1, a2, k.obj (hs g (by rw [a1]; rfl)) a3, a4⟩⟩

theorem SliceOf.vlt {S : Nat → Prop} {w : World} {v : Value} {l : List Val} (h : ValsIn S w v l) : ValsIn (fun b => b < w.heap.size) w v l := h.map fun b o x _ hx => ⟨by have := cell_lt hx.1; exact this, hx⟩
theorem SliceOf.rlt {S : Nat → Prop} {w : World} {v : Value} {l : List Row} (h : RowsIn S w v l) : RowsIn (fun b => b < w.heap.size) w v l :=
  h.map fun b o x _ hx => ⟨by have := cell_lt hx.1; exact this, hx.1, let ⟨v, h1, h2⟩ := hx.2; ⟨v, h1, h2.vlt⟩⟩
theorem bytes_prefix {S : Nat → Prop} {w : World} {a : Option Addr} {n c : Nat} {l m : List UInt8} (h : BytesIn S w (.slice a n c) (l ++ m)) : BytesIn S w (.slice a l.length c) l := by
  obtain ⟨a', c', hv, h1, h2, h3, he⟩ := h
  simp only [Value.slice.injEq] at hv
  obtain ⟨rfl, rfl, rfl⟩ := hv
  refine ⟨a, c, rfl, by rw [List.length_append] at h1; omega, h2, h3, fun i hi => ?_⟩
  obtain ⟨b, o, ha, hs, hx⟩ := he i (by rw [List.length_append]; omega)
  rw [List.getElem_append_left hi] at hx
  exact ⟨b, o, ha, hs, hx⟩
/-- bytes that were put behind what 'v' has: 'l' is there now. -/
structure Put (e : TypeId) (w : World) (B : Nat) (v : Value) (l : List UInt8) (v' : Value) (w' : World) : Prop where
  own : w'.ownsRow B e 1 v' l.length (byteCells l)
  keep : Keeps (fun b => some b ≠ v.ownBlock) w w'
  block : v'.ownBlock = v.ownBlock ∨ ∃ g, v'.ownBlock = some g ∧ w.heap.size ≤ g
theorem Put.refl {e : TypeId} {w : World} {B : Nat} {v : Value} {l : List UInt8} (h : w.ownsRow B e 1 v l.length (byteCells l)) : Put e w B v l v w := ⟨h, Keeps.refl _ _, .inl rfl⟩
theorem Put.trans {e : TypeId} {w w1 w2 : World} {B : Nat} {v v1 v2 : Value} {l1 l2 : List UInt8} (h : Put e w B v l1 v1 w1) (k : Put e w1 B v1 l2 v2 w2) : Put e w B v l2 v2 w2 := by
  refine ⟨k.own, ⟨k.keep.os.trans h.keep.os, k.keep.tape.trans h.keep.tape, k.keep.output.trans h.keep.output, Nat.le_trans h.keep.size k.keep.size, fun b hb hs => ?_⟩, ?_⟩
  · refine (k.keep.block b (Nat.lt_of_lt_of_le hb h.keep.size) fun he => ?_).trans (h.keep.block b hb hs)
    rcases h.block with h1 | ⟨g, h1, h2⟩
    · exact hs (he.trans h1)
    · rw [h1] at he
      injection he with he
      omega
  · rcases k.block with k1 | ⟨g, k1, k2⟩
    · rw [k1]; exact h.block
    · exact .inr ⟨g, k1, Nat.le_trans h.keep.size k2⟩
/-- what a later world has put was put behind the first one. -/
theorem Put.ahead {e : TypeId} {w w0 w' : World} {B : Nat} {v v' : Value} {l : List UInt8} (k : Later w w0) (h : Put e w0 B v l v' w') : Put e w B v l v' w' :=
  ⟨h.own, ⟨h.keep.os.trans k.os, h.keep.tape.trans k.tape, h.keep.output.trans k.output, Nat.le_trans k.size h.keep.size, fun b hb hs => (h.keep.block b (Nat.lt_of_lt_of_le hb k.size) hs).trans (k.block b hb)⟩,
    h.block.imp id fun ⟨g, a, b⟩ => ⟨g, a, Nat.le_trans k.size b⟩⟩
theorem Put.behind {e : TypeId} {w w1 w' : World} {B : Nat} {v v' : Value} {l : List UInt8} (h : Put e w B v l v' w1) (k : Later w1 w') : Put e w B v l v' w' :=
  ⟨owns_later h.own k, h.keep.more k, h.block⟩
theorem Put.of_appended {e : TypeId} {w w' : World} {B n : Nat} {v v' : Value} {xs : List Value} {l : List UInt8} (h : Appended w B e 1 v n xs v' w') (hn : n = l.length) (hx : xs = byteCells l) : Put e w B v l v' w' := by
  subst hn hx
  exact ⟨h.own, Keeps.of_grown h.grown, h.block⟩
/-- nothing that was there turns, when nothing was there to be put behind. -/
theorem Put.later {e : TypeId} {w w' : World} {B : Nat} {v v' : Value} {l : List UInt8} (h : Put e w B v l v' w') (hv : v.ownBlock = none) : Later w w' :=
  Keeps.later (h.keep.mono fun b _ _ => by rw [hv]; simp)
theorem Put.base {e : TypeId} {w w' : World} {B : Nat} {v v' : Value} {l : List UInt8} (h : Put e w B v l v' w') (hv : v.ownBlock = none) : w'.ownsRow w.heap.size e 1 v' l.length (byteCells l) := by
  refine ⟨h.own.1, h.own.2.imp id fun ⟨g, cp, cur, a1, a2, a3, a4⟩ => ⟨g, cp, cur, a1, ?_, a3, a4⟩⟩
  rcases h.block with h1 | ⟨g', h1, h2⟩
  · rw [hv, a1] at h1; cases h1
  · rw [a1] at h1
    simp only [Value.ownBlock, Option.some.injEq] at h1
    omega
theorem Put.other {e : TypeId} {w w' : World} {B : Nat} {v v' : Value} {l : List UInt8} (h : Put e w B v l v' w') {b : Nat} (hb : b < w.heap.size) (hs : some b ≠ v.ownBlock) : some b ≠ v'.ownBlock := by
  rcases h.block with h1 | ⟨g, h1, h2⟩
  · rw [h1]; exact hs
  · rw [h1]; intro e; injection e with e; omega
def PutTo (e : TypeId) (w : World) (B : Nat) (v : Value) (l : List UInt8) (en : Ending) (w' : World) : Prop := ∃ v', en = .returned v' ∧ Put e w B v l v' w'

section
variable {P : Program} {w : World}
/-- one byte that was laid down in a block of its own. -/
theorem wpList_put_byte {ops : Array Oper} {rest : List Oper} {o : Oper} {a : Act} {Q : Exit → Act → World → Prop} (hgd : o.guard = none) (s x : Operand) (t : TypeId)
    (ho : o.op = .call { callee := .builtin .append, args := #[s, x], argTypes := #[t, t] })
    (B : Nat) (e : TypeId) (ii : TypeInfo) (ht : P.underlying t = some (.slice e)) (hi : P.info? e = some ii) (hz : ii.zero = some (.int .u8 0)) (hsize : ii.size = 1) (hby : ii.bytes = 1)
    (v : Value) (l : List UInt8) (hs : a.eval s = v) (hown : w.ownsRow B e 1 v l.length (byteCells l)) (g : Nat) (y : Int) (hx : a.eval x = .slice (some ⟨g, 0, none⟩) 1 1) (hy : w.cell? ⟨g, 0, none⟩ = some (.int .u8 y))
    (c : UInt8) (hc : y = (c.toNat : Int)) (hsz : l.length + 1 ≤ 70368744177664) (hbase : B ≤ w.heap.size)
    (h : ∀ v' w', Put e w B v (l ++ [c]) v' w' → wpList P ops Q rest (a.put o.dst v') w') : wpList P ops Q (o :: rest) a w := by
  refine wpList_append w hgd s x t ho B e ii (.int .u8 0) 1 1 ht hi hz hsize hby rfl (by decide) v l.length (byteCells l) hs hown ⟨g, 0, none⟩ 1 1 (byteCells [c]) hx rfl (fun j u hu => ?_) (byteCells_one _) (by unfold maxLen; omega) (by omega) hbase fun v' w' hA => h v' w' (Put.of_appended hA (by simp) (byteCells_append _ _).symm)
  have hj : j = 0 := by have := (List.getElem?_eq_some_iff.1 hu).1; simp [byteCells] at this; omega
  subst hj
  simp only [byteCells, List.map_cons, List.map_nil, List.getElem?_cons_zero, Option.some.injEq] at hu
  rw [add_none rfl, ← hu, ← hc]
  exact hy
/-- bytes of a slice. -/
theorem wpList_put_bytes {ops : Array Oper} {rest : List Oper} {o : Oper} {a : Act} {Q : Exit → Act → World → Prop} (hgd : o.guard = none) (s x : Operand) (t : TypeId)
    (ho : o.op = .call { callee := .builtin .append, args := #[s, x], argTypes := #[t, t] })
    (B : Nat) (e : TypeId) (ii : TypeInfo) (ht : P.underlying t = some (.slice e)) (hi : P.info? e = some ii) (hz : ii.zero = some (.int .u8 0)) (hsize : ii.size = 1) (hby : ii.bytes = 1)
    (v : Value) (l : List UInt8) (hs : a.eval s = v) (hown : w.ownsRow B e 1 v l.length (byteCells l)) (S : Nat → Prop) (xv : Value) (m : List UInt8) (hx : a.eval x = xv) (hm : BytesIn S w xv m)
    (hsz : l.length + m.length ≤ 70368744177664) (hbase : B ≤ w.heap.size)
    (h : ∀ v' w', Put e w B v (l ++ m) v' w' → wpList P ops Q rest (a.put o.dst v') w') : wpList P ops Q (o :: rest) a w := by
  have hm0 := hm
  obtain ⟨ad, c, rfl, hl, hc, hn, he⟩ := hm
  cases ad with
  | none =>
    have h0 := hn rfl
    have hm1 : m = [] := List.eq_nil_of_length_eq_zero (by omega)
    subst hm1 h0
    refine wpList_append_nil w hgd s x t ho B e ii 1 ht hi v l.length (byteCells l) hs hown hx (h v w ?_)
    rw [List.append_nil]
    exact Put.refl hown
  | some ad =>
    exact wpList_append w hgd s x t ho B e ii (.int .u8 0) 1 1 ht hi hz hsize hby rfl (by decide) v l.length (byteCells l) hs hown ad m.length c (byteCells m) hx (by rw [byteCells_length, Nat.mul_one]) (hm0.news rfl rfl) (byteCells_one _) (by unfold maxLen; omega) (by omega) hbase fun v' w' hA => h v' w' (Put.of_appended hA (by simp) (byteCells_append _ _).symm)
theorem strCells_bytes (s : ByteArray) : Lib.strCells s = byteCells s.data.toList := rfl
/-- the bytes of a text. -/
theorem wpList_put_text {ops : Array Oper} {rest : List Oper} {o : Oper} {a : Act} {Q : Exit → Act → World → Prop} (hgd : o.guard = none) (sl x : Operand) (t u : TypeId)
    (ho : o.op = .call { callee := .builtin .append, args := #[sl, x], argTypes := #[t, u] })
    (B : Nat) (e : TypeId) (ii : TypeInfo) (ht : P.underlying t = some (.slice e)) (hu : P.underlying u = some .string) (hi : P.info? e = some ii) (hz : ii.zero = some (.int .u8 0)) (hsize : ii.size = 1) (hby : ii.bytes = 1)
    (v : Value) (l : List UInt8) (hs : a.eval sl = v) (hown : w.ownsRow B e 1 v l.length (byteCells l)) (s : ByteArray) (hx : a.eval x = .string s)
    (hsz : l.length + s.size ≤ 70368744177664) (hbase : B ≤ w.heap.size)
    (h : ∀ v' w', Put e w B v (l ++ s.data.toList) v' w' → wpList P ops Q rest (a.put o.dst v') w') : wpList P ops Q (o :: rest) a w := by
  refine wpList_plain hgd fun K hK => ?_
  have hsm : s.data.toList.length = s.size := by rw [Array.length_toList]; rfl
  obtain ⟨v', w', hr, h2, h3, _⟩ := Lib.run_append_own_string (P := P) w B t u o.type e ii ht hu hi hz hsize hby v l.length (byteCells l) hown s (by unfold maxLen; omega) (by omega) hbase
  have hblk : v'.ownBlock = v.ownBlock ∨ ∃ g, v'.ownBlock = some g ∧ w.heap.size ≤ g := by
    rcases hown.2 with ⟨rfl, h0⟩ | ⟨g, cap, cur, rfl, hbg, hg, hnc, hcm, hcs, htake⟩
    · have hl0 : l = [] := List.eq_nil_of_length_eq_zero h0
      subst hl0
      by_cases hm : s.size = 0
      · have hf := Lib.run_firstCells_string (P := P) w 1 s
        rw [hm] at hf
        have : (Builtin.append_ #[t, u] o.type #[.slice none 0 0, .string s]).run P w = .ok (.slice none 0 0) w := by
          simp [Builtin.append_, run_underlying ht, run_underlying hu, sizeOf, typeInfo, hi, hsize, Builtin.lenOf, hm, hf]
        rw [this] at hr
        injection hr with hv _
        subst hv
        exact .inl rfl
      · have hr' := run_append_nil_string (P := P) w t u o.type e ii (.int .u8 0) ht hu hi hz s (by omega) (by omega) (by rw [hby]; omega)
        rw [hr'] at hr
        injection hr with hv _
        subst hv
        exact .inr ⟨_, rfl, Nat.le_refl _⟩
    · by_cases hroom : l.length + s.size ≤ cap
      · have hcs' : cur.size = cap := by simpa using hcs
        rw [Lib.run_append_room_string (P := P) w t u o.type e ii ht hu hi hsize g l.length cap cur hg s hroom (by omega)] at hr
        injection hr with hv _
        subst hv
        exact .inl rfl
      · have holds : ∀ j u, (byteCells l)[j]? = some u → w.cell? ((⟨g, 0, none⟩ : Addr).add j) = some u := hown.cells (g := g) rfl
        have hr' := Lib.run_append_grow_string (P := P) w t u o.type e ii (.int .u8 0) ht hu hi hz ⟨g, 0, none⟩ l.length cap (byteCells l) (by rw [hsize, byteCells_length, Nat.mul_one]) holds s (by omega) (by omega) (by rw [hby]; exact growslice_fits (by omega) (by omega))
        rw [hr'] at hr
        injection hr with hv _
        subst hv
        exact .inr ⟨_, rfl, Nat.le_refl _⟩
  unfold Oper.wp execOp
  simp only [ho, resolve, invoke, builtin, Sem.run_bind, Sem.run_pure, Result.andThen_ok, List.map_toArray, List.map_cons, List.map_nil, hs, hx, hr]
  refine hK _ _ (h v' w' ⟨?_, Keeps.of_grown h3, hblk⟩)
  rw [List.length_append, hsm, byteCells_append]
  exact h2
end
end Go.Proofs.YtgcnchmnciihnaaGreatDoor
namespace Go.Proofs.YtgcnchmnciihnaaGreatDoor
set_option linter.unusedSimpArgs false
set_option linter.unusedVariables false
open Go Go.RowKit

/-- a type of elements: its size in cells, in bytes. -/
structure ElemInfo (P : Program) (e : TypeId) (size bytes : Nat) : Prop where
  ex : ∃ i z, P.info? e = some i ∧ i.zero = some z ∧ i.size = size ∧ i.bytes = bytes ∧ z.cells.size = size ∧ 0 < size
theorem ElemInfo.of {P : Program} {e : TypeId} {z : Value} {size bytes : Nat} (h : (P.info? e).map (fun i => (i.zero, i.size, i.bytes)) = some (some z, size, bytes)) (hz : z.cells.size = size) (h0 : 0 < size) : ElemInfo P e size bytes := by
  obtain ⟨i, h1, h2, h3, h4⟩ := info_parts h
  exact ⟨i, z, h1, h2, h3, h4, hz, h0⟩

theorem obj_at {w : World} {o : Obj} {b : Nat} (h : b = w.heap.size) : (w.alloc o).heap[b]? = some o := h ▸ obj_new w o
section
variable {P : Program} {w : World}
theorem wpList_append_obj {ops : Array Oper} {rest : List Oper} {o : Oper} {a : Act} {Q : Exit → Act → World → Prop} (hgd : o.guard = none) (s x : Operand) (t : TypeId)
    (ho : o.op = .call { callee := .builtin .append, args := #[s, x], argTypes := #[t, t] })
    (e : TypeId) (size bytes : Nat) (ht : P.underlying t = some (.slice e)) (hI : ElemInfo P e size bytes)
    {base : Nat} {v : Value} {n : Nat} {xs : List Value} (hs : a.eval s = v) (hown : w.ownsRow base e size v n xs)
    {b m c : Nat} {news : List Value} {T : TypeId} {f : Nat × Nat} (hx : a.eval x = .slice (some ⟨b, 0, none⟩) m c) (hsrc : w.heap[b]? = some (.cells news.toArray T f)) (hl : news.length = m * size) (h1 : ∀ u ∈ news, u.oneCell' = true)
    (hbytes : (n + m) * bytes ≤ 140737488355328) (h63 : n + m ≤ maxLen) (hbase : base ≤ w.heap.size)
    (h : ∀ v' w', Appended w base e size v (n + m) (xs ++ news) v' w' → wpList P ops Q rest (a.put o.dst v') w') : wpList P ops Q (o :: rest) a w := by
  obtain ⟨i, z, hi, hz, h3, h4, h5, h6⟩ := hI.ex
  refine wpList_append w hgd s x t ho base e i z size bytes ht hi hz h3 h4 h5 h6 v n xs hs hown ⟨b, 0, none⟩ m c news hx hl ?_ h1 h63 hbytes hbase h
  intro j u hu
  rw [add_none rfl]
  exact cell_obj hsrc (by simpa using hu)

theorem wpList_make0 {ops : Array Oper} {rest : List Oper} {o : Oper} {a : Act} {Q : Exit → Act → World → Prop} (hgd : o.guard = none) (l c : Operand) (t : TypeId) (hop : o.op = Op.makeSlice t l c)
    (base : Nat) (e : TypeId) (size bytes : Nat) (ht : P.underlying t = some (.slice e)) (hI : ElemInfo P e size bytes) {kl kc : IntKind} {C : Int} {n : Nat} (hl : a.eval l = .int kl 0) (hc : a.eval c = .int kc C) (hC : C = (n : Int))
    (b2 : bytes * n ≤ 281474976710656) (b3 : n ≤ maxLen) (b4 : base ≤ w.heap.size)
    (hK : ∀ w', w'.ownsRow base e size (.slice (some ⟨w.heap.size, 0, none⟩) 0 n) 0 [] → w.grownBy w' none → wpList P ops Q rest (a.put o.dst (.slice (some ⟨w.heap.size, 0, none⟩) 0 n)) w') : wpList P ops Q (o :: rest) a w := by
  obtain ⟨i, z, hi, hz, h3, h4, h5, h6⟩ := hI.ex
  exact wpList_make_own w hgd l c t hop base e i z size ht hi hz h3 kl kc C n hl hc hC (by rw [h4]; exact b2) b3 b4 hK
theorem wpList_makeN {ops : Array Oper} {rest : List Oper} {o : Oper} {a : Act} {Q : Exit → Act → World → Prop} (hgd : o.guard = none) (l c : Operand) (t : TypeId) (hop : o.op = Op.makeSlice t l c)
    (base : Nat) (e : TypeId) (z : Value) (size bytes : Nat) (ht : P.underlying t = some (.slice e)) (hI : (P.info? e).map (fun i => (i.zero, i.size, i.bytes)) = some (some z, size, bytes)) {kl kc : IntKind} {L C : Int} {n : Nat} (hl : a.eval l = .int kl L) (hc : a.eval c = .int kc C)
    (hL : L = (n : Int)) (hC : C = (n : Int)) (b2 : bytes * n ≤ 281474976710656) (b3 : n ≤ maxLen) (b4 : base ≤ w.heap.size)
    (hK : ∀ w', w'.ownsRow base e size (.slice (some ⟨w.heap.size, 0, none⟩) n n) n (madeCells z.cells (n * size)).toList → w.grownBy w' none → wpList P ops Q rest (a.put o.dst (.slice (some ⟨w.heap.size, 0, none⟩) n n)) w') : wpList P ops Q (o :: rest) a w := by
  obtain ⟨i, hi, hz, h3, h4⟩ := info_parts hI
  exact wpList_make_full w hgd l c t hop base e i z size ht hi hz h3 kl kc L C n hl hc hL hC (by rw [h4]; exact b2) b3 b4 hK
theorem grown_none {w' : World} (h : w.grownBy w' none) : Later w w' := Keeps.later ((Keeps.of_grown h).mono fun _ _ _ => by simp)

theorem Appended.keeps {B s n : Nat} {e : TypeId} {xs : List Value} {v v' : Value} {w' : World} (hA : Appended w B e s v n xs v' w') : Keeps (fun b => some b ≠ v.ownBlock) w w' := Keeps.of_grown hA.grown
theorem Appended.low {B s n m : Nat} {e : TypeId} {xs ys : List Value} {v v' : Value} {w' : World} (hA : Appended w B e s v n xs v' w') (ho : w.ownsRow B e s v m ys) : Keeps (fun b => b < B) w w' :=
  hA.keeps.mono fun k _ hk he => by have := (ho.lt k he.symm).1; omega
theorem Appended.later {B s n m : Nat} {e : TypeId} {xs ys : List Value} {v v' : Value} {w0 w' : World} (hA : Appended w B e s v n xs v' w') (ho : w.ownsRow B e s v m ys) (hL : Later w0 w) (hB : w0.heap.size ≤ B) : Later w0 w' :=
  ((hL.keeps (fun b => b < B)).trans (hA.low ho)).mono (S' := fun _ => True) (fun k hk _ => by omega) |>.later
end
/-- what is not a slice's own block is there still. -/
theorem Appended.obj {w w' : World} {B s n : Nat} {e : TypeId} {xs : List Value} {v v' : Value} (hA : Appended w B e s v n xs v' w') {b : Nat} {o : Obj} (h : w.heap[b]? = some o) (hb : some b ≠ v.ownBlock) : w'.heap[b]? = some o := hA.keeps.obj hb h

theorem own_ne {w : World} {B s n b : Nat} {e t : TypeId} {v : Value} {xs : List Value} {cs : Array Value} {f : Nat × Nat} (h : w.ownsRow B e s v n xs) (hb : w.heap[b]? = some (.cells cs t f)) (hne : e ≠ t) : v.ownBlock ≠ some b := by
  intro he
  rcases h.2 with ⟨rfl, _⟩ | ⟨g, cap, cur, rfl, _, hg, _⟩
  · cases he
  · obtain rfl : g = b := by simpa [Value.ownBlock] using he
    rw [hg] at hb
    injection hb with hb
    injection hb with _ hb
    exact hne hb
theorem own_set {w : World} {B s n : Nat} {e : TypeId} {v : Value} {xs : List Value} (h : w.ownsRow B e s v n xs) {p : Addr} (hp : v.ownBlock ≠ some p.block) (u : Value) : (w.setCell p u).ownsRow B e s v n xs := by
  refine ⟨h.1, h.2.imp id fun ⟨g, cap, cur, h1, h2, h3, h4⟩ => ⟨g, cap, cur, h1, h2, ?_, h4⟩⟩
  rw [Below.heap_setCell _ _ _ _ (by rintro rfl; exact hp (by rw [h1]; rfl))]
  exact h3

/-- a world in which but the cells of 'S' are as they were (those of 'S' are there still). -/
structure Scrib (S : Nat → Nat → Prop) (w w' : World) : Prop where
  os : w'.os = w.os
  tape : w'.tape = w.tape
  output : w'.output = w.output
  size : w.heap.size ≤ w'.heap.size
  block : ∀ b, b < w.heap.size → (∀ o, ¬ S b o) → w'.heap[b]? = w.heap[b]?
  cell : ∀ b o v, w.cell? ⟨b, o, none⟩ = some v → ∃ v', w'.cell? ⟨b, o, none⟩ = some v' ∧ (¬ S b o → v' = v)
  free : ∀ b o, b < w.heap.size → w.frozen? ⟨b, o, none⟩ = false → w'.frozen? ⟨b, o, none⟩ = false
theorem Scrib.refl (S : Nat → Nat → Prop) (w : World) : Scrib S w w := ⟨rfl, rfl, rfl, Nat.le_refl _, fun _ _ _ => rfl, fun _ _ v h => ⟨v, h, fun _ => rfl⟩, fun _ _ _ h => h⟩
theorem Scrib.trans {S : Nat → Nat → Prop} {a b c : World} (h : Scrib S a b) (k : Scrib S b c) : Scrib S a c :=
  ⟨k.os.trans h.os, k.tape.trans h.tape, k.output.trans h.output, Nat.le_trans h.size k.size, fun i hi hs => (k.block i (Nat.lt_of_lt_of_le hi h.size) hs).trans (h.block i hi hs),
    fun i o v hv => (let ⟨v1, h1, e1⟩ := h.cell i o v hv; let ⟨v2, h2, e2⟩ := k.cell i o v1 h1; ⟨v2, h2, fun hs => (e2 hs).trans (e1 hs)⟩), fun i o hi hf => k.free i o (Nat.lt_of_lt_of_le hi h.size) (h.free i o hi hf)⟩
theorem Scrib.of_later {S : Nat → Nat → Prop} {w w' : World} (h : Later w w') : Scrib S w w' :=
  ⟨h.os, h.tape, h.output, h.size, fun i hi _ => h.block i hi, fun _ _ v hv => ⟨v, h.cell hv, fun _ => rfl⟩, fun b o hb hf => by rw [h.frozens b o hb]; exact hf⟩
theorem Scrib.mono {S S' : Nat → Nat → Prop} {w w' : World} (h : Scrib S w w') (hs : ∀ b o, S b o → S' b o) : Scrib S' w w' :=
  ⟨h.os, h.tape, h.output, h.size, fun i hi hn => h.block i hi fun o ho => hn o (hs _ _ ho), fun b o v hv => (let ⟨v', h1, h2⟩ := h.cell b o v hv; ⟨v', h1, fun hn => h2 fun ho => hn (hs _ _ ho)⟩), h.free⟩
theorem Scrib.keeps {S : Nat → Nat → Prop} {w w' : World} (h : Scrib S w w') : Keeps (fun b => ∀ o, ¬ S b o) w w' := ⟨h.os, h.tape, h.output, h.size, fun k hk hs => h.block k hk hs⟩
theorem Scrib.same {S : Nat → Nat → Prop} {w w' : World} (h : Scrib S w w') {b o : Nat} {v : Value} (hv : w.cell? ⟨b, o, none⟩ = some v) (hs : ¬ S b o) : w'.cell? ⟨b, o, none⟩ = some v := by
  obtain ⟨v', h1, h2⟩ := h.cell b o v hv
  rw [h1, h2 hs]
theorem Scrib.there {S : Nat → Nat → Prop} {w w' : World} (h : Scrib S w w') {b o : Nat} {v : Value} (hv : w.cell? ⟨b, o, none⟩ = some v) : ∃ v', w'.cell? ⟨b, o, none⟩ = some v' := let ⟨v', h1, _⟩ := h.cell b o v hv; ⟨v', h1⟩
theorem cell_set_other {w : World} {p q : Addr} {x v : Value} (h : w.cell? q = some v) (hpq : p.block ≠ q.block ∨ (q.spot = none ∧ p.spot = none ∧ p.off ≠ q.off)) : (w.setCell p x).cell? q = some v := by
  obtain ⟨v', hv'⟩ := cell?_setCell_some (w := w) (p := p) (x := x) (q := q) (v := v) h
  rw [hv']
  obtain ⟨b, i, s⟩ := p
  obtain ⟨b', i', s'⟩ := q
  rcases hpq with hb | ⟨hs, hs', hi⟩
  · have hh := Below.heap_setCell w ⟨b, i, s⟩ x b' (fun e => hb e.symm)
    have := World.cell?_of_block (w := w) (w' := w.setCell ⟨b, i, s⟩ x) (a := ⟨b', i', s'⟩) hh
    rw [this, h] at hv'
    exact hv'.symm
  · simp only at hs hs' hi
    subst hs hs'
    by_cases hb : b = b'
    · subst hb
      unfold World.cell? at h hv'
      cases hw : w.heap[b]? with
      | none => simp [hw] at h
      | some o =>
        cases o with
        | cells c t f =>
          have h2 := obj_setCell (i := i) hw x
          simp only [hw] at h
          simp only [h2] at hv'
          simp_all
        | _ => simp_all
    · have hh := Below.heap_setCell w ⟨b, i, none⟩ x b' (fun e => hb e.symm)
      have := World.cell?_of_block (w := w) (w' := w.setCell ⟨b, i, none⟩ x) (a := ⟨b', i', none⟩) hh
      rw [this, h] at hv'
      exact hv'.symm
theorem Scrib.set {S : Nat → Nat → Prop} {a w : World} (h : Scrib S a w) {b o : Nat} (hs : S b o) (v : Value) : Scrib S a (w.setCell ⟨b, o, none⟩ v) := by
  refine h.trans ⟨rfl, rfl, rfl, by simp [World.setCell], fun k hk hn => Below.heap_setCell w _ v k (by rintro rfl; exact hn _ hs), fun b' o' u hu => ?_, fun b' o' hb hf => ?_⟩
  · obtain ⟨v', hv'⟩ := cell?_setCell_some (w := w) (p := ⟨b, o, none⟩) (x := v) (q := ⟨b', o', none⟩) (v := u) hu
    refine ⟨v', hv', fun hn => ?_⟩
    have := cell_set_other (p := ⟨b, o, none⟩) (x := v) hu (by
      by_cases hb : b = b'
      · exact .inr ⟨rfl, rfl, fun he => hn (by subst hb; simp only at he; subst he; exact hs)⟩
      · exact .inl hb)
    rw [this] at hv'
    exact (Option.some.inj hv').symm
  · rw [World.frozen?_setCell]; exact hf
end Go.Proofs.YtgcnchmnciihnaaGreatDoor
namespace Go.Proofs.YtgcnchmnciihnaaGreatDoor
set_option linter.unusedSimpArgs false
set_option linter.unusedVariables false
open Go Go.RowKit

section
variable {P : Program} {w : World}
theorem wpList_bytes_of {ops : Array Oper} {rest : List Oper} {o : Oper} {a : Act} {Q : Exit → Act → World → Prop} (hgd : o.guard = none) (x : Operand) (src dst e : TypeId)
    (ho : o.op = .convert src dst x) (hs : P.underlying src = some .string) (hd : P.underlying dst = some (.slice e)) (he : P.underlying e = some (.int .u8)) (s : ByteArray) (hx : a.eval x = .string s)
    (h : ∀ c w', Later w w' → w'.heap.size = w.heap.size + 1 → (∀ k (hk : k < s.data.toList.length), w'.cell? ⟨w.heap.size, k, none⟩ = some (.int .u8 ((s.data.toList[k]).toNat : Int))) → wpList P ops Q rest (a.put o.dst (.slice (some ⟨w.heap.size, 0, none⟩) s.size c)) w') :
    wpList P ops Q (o :: rest) a w := by
  refine wpList_plain hgd fun K hK => ?_
  have hr := run_bytes_of_string (P := P) w src dst e s hs hd he
  unfold Oper.wp execOp
  simp only [ho, hx, Sem.run_bind, Sem.run_pure, Result.andThen_ok, hr]
  refine hK _ _ (h _ _ ((Later.drew w).alloc' _) (by simp [World.alloc]) fun k hk => ?_)
  have hsz : w.drew.heap.size = w.heap.size := rfl
  rw [← hsz]
  refine cell_obj (obj_new w.drew _) ?_
  unfold bytesRow
  have hk' : k < s.data.size := by simpa using hk
  rw [Array.getElem?_append_left (by simpa using hk')]
  simp
  exact ⟨s.data[k], by simp [hk'], rfl⟩
end

/-- a hexadecimal digit. -/
def hexD (n : Nat) : UInt8 := UInt8.ofNat (if n < 10 then 48 + n else 87 + n)
def oddB (c : UInt8) : Bool := decide (c.toNat < 32) || (decide (126 < c.toNat) || (decide (c.toNat = 39) || decide (c.toNat = 92)))
def quoteC (c : UInt8) : List UInt8 := if oddB c = true then [92, hexD (c.toNat / 16), hexD (c.toNat % 16)] else [c]
def quoteL (l : List UInt8) : List UInt8 := 39 :: (l.flatMap quoteC ++ [39])
theorem quoteC_len (c : UInt8) : (quoteC c).length ≤ 3 := by unfold quoteC; split <;> simp
theorem flat_len : ∀ l : List UInt8, (l.flatMap quoteC).length ≤ 3 * l.length
  | [] => by simp
  | c :: l => by
    have := flat_len l
    have := quoteC_len c
    simp only [List.flatMap_cons, List.length_append, List.length_cons]
    omega
theorem flat_snoc {l : List UInt8} {k : Nat} (h : k < l.length) : (l.take (k + 1)).flatMap quoteC = (l.take k).flatMap quoteC ++ quoteC l[k] := by
  rw [List.take_succ_eq_append_getElem h, List.flatMap_append, List.flatMap_cons, List.flatMap_nil, List.append_nil]
def StrTo (w : World) (l : List UInt8) (e : Ending) (w' : World) : Prop := e = .returned (.string (strB l)) ∧ Later w w'
theorem ret_str {a b : List UInt8} (h : a = b) : Ending.returned (.string (strB a)) = .returned (.string (strB b)) := by rw [h]
theorem grow_later (w : World) (k : Nat) (os : Array Obj) : Later w (Go.Sort.grow (w.drewN k) os) := Lib.below_grow _ w (Nat.le_refl _) k os
end Go.Proofs.YtgcnchmnciihnaaGreatDoor
