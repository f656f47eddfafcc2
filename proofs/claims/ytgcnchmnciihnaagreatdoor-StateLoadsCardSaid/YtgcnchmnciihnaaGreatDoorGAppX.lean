/-
  PROVED HERE: an append onto a slice of one's own, with the word of which of two things it did: it filled the slice's own block, or it left all as it was and made a new one. No program of its own.
  PROVED HERE: the contract of slices.Clone at bytes.
  PROVED HERE: the contract of the store's own choosing of cells: those of a sort, copied, in their order.
-/
import Derived.Test.YtgcnchmnciihnaaGreatDoorGPutAt
import Derived.Test.YtgcnchmnciihnaaGreatDoorGPutLaws
import Derived.Test.YtgcnchmnciihnaaGreatDoorGU8
import Derived.Test.YtgcnchmnciihnaaGreatDoorGWinPlain
import Derived.WalkSpells
import Derived.Deep.RegionLaw
import Derived.Test.YtgcnchmnciihnaaGreatDoorGSortKit
import Derived.RangeFuncKeeps
import Derived.RangeFuncFrom
import Derived.RangeFuncNested
namespace Go.Proofs.YtgcnchmnciihnaaGreatDoor
set_option linter.unusedSimpArgs false
set_option linter.unusedVariables false
open Go Go.RowKit

section
variable {P : Program} {w : World}
structure AppX (w : World) (base : Nat) (e : TypeId) (size : Nat) (v : Value) (n m : Nat) (xs : List Value) (v' : Value) (w' : World) : Prop where
  own : w'.ownsRow base e size v' (n + m) xs
  kind : (∃ g cap, v = .slice (some ⟨g, 0, none⟩) n cap ∧ v' = .slice (some ⟨g, 0, none⟩) (n + m) cap ∧ Keeps (fun b => b ≠ g) w w') ∨ (Later w w' ∧ ∀ b, v'.ownBlock = some b → w.heap.size ≤ b)
theorem append_x {base : Nat} {t ty e : TypeId} {i : TypeInfo} {z : Value} {size bytes : Nat} (ht : P.underlying t = some (.slice e)) (hi : P.info? e = some i) (hz : i.zero = some z)
    (hsize : i.size = size) (hby : i.bytes = bytes) {v : Value} {n : Nat} {xs : List Value} (hown : w.ownsRow base e size v n xs)
    {a : Addr} {m c : Nat} {news : List Value} (hl : news.length = m * size) (hnews : ∀ j u, news[j]? = some u → w.cell? (a.add j) = some u) (h1 : ∀ u ∈ news, u.oneCell' = true)
    (h63 : n + m ≤ maxLen) (hbytes : (n + m) * bytes ≤ 140737488355328) {v' : Value} {w' : World} (hr : (Builtin.append_ #[t, t] ty #[v, .slice (some a) m c]).run P w = .ok v' w') (h3 : w.grownBy w' v.ownBlock) :
    (∃ g cap, v = .slice (some ⟨g, 0, none⟩) n cap ∧ v' = .slice (some ⟨g, 0, none⟩) (n + m) cap ∧ Keeps (fun b => b ≠ g) w w') ∨ (Later w w' ∧ ∀ b, v'.ownBlock = some b → w.heap.size ≤ b) := by
  subst hsize
  subst hby
  have hsmall : n + m ≤ 9223372036854775807 := by simp only [maxLen] at h63; omega
  rcases hown.2 with ⟨rfl, rfl⟩ | ⟨g, cap, cur, rfl, hbg, hg, hnc, hcm, hcs, htake⟩
  · by_cases hm : m = 0
    · subst hm
      have hn : news = [] := List.eq_nil_of_length_eq_zero (by simpa using hl)
      subst hn
      have : (Builtin.append_ #[t, t] ty #[.slice none 0 0, .slice (some a) 0 c]).run P w = .ok (.slice none 0 0) w := by
        simp [Builtin.append_, run_underlying ht, sizeOf, typeInfo, hi, Builtin.lenOf, Builtin.firstCells, loadCells, loadCellsFrom]
      rw [this] at hr
      injection hr with hv hw
      subst hv hw
      exact .inr ⟨Later.refl _, fun b hb => by cases hb⟩
    · have hr' := run_append_nil (P := P) w t ty e i z ht hi hz a m c news hl hnews (by omega) (by omega) (by have hb := hbytes; simp only [Nat.zero_add] at hb; omega)
      rw [hr'] at hr
      injection hr with hv hw
      subst hv hw
      exact .inr ⟨((Later.refl w).drew').alloc' _, fun b hb => by simp only [Value.ownBlock, Option.some.injEq] at hb; omega⟩
  · by_cases hroom : n + m ≤ cap
    · have hfit : n * i.size + news.length ≤ cur.size := by rw [hl, hcs, ← Nat.add_mul]; exact Nat.mul_le_mul_right _ hroom
      rw [run_append_room (P := P) w t ty e i ht hi g n cap cur hg a m c news hl hnews h1 hroom hfit] at hr
      injection hr with hv hw
      subst hv
      exact .inl ⟨g, cap, rfl, rfl, (Keeps.of_grown h3).mono fun b _ hb e => hb (by simp only [Value.ownBlock, Option.some.injEq] at e; exact e)⟩
    · have holds : ∀ j u, xs[j]? = some u → w.cell? ((⟨g, 0, none⟩ : Addr).add j) = some u := hown.cells (g := g) rfl
      have hr' := run_append_grow (P := P) w t ty e i z ht hi hz ⟨g, 0, none⟩ n cap xs hown.1 holds a m c news hl hnews (by omega) (by omega) (growslice_fits (by omega) hbytes)
      rw [hr'] at hr
      injection hr with hv hw
      subst hv hw
      exact .inr ⟨((Later.refl w).drew').alloc' _, fun b hb => by simp only [Value.ownBlock, Option.some.injEq] at hb; omega⟩
theorem wpList_append_objx {ops : Array Oper} {rest : List Oper} {o : Oper} {a : Act} {Q : Exit → Act → World → Prop} (hgd : o.guard = none) (s x : Operand) (t : TypeId)
    (ho : o.op = .call { callee := .builtin .append, args := #[s, x], argTypes := #[t, t] })
    (e : TypeId) (size bytes : Nat) (ht : P.underlying t = some (.slice e)) (hI : ElemInfo P e size bytes)
    {base : Nat} {v : Value} {n : Nat} {xs : List Value} (hs : a.eval s = v) (hown : w.ownsRow base e size v n xs)
    {b m c : Nat} {news : List Value} {T : TypeId} {f : Nat × Nat} (hx : a.eval x = .slice (some ⟨b, 0, none⟩) m c) (hsrc : w.heap[b]? = some (.cells news.toArray T f)) (hl : news.length = m * size) (h1 : ∀ u ∈ news, u.oneCell' = true)
    (hbytes : (n + m) * bytes ≤ 140737488355328) (h63 : n + m ≤ maxLen) (hbase : base ≤ w.heap.size)
    (h : ∀ v' w', AppX w base e size v n m (xs ++ news) v' w' → wpList P ops Q rest (a.put o.dst v') w') : wpList P ops Q (o :: rest) a w := by
  obtain ⟨i, z, hi, hz, h3, h4, h5, h6⟩ := hI.ex
  have hnews : ∀ j u, news[j]? = some u → w.cell? ((⟨b, 0, none⟩ : Addr).add j) = some u := by
    intro j u hu
    rw [add_none rfl]
    exact cell_obj hsrc (by simpa using hu)
  refine wpList_plain hgd fun K hK => ?_
  obtain ⟨v', w', hr, k2, k3, _⟩ := run_append_own (P := P) w base t o.type e i z size bytes ht hi hz h3 h4 h5 h6 v n xs hown ⟨b, 0, none⟩ m c news hl hnews h1 h63 hbytes hbase
  have hb := append_x ht hi hz h3 h4 hown hl hnews h1 h63 hbytes hr k3
  unfold Oper.wp execOp
  simp only [ho, resolve, invoke, builtin, Sem.run_bind, Sem.run_pure, Result.andThen_ok, List.map_toArray, List.map_cons, List.map_nil, hs, hx, hr]
  exact hK _ _ (h v' w' ⟨k2, hb⟩)
end
end Go.Proofs.YtgcnchmnciihnaaGreatDoor
namespace Go.Proofs.YtgcnchmnciihnaaGreatDoor
set_option linter.unusedSimpArgs false
set_option linter.unusedVariables false
open Go.RowKit

def ClonedB (w : World) (l : List UInt8) (e : Ending) (w' : World) : Prop := ∃ v', e = .returned v' ∧ w'.ownsRow w.heap.size 5 1 v' l.length (byteCells l) ∧ Later w w'
theorem clone_bytes (l : List UInt8) (v : Value) (w : World) (hv : IsBytes w v l) (hl : l.length ≤ 140737488355328) :
    Calls Tryz.prog 19 #[v] w (ClonedB w l) := by
  have hnw := fun {a : Option Addr} {n c : Nat} (h : v = .slice a n c) {ad : Addr} (ha : a = some ad) => SliceOf.news hv h ha
  obtain ⟨p, c, rfl, hac, hcm, hnil, hea⟩ := hv
  have hcap : c ≤ 9223372036854775807 := by unfold maxLen at hcm; omega
  cases p with
  | none =>
    obtain rfl : c = 0 := hnil rfl
    have hl0 : l.length = 0 := by omega
    have hl1 : l = [] := List.eq_nil_of_length_eq_zero hl0
    subst hl1
    clear hnil hl0 hac hcm hcap hea hl hnw
    have he := fun (w : World) => Lib.run_eql_slice_nil (P := Tryz.prog) w 35 5 none 0 0 0 0 Tryz.underlying35
    go_enter Tryz.func19, Tryz.ntmps19
    go_wp2
    go_ret
    exact ⟨_, rfl, ⟨rfl, .inl ⟨rfl, rfl⟩⟩, Later.refl _⟩
  | some a =>
    obtain ⟨i0, hi, hz0, hz1, hz2⟩ := info_parts infoU8
    have hown := World.ownsRow_lit (base := w.heap.size) (e := 5) (size := 1) w #[] 0 (Nat.le_refl _) (by unfold maxLen; omega) rfl
    have hnews : ∀ j u, (byteCells l)[j]? = some u → (w.alloc (.cells #[] 5)).cell? (a.add j) = some u := fun j u h => (Later.alloc w _).cell (hnw rfl rfl j u h)
    have HO := hid hown; have HN := hid hnews; have HL := hid hl; have HI := hid hi
    clear hown hnews hnil hea hcap hcm hl hi hnw
    have he := fun (w : World) => Lib.run_eql_slice_nil (P := Tryz.prog) w 35 5 (some a) l.length c 0 0 Tryz.underlying35
    go_enter Tryz.func19, Tryz.ntmps19
    go_wp2_with (at_builtin; refine wpList_append_own _ rfl _ _ 35 rfl w.heap.size 5 i0 _ 1 1 Tryz.underlying35 HI.out hz0 hz1 hz2 rfl (by decide) _ _ _ rfl HO.out a l.length c (byteCells l) rfl (by rw [byteCells_length, Nat.mul_one]) HN.out (byteCells_one l) ?c1 ?c2 ?c3 ?_)
    case c1 => have := HL.out; unfold maxLen; omega
    case c2 => have := HL.out; omega
    intro v' w1 hown1 hgrow1 hnil1
    go_wp2
    go_ret
    refine ⟨_, rfl, hown1, ?_⟩
    have hb := (Below.refl w.heap.size w).alloc (Nat.le_refl _) (.cells #[] 5)
    exact hb.grown hgrow1 (by simp) (fun k hk => by simp [Value.ownBlock] at hk; omega)
end Go.Proofs.YtgcnchmnciihnaaGreatDoor
namespace Go.Proofs.YtgcnchmnciihnaaGreatDoor
set_option linter.unusedSimpArgs false
set_option linter.unusedVariables false
open Go Go.RowKit Go.Sort

/-- what a cell's slices hold, in blocks of a sort. -/
def HeldIn (U : Nat → Prop) (w : World) (x : KX) : Prop := ValsIn U w x.kv x.cell.key ∧ BytesIn U w x.dv x.cell.data
theorem HeldIn.kept {U K : Nat → Prop} {w w' : World} {x : KX} (h : HeldIn U w x) (k : Keeps K w w') (hs : ∀ b, U b → b < w.heap.size → K b) : HeldIn U w' x :=
  ⟨SliceOf.map h.1 fun b o y hb hx => ⟨hb, hx.kept (hs b hb (cell_lt hx.1)) k⟩, SliceOf.map h.2 fun b o y hb hx => ⟨hb, ByteAt.kept hx (hs b hb (cell_lt hx)) k⟩⟩
theorem HeldIn.later {U : Nat → Prop} {w w' : World} {x : KX} (h : HeldIn U w x) (k : Later w w') : HeldIn U w' x := h.kept (k.keeps fun _ => True) fun _ _ _ => trivial
theorem HeldIn.mono {U U' : Nat → Prop} {w : World} {x : KX} (h : HeldIn U w x) (hs : ∀ b, U b → b < w.heap.size → U' b) : HeldIn U' w x :=
  ⟨SliceOf.map h.1 fun b o y hb hx => ⟨hs b hb (cell_lt hx.1), hx⟩, SliceOf.map h.2 fun b o y hb hx => ⟨hs b hb (cell_lt hx), hx⟩⟩
theorem HeldIn.v {U : Nat → Prop} {w : World} {x : KX} (h : HeldIn U w x) : CellV U w x.u x.cell := ⟨_, _, rfl, h.1, h.2⟩
/-- cells that were handed out: in blocks of their own. -/
def CellsOwn (B : Nat) (w : World) (v : Value) (l : List CellP) : Prop := ∃ ks : List KX, ks.map (·.cell) = l ∧ OwnK B w v ks ∧ ∀ x ∈ ks, HeldIn (fun b => B ≤ b ∧ v.ownBlock ≠ some b) w x
def SomeTo (w : World) (l : List CellP) (e : Ending) (w' : World) : Prop := ∃ v, e = .returned v ∧ CellsOwn w.heap.size w' v l ∧ Later w w'
theorem keepsOthers_later {w w' : World} (h : Later w w') : KeepsOthers w w' := ⟨h.size, fun _ _ hk _ => h.obj hk⟩
theorem keeps_not {w w' : World} {row : Option Nat} (hg : w.grownBy w' row) (hr : ∀ r, row = some r → ∃ o : Obj, w.heap[r]? = some o ∧ o.isCells = false) : ∀ (b : Nat) (o : Obj), w.heap[b]? = some o → o.isCells = true → w'.heap[b]? = some o := fun b o hb ho => by
  refine (hg.block b (Array.getElem?_eq_some_iff.1 hb).1 fun e => ?_).trans hb
  obtain ⟨o', h1, h2⟩ := hr b e.symm
  rw [hb] at h1; cases h1; rw [ho] at h2; cases h2
theorem cellObj : (Tryz.prog.info? 57).map (fun i => (i.zero, i.size, i.bytes)) = some (some (.agg #[.slice none 0 0, .int .i64 0, .int .i64 0, .slice none 0 0]), 4, 64) := by kernel_rfl
theorem cellElem : ElemInfo Tryz.prog 57 4 64 := ElemInfo.of cellObj rfl (by decide)
theorem kx_ones {x : KX} {U : Nat → Prop} {w : World} (h : HeldIn U w x) : ∀ u ∈ x.cells, u.oneCell' = true := by
  intro v hv
  simp only [KX.cells, List.mem_cons, List.not_mem_nil, or_false] at hv
  rcases hv with rfl | rfl | rfl | rfl
  · exact slice_one h.1
  · rfl
  · rfl
  · exact slice_one h.2
/-- what the loop has gathered. -/
structure Gath {V : Nat → Prop} {w3 : World} {L : List CellP} (B T3 T4 : Nat) (isv : Value) (p : CellP → Bool) (pre : List (CXs V w3 L)) (W : World) (v : Value) (ks : List KX) : Prop where
  t4 : W.heap[T4]? = some (.cells #[v] 53 (0, 0))
  own : OwnK B W v ks
  cells : ks.map (·.cell) = (pre.map (·.1.cell)).filter p
  held : ∀ x ∈ ks, HeldIn (fun b => B ≤ b ∧ b ≠ T4 ∧ v.ownBlock ≠ some b) W x
  t3 : W.heap[T3]? = some (.cells #[isv] 76 (0, 0))
  keep : Keeps (fun b => b < B) w3 W
theorem held_grown {U : Nat → Prop} {W W' : World} {row : Option Nat} {x : KX} (h : HeldIn U W x) (hg : W.grownBy W' row) (hr : ∀ r, row = some r → ∃ o : Obj, W.heap[r]? = some o ∧ o.isCells = false) : HeldIn U W' x := by
  have hk : Keeps (fun b => ∃ o : Obj, W.heap[b]? = some o ∧ o.isCells = true) W W' := (Keeps.of_grown hg).mono fun b hb ⟨o, h1, h2⟩ e => by
    obtain ⟨o', h3, h4⟩ := hr b e.symm
    rw [h1] at h3; cases h3; rw [h2] at h4; cases h4
  have hcell : ∀ b o x, W.cell? ⟨b, o, none⟩ = some x → ∃ ob : Obj, W.heap[b]? = some ob ∧ ob.isCells = true := fun b o x hx => by
    unfold World.cell? at hx
    cases ho : W.heap[b]? with
    | none => simp [ho] at hx
    | some ob => exact ⟨ob, rfl, by cases ob <;> simp_all [Obj.isCells]⟩
  exact ⟨SliceOf.map h.1 fun b o y hb hy => ⟨hb, hy.kept (hcell _ _ _ hy.1) hk⟩, SliceOf.map h.2 fun b o y hb hy => ⟨hb, ByteAt.kept hy (hcell _ _ _ hy) hk⟩⟩
theorem rows_grown {W W' : World} {row : Option Nat} {B s n : Nat} {e : TypeId} {v : Value} {xs : List Value} (h : W.ownsRow B e s v n xs) (hg : W.grownBy W' row) (hr : ∀ r, row = some r → ∃ o : Obj, W.heap[r]? = some o ∧ o.isCells = false) : W'.ownsRow B e s v n xs := by
  rcases h with ⟨h1, h2 | ⟨g, cap, cur, h2, h3, h4, h5⟩⟩
  · exact ⟨h1, .inl h2⟩
  · exact ⟨h1, .inr ⟨g, cap, cur, h2, h3, keeps_not hg hr _ _ h4 rfl, h5⟩⟩
section
variable {V : Nat → Prop} {w3 : World} {L : List CellP} {B T3 T4 : Nat} {isv : Value} {p : CellP → Bool} {pre : List (CXs V w3 L)} {W W' : World} {v : Value} {ks : List KX}
theorem Gath.later (h : Gath B T3 T4 isv p pre W v ks) (k : Later W W') : Gath B T3 T4 isv p pre W' v ks :=
  { t4 := k.obj h.t4, own := owns_at h.own k, cells := h.cells, held := fun x hx => (h.held x hx).later k, t3 := k.obj h.t3, keep := h.keep.more k }
theorem Gath.own_grown (hB : B ≤ w3.heap.size) : OwnFrom w3.heap.size (fun (pre : List (CXs V w3 L)) W => ∃ v ks, Gath B T3 T4 isv p pre W v ks) := fun pre W W' row ⟨v, ks, h⟩ hg hr => by
  have hr' := fun r e => (hr r e).2
  have hc := keeps_not hg hr'
  exact ⟨v, ks, hc _ _ h.t4 rfl, rows_grown h.own hg hr', h.cells, fun x hx => held_grown (h.held x hx) hg hr', hc _ _ h.t3 rfl, h.keep.grown hg fun r e => (hr r e).1⟩
end
def KeyK (B : Nat) (c : CellP) (v : Value) (w : World) : Prop := ∃ a k, v = .slice a c.key.length k ∧ w.ownsRow B 52 3 (.slice a c.key.length k) c.key.length (valCells c.key)
def DatK (B : Nat) (c : CellP) (v : Value) (w : World) : Prop := ∃ b m, v = .slice b c.data.length m ∧ w.ownsRow B 5 1 (.slice b c.data.length m) c.data.length (byteCells c.data)
def AggK (B : Nat) (c : CellP) (v : Value) (w : World) : Prop := ∃ a k b m, v = .agg #[.slice a c.key.length k, .int .i64 c.win.1, .int .i64 c.win.2, .slice b c.data.length m] ∧
  w.ownsRow B 52 3 (.slice a c.key.length k) c.key.length (valCells c.key) ∧ w.ownsRow B 5 1 (.slice b c.data.length m) c.data.length (byteCells c.data)
def NewK (B : Nat) (c : CellP) (v : Value) (w : World) : Prop := ∃ X a k b m, v = .slice (some ⟨X, 0, none⟩) 1 1 ∧ B ≤ X ∧ w.heap[X]? = some (.cells #[.slice a c.key.length k, .int .i64 c.win.1, .int .i64 c.win.2, .slice b c.data.length m] 57 (0, 0)) ∧
  w.ownsRow B 52 3 (.slice a c.key.length k) c.key.length (valCells c.key) ∧ w.ownsRow B 5 1 (.slice b c.data.length m) c.data.length (byteCells c.data)
/-- a copied cell stands in blocks of its own. -/
theorem held_own {w : World} {B : Nat} {U : Nat → Prop} {x : KX} (h1 : w.ownsRow B 52 3 x.kv x.cell.key.length (valCells x.cell.key)) (h2 : w.ownsRow B 5 1 x.dv x.cell.data.length (byteCells x.cell.data)) (hU : ∀ b, B ≤ b → b < w.heap.size → U b) : HeldIn U w x :=
  HeldIn.mono (U := fun b => B ≤ b) ⟨owned_vals h1, owned_bytes h2⟩ hU
/-- how a round begins: the cell in a variable of its own. -/
def CellAx {V : Nat → Prop} {w3 : World} {L : List CellP} (S M T3 T4 Bm fid : Nat) (caps : Array Value) (x : CXs V w3 L) (a' : Act) (W : World) : Prop :=
  ∃ Bc, a' = ⟨#[.pointer (some ⟨S, 0, none⟩), .func (.func fid) #[] caps, undef, .pointer (some ⟨T3, 0, none⟩), .pointer (some ⟨T4, 0, none⟩), .pointer (some ⟨Bc, 0, none⟩), .pointer (some ⟨S, 0, none⟩), .pointer (some ⟨S, 0, none⟩), .pointer (some ⟨S, 2, none⟩), .map (some M),
    .func (.func 70) #[] #[.pointer (some ⟨Bm, 0, none⟩)], x.1.u, undef, undef, undef, undef, undef, undef, undef, undef, undef, undef, undef, undef, undef, undef, undef, undef, undef, undef], []⟩ ∧
    W.heap[Bc]? = some (.cells x.1.u.cells 57 (0, 0))
theorem cellAx_own {V : Nat → Prop} {w3 : World} {L : List CellP} {S M T3 T4 Bm fid : Nat} {caps : Array Value} (B : Nat) (x : CXs V w3 L) (a' : Act) : OwnFrom B (fun (_ : Unit) W => CellAx S M T3 T4 Bm fid caps x a' W) := fun _ W W' row ⟨Bc, h1, h2⟩ hg hr =>
  ⟨Bc, h1, keeps_not hg (fun r e => (hr r e).2) _ _ h2 rfl⟩
attribute [local go_sem] Oper.semAt_some
set_option maxRecDepth 100000 in
set_option maxHeartbeats 8000000 in
theorem some_any {V : Nat → Prop} {S M : Nat} {lo hi : Int} {L : List CellP} (w : World) (h : StAt V w S M lo hi L) (fid : Nat) (caps : Array Value) (p : CellP → Bool)
    (hent : ∀ args w, (callFunc fid args).run Tryz.prog w = .ok (.enter fid args) w)
    (hF : ∀ (W : World) (c : CellP) (u : Value), Later w W → c ∈ L → CellV (fun b => b < w.heap.size) W u c → Calls Tryz.prog fid (#[u] ++ caps) W (TruthTo W (p c))) :
    Calls Tryz.prog 25 #[.pointer (some ⟨S, 0, none⟩), .func (.func fid) #[] caps] w (SomeTo w (L.filter p)) := by
  have HH := hid h; have HF := hid hF
  have HID := hid h.ids
  clear h hF
  refine (callsIn_wide (n := 3)).1 ?_
  refine callsIn_of_wp_marks Tryz.func25 rfl trivial ?_ rfl
  simp only [Tryz.ntmps25, List.size_toArray, List.length_cons, List.length_nil, Nat.reduceAdd, Nat.reduceSub, Array.replicate_succ, Array.replicate_zero, List.push_toArray, List.append_toArray, List.nil_append, List.cons_append]
  refine (wpIn_wide (n := 3)).2 ?_
  go_upto_region 1 with (fail)
  obtain ⟨w2, hw2⟩ : ∃ w2, w2 = (w.alloc (.cells #[.func (.func fid) #[] caps] 76 (0, 0))).alloc (.cells #[.slice none 0 0] 53 (0, 0)) := ⟨_, rfl⟩
  obtain ⟨T3, hT3⟩ : ∃ T, T = w.heap.size := ⟨_, rfl⟩
  obtain ⟨T4, hT4⟩ : ∃ T, T = w.heap.size + 1 := ⟨_, rfl⟩
  have HL2 : Hid (Later w w2) := hid (by rw [hw2]; exact Later.trans _ _ _ (Later.alloc _ _) (Later.alloc _ _))
  have HO3 : Hid (w2.heap[T3]? = some (.cells #[.func (.func fid) #[] caps] 76 (0, 0))) := hid (by rw [hw2, hT3]; exact (Later.alloc _ _).obj (obj_new _ _))
  have HO4 : Hid (w2.heap[T4]? = some (.cells #[.slice none 0 0] 53 (0, 0))) := hid (by rw [hw2, hT4]; exact obj_at (World.size_alloc _ _).symm)
  have HT : Hid (T3 = w.heap.size ∧ T4 = w.heap.size + 1) := hid ⟨hT3, hT4⟩
  rw [← hw2, ← hT4, ← hT3]
  clear hw2 hT3 hT4
  have c2 := cell_obj (i := 2) (HL2.out.obj HH.out.obj) (v := .map (some M)) rfl
  go_wp2_with fail
  refine (values_any M _).mono ?_
  rintro e w3 ⟨rfl, hw3⟩
  obtain ⟨Bm, hBm⟩ : ∃ Bm, Bm = w2.heap.size := ⟨_, rfl⟩
  have HL3 : Hid (Later w2 w3) := hid (by rw [hw3]; exact Later.alloc _ _)
  have HBm : Hid (w3.cell? ⟨Bm, 0, none⟩ = some (.map (some M)) ∧ Bm < w3.heap.size) := hid (by rw [hw3, hBm]; exact ⟨cell_obj (i := 0) (obj_new _ _) rfl, by rw [World.size_alloc]; omega⟩)
  rw [← hBm]
  clear hw3 hBm c2
  have HLW := hid (Later.trans _ _ _ HL2.out HL3.out)
  have HM : Hid (CellsMap (fun b => b < w.heap.size) w3 M L) := hid ((HH.out.map.mono fun b _ hb => hb).later HLW.out)
  go_wp2_with fail
  refine (wpIn_wide (n := 3)).1 ?_
  refine wpIn_rangeFunc_ownH rfl (by decide) (gf := 70) (lb := #[.pointer (some ⟨Bm, 0, none⟩)]) rfl trivial (enters_of Tryz.func70 (by kernel_rfl) rfl)
    (encs := fun x : CXs (fun b => b < w.heap.size) w3 L => #[x.1.u]) (Kp := KeepsWalks) (S := fun ys => (ys.map (·.1.cell)).Perm L) (Sp := fun _ => True) (N := L.length) (w0 := w3)
    (values_stops Fence.wide (3 - 1) trivial rfl (by decide) Bm M L HH.out.st.sorted HID.out w3 HBm.out.2 HBm.out.1 HM.out)
    KeepsWalks.trans walksK_b (Below.refl _ _) (fun _ => rfl)
    (fun pre W => ∃ v ks, Gath w.heap.size T3 T4 (.func (.func fid) #[] caps) p pre W v ks)
    (fun _ _ _ => False)
    (Gath.own_grown HLW.out.size)
    (fun _ _ _ _ _ hs _ _ => hs)
    ⟨_, [], HL3.out.obj HO4.out, ⟨rfl, .inl ⟨rfl, rfl⟩⟩, rfl, fun x hx => (by cases hx), HL3.out.obj HO3.out, Keeps.refl _ _⟩
    (CellAx S M T3 T4 Bm fid caps) (cellAx_own _) ?assign ?body ?done ?stop
  case assign =>
    rintro l pre ⟨⟨c, u⟩, hcL, hu⟩ W K hI hK
    simp only at hu
    obtain ⟨p1, d1, p2, d2, rfl, -, -⟩ := cell_val hu
    have hfin := hK _ _ ((KeepsOthers.alloc W (.cells #[.slice p1 c.key.length d1, .int .i64 c.win.1, .int .i64 c.win.2, .slice p2 c.data.length d2] 57 (0, 0))).from _) (KeepsWalks.alloc _ _) ((Gath.own_grown HLW.out.size).alloc _ hI) ⟨W.heap.size, rfl, obj_new _ _⟩
    have HFIN := hid hfin
    clear hfin hK hI
    gi_wp2
    exact HFIN.out
  case body =>
    rintro l pre ⟨⟨c, u⟩, hcL, hu⟩ a' W hl ⟨r, hr⟩ ⟨v, ks, G⟩ ⟨Bc, rfl, hBc⟩ hlt
    simp only at hcL hu hBc ⊢
    obtain ⟨p1, d1, p2, d2, rfl, -, -⟩ := cell_val hu
    simp only [Value.cells] at hBc
    obtain ⟨av, cv, hav⟩ := ownsRow_slice G.own
    have HG := hid G
    have HLB := hid (later_keep HLW.out G.keep (Nat.le_refl _))
    have HU := hid (hu.kept G.keep fun b hb _ => hb)
    have HKL : Hid (c.key.length ≤ 8 ∧ c.data.length ≤ 67108864) := hid ⟨(HID.out c hcL).len, by have h1 := weightL_mem hcL; have h2 := HH.out.st.full; unfold CellP.weight at h1; omega⟩
    have HKS : Hid (ks.length ≤ 2097152) := hid (by
      have h1 : ks.length = ((pre.map (·.1.cell)).filter p).length := by rw [← G.cells, List.length_map]
      have h2 := List.length_filter_le p (pre.map (·.1.cell))
      rw [List.length_map] at h2
      have := HH.out.len
      omega)
    have HSTEP : Hid ((ks.map (·.cell)) ++ (if p c then [c] else []) = ((pre ++ [(⟨⟨c, .agg #[.slice p1 c.key.length d1, .int .i64 c.win.1, .int .i64 c.win.2, .slice p2 c.data.length d2]⟩, hcL, hu⟩ : CXs (fun b => b < w.heap.size) w3 L)]).map (·.1.cell)).filter p) := hid (by
      rw [G.cells, List.map_append, List.filter_append, List.map_cons, List.map_nil]
      cases hp : p c
      · rw [List.filter_cons_of_neg (by simp [hp])]; rfl
      · rw [List.filter_cons_of_pos hp]; rfl)
    have x3 := cell_obj (i := 0) G.t3 (v := .func (.func fid) #[] caps) rfl
    have y0 := cell_obj (i := 0) hBc (v := .slice p1 c.key.length d1) rfl
    have y1 := cell_obj (i := 1) hBc (v := .int .i64 c.win.1) rfl
    have y2 := cell_obj (i := 2) hBc (v := .int .i64 c.win.2) rfl
    have y3 := cell_obj (i := 3) hBc (v := .slice p2 c.data.length d2) rfl
    have HCL := hid hcL; have HBC := hid hBc
    have hcall := HF.out W c _ HLB.out hcL HU.out
    clear G hlt hBc hr hl
    gi_wp2
    refine ⟨trivial, (callsIn_round hcall).mono ?_⟩
    rintro e W2 ⟨rfl, hL2⟩
    clear hcall
    have HL2 := hid hL2
    have hko := keepsOthers_later hL2
    cases hp : p c with
    | false =>
      have HP : Hid (ks.map (·.cell) = ks.map (·.cell) ++ (if p c then [c] else [])) := hid (by rw [hp]; simp)
      gi_wp2
      refine ⟨hko.from _, hko.walks, v, ks, ?_⟩
      have G2 := HG.out.later HL2.out
      exact { G2 with cells := HP.out.trans HSTEP.out }
    | true =>
      have x4 := cell_obj (i := 0) (HL2.out.obj HG.out.t4) (v := v) rfl
      have y0 := cell_obj (i := 0) (HL2.out.obj HBC.out) (v := .slice p1 c.key.length d1) rfl
      have y1 := cell_obj (i := 1) (HL2.out.obj HBC.out) (v := .int .i64 c.win.1) rfl
      have y2 := cell_obj (i := 2) (HL2.out.obj HBC.out) (v := .int .i64 c.win.2) rfl
      have y3 := cell_obj (i := 3) (HL2.out.obj HBC.out) (v := .slice p2 c.data.length d2) rfl
      have HU2 := hid (HU.out.later HL2.out)
      have HKV : Hid (IsVals W2 (.slice p1 c.key.length d1) c.key ∧ IsBytes W2 (.slice p2 c.data.length d2) c.data) := hid (by
        obtain ⟨kv, dv, e, h1, h2⟩ := HU2.out
        simp only [Value.agg.injEq, Array.mk.injEq, List.cons.injEq, and_true, true_and] at e
        obtain ⟨rfl, rfl⟩ := e
        exact ⟨h1.all, h2.all⟩)
      have HP := hid hp
      subst hav
      clear x3 hp
      gi_wp2
      refine wpIn_region_plan (by kernel_rfl) (by kernel_rfl) [] [11, 12] (by kernel_rfl) (by rintro ⟨_, _, h⟩; exact h) (by kernel_rfl) (fun _ _ d _ _ h => by cases d <;> exact h) (Later) (Later.refl) (Later.trans) (kinds [(3, KeyK W2.heap.size c), (8, DatK W2.heap.size c), (9, AggK W2.heap.size c), (10, NewK W2.heap.size c)]) (kinds_still (by simp only [List.mem_cons, List.not_mem_nil, or_false, forall_eq_or_imp, forall_eq]; exact ⟨fun _ _ _ hR ⟨a, k, h1, h2⟩ => ⟨a, k, h1, owns_at h2 hR⟩, fun _ _ _ hR ⟨a, k, h1, h2⟩ => ⟨a, k, h1, owns_at h2 hR⟩, fun _ _ _ hR ⟨a, k, b, m, h1, h2, h3⟩ => ⟨a, k, b, m, h1, owns_at h2 hR, owns_at h3 hR⟩, fun _ _ _ hR ⟨X, a, k, b, m, h1, h0, h2, h3, h4⟩ => ⟨X, a, k, b, m, h1, h0, hR.obj h2, owns_at h3 hR, owns_at h4 hR⟩⟩)) ?_
      simp only [body, tail, numbered, Nat.reduceAdd, List.filter_cons, List.filter_nil, List.contains_cons, List.contains_nil, Nat.reduceBEq, Bool.or_false, Bool.or_true, Bool.false_or, Bool.true_or, Bool.not_true, Bool.not_false, Bool.and_true, Bool.and_false, Bool.true_and, Bool.false_and, if_true, if_false, reduceIte, Bool.false_eq_true, List.map_cons, List.map_nil]
      simp only [Pures]
      refine LexS.out ?_
      iterate 3
        first
        | (refine LexS.skip rfl ?_; simp only [Act.put, List.setIfInBounds_toArray, List.set])
        | (refine LexS.one' rfl rfl ?_
           apply Exists.intro
           refine ⟨fun w hR hF => ?_, ?_⟩
           · have hP := hR
             repeat (first | replace hP := Later.of_drew hP | replace hP := Later.of_drewN hP | replace hP := Later.of_alloc hP)
             have hcs := hR.cells
             have zx4 := hP.cell x4
             have zy0 := hP.cell y0
             have zy1 := hP.cell y1
             have zy2 := hP.cell y2
             have zy3 := hP.cell y3
             clear hR hF hP
             go_simp
             first | done | rfl
           simp only [Act.put, List.setIfInBounds_toArray, List.set])
      refine LexS.any rfl rfl (fun w hR hF => ?_) ?_
      · have hP := hR
        repeat (first | replace hP := Later.of_drew hP | replace hP := Later.of_drewN hP | replace hP := Later.of_alloc hP)
        have hsz := hP.size
        have zx4 := hP.cell x4
        have zy0 := hP.cell y0
        have zy1 := hP.cell y1
        have zy2 := hP.cell y2
        have zy3 := hP.cell y3
        clear hF hR x4 y0 y1 y2 y3
        unfold Runs
        go_simp
        refine yield_enter ?_
        refine (clone_vals c.key _ _ (HKV.out.1.later hP) (by have := HKL.out.1; omega)).mono ?_
        rintro e w' ⟨v', rfl, hc, hL⟩
        exact ⟨_, rfl, hL, (let ⟨a, k, e⟩ := ownsRow_slice hc.1; ⟨a, k, e, e ▸ ownsRow_base hc.1 hsz⟩)⟩
      rintro vk_ ⟨wk_, hRk_, hFk_⟩
      obtain ⟨a8, k8, rfl, -⟩ := hFk_ _ List.mem_cons_self _ rfl
      clear hFk_ hRk_ wk_
      simp only [Act.put, List.setIfInBounds_toArray, List.set]
      iterate 4
        first
        | (refine LexS.skip rfl ?_; simp only [Act.put, List.setIfInBounds_toArray, List.set])
        | (refine LexS.one' rfl rfl ?_
           apply Exists.intro
           refine ⟨fun w hR hF => ?_, ?_⟩
           · have hP := hR
             repeat (first | replace hP := Later.of_drew hP | replace hP := Later.of_drewN hP | replace hP := Later.of_alloc hP)
             have hcs := hR.cells
             have zx4 := hP.cell x4
             have zy0 := hP.cell y0
             have zy1 := hP.cell y1
             have zy2 := hP.cell y2
             have zy3 := hP.cell y3
             clear hR hF hP
             go_simp
             first | done | rfl
           simp only [Act.put, List.setIfInBounds_toArray, List.set])
      refine LexS.any rfl rfl (fun w hR hF => ?_) ?_
      · have hP := hR
        repeat (first | replace hP := Later.of_drew hP | replace hP := Later.of_drewN hP | replace hP := Later.of_alloc hP)
        have hsz := hP.size
        have zx4 := hP.cell x4
        have zy0 := hP.cell y0
        have zy1 := hP.cell y1
        have zy2 := hP.cell y2
        have zy3 := hP.cell y3
        clear hF hR x4 y0 y1 y2 y3
        unfold Runs
        go_simp
        refine yield_enter ?_
        refine (clone_bytes c.data _ _ (SliceOf.bytes_later HKV.out.2 hP) (by have := HKL.out.2; omega)).mono ?_
        rintro e w' ⟨v', rfl, ho, hL⟩
        exact ⟨_, rfl, hL, (let ⟨a, k, e⟩ := ownsRow_slice ho; ⟨a, k, e, e ▸ ownsRow_base ho hsz⟩)⟩
      rintro vk_ ⟨wk_, hRk_, hFk_⟩
      obtain ⟨b8, m8, rfl, -⟩ := hFk_ _ List.mem_cons_self _ rfl
      clear hFk_ hRk_ wk_
      simp only [Act.put, List.setIfInBounds_toArray, List.set]
      refine LexS.any rfl rfl (fun w hR hF => ?_) ?_
      · obtain ⟨b', m', e1, hD⟩ := hF _ List.mem_cons_self (by kernel_rfl) _ rfl
        obtain ⟨a', k', e2, hK⟩ := hF _ (List.mem_cons_of_mem _ List.mem_cons_self) (by kernel_rfl) _ rfl
        simp only [Value.slice.injEq, true_and] at e1 e2
        obtain ⟨rfl, rfl⟩ := e1
        obtain ⟨rfl, rfl⟩ := e2
        clear hF
        unfold Runs
        go_simp
        exact yield_value (Later.refl _) ⟨_, _, _, _, rfl, hK, hD⟩
      rintro v14 ⟨w5, hR5, hF5⟩
      obtain ⟨a9, k9, b9, m9, rfl, -⟩ := hF5 _ List.mem_cons_self _ rfl
      clear hF5 hR5 w5
      simp only [Act.put, List.setIfInBounds_toArray, List.set]
      refine LexS.any rfl rfl (fun w hR hF => ?_) ?_
      · have hsz := hR.size
        obtain ⟨a', k', b', m', he, hK, hD⟩ := hF _ List.mem_cons_self (by kernel_rfl) _ rfl
        simp only [Value.agg.injEq, Array.mk.injEq, List.cons.injEq, Value.slice.injEq, and_true, true_and] at he
        obtain ⟨⟨rfl, rfl⟩, rfl, rfl⟩ := he
        clear hF hR
        unfold Runs
        go_simp
        exact yield_value (Later.alloc _ _) ⟨_, _, _, _, _, rfl, hsz, obj_new _ _, owns_at hK (Later.alloc _ _), owns_at hD (Later.alloc _ _)⟩
      rintro v15 ⟨w5, hR5, hF5⟩
      obtain ⟨X, a11, k11, b11, m11, rfl, -⟩ := hF5 _ List.mem_cons_self _ rfl
      clear hF5 hR5 w5
      simp only [Act.put, List.setIfInBounds_toArray, List.set]
      refine LexS.nil ?_
      intro w4 hR4 hF4
      obtain ⟨X', a', k', b', m', he, hX, hbw, hok, hod⟩ := hF4 _ List.mem_cons_self _ rfl
      simp only [Value.slice.injEq, Option.some.injEq, Addr.mk.injEq, and_true] at he
      subst he
      clear hF4
      repeat (first | replace hR4 := Later.of_drew hR4 | replace hR4 := Later.of_drewN hR4 | replace hR4 := Later.of_alloc hR4)
      have HL4 := hid (Later.trans _ _ _ HL2.out hR4)
      have HG4 := hid (HG.out.later HL4.out)
      have HBW := hid hbw; have HOK := hid hok; have HOD := hid hod
      have HZ2 : Hid (w.heap.size ≤ W2.heap.size ∧ w3.heap.size ≤ W2.heap.size ∧ W2.heap.size ≤ w4.heap.size) := hid ⟨Nat.le_trans HLB.out.size HL2.out.size, Nat.le_trans HG.out.keep.size HL2.out.size, hR4.size⟩
      clear hR4 hbw hok hod x4 y0 y1 y2 y3
      change wpList _ _ _ _ _ _
      go_wp2_with (at_builtin; go_loud (refine wpList_append_obj rfl _ _ 53 rfl 57 4 64 Tryz.underlying53 cellElem rfl HG4.out.own (news := [.slice a' c.key.length k', .int .i64 c.win.1, .int .i64 c.win.2, .slice b' c.data.length m']) rfl HBW.out rfl (by intro u hu; simp only [List.mem_cons, List.not_mem_nil, or_false] at hu; rcases hu with rfl | rfl | rfl | rfl <;> rfl) ?c1 ?c2 ?c3 ?_))
      case c1 => have := HKS.out; omega
      case c2 => have := HKS.out; unfold maxLen; omega
      case c3 => have := HZ2.out; omega
      intro v7 w7 hA7
      have hne4 : some T4 ≠ (Value.slice av ks.length cv).ownBlock := fun e => by
        have h1 := own_ne HG4.out.own HG4.out.t4 (by decide)
        exact h1 e.symm
      have hne3 : some T3 ≠ (Value.slice av ks.length cv).ownBlock := fun e => by
        have h1 := own_ne HG4.out.own HG4.out.t3 (by decide)
        exact h1 e.symm
      have ht4 := hA7.obj HG4.out.t4 hne4
      obtain ⟨a7, c7, hv7⟩ := ownsRow_slice hA7.own
      subst hv7
      have HT47 := hid ht4
      have c47 := cell_obj (i := 0) ht4 (v := .slice av ks.length cv) rfl
      have f47 := free_obj (i := 0) ht4
      have HA7 := hid hA7
      have HNE : Hid (some T3 ≠ (Value.slice av ks.length cv).ownBlock) := hid hne3
      clear ht4 hA7 hne4 hne3
      go_wp2_with fail
      clear c47 f47
      obtain ⟨v7, hv7⟩ : ∃ v7, v7 = Value.slice a7 (ks.length + 1) c7 := ⟨_, rfl⟩
      rw [← hv7] at HA7 ⊢
      clear hv7
      obtain ⟨y, hy⟩ : ∃ y : KX, y = ⟨c, .slice a' c.key.length k', .slice b' c.data.length m'⟩ := ⟨_, rfl⟩
      have hkA := HA7.out.keeps
      have hkw : KeepsOthers w4 w7 := KeepsOthers.of_grownBy HA7.out.grown fun j o ej hj => by
        rcases HG4.out.own.2 with ⟨e, _⟩ | ⟨g, cap, cur, e, _, hgb, _⟩
        · rw [e] at ej; simp [Value.ownBlock] at ej
        · rw [e] at ej
          obtain rfl : g = j := by simpa [Value.ownBlock] using ej
          rw [hgb] at hj; cases hj; rfl
      have hko2 := ((keepsOthers_later HL4.out).trans hkw).trans (KeepsOthers.setCell w7 ⟨T4, 0, none⟩ v7)
      have hkset : Keeps (fun b => b ≠ T4) w7 (w7.setCell ⟨T4, 0, none⟩ v7) := (Keeps.refl _ _).setCell (.inl (by simp)) _
      have ho7 : OwnK w.heap.size w7 v7 (ks ++ [y]) := by
        have := HA7.out.own
        unfold OwnK
        rw [kxCells_app, List.length_append, hy]
        exact this
      have hv7T : v7.ownBlock ≠ some T4 := own_ne ho7 HT47.out (by decide)
      refine ⟨hko2.from _, hko2.walks, v7, ks ++ [y], ?_⟩
      have hT4e := obj_setCell (i := 0) HT47.out v7
      simp only [List.setIfInBounds_toArray, List.set] at hT4e
      refine { t4 := hT4e, own := owns_keep ho7 hkset (fun g hg e => hv7T (by rw [hg, e])), cells := ?_, held := fun x hx => ?_, t3 := ?_, keep := ?_ }
      · have := HSTEP.out
        rw [if_pos HP.out] at this
        rw [List.map_append, List.map_cons, List.map_nil, hy]
        exact this
      · have hblk : ∀ b, b < w4.heap.size → (Value.slice av ks.length cv).ownBlock ≠ some b → v7.ownBlock ≠ some b := fun b hb hne e => by
          rcases HA7.out.block with h1 | ⟨g, h1, h2⟩
          · exact hne (h1 ▸ e)
          · rw [h1] at e; simp only [Option.some.injEq] at e; omega
        rcases List.mem_append.1 hx with hx | hx
        · have h4 := HG4.out.held x hx
          have h7 := (h4.kept hkA fun b hb _ e => hb.2.2 e.symm)
          have h7' : HeldIn (fun b => w.heap.size ≤ b ∧ b ≠ T4 ∧ v7.ownBlock ≠ some b) w7 x :=
            ⟨SliceOf.map h4.1 fun b o z hb hz => ⟨⟨hb.1, hb.2.1, hblk b (cell_lt hz.1) hb.2.2⟩, hz.kept (fun e => hb.2.2 e.symm) hkA⟩, SliceOf.map h4.2 fun b o z hb hz => ⟨⟨hb.1, hb.2.1, hblk b (cell_lt hz) hb.2.2⟩, ByteAt.kept hz (fun e => hb.2.2 e.symm) hkA⟩⟩
          exact h7'.kept hkset fun b hb _ => hb.2.1
        · obtain rfl := List.mem_singleton.1 hx
          have hT4lt : T4 < W2.heap.size := by have := (Array.getElem?_eq_some_iff.1 (HL2.out.obj HG.out.t4)).1; exact this
          have hvlt : ∀ b, (Value.slice av ks.length cv).ownBlock = some b → b < W2.heap.size := fun b hb => Nat.lt_of_lt_of_le (ownb HG.out.own b hb).2 HL2.out.size
          have h4 : HeldIn (fun b => W2.heap.size ≤ b ∧ b < w4.heap.size) w4 x := held_own (B := W2.heap.size) (by rw [hy]; exact HOK.out) (by rw [hy]; exact HOD.out) fun b hb hb2 => ⟨hb, hb2⟩
          have h7 := (h4.kept hkA fun b hb _ e => by have := hvlt b e.symm; omega)
          have h7' : HeldIn (fun b => w.heap.size ≤ b ∧ b ≠ T4 ∧ v7.ownBlock ≠ some b) w7 x := h7.mono fun b hb _ => ⟨by have := HZ2.out; omega, by omega, hblk b hb.2 fun e => by have := hvlt b e; omega⟩
          exact h7'.kept hkset fun b hb _ => hb.2.1
      · exact hkset.obj (by have := HT.out; omega) (HA7.out.obj HG4.out.t3 HNE.out)
      · refine (HG4.out.keep.trans (hkA.mono (S' := fun b => b < w.heap.size) fun b _ hb e => ?_)).trans (hkset.mono fun b _ hb e => ?_)
        · have := (ownb HG4.out.own b e.symm).1; omega
        · have := HT.out; omega
  case done =>
    rintro D ys W hD hperm ⟨v, ks, G⟩ hK
    obtain ⟨av, cv, hav⟩ := ownsRow_slice G.own
    subst hav
    have HG := hid G; have HPM := hid hperm; have HK := hid hK
    have hKS : ks.length ≤ 2097152 := by
      have h1 : ks.length = ((ys.map (·.1.cell)).filter p).length := by rw [← G.cells, List.length_map]
      have h2 := List.length_filter_le p (ys.map (·.1.cell))
      have h3 := hperm.length_eq
      have := HH.out.len
      omega
    have x4 := cell_obj (i := 0) G.t4 (v := .slice av ks.length cv) rfl
    have HSC := hid (sort_cells w.heap.size av cv ks W G.own (fun g hg x hx => by
      obtain ⟨h1, h2⟩ := G.held x hx
      subst hg
      exact ⟨h1.map fun b o y hb hy => ⟨fun e => hb.2.2 (by rw [e]; rfl), hy⟩, h2.map fun b o y hb hy => ⟨fun e => hb.2.2 (by rw [e]; rfl), hy⟩⟩) (by omega))
    have HDW := hid hD
    clear G hperm hK hKS hD
    go_wp2_with fail
    refine HSC.out.mono ?_
    rintro e W5 ⟨rfl, ks', ho5, hp5, hw5, hk5⟩
    have hlen : ks'.length = ks.length := hp5.length_eq
    have hne4 : some T4 ≠ (Value.slice av ks.length cv).ownBlock := fun e => own_ne HG.out.own HG.out.t4 (by decide) e.symm
    have hneD : some D ≠ (Value.slice av ks.length cv).ownBlock := fun e => by
      rcases HG.out.own.2 with ⟨e2, _⟩ | ⟨g, cap, cur, e2, _, hgb, _⟩
      · rw [e2] at e; simp [Value.ownBlock] at e
      · rw [e2] at e
        obtain rfl : D = g := by simpa [Value.ownBlock] using e
        rw [HK.out] at hgb; cases hgb
    have ht5 := hk5.obj hne4 HG.out.t4
    have hd5 := hk5.obj hneD HK.out
    have HT5 := hid ht5
    have c5 := cell_obj (i := 0) ht5 (v := .slice av ks.length cv) rfl
    have f5 := free_obj (i := 0) ht5
    have hDT : D ≠ T4 := fun e => by subst e; have h4 := HG.out.t4; rw [HK.out] at h4; cases h4
    have hkset : Keeps (fun b => b ≠ T4) W5 (W5.setCell ⟨T4, 0, none⟩ (.slice av ks.length cv)) := (Keeps.refl _ _).setCell (.inl (by simp)) _
    have hd6 := hkset.obj (b := D) hDT hd5
    have HD6 := hid hd6; have HO5 := hid ho5; have HP5 := hid hp5; have HW5 := hid hw5; have HK5 := hid hk5; have HKS := hid hkset; have HNE := hid hne4
    clear ht5 hd5 hd6 ho5 hp5 hw5 hk5 hkset hneD hne4 x4 hDT hlen
    go_wp2_with fail
    clear c5 f5
    refine ⟨by simp, .inl ⟨_, _, rfl, run_takeDeferred HD6.out, ?_⟩⟩
    have ht6 := obj_setCell (i := 0) HT5.out (.slice av ks.length cv)
    simp only [List.setIfInBounds_toArray, List.set] at ht6
    generalize hW6 : W5.setCell ⟨T4, 0, none⟩ (.slice av ks.length cv) = W6 at HD6 HKS ht6 ⊢
    have hgr := grownBy_putObj' W6 D (.deferred none)
    have hr' : ∀ r, some D = some r → ∃ o : Obj, W6.heap[r]? = some o ∧ o.isCells = false := fun r e => by cases e; exact ⟨_, HD6.out, rfl⟩
    have ht7 := keeps_not hgr hr' _ _ ht6 rfl
    have c7 := cell_obj (i := 0) ht7 (v := .slice av ks.length cv) rfl
    have hvT : (Value.slice av ks.length cv).ownBlock ≠ some T4 := fun e => HNE.out e.symm
    have hsrt : ks'.map (·.cell) = L.filter p := by
      have e1 : (ks'.map (·.cell)).Perm (L.filter p) := by
        refine (HP5.out.map _).trans ?_
        rw [HG.out.cells]
        exact HPM.out.filter p
      refine sortedC_unique (sortedC_of HW5.out ?_) (HH.out.st.sorted.filter p) e1
      refine (e1.pairwise_iff fun {a b} h => Ne.symm h).2 ?_
      exact (HH.out.st.sorted.filter p).imp fun {a b} h e => by have := cmpC_zero.2 e; omega
    refine ⟨.slice av ks.length cv, ?_, _, rfl, ⟨ks', hsrt, ?_, fun x hx => ?_⟩, ?_⟩
    · rw [results_cell2 (t := 4) (ty := 53) rfl]
      go_simp
    · exact rows_grown (owns_keep HO5.out HKS.out fun g hg e => hvT (by rw [hg, e])) hgr hr'
    · have h1 := HG.out.held x (HP5.out.mem_iff.1 hx)
      have h2 := (h1.kept HK5.out fun b hb _ e => hb.2.2 e.symm).kept HKS.out fun b hb _ => hb.2.1
      exact (held_grown h2 hgr hr').mono fun b hb _ => ⟨hb.1, hb.2.2⟩
    · have hk := ((HG.out.keep.trans (HK5.out.mono (S' := fun b => b < w.heap.size) fun b _ hb e => by have := (ownb HG.out.own b e.symm).1; omega)).trans (HKS.out.mono fun b _ hb e => by have := HT.out; omega))
      have hDw : w3.heap.size ≤ D := HDW.out
      exact later_keep HLW.out (hk.grown hgr fun k e => by cases e; exact hDw) (Nat.le_refl _)
  case stop =>
    rintro D c pre W _ _ h _
    exact h.elim
end Go.Proofs.YtgcnchmnciihnaaGreatDoor
