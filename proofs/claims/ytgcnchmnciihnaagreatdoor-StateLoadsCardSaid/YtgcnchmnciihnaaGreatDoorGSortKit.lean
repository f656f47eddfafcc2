/-
  PROVED HERE: what a sort does to a slice of one's own: its block alone is turned. No program of its own.
  PROVED HERE: cells with their slices; the contract of slices.SortFunc at cells, by state.Compare.
  PROVED HERE: what maps.Values hands on of a store's map: each cell once, in some order; for every body of a loop.
  PROVED HERE: what a region that draws its order comes to outside a fence, it comes to in a round of a range over a function. No program of its own.
-/
import Derived.Test.YtgcnchmnciihnaaGreatDoorGData
import Derived.Test.YtgcnchmnciihnaaGreatDoorShelf
import Derived.Sort.Grow
import Derived.Test.YtgcnchmnciihnaaGreatDoorGValue
import Derived.Test.YtgcnchmnciihnaaGreatDoorGPutAt
import Derived.Test.YtgcnchmnciihnaaGreatDoorShelf4
import Derived.Shelf.AbstractIn
import Derived.RangeFuncMany
import Derived.RangeFuncLeaves
import Derived.Sort.MapsRangeIn
import Derived.Sort.KeysCollected
import Derived.WalkKit
import Derived.OwnWalkIn
import Derived.TacticsInMore
import Derived.RegionIn
import Derived.LoopNIn
import Derived.LoopIn
import Derived.Test.YtgcnchmnciihnaaGreatDoorGU8
import Derived.OrdersIn
import Derived.TacticsIn
import Derived.RangeFuncCalls
namespace Go.Proofs.YtgcnchmnciihnaaGreatDoor
set_option linter.unusedSimpArgs false
set_option linter.unusedVariables false
open Go Go.RowKit Go.Sort Go.Shelf

theorem holds_own {w : World} {g : Nat} {cur : Array Value} {e : TypeId} {F : Array Value} (hb : w.heap[g]? = some (.cells cur e (0, 0))) (ht : cur.toList.take F.size = F.toList) : Holds id w g 0 F := by
  intro j hj
  refine ⟨?_, by simp [World.frozen?, hb]⟩
  have h1 : (cur.toList.take F.size)[j]? = F.toList[j]? := by rw [ht]
  rw [List.getElem?_take_of_lt hj] at h1
  simp only [World.cell?, hb, Nat.zero_add]
  simp only [Option.isSome_none, Bool.false_eq_true, if_false]
  rw [← Array.getElem?_toList, h1, Array.getElem?_toList, Array.getElem?_eq_getElem hj, getElem!_pos F j hj]
  rfl
theorem heap_put {w : World} {g n : Nat} {os : Array Obj} {cur : Array Value} {e : TypeId} {fr : Nat × Nat} (F : Array Value) (hb : w.heap[g]? = some (.cells cur e fr)) :
    (grow (putRow id (Sort.ahead w n) g 0 F) os).heap[g]? = some (.cells (putCells id 0 F cur) e fr) := by
  have hg : g < w.heap.size := (Array.getElem?_eq_some_iff.1 hb).1
  rw [heap_grow_old _ _ (by simpa using hg)]
  simp [putRow, mapBlock, Sort.ahead, Array.getElem?_modify, hb, onCells]
theorem keeps_put {w : World} {g n : Nat} {os : Array Obj} (F : Array Value) : Keeps (fun b => b ≠ g) w (grow (putRow id (Sort.ahead w n) g 0 F) os) := by
  refine ⟨rfl, rfl, rfl, by simp, fun k hk hne => ?_⟩
  rw [heap_grow_old _ _ (by simpa using hk)]
  simp [putRow, mapBlock, Sort.ahead, Array.getElem?_modify, Ne.symm hne]
theorem take_put (cur F : Array Value) (h : F.size ≤ cur.size) : (putCells id 0 F cur).toList.take F.size = F.toList := by
  apply List.ext_getElem?
  intro j
  by_cases hj : j < F.size
  · rw [List.getElem?_take_of_lt hj, Array.getElem?_toList, Array.getElem?_toList, Array.getElem?_eq_getElem hj]
    simp [putCells, hj, show j < cur.size by omega]
  · rw [List.getElem?_take_eq_none (by omega), List.getElem?_eq_none (by simp; omega)]
theorem perm_all {α : Type} [Inhabited α] {d d' : Array α} (h : PermIn 0 d.size d d') : d'.toList.Perm d.toList := by
  obtain ⟨h1, _, h3⟩ := h
  have e1 : d'.extract 0 d.size = d' := by rw [← h1]; simp
  have e2 : d.extract 0 d.size = d := by simp
  rwa [e1, e2] at h3
end Go.Proofs.YtgcnchmnciihnaaGreatDoor
namespace Go.Proofs.YtgcnchmnciihnaaGreatDoor
set_option linter.unusedSimpArgs false
set_option linter.unusedVariables false
open Go.RowKit Go.Sort Go.Shelf

/-- a cell, and the slices that hold its key and its data. -/
structure KX where
  cell : CellP
  kv : Value
  dv : Value
abbrev KX.cells (x : KX) : List Value := [x.kv, .int .i64 x.cell.win.1, .int .i64 x.cell.win.2, x.dv]
abbrev KX.u (x : KX) : Value := .agg #[x.kv, .int .i64 x.cell.win.1, .int .i64 x.cell.win.2, x.dv]
def kxCells (l : List KX) : List Value := l.flatMap KX.cells
theorem kxCells_cons (x : KX) (l : List KX) : kxCells (x :: l) = x.kv :: .int .i64 x.cell.win.1 :: .int .i64 x.cell.win.2 :: x.dv :: kxCells l := rfl
theorem kxCells_length (l : List KX) : (kxCells l).length = l.length * 4 := by
  induction l with
  | nil => rfl
  | cons x l ih => rw [kxCells_cons]; simp only [List.length_cons, ih]; omega
theorem kxCells_app (a b : List KX) : kxCells (a ++ b) = kxCells a ++ kxCells b := by simp [kxCells]
theorem kxCells_at : ∀ (l : List KX) (i : Nat) (h : i < l.length), (kxCells l)[i * 4]? = some l[i].kv ∧ (kxCells l)[i * 4 + 1]? = some (.int .i64 l[i].cell.win.1) ∧ (kxCells l)[i * 4 + 2]? = some (.int .i64 l[i].cell.win.2) ∧ (kxCells l)[i * 4 + 3]? = some l[i].dv
  | x :: l, 0, _ => ⟨rfl, rfl, rfl, rfl⟩
  | x :: l, i + 1, h => by
    have ih := kxCells_at l i (by simpa using h)
    rw [kxCells_cons, show (i + 1) * 4 = i * 4 + 1 + 1 + 1 + 1 by omega]
    simpa using ih
abbrev OwnK (B : Nat) (w : World) (v : Value) (l : List KX) : Prop := w.ownsRow B 57 4 v l.length (kxCells l)

/-- a cell whose slices stand in blocks other than one. -/
def HeldK (w : World) (g : Nat) (x : KX) : Prop := ValsIn (fun b => b ≠ g) w x.kv x.cell.key ∧ BytesIn (fun b => b ≠ g) w x.dv x.cell.data
theorem HeldK.v {w : World} {g : Nat} {x : KX} (h : HeldK w g x) : CellV (fun b => b ≠ g) w x.u x.cell := ⟨_, _, rfl, h.1, h.2⟩
abbrev HCell (w : World) (g : Nat) : Type := { x : KX // HeldK w g x }
def nilKX : KX := ⟨⟨[], (0, 0), []⟩, .slice none 0 0, .slice none 0 0⟩
theorem heldK_nil (w : World) (g : Nat) : HeldK w g nilKX := ⟨⟨none, 0, rfl, Nat.le_refl _, by unfold maxLen; omega, fun _ => rfl, fun i hi => (by cases hi)⟩, bytes_nil _ _⟩
instance (w : World) (g : Nat) : Inhabited (HCell w g) := ⟨⟨nilKX, heldK_nil w g⟩⟩
def encK {w : World} {g : Nat} (x : HCell w g) : List Value := x.1.cells
def cfK {w : World} {g : Nat} (x y : HCell w g) : Int := cmpC x.1.cell y.1.cell
theorem swoK (w : World) (g : Nat) : SWO (ltOf (cfK (w := w) (g := g))) where
  irrefl x := by
    have := cmpC_zero.2 (rfl : idC x.1.cell = idC x.1.cell)
    unfold ltOf cfK
    rw [this]
    rfl
  trans x y z h1 h2 := by
    unfold ltOf cfK at *
    exact decide_eq_true (cmpC_trans (of_decide_eq_true h1) (of_decide_eq_true h2))
  ntrans x y z h1 h2 := by
    unfold ltOf cfK at *
    have h1 := of_decide_eq_false h1
    have h2 := of_decide_eq_false h2
    refine decide_eq_false fun h => ?_
    have n1 := cmpC_neg x.1.cell y.1.cell
    have n2 := cmpC_neg y.1.cell z.1.cell
    by_cases e1 : cmpC x.1.cell y.1.cell = 0
    · rw [cmpC_left (cmpC_zero.1 e1)] at h; omega
    · have := cmpC_trans (a := y.1.cell) (b := x.1.cell) (c := z.1.cell) (by omega) h
      omega
theorem slice_one {α : Type} {S : Nat → Prop} {at_ : World → Nat → Nat → α → Prop} {size : Nat} {w : World} {v : Value} {l : List α} (h : SliceOf S at_ size w v l) : v.oneCell' = true := by
  obtain ⟨a, c, e, _⟩ := h
  rw [e]; rfl
theorem one_heldK {w : World} {g : Nat} (x : HCell w g) : ∀ v ∈ encK x, v.oneCell' = true := by
  intro v hv
  simp only [encK, KX.cells, List.mem_cons, List.not_mem_nil, or_false] at hv
  rcases hv with rfl | rfl | rfl | rfl
  · exact slice_one x.2.1
  · rfl
  · rfl
  · exact slice_one x.2.2
theorem flat_cells {w : World} {g : Nat} (l : List (HCell w g)) : (flatK encK 4 l.toArray).toList = kxCells (l.map (·.1)) := by
  apply List.ext_getElem?
  intro t
  by_cases ht : t < l.length * 4
  · have h1 : (flatK encK 4 l.toArray).toList[t]? = some ((encK l.toArray[t / 4]!)[t % 4]!) := by
      rw [Array.getElem?_toList, Array.getElem?_eq_getElem (by simpa using ht), ← getElem!_pos (flatK encK 4 l.toArray) t (by simpa using ht), get_flatK _ _ _ _ (by simpa using ht)]
    rw [h1]
    have hi : t / 4 < l.length := by omega
    have hg : l.toArray[t / 4]! = l[t / 4] := by rw [getElem!_pos _ _ (by simpa using hi)]; simp
    rw [hg]
    obtain ⟨q1, q2, q3, q4⟩ := kxCells_at (l.map (·.1)) (t / 4) (by simpa using hi)
    rw [List.getElem_map] at q1 q2 q3 q4
    rcases (by omega : t % 4 = 0 ∨ t % 4 = 1 ∨ t % 4 = 2 ∨ t % 4 = 3) with h | h | h | h
    · rw [h]
      have e : t = t / 4 * 4 := by omega
      rw [show (kxCells (l.map (·.1)))[t]? = (kxCells (l.map (·.1)))[t / 4 * 4]? by rw [← e], q1]
      rfl
    · rw [h]
      have e : t = t / 4 * 4 + 1 := by omega
      rw [show (kxCells (l.map (·.1)))[t]? = (kxCells (l.map (·.1)))[t / 4 * 4 + 1]? by rw [← e], q2]
      rfl
    · rw [h]
      have e : t = t / 4 * 4 + 2 := by omega
      rw [show (kxCells (l.map (·.1)))[t]? = (kxCells (l.map (·.1)))[t / 4 * 4 + 2]? by rw [← e], q3]
      rfl
    · rw [h]
      have e : t = t / 4 * 4 + 3 := by omega
      rw [show (kxCells (l.map (·.1)))[t]? = (kxCells (l.map (·.1)))[t / 4 * 4 + 3]? by rw [← e], q4]
      rfl
  · rw [List.getElem?_eq_none (by simp; omega), List.getElem?_eq_none (by rw [kxCells_length, List.length_map]; omega)]
theorem attach_cells {w : World} {g : Nat} (xs : List KX) (h : ∀ x ∈ xs, HeldK w g x) : ∃ l : List (HCell w g), l.map (·.1) = xs := by
  induction xs with
  | nil => exact ⟨[], rfl⟩
  | cons x xs ih =>
    obtain ⟨l, hl⟩ := ih fun y hy => h y (List.mem_cons_of_mem _ hy)
    exact ⟨⟨x, h x List.mem_cons_self⟩ :: l, congrArg (x :: ·) hl⟩
def SortKTo (w : World) (B : Nat) (v : Value) (l : List KX) (e : Ending) (w' : World) : Prop :=
  e = .returned (.tuple #[]) ∧ ∃ l', OwnK B w' v l' ∧ l'.Perm l ∧ (l'.map (·.cell)).Pairwise (fun a b => 0 ≤ cmpC b a) ∧ Keeps (fun b => some b ≠ v.ownBlock) w w'
set_option maxHeartbeats 1000000 in
theorem sort_cells (B : Nat) (a : Option Addr) (c : Nat) (l : List KX) (w : World) (h : OwnK B w (.slice a l.length c) l) (hh : ∀ g, a = some ⟨g, 0, none⟩ → ∀ x ∈ l, HeldK w g x) (hl : l.length < 4611686018427387904) :
    Calls Tryz.prog 45 #[.slice a l.length c, .func (.func 46) #[] #[]] w (SortKTo w B (.slice a l.length c) l) := by
  by_cases h0 : l = []
  · subst h0
    have hc := AnyF.slices_SortFunc_none Tryz.sortCell a c (.func (.func 46) #[] #[]) w
    refine Calls.mono hc ?_
    rintro e w' ⟨rfl, rfl⟩
    exact ⟨rfl, [], h, List.Perm.refl _, List.Pairwise.nil, Keeps.refl _ _⟩
  · have hpos : 0 < l.length := List.length_pos_iff.2 h0
    obtain ⟨hn, ⟨hv, hz⟩ | ⟨g, cap, cur, hv, hb, hg, h1, h2, h3, h4⟩⟩ := h
    · omega
    · simp only [Value.slice.injEq, true_and] at hv
      obtain ⟨rfl, rfl⟩ := hv
      obtain ⟨L, hL⟩ := attach_cells l (hh g rfl)
      have hLl : L.length = l.length := by rw [← hL, List.length_map]
      have hF : (flatK encK 4 L.toArray).size = l.length * 4 := by simp [hLl]
      have hH : HoldsK encK 4 w g 0 L.toArray := holds_own hg (by rw [hF, flat_cells, hL]; exact h4)
      have eg : ∀ args w, (callFunc 46 args).run Tryz.prog w = .ok (.enter 46 args) w := enters_of Tryz.func46 (by kernel_rfl) rfl
      have hcon := AnyQ.slices_SortFunc Tryz.sortCell 4 Tryz.isAgg57 Tryz.sizeOf57 encK (fun _ => rfl) one_heldK cfK (swoK w g) 46 #[] g 0 c L.toArray w eg
        (fun m os dk _ x y => by
          have hk : Keeps (fun b => b ≠ g) w (sortWorldK encK 4 w g 0 m dk os) := keeps_put (flatK encK 4 dk)
          refine Calls.mono (scompare_anyD x.1.cell y.1.cell x.1.u y.1.u _ (x.2.v.kept hk fun _ h _ => h) (y.2.v.kept hk fun _ h _ => h)) ?_
          rintro e w' ⟨rfl, hLd⟩
          exact ⟨rfl, hLd.grown⟩)
        hH (Array.getElem?_eq_some_iff.1 hg).1 (by simpa [hLl] using hl)
      rw [show L.toArray.size = l.length by simp [hLl]] at hcon
      refine Calls.mono hcon ?_
      rintro e w' ⟨rfl, d', n, os, hp, hs, rfl⟩
      have hsz : d'.size = l.length := by have := hp.1; simpa [hLl] using this
      have hpm : d'.toList.Perm L := by simpa using perm_all (d := L.toArray) (by simpa [hLl] using hp)
      refine ⟨rfl, d'.toList.map (·.1), ?_, by rw [← hL]; exact hpm.map _, ?_, ?_⟩
      · have hF' : (flatK encK 4 d').size = l.length * 4 := by simp [hsz]
        have hfl : (flatK encK 4 d').toList = kxCells (d'.toList.map (·.1)) := by have := flat_cells d'.toList; simpa using this
        have hll : (d'.toList.map (·.1)).length = l.length := by rw [List.length_map, Array.length_toList, hsz]
        refine ⟨by rw [kxCells_length], .inr ⟨g, c, _, by rw [hll], hb, heap_put (flatK encK 4 d') hg, by rw [hll]; exact h1, h2, by simp [putCells, h3], ?_⟩⟩
        rw [hll, ← hF', ← hfl]
        exact take_put cur _ (by rw [hF', h3]; omega)
      · rw [List.map_map, List.pairwise_map, List.pairwise_iff_getElem]
        intro i j hi hj hij
        have := hs i j (Nat.zero_le _) hij (by simpa [hsz] using hj)
        unfold ltOf cfK at this
        rw [decide_eq_false_iff_not, getElem!_pos d' j (by simpa using hj), getElem!_pos d' i (by simpa using hi)] at this
        simp only [Array.getElem_toList, Function.comp]
        omega
      · exact (keeps_put (flatK encK 4 d')).mono fun k _ hk e => hk (by subst e; rfl)
end Go.Proofs.YtgcnchmnciihnaaGreatDoor
namespace Go.Proofs.YtgcnchmnciihnaaGreatDoor
set_option linter.unusedSimpArgs false
set_option linter.unusedVariables false
open Go Go.RowKit Go.Maps Go.Sort

/-- which cells have come. -/
def Came (L : List CellP) (left : Lit → Bool) (cs : List CellP) : Prop := cs.Nodup ∧ ∀ c, c ∈ cs ↔ (c ∈ L ∧ left (litI (idC c)) = false)
theorem Came.step {L cs : List CellP} {left : Lit → Bool} (hS : SortedC L) (hi : ∀ c ∈ L, IdOk (idC c)) (h : Came L left cs) {c : CellP} (hc : c ∈ L) (hl : left (litI (idC c)) = true) : Came L (fun z => left z && !z.sameKey (litI (idC c))) (cs ++ [c]) := by
  have hnew : c ∉ cs := fun hx => by have := ((h.2 c).1 hx).2; rw [hl] at this; cases this
  refine ⟨List.nodup_append.2 ⟨h.1, by simp, fun a ha b hb => by simp at hb; subst hb; exact fun e => hnew (e ▸ ha)⟩, fun x => ?_⟩
  rw [List.mem_append, h.2 x, List.mem_singleton]
  by_cases e : x = c
  · subst e
    have : (litI (idC x)).sameKey (litI (idC x)) = true := WideAt.sameKey_self (litI_is _)
    simp [hc, this]
  · constructor
    · rintro (⟨h1, h2⟩ | h1)
      · exact ⟨h1, by simp only; rw [h2]; rfl⟩
      · exact absurd h1 e
    · rintro ⟨h1, h2⟩
      have hne : litI (idC x) ≠ litI (idC c) := fun e2 => e (hS.id_inj h1 hc ((hi x h1).inj (hi c hc) e2))
      simp only at h2
      rw [sameKey_ne hne] at h2
      exact .inl ⟨h1, by simpa using h2⟩
theorem Came.all {L cs : List CellP} {left : Lit → Bool} (hS : SortedC L) (h : Came L left cs) (hl : ∀ kl, left kl = false) : cs.Perm L :=
  (List.perm_ext_iff_of_nodup h.1 hS.nodup).2 fun c => by rw [h.2 c, hl]; simp
theorem Came.sub {L cs : List CellP} {left : Lit → Bool} (h : Came L left cs) : ∀ c ∈ cs, c ∈ L := fun c hc => ((h.2 c).1 hc).1
/-- cells with their values. -/
structure CX where
  cell : CellP
  u : Value

theorem key_inv (key : Value) (kl : Lit) (_ : keyOf Tryz.prog 65 key = some kl) : ∃ x : Value, key = id x := ⟨key, rfl⟩
theorem raw_inv (v : Value) (y : DataW Value × List MemPlace) (_ : rawR v = some y) : ∃ c : Value, v = id c := ⟨v, rfl⟩
abbrev CXs (V : Nat → Prop) (w0 : World) (L : List CellP) : Type := { x : CX // x.cell ∈ L ∧ CellV V w0 x.u x.cell }
set_option maxRecDepth 100000 in
set_option maxHeartbeats 1000000 in
/-- the iterator, for every body. -/
theorem values_stops {V : Nat → Prop} (F : Fence) (n : Nat) (hF : F.fn 70) (hro : F.round = none) (hn : 1 ≤ n) (Bm b : Nat) (L : List CellP)
    (hS : SortedC L) (hi : ∀ c ∈ L, IdOk (idC c)) (w0 : World) (hBm : Bm < w0.heap.size) (hm0 : w0.cell? ⟨Bm, 0, none⟩ = some (.map (some b))) (hown0 : CellsMap V w0 b L) :
    SeqStopsK F n Tryz.prog 70 #[.pointer (some ⟨Bm, 0, none⟩)] (fun x : CXs V w0 L => #[x.1.u]) KeepsWalks
      (fun ys => (ys.map (·.1.cell)).Perm L) (fun _ => True) L.length w0 := fun l J Jx W hW hJ _ hY h0 => by
  obtain ⟨D0, hownD, hsz, hk, hc⟩ := hown0
  have hown : W.ownsMap Tryz.prog 65 rawR b L.length D0 := by
    have hbl := hownD.lt
    obtain ⟨es, clock, hb, Ft, hs, hD⟩ := hownD
    exact ⟨es, clock, (hW.block b hbl).trans hb, Ft, hs, hD⟩
  have hm : W.cell? ⟨Bm, 0, none⟩ = some (.map (some b)) := (hW.cell (p := ⟨Bm, 0, none⟩) hBm).trans hm0
  refine callsIn_of_wp Tryz.func70 rfl hF ?_ hro
  try simp only [Tryz.ntmps70, List.size_toArray, List.length_cons, List.length_nil, Nat.reduceAdd, Nat.reduceSub, Array.replicate_succ, Array.replicate_zero, List.push_toArray, List.append_toArray, List.nil_append, List.cons_append]
  gi_wp2_with (first
    | (gi_at_range; refine wpListIn_range_own _ rfl _ 60 rfl 65 57 placeKeyed Tryz.underlying60 _ b L.length _ rfl hown ?_; intro w1 hrg0 hg0 hs0)
    | gi_in)
  try go_frame
  gi_loopw [4] (fun _ wr => ∃ (left : Lit → Bool) (cnt : Nat) (ps : List (CXs V w0 L)), wr.ranges Tryz.prog 65 rawR b W.heap.size L.length D0 left cnt ∧ ps.length + cnt ≤ L.length ∧ Came L left (ps.map (·.1.cell)) ∧ J ps wr)
    (fun _ wr => wr.rangeLeft b W.heap.size)
  case atStart =>
    refine ⟨_, _, [], hrg0, by rw [hsz]; simp, ⟨List.nodup_nil, fun c => ?_⟩, hJ [] W w1 none h0 hg0 (fun r e => by cases e)⟩
    constructor
    · intro h; cases h
    · rintro ⟨h1, h2⟩
      rw [(hc c h1).1] at h2; cases h2
  case round =>
    obtain ⟨left, cnt, ps, hrg, hcs, hC, hJs⟩ := hrel
    gi_wp2_with (first
      | (gi_at_next; refine wpListIn_next_ranges _ rfl _ rfl 65 placeKeyed rawR id id key_inv raw_inv b W.heap.size L.length _ _ _ rfl hrg ?_ ?_)
      | gi_in)
    · intro hc0 hl0
      gi_wp2
      go_end0
      exact ⟨⟨_, rfl⟩, .inl ⟨ps, hC.all hS hl0, hJs⟩⟩
    · intro x c kl y yp w2 cnt2 hkey hlk hv hat hrg2 hlt hg2 hs2 hen
      try dsimp only [id] at hkey hv hen
      try dsimp only [id]
      obtain ⟨d, hd, rfl⟩ := hk _ (has_true_of_atKey hat)
      obtain ⟨-, u, hu, hau⟩ := hc d hd
      have e1 := (hau (.lit (.bool true))).symm.trans ((hat (.lit (.bool true))).trans (rawR_inv hv))
      simp only [DataW.held.injEq] at e1
      obtain rfl : c = u := e1.symm
      obtain ⟨p1, d1, p2, d2, rfl, -, -⟩ := cell_val hu
      have hJ2 : J ps w2 := hJ ps wr w2 (some W.heap.size) hJs hg2 (fun r e => by cases e; exact ⟨Nat.le_refl _, hrg.iter_walk⟩)
      obtain ⟨ob, hob⟩ : ∃ ob, ob = Obj.cells #[.slice p1 d.key.length d1, .int .i64 d.win.1, .int .i64 d.win.2, .slice p2 d.data.length d2] 57 (0, 0) := ⟨_, rfl⟩
      have hJ3 : J ps (w2.alloc ob) := hJ ps w2 _ none hJ2 (World.grownBy_alloc w2 ob none) (fun r e => by cases e)
      have hrg2' := hrg2.alloc ob
      obtain ⟨fn, tmps, assign, body, hy, hR⟩ := hY ps ⟨⟨d, _⟩, hd, hu⟩ _ hJ3 (by omega)
      rw [hob] at hy
      simp only at hy
      clear hs2 hJ3
      rw [hob] at hR hrg2'
      gi_wp2
      refine hR.mono ?_
      have hC2 := hC.step hS hi hd hlk
      rintro e W3 (⟨rfl, hJ3, hk3⟩ | ⟨rfl, hJx3⟩)
      · gi_wp2
        have hrg3 := hrg2'.of_walks hk3
        go_roundw
        case rel => exact ⟨_, cnt2, ps ++ [⟨⟨d, _⟩, hd, hu⟩], hrg3, by simp; omega, by simpa using hC2, hJ3⟩
        case measure => rw [hrg3.left_eq, hrg.left_eq]; exact hlt
      · gi_wp2
        refine bodyPost_ret (results_none rfl _ _ _) rfl ?_
        exact ⟨⟨_, rfl⟩, .inr ⟨_, trivial, hJx3⟩⟩
/-- maps.Values: the map is boxed. -/
def ValuesTo (w : World) (M : Nat) (e : Ending) (w' : World) : Prop := e = .returned (.func (.func 70) #[] #[.pointer (some ⟨w.heap.size, 0, none⟩)]) ∧ w' = w.alloc (.cells #[.map (some M)] 60 (0, 0))
theorem values_any (M : Nat) (w : World) : Calls Tryz.prog 44 #[.map (some M)] w (ValuesTo w M) := by
  go_enter Tryz.func44, Tryz.ntmps44
  go_wp2_with fail
  go_ret
  exact ⟨rfl, rfl⟩
end Go.Proofs.YtgcnchmnciihnaaGreatDoor
namespace Go.Proofs.YtgcnchmnciihnaaGreatDoor
set_option linter.unusedSimpArgs false
set_option linter.unusedVariables false
open Go Go.RowKit

section
variable {P : Program} {l n : Nat} {md : Region.Mode} {ops : Array Oper} {Q : Exit → Act → World → Prop}
theorem callsIn_round {f : FuncId} {args : Array Value} {w : World} {R : Ending → World → Prop} (h : Calls P f args w R) : CallsIn (Fence.wide.inRound l) n P f args w R := CallsIn.inRound l (callsIn_wide.2 h)
theorem rowsIn_round {row : String} {args : Array Value} {w : World} {R : Value → World → Prop} (h : Rows P row args w R) : _root_.Go.RowsIn (Fence.wide.inRound l) n P row args w R :=
  fun c cs _ => let ⟨v, w', r, s⟩ := h c cs; ⟨v, w', r, stepsIn_wide.2 s⟩
theorem upon_in {o : Oper} {a : Act} {next : Act → World → Prop} {r : Result Next} (h : o.upon P a next Q r) : o.uponIn (Fence.wide.inRound l) n P a next Q r := by
  cases r with
  | ok nx w' =>
    cases nx
    all_goals first
      | exact h
      | exact h.elim
      | exact ⟨fun h => (by cases h), callsIn_round h⟩
      | exact ⟨fun h => (by cases h), rowsIn_round h⟩
  | halt hl w' => cases hl <;> first | exact h | exact h.elim
def noDefer (ops : Array Oper) : Bool := ops.all fun o => match o.op with
  | .defer _ => false
  | _ => true
theorem noDefer_spec (h : noDefer ops = true) {i : Nat} {o : Oper} (ho : ops[i]? = some o) : ∀ c, o.op ≠ .defer c := fun c e => by
  have := Array.all_eq_true_iff_forall_mem.1 h o (Array.mem_of_getElem? ho)
  rw [e] at this; cases this
theorem opwp_in {o : Oper} {a : Act} {w : World} {next : Act → World → Prop} (hd : ∀ c, o.op ≠ .defer c) (h : o.wp P a w next Q) : o.wpIn (Fence.wide.inRound l) n P a w next Q :=
  ⟨fun _ _ => trivial, by rw [Oper.semAt_eq _ _ _ hd]; exact upon_in h⟩
theorem wpAny_in (hno : ¬ LetsOut Q) (hd : noDefer ops = true) : ∀ (fuel : Nat) (listed : Array Bool) (a : Act) (w : World), wpAny P md ops Q fuel listed a w → wpAnyIn (Fence.wide.inRound l) n P md ops Q fuel listed a w
  | 0, _, _, _, h => h
  | fuel + 1, listed, a, w, h => by
    refine ⟨h.1, fun i hi => ?_⟩
    have h2 := wpOp_mono (fun a w k => wpAny_in hno hd fuel (listed.setIfInBounds i true) a w k) (h.2 i hi)
    unfold wpOp at h2
    unfold wpOpIn
    cases ho : ops[i]? with
    | none => rw [ho] at h2; exact h2
    | some o =>
      rw [ho] at h2
      simp only at h2 ⊢
      split
      · rename_i hw
        rw [if_pos hw] at h2
        rcases h2 with h2 | h2
        · exact opwp_in (noDefer_spec hd ho) h2
        · exact absurd h2.2 hno
      · rename_i hw
        rw [if_neg hw] at h2
        exact ⟨fun _ _ => trivial, h2⟩
end
/-- **A region that asks the tape**: operations of which nothing hangs on the world first; then the walk in the order of the text; then a tail that waits for all of it. -/
theorem wpIn_region_plan {P : Program} {l0 n0 : Nat} {id : Nat} {a : Act} {w : World} {l : List Oper} {Q' : Exit → Act → World → Prop} (hm : P.follows .mixedOrders = true) (hok : lexOk .any l.toArray = true) (U C : List Nat) (hplan : planOk l l.toArray U C = true) (hno : ¬ LetsOut Q') (hdf : noDefer l.toArray = true)
    (hQ : ∀ c a d v w, Q' (.panic c) (a.put d v) w → Q' (.panic c) a w)
    (Rel : World → World → Prop) (hrf : ∀ a, Rel a a) (htr : ∀ a b c, Rel a b → Rel b c → Rel a c) (T : Kinds) (hst : ∀ k τ v w w', T k = some τ → Rel w w' → τ v w → τ v w')
    (h : Pures P l.toArray (tail U (numbered 0 l)) (Lex P .any l.toArray Rel w.drew T (fun a' w' => wpList P l.toArray Q' ((tail C (numbered 0 l)).map (·.2)) a' w') (body U C (numbered 0 l)) []) a) : (Code.region id l.toArray true).wpIn (Fence.wide.inRound l0) n0 P Q' a w := by
  refine wpIn_region_any hm (wpAny_in hno hdf _ _ _ _ ?_)
  simp only [planOk, Bool.and_eq_true] at hplan
  obtain ⟨⟨⟨hU, hcount⟩, hpure⟩, hpl⟩ := hplan
  replace hcount := of_decide_eq_true hcount
  replace hU := of_decide_eq_true hU
  have hpl' := fun k (hk : k < l.toArray.size) => List.all_eq_true.1 hpl k (List.mem_range.2 hk)
  have hs : Region.noSelect l.toArray = true := by unfold lexOk at hok; simp only [Bool.and_eq_true] at hok; exact hok.1
  have nm : ∀ k o, (k, o) ∈ numbered 0 l ↔ l[k]? = some o := fun k o => by simpa using numbered_mem l 0 k o
  have toA : ∀ k : Nat, l.toArray[k]? = l[k]? := fun k => List.getElem?_toArray
  have lt : ∀ {k : Nat} {o : Oper}, l[k]? = some o → k < l.toArray.size := fun {k o} h => by simpa using (List.getElem?_eq_some_iff.1 h).1
  have hcs : ∀ k o, (k, o) ∈ numbered 0 l → C.contains k = true → U.contains k = false := fun k o hm hc => by
    have := hpl' k (lt ((nm k o).1 hm))
    simp only [hc, if_true, Bool.and_eq_true, Bool.not_eq_true'] at this
    exact this.1
  have split : ∀ k, ∀ o, (k, o) ∈ body U C (numbered 0 l) ++ tail C (numbered 0 l) ↔ l[k]? = some o ∧ U.contains k = false := fun k o => by
    simp only [body, tail, List.mem_append, List.mem_filter, Bool.and_eq_true, Bool.not_eq_true', nm]
    constructor
    · rintro (⟨h1, h2, _⟩ | ⟨h1, h2⟩)
      · exact ⟨h1, h2⟩
      · exact ⟨h1, hcs k o ((nm k o).2 h1) h2⟩
    · rintro ⟨h1, h2⟩
      by_cases hc : C.contains k = true
      · exact .inr ⟨h1, hc⟩
      · exact .inl ⟨h1, h2, by simpa using hc⟩
  · rw [hcount]
    refine pure_wpAny (K := _) hs hQ U (Array.replicate (U.length + ((body U C (numbered 0 l)).length + (tail C (numbered 0 l)).length)) false) a _ (by rw [← hcount]; exact hpure) (by simp [← hcount]) (fun k o ho hk => by
      exfalso
      rcases Nat.lt_or_ge k (U.length + ((body U C (numbered 0 l)).length + (tail C (numbered 0 l)).length)) with h' | h'
      · simp [h'] at hk
      · have := (Array.getElem?_eq_some_iff.1 ho).1; omega) (by have h' := Pures.toOps (fun p hp => by simp only [tail, List.mem_filter] at hp; rw [toA]; exact (nm p.1 p.2).1 hp.1) h; rw [hU] at h'; exact h') fun listed a' hsz hcl hl hlex => ?_
    have hl' : ∀ k, k < l.toArray.size → listed.getD k true = U.contains k := fun k hk => by
      have hk' : k < U.length + ((body U C (numbered 0 l)).length + (tail C (numbered 0 l)).length) := by rw [← hcount]; exact hk
      rw [hl k]; simp [hk']
    refine lex_tail htr hst hok (tail C (numbered 0 l)) ?_ (fun _ _ h => h) _ _ listed [] a' _ rfl hsz ((numbered_pairwise l 0).filter _) ?_ (fun k o => ?_) hcl (hrf _) (fun p hp => by cases hp) hlex
    · have hf : (tail C (numbered 0 l)).Pairwise (fun p q => p.1 < q.1) := (numbered_pairwise l 0).filter _
      refine hf.imp_of_mem ?_
      · intro p q hp hq hlt
        simp only [tail, List.mem_filter] at hp hq
        have := hpl' q.1 (lt ((nm q.1 q.2).1 hq.1))
        simp only [hq.2, if_true, Bool.and_eq_true, List.all_eq_true, List.mem_range] at this
        have := this.2 p.1 (lt ((nm p.1 p.2).1 hp.1))
        rw [if_neg (by rw [hcs p.1 p.2 hp.1 hp.2]; simp), if_pos hp.2] at this
        simp only [Bool.or_eq_true, decide_eq_true_eq] at this
        exact ⟨hlt, this.resolve_left (by omega)⟩
    · intro p hp q hq
      simp only [body, tail, List.mem_filter, Bool.and_eq_true, Bool.not_eq_true'] at hp hq
      have := hpl' q.1 (lt ((nm q.1 q.2).1 hq.1))
      simp only [hq.2, if_true, Bool.and_eq_true, List.all_eq_true, List.mem_range] at this
      have := this.2 p.1 (lt ((nm p.1 p.2).1 hp.1))
      rw [if_neg (by rw [hp.2.1]; simp), if_neg (by rw [hp.2.2]; simp)] at this
      exact ⟨fun e => by rw [e] at hp; rw [hp.2.2] at hq; exact absurd hq.2 (by simp), this⟩
    · rw [split, toA]
      constructor
      · rintro ⟨h1, h2⟩; exact ⟨h1, by rw [hl' k (lt h1)]; exact h2⟩
      · rintro ⟨h1, h2⟩; exact ⟨h1, by rw [hl' k (by simpa using (List.getElem?_eq_some_iff.1 h1).1)] at h2; exact h2⟩
end Go.Proofs.YtgcnchmnciihnaaGreatDoor
