/-
  PROVED HERE: the contracts of the table's functions, told by the law's lists.
  PROVED HERE: what the walk of TableSteps asks of memory. No program of its own.
  PROVED HERE: steps of a table's script that came in, opened by their cells, and how much by their bulk. No program of its own.
-/
import Derived.Test.YtcmpjdnbjhkhdaaDoorGTabPrep
import Derived.Test.YtcmpjdnbjhkhdaaDoorGAppRel
import Derived.Test.YtcmpjdnbjhkhdaaDoorTabLaws
import Derived.Test.YtcmpjdnbjhkhdaaDoorTold
import Derived.Test.YtcmpjdnbjhkhdaaDoorSameRows
import Derived.Test.YtcmpjdnbjhkhdaaDoorCopy
import Derived.Test.YtcmpjdnbjhkhdaaDoorUpto
import Derived.Test.YtcmpjdnbjhkhdaaDoorOpenVal
namespace Go.Proofs.YtcmpjdnbjhkhdaaDoor
set_option linter.unusedSimpArgs false
set_option linter.unusedVariables false
open Go.RowKit

/-- a table that goes together with the law's lists. -/
def THas (B : Nat) (w : World) (N : Nat → Prop) (A M n : Nat) (P C : List HE) : Prop := ∃ f h pv ps Mut, TabAt B N w A M n f h pv ps Mut ∧ TRel ps h P C
/-- what came in of a transaction. -/
structure GoodH (W : World) (q : HE) : Prop where
  low : RowsIn (fun b => b < W.heap.size) W q.rv q.rows
  wide : ∀ r ∈ q.rows, r.vals.length ≤ 1048576
  name : q.tx.sink.length ≤ maxLen
def AllH (W : World) (l : List HE) : Prop := ∀ q ∈ l, GoodH W q
/-- no more than a million. -/
structure Few (P C : List HE) : Prop where
  rows : sumH P + sumH C ≤ 1048576
  number : P.length + C.length ≤ 1048576
variable {W : World} {B : Nat} {N N' : Nat → Prop} {w w' : World} {A M n : Nat} {P C : List HE}
theorem THas.keep {S : Nat → Prop} (t : THas B w N A M n P C) (k : Keeps S w w') (hS : ∀ b, N b → b < w.heap.size → S b ∧ N' b) (hB : ∀ b, N' b → B ≤ b) : THas B w' N' A M n P C := let ⟨f, h, pv, ps, Mut, t, r⟩ := t; ⟨f, h, pv, ps, Mut, t.keep k hS hB, r⟩
theorem THas.later (t : THas B w N A M n P C) (k : Later w w') : THas B w' N A M n P C := let ⟨f, h, pv, ps, Mut, t, r⟩ := t; ⟨f, h, pv, ps, Mut, t.later k, r⟩
theorem THas.mono {n' : Nat} (t : THas B w N A M n P C) (hn : n ≤ n') : THas B w N A M n' P C := let ⟨f, h, pv, ps, Mut, t, r⟩ := t; ⟨f, h, pv, ps, Mut, t.mono hn, r⟩
theorem THas.nB (t : THas B w N A M n P C) : ∀ b, N b → B ≤ b := let ⟨_, _, _, _, _, t, _⟩ := t; t.nB
theorem THas.base (t : THas B w N A M n P C) : B ≤ w.heap.size := let ⟨_, _, _, _, _, t, _⟩ := t; t.base
theorem new_tab (W : World) : Calls Tryd.prog 32 #[] W fun e w' => ∃ A M, e = .returned (.pointer (some ⟨A, 0, none⟩)) ∧ THas W.heap.size w' (fun b => W.heap.size ≤ b) A M 0 [] [] ∧ Later W w' :=
  (tab_new W.heap.size W (Nat.le_refl _)).mono fun e w' ⟨A, M, Mut, he, t, k⟩ => ⟨A, M, he, ⟨_, _, _, _, Mut, t, TRel.start⟩, k⟩
theorem Few.ps {ps : List PD} {h : List UInt8 → List RX} (hf : Few P C) (r : TRel ps h P C) : ps.length ≤ 1048576 := by have := r.len; have := hf.number; omega
theorem prep_no (t : THas B w N A M n P C) (hf : Few P C) (x : TxD) (hx : ∃ q ∈ P, q.tx = x) (v : Value) :
    Calls Tryd.prog 35 #[.pointer (some ⟨A, 0, none⟩), x.v, v] w fun e w' => e = .returned (errVal 6) ∧ Later w w' := by
  obtain ⟨f, h, pv, ps, Mut, t, r⟩ := t
  exact (tab_prepare_no t x (by have := hf.ps r; omega) ((r.has x).2 hx) v).mono fun e w' ⟨h1, h2⟩ => ⟨h1, h2⟩
def PrepHTo (B : Nat) (w : World) (N : Nat → Prop) (A M n : Nat) (P C : List HE) (e : Ending) (w' : World) : Prop := e = .returned (errVal 0) ∧ THas B w' (fun b => N b ∨ w.heap.size ≤ b) A M n P C ∧ Keeps (fun b => ¬ N b) w w'
theorem prep_yes (t : THas B w N A M n P C) (hf : Few P C) (q : HE) (hq : ∀ y ∈ P, y.tx ≠ q.tx) (v : Value) (hv : IsRows w v q.rows) (hl : q.rows.length ≤ 1048576) (hw : ∀ r ∈ q.rows, r.vals.length ≤ 1048576) :
    Calls Tryd.prog 35 #[.pointer (some ⟨A, 0, none⟩), q.tx.v, v] w (PrepHTo B w N A M n (P ++ [q]) C) := by
  obtain ⟨f, h, pv, ps, Mut, t, r⟩ := t
  refine (tab_prepare t q.tx (by have := hf.ps r; omega) (r.hasNot hq) v q.rows hv (by omega) fun y hy => by have := hw y hy; omega).mono ?_
  rintro e w' ⟨rfl, pv', p, Mut', hp, hperm, ht, hk⟩
  exact ⟨rfl, ⟨f, h, pv', _, Mut', ht, r.insert hq hp hperm _⟩, hk⟩
theorem comm_no (t : THas B w N A M n P C) (hf : Few P C) (x : TxD) (hx : ∀ q ∈ P, q.tx ≠ x) :
    Calls Tryd.prog 36 #[.pointer (some ⟨A, 0, none⟩), x.v] w (BoolTo w false) := by
  obtain ⟨f, h, pv, ps, Mut, t, r⟩ := t
  exact tab_commit_no t x (by have := hf.ps r; omega) (r.hasNot hx)
theorem abort_no (t : THas B w N A M n P C) (hf : Few P C) (x : TxD) (hx : ∀ q ∈ P, q.tx ≠ x) :
    Calls Tryd.prog 38 #[.pointer (some ⟨A, 0, none⟩), x.v] w (BoolTo w false) := by
  obtain ⟨f, h, pv, ps, Mut, t, r⟩ := t
  exact tab_abort_no t x (by have := hf.ps r; omega) (r.hasNot hx)
def TurnHTo (B : Nat) (w : World) (N : Nat → Prop) (A M n : Nat) (P C : List HE) (e : Ending) (w' : World) : Prop := e = .returned (.bool true) ∧ THas B w' (fun b => N b ∨ w.heap.size ≤ b) A M n P C ∧ Keeps (fun b => ¬ N b) w w'
theorem sumH_mem {l : List HE} {q : HE} (h : q ∈ l) : q.rows.length ≤ sumH l := by
  obtain ⟨i, hi, rfl⟩ := List.getElem_of_mem h
  have := sumH_del hi
  omega
theorem TRel.plen {ps : List PD} {h : List UInt8 → List RX} (r : TRel ps h P C) {p : PD} (hp : p ∈ ps) : p.xs.length ≤ sumH P := by
  obtain ⟨q, hq, e⟩ := List.mem_map.1 (r.perm.mem_iff.1 (List.mem_map_of_mem hp))
  have := (r.rows p hp q hq e.symm).length_eq
  rw [List.length_map] at this
  rw [this]
  exact sumH_mem hq
theorem comm_yes (t : THas B w N A M n P C) (hf : Few P C) {j : Nat} (hj : j < P.length) (hs : P[j].tx.sink.length ≤ maxLen) (hn : n < maxLen) :
    Calls Tryd.prog 36 #[.pointer (some ⟨A, 0, none⟩), P[j].tx.v] w (TurnHTo B w N A M (n + 1) (P.take j ++ P.drop (j + 1)) (C ++ [P[j]])) := by
  obtain ⟨f, h, pv, ps, Mut, t, r⟩ := t
  refine (tab_commit t P[j].tx (by have := hf.ps r; omega) ((r.has _).2 ⟨_, List.getElem_mem hj, rfl⟩) hs hn fun p hp => by have h1 := r.hlen P[j].tx.sink; have h2 := r.plen hp; have := hf.rows; omega).mono ?_
  rintro e w' ⟨kk, p, f', pv', Mut', hp, hpx, rfl, ht, hk⟩
  obtain ⟨hkl, hpe⟩ := List.getElem?_eq_some_iff.1 hp
  have hpm : p ∈ ps := hpe ▸ List.getElem_mem hkl
  exact ⟨rfl, ⟨f', _, pv', _, Mut', ht, (r.delete hkl hj (by rw [hpe]; exact hpx)).commit (r.rows p hpm _ (List.getElem_mem hj) hpx)⟩, hk⟩
theorem abort_yes (t : THas B w N A M n P C) (hf : Few P C) {j : Nat} (hj : j < P.length) :
    Calls Tryd.prog 38 #[.pointer (some ⟨A, 0, none⟩), P[j].tx.v] w (TurnHTo B w N A M n (P.take j ++ P.drop (j + 1)) C) := by
  obtain ⟨f, h, pv, ps, Mut, t, r⟩ := t
  refine (tab_abort t P[j].tx (by have := hf.ps r; omega) ((r.has _).2 ⟨_, List.getElem_mem hj, rfl⟩)).mono ?_
  rintro e w' ⟨kk, p, pv', Mut', hp, hpx, rfl, ht, hk⟩
  obtain ⟨hkl, hpe⟩ := List.getElem?_eq_some_iff.1 hp
  exact ⟨rfl, ⟨f, h, pv', _, Mut', ht, r.delete hkl hj (by rw [hpe]; exact hpx)⟩, hk⟩
theorem rows_step (t : THas B w N A M n P C) (hf : Few P C) (hw : ∀ q ∈ C, ∀ r ∈ q.rows, r.vals.length ≤ 1048576) (k : List UInt8) (hk : k.length ≤ maxLen) :
    Calls Tryd.prog 39 #[.pointer (some ⟨A, 0, none⟩), .string (strB k)] w (SortedTo w (seenL C k)) := by
  obtain ⟨f, h, pv, ps, Mut, t, r⟩ := t
  refine (tab_rows t k hk (by have h1 := r.hlen k; have := hf.rows; omega) fun x hx => ?_).mono ?_
  · obtain ⟨q, hq, hm⟩ := seenL_mem ((r.seen k).mem_iff.1 (List.mem_map_of_mem (f := fun y : RX => y.row) hx))
    have := hw q hq _ hm
    omega
  · rintro e w' ⟨v, xs, h1, h2, h3, h4, h5, h6⟩
    exact ⟨v, xs, h1, h2, h3, h4.trans (r.seen k), h5, h6⟩
/-- what the table tells of what is prepared. -/
structure GList (P : List HE) (G : List TxD) (ns : List Nat) : Prop where
  len : G.length = P.length
  nlen : ns.length = G.length
  mem : ∀ x ∈ G, ∃ q ∈ P, q.tx = x
  rise : G.Pairwise fun a b => compareT a b < 0
  cnt : ∀ i (hi : i < G.length) (hj : i < ns.length), ∀ q ∈ P, q.tx = G[i] → q.rows.length = ns[i]
  sum : ns.sum = sumH P
theorem list_step (t : THas B w N A M n P C) (hf : Few P C) : ∃ G ns, GList P G ns ∧
    Calls Tryd.prog 42 #[.pointer (some ⟨A, 0, none⟩)] w (fun e w' => ∃ v, e = .returned v ∧ OwnT w.heap.size w' v G ∧ Later w w') ∧
    ∀ w2, Later w w2 → Calls Tryd.prog 43 #[.pointer (some ⟨A, 0, none⟩)] w2 (fun e w' => e = .returned (.int .i64 (ns.sum : Nat)) ∧ Later w2 w') := by
  obtain ⟨f, h, pv, ps, Mut, t, r⟩ := t
  have hs : (ps.map fun p => p.xs.length).sum = sumH P := r.sum
  refine ⟨ps.map PD.tx, ps.map (fun p : PD => p.xs.length), ⟨by rw [List.length_map]; exact r.len, by rw [List.length_map, List.length_map], fun x hx => ?_, List.pairwise_map.2 t.rise, fun i hi hj q hq e => ?_, hs⟩, tab_prepared t (hf.ps r), fun w2 hL => tab_waiting (t.later hL) (hf.ps r) (by rw [hs]; have := hf.rows; omega)⟩
  · exact List.mem_map.1 (r.perm.mem_iff.1 hx)
  · rw [List.getElem_map] at e
    rw [List.getElem_map]
    rw [List.length_map] at hi
    exact r.count hi hq e
end Go.Proofs.YtcmpjdnbjhkhdaaDoor
namespace Go.Proofs.YtcmpjdnbjhkhdaaDoor
set_option linter.unusedSimpArgs false
set_option linter.unusedVariables false
open Go.RowKit

/-- a step of the script. -/
structure OpT where
  kind : Int
  he : HE
def OpTAt (w : World) (b o : Nat) (x : OpT) : Prop := w.cell? ⟨b, o, none⟩ = some (.int .i64 x.kind) ∧ w.cell? ⟨b, o + 1, none⟩ = some (.int .i64 x.he.tx.mark) ∧ w.cell? ⟨b, o + 2, none⟩ = some (.string (strB x.he.tx.sink)) ∧ w.cell? ⟨b, o + 3, none⟩ = some (.int .i64 x.he.tx.task) ∧ w.cell? ⟨b, o + 4, none⟩ = some x.he.rv
abbrev IsOpsT (w : World) (v : Value) (l : List OpT) : Prop := SliceOf All OpTAt 5 w v l
def sumO (l : List OpT) : Nat := (l.map fun x => x.he.rows.length).sum
theorem sumO_succ {l : List OpT} {i : Nat} (hi : i < l.length) : sumO (l.take (i + 1)) = sumO (l.take i) + l[i].he.rows.length := by
  unfold sumO
  rw [List.take_succ_eq_append_getElem hi, List.map_append, List.sum_append]
  simp
theorem sumO_take (l : List OpT) (i : Nat) : sumO (l.take i) ≤ sumO l := by
  have h : sumO (l.take i) + sumO (l.drop i) = sumO l := by
    unfold sumO
    rw [← List.sum_append, ← List.map_append, List.take_append_drop]
  omega
/-- the table's blocks: all new ones but those of the law's lists. -/
def TabN (W : World) (u ca : Value) (b : Nat) : Prop := W.heap.size ≤ b ∧ some b ≠ u.ownBlock ∧ some b ≠ ca.ownBlock
structure AtTab (W : World) (l : List OpT) (A M i : Nat) (u ca : Value) (P C : List HE) (wx : World) : Prop where
  num : P.length + C.length ≤ i
  sum : sumH P + sumH C ≤ sumO (l.take i)
  has : THas W.heap.size wx (TabN W u ca) A M i P C
  ownU : OwnH W.heap.size wx u P
  ownC : OwnH W.heap.size wx ca C
  apart : ∀ b, u.ownBlock = some b → ca.ownBlock ≠ some b
  goodP : AllH W P
  goodC : AllH W C
  keep0 : Keeps (fun b => b < W.heap.size) W wx
variable {W w w' wx : World} {l : List OpT} {A M i : Nat} {u ca : Value} {P C : List HE}
theorem AtTab.few (t : AtTab W l A M i u ca P C wx) (hi : i ≤ l.length) (hl : l.length ≤ 1048576) (hs : sumO l ≤ 1048576) : Few P C :=
  ⟨Nat.le_trans t.sum (Nat.le_trans (sumO_take l i) hs), by have := t.num; omega⟩
theorem AtTab.later (t : AtTab W l A M i u ca P C wx) (k : Later wx w) : AtTab W l A M i u ca P C w :=
  ⟨t.num, t.sum, t.has.later k, t.ownU.later k, t.ownC.later k, t.apart, t.goodP, t.goodC, t.keep0.trans (k.keeps _)⟩
theorem AtTab.next (t : AtTab W l A M i u ca P C wx) : AtTab W l A M (i + 1) u ca P C wx :=
  ⟨by have := t.num; omega, by
    have := t.sum
    have h : sumO (l.take i) ≤ sumO (l.take (i + 1)) := by
      have e : l.take i = (l.take (i + 1)).take i := by rw [List.take_take, Nat.min_eq_left (Nat.le_succ i)]
      rw [e]; exact sumO_take _ _
    omega, t.has.mono (Nat.le_succ i), t.ownU, t.ownC, t.apart, t.goodP, t.goodC, t.keep0⟩
theorem OwnH.ub {B : Nat} (h : OwnH B w u P) : ∀ b, u.ownBlock = some b → B ≤ b ∧ b < w.heap.size := fun b hb => ownb h b hb
/-- the table as it is ahead of a call: in the blocks that are there. -/
theorem AtTab.old (t : AtTab W l A M i u ca P C wx) (k : Later wx w) : THas W.heap.size w (fun b => TabN W u ca b ∧ b < wx.heap.size) A M i P C :=
  t.has.keep (k.keeps fun _ => True) (fun b h1 h2 => ⟨trivial, h1, h2⟩) fun b hb => hb.1.1
/-- and behind it. -/
theorem AtTab.back {w0 : World} {P2 C2 : List HE} {n2 : Nat} {u2 ca2 : Value} {S : Nat → Prop} (t : AtTab W l A M i u ca P C wx) (hw : wx.heap.size ≤ w0.heap.size)
    (h : THas W.heap.size w (fun b => (TabN W u ca b ∧ b < wx.heap.size) ∨ w0.heap.size ≤ b) A M n2 P2 C2) (k : Keeps S w w')
    (hS : ∀ b, TabN W u ca b → b < wx.heap.size → S b) (hS2 : ∀ b, w0.heap.size ≤ b → b < w.heap.size → S b)
    (hu : u2.ownBlock = u.ownBlock ∨ ∀ b, u2.ownBlock = some b → w.heap.size ≤ b) (hc : ca2.ownBlock = ca.ownBlock ∨ ∀ b, ca2.ownBlock = some b → w.heap.size ≤ b) : THas W.heap.size w' (TabN W u2 ca2) A M n2 P2 C2 := by
  refine h.keep k (fun b hb hlt => ?_) fun b hb => hb.1
  have hu0 : some b ≠ u.ownBlock := fun e => by
    rcases hb with hb | hb
    · exact hb.1.2.1 e
    · have := (t.ownU.ub b e.symm).2; omega
  have hc0 : some b ≠ ca.ownBlock := fun e => by
    rcases hb with hb | hb
    · exact hb.1.2.2 e
    · have := (t.ownC.ub b e.symm).2; omega
  have hW : W.heap.size ≤ b := by
    rcases hb with hb | hb
    · exact hb.1.1
    · have := t.keep0.size; omega
  refine ⟨?_, hW, fun e => ?_, fun e => ?_⟩
  · rcases hb with hb | hb
    · exact hS b hb.1 hb.2
    · exact hS2 b hb hlt
  · rcases hu with hu | hu
    · exact hu0 (by rw [← hu]; exact e)
    · have := hu b e.symm; omega
  · rcases hc with hc | hc
    · exact hc0 (by rw [← hc]; exact e)
    · have := hc b e.symm; omega
/-- a round's end: the table was called, the law's lists were turned. -/
theorem AtTab.move {w3 w4 : World} {P2 C2 : List HE} {n2 : Nat} {u2 ca2 : Value} {S : Nat → Prop} (t : AtTab W l A M i u ca P C wx) (hL3 : Later wx w3)
    (h4 : THas W.heap.size w4 (fun b => (TabN W u ca b ∧ b < wx.heap.size) ∨ w3.heap.size ≤ b) A M n2 P2 C2) (hk4 : Keeps (fun b => ¬ (TabN W u ca b ∧ b < wx.heap.size)) w3 w4) (k : Keeps S w4 w')
    (hS : ∀ b, b < w4.heap.size → b < W.heap.size ∨ (TabN W u ca b ∧ b < wx.heap.size) ∨ w3.heap.size ≤ b → S b)
    (hu : u2.ownBlock = u.ownBlock ∨ ∀ b, u2.ownBlock = some b → w4.heap.size ≤ b) (hc : ca2.ownBlock = ca.ownBlock ∨ ∀ b, ca2.ownBlock = some b → w4.heap.size ≤ b) (hn : n2 ≤ i + 1)
    (ownU : OwnH W.heap.size w' u2 P2) (ownC : OwnH W.heap.size w' ca2 C2) (apart : ∀ b, u2.ownBlock = some b → ca2.ownBlock ≠ some b) (num : P2.length + C2.length ≤ i + 1) (sum : sumH P2 + sumH C2 ≤ sumO (l.take (i + 1)))
    (gP : AllH W P2) (gC : AllH W C2) : AtTab W l A M (i + 1) u2 ca2 P2 C2 w' := by
  have h3 := hL3.size
  have h34 := hk4.size
  refine ⟨num, sum, (t.back h3 h4 k (fun b hb hlt => hS b (by omega) (.inr (.inl ⟨hb, hlt⟩))) (fun b hb hlt => hS b hlt (.inr (.inr hb))) hu hc).mono hn, ownU, ownC, apart, gP, gC, ?_⟩
  have hw := t.keep0.size
  exact ((t.keep0.trans (hL3.keeps _)).trans (hk4.mono fun b _ hb e => by have := e.1.1; omega)).trans (k.mono fun b hlt hb => hS b hlt (.inl hb))
/-- a round in which the table was only read. -/
theorem AtTab.stay {w3 : World} (t : AtTab W l A M i u ca P C wx) (hL3 : Later wx w3) (k : Keeps (fun b => b < w3.heap.size) w3 w') : AtTab W l A M (i + 1) u ca P C w' := by
  have hz := hL3.size
  have hw := t.keep0.size
  have hn := t.next
  have hlt : ∀ b, b < wx.heap.size → b < w3.heap.size := fun b hb => by omega
  refine ⟨hn.num, hn.sum, ?_, (t.ownU.later hL3).keep k fun g hg => hlt g (t.ownU.ub g hg).2, (t.ownC.later hL3).keep k fun g hg => hlt g (t.ownC.ub g hg).2, t.apart, t.goodP, t.goodC, (t.keep0.trans (hL3.keeps _)).trans (k.mono fun b _ hb => by omega)⟩
  exact ((t.old hL3).keep k (fun b hb hlt => ⟨by omega, hb.1⟩) fun b hb => hb.1).mono (Nat.le_succ i)
/-- where the values of a row of one's own stand. -/
theorem own_val_at {B n : Nat} {v : Value} {vs : List Val} (h : w.ownsRow B 25 3 v n (valCells vs)) {k : Nat} (hk : k < n) : ∃ bp c, v = .slice (some ⟨bp, 0, none⟩) n c ∧ B ≤ bp ∧ bp < w.heap.size ∧ (∀ j, w.frozen? ⟨bp, j, none⟩ = false) ∧ ∀ j, j < 3 → ∃ u, w.cell? ⟨bp, k * 3 + j, none⟩ = some u := by
  rcases h.2 with ⟨rfl, h0⟩ | ⟨g, cap, cur, rfl, hb, hg, h1, h2, h3, h4⟩
  · omega
  · refine ⟨g, cap, rfl, hb, (Array.getElem?_eq_some_iff.1 hg).1, fun j => free_obj hg, fun j hj => ?_⟩
    have hlt : k * 3 + j < cur.size := by omega
    exact ⟨cur[k * 3 + j], cell_obj hg (by rw [Array.getElem?_eq_getElem hlt])⟩
theorem del_len {α : Type} {l : List α} {j : Nat} (hj : j < l.length) : (l.take j ++ l.drop (j + 1)).length + 1 = l.length := by
  have := (del_perm hj).length_eq
  simp only [List.length_cons] at this
  omega
theorem GoodH.rows {q : HE} (g : GoodH W q) (k : Keeps (fun b => b < W.heap.size) W w) : RowsIn (fun b => b < W.heap.size) w q.rv q.rows := g.low.rows_kept k fun _ h => h
theorem GoodH.one {q : HE} (g : GoodH W q) : q.rv.oneCell' = true := by obtain ⟨a, c, e, -⟩ := g.low; rw [e]; rfl
theorem AllH.one (h : AllH W P) : OneH P := fun q hq => (h q hq).one
theorem GoodH.slice {q : HE} (g : GoodH W q) : ∃ a c, q.rv = .slice a q.rows.length c := let ⟨a, c, e, _⟩ := g.low; ⟨a, c, e⟩
theorem AllH.snoc {q : HE} (h : AllH W P) (g : GoodH W q) : AllH W (P ++ [q]) := fun y hy => (List.mem_append.1 hy).elim (h y) fun e => by obtain rfl := List.mem_singleton.1 e; exact g
theorem AllH.del (h : AllH W P) (j : Nat) : AllH W (P.take j ++ P.drop (j + 1)) := fun y hy => h y ((List.mem_append.1 hy).elim List.mem_of_mem_take List.mem_of_mem_drop)
/-- laid down, or refused. -/
theorem prep_any {B : Nat} {N : Nat → Prop} {n : Nat} (t : THas B w N A M n P C) (hf : Few P C) (q : HE) (fnd : Bool) (hy : fnd = true → ∃ y ∈ P, y.tx = q.tx) (hn : fnd = false → ∀ y ∈ P, y.tx ≠ q.tx) (v : Value) (hv : IsRows w v q.rows) (hl : q.rows.length ≤ 1048576) (hw : ∀ r ∈ q.rows, r.vals.length ≤ 1048576) :
    Calls Tryd.prog 35 #[.pointer (some ⟨A, 0, none⟩), q.tx.v, v] w (fun e w' => e = .returned (errVal (if fnd then 6 else 0)) ∧ THas B w' (fun b => N b ∨ w.heap.size ≤ b) A M n (if fnd then P else P ++ [q]) C ∧ Keeps (fun b => ¬ N b) w w') := by
  cases fnd with
  | true =>
    refine (prep_no t hf q.tx (hy rfl) v).mono ?_
    rintro e w' ⟨rfl, k⟩
    have hB := t.base
    exact ⟨rfl, t.keep (k.keeps fun _ => True) (fun b hb _ => ⟨trivial, .inl hb⟩) fun b hb => hb.elim (t.nB b) fun h => Nat.le_trans hB h, k.keeps _⟩
  | false => exact prep_yes t hf q (hn rfl) v hv hl hw
/-- what find tells. -/
theorem hfound {x : TxD} {e : Ending} (h : HFindTo x P w e w') : Later w w' ∧ ∃ (fnd : Bool) (k : Int), e = .returned (.int .i64 k) ∧ (fnd = false → k = -1 ∧ ∀ q ∈ P, q.tx ≠ x) ∧ (fnd = true → ∃ (j : Nat) (hj : j < P.length), k = j ∧ P[j].tx = x) := by
  obtain ⟨hL, ⟨rfl, hno⟩ | ⟨j, hj, rfl, hx⟩⟩ := h
  · exact ⟨hL, false, -1, rfl, fun _ => ⟨rfl, hno⟩, fun e => by cases e⟩
  · exact ⟨hL, true, j, rfl, (fun e => by cases e), fun _ => ⟨j, hj, rfl, hx⟩⟩
theorem heldElem : ElemInfo Tryd.prog 83 4 56 := ElemInfo.of infoHeld rfl (by decide)
theorem held_ones {q : HE} (h : q.rv.oneCell' = true) : ∀ u ∈ q.cells, u.oneCell' = true := by
  intro u hu
  simp only [HE.cells, List.mem_cons, List.not_mem_nil, or_false] at hu
  rcases hu with rfl | rfl | rfl | rfl
  · rfl
  · rfl
  · rfl
  · exact h
theorem appx_keep {w1 w' : World} {B s n m : Nat} {e : TypeId} {v v' : Value} {xs : List Value} (hx : AppX w1 B e s v n m xs v' w') : Keeps (fun b => some b ≠ v.ownBlock) w1 w' ∧ (v'.ownBlock = v.ownBlock ∨ ∀ g, v'.ownBlock = some g → w1.heap.size ≤ g) := by
  rcases hx.kind with ⟨g, cap, rfl, rfl, hk⟩ | ⟨hL, hn⟩
  · exact ⟨hk.mono fun b _ hb e => hb (by rw [e]; rfl), .inl rfl⟩
  · exact ⟨hL.keeps _, .inr hn⟩
end Go.Proofs.YtcmpjdnbjhkhdaaDoor
namespace Go.Proofs.YtcmpjdnbjhkhdaaDoor
set_option linter.unusedSimpArgs false
set_option linter.unusedVariables false
open Go Go.RowKit Go.Deep

section
variable {H : Type} {enc : TypeId × Value → H} {w : World} {base : Nat} {spare : Nat → Bool} {held : Bool}
theorem cell_intT : Tryd.prog.cellsOf 3 = 1 := by kernel_rfl
theorem cell_txT : Tryd.prog.cellsOf 72 = 3 := by kernel_rfl
theorem cell_rowsT : Tryd.prog.cellsOf 73 = 1 := by kernel_rfl
theorem rows_low {v : Value} {l : List Row} (h : IsRows w v l) : RowsIn (fun b => b < w.heap.size) w v l :=
  h.map fun b o x _ hx => ⟨cell_lt hx.1, hx.1, let ⟨v, h1, h2⟩ := hx.2; ⟨v, h1, h2.map fun b o y _ hy => ⟨cell_lt hy.1, hy⟩⟩⟩
theorem tx_bulk {n : Nat} {cs : List Value} {d : DataW H} {pl : List MemPlace} (h : DataW.trod enc Tryd.prog w base spare held n 72 cs = some (d, pl)) : ∃ x : TxD, cs = x.cells ∧ x.sink.length ≤ maxLen ∧ 1 ≤ Rows.uptoBulk d := by
  obtain ⟨parts, rfl, hl, hpl, hfs⟩ := open_parts Tryd.underlying72 h
  have hl' : cs.length = 3 := hl.trans (by kernel_rfl)
  obtain ⟨n0, d0, p0, g0, t0⟩ := hfs 0 _ rfl
  obtain ⟨n1, d1, p1, g1, t1⟩ := hfs 1 _ rfl
  obtain ⟨n2, d2, p2, g2, t2⟩ := hfs 2 _ rfl
  have hp := list_three (hpl.trans rfl) g0 g1 g2
  obtain ⟨a0, e0, s0⟩ := list_take (i := 0) hl' (by omega)
  obtain ⟨a1, e1, s1⟩ := list_take (i := 1) hl' (by omega)
  obtain ⟨a2, e2, s2⟩ := list_take (i := 2) hl' (by omega)
  change DataW.trod enc Tryd.prog w base spare held n0 3 ((cs.drop 0).take (Tryd.prog.cellsOf 3)) = _ at t0
  rw [cell_intT, s0] at t0
  change DataW.trod enc Tryd.prog w base spare held n1 9 ((cs.drop 1).take (Tryd.prog.cellsOf 9)) = _ at t1
  rw [cell_str, s1] at t1
  change DataW.trod enc Tryd.prog w base spare held n2 3 ((cs.drop 2).take (Tryd.prog.cellsOf 3)) = _ at t2
  rw [cell_intT, s2] at t2
  obtain ⟨k, q0, x0, w0⟩ := DataW.trod_int Tryd.underlying3 t0
  obtain ⟨s, q1, x1, w1⟩ := DataW.trod_string Tryd.underlying9 t1
  obtain ⟨i, q2, x2, w2⟩ := DataW.trod_int Tryd.underlying3 t2
  simp only [List.cons.injEq, and_true] at q0 q1 q2
  subst q0 q1 q2 hp
  refine ⟨⟨k, s.data.toList, i⟩, by unfold TxD.cells; rw [strB_data]; exact list_three hl' e0 e1 e2, ?_, ?_⟩
  · have e : s.data.toList.length = s.size := by rw [Array.length_toList]; rfl
    show s.data.toList.length ≤ maxLen
    rw [e]; exact w1
  · simp only [Rows.uptoBulk, Rows.uptoBulkAll]
    omega
theorem vals_bulk_len (l : List Val) : l.length ≤ (l.map Val.bulk).sum := by
  induction l with
  | nil => simp
  | cons x l ih =>
    simp only [List.length_cons, List.map_cons, List.sum_cons]
    have : 1 ≤ Val.bulk x := by unfold Val.bulk; omega
    omega
theorem rows_bulkT (l : List Row) : l.length ≤ (l.map Row.bulk).sum ∧ ∀ r ∈ l, r.vals.length ≤ (l.map Row.bulk).sum := by
  induction l with
  | nil => exact ⟨by simp, fun r hr => by cases hr⟩
  | cons x l ih =>
    simp only [List.length_cons, List.map_cons, List.sum_cons]
    have h1 := vals_bulk_len x.vals
    have h2 : x.bulk = (x.vals.map Val.bulk).sum + 3 := rfl
    refine ⟨by have := ih.1; omega, fun r hr => ?_⟩
    rcases List.mem_cons.1 hr with rfl | hr
    · omega
    · have := ih.2 r hr; omega
def OpT.bulk (x : OpT) : Nat := (x.he.rows.map Row.bulk).sum + 1
theorem list_five {α : Type} {l : List α} (h : l.length = 5) {a b : α} {r : List α} (h0 : l[0]? = some a) (h1 : (l.drop 1).take 3 = r) (h2 : l[4]? = some b) : l = a :: (r ++ [b]) := by
  match l, h with
  | [x, y, z, u, v], _ => simp at h0 h1 h2; simp [h0, ← h1, h2]
theorem opT_bulk {n : Nat} {cs : List Value} {d : DataW H} {pl : List MemPlace} (h : DataW.trod enc Tryd.prog w base spare held n 75 cs = some (d, pl)) :
    ∃ x : OpT, cs = .int .i64 x.kind :: (x.he.tx.cells ++ [x.he.rv]) ∧ (x.he.tx.sink.length ≤ maxLen ∧ IsRows w x.he.rv x.he.rows) ∧ x.bulk ≤ Rows.uptoBulk d := by
  obtain ⟨parts, rfl, hl, hpl, hfs⟩ := open_parts Tryd.underlying75 h
  have hl' : cs.length = 5 := hl.trans (by kernel_rfl)
  obtain ⟨n0, d0, p0, g0, t0⟩ := hfs 0 _ rfl
  obtain ⟨n1, d1, p1, g1, t1⟩ := hfs 1 _ rfl
  obtain ⟨n2, d2, p2, g2, t2⟩ := hfs 2 _ rfl
  have hp := list_three (hpl.trans rfl) g0 g1 g2
  obtain ⟨a0, e0, s0⟩ := list_take (i := 0) hl' (by omega)
  obtain ⟨a4, e4, s4⟩ := list_take (i := 4) hl' (by omega)
  change DataW.trod enc Tryd.prog w base spare held n0 3 ((cs.drop 0).take (Tryd.prog.cellsOf 3)) = _ at t0
  rw [cell_intT, s0] at t0
  change DataW.trod enc Tryd.prog w base spare held n1 72 ((cs.drop 1).take (Tryd.prog.cellsOf 72)) = _ at t1
  rw [cell_txT] at t1
  change DataW.trod enc Tryd.prog w base spare held n2 73 ((cs.drop 4).take (Tryd.prog.cellsOf 73)) = _ at t2
  rw [cell_rowsT, s4] at t2
  obtain ⟨k, q0, x0, w0⟩ := DataW.trod_int Tryd.underlying3 t0
  obtain ⟨x, q1, hx, hb1⟩ := tx_bulk t1
  obtain ⟨v, l, q2, hv, -, hb2⟩ := rows_bulk t2
  simp only [List.cons.injEq, and_true] at q0 q2
  subst q0 q2 hp
  refine ⟨⟨k, ⟨x, a4, l⟩⟩, ?_, ⟨hx, hv⟩, ?_⟩
  · exact list_five hl' e0 q1 e4
  · show (l.map Row.bulk).sum + 1 ≤ _
    simp only [Rows.uptoBulk, Rows.uptoBulkAll]
    omega
theorem opsT_bulk {n : Nat} {cs : List Value} {d : DataW H} {pl : List MemPlace} (h : DataW.trod enc Tryd.prog w base spare held n 67 cs = some (d, pl)) :
    ∃ v l, cs = [v] ∧ IsOpsT w v l ∧ (∀ x ∈ l, x.he.tx.sink.length ≤ maxLen ∧ IsRows w x.he.rv x.he.rows) ∧ (l.map OpT.bulk).sum + 1 ≤ Rows.uptoBulk d :=
  open_list_bulk (At := OpTAt) (Good := fun x : OpT => x.he.tx.sink.length ≤ maxLen ∧ IsRows w x.he.rv x.he.rows) (sz := OpT.bulk) (size := 5) Tryd.underlying67 (by kernel_rfl) (by decide) (fun n cs' d pl ht _ => by
    obtain ⟨x, rfl, hg, hb⟩ := opT_bulk ht
    exact ⟨x, hg, hb, fun b o hc => ⟨hc 0 _ rfl, hc 1 _ rfl, hc 2 _ rfl, hc 3 _ rfl, hc 4 _ rfl⟩⟩) h
theorem opsT_len (l : List OpT) : l.length ≤ (l.map OpT.bulk).sum ∧ sumO l ≤ (l.map OpT.bulk).sum ∧ ∀ x ∈ l, ∀ r ∈ x.he.rows, r.vals.length ≤ (l.map OpT.bulk).sum := by
  induction l with
  | nil => exact ⟨by simp, by simp [sumO], fun x hx => by cases hx⟩
  | cons x l ih =>
    have h1 := rows_bulkT x.he.rows
    have h2 : x.bulk = (x.he.rows.map Row.bulk).sum + 1 := rfl
    have h3 : sumO (x :: l) = x.he.rows.length + sumO l := by unfold sumO; rw [List.map_cons, List.sum_cons]
    simp only [List.length_cons, List.map_cons, List.sum_cons]
    refine ⟨by have := ih.1; omega, by have := ih.2.1; have := h1.1; omega, fun y hy r hr => ?_⟩
    rcases List.mem_cons.1 hy with rfl | hy
    · have := h1.2 r hr; omega
    · have := ih.2.2 y hy r hr; omega
end
end Go.Proofs.YtcmpjdnbjhkhdaaDoor
