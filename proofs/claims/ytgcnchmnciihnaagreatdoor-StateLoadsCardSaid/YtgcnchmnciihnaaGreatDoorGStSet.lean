/-
  PROVED HERE: pieces of one's own, one of them turned; what Load says of them. No program of its own.
-/
import Derived.Test.YtgcnchmnciihnaaGreatDoorGOpenOp7
import Derived.Test.YtgcnchmnciihnaaGreatDoorGSavePlain
namespace Go.Proofs.YtgcnchmnciihnaaGreatDoor
set_option linter.unusedSimpArgs false
set_option linter.unusedVariables false
open Go Go.RowKit

theorem pxCells_set : ∀ (l : List PX) (i : Nat) (x : PX), i < l.length → ((pxCells l).set (i * 2) (.int .i64 x.g)).set (i * 2 + 1) x.v = pxCells (l.set i x)
  | y :: l, 0, x, _ => rfl
  | y :: l, i + 1, x, h => by
    have ih := pxCells_set l i x (by simpa using h)
    have e : pxCells (y :: l) = .int .i64 y.g :: y.v :: pxCells l := rfl
    rw [e, show (i + 1) * 2 = i * 2 + 1 + 1 by omega]
    simp only [List.set_cons_succ, show i * 2 + 1 + 1 + 1 = (i * 2 + 1) + 1 + 1 by omega]
    rw [ih]
    rfl
theorem pxCells_set0 : ∀ (l : List PX) (i : Nat) (z : Int) (x : PX), l[i]? = some x → (pxCells l).set (i * 2) (.int .i64 z) = pxCells (l.set i ⟨z, x.v, x.bytes⟩)
  | y :: l, 0, z, x, h => by
    obtain rfl : y = x := by simpa using h
    rfl
  | y :: l, i + 1, z, x, h => by
    have ih := pxCells_set0 l i z x (by simpa using h)
    have e : pxCells (y :: l) = .int .i64 y.g :: y.v :: pxCells l := rfl
    rw [e, show (i + 1) * 2 = i * 2 + 1 + 1 by omega]
    simp only [List.set_cons_succ]
    rw [ih]
    rfl
  | [], i, z, x, h => by simp at h
theorem pxCells_set1 : ∀ (l : List PX) (i : Nat) (v : Value) (bs : List UInt8) (x : PX), l[i]? = some x → (pxCells l).set (i * 2 + 1) v = pxCells (l.set i ⟨x.g, v, bs⟩)
  | y :: l, 0, v, bs, x, h => by
    obtain rfl : y = x := by simpa using h
    rfl
  | y :: l, i + 1, v, bs, x, h => by
    have ih := pxCells_set1 l i v bs x (by simpa using h)
    have e : pxCells (y :: l) = .int .i64 y.g :: y.v :: pxCells l := rfl
    rw [e, show (i + 1) * 2 + 1 = (i * 2 + 1) + 1 + 1 by omega]
    simp only [List.set_cons_succ]
    rw [ih]
    rfl
  | [], i, v, bs, x, h => by simp at h
theorem pxCells_same : ∀ (l : List PX) (i : Nat) (bs : List UInt8) (x : PX), l[i]? = some x → pxCells (l.set i ⟨x.g, x.v, bs⟩) = pxCells l
  | y :: l, 0, bs, x, h => by
    obtain rfl : y = x := by simpa using h
    rfl
  | y :: l, i + 1, bs, x, h => by
    have ih := pxCells_same l i bs x (by simpa using h)
    have e : ∀ m, pxCells (y :: m) = .int .i64 y.g :: y.v :: pxCells m := fun _ => rfl
    rw [List.set_cons_succ, e, e, ih]
  | [], i, bs, x, h => by simp at h
theorem twice_len {L : List CellP} {g : Int} (h : Fine L) : (sealed (encCells (twiceL g L))).length ≤ 1099511627776 := by
  rw [sealed_length]
  have hmem : ∀ c ∈ twiceL g L, c ∈ L := fun c hc => by
    unfold twiceL at hc
    rcases List.mem_append.1 hc with hc | hc
    · exact (List.mem_filter.1 hc).1
    · rw [Option.mem_toList] at hc
      exact (List.mem_filter.1 (List.mem_of_getLast? hc)).1
  have h1 := encInt_length ((twiceL g L).length : Int)
  have h2 := encList_len (l := twiceL g L) fun c hc => h.st.valid c (hmem c hc)
  have h3 : weightL (twiceL g L) ≤ 134217728 := by
    unfold twiceL
    rw [weightL_app]
    have h4 := weightL_filter_le (inGroup g) L
    have h6 := h.st.full
    cases hd : (L.filter (inGroup g)).getLast? with
    | none => simp [weightL] at h4 h6 ⊢; omega
    | some d =>
      have h5 := weightL_mem (List.mem_filter.1 (List.mem_of_getLast? hd)).1
      have h7 : weightL (some d).toList = d.weight := by simp [weightL]
      omega
  unfold encCells
  rw [List.length_append]; omega
section
variable {B g c k : Nat} {w : World} {xs : List PX} {x : PX}
theorem OwnPc.set0 (h : OwnPc B w (.slice (some ⟨g, 0, none⟩) xs.length c) xs) (hx : xs[k]? = some x) (z : Int) : OwnPc B (w.setCell ⟨g, k * 2, none⟩ (.int .i64 z)) (.slice (some ⟨g, 0, none⟩) xs.length c) (xs.set k ⟨z, x.v, x.bytes⟩) := by
  have := owns_put (i := k * 2) h (.int .i64 z)
  rw [pxCells_set0 xs k z x hx] at this
  unfold OwnPc
  rwa [List.length_set]
theorem OwnPc.set1 (h : OwnPc B w (.slice (some ⟨g, 0, none⟩) xs.length c) xs) (hx : xs[k]? = some x) (v : Value) (bs : List UInt8) : OwnPc B (w.setCell ⟨g, k * 2 + 1, none⟩ v) (.slice (some ⟨g, 0, none⟩) xs.length c) (xs.set k ⟨x.g, v, bs⟩) := by
  have := owns_put (i := k * 2 + 1) h v
  rw [pxCells_set1 xs k v bs x hx] at this
  unfold OwnPc
  rwa [List.length_set]
theorem OwnPc.same {v : Value} (h : OwnPc B w v xs) (hx : xs[k]? = some x) (bs : List UInt8) : OwnPc B w v (xs.set k ⟨x.g, x.v, bs⟩) := by
  unfold OwnPc at h ⊢
  rw [pxCells_same xs k bs x hx, List.length_set]
  exact h
end
theorem pcs_set {B : Nat} {w : World} {v : Value} {xs : List PX} {k : Nat} {y : PX} (h1 : OwnPc B w v (xs.set k y)) (h2 : IsBytes w y.v y.bytes) (h3 : ∀ j (h : j < xs.length), j ≠ k → IsBytes w xs[j].v xs[j].bytes) : PcsIn All w v ((xs.set k y).map PX.pair) := by
  refine pcs_in h1 fun x hx => ?_
  obtain ⟨j, hj, rfl⟩ := List.getElem_of_mem hx
  rw [List.getElem_set]
  split
  · exact h2
  · rename_i hne
    exact h3 j (by rwa [List.length_set] at hj) (fun e => hne e.symm)
/-- where a piece stands among the others. -/
structure AtK (L : List CellP) (xs : List PX) (k : Nat) (x : PX) (pre post : List Int) (g : Int) : Prop where
  ok : GrpsOk L pre
  new : g ∉ pre
  rng : 0 ≤ g ∧ g < 32
  ne : (L.filter (inGroup g)).length ≠ 0
  is : x.pair = pc L g
  all : xs.map PX.pair = pre.map (pc L) ++ pc L g :: post.map (pc L)
  set : ∀ y : PX, (xs.set k y).map PX.pair = pre.map (pc L) ++ y.pair :: post.map (pc L)
  pre : ∀ z : Int, (∀ j (h : j < xs.length), j ≠ k → xs[j].g ≠ z) → z ∉ pre
theorem at_k {L : List CellP} {xs : List PX} {k : Nat} (hx : xs.map PX.pair = pieces 0 32 L) (hk : k < xs.length) : ∃ pre post g, AtK L xs k xs[k] pre post g := by
  have hok := grps_ok (lo := 0) (hi := 32) (L := L) ⟨by omega, by omega⟩
  unfold pieces at hx
  rw [piecesN_map] at hx
  generalize grpsN 0 L ((32 : Int) - 0).toNat = gs at hx hok
  have hlen : gs.length = xs.length := by have := congrArg List.length hx; rw [List.length_map, List.length_map] at this; omega
  have hkg : k < gs.length := by omega
  have hsplit := List.take_append_drop k gs
  rw [List.drop_eq_getElem_cons hkg] at hsplit
  have hnd := hok.1
  rw [← hsplit] at hnd
  have hnd2 := List.nodup_append.1 hnd
  have hat : ∀ j (h : j < xs.length), xs[j].pair = pc L (gs[j]'(by omega)) := fun j h => by
    have e : (xs.map PX.pair)[j]'(by rw [List.length_map]; exact h) = (gs.map (pc L))[j]'(by rw [List.length_map]; omega) := by simp only [hx]
    rwa [List.getElem_map, List.getElem_map] at e
  obtain ⟨r1, r2, r3⟩ := hok.2 _ (List.getElem_mem hkg)
  refine ⟨gs.take k, gs.drop (k + 1), gs[k], ⟨⟨hnd2.1, fun g hg => hok.2 g (List.mem_of_mem_take hg)⟩, fun h => hnd2.2.2 _ h _ List.mem_cons_self rfl, ⟨r1, r2⟩, r3, hat k hk, ?_, fun y => ?_, fun z hz hm => ?_⟩⟩
  · rw [hx, ← List.map_cons, ← List.map_append, hsplit]
  · rw [List.map_set, hx, List.set_eq_take_append_cons_drop, if_pos (by rw [List.length_map]; exact hkg), List.map_take, List.map_drop]
  · obtain ⟨j, hj, e⟩ := List.getElem_of_mem hm
    rw [List.length_take] at hj
    rw [List.getElem_take] at e
    have := hz j (by omega) (by omega)
    have e2 := hat j (by omega)
    unfold PX.pair pc at e2
    simp only [Prod.mk.injEq] at e2
    exact this (e2.1.trans e)
end Go.Proofs.YtgcnchmnciihnaaGreatDoor
