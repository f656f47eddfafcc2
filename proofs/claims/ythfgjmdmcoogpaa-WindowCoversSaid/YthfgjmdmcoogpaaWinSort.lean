/-
  PROVED HERE: the contract of slices.SortFunc at windows, by their beginnings: what a slice of one's own holds behind it.
-/
import Derived.Test.YthfgjmdmcoogpaaWinFns
import Derived.Test.YthfgjmdmcoogpaaShelf
namespace Go.Proofs.Ythfgjmdmcoogpaa
set_option linter.unusedSimpArgs false
set_option linter.unusedVariables false
open Go.RowKit Go.Sort Go.Shelf

def encW (x : Win) : List Value := [.int .i64 x.1, .int .i64 x.2]
theorem flat_wins (l : List Win) : (flatK encW 2 l.toArray).toList = winCells l := by
  apply List.ext_getElem?
  intro t
  by_cases ht : t < l.length * 2
  · have h1 : (flatK encW 2 l.toArray).toList[t]? = some ((encW l.toArray[t / 2]!)[t % 2]!) := by
      rw [Array.getElem?_toList, Array.getElem?_eq_getElem (by simpa using ht), ← getElem!_pos (flatK encW 2 l.toArray) t (by simpa using ht), get_flatK _ _ _ _ (by simpa using ht)]
    rw [h1]
    have hi : t / 2 < l.length := by omega
    have hg : l.toArray[t / 2]! = l[t / 2] := by rw [getElem!_pos _ _ (by simpa using hi)]; simp
    rw [hg]
    obtain ⟨q1, q2⟩ := winCells_at l (t / 2) hi
    rcases (by omega : t % 2 = 0 ∨ t % 2 = 1) with h | h
    · rw [h]
      have e : t = t / 2 * 2 := by omega
      rw [show (winCells l)[t]? = (winCells l)[t / 2 * 2]? by rw [← e], q1]
      rfl
    · rw [h]
      have e : t = t / 2 * 2 + 1 := by omega
      rw [show (winCells l)[t]? = (winCells l)[t / 2 * 2 + 1]? by rw [← e], q2]
      rfl
  · rw [List.getElem?_eq_none (by simp; omega), List.getElem?_eq_none (by rw [winCells_length]; omega)]
theorem holds_own {w : World} {g : Nat} {cur : Array Value} {e : TypeId} {F : Array Value} (hb : w.heap[g]? = some (.cells cur e (0, 0))) (ht : cur.toList.take F.size = F.toList) : Holds id w g 0 F := by
  intro j hj
  refine ⟨?_, by simp [World.frozen?, hb]⟩
  have h1 : (cur.toList.take F.size)[j]? = F.toList[j]? := by rw [ht]
  rw [List.getElem?_take_of_lt hj] at h1
  simp only [World.cell?, hb, Nat.zero_add]
  simp only [Option.isSome_none, Bool.false_eq_true, if_false]
  rw [← Array.getElem?_toList, h1, Array.getElem?_toList, Array.getElem?_eq_getElem hj, getElem!_pos F j hj]
  rfl
theorem heap_put {w : World} {g n : Nat} {os : Array Obj} {cur : Array Value} {e : TypeId} {fr : Nat × Nat} (F : Array Value) (hb : w.heap[g]? = some (.cells cur e fr)) :
    (grow (putRow id (Sort.ahead w n) g 0 F) os).heap[g]? = some (.cells (putCells id 0 F cur) e fr) := by
  have hg : g < w.heap.size := (Array.getElem?_eq_some_iff.1 hb).1
  rw [heap_grow_old _ _ (by simpa using hg)]
  simp [putRow, mapBlock, Sort.ahead, Array.getElem?_modify, hb, onCells]
theorem keeps_put {w : World} {g n : Nat} {os : Array Obj} (F : Array Value) : Keeps (fun b => b ≠ g) w (grow (putRow id (Sort.ahead w n) g 0 F) os) := by
  refine ⟨rfl, rfl, rfl, by simp, fun k hk hne => ?_⟩
  rw [heap_grow_old _ _ (by simpa using hk)]
  simp [putRow, mapBlock, Sort.ahead, Array.getElem?_modify, Ne.symm hne]
theorem take_put (cur F : Array Value) (h : F.size ≤ cur.size) : (putCells id 0 F cur).toList.take F.size = F.toList := by
  apply List.ext_getElem?
  intro j
  by_cases hj : j < F.size
  · rw [List.getElem?_take_of_lt hj, Array.getElem?_toList, Array.getElem?_toList, Array.getElem?_eq_getElem hj]
    simp [putCells, hj, show j < cur.size by omega]
  · rw [List.getElem?_take_eq_none (by omega), List.getElem?_eq_none (by simp; omega)]
def cfW (x y : Win) : Int := cmpI x.1 y.1
theorem lt_cfW (x y : Win) : ltOf cfW x y = decide (x.1 < y.1) := by
  unfold ltOf cfW cmpI
  by_cases h1 : x.1 < y.1
  · simp [h1]
  · by_cases h2 : y.1 < x.1 <;> simp [h1, h2]
theorem swoW : SWO (ltOf cfW) where
  irrefl x := by rw [lt_cfW]; simp
  trans x y z h1 h2 := by rw [lt_cfW] at *; simp at *; omega
  ntrans x y z h1 h2 := by rw [lt_cfW] at *; simp at *; omega
def SortTo (w : World) (B : Nat) (v : Value) (l : List Win) (e : Ending) (w' : World) : Prop :=
  e = .returned (.tuple #[]) ∧ ∃ l', OwnW B w' v l' ∧ l'.Perm l ∧ (l'.Pairwise fun a b => a.1 ≤ b.1) ∧ Keeps (fun b => some b ≠ v.ownBlock) w w'
theorem perm_all {d d' : Array Win} (h : PermIn 0 d.size d d') : d'.toList.Perm d.toList := by
  obtain ⟨h1, _, h3⟩ := h
  have e1 : d'.extract 0 d.size = d' := by rw [← h1]; simp
  have e2 : d.extract 0 d.size = d := by simp
  rwa [e1, e2] at h3
set_option maxHeartbeats 1000000 in
theorem sort_wins (B : Nat) (a : Option Addr) (c : Nat) (l : List Win) (w : World) (h : OwnW B w (.slice a l.length c) l) (hl : l.length < 4611686018427387904) :
    Calls Try.prog 21 #[.slice a l.length c, .func (.func 22) #[] #[]] w (SortTo w B (.slice a l.length c) l) := by
  by_cases h0 : l = []
  · subst h0
    have hc := AnyF.slices_SortFunc_none Try.sortWin a c (.func (.func 22) #[] #[]) w
    refine Calls.mono hc ?_
    rintro e w' ⟨rfl, rfl⟩
    exact ⟨rfl, [], h, List.Perm.refl _, List.Pairwise.nil, Keeps.refl _ _⟩
  · have hpos : 0 < l.length := List.length_pos_iff.2 h0
    obtain ⟨hn, ⟨hv, hz⟩ | ⟨g, cap, cur, hv, hb, hg, h1, h2, h3, h4⟩⟩ := h
    · omega
    · simp only [Value.slice.injEq, true_and] at hv
      obtain ⟨rfl, rfl⟩ := hv
      have hF : (flatK encW 2 l.toArray).size = l.length * 2 := by simp
      have hH : HoldsK encW 2 w g 0 l.toArray := holds_own hg (by rw [hF, flat_wins]; exact h4)
      have eg : ∀ args w, (callFunc 22 args).run Try.prog w = .ok (.enter 22 args) w := enters_of Try.func22 (by kernel_rfl) rfl
      have hcon := AnyQ.slices_SortFunc Try.sortWin 2 Try.isAgg24 Try.sizeOf24 encW (fun _ => rfl) (fun x v hv => by simp [encW] at hv; rcases hv with rfl | rfl <;> rfl) cfW swoW 22 #[] g 0 c l.toArray w eg (fun _ _ _ _ x y => ord_any x y _) hH (Array.getElem?_eq_some_iff.1 hg).1 (by simpa using hl)
      rw [show l.toArray.size = l.length by simp] at hcon
      refine Calls.mono hcon ?_
      rintro e w' ⟨rfl, d', n, os, hp, hs, rfl⟩
      have hsz : d'.size = l.length := by have := hp.1; simpa using this
      refine ⟨rfl, d'.toList, ?_, by simpa using perm_all (d := l.toArray) (by simpa using hp), ?_, ?_⟩
      · have hF' : (flatK encW 2 d').size = l.length * 2 := by simp [hsz]
        have hfl : (flatK encW 2 d').toList = winCells d'.toList := by have := flat_wins d'.toList; simpa using this
        refine ⟨by rw [winCells_length], .inr ⟨g, c, _, by simp [hsz], hb, heap_put (flatK encW 2 d') hg, by rw [Array.length_toList, hsz]; exact h1, h2, by simp [putCells, h3], ?_⟩⟩
        rw [Array.length_toList, hsz, ← hF', ← hfl]
        exact take_put cur _ (by rw [hF', h3]; omega)
      · rw [List.pairwise_iff_getElem]
        intro i j hi hj hij
        have := hs i j (Nat.zero_le _) hij (by simpa [hsz] using hj)
        rw [lt_cfW, decide_eq_false_iff_not, getElem!_pos d' j (by simpa using hj), getElem!_pos d' i (by simpa using hi)] at this
        simp only [Array.getElem_toList]
        omega
      · exact (keeps_put (flatK encW 2 d')).mono fun k _ hk e => hk (by subst e; rfl)
end Go.Proofs.Ythfgjmdmcoogpaa
