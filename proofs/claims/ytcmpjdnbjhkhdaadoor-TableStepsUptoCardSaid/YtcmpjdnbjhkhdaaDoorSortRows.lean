/-
  PROVED HERE: rows with their slices; the contract of slices.SortFunc at rows, by value.CompareRows.
-/
import Derived.Test.YtcmpjdnbjhkhdaaDoorCmpD
import Derived.Test.YtcmpjdnbjhkhdaaDoorSortKit
import Derived.Test.YtcmpjdnbjhkhdaaDoorShelf4
namespace Go.Proofs.YtcmpjdnbjhkhdaaDoor
set_option linter.unusedSimpArgs false
set_option linter.unusedVariables false
open Go.RowKit Go.Sort Go.Shelf

/-- a row, and the slice that holds its values. -/
structure RX where
  row : Row
  v : Value
abbrev RX.cells (x : RX) : List Value := [.int .i64 x.row.time, x.v]
def rxCells (l : List RX) : List Value := l.flatMap RX.cells
theorem rxCells_cons (x : RX) (l : List RX) : rxCells (x :: l) = .int .i64 x.row.time :: x.v :: rxCells l := rfl
theorem rxCells_length (l : List RX) : (rxCells l).length = l.length * 2 := by
  induction l with
  | nil => rfl
  | cons x l ih => rw [rxCells_cons]; simp only [List.length_cons, ih]; omega
theorem rxCells_app (a b : List RX) : rxCells (a ++ b) = rxCells a ++ rxCells b := by simp [rxCells]
theorem rxCells_at : ∀ (l : List RX) (i : Nat) (h : i < l.length), (rxCells l)[i * 2]? = some (.int .i64 l[i].row.time) ∧ (rxCells l)[i * 2 + 1]? = some l[i].v
  | x :: l, 0, _ => ⟨rfl, rfl⟩
  | x :: l, i + 1, h => by
    have ih := rxCells_at l i (by simpa using h)
    rw [rxCells_cons, show (i + 1) * 2 = i * 2 + 1 + 1 by omega]
    simpa using ih
abbrev OwnR (B : Nat) (w : World) (v : Value) (l : List RX) : Prop := w.ownsRow B 79 2 v l.length (rxCells l)

/-- a row whose slice stands in blocks other than one. -/
def Held (w : World) (g : Nat) (x : RX) : Prop := ValsIn (fun b => b ≠ g) w x.v x.row.vals
abbrev HRow (w : World) (g : Nat) : Type := { x : RX // Held w g x }
def nilRX : RX := ⟨⟨0, []⟩, .slice none 0 0⟩
theorem held_nil (w : World) (g : Nat) : Held w g nilRX := ⟨none, 0, rfl, Nat.le_refl _, by unfold maxLen; omega, fun _ => rfl, fun i hi => (by cases hi)⟩
instance (w : World) (g : Nat) : Inhabited (HRow w g) := ⟨⟨nilRX, held_nil w g⟩⟩
def encR {w : World} {g : Nat} (x : HRow w g) : List Value := x.1.cells
def cfR {w : World} {g : Nat} (x y : HRow w g) : Int := compareR x.1.row y.1.row
theorem swoR (w : World) (g : Nat) : SWO (ltOf (cfR (w := w) (g := g))) where
  irrefl x := by
    have := (compareR_total.eq x.1.row x.1.row).2 rfl
    unfold ltOf cfR
    rw [this]
    rfl
  trans x y z h1 h2 := by
    unfold ltOf cfR at *
    exact decide_eq_true (compareR_total.trans _ _ _ (of_decide_eq_true h1) (of_decide_eq_true h2))
  ntrans x y z h1 h2 := by
    unfold ltOf cfR at *
    have h1 := of_decide_eq_false h1
    have h2 := of_decide_eq_false h2
    refine decide_eq_false fun h => ?_
    have n1 := compareR_total.neg x.1.row y.1.row
    have n2 := compareR_total.neg y.1.row z.1.row
    by_cases e1 : compareR x.1.row y.1.row = 0
    · rw [(compareR_total.eq _ _).1 e1] at h; omega
    · have := compareR_total.trans y.1.row x.1.row z.1.row (by omega) h
      omega
theorem one_held {w : World} {g : Nat} (x : HRow w g) : ∀ v ∈ encR x, v.oneCell' = true := by
  intro v hv
  simp only [encR, RX.cells, List.mem_cons, List.not_mem_nil, or_false] at hv
  rcases hv with rfl | rfl
  · rfl
  · obtain ⟨a, c, e, _⟩ := x.2
    rw [e]; rfl
theorem flat_rows {w : World} {g : Nat} (l : List (HRow w g)) : (flatK encR 2 l.toArray).toList = rxCells (l.map (·.1)) := by
  apply List.ext_getElem?
  intro t
  by_cases ht : t < l.length * 2
  · have h1 : (flatK encR 2 l.toArray).toList[t]? = some ((encR l.toArray[t / 2]!)[t % 2]!) := by
      rw [Array.getElem?_toList, Array.getElem?_eq_getElem (by simpa using ht), ← getElem!_pos (flatK encR 2 l.toArray) t (by simpa using ht), get_flatK _ _ _ _ (by simpa using ht)]
    rw [h1]
    have hi : t / 2 < l.length := by omega
    have hg : l.toArray[t / 2]! = l[t / 2] := by rw [getElem!_pos _ _ (by simpa using hi)]; simp
    rw [hg]
    obtain ⟨q1, q2⟩ := rxCells_at (l.map (·.1)) (t / 2) (by simpa using hi)
    rw [List.getElem_map] at q1 q2
    rcases (by omega : t % 2 = 0 ∨ t % 2 = 1) with h | h
    · rw [h]
      have e : t = t / 2 * 2 := by omega
      rw [show (rxCells (l.map (·.1)))[t]? = (rxCells (l.map (·.1)))[t / 2 * 2]? by rw [← e], q1]
      rfl
    · rw [h]
      have e : t = t / 2 * 2 + 1 := by omega
      rw [show (rxCells (l.map (·.1)))[t]? = (rxCells (l.map (·.1)))[t / 2 * 2 + 1]? by rw [← e], q2]
      rfl
  · rw [List.getElem?_eq_none (by simp; omega), List.getElem?_eq_none (by rw [rxCells_length, List.length_map]; omega)]
theorem attach_rows {w : World} {g : Nat} (xs : List RX) (h : ∀ x ∈ xs, Held w g x) : ∃ l : List (HRow w g), l.map (·.1) = xs := by
  induction xs with
  | nil => exact ⟨[], rfl⟩
  | cons x xs ih =>
    obtain ⟨l, hl⟩ := ih fun y hy => h y (List.mem_cons_of_mem _ hy)
    exact ⟨⟨x, h x List.mem_cons_self⟩ :: l, congrArg (x :: ·) hl⟩
def SortRTo (w : World) (B : Nat) (v : Value) (l : List RX) (e : Ending) (w' : World) : Prop :=
  e = .returned (.tuple #[]) ∧ ∃ l', OwnR B w' v l' ∧ l'.Perm l ∧ SortedR (l'.map (·.row)) ∧ Keeps (fun b => some b ≠ v.ownBlock) w w'
set_option maxHeartbeats 1000000 in
theorem sort_rows (B : Nat) (a : Option Addr) (c : Nat) (l : List RX) (w : World) (h : OwnR B w (.slice a l.length c) l) (hh : ∀ g, a = some ⟨g, 0, none⟩ → ∀ x ∈ l, Held w g x) (hl : l.length < 4611686018427387904) :
    Calls Tryd.prog 102 #[.slice a l.length c, .func (.func 103) #[] #[]] w (SortRTo w B (.slice a l.length c) l) := by
  by_cases h0 : l = []
  · subst h0
    have hc := AnyF.slices_SortFunc_none Tryd.sortRow a c (.func (.func 103) #[] #[]) w
    refine Calls.mono hc ?_
    rintro e w' ⟨rfl, rfl⟩
    exact ⟨rfl, [], h, List.Perm.refl _, List.Pairwise.nil, Keeps.refl _ _⟩
  · have hpos : 0 < l.length := List.length_pos_iff.2 h0
    obtain ⟨hn, ⟨hv, hz⟩ | ⟨g, cap, cur, hv, hb, hg, h1, h2, h3, h4⟩⟩ := h
    · omega
    · simp only [Value.slice.injEq, true_and] at hv
      obtain ⟨rfl, rfl⟩ := hv
      obtain ⟨L, hL⟩ := attach_rows l (hh g rfl)
      have hLl : L.length = l.length := by rw [← hL, List.length_map]
      have hF : (flatK encR 2 L.toArray).size = l.length * 2 := by simp [hLl]
      have hH : HoldsK encR 2 w g 0 L.toArray := holds_own hg (by rw [hF, flat_rows, hL]; exact h4)
      have eg : ∀ args w, (callFunc 103 args).run Tryd.prog w = .ok (.enter 103 args) w := enters_of Tryd.func103 (by kernel_rfl) rfl
      have hcon := AnyQ.slices_SortFunc Tryd.sortRow 2 Tryd.isAgg79 Tryd.sizeOf79 encR (fun _ => rfl) one_held cfR (swoR w g) 103 #[] g 0 c L.toArray w eg
        (fun m os dk _ x y => by
          have hk : Keeps (fun b => b ≠ g) w (sortWorldK encR 2 w g 0 m dk os) := keeps_put (flatK encR 2 dk)
          refine Calls.mono (compare_rowsD x.1.row.time y.1.row.time x.1.row.vals y.1.row.vals x.1.v y.1.v _ ((x.2.vals_kept hk fun _ h => h).vals_mono fun _ _ => trivial) ((y.2.vals_kept hk fun _ h => h).vals_mono fun _ _ => trivial)) ?_
          rintro e w' ⟨rfl, hLd⟩
          exact ⟨rfl, hLd.grown⟩)
        hH (Array.getElem?_eq_some_iff.1 hg).1 (by simpa [hLl] using hl)
      rw [show L.toArray.size = l.length by simp [hLl]] at hcon
      refine Calls.mono hcon ?_
      rintro e w' ⟨rfl, d', n, os, hp, hs, rfl⟩
      have hsz : d'.size = l.length := by have := hp.1; simpa [hLl] using this
      have hpm : d'.toList.Perm L := by simpa using perm_all (d := L.toArray) (by simpa [hLl] using hp)
      refine ⟨rfl, d'.toList.map (·.1), ?_, by rw [← hL]; exact hpm.map _, ?_, ?_⟩
      · have hF' : (flatK encR 2 d').size = l.length * 2 := by simp [hsz]
        have hfl : (flatK encR 2 d').toList = rxCells (d'.toList.map (·.1)) := by have := flat_rows d'.toList; simpa using this
        have hll : (d'.toList.map (·.1)).length = l.length := by rw [List.length_map, Array.length_toList, hsz]
        refine ⟨by rw [rxCells_length], .inr ⟨g, c, _, by rw [hll], hb, heap_put (flatK encR 2 d') hg, by rw [hll]; exact h1, h2, by simp [putCells, h3], ?_⟩⟩
        rw [hll, ← hF', ← hfl]
        exact take_put cur _ (by rw [hF', h3]; omega)
      · unfold SortedR
        rw [List.map_map, List.pairwise_map, List.pairwise_iff_getElem]
        intro i j hi hj hij
        have := hs i j (Nat.zero_le _) hij (by simpa [hsz] using hj)
        unfold ltOf cfR at this
        rw [decide_eq_false_iff_not, getElem!_pos d' j (by simpa using hj), getElem!_pos d' i (by simpa using hi)] at this
        simp only [Array.getElem_toList, Function.comp]
        omega
      · exact (keeps_put (flatK encR 2 d')).mono fun k _ hk e => hk (by subst e; rfl)
end Go.Proofs.YtcmpjdnbjhkhdaaDoor
