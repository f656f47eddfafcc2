/-
  PROVED HERE: slices of texts of one's own. No program of its own.
-/
import Derived.Test.YtcmpjdnbjhkhdaaDoorRows
import Derived.Test.YtcmpjdnbjhkhdaaDoorBytes
import Derived.Test.YtcmpjdnbjhkhdaaDoorOwnLaws
import Derived.Laws.IdiomCopy
import Derived.WalkSpells
import Derived.Deep.RegionLaw
namespace Go.Proofs.YtcmpjdnbjhkhdaaDoor
set_option linter.unusedSimpArgs false
set_option linter.unusedVariables false
open Go Go.RowKit

def encS (n : List UInt8) : Value := .string (strB n)
def strCells (l : List (List UInt8)) : List Value := l.map encS
theorem strCells_length (l : List (List UInt8)) : (strCells l).length = l.length := by unfold strCells; rw [List.length_map]
theorem strCells_ones (l : List (List UInt8)) : ∀ u ∈ strCells l, u.oneCell' = true := by
  intro u hu
  obtain ⟨x, -, rfl⟩ := List.mem_map.1 hu
  rfl
def eqB (x y : List UInt8) : Bool := (strB x).toList == (strB y).toList
theorem eqB_true {x y : List UInt8} : eqB x y = true ↔ x = y := by
  constructor
  · intro h
    apply Classical.byContradiction
    intro hn
    unfold eqB at h
    rw [str_ne hn] at h
    cases h
  · exact fun h => str_eq h
theorem eqB_false {x y : List UInt8} (h : x ≠ y) : eqB x y = false := str_ne h
def OwnS (B : Nat) (w : World) (v : Value) (l : List (List UInt8)) : Prop := w.ownsRow B 9 1 v l.length (strCells l)
theorem OwnS.nil (B : Nat) (w : World) : OwnS B w (.slice none 0 0) [] := ⟨rfl, .inl ⟨rfl, rfl⟩⟩
theorem OwnS.slice {B : Nat} {w : World} {v : Value} {l : List (List UInt8)} (h : OwnS B w v l) : ∃ a c, v = .slice a l.length c := by
  rcases h.2 with ⟨rfl, h0⟩ | ⟨g, cap, cur, rfl, _⟩
  · exact ⟨none, 0, by rw [h0]⟩
  · exact ⟨_, _, rfl⟩
theorem OwnS.later {B : Nat} {w w' : World} {v : Value} {l : List (List UInt8)} (h : OwnS B w v l) (k : Later w w') : OwnS B w' v l := owns_at h k
theorem OwnS.keep {S : Nat → Prop} {B : Nat} {w w' : World} {v : Value} {l : List (List UInt8)} (h : OwnS B w v l) (k : Keeps S w w') (hs : ∀ g, v.ownBlock = some g → S g) : OwnS B w' v l := owns_keep h k hs
theorem OwnS.len {B c n : Nat} {w : World} {a : Option Addr} {l : List (List UInt8)} (h : OwnS B w (.slice a n c) l) : n = l.length ∧ n ≤ c ∧ c ≤ maxLen ∧ (a = none → n = 0 ∧ c = 0) := by
  obtain ⟨hl, ⟨h, h0⟩ | ⟨g, cap', cur, hv, hb, hg, h1, h2, h3, h4⟩⟩ := h
  · simp only [Value.slice.injEq] at h
    obtain ⟨rfl, rfl, rfl⟩ := h
    exact ⟨h0.symm, Nat.le_refl _, by unfold maxLen; omega, fun _ => ⟨rfl, rfl⟩⟩
  · simp only [Value.slice.injEq] at hv
    obtain ⟨rfl, rfl, rfl⟩ := hv
    exact ⟨rfl, h1, h2, fun h => (by cases h)⟩
theorem OwnS.obj {B c n : Nat} {w : World} {a : Option Addr} {l : List (List UInt8)} (h : OwnS B w (.slice a n c) l) (hl : 0 < l.length) : ∃ g cur T, a = some ⟨g, 0, none⟩ ∧ B ≤ g ∧ w.heap[g]? = some (.cells cur T (0, 0)) ∧ ∀ j u, (strCells l)[j]? = some u → w.cell? ⟨g, j, none⟩ = some u := by
  obtain ⟨-, ⟨h, h0⟩ | ⟨g, cap', cur, hv, hb, hg, h1, h2, h3, h4⟩⟩ := h
  · omega
  · simp only [Value.slice.injEq] at hv
    obtain ⟨rfl, rfl, rfl⟩ := hv
    refine ⟨g, cur, _, rfl, hb, hg, fun j u hu => cell_obj hg ?_⟩
    rw [← h4, List.getElem?_take] at hu
    split at hu
    · simpa using hu
    · cases hu
theorem OwnS.at {B c n i : Nat} {w : World} {a : Option Addr} {l : List (List UInt8)} (h : OwnS B w (.slice a n c) l) (hi : i < l.length) : ∃ g, a = some ⟨g, 0, none⟩ ∧ B ≤ g ∧ w.cell? ⟨g, i, none⟩ = some (.string (strB l[i])) ∧ w.frozen? ⟨g, i, none⟩ = false := by
  obtain ⟨g, cur, T, rfl, hb, hg, hc⟩ := h.obj (by omega)
  exact ⟨g, rfl, hb, hc i _ (by unfold strCells; rw [List.getElem?_map, List.getElem?_eq_getElem hi]; rfl), free_obj hg⟩
theorem OwnS.set {B n c g i : Nat} {w : World} {l : List (List UInt8)} (h : OwnS B w (.slice (some ⟨g, 0, none⟩) n c) l) (hn : n = l.length) (x : List UInt8) : OwnS B (w.setCell ⟨g, i, none⟩ (.string (strB x))) (.slice (some ⟨g, 0, none⟩) n c) (l.set i x) := by
  subst hn
  have := owns_put (i := i) h (.string (strB x))
  unfold OwnS
  rw [List.length_set]
  have e : strCells (l.set i x) = (strCells l).set i (.string (strB x)) := by unfold strCells; rw [List.map_set]; rfl
  rw [e]
  exact this
/-- cells written behind what a slice holds leave it as it was. -/
theorem owns_cells {B s : Nat} {e : TypeId} {n c g : Nat} {xs : List Value} : ∀ (vs : List Value) (o : Nat) (w : World), n * s ≤ o → w.ownsRow B e s (.slice (some ⟨g, 0, none⟩) n c) n xs → (w.setCells g o vs).ownsRow B e s (.slice (some ⟨g, 0, none⟩) n c) n xs
  | [], _, _, _, h => h
  | v :: r, o, w, ho, h => by
    have h1 := owns_put (i := o) h v
    rw [List.set_eq_of_length_le (by rw [h.1]; exact ho)] at h1
    exact owns_cells r (o + 1) _ (by omega) h1
theorem keeps_cells {g : Nat} : ∀ (vs : List Value) (o : Nat) (w : World), Keeps (fun b => b ≠ g) w (w.setCells g o vs)
  | [], _, w => Keeps.refl _ _
  | v :: r, o, w => ((Keeps.refl (fun b => b ≠ g) w).setCell (p := ⟨g, o, none⟩) (.inl fun h => h rfl) v).trans (keeps_cells r (o + 1) _)
theorem OwnS.cut {B n c g i : Nat} {w : World} {l : List (List UInt8)} (h : OwnS B w (.slice (some ⟨g, 0, none⟩) n c) l) (hi : i ≤ l.length) : OwnS B w (.slice (some ⟨g, 0, none⟩) i c) (l.take i) := by
  obtain ⟨hl, ⟨h, h0⟩ | ⟨g', cap', cur, hv, hb, hg, h1, h2, h3, h4⟩⟩ := h
  · cases h
  · simp only [Value.slice.injEq, Option.some.injEq, Addr.mk.injEq, and_true] at hv
    obtain ⟨rfl, rfl, rfl⟩ := hv
    have e : (l.take i).length = i := by rw [List.length_take]; omega
    refine ⟨by rw [strCells_length, Nat.mul_one], .inr ⟨g, c, cur, by rw [e], hb, hg, by rw [e]; omega, h2, h3, ?_⟩⟩
    have e2 : strCells (l.take i) = (strCells l).take i := by unfold strCells; rw [List.map_take]
    rw [e, e2, ← h4, List.take_take, Nat.mul_one, Nat.mul_one, Nat.min_eq_left (by omega)]
theorem zeroS_ones (n : Nat) : ∀ v ∈ (Builtin.zeroCells #[.string ⟨#[]⟩] n).toList, v.oneCell' = true := by
  intro v hv
  simp only [Builtin.zeroCells, Array.toList_map, List.mem_map] at hv
  obtain ⟨i, _, rfl⟩ := hv
  have h : i % 1 = 0 := Nat.mod_one i
  show (#[Value.string ⟨#[]⟩][i % 1]!).oneCell' = true
  rw [h]; rfl
theorem zeroS_len (n : Nat) : (Builtin.zeroCells #[.string ⟨#[]⟩] n).toList.length = n := by simp [Builtin.zeroCells]
theorem run_clear_str {P : Program} {w : World} (t ty e : TypeId) (ht : P.underlying t = some (.slice e)) (hz : ∀ w, (zeroValue e).run P w = .ok (.string ⟨#[]⟩) w)
    (g off m c : Nat) (hm : 0 < m) (hc : ∀ j, j < m → (w.cell? ⟨g, off + j, none⟩).isSome = true) (hf : ∀ j, j < m → w.frozen? ⟨g, off + j, none⟩ = false) :
    (Builtin.clear_ #[t] ty #[.slice (some ⟨g, off, none⟩) m c]).run P w = .ok (.tuple #[]) (w.setCells g off (Builtin.zeroCells #[.string ⟨#[]⟩] m).toList) := by
  have hst := run_storeCells_cells (P := P) g off (Builtin.zeroCells #[.string ⟨#[]⟩] m).toList 0 w (by rw [zeroS_len]; simpa using hc) (by rw [zeroS_len]; simpa using hf) (zeroS_ones m)
  simp only [Nat.add_zero] at hst
  obtain ⟨m', rfl⟩ : ∃ m', m = m' + 1 := ⟨m - 1, by omega⟩
  simp [Builtin.clear_, run_underlying ht, hz, Value.cells, hst]
end Go.Proofs.YtcmpjdnbjhkhdaaDoor
