/-
  PROVED HERE: contracts of slices.Clone at values : what is handed back lies in new memory.
-/
import Derived.Test.YtbabfibmopfghaaGreatDoorRet
import Derived.WalkSpells
import Derived.Deep.RegionLaw
namespace Go.Proofs.YtbabfibmopfghaaGreatDoor
set_option linter.unusedSimpArgs false
set_option linter.unusedVariables false
open Go.RowKit

theorem infoVal : (Tryz.prog.info? 62).map (fun i => (i.zero, i.size, i.bytes)) = some (some (.agg #[.int .i64 0, .int .i64 0, .string ⟨#[]⟩]), 3, 32) := by kernel_rfl

/-- what a call hands back of a list of values: a slice of its own, nil if that was nil. -/
def Cloned (w : World) (v : Value) (l : List Val) (w' : World) (v' : Value) : Prop :=
  w'.ownsRow w.heap.size 62 3 v' l.length (valCells l) ∧ (v' = .slice none 0 0 ↔ v = .slice none 0 0)

theorem valCells_one (l : List Val) : ∀ u ∈ valCells l, u.oneCell' = true := by
  intro u hu
  simp only [valCells, List.mem_flatMap, Val.cells, List.mem_cons, List.not_mem_nil, or_false] at hu
  obtain ⟨x, _, rfl | rfl | rfl⟩ := hu <;> rfl
theorem valCells_at {S : Nat → Prop} {w : World} {a : Addr} {l : List Val} (h : Elems S ValAt 3 w (some a) l) : ∀ j u, (valCells l)[j]? = some u → w.cell? (a.add j) = some u := by
  intro j u hu
  have hj : j < l.length * 3 := by
    rw [← valCells_length]; exact (List.getElem?_eq_some_iff.1 hu).1
  obtain ⟨b, o, ha, _, h1, h2, h3⟩ := h (j / 3) (by omega)
  cases ha
  obtain ⟨q1, q2, q3⟩ := valCells_get l (j / 3) (by omega)
  rw [add_none rfl]
  rcases (by omega : j = j / 3 * 3 ∨ j = j / 3 * 3 + 1 ∨ j = j / 3 * 3 + 2) with e | e | e
  · rw [e] at hu; rw [q1] at hu; cases hu
    simpa [← e] using h1
  · rw [e] at hu; rw [q2] at hu; cases hu
    rw [Nat.add_assoc, ← e] at h2
    simpa using h2
  · rw [e] at hu; rw [q3] at hu; cases hu
    rw [Nat.add_assoc, ← e] at h3
    simpa using h3

def ClonedTo (w : World) (v : Value) (l : List Val) (e : Ending) (w' : World) : Prop := ∃ v', e = .returned v' ∧ Cloned w v l w' v' ∧ Later w w'

theorem clone_vals (l : List Val) (v : Value) (w : World) (hv : IsVals w v l) (hl : l.length * 32 ≤ 140737488355328) :
    Calls Tryz.prog 58 #[v] w (ClonedTo w v l) := by
  obtain ⟨p, c, rfl, hac, hcm, hnil, hea⟩ := hv
  have hcap : c ≤ 9223372036854775807 := by unfold maxLen at hcm; omega
  cases p with
  | none =>
    obtain rfl : c = 0 := hnil rfl
    have hl0 : l.length = 0 := by omega
    have hl1 : l = [] := List.eq_nil_of_length_eq_zero hl0
    subst hl1
    clear hnil hl0 hac hcm hcap hea hl
    have he := fun (w : World) => Lib.run_eql_slice_nil (P := Tryz.prog) w 22 62 none 0 0 0 0 Tryz.underlying22
    go_enter Tryz.func58, Tryz.ntmps58
    go_wp2
    go_ret
    exact ⟨_, rfl, ⟨⟨rfl, .inl ⟨rfl, rfl⟩⟩, Iff.rfl⟩, Later.refl _⟩
  | some a =>
    obtain ⟨i0, hi, hz0, hz1, hz2⟩ := info_parts infoVal
    have hown := World.ownsRow_lit (base := w.heap.size) (e := 62) (size := 3) w #[] 0 (Nat.le_refl _) (by unfold maxLen; omega) rfl
    have hnews : ∀ j u, (valCells l)[j]? = some u → (w.alloc (.cells #[] 62)).cell? (a.add j) = some u := fun j u h => (Later.alloc w _).cell (valCells_at hea j u h)
    have HO := hid hown; have HN := hid hnews; have HL := hid hl; have HI := hid hi
    clear hown hnews hnil hea hcap hcm hl hi
    have he := fun (w : World) => Lib.run_eql_slice_nil (P := Tryz.prog) w 22 62 (some a) l.length c 0 0 Tryz.underlying22
    go_enter Tryz.func58, Tryz.ntmps58
    go_wp2_with (at_builtin; refine wpList_append_own _ rfl _ _ 22 rfl w.heap.size 62 i0 _ 3 32 Tryz.underlying22 HI.out hz0 hz1 hz2 rfl (by decide) _ _ _ rfl HO.out a l.length c (valCells l) rfl (valCells_length l) HN.out (valCells_one l) ?c1 ?c2 ?c3 ?_)
    case c1 => have := HL.out; unfold maxLen; omega
    case c2 => have := HL.out; omega
    intro v' w1 hown1 hgrow1 hnil1
    go_wp2
    go_ret
    refine ⟨_, rfl, ⟨hown1, ?_⟩, ?_⟩
    · simp [hnil1]
    · have hb := (Below.refl w.heap.size w).alloc (Nat.le_refl _) (.cells #[] 62)
      exact hb.grown hgrow1 (by simp) (fun k hk => by simp [Value.ownBlock] at hk; omega)

/-- a slice of values of one's own, nil if another is. -/
def OwnVals (B : Nat) (w : World) (v : Value) (l : List Val) (v0 : Value) : Prop := w.ownsRow B 62 3 v l.length (valCells l) ∧ (v = .slice none 0 0 ↔ v0 = .slice none 0 0)
theorem OwnVals.later {B : Nat} {w w' : World} {v v0 : Value} {l : List Val} (h : OwnVals B w v l v0) (k : Later w w') : OwnVals B w' v l v0 :=
  ⟨h.1.kept (row := none) ⟨k.os, k.tape, k.output, k.size, fun i hi _ => k.block i hi⟩ (by cases hv : v.ownBlock <;> simp), h.2⟩
theorem ownsRow_base {w : World} {B B' : Nat} {e : TypeId} {s n : Nat} {v : Value} {xs : List Value} (h : w.ownsRow B e s v n xs) (hB : B' ≤ B) : w.ownsRow B' e s v n xs :=
  ⟨h.1, h.2.imp id fun ⟨g, c, cur, h1, h2, h3⟩ => ⟨g, c, cur, h1, Nat.le_trans hB h2, h3⟩⟩
theorem OwnVals.base {B B' : Nat} {w : World} {v v0 : Value} {l : List Val} (h : OwnVals B w v l v0) (hB : B' ≤ B) : OwnVals B' w v l v0 := ⟨ownsRow_base h.1 hB, h.2⟩

theorem OwnVals.slice {B : Nat} {w : World} {v v0 : Value} {l : List Val} (h : OwnVals B w v l v0) : ∃ a c, v = .slice a l.length c := by
  rcases h.1.2 with ⟨rfl, h0⟩ | ⟨g, cap, cur, rfl, _⟩
  · exact ⟨none, 0, by rw [h0]⟩
  · exact ⟨_, _, rfl⟩
end Go.Proofs.YtbabfibmopfghaaGreatDoor
