/-
  PROVED HERE: slices of one's own: what holds of one when another, or the world, is turned. No program of its own.
-/
import Derived.Test.YtbabfibmopfghaaGreatDoorOwn
namespace Go.Proofs.YtbabfibmopfghaaGreatDoor
set_option linter.unusedSimpArgs false
set_option linter.unusedVariables false
open Go Go.RowKit

theorem ownb {w : World} {B s n : Nat} {e : TypeId} {v : Value} {xs : List Value} (h : w.ownsRow B e s v n xs) : ∀ g, v.ownBlock = some g → B ≤ g ∧ g < w.heap.size := by
  intro g hg
  rcases h.2 with ⟨rfl, _⟩ | ⟨g', cap, cur, rfl, hb, hh, _⟩
  · cases hg
  · simp only [Value.ownBlock, Option.some.injEq] at hg
    subst hg
    exact ⟨hb, (Array.getElem?_eq_some_iff.1 hh).1⟩
theorem owns_put {w : World} {B s : Nat} {e : TypeId} {n cap g i : Nat} {xs : List Value} (h : w.ownsRow B e s (.slice (some ⟨g, 0, none⟩) n cap) n xs) (u : Value) :
    (w.setCell ⟨g, i, none⟩ u).ownsRow B e s (.slice (some ⟨g, 0, none⟩) n cap) n (xs.set i u) := by
  obtain ⟨hl, h⟩ := h
  refine ⟨by simpa using hl, .inr ?_⟩
  rcases h with ⟨h, _⟩ | ⟨g', cap', cur, hv, hb, hg, h1, h2, h3, h4⟩
  · cases h
  · simp only [Value.slice.injEq, Option.some.injEq, Addr.mk.injEq, and_true, true_and] at hv
    obtain ⟨rfl, rfl⟩ := hv
    refine ⟨g, cap, cur.setIfInBounds i u, rfl, hb, obj_setCell (i := i) hg u, h1, h2, by simpa using h3, ?_⟩
    rw [Array.toList_setIfInBounds, List.take_set, h4]
theorem owns_at {w w' : World} {B s n : Nat} {e : TypeId} {v : Value} {xs : List Value} (h : w.ownsRow B e s v n xs) (k : Later w w') : w'.ownsRow B e s v n xs :=
  ⟨h.1, h.2.imp id fun ⟨g, cp, cur, a1, a2, a3, a4⟩ => ⟨g, cp, cur, a1, a2, k.obj a3, a4⟩⟩
theorem owns_keep {S : Nat → Prop} {w w' : World} {B s n : Nat} {e : TypeId} {v : Value} {xs : List Value} (h : w.ownsRow B e s v n xs) (k : Keeps S w w') (hs : ∀ g, v.ownBlock = some g → S g) : w'.ownsRow B e s v n xs :=
  ⟨h.1, h.2.imp id fun ⟨g, cp, cur, a1, a2, a3, a4⟩ => ⟨g, cp, cur, a1, a2, k.obj (hs g (by rw [a1]; rfl)) a3, a4⟩⟩
theorem later_keep {w0 w w' : World} {B : Nat} (hL : Later w0 w) (k : Keeps (fun b => b < B) w w') (hB : w0.heap.size ≤ B) : Later w0 w' :=
  ((hL.keeps (fun b => b < B)).trans k).mono (S' := fun _ => True) (fun k hk _ => by omega) |>.later
theorem own_lt {w : World} {B s n b : Nat} {e : TypeId} {v : Value} {xs : List Value} (h : w.ownsRow B e s v n xs) (hb : b < B) : some b ≠ v.ownBlock := fun e => by have := (ownb h b e.symm).1; omega
/-- two of other types lie in other blocks. -/
theorem own_apart {w : World} {B B' s s' n m : Nat} {e e' : TypeId} {v u : Value} {xs ys : List Value} (h : w.ownsRow B e s v n xs) (k : w.ownsRow B' e' s' u m ys) (hne : e ≠ e') : ∀ b, v.ownBlock = some b → u.ownBlock ≠ some b := by
  intro b hv hu
  rcases h.2 with ⟨rfl, _⟩ | ⟨g, cap, cur, rfl, _, hg, _⟩
  · cases hv
  rcases k.2 with ⟨rfl, _⟩ | ⟨g', cap', cur', rfl, _, hg', _⟩
  · cases hu
  simp only [Value.ownBlock, Option.some.injEq] at hv hu
  subst hv hu
  rw [hg] at hg'
  injection hg' with h'
  injection h' with _ h'
  exact hne h'
theorem own_base {w : World} {B B' : Nat} {e : TypeId} {s n : Nat} {v : Value} {xs : List Value} (h : w.ownsRow B e s v n xs) (hB : B' ≤ B) : w.ownsRow B' e s v n xs :=
  ⟨h.1, h.2.imp id fun ⟨g, cap, cur, a1, a2, a3⟩ => ⟨g, cap, cur, a1, Nat.le_trans hB a2, a3⟩⟩
/-- values of one's own, in the slice's own block. -/
theorem owned_vals_at {w : World} {base : Nat} {e : TypeId} {v : Value} {n : Nat} {l : List Val} (h : w.ownsRow base e 3 v n (valCells l)) : ValsIn (fun b => v.ownBlock = some b) w v l := by
  obtain ⟨a, c, rfl, h1, h2, h3, h4⟩ := owned_vals h
  exact ⟨a, c, rfl, h1, h2, h3, fun i hi => let ⟨b, o, ha, _, hx⟩ := h4 i hi; ⟨b, o, ha, by subst ha; rfl, hx⟩⟩
end Go.Proofs.YtbabfibmopfghaaGreatDoor
