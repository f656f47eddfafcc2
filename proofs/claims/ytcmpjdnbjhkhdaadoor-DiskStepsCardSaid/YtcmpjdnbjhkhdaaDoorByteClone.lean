/-
  PROVED HERE: the contract of slices.Clone at bytes.
-/
import Derived.Test.YtcmpjdnbjhkhdaaDoorU8
import Derived.Test.YtcmpjdnbjhkhdaaDoorClone
import Derived.WalkSpells
import Derived.Deep.RegionLaw
namespace Go.Proofs.YtcmpjdnbjhkhdaaDoor
set_option linter.unusedSimpArgs false
set_option linter.unusedVariables false
open Go.RowKit

def ClonedB (w : World) (l : List UInt8) (e : Ending) (w' : World) : Prop := ∃ v', e = .returned v' ∧ w'.ownsRow w.heap.size 5 1 v' l.length (byteCells l) ∧ Later w w'
theorem clone_bytes (l : List UInt8) (v : Value) (w : World) (hv : IsBytes w v l) (hl : l.length ≤ 140737488355328) :
    Calls Tryd.prog 53 #[v] w (ClonedB w l) := by
  have hnw := fun {a : Option Addr} {n c : Nat} (h : v = .slice a n c) {ad : Addr} (ha : a = some ad) => SliceOf.news hv h ha
  obtain ⟨p, c, rfl, hac, hcm, hnil, hea⟩ := hv
  have hcap : c ≤ 9223372036854775807 := by unfold maxLen at hcm; omega
  cases p with
  | none =>
    obtain rfl : c = 0 := hnil rfl
    have hl0 : l.length = 0 := by omega
    have hl1 : l = [] := List.eq_nil_of_length_eq_zero hl0
    subst hl1
    clear hnil hl0 hac hcm hcap hea hl hnw
    have he := fun (w : World) => Lib.run_eql_slice_nil (P := Tryd.prog) w 45 5 none 0 0 0 0 Tryd.underlying45
    go_enter Tryd.func53, Tryd.ntmps53
    go_wp2
    go_ret
    exact ⟨_, rfl, ⟨rfl, .inl ⟨rfl, rfl⟩⟩, Later.refl _⟩
  | some a =>
    obtain ⟨i0, hi, hz0, hz1, hz2⟩ := info_parts infoU8
    have hown := World.ownsRow_lit (base := w.heap.size) (e := 5) (size := 1) w #[] 0 (Nat.le_refl _) (by unfold maxLen; omega) rfl
    have hnews : ∀ j u, (byteCells l)[j]? = some u → (w.alloc (.cells #[] 5)).cell? (a.add j) = some u := fun j u h => (Later.alloc w _).cell (hnw rfl rfl j u h)
    have HO := hid hown; have HN := hid hnews; have HL := hid hl; have HI := hid hi
    clear hown hnews hnil hea hcap hcm hl hi hnw
    have he := fun (w : World) => Lib.run_eql_slice_nil (P := Tryd.prog) w 45 5 (some a) l.length c 0 0 Tryd.underlying45
    go_enter Tryd.func53, Tryd.ntmps53
    go_wp2_with (at_builtin; refine wpList_append_own _ rfl _ _ 45 rfl w.heap.size 5 i0 _ 1 1 Tryd.underlying45 HI.out hz0 hz1 hz2 rfl (by decide) _ _ _ rfl HO.out a l.length c (byteCells l) rfl (by rw [byteCells_length, Nat.mul_one]) HN.out (byteCells_one l) ?c1 ?c2 ?c3 ?_)
    case c1 => have := HL.out; unfold maxLen; omega
    case c2 => have := HL.out; omega
    intro v' w1 hown1 hgrow1 hnil1
    go_wp2
    go_ret
    refine ⟨_, rfl, hown1, ?_⟩
    have hb := (Below.refl w.heap.size w).alloc (Nat.le_refl _) (.cells #[] 5)
    exact hb.grown hgrow1 (by simp) (fun k hk => by simp [Value.ownBlock] at hk; omega)
end Go.Proofs.YtcmpjdnbjhkhdaaDoor
