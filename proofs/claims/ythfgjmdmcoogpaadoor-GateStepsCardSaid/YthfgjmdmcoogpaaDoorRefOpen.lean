/-
  PROVED HERE: the contract of the document's Open of a gate; what its Take comes to, in plain Lean.
-/
import Derived.Test.YthfgjmdmcoogpaaDoorRefGate
import Derived.Test.YthfgjmdmcoogpaaDoorGateMark
namespace Go.Proofs.YthfgjmdmcoogpaaDoor
open Go.RowKit

def rOpen (g : Rg) (k : Int) : Bool := decide (0 ≤ k) && (match g.ms[k.toNat]? with | some m => m == 0 | none => false)
def allUpto (f : Nat → Bool) : Nat → Bool
  | 0 => true
  | n + 1 => allUpto f n && f n
def allMarks (ms : List Int) (k : Nat) (m : Int) (n : Nat) : Bool := allUpto (fun j => j == k || ms.getD j 0 == m) n
/-- the first marks are taken away. -/
def zer (ms : List Int) (n : Nat) : List Int := List.replicate n 0 ++ ms.drop n
def rTake (g : Rg) (k : Int) (e : Elem) : Rg × Int × List Elem :=
  if rOpen g k = true then
    if e.kind = 1 then (g, 0, [⟨1, e.row, 0, 0⟩])
    else if e.kind = 2 then
      if e.time ≤ g.ts.getD k.toNat 0 ∨ 1099511627777 < e.time then (g, 4, [])
      else if (g.ts.set k.toNat e.time).foldl min e.time ≤ g.told then ({ g with ts := g.ts.set k.toNat e.time }, 0, [])
      else ({ g with ts := g.ts.set k.toNat e.time, told := (g.ts.set k.toNat e.time).foldl min e.time }, 0, [⟨2, ⟨0, []⟩, (g.ts.set k.toNat e.time).foldl min e.time, 0⟩])
    else if e.kind = 3 then
      if e.mark < 1 ∨ g.ms.any (fun m => m != 0 && m != e.mark) = true then (g, 6, [])
      else if allMarks g.ms k.toNat e.mark g.ms.length = true then ({ g with ms := List.replicate g.ms.length 0 }, 0, [⟨3, ⟨0, []⟩, 0, e.mark⟩])
      else ({ g with ms := g.ms.set k.toNat e.mark }, 0, [])
    else (g, 4, [])
  else (g, 6, [])
def ROpenTo (w : World) (g : Rg) (k : Int) (e : Ending) (w' : World) : Prop := e = .returned (.bool (rOpen g k)) ∧ Later w w'

theorem ref_gate_open (R A M cA cM : Nat) (g : Rg) (k : Int) (w : World) (h : RAt w R A M cA cM g) (hn : g.ms.length ≤ 64) :
    Calls Tryd.prog 29 #[.pointer (some ⟨R, 0, none⟩), .int .i64 k] w (ROpenTo w g k) := by
  have r1 := cell_obj (i := 1) h.obj rfl
  have H := hid h.marks
  clear h
  by_cases h0 : 0 ≤ k
  · by_cases h1 : k < g.ms.length
    · obtain ⟨n, rfl⟩ := Int.eq_ofNat_of_zero_le h0
      have hlt : n < g.ms.length := by omega
      have q := H.out.at_ hlt
      by_cases hm : g.ms[n] = 0
      · have HO : Hid (rOpen g n = true) := hid (by simp [rOpen, List.getElem?_eq_getElem hlt, hm])
        rw [hm] at q
        clear hm
        go_enter Tryd.func29, Tryd.ntmps29
        go_wp2
        go_ret
        exact ⟨ret_bool HO.out.symm, Later.refl _⟩
      · have HO : Hid (rOpen g n = false) := hid (by simp [rOpen, List.getElem?_eq_getElem hlt, hm])
        have hm' : (g.ms[n] == 0) = false := by simpa using hm
        generalize g.ms[n] = x at *
        clear hm
        go_enter Tryd.func29, Tryd.ntmps29
        go_wp2
        go_ret
        exact ⟨ret_bool HO.out.symm, Later.refl _⟩
    · have HO : Hid (rOpen g k = false) := hid (by
        have : g.ms[k.toNat]? = none := List.getElem?_eq_none (by omega)
        simp [rOpen, this])
      go_enter Tryd.func29, Tryd.ntmps29
      go_wp2
      go_ret
      exact ⟨ret_bool HO.out.symm, Later.refl _⟩
  · have HO : Hid (rOpen g k = false) := hid (by simp [rOpen, h0])
    go_enter Tryd.func29, Tryd.ntmps29
    go_wp2
    go_ret
    exact ⟨ret_bool HO.out.symm, Later.refl _⟩
end Go.Proofs.YthfgjmdmcoogpaaDoor
