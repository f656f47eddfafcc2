/-
  PROVED HERE: the contract of wire.word.
-/
import Derived.Test.YthfgjmdmcoogpaaDoorSumB
import Derived.Test.YthfgjmdmcoogpaaDoorU8
import Derived.Lib.EndianBits
import Derived.OwnWalk
namespace Go.Proofs.YthfgjmdmcoogpaaDoor
set_option linter.unusedSimpArgs false
set_option linter.unusedVariables false
open Go.RowKit

def WordTo (w : World) (n : Nat) (e : Ending) (w' : World) : Prop := e = .returned (.int .u32 n) ∧ Later w w'
set_option maxRecDepth 100000 in
set_option maxHeartbeats 1000000 in
theorem word_any (v : Value) (l : List UInt8) (w : World) (h : IsBytes w v l) (h4 : 4 ≤ l.length) : Calls Tryd.prog 79 #[v] w (WordTo w (be4 l)) := by
  obtain ⟨p, c, rfl, hl, hc, -, hx⟩ := h
  have HB : Hid (be4 l = l[0].toNat * 16777216 + l[1].toNat * 65536 + l[2].toNat * 256 + l[3].toNat) := hid (by
    unfold be4
    have e0 : 0 < l.length := by omega
    have e1 : 1 < l.length := by omega
    have e2 : 2 < l.length := by omega
    have e3 : 3 < l.length := by omega
    simp [List.getD, e0, e1, e2, e3])
  obtain ⟨b, o, rfl, -, c0⟩ := byte_cell hx (k := 0) (by omega)
  obtain ⟨b1, o1, hb1, -, c1⟩ := byte_cell hx (k := 1) (by omega)
  obtain ⟨b2, o2, hb2, -, c2⟩ := byte_cell hx (k := 2) (by omega)
  obtain ⟨b3, o3, hb3, -, c3⟩ := byte_cell hx (k := 3) (by omega)
  simp only [Option.some.injEq, Addr.mk.injEq, and_true] at hb1 hb2 hb3
  obtain ⟨rfl, rfl⟩ := hb1; obtain ⟨rfl, rfl⟩ := hb2; obtain ⟨rfl, rfl⟩ := hb3
  have x0 := l[0].toNat_lt; have x1 := l[1].toNat_lt; have x2 := l[2].toNat_lt; have x3 := l[3].toNat_lt
  clear hx
  generalize l[0].toNat = y0 at *
  generalize l[1].toNat = y1 at *
  generalize l[2].toNat = y2 at *
  generalize l[3].toNat = y3 at *
  simp only [Nat.add_zero] at c0
  unfold maxLen at hc
  have hlen : (l.length : Int) ≤ 9223372036854775807 := by omega
  have g0 : 0 < l.length := by omega
  have g1 : (1 : Int) < l.length := by omega
  have g2 : (2 : Int) < l.length := by omega
  have g3 : (3 : Int) < l.length := by omega
  go_enter Tryd.func79, Tryd.ntmps79
  go_wp2_with fail
  refine wp_region_lex (by kernel_rfl) (by kernel_rfl) Later Later.refl Later.trans (fun _ => none) (fun _ _ _ _ _ h => by cases h) ?_
  simp only [numbered, Nat.reduceAdd]
  iterate 23
    first
    | (refine Lex.skip rfl ?_; simp only [Act.put, List.setIfInBounds_toArray, List.set])
    | (refine Lex.one' rfl rfl ?_
       apply Exists.intro
       refine ⟨fun w hR hF => ?_, ?_⟩
       · have hP := hR
         repeat (first | replace hP := Later.of_drew hP | replace hP := Later.of_drewN hP | replace hP := Later.of_alloc hP)
         have hcs := hR.cells
         have zc0 := hP.cell c0
         have zc1 := hP.cell c1
         have zc2 := hP.cell c2
         have zc3 := hP.cell c3
         clear hR hF hP
         go_simp
         first | done | rfl
       simp only [Act.put, List.setIfInBounds_toArray, List.set])
  intro w2 hR2 hF9
  clear hF9
  go_wp2_with fail
  go_ret
  unfold WordTo
  rw [HB.out]
  exact ⟨ret_u32 (word_eq y0 y1 y2 y3 x0 x1 x2 x3), Later.of_drew hR2⟩

end Go.Proofs.YthfgjmdmcoogpaaDoor
