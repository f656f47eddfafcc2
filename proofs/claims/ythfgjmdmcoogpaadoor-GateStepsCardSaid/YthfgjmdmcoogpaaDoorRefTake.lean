/-
  PROVED HERE: the contract of the document's Take of a gate.
-/
import Derived.Test.YthfgjmdmcoogpaaDoorRefMark
namespace Go.Proofs.YthfgjmdmcoogpaaDoor
open Go.RowKit

set_option maxRecDepth 100000 in
set_option maxHeartbeats 4000000 in
theorem ref_take (R A M cA cM : Nat) (g : Rg) (k : Int) (e : Elem) (v : Value) (w : World) (h : RAt w R A M cA cM g) (hd : R ≠ A ∧ R ≠ M ∧ A ≠ M) (hl1 : g.ts.length = g.ms.length) (hl2 : g.ms.length ≤ 64) (hv : IsVals w v e.row.vals) (hl : e.row.vals.length * 32 ≤ 140737488355328) :
    Calls Tryd.prog 32 #[.pointer (some ⟨R, 0, none⟩), .int .i64 k, .agg #[.int .i64 e.kind, .int .i64 e.row.time, v, .int .i64 e.time, .int .i64 e.mark]] w (RTakeTo w R A M cA cM (rTake g k e)) := by
  by_cases k2 : e.kind = 2 ∧ rOpen g k = true
  · exact ref_take_time R A M cA cM g k e v w k2.1 k2.2 h hd hl1 hl2 hv
  by_cases k3 : e.kind = 3 ∧ rOpen g k = true
  · exact ref_take_mark R A M cA cM g k e v w k3.1 k3.2 h hd hl2 hv
  have HG := hid h; have HV := hid hv; have HL := hid hl
  have go : ∀ (o : Obj) (w1 : World), Later (w.alloc o) w1 → RAt w1 R A M cA cM g ∧ Later w w1 := fun o w1 hL => ⟨HG.out.later (Later.of_alloc hL), Later.of_alloc hL⟩
  obtain ⟨va, vc, rfl, -⟩ := hv
  clear h hd hl1 hl
  cases ho : rOpen g k with
  | false =>
    have HO := hid ho
    have HR : Hid (rTake g k e = (g, 6, [])) := hid (by simp [rTake, ho])
    clear ho k2 k3
    go_enter Tryd.func32, Tryd.ntmps32
    go_wp2_with fail
    refine (ref_gate_open R A M cA cM g k _ (HG.out.later (Later.alloc _ _)) hl2).mono ?_
    rintro e' w1 ⟨rfl, hL1⟩
    rw [HO.out]
    obtain ⟨hG1, hLw⟩ := go _ w1 hL1
    go_wp2_with fail
    go_ret2
    rw [HR.out]
    exact ⟨_, rfl, hG1, ElemsOwn.nil _ _, hLw.keeps _⟩
  | true =>
    have HO := hid ho
    have k2' : ¬ e.kind = 2 := fun h => k2 ⟨h, ho⟩
    have k3' : ¬ e.kind = 3 := fun h => k3 ⟨h, ho⟩
    clear k2 k3
    by_cases k1 : e.kind = 1
    · have HR : Hid (rTake g k e = (g, 0, [⟨1, e.row, 0, 0⟩])) := hid (by simp [rTake, ho, k1])
      clear ho k2' k3'
      go_enter Tryd.func32, Tryd.ntmps32
      go_wp2_with fail
      refine (ref_gate_open R A M cA cM g k _ (HG.out.later (Later.alloc _ _)) hl2).mono ?_
      rintro e' w1 ⟨rfl, hL1⟩
      rw [HO.out]
      obtain ⟨hG1, hLw⟩ := go _ w1 hL1
      have hE := hL1.obj (obj_new w _)
      have e0 := cell_obj (i := 0) hE rfl
      have e1 := cell_obj (i := 1) hE rfl
      have e2 := cell_obj (i := 2) hE rfl
      have HG1 := hid hG1; have HLw := hid hLw; have HV1 := hid (HV.out.later hLw)
      have hs1 := hLw.size
      clear hE hG1 hLw hL1 go HV
      go_wp2_with fail
      refine (copy_row e.row.time e.row.vals _ _ HV1.out HL.out).mono ?_
      rintro e' w2 ⟨v2, rfl, hO2, hL2⟩
      obtain ⟨a2, c2, rfl⟩ := ownsRow_slice hO2
      have HO2 := hid hO2; have HL2 := hid hL2
      have hs2 := hL2.size
      clear hO2 hL2 e0 e1 e2
      go_wp2_with fail
      go_ret2
      rw [HR.out]
      have hv2 := (ValsIn.lt (owned_vals HO2.out)).later (Later.alloc w2 (.cells #[.int .i64 e.row.time, .slice a2 e.row.vals.length c2] 37))
      refine ⟨_, rfl, ((HG1.out.later HL2.out).later (Later.alloc _ _)).later (Later.alloc _ _), ?_, (((Later.trans _ _ _ HLw.out HL2.out).alloc' _).alloc' _).keeps _⟩
      have := elemsOwn_one (B := w.heap.size) (w := w2.alloc (.cells #[.int .i64 e.row.time, .slice a2 e.row.vals.length c2] 37)) (e := ⟨1, e.row, 0, 0⟩) (v := .slice a2 e.row.vals.length c2) (by simp only [World.size_alloc]; omega)
        (hv2.vals_mono fun b hb => ⟨by have := hb.1; omega, by have := hb.2; simp only [World.size_alloc]; omega⟩)
      rwa [World.size_alloc] at this
    · have HR : Hid (rTake g k e = (g, 4, [])) := hid (by simp [rTake, ho, k1, k2', k3'])
      clear ho
      go_enter Tryd.func32, Tryd.ntmps32
      go_wp2_with fail
      refine (ref_gate_open R A M cA cM g k _ (HG.out.later (Later.alloc _ _)) hl2).mono ?_
      rintro e' w1 ⟨rfl, hL1⟩
      rw [HO.out]
      obtain ⟨hG1, hLw⟩ := go _ w1 hL1
      have hE := hL1.obj (obj_new w _)
      have e0 := cell_obj (i := 0) hE rfl
      have HG1 := hid hG1; have HLw := hid hLw
      clear hE hG1 hLw hL1 go HV
      go_wp2_with fail
      go_ret2
      rw [HR.out]
      exact ⟨_, rfl, HG1.out, ElemsOwn.nil _ _, HLw.out.keeps _⟩
end Go.Proofs.YthfgjmdmcoogpaaDoor
