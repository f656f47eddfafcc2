/-
  PROVED HERE: the contract of Gate.Take.
-/
import Derived.Test.YthfgjmdmcoogpaaDoorGateMark
namespace Go.Proofs.YthfgjmdmcoogpaaDoor
open Go.RowKit

set_option maxRecDepth 100000 in
set_option maxHeartbeats 4000000 in
theorem gate_take (G L : Nat) (g : Gt) (k : Int) (e : Elem) (v : Value) (w : World) (h : GateAt w G L g) (hGL : G ≠ L) (hg : GtOk g) (hk : (Lit.int .i64 k).wf = true) (hv : IsVals w v e.row.vals) (hl : e.row.vals.length * 32 ≤ 140737488355328) :
    Calls Tryd.prog 31 #[.pointer (some ⟨G, 0, none⟩), .int .i64 k, .agg #[.int .i64 e.kind, .int .i64 e.row.time, v, .int .i64 e.time, .int .i64 e.mark]] w (TakeTo w G L (takeG g k e)) := by
  obtain ⟨hg1, hg2, hg3⟩ := hg
  have HT := hid hg3
  have HG := hid h
  have HV := hid hv
  have HL := hid hl
  clear h hg3 hv hl
  have hlo : ∀ w', Later w w' → GateAt w' G L g := fun w' k => HG.out.later k
  cases ho : openG g k with
  | false =>
    have HO := hid ho
    have HR : Hid (takeG g k e = (g, 6, [])) := hid (by simp [takeG, ho])
    clear ho
    go_enter Tryd.func31, Tryd.ntmps31
    go_wp2_with (go_at_call 28; refine (gate_open G L g k _ (HG.out.later (Later.alloc _ _)) hk hg2).mono ?_; rintro e w1 ⟨rfl, hL1⟩; rw [HO.out])
    go_ret2
    rw [HR.out]
    exact ⟨_, rfl, HG.out.later (Later.of_alloc hL1), ElemsOwn.nil _ _, (Later.of_alloc hL1).keeps _⟩
  | true =>
    have hk2 : ∃ n : Nat, k = n ∧ n < g.lanes.length := by
      simp only [openG, Bool.and_eq_true, decide_eq_true_eq] at ho
      obtain ⟨h0, h1⟩ := ho
      refine ⟨k.toNat, by omega, ?_⟩
      cases hx : g.lanes[k.toNat]? with
      | none => rw [hx] at h1; cases h1
      | some x => exact (List.getElem?_eq_some_iff.1 hx).1
    obtain ⟨n, rfl, hlt⟩ := hk2
    have HO := hid ho
    have hX : ∃ x, g.lanes[n]? = some x ∧ g.lanes[n] = x := ⟨_, List.getElem?_eq_getElem hlt, rfl⟩
    obtain ⟨x, hX1, hX2⟩ := hX
    have hx := HT.out x (hX2 ▸ List.getElem_mem hlt)
    have HX1 := hid hX1; have HX2 := hid hX2
    clear ho hX1 hX2
    have hnn : (0 : Int) ≤ n := by omega
    obtain ⟨va, vc, rfl, -⟩ := HV.out
    by_cases k1 : e.kind = 1
    · have HR : Hid (takeG g n e = (g, 0, [⟨1, e.row, 0, 0⟩])) := hid (by simp [takeG, HO.out, k1])
      go_enter Tryd.func31, Tryd.ntmps31
      go_wp2_with fail
      refine (gate_open G L g n _ (HG.out.later (Later.alloc _ _)) hk hg2).mono ?_
      rintro e' w1 ⟨rfl, hL1⟩
      rw [HO.out]
      have hLw := Later.of_alloc hL1
      have hG1 := HG.out.later hLw
      have hV1 := HV.out.later hLw
      have hE := hL1.obj (obj_new w _)
      have e0 := cell_obj (i := 0) hE rfl
      have e1 := cell_obj (i := 1) hE rfl
      have e2 := cell_obj (i := 2) hE rfl
      have e3 := cell_obj (i := 3) hE rfl
      have e4 := cell_obj (i := 4) hE rfl
      have r0 := cell_obj (i := 0) hG1.obj rfl
      have r1 := cell_obj (i := 1) hG1.obj rfl
      have r2 := cell_obj (i := 2) hG1.obj rfl
      obtain ⟨q0, q1⟩ := lane_cells hG1.lanes n hlt
      rw [HX2.out] at q0 q1
      have hs1 := hLw.size
      have HE1 := hid hE; have HG1 := hid hG1; have HV1 := hid hV1; have HLw := hid hLw
      clear hE hG1 hV1 hLw hL1 HG HV hlo
      go_wp2_with (go_at_call 65; refine (clone_row e.row.time e.row.vals _ _ HV1.out HL.out).mono ?_; rintro e' w2 ⟨v2, rfl, hO2, hL2⟩)
      go_ret2
      rw [HR.out]
      have hs2 := hL2.size
      refine ⟨_, rfl, (HG1.out.later hL2).later (Later.alloc _ _), ?_, ((Later.trans _ _ _ HLw.out hL2).alloc' _).keeps _⟩
      exact elemsOwn_one (B := w.heap.size) (w := w2) (e := ⟨1, e.row, 0, 0⟩) (v := v2) (by omega) ((owned_vals hO2.1).lt.vals_mono fun b hb => ⟨by have := hb.1; omega, by have := hb.2; omega⟩)
    · by_cases k2 : e.kind = 2
      · by_cases t1 : e.time ≤ x.1
        · have HR : Hid (takeG g n e = (g, 4, [])) := hid (by simp [takeG, HO.out, k2, HX1.out, t1])
          go_enter Tryd.func31, Tryd.ntmps31
          go_wp2_with fail
          refine (gate_open G L g n _ (HG.out.later (Later.alloc _ _)) hk hg2).mono ?_
          rintro e' w1 ⟨rfl, hL1⟩
          rw [HO.out]
          have hLw := Later.of_alloc hL1
          have hG1 := HG.out.later hLw
          have hV1 := HV.out.later hLw
          have hE := hL1.obj (obj_new w _)
          have e0 := cell_obj (i := 0) hE rfl
          have e1 := cell_obj (i := 1) hE rfl
          have e2 := cell_obj (i := 2) hE rfl
          have e3 := cell_obj (i := 3) hE rfl
          have e4 := cell_obj (i := 4) hE rfl
          have r0 := cell_obj (i := 0) hG1.obj rfl
          have r1 := cell_obj (i := 1) hG1.obj rfl
          have r2 := cell_obj (i := 2) hG1.obj rfl
          obtain ⟨q0, q1⟩ := lane_cells hG1.lanes n hlt
          rw [HX2.out] at q0 q1
          have hs1 := hLw.size
          have HE1 := hid hE; have HG1 := hid hG1; have HV1 := hid hV1; have HLw := hid hLw
          clear hE hG1 hV1 hLw hL1 HG HV hlo
          go_wp2_with fail
          refine wp_region_lex (by kernel_rfl) (by kernel_rfl) Later Later.refl Later.trans (fun _ => none) (fun _ _ _ _ _ h => by cases h) ?_
          simp only [numbered, Nat.reduceAdd]
          iterate 12
            first
            | (refine Lex.skip rfl ?_; simp only [Act.put, List.setIfInBounds_toArray, List.set])
            | (refine Lex.one' rfl rfl ?_
               apply Exists.intro
               refine ⟨fun w hR hF => ?_, ?_⟩
               · have hP := hR
                 repeat (first | replace hP := Later.of_drew hP | replace hP := Later.of_drewN hP | replace hP := Later.of_alloc hP)
                 have hcs := hR.cells
                 have ze3 := hP.cell e3
                 have zq0 := hP.cell q0
                 clear hR hF hP
                 go_simp
                 first | done | rfl
               simp only [Act.put, List.setIfInBounds_toArray, List.set])
          intro w2 hR2 hF9
          clear hF9
          repeat (first | replace hR2 := Later.of_drew hR2 | replace hR2 := Later.of_drewN hR2 | replace hR2 := Later.of_alloc hR2)
          clear e0 e1 e2 e3 e4 r0 r1 r2 q0 q1
          go_wp2
          go_ret2
          rw [HR.out]
          exact ⟨_, rfl, HG1.out.later hR2, ElemsOwn.nil _ _, (Later.trans _ _ _ HLw.out hR2).keeps _⟩
        · have t1' : decide (e.time ≤ x.1) = false := decide_eq_false t1
          by_cases t2 : 1099511627777 < e.time
          · have HR : Hid (takeG g n e = (g, 4, [])) := hid (by simp [takeG, HO.out, k2, HX1.out, t2])
            go_enter Tryd.func31, Tryd.ntmps31
            go_wp2_with fail
            refine (gate_open G L g n _ (HG.out.later (Later.alloc _ _)) hk hg2).mono ?_
            rintro e' w1 ⟨rfl, hL1⟩
            rw [HO.out]
            have hLw := Later.of_alloc hL1
            have hG1 := HG.out.later hLw
            have hV1 := HV.out.later hLw
            have hE := hL1.obj (obj_new w _)
            have e0 := cell_obj (i := 0) hE rfl
            have e1 := cell_obj (i := 1) hE rfl
            have e2 := cell_obj (i := 2) hE rfl
            have e3 := cell_obj (i := 3) hE rfl
            have e4 := cell_obj (i := 4) hE rfl
            have r0 := cell_obj (i := 0) hG1.obj rfl
            have r1 := cell_obj (i := 1) hG1.obj rfl
            have r2 := cell_obj (i := 2) hG1.obj rfl
            obtain ⟨q0, q1⟩ := lane_cells hG1.lanes n hlt
            rw [HX2.out] at q0 q1
            have hs1 := hLw.size
            have HE1 := hid hE; have HG1 := hid hG1; have HV1 := hid hV1; have HLw := hid hLw
            clear hE hG1 hV1 hLw hL1 HG HV hlo
            go_wp2_with fail
            refine wp_region_lex (by kernel_rfl) (by kernel_rfl) Later Later.refl Later.trans (fun _ => none) (fun _ _ _ _ _ h => by cases h) ?_
            simp only [numbered, Nat.reduceAdd]
            iterate 12
              first
              | (refine Lex.skip rfl ?_; simp only [Act.put, List.setIfInBounds_toArray, List.set])
              | (refine Lex.one' rfl rfl ?_
                 apply Exists.intro
                 refine ⟨fun w hR hF => ?_, ?_⟩
                 · have hP := hR
                   repeat (first | replace hP := Later.of_drew hP | replace hP := Later.of_drewN hP | replace hP := Later.of_alloc hP)
                   have hcs := hR.cells
                   have ze3 := hP.cell e3
                   have zq0 := hP.cell q0
                   clear hR hF hP
                   go_simp
                   first | done | rfl
                 simp only [Act.put, List.setIfInBounds_toArray, List.set])
            intro w2 hR2 hF9
            clear hF9
            repeat (first | replace hR2 := Later.of_drew hR2 | replace hR2 := Later.of_drewN hR2 | replace hR2 := Later.of_alloc hR2)
            clear e0 e1 e2 e3 e4 r0 r1 r2 q0 q1
            go_wp2
            go_ret2
            rw [HR.out]
            exact ⟨_, rfl, HG1.out.later hR2, ElemsOwn.nil _ _, (Later.trans _ _ _ HLw.out hR2).keeps _⟩
          · have t2' : decide (1099511627777 < e.time) = false := decide_eq_false t2
            have HR : Hid (takeG g n e = if g.time < leastT (g.lanes.set n (e.time, x.2)) then ({ g with lanes := g.lanes.set n (e.time, x.2), time := leastT (g.lanes.set n (e.time, x.2)) }, 0, [⟨2, ⟨0, []⟩, leastT (g.lanes.set n (e.time, x.2)), 0⟩])
                else ({ g with lanes := g.lanes.set n (e.time, x.2) }, 0, [])) := hid (by simp [takeG, HO.out, k2, HX1.out, t1, t2])
            have HT3 : Hid (TimesOk (g.lanes.set n (e.time, x.2))) := hid fun l hl => by
              rcases List.mem_or_eq_of_mem_set hl with hl | rfl
              · exact HT.out l hl
              · exact ⟨by simp only; omega, by simp only; omega⟩
            go_enter Tryd.func31, Tryd.ntmps31
            go_wp2_with fail
            refine (gate_open G L g n _ (HG.out.later (Later.alloc _ _)) hk hg2).mono ?_
            rintro e' w1 ⟨rfl, hL1⟩
            rw [HO.out]
            have hLw := Later.of_alloc hL1
            have hG1 := HG.out.later hLw
            have hV1 := HV.out.later hLw
            have hE := hL1.obj (obj_new w _)
            have e0 := cell_obj (i := 0) hE rfl
            have e1 := cell_obj (i := 1) hE rfl
            have e2 := cell_obj (i := 2) hE rfl
            have e3 := cell_obj (i := 3) hE rfl
            have e4 := cell_obj (i := 4) hE rfl
            have r0 := cell_obj (i := 0) hG1.obj rfl
            have r1 := cell_obj (i := 1) hG1.obj rfl
            have r2 := cell_obj (i := 2) hG1.obj rfl
            obtain ⟨q0, q1⟩ := lane_cells hG1.lanes n hlt
            rw [HX2.out] at q0 q1
            have hs1 := hLw.size
            have HE1 := hid hE; have HG1 := hid hG1; have HV1 := hid hV1; have HLw := hid hLw
            clear hE hG1 hV1 hLw hL1 HG HV hlo
            go_wp2_with fail
            refine wp_region_lex (by kernel_rfl) (by kernel_rfl) Later Later.refl Later.trans (fun _ => none) (fun _ _ _ _ _ h => by cases h) ?_
            simp only [numbered, Nat.reduceAdd]
            iterate 12
              first
              | (refine Lex.skip rfl ?_; simp only [Act.put, List.setIfInBounds_toArray, List.set])
              | (refine Lex.one' rfl rfl ?_
                 apply Exists.intro
                 refine ⟨fun w hR hF => ?_, ?_⟩
                 · have hP := hR
                   repeat (first | replace hP := Later.of_drew hP | replace hP := Later.of_drewN hP | replace hP := Later.of_alloc hP)
                   have hcs := hR.cells
                   have ze3 := hP.cell e3
                   have zq0 := hP.cell q0
                   clear hR hF hP
                   go_simp
                   first | done | rfl
                 simp only [Act.put, List.setIfInBounds_toArray, List.set])
            intro w2 hR2 hF9
            clear hF9
            repeat (first | replace hR2 := Later.of_drew hR2 | replace hR2 := Later.of_drewN hR2 | replace hR2 := Later.of_alloc hR2)
            replace e3 := hR2.cell e3
            replace q0 := hR2.cell q0
            have hG2 := HG1.out.later hR2
            have z0 := free_obj (i := n * 2) hG2.lanes
            have HR2 := hid hR2
            have HG2 := hid hG2
            clear e0 e1 e2 e4 r0 r1 r2 q1 hR2 hG2
            go_wp2_with fail
            refine (gate_least G L { g with lanes := g.lanes.set n (e.time, x.2) } _ (HG2.out.set0 hGL hlt HX2.out e.time) (by simpa using hg1) (by simpa using hg2) HT3.out).mono ?_
            rintro e' w4 ⟨rfl, hL4⟩
            have hG4 := (HG2.out.set0 hGL hlt HX2.out e.time).later hL4
            have hK4 : Keeps (fun b => b ≠ G ∧ b ≠ L) w w4 := (((Later.trans _ _ _ HLw.out HR2.out).keeps _).setCell (.inl (fun h => h.2 rfl)) _).more hL4
            have hT : ∃ t, t = leastT (g.lanes.set n (e.time, x.2)) := ⟨_, rfl⟩
            obtain ⟨t, hT⟩ := hT
            have HR' := HR.out
            simp only [← hT] at HR' ⊢
            have r1 := cell_obj (i := 1) hG4.obj rfl
            have zr := free_obj (i := 1) hG4.obj
            have HG4 := hid hG4; have HK4 := hid hK4; have HR4 := hid HR'
            clear hG4 hK4 HR' hL4 e3 q0 z0 hT HR HE1 HG2 HG1
            by_cases c3 : g.time < t
            · go_wp2
              go_ret2
              rw [HR4.out, if_pos c3]
              refine ⟨_, rfl, (HG4.out.setTime hGL t).later (Later.alloc _ _), ?_, (HK4.out.setCell (.inl (fun h => h.1 rfl)) _).alloc _⟩
              have := elemsOwn_one (B := w.heap.size) (w := w4.setCell ⟨G, 1, none⟩ (.int .i64 t)) (e := ⟨2, ⟨0, []⟩, t, 0⟩) (v := .slice none 0 0) (by simpa using HK4.out.size) (vals_nil _ _)
              rwa [World.size_setCell] at this
            · go_wp2
              go_ret2
              rw [HR4.out, if_neg (by omega)]
              exact ⟨_, rfl, HG4.out, ElemsOwn.nil _ _, HK4.out⟩
      · by_cases k3 : e.kind = 3
        · exact gate_take_mark G L g n e _ w k3 HO.out HG.out hGL ⟨hg1, hg2, HT.out⟩ hk (by assumption) HL.out
        · have HR : Hid (takeG g n e = (g, 4, [])) := hid (by simp [takeG, HO.out, k1, k2, k3])
          go_enter Tryd.func31, Tryd.ntmps31
          go_wp2_with fail
          refine (gate_open G L g n _ (HG.out.later (Later.alloc _ _)) hk hg2).mono ?_
          rintro e' w1 ⟨rfl, hL1⟩
          rw [HO.out]
          have hLw := Later.of_alloc hL1
          have hG1 := HG.out.later hLw
          have hV1 := HV.out.later hLw
          have hE := hL1.obj (obj_new w _)
          have e0 := cell_obj (i := 0) hE rfl
          have e1 := cell_obj (i := 1) hE rfl
          have e2 := cell_obj (i := 2) hE rfl
          have e3 := cell_obj (i := 3) hE rfl
          have e4 := cell_obj (i := 4) hE rfl
          have r0 := cell_obj (i := 0) hG1.obj rfl
          have r1 := cell_obj (i := 1) hG1.obj rfl
          have r2 := cell_obj (i := 2) hG1.obj rfl
          obtain ⟨q0, q1⟩ := lane_cells hG1.lanes n hlt
          rw [HX2.out] at q0 q1
          have hs1 := hLw.size
          have HE1 := hid hE; have HG1 := hid hG1; have HV1 := hid hV1; have HLw := hid hLw
          clear hE hG1 hV1 hLw hL1 HG HV hlo
          go_wp2
          go_ret2
          rw [HR.out]
          exact ⟨_, rfl, HG1.out, ElemsOwn.nil _ _, HLw.out.keeps _⟩
end Go.Proofs.YthfgjmdmcoogpaaDoor
