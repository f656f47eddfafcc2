/-
  PROVED HERE: the contracts of the law's weight, sameCheck and pick.
-/
import Derived.Test.YthfgjmdmcoogpaaDoorDisk
import Derived.Test.YthfgjmdmcoogpaaDoorCopy
namespace Go.Proofs.YthfgjmdmcoogpaaDoor
set_option linter.unusedSimpArgs false
set_option linter.unusedVariables false
open Go.RowKit

def NumTo12 (w : World) (e : Ending) (w' : World) : Prop := ∃ n : Int, e = .returned (.int .i64 n) ∧ Later w w'
def BoolD (w : World) (b : Bool) (e : Ending) (w' : World) : Prop := e = .returned (.bool b) ∧ Later w w'
set_option maxRecDepth 100000 in
set_option maxHeartbeats 4000000 in
theorem weight_any (c : Chk) (v1 v2 : Value) (w : World) (h1 : OffsIn All w v1 c.offs) (h2 : HeldsIn All w v2 c.helds) (hl2 : c.helds.length ≤ 1048576) :
    Calls Tryd.prog 50 #[.agg #[.int .i64 c.mark, v1, v2]] w (NumTo12 w) := by
  have H2 := hid h2; have HL2 := hid hl2
  obtain ⟨a1, c1, rfl, -⟩ := h1
  obtain ⟨a2, c2, rfl, -⟩ := h2
  clear hl2
  go_enter Tryd.func50, Tryd.ntmps50
  go_wp2_with fail
  obtain ⟨X, hX⟩ : ∃ X, X = w.heap.size := ⟨_, rfl⟩
  obtain ⟨w1, hw1⟩ : ∃ w1, w1 = w.alloc (.cells #[.int .i64 c.mark, .slice a1 c.offs.length c1, .slice a2 c.helds.length c2] 104 (0, 0)) := ⟨_, rfl⟩
  have HX1 : Hid (w1.heap[X]? = some (.cells #[.int .i64 c.mark, .slice a1 c.offs.length c1, .slice a2 c.helds.length c2] 104 (0, 0))) := hid (by rw [hw1, hX]; exact obj_new _ _)
  have HLW : Hid (Later w w1) := hid (by rw [hw1]; exact Later.alloc _ _)
  rw [← hw1, ← hX]
  clear hw1 hX
  obtain ⟨R1, hR1⟩ : ∃ RR_ : (Nat → Value) → World → Prop, RR_ = (fun us wx => ∃ (i : Nat) (n : Int), i ≤ c.helds.length ∧ us 4 = .int .i64 i ∧ us 3 = .int .i64 n ∧ wx = w1) := ⟨_, rfl⟩
  obtain ⟨mu1, hmu1⟩ : ∃ mu : (Nat → Value) → World → Nat, mu = (fun us _ => c.helds.length - (intOf (us 4)).toNat) := ⟨_, rfl⟩
  have HR1 := hid hR1; have Hmu1 := hid hmu1; clear hR1 hmu1
  refine wp_loop_frame' [false, false, false, true, true, false, false, false, false, false, true, true, true, true, true, true, true, true, true, true, true, true, true, true, true, true, true, true] R1 _ mu1 HR1.out ?_ ?_
  · exact ⟨0, _, by omega, rfl, rfl, rfl⟩
  ·
    intro us1 wx hrel
    obtain ⟨i, n, hi, h4, h3, rfl⟩ := hrel
    simp only [frameOf, Nat.reduceAdd, h4, h3]
    have Hh4 := hid h4; clear h4
    have Hh3 := hid h3; clear h3
    have HIN := hid hi
    clear hi
    have x2 := cell_obj (i := 2) HX1.out (v := .slice a2 c.helds.length c2) rfl
    by_cases hlt : i < c.helds.length
    · obtain ⟨a9, c9, e9, -, -, -, hel⟩ := H2.out
      simp only [Value.slice.injEq] at e9
      obtain ⟨rfl, -, rfl⟩ := e9
      obtain ⟨b, o, rfl, -, q0, q1, bv, q2, hbv⟩ := hel i hlt
      obtain ⟨pa, ca, rfl, -⟩ := hbv
      replace q2 := HLW.out.cell q2
      have HLT := hid hlt
      obtain ⟨m, hm⟩ : ∃ m : Nat, m = (c.helds[i]'hlt).bytes.length := ⟨_, rfl⟩
      replace q2 : wx.cell? ⟨b, o + i * 3 + 2, none⟩ = some (.slice pa m ca) := by rw [hm]; exact q2
      clear hel q0 q1 hm
      go_wp2_with fail
      have hw9 : wrap64 ((i : Int) + 1) = ((i + 1 : Nat) : Int) := by have := HLT.out; have := HL2.out; unfold wrap64; omega
      try simp only [hw9]
      refine Round.mk' HR1.out Hmu1.out rfl ?_ ?_
      · exact ⟨i + 1, _, HLT.out, rfl, rfl, rfl⟩
      · rw [Hh4.out]; have := HLT.out; simp [intOf, slots]; omega
    · go_wp2_with fail
      go_ret
      exact ⟨n, rfl, HLW.out⟩

theorem run_neq_off (w : World) (x y z : Int) : (binOp .neq 154 (.agg #[.int .i64 x, .int .i64 y, .int .i64 z]) (.agg #[.int .i64 x, .int .i64 y, .int .i64 z])).run Tryd.prog w = .ok (.bool false) w := by
  go_simp
attribute [local go_sem high] run_neq_off
set_option maxRecDepth 100000 in
set_option maxHeartbeats 4000000 in
theorem same_chk (c : Chk) (v1 v2 u1 u2 : Value) (w : World) (h1 : OffsIn All w v1 c.offs) (h2 : HeldsIn All w v2 c.helds) (k1 : OffsIn All w u1 c.offs) (k2 : HeldsIn All w u2 c.helds) (hl1 : c.offs.length ≤ 1048576) (hl2 : c.helds.length ≤ 1048576) :
    Calls Tryd.prog 52 #[.agg #[.int .i64 c.mark, v1, v2], .agg #[.int .i64 c.mark, u1, u2]] w (BoolD w true) := by
  have H1 := hid h1; have H2 := hid h2; have K1 := hid k1; have K2 := hid k2; have HL1 := hid hl1; have HL2 := hid hl2
  obtain ⟨a1, c1, rfl, -⟩ := h1
  obtain ⟨a2, c2, rfl, -⟩ := h2
  obtain ⟨b1, d1, rfl, -⟩ := k1
  obtain ⟨b2, d2, rfl, -⟩ := k2
  clear hl1 hl2
  go_enter Tryd.func52, Tryd.ntmps52
  go_wp2_with fail
  obtain ⟨X, hX⟩ : ∃ X, X = w.heap.size := ⟨_, rfl⟩
  obtain ⟨Z, hZ⟩ : ∃ Z, Z = w.heap.size + 1 := ⟨_, rfl⟩
  obtain ⟨w1, hw1⟩ : ∃ w1, w1 = (w.alloc (.cells #[.int .i64 c.mark, .slice a1 c.offs.length c1, .slice a2 c.helds.length c2] 104 (0, 0))).alloc (.cells #[.int .i64 c.mark, .slice b1 c.offs.length d1, .slice b2 c.helds.length d2] 104 (0, 0)) := ⟨_, rfl⟩
  have HX1 : Hid (w1.heap[X]? = some (.cells #[.int .i64 c.mark, .slice a1 c.offs.length c1, .slice a2 c.helds.length c2] 104 (0, 0))) := hid (by rw [hw1, hX]; exact (Later.alloc _ _).obj (obj_new _ _))
  have HZ1 : Hid (w1.heap[Z]? = some (.cells #[.int .i64 c.mark, .slice b1 c.offs.length d1, .slice b2 c.helds.length d2] 104 (0, 0))) := hid (by rw [hw1, hZ, ← World.size_alloc w (.cells #[.int .i64 c.mark, .slice a1 c.offs.length c1, .slice a2 c.helds.length c2] 104 (0, 0))]; exact obj_new _ _)
  have HLW : Hid (Later w w1) := hid (by rw [hw1]; exact Later.trans _ _ _ (Later.alloc _ _) (Later.alloc _ _))
  rw [← hw1, ← hZ, ← hX]
  clear hw1 hX hZ
  obtain ⟨R1, hR1⟩ : ∃ RR_ : (Nat → Value) → World → Prop, RR_ = (fun us wx => ∃ i : Nat, i ≤ c.offs.length ∧ us 5 = .int .i64 i ∧ Later w1 wx) := ⟨_, rfl⟩
  obtain ⟨mu1, hmu1⟩ : ∃ mu : (Nat → Value) → World → Nat, mu = (fun us _ => c.offs.length - (intOf (us 5)).toNat) := ⟨_, rfl⟩
  have HR1 := hid hR1; have Hmu1 := hid hmu1; clear hR1 hmu1
  refine wp_loop_frame' [false, false, false, false, true, true, false, false, false, false, false, false, false, false, false, false, false, false, false, false, false, false, false, false, false, false, false, false, false, false, false, false, true, true, true, true, true, true, true, true, true, true, true, true, true, true, true, true, true, true] R1 _ mu1 HR1.out ?_ ?_
  · exact ⟨0, by omega, rfl, Later.refl _⟩
  ·
    intro us1 wx hrel
    obtain ⟨i, hi, h5, hLx⟩ := hrel
    simp only [frameOf, Nat.reduceAdd, h5]
    have Hh5 := hid h5; clear h5
    have HIN := hid hi; have HLX := hid hLx
    clear hi hLx
    by_cases hlt : i < c.offs.length
    · have x1 := cell_obj (i := 1) (HLX.out.obj HX1.out) (v := .slice a1 c.offs.length c1) rfl
      have z1 := cell_obj (i := 1) (HLX.out.obj HZ1.out) (v := .slice b1 c.offs.length d1) rfl
      obtain ⟨a9, c9, e9, -, -, -, hel⟩ := H1.out
      simp only [Value.slice.injEq] at e9
      obtain ⟨rfl, -, rfl⟩ := e9
      obtain ⟨b, o, rfl, -, q0, q1, q2⟩ := hel i hlt
      obtain ⟨a8, c8, e8, -, -, -, hel8⟩ := K1.out
      simp only [Value.slice.injEq] at e8
      obtain ⟨rfl, -, rfl⟩ := e8
      obtain ⟨b', o', rfl, -, r0, r1, r2⟩ := hel8 i hlt
      have HLT := hid hlt
      obtain ⟨x, hx⟩ : ∃ x : Off, x = c.offs[i]'hlt := ⟨_, rfl⟩
      have hLL := Later.trans _ _ _ HLW.out HLX.out
      replace q0 : wx.cell? ⟨b, o + i * 3, none⟩ = some (.int .i64 x.1) := by rw [hx]; exact hLL.cell q0
      replace q1 : wx.cell? ⟨b, o + i * 3 + 1, none⟩ = some (.int .i64 x.2.1) := by rw [hx]; exact hLL.cell q1
      replace q2 : wx.cell? ⟨b, o + i * 3 + 2, none⟩ = some (.int .i64 x.2.2) := by rw [hx]; exact hLL.cell q2
      replace r0 : wx.cell? ⟨b', o' + i * 3, none⟩ = some (.int .i64 x.1) := by rw [hx]; exact hLL.cell r0
      replace r1 : wx.cell? ⟨b', o' + i * 3 + 1, none⟩ = some (.int .i64 x.2.1) := by rw [hx]; exact hLL.cell r1
      replace r2 : wx.cell? ⟨b', o' + i * 3 + 2, none⟩ = some (.int .i64 x.2.2) := by rw [hx]; exact hLL.cell r2
      obtain ⟨y0, y1, y2⟩ := x
      simp only at q0 q1 q2 r0 r1 r2
      clear hel hel8 hx hLL
      go_upto_region 6 with (fail)
      refine wp_region_lex (by kernel_rfl) (by kernel_rfl) Later Later.refl Later.trans (fun _ => none) (fun _ _ _ _ _ h => by cases h) ?_
      simp only [numbered, Nat.reduceAdd]
      refine LexS.out ?_
      iterate 11
        first
        | (refine LexS.skip rfl ?_; simp only [Act.put, List.setIfInBounds_toArray, List.set])
        | (refine LexS.one' rfl rfl ?_
           apply Exists.intro
           refine ⟨fun w hR hF => ?_, ?_⟩
           · have hP := hR
             repeat (first | replace hP := Later.of_drew hP | replace hP := Later.of_drewN hP | replace hP := Later.of_alloc hP)
             have hcs := hR.cells
             have zx1 := hP.cell x1
             have zz1 := hP.cell z1
             have zq0 := hP.cell q0
             have zq1 := hP.cell q1
             have zq2 := hP.cell q2
             have zr0 := hP.cell r0
             have zr1 := hP.cell r1
             have zr2 := hP.cell r2
             clear hR hF hP
             go_simp
             first | done | rfl
           simp only [Act.put, List.setIfInBounds_toArray, List.set])
      refine LexS.nil ?_
      intro w2 hR2 hF9
      clear hF9
      repeat (first | replace hR2 := Later.of_drew hR2 | replace hR2 := Later.of_drewN hR2 | replace hR2 := Later.of_alloc hR2)
      have HL2' := hid (Later.trans _ _ _ HLX.out hR2)
      clear hR2 x1 z1 q0 q1 q2 r0 r1 r2
      go_wp2_with fail
      have hw9 : wrap64 ((i : Int) + 1) = ((i + 1 : Nat) : Int) := by have := HLT.out; have := HL1.out; unfold wrap64; omega
      try simp only [hw9]
      refine Round.mk' HR1.out Hmu1.out rfl ?_ ?_
      · exact ⟨i + 1, HLT.out, rfl, HL2'.out⟩
      · rw [Hh5.out]; have := HLT.out; simp [intOf, slots]; omega
    · have x1 := cell_obj (i := 1) (HLX.out.obj HX1.out) (v := .slice a1 c.offs.length c1) rfl
      go_wp2_with fail
      clear x1
      obtain ⟨R2, hR2⟩ : ∃ RR_ : (Nat → Value) → World → Prop, RR_ = (fun us wx => ∃ i : Nat, i ≤ c.helds.length ∧ us 6 = .int .i64 i ∧ Later w1 wx) := ⟨_, rfl⟩
      obtain ⟨mu2, hmu2⟩ : ∃ mu : (Nat → Value) → World → Nat, mu = (fun us _ => c.helds.length - (intOf (us 6)).toNat) := ⟨_, rfl⟩
      have HR2 := hid hR2; have Hmu2 := hid hmu2; clear hR2 hmu2
      refine wp_loop_frame' [false, false, false, false, true, false, true, true, true, false, false, false, false, false, false, false, false, false, false, false, false, false, false, false, false, false, false, false, false, false, false, false, false, false, false, false, false, false, false, false, false, false, false, false, false, false, false, false, false, false, true, true, true, true, true, true, true, true, true, true, true, true, true, true, true, true, true, true, true, true, true, true, true, true, true, true, true, true, true, true, true, true, true, true, true, true, true, true, true, true, true, true] R2 _ mu2 HR2.out ?_ ?_
      · exact ⟨0, by omega, rfl, HLX.out⟩
      ·
        intro us2 wy hrel
        obtain ⟨k, hk, h6, hLy⟩ := hrel
        simp only [frameOf, Nat.reduceAdd, h6]
        have Hh6 := hid h6; clear h6
        have HKN := hid hk; have HLY := hid hLy
        clear hk hLy
        have x2 := cell_obj (i := 2) (HLY.out.obj HX1.out) (v := .slice a2 c.helds.length c2) rfl
        have z2 := cell_obj (i := 2) (HLY.out.obj HZ1.out) (v := .slice b2 c.helds.length d2) rfl
        by_cases hkt : k < c.helds.length
        · obtain ⟨a9, c9, e9, -, -, -, hel⟩ := H2.out
          simp only [Value.slice.injEq] at e9
          obtain ⟨rfl, -, rfl⟩ := e9
          obtain ⟨b, o, rfl, -, q0, q1, bv, q2, hbv⟩ := hel k hkt
          obtain ⟨a8, c8, e8, -, -, -, hel8⟩ := K2.out
          simp only [Value.slice.injEq] at e8
          obtain ⟨rfl, -, rfl⟩ := e8
          obtain ⟨b', o', rfl, -, r0, r1, bu, r2, hbu⟩ := hel8 k hkt
          have HLT := hid hkt
          obtain ⟨x, hx⟩ : ∃ x : Held, x = c.helds[k]'hkt := ⟨_, rfl⟩
          have hLL := Later.trans _ _ _ HLW.out HLY.out
          rw [← hx] at q0 q1 hbv r0 r1 hbu
          replace q0 := hLL.cell q0
          replace q1 := hLL.cell q1
          replace q2 := hLL.cell q2
          replace r0 := hLL.cell r0
          replace r1 := hLL.cell r1
          replace r2 := hLL.cell r2
          have HBV := hid hbv; have HBU := hid hbu
          obtain ⟨pa, ca, rfl, -⟩ := hbv
          obtain ⟨pu, cu, rfl, -⟩ := hbu
          clear hel hel8 hx hLL hkt
          go_upto_region 12 with (fail)
          replace z2 := (Later.alloc wy (.cells #[.int .i64 x.node, .int .i64 x.group, .slice pa x.bytes.length ca] 158 (0, 0))).cell z2
          replace r0 := (Later.alloc wy (.cells #[.int .i64 x.node, .int .i64 x.group, .slice pa x.bytes.length ca] 158 (0, 0))).cell r0
          replace r1 := (Later.alloc wy (.cells #[.int .i64 x.node, .int .i64 x.group, .slice pa x.bytes.length ca] 158 (0, 0))).cell r1
          replace r2 := (Later.alloc wy (.cells #[.int .i64 x.node, .int .i64 x.group, .slice pa x.bytes.length ca] 158 (0, 0))).cell r2
          go_upto_region 13 with (fail)
          obtain ⟨wz, hwz⟩ : ∃ wz, wz = (wy.alloc (.cells #[.int .i64 x.node, .int .i64 x.group, .slice pa x.bytes.length ca] 158 (0, 0))).alloc (.cells #[.int .i64 x.node, .int .i64 x.group, .slice pu x.bytes.length cu] 158 (0, 0)) := ⟨_, rfl⟩
          have hLz : Later wy wz := by rw [hwz]; exact Later.trans _ _ _ (Later.alloc _ _) (Later.alloc _ _)
          have HLZ := hid (Later.trans _ _ _ HLY.out hLz)
          have hcv1 := (HBV.out.bytes_later (Later.trans _ _ _ HLW.out HLZ.out)).string (src := 76) (dst := 9) Tryd.underlying76 Tryd.underlying5 Tryd.underlying9
          have hcv2 := (HBU.out.bytes_later (Later.trans _ _ _ HLW.out HLZ.out)).string (src := 76) (dst := 9) Tryd.underlying76 Tryd.underlying5 Tryd.underlying9
          rw [hwz] at hcv1 hcv2
          clear x2 z2 q0 q1 q2 r0 r1 r2 hLz
          go_wp2_with fail
          rw [← hwz]
          have hw9 : wrap64 ((k : Int) + 1) = ((k + 1 : Nat) : Int) := by have := HLT.out; have := HL2.out; unfold wrap64; omega
          try simp only [hw9]
          refine Round.mk' HR2.out Hmu2.out rfl ?_ ?_
          · exact ⟨k + 1, HLT.out, rfl, HLZ.out⟩
          · rw [Hh6.out]; have := HLT.out; simp [intOf, slots]; omega
        · go_wp2_with fail
          go_ret
          exact ⟨rfl, Later.trans _ _ _ HLW.out HLY.out⟩

set_option maxHeartbeats 1000000 in
theorem pick12_any (a b : Int) (n : Nat) (w : World) (hb : b = (n : Int)) (h0 : 0 < n) (hn : n ≤ 1099511627776) : Calls Tryd.prog 53 #[.int .i64 a, .int .i64 b] w (PickTo w n) := by
  subst hb
  have h1 := Int.tmod_lt_of_pos a (b := (n : Int)) (by omega)
  have h2 : -(n : Int) < a.tmod n := by
    have := Int.tmod_lt_of_pos (-a) (b := (n : Int)) (by omega)
    rw [Int.neg_tmod] at this
    omega
  obtain ⟨q, hq⟩ : ∃ q, q = a.tmod n := ⟨_, rfl⟩
  rw [← hq] at h1 h2
  have hn0 : ¬ (n : Int) = 0 := by omega
  have hn1 : ¬ (n : Int) = -1 := by omega
  have hq' := hq.symm
  by_cases hneg : q < 0
  · obtain ⟨r, hr⟩ : ∃ r : Nat, q + n = r := ⟨(q + n).toNat, by omega⟩
    have HRR : Hid (r < n) := hid (by omega)
    have hw : wrap64 (q + n) = (r : Int) := by unfold wrap64; omega
    clear hq
    go_enter Tryd.func53, Tryd.ntmps53
    go_wp2_with fail
    go_ret
    try simp only [hw, hr]
    exact ⟨r, rfl, HRR.out, rfl⟩
  · obtain ⟨r, rfl⟩ : ∃ r : Nat, q = r := ⟨q.toNat, by omega⟩
    have HRR : Hid (r < n) := hid (by omega)
    clear hq
    go_enter Tryd.func53, Tryd.ntmps53
    go_wp2_with fail
    go_ret
    exact ⟨r, rfl, HRR.out, rfl⟩
end Go.Proofs.YthfgjmdmcoogpaaDoor
