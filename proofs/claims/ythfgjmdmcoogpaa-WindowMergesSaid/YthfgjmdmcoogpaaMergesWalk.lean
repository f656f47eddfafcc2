/-
  PROVED HERE: the walk of streamwrightlaw5.WindowMerges.
-/
import Derived.Test.YthfgjmdmcoogpaaWinMerge
import Derived.Test.YthfgjmdmcoogpaaWinSame
import Derived.Test.YthfgjmdmcoogpaaCopyZero
namespace Go.Proofs.Ythfgjmdmcoogpaa
set_option linter.unusedSimpArgs false
set_option linter.unusedVariables false
open Go.RowKit

theorem SliceOf.wins_lt {S : Nat → Prop} {w : World} {v : Value} {l : List Win} (h : WinsIn S w v l) : WinsIn (fun b => b < w.heap.size) w v l := h.map fun _ _ _ _ hx => ⟨cell_lt hx.1, hx⟩
theorem SliceOf.wins_kept {S : Nat → Prop} {w w' : World} {v : Value} {l : List Win} (h : WinsIn S w v l) (k : Keeps S w w') : WinsIn S w' v l := h.map fun _ _ _ hb hx => ⟨hb, k.cell hb hx.1, k.cell hb hx.2⟩
theorem SliceOf.wins_mono {S S' : Nat → Prop} {w : World} {v : Value} {l : List Win} (h : WinsIn S w v l) (hs : ∀ b, S b → S' b) : WinsIn S' w v l := h.map fun _ _ _ hb hx => ⟨hs _ hb, hx⟩
set_option maxRecDepth 100000 in
set_option maxHeartbeats 4000000 in
theorem merges_walk (l : List Win) (a b : Win) (v : Value) (w : World) (hv : WinsIn (fun _ => True) w v l) (hl : l.length * 16 ≤ 140737488355328) :
    Calls Try.prog 3 #[v, .agg #[.int .i64 a.1, .int .i64 a.2], .agg #[.int .i64 b.1, .int .i64 b.2]] w (BoolW w true) := by
  have HV := hid hv.wins_lt
  have HLL := hid hl
  obtain ⟨p, c, rfl, hlc, hcm, hnil, hea⟩ := hv
  have HE := hid hea; have HNIL := hid hnil
  obtain ⟨i0, hi, hz0, hz1, hz2⟩ := info_parts infoWin
  have HI := hid hi; have HZ0 := hid hz0; have HZ1 := hid hz1; have HZ2 := hid hz2
  have hadd : IntKind.i64.wrap ((l.length : Int) + 70) = ((l.length + 70 : Nat) : Int) := (IntWalk.i64_in _ (by omega)).trans (by omega)
  have hadd2 : wrap64 ((l.length : Int) + 70) = ((l.length + 70 : Nat) : Int) := by unfold wrap64; omega
  obtain ⟨a1, a2⟩ := a
  obtain ⟨b1, b2⟩ := b
  have HA2 := hid hadd2
  clear hl hea hnil hi hz0 hz1 hz2
  go_enter Try.func3, Try.ntmps3
  go_upto_region 1 with (fail)
  obtain ⟨X, hX⟩ : ∃ X, X = w.heap.size := ⟨_, rfl⟩
  obtain ⟨Y, hY⟩ : ∃ Y, Y = w.heap.size + 1 := ⟨_, rfl⟩
  obtain ⟨w2, hw2⟩ : ∃ w2, w2 = (w.alloc (.cells #[.int .i64 a1, .int .i64 a2] 24 (0, 0))).alloc (.cells #[.int .i64 b1, .int .i64 b2] 24 (0, 0)) := ⟨_, rfl⟩
  have hL2 : Later w w2 := by rw [hw2]; exact Later.trans _ _ _ (Later.alloc _ _) (Later.alloc _ _)
  have hX2 : w2.heap[X]? = some (.cells #[.int .i64 a1, .int .i64 a2] 24 (0, 0)) := by rw [hw2, hX]; exact (Later.alloc _ _).obj (obj_new _ _)
  have hY2 : w2.heap[Y]? = some (.cells #[.int .i64 b1, .int .i64 b2] 24 (0, 0)) := by rw [hw2, hY, ← World.size_alloc]; exact obj_new _ _
  rw [← hw2, ← hY, ← hX]
  have HL2 := hid hL2; have HX2 := hid hX2; have HY2 := hid hY2
  clear hw2 hL2 hX2 hY2 hX hY
  go_wp2_with (at_make; go_loud (refine wpList_makeN (n := l.length + 70) rfl _ _ 22 rfl w2.heap.size 24 _ 2 16 Try.underlying22 infoWin rfl rfl ?m1 ?m2 ?m3 ?m4 (Nat.le_refl _) ?_))
  case m1 => first | rfl | exact hadd
  case m2 => first | rfl | exact hadd
  case m3 => have := HLL.out; omega
  case m4 => have := HLL.out; unfold maxLen; omega
  intro w3 hown hgrow
  have HL3 := hid (grown_none hgrow)
  obtain ⟨G, hG⟩ : ∃ G, G = w2.heap.size := ⟨_, rfl⟩
  rw [← hG] at hown ⊢
  have HG := hid hG
  obtain ⟨cur, hcl, hcur⟩ : ∃ cur : List Value, cur.length = (l.length + 70) * 2 ∧ w3.heap[G]? = some (.cells cur.toArray 24 (0, 0)) := ⟨_, hown.1, owned_block hown⟩
  have HCL := hid hcl; have HCUR := hid hcur
  clear hown hgrow hcl hcur hG hadd hadd2
  have HV3 := hid ((HV.out.wins_later HL2.out).wins_later HL3.out)
  go_wp2_with (refine wpList_copy_list rfl _ _ 22 22 rfl 24 i0 2 Try.underlying22 HI.out HZ1.out (by decide) G (l.length + 70) (l.length + 70) p l.length c rfl rfl cur _ HCUR.out (Nat.le_add_right _ _) (Nat.le_of_eq HCL.out.symm) (winCells l) (winCells_length l) ?n1 ?n2 (win_ones l) ?_)
  case n1 => intro h; have := HNIL.out h; omega
  case n2 => intro ad e j u hu; subst e; exact HL3.out.cell (HL2.out.cell (wins_at HE.out j u hu))
  intro w4 h4 hk4
  have HL4 : Hid (Later w2 w4) := hid (((HL3.out.keeps (fun b => b ≠ G)).trans hk4).mono (S' := fun _ => True) (fun k hk _ => by rw [HG.out]; omega) |>.later)
  have HO4 : Hid (OwnW G w4 (.slice (some ⟨G, 0, none⟩) l.length (l.length + 70)) l) := hid ⟨by rw [winCells_length], .inr ⟨G, l.length + 70, _, rfl, Nat.le_refl _, h4, Nat.le_add_right _ _, by have := HLL.out; unfold maxLen; omega, by have := HCL.out; simp [winCells_length]; omega, by rw [List.take_append_of_le_length (by rw [winCells_length]; exact Nat.le_refl _), List.take_of_length_le (by rw [winCells_length]; exact Nat.le_refl _)]⟩⟩
  clear h4 hk4 HL3 HCUR HCL HV3
  go_wp2_with fail
  have HW4 := hid ((owned_wins HO4.out).wins_lt)
  have HVV4 := hid ((HV.out.wins_later (Later.trans _ _ _ HL2.out HL4.out)).wins_lt)
  have HX4 := hid (HL4.out.obj HX2.out)
  have HY4 := hid (HL4.out.obj HY2.out)
  have HL04 := hid (Later.trans _ _ _ HL2.out HL4.out)
  clear HO4 HV HX2 HY2 HL2 HL4 HE HNIL HI HZ0 HZ1 HZ2 HA2
  refine (wmerge_any l _ _ (HW4.out.map fun _ _ _ _ h => ⟨trivial, h⟩) HLL.out).mono ?_
  rintro e w5 ⟨v5, O, rfl, ho5, hm5, hn5, hL5⟩
  obtain ⟨a5, c5, rfl⟩ := OwnW.slice ho5
  have HO5 := hid ho5; have HM5 := hid hm5; have HN5 := hid hn5; have HL5 := hid hL5
  clear ho5 hm5 hn5 hL5
  go_wp2_with fail
  refine (ref_merge l _ _ ((HVV4.out.wins_later HL5.out).map fun _ _ _ _ h => ⟨trivial, h⟩) HLL.out).mono ?_
  rintro e w6 ⟨v6, O', rfl, ho6, hm6, hn6, hL6⟩
  obtain rfl : O' = O := merged_unique hm6 HM5.out
  have HL6 := hid (Later.trans _ _ _ HL5.out hL6)
  have HO56 := hid (owns_at HO5.out hL6)
  have HO6 := hid ((owned_wins ho6).map (S' := fun _ => True) fun _ _ _ _ h => ⟨trivial, h⟩)
  have hn6' := hn6
  clear ho6 hm6 hL6 HO5 HL5 hn6
  go_wp2_with fail
  refine (same_wins O' _ _ _ ((owned_wins HO56.out).map fun _ _ _ _ h => ⟨trivial, h⟩) HO6.out).mono ?_
  rintro e w7 ⟨rfl, hL7⟩
  have HL7 := hid (Later.trans _ _ _ HL6.out hL7)
  have HO7 := hid (owns_at HO56.out hL7)
  clear hL7 HO56 HO6 HL6
  go_wp2_with fail
  refine (same_wins l _ _ _ ((HW4.out.wins_later HL7.out).map fun _ _ _ _ h => ⟨trivial, h⟩) ((HVV4.out.wins_later HL7.out).map fun _ _ _ _ h => ⟨trivial, h⟩)).mono ?_
  rintro e w8 ⟨rfl, hL8⟩
  have HL8 := hid (Later.trans _ _ _ HL7.out hL8)
  have HO8 := hid (owns_at HO7.out hL8)
  clear hL8 HO7 HL7
  have x0 := cell_obj (i := 0) (HL8.out.obj HX4.out) (v := .int .i64 a1) rfl
  have x1 := cell_obj (i := 1) (HL8.out.obj HX4.out) (v := .int .i64 a2) rfl
  have y0 := cell_obj (i := 0) (HL8.out.obj HY4.out) (v := .int .i64 b1) rfl
  have y1 := cell_obj (i := 1) (HL8.out.obj HY4.out) (v := .int .i64 b2) rfl
  go_wp2_with fail
  refine (wmeet_any (a1, a2) (b1, b2) _).mono ?_
  rintro e w9 ⟨rfl, hL9⟩
  have HL9 := hid (Later.trans _ _ _ HL8.out hL9)
  have HO9 := hid (owns_at HO8.out hL9)
  replace x0 := hL9.cell x0
  replace x1 := hL9.cell x1
  replace y0 := hL9.cell y0
  replace y1 := hL9.cell y1
  clear hL9 HO8 HL8
  go_wp2_with fail
  refine (rmeet_any (a1, a2) (b1, b2) _).mono ?_
  rintro e w10 ⟨rfl, hL10⟩
  have HL10 := hid (Later.trans _ _ _ HL9.out hL10)
  have HO10 := hid (owns_at HO9.out hL10)
  replace x0 := hL10.cell x0
  replace x1 := hL10.cell x1
  replace y0 := hL10.cell y0
  replace y1 := hL10.cell y1
  clear hL10 HO9 HL9
  go_wp2_with fail
  refine (wcompare_any (a1, a2) (b1, b2) _).mono ?_
  rintro e w11 ⟨rfl, hL11⟩
  have HL11 := hid (Later.trans _ _ _ HL10.out hL11)
  have HO11 := hid (owns_at HO10.out hL11)
  replace x0 := hL11.cell x0
  replace x1 := hL11.cell x1
  replace y0 := hL11.cell y0
  replace y1 := hL11.cell y1
  clear hL11 HO10 HL10
  go_wp2_with fail
  refine (rbefore_any (a1, a2) (b1, b2) _).mono ?_
  rintro e w12 ⟨rfl, hL12⟩
  have HL12 := hid (Later.trans _ _ _ HL11.out hL12)
  have HO12 := hid (owns_at HO11.out hL12)
  replace x0 := hL12.cell x0
  replace x1 := hL12.cell x1
  replace y0 := hL12.cell y0
  replace y1 := hL12.cell y1
  clear hL12 HO11 HL11
  go_wp2_with fail
  refine (rbefore_any (b1, b2) (a1, a2) _).mono ?_
  rintro e w13 ⟨rfl, hL13⟩
  have HL13 := hid (Later.trans _ _ _ HL12.out hL13)
  have HO13 := hid (owns_at HO12.out hL13)
  replace x0 := hL13.cell x0
  replace x1 := hL13.cell x1
  replace y0 := hL13.cell y0
  replace y1 := hL13.cell y1
  clear hL13 HO12 HL12
  clear x0 x1 y0 y1
  go_upto_region 12 with (fail)
  have hcb := compare_before (a1, a2) (b1, b2)
  simp only at hcb
  obtain ⟨hcb1, hcb2⟩ := hcb
  obtain ⟨nn, hnn⟩ : ∃ nn, nn = orL [cmpI a2 b2, cmpI a1 b1] := ⟨_, rfl⟩
  rw [← hnn] at hcb1 hcb2
  rw [← hnn]
  simp only [← hcb1, ← hcb2]
  obtain ⟨mm, hmm⟩ : ∃ mm, mm = meetW (a1, a2) (b1, b2) := ⟨_, rfl⟩
  rw [← hmm]
  have HN := hid hn6'
  clear hnn hcb1 hcb2 hmm
  go_wp2_with fail
  obtain ⟨R1, hR1⟩ : ∃ RR_ : (Nat → Value) → World → Prop, RR_ = (fun us wx => ∃ (i : Nat) (N : List Win), us 17 = .int .i64 i ∧ i ≤ N.length ∧ N.length = O'.length ∧ OwnW w4.heap.size wx (.slice a5 N.length c5) N ∧ Keeps (fun b => b < w4.heap.size) w4 wx) := ⟨_, rfl⟩
  obtain ⟨mu1, hmu1⟩ : ∃ mu : (Nat → Value) → World → Nat, mu = (fun us _ => O'.length - (intOf (us 17)).toNat) := ⟨_, rfl⟩
  have HR1 := hid hR1; have Hmu1 := hid hmu1; clear hR1 hmu1
  refine wp_loop_frame' [false, false, false, false, false, false, false, false, false, false, false, false, false, false, false, false, false, true, false, false, false, false, false, false, false, false, false, false, false, false, false, false, false, false, false, false, false, false, false, false, false, false, false, false, false, false, false, false, false, false, false, false, false, false, false, false, false, true, true, true, true, true, true, true, true, true, true] R1 _ mu1 HR1.out ?_ ?_
  · exact ⟨0, O', rfl, Nat.zero_le _, rfl, HO13.out, HL13.out.keeps _⟩
  clear HO13 HL13
  intro us1 wx hrel
  obtain ⟨i, N, h17, hi, hnl, ho, hk⟩ := hrel
  simp only [frameOf, Nat.reduceAdd, h17]
  have Hh17 := hid h17; clear h17
  have HI := hid hi; have HNL := hid hnl; have HO := hid ho; have HK := hid hk
  clear hi hnl ho hk
  by_cases hlt : i < N.length
  · have HLT := hid hlt
    obtain ⟨g, rfl, hgB, q1, q2, hfr⟩ := OwnW.cells HO.out hlt
    have HGB := hid hgB
    have f1 := hfr (i * 2)
    have f2 := hfr (i * 2 + 1)
    have hio : i < O'.length := by have := HNL.out; omega
    have HWI : Hid (wrap64 ((i : Int) + 1) = ((i + 1 : Nat) : Int)) := hid (by have := HN.out; have := HLL.out; unfold wrap64; omega)
    clear hfr hgB
    go_upto_region 14 with (fail)
    obtain ⟨w14, hw14⟩ : ∃ w14, w14 = (wx.setCell ⟨g, i * 2, none⟩ (.int .i64 (-9))).setCell ⟨g, i * 2 + 1, none⟩ (.int .i64 (-9)) := ⟨_, rfl⟩
    rw [← hw14]
    have HO14 : Hid (OwnW w4.heap.size w14 (.slice (some ⟨g, 0, none⟩) N.length c5) (N.set i (-9, -9))) := hid (by rw [hw14]; exact OwnW.set HO.out rfl HLT.out (-9, -9))
    have HK14 : Hid (Keeps (fun b => b < w4.heap.size) w4 w14) := hid (by rw [hw14]; exact (HK.out.setCell (p := ⟨g, i * 2, none⟩) (.inr HGB.out) _).setCell (p := ⟨g, i * 2 + 1, none⟩) (.inr HGB.out) _)
    clear hw14 HO HK q1 q2 f1 f2
    go_wp2_with fail
    try simp only [HWI.out]
    refine Round.mk' HR1.out Hmu1.out rfl ?_ ?_
    · refine ⟨i + 1, N.set i (-9, -9), rfl, by rw [List.length_set]; exact HLT.out, by rw [List.length_set]; exact HNL.out, ?_, HK14.out⟩
      rw [List.length_set]; exact HO14.out
    · rw [Hh17.out]; simp [intOf, slots]; omega
  · have hio : ¬ i < O'.length := by have := HNL.out; omega
    have HF := hid (later_keep HL04.out HK.out HL04.out.size)
    go_wp2_with fail
    refine (same_wins l _ _ _ ((HW4.out.wins_kept HK.out).map fun _ _ _ _ h => ⟨trivial, h⟩) ((HVV4.out.wins_kept HK.out).map fun _ _ _ _ h => ⟨trivial, h⟩)).mono ?_
    rintro e w15 ⟨rfl, hL15⟩
    have HL15 := hid (Later.trans _ _ _ HF.out hL15)
    clear hL15 HF HK HO
    go_wp2_with fail
    go_ret
    exact ⟨rfl, HL15.out⟩
end Go.Proofs.Ythfgjmdmcoogpaa
