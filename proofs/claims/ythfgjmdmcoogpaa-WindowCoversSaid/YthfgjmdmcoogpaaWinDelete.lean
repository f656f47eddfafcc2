/-
  PROVED HERE: the contracts of slices.DeleteFunc at windows .
-/
import Derived.Test.YthfgjmdmcoogpaaWinDel
import Derived.Test.YthfgjmdmcoogpaaRefMerge
namespace Go.Proofs.Ythfgjmdmcoogpaa
set_option linter.unusedSimpArgs false
set_option linter.unusedVariables false
open Go.RowKit

def DelTo (w : World) (B : Nat) (a : Option Addr) (c : Nat) (l : List Win) (e : Ending) (w' : World) : Prop :=
  e = .returned (.slice a (l.filter keepW).length c) ∧ OwnW B w' (.slice a (l.filter keepW).length c) (l.filter keepW) ∧ Keeps (fun b => b < B) w w'
theorem take_set_next {α : Type} {l : List α} {i : Nat} (h : i < l.length) (x : α) : (l.set i x).take (i + 1) = l.take i ++ [x] := by
  rw [List.take_succ_eq_append_getElem (by rw [List.length_set]; exact h), List.getElem_set_self, List.take_set_of_le (Nat.le_refl _)]
set_option maxRecDepth 100000 in
set_option maxHeartbeats 4000000 in
theorem delete_wins (B : Nat) (a : Option Addr) (c : Nat) (l : List Win) (w : World) (h : OwnW B w (.slice a l.length c) l) (hl : l.length * 16 ≤ 140737488355328) (hB : B ≤ w.heap.size) :
    Calls Try.prog 19 #[.slice a l.length c, .func (.func 20) #[] #[]] w (DelTo w B a c l) := by
  have HO := hid h; have HLL := hid hl; have HBB := hid hB
  clear h hl hB
  go_enter Try.func19, Try.ntmps19
  go_wp2_with fail
  refine (idx_wins l _ _ ((owned_wins HO.out).map fun _ _ _ _ hx => ⟨trivial, hx⟩)).mono ?_
  rintro e w1 ⟨hL1, ⟨rfl, hall⟩ | ⟨i0, hi0, rfl, hno, hall⟩⟩
  · have HF : Hid (l.filter keepW = l) := hid (by
      rw [List.filter_eq_self]
      intro x hx
      obtain ⟨j, hj, rfl⟩ := List.getElem_of_mem hx
      exact hall j hj)
    have HL1 := hid hL1
    clear hall hL1
    go_wp2_with fail
    go_ret
    refine ⟨?_, ?_, HL1.out.keeps _⟩
    · rw [HF.out]; rfl
    · rw [HF.out]; exact owns_at HO.out HL1.out
  · obtain ⟨g, rfl, hgB, -, -, -⟩ := OwnW.cells HO.out hi0
    have HGB := hid hgB
    have HKP : Hid (kept l (i0 + 1) = l.take i0) := hid (by
      rw [kept_succ hi0, hno]
      unfold kept
      simp only [Bool.false_eq_true, if_false]
      rw [List.filter_eq_self]
      intro x hx
      obtain ⟨j, hj, rfl⟩ := List.getElem_of_mem hx
      rw [List.getElem_take]
      exact hall j (by rw [List.length_take] at hj; omega))
    have HO1 := hid (owns_at HO.out hL1)
    have HL1 := hid hL1
    have HI0 := hid hi0
    have HC := hid (OwnW.len HO.out)
    have hne : ((i0 : Int) == -1) = false := beq_eq_false_iff_ne.2 (by omega)
    have hw0 : wrap64 ((i0 : Int) + 1) = ((i0 + 1 : Nat) : Int) := by have := HI0.out; have := HLL.out; unfold wrap64; omega
    clear hgB hno hall hL1 hi0 HO
    go_wp2_with fail
    try simp only [hw0]
    clear hw0 hne
    obtain ⟨R1, hR1⟩ : ∃ RR_ : (Nat → Value) → World → Prop, RR_ = (fun us wx => ∃ (i j : Nat) (N : List Win), us 5 = .int .i64 i ∧ us 6 = .int .i64 j ∧ i < j ∧ j ≤ l.length ∧ N.length = l.length ∧ OwnW B wx (.slice (some ⟨g, 0, none⟩) l.length c) N ∧ N.take i = kept l j ∧ N.drop j = l.drop j ∧ Keeps (fun b => b < B) w wx) := ⟨_, rfl⟩
    obtain ⟨mu1, hmu1⟩ : ∃ mu : (Nat → Value) → World → Nat, mu = (fun us _ => l.length - (intOf (us 6)).toNat) := ⟨_, rfl⟩
    have HR1 := hid hR1; have Hmu1 := hid hmu1; clear hR1 hmu1
    refine wp_loop_frame' [false, false, false, false, false, true, true, true, false, false, false, false, false, false, false, false, true, true, true, true, true, true, true, true, true, true, true, true, true, true, true, true, true, true, true, true] R1 _ mu1 HR1.out ?_ ?_
    · exact ⟨i0, i0 + 1, l, rfl, rfl, by omega, HI0.out, rfl, HO1.out, HKP.out.symm, rfl, HL1.out.keeps _⟩
    clear HO1 HL1 HKP HI0
    intro us1 wx hrel
    obtain ⟨i, j, N, h5, h6, hij, hjl, hnl, ho, ht, hd, hk⟩ := hrel
    simp only [frameOf, Nat.reduceAdd, h5, h6]
    have Hh5 := hid h5; clear h5
    have Hh6 := hid h6; clear h6
    have HO := hid ho; have HK := hid hk; have HT := hid ht; have HD := hid hd; have HIJ := hid hij; have HJL := hid hjl; have HNL := hid hnl
    clear ho hk ht hd hij hjl hnl
    by_cases hlt : j < l.length
    · have HLT := hid hlt
      have hjn : j < N.length := by rw [HNL.out]; exact hlt
      have hin : i < N.length := by have := HIJ.out; omega
      obtain ⟨g', eg, -, p1, p2, -⟩ := OwnW.cells HO.out hjn
      simp only [Option.some.injEq, Addr.mk.injEq, and_true] at eg
      subst eg
      obtain ⟨g', eg, -, q1, q2, -⟩ := OwnW.cells HO.out hin
      simp only [Option.some.injEq, Addr.mk.injEq, and_true] at eg
      subst eg
      have hnj : N[j] = l[j] := by
        have e1 : (N.drop j)[0]? = (l.drop j)[0]? := by rw [HD.out]
        rw [List.getElem?_drop, List.getElem?_drop, Nat.add_zero, List.getElem?_eq_getElem hjn, List.getElem?_eq_getElem hlt] at e1
        exact Option.some.inj e1
      have hks := kept_succ hlt
      have HJN := hid hjn; have HIN := hid hin
      have HX : Hid (N[j]'HJN.out = l[j]'HLT.out) := hid hnj
      have HKS := hid hks
      generalize hx : N[j] = x at p1 p2
      generalize hy : N[i] = y at q1 q2
      clear hy
      have HXX : Hid (l[j]'HLT.out = x) := hid (HX.out.symm.trans hx)
      clear hx hnj hks HX hjn hin
      obtain ⟨x1, x2⟩ := x
      simp only at p1 p2
      have hw5 : wrap64 ((i : Int) + 1) = ((i + 1 : Nat) : Int) := by have := HIN.out; have := HNL.out; have := HLL.out; unfold wrap64; omega
      have hw6 : wrap64 ((j : Int) + 1) = ((j + 1 : Nat) : Int) := by have := HLT.out; have := HLL.out; unfold wrap64; omega
      have HW5 := hid hw5; have HW6 := hid hw6
      clear hw5 hw6
      go_upto_region 8 with (fail)
      obtain ⟨T, hT⟩ : ∃ T, T = wx.heap.size := ⟨_, rfl⟩
      obtain ⟨w2, hw2⟩ : ∃ w2, w2 = wx.alloc (.cells #[.int .i64 x1, .int .i64 x2] 24 (0, 0)) := ⟨_, rfl⟩
      have hT2 : w2.heap[T]? = some (.cells #[.int .i64 x1, .int .i64 x2] 24 (0, 0)) := by rw [hw2, hT]; exact obj_new _ _
      have hA2 : Later wx w2 := by rw [hw2]; exact Later.alloc _ _
      have HGT : Hid (g ≠ T) := hid (by rintro rfl; have := (ownb HO.out g rfl).2; omega)
      rw [← hw2, ← hT]
      have HK2 := hid (HK.out.more hA2)
      have HO2 := hid (owns_at HO.out hA2)
      have HT2 := hid hT2
      replace q1 := hA2.cell q1
      replace q2 := hA2.cell q2
      clear hw2 hT hA2 hT2 HK HO p1 p2
      have t0 := cell_obj (i := 0) HT2.out (v := .int .i64 x1) rfl
      have t1 := cell_obj (i := 1) HT2.out (v := .int .i64 x2) rfl
      go_wp2_with fail
      refine (del_any (x1, x2) _).mono ?_
      rintro e w3 ⟨rfl, hL3⟩
      have HK3 := hid (HK2.out.more hL3)
      have HO3 := hid (owns_at HO2.out hL3)
      replace q1 := hL3.cell q1
      replace q2 := hL3.cell q2
      replace t0 := hL3.cell t0
      replace t1 := hL3.cell t1
      clear hL3 HK2 HO2 HT2
      cases hb : keepW (x1, x2) with
      | true =>
        have HB2 : Hid (kept l (j + 1) = kept l j ++ [(x1, x2)]) := hid (by rw [HKS.out, HXX.out, hb]; rfl)
        clear hb
        have hil : i < l.length := by have := HIJ.out; omega
        have z1 := OwnW.free HO3.out (i * 2)
        have z2 := OwnW.free HO3.out (i * 2 + 1)
        go_upto_region 10 with (fail)
        obtain ⟨w4, hw4⟩ : ∃ w4, w4 = (w3.setCell ⟨g, i * 2, none⟩ (.int .i64 x1)).setCell ⟨g, i * 2 + 1, none⟩ (.int .i64 x2) := ⟨_, rfl⟩
        rw [← hw4]
        have HO4 : Hid (OwnW B w4 (.slice (some ⟨g, 0, none⟩) l.length c) (N.set i (x1, x2))) := hid (by rw [hw4]; exact OwnW.set HO3.out HNL.out.symm HIN.out (x1, x2))
        have HK4 : Hid (Keeps (fun b => b < B) w w4) := hid (by rw [hw4]; exact (HK3.out.setCell (p := ⟨g, i * 2, none⟩) (.inl (by have := HGB.out; simp only; omega)) _).setCell (p := ⟨g, i * 2 + 1, none⟩) (.inl (by have := HGB.out; simp only; omega)) _)
        clear hw4 q1 q2 t0 t1 z1 z2 HO3 HK3
        go_wp2_with fail
        try simp only [HW5.out, HW6.out]
        refine Round.mk' HR1.out Hmu1.out rfl ?_ ?_
        · refine ⟨i + 1, j + 1, N.set i (x1, x2), rfl, rfl, by have := HIJ.out; omega, HLT.out, by rw [List.length_set]; exact HNL.out, HO4.out, ?_, ?_, HK4.out⟩
          · rw [take_set_next HIN.out, HT.out, HB2.out]
          · rw [List.drop_set_of_lt (by have := HIJ.out; omega), ← List.drop_drop, ← List.drop_drop, HD.out]
        · rw [Hh6.out]; have := HLT.out; simp [intOf, slots]; omega
      | false =>
        have HB2 : Hid (kept l (j + 1) = kept l j) := hid (by rw [HKS.out, HXX.out, hb]; rfl)
        clear hb q1 q2 t0 t1
        go_wp2_with fail
        try simp only [HW6.out]
        refine Round.mk' HR1.out Hmu1.out rfl ?_ ?_
        · refine ⟨i, j + 1, N, rfl, rfl, by have := HIJ.out; omega, HLT.out, HNL.out, HO3.out, by rw [HB2.out]; exact HT.out, ?_, HK3.out⟩
          rw [← List.drop_drop, ← List.drop_drop, HD.out]
        · rw [Hh6.out]; have := HLT.out; simp [intOf, slots]; omega
    · have hje : j = l.length := by have := HJL.out; omega
      have HF : Hid (l.filter keepW = N.take i) := hid (by rw [HT.out, hje, kept_all])
      have HFL : Hid ((l.filter keepW).length = i) := hid (by rw [HF.out, List.length_take, HNL.out]; have := HIJ.out; omega)
      have hic : i ≤ l.length := by have := HIJ.out; omega
      have hic2 : i ≤ c := by have := HC.out; omega
      have hic3 : ¬ c - i = 0 := by have := HC.out; have := HIJ.out; omega
      have hic4 : ¬ c ≤ i := by have := HC.out; have := HIJ.out; omega
      have hclr := run_clear_win (w := wx) 22 0 24 Try.underlying22 Try.zeroValue24 g (i * 2) (l.length - i) (c - i) (by have := HIJ.out; omega)
        (fun q hq => by
          have hlt : i * 2 + q < (winCells N).length := by rw [winCells_length, HNL.out]; omega
          rw [OwnW.news HO.out (i * 2 + q) _ (List.getElem?_eq_getElem hlt)]
          rfl)
        (fun q _ => OwnW.free HO.out _)
      go_upto_region 12 with (fail)
      obtain ⟨vs, hvs⟩ : ∃ vs, vs = (Builtin.zeroCells #[.int .i64 0, .int .i64 0] (l.length - i)).toList := ⟨_, rfl⟩
      obtain ⟨w5, hw5⟩ : ∃ w5, w5 = wx.setCells g (i * 2) vs := ⟨_, rfl⟩
      rw [← hvs, ← hw5]
      have HO5 : Hid (OwnW B w5 (.slice (some ⟨g, 0, none⟩) (l.filter keepW).length c) (l.filter keepW)) := hid (by
        have h := OwnW.cut HO.out (i := i) (by rw [HNL.out]; exact hic)
        rw [← HF.out] at h
        have h2 : wx.ownsRow B 24 2 (.slice (some ⟨g, 0, none⟩) (l.filter keepW).length c) (l.filter keepW).length (winCells (l.filter keepW)) := by
          have h' : wx.ownsRow B 24 2 (.slice (some ⟨g, 0, none⟩) i c) (l.filter keepW).length (winCells (l.filter keepW)) := h
          rw [HFL.out] at h' ⊢; exact h'
        rw [hw5]
        exact own_cells vs (i * 2) wx (by rw [HFL.out]; omega) h2)
      have HK5 : Hid (Keeps (fun b => b < B) w w5) := hid (by
        rw [hw5]
        exact HK.out.trans ((keep_cells vs (i * 2) wx).mono fun k _ hk e => by have := HGB.out; change k < B at hk; omega))
      clear hw5 hvs hclr HO HK
      go_wp2_with fail
      go_ret
      refine ⟨?_, HO5.out, HK5.out⟩
      rw [HFL.out]
      rfl
end Go.Proofs.Ythfgjmdmcoogpaa
