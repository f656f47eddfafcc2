/-
  PROVED HERE: prepared transactions in memory; the contracts of slices.BinarySearchFunc at them and of table's find.
-/
import Derived.Test.YtcmpjdnbjhkhdaaDoorTabTx
import Derived.Test.YtcmpjdnbjhkhdaaDoorSortRows
import Derived.Test.YtcmpjdnbjhkhdaaDoorOwnLaws
import Derived.Test.YtcmpjdnbjhkhdaaDoorFrame
namespace Go.Proofs.YtcmpjdnbjhkhdaaDoor
set_option linter.unusedSimpArgs false
set_option linter.unusedVariables false
open Go.RowKit

/-- a prepared transaction: its name, the slice of its rows, the rows with their slices. -/
structure PD where
  tx : TxD
  rv : Value
  xs : List RX
def PD.cells (p : PD) : List Value := [.int .i64 p.tx.mark, .string (strB p.tx.sink), .int .i64 p.tx.task, p.rv]
def PdAt (w : World) (b o : Nat) (p : PD) : Prop := w.cell? ⟨b, o, none⟩ = some (.int .i64 p.tx.mark) ∧ w.cell? ⟨b, o + 1, none⟩ = some (.string (strB p.tx.sink)) ∧ w.cell? ⟨b, o + 2, none⟩ = some (.int .i64 p.tx.task) ∧ w.cell? ⟨b, o + 3, none⟩ = some p.rv
theorem PdAt.later {w w' : World} {b o : Nat} {x : PD} (h : PdAt w b o x) (k : Later w w') : PdAt w' b o x := ⟨k.cell h.1, k.cell h.2.1, k.cell h.2.2.1, k.cell h.2.2.2⟩
abbrev IsPs (w : World) (v : Value) (l : List PD) : Prop := SliceOf All PdAt 4 w v l
def SlP (l : List PD) : Prop := ∀ p ∈ l, ∃ a n c, p.rv = .slice a n c
abbrev RiseP (l : List PD) : Prop := RiseC compareT PD.tx l
abbrev placeP (l : List PD) (x : TxD) : Nat := placeC compareT PD.tx l x
abbrev hasP (l : List PD) (x : TxD) : Bool := hasC compareT PD.tx l x
def TCmpTo (w : World) (n : Int) (e : Ending) (w' : World) : Prop := e = .returned (.int .i64 n) ∧ Later w w'
theorem pd_eq {l : List PD} {i j : Nat} (h : i = j) (hi : i < l.length) (hj : j < l.length) : l[i] = l[j] := by subst h; rfl
theorem find1_any (k : Int) (s : List UInt8) (t : Int) (a : Option Addr) (n c : Nat) (x : TxD) (w : World) :
    Calls Tryd.prog 97 #[.agg #[.int .i64 k, .string (strB s), .int .i64 t, .slice a n c], x.v] w (TCmpTo w (compareT ⟨k, s, t⟩ x)) := by
  have HX := hid (rfl : x = x)
  obtain ⟨k2, s2, t2⟩ := x
  go_enter Tryd.func97, Tryd.ntmps97
  go_wp2_with fail
  refine (compare_tx ⟨k, s, t⟩ ⟨k2, s2, t2⟩ _).mono ?_
  rintro e w1 ⟨rfl, hL⟩
  have HL := hid hL
  clear hL
  go_wp2_with fail
  go_ret
  exact ⟨rfl, Later.trans _ _ _ ((Later.alloc _ _).alloc' _) HL.out⟩
def FindPTo (w : World) (l : List PD) (x : TxD) (e : Ending) (w' : World) : Prop := e = .returned (.tuple #[.int .i64 (placeP l x), .bool (hasP l x)]) ∧ Later w w'
set_option maxRecDepth 100000 in
set_option maxHeartbeats 2000000 in
theorem search_any (l : List PD) (x : TxD) (v : Value) (w : World) (hv : IsPs w v l) (hs : RiseP l) (hsl : SlP l) (hl : l.length ≤ 4398046511104) :
    Calls Tryd.prog 96 #[v, x.v, .func (.func 97) #[] #[]] w (FindPTo w l x) := by
  obtain ⟨p, c, rfl, hlc, hcm, -, he⟩ := hv
  have HE := hid he; have HS := hid hs; have HLL := hid hl; have HSL := hid hsl
  have HPL : Hid (placeP l x ≤ l.length) := hid (placeC_le (c := compareT) (key := PD.tx) l x)
  have HHAS : Hid (hasP l x = (if h : placeP l x < l.length then decide (compareT (l[placeP l x]'h).tx x = 0) else false)) := hid (placeC_has compareT_total hs x)
  obtain ⟨pp, hpp⟩ : ∃ pp, pp = placeP l x := ⟨_, rfl⟩
  have HPP := hid hpp
  rw [← hpp] at HPL
  have HLT' : Hid (∀ h (hh : h < l.length), compareT l[h].tx x < 0 ↔ h < pp) := hid (fun h hh => by rw [hpp]; exact placeC_lt compareT_total hs x hh)
  clear he hs hl hlc hcm hpp hsl
  have HX := hid (rfl : x = x)
  obtain ⟨xk, xn, xt⟩ := x
  go_enter Tryd.func96, Tryd.ntmps96
  go_upto_region 1 with (fail)
  obtain ⟨w1, hw1⟩ : ∃ w1, w1 = w.alloc (.cells #[.int .i64 xk, .string (strB xn), .int .i64 xt] 72 (0, 0)) := ⟨_, rfl⟩
  obtain ⟨T, hT⟩ : ∃ T, T = w.heap.size := ⟨_, rfl⟩
  have HL1 : Hid (Later w w1) := hid (by rw [hw1]; exact Later.alloc _ _)
  have HT1 : Hid (w1.heap[T]? = some (.cells #[.int .i64 xk, .string (strB xn), .int .i64 xt] 72 (0, 0))) := hid (by rw [hw1, hT]; exact obj_new _ _)
  rw [← hw1, ← hT]
  clear hw1 hT
  go_wp2_with fail
  obtain ⟨R1, hR1⟩ : ∃ RR_ : (Nat → Value) → World → Prop, RR_ = (fun us wx => ∃ i j : Nat, us 9 = .int .i64 i ∧ us 10 = .int .i64 j ∧ i ≤ pp ∧ pp ≤ j ∧ j ≤ l.length ∧ Later w1 wx) := ⟨_, rfl⟩
  obtain ⟨mu1, hmu1⟩ : ∃ mu : (Nat → Value) → World → Nat, mu = (fun us _ => (intOf (us 10)).toNat - (intOf (us 9)).toNat) := ⟨_, rfl⟩
  have HR1 := hid hR1; have Hmu1 := hid hmu1; clear hR1 hmu1
  refine wp_loop_frame' [false, false, false, false, false, false, false, false, false, true, true, true, false, false, false, true, true, true, true, true, true, true, true, true, true, true, true, true, true, true, true, true, true, true, true] R1 _ mu1 HR1.out ?_ ?_
  · exact ⟨0, l.length, rfl, rfl, Nat.zero_le _, HPL.out, Nat.le_refl _, Later.refl _⟩
  intro us1 wx hrel
  obtain ⟨i, j, h9, h10, hi, hj, hjl, hL⟩ := hrel
  simp only [frameOf, Nat.reduceAdd, h9, h10]
  have Hh9 := hid h9; clear h9
  have Hh10 := hid h10; clear h10
  have HI := hid hi; have HJ := hid hj; have HJL := hid hjl; have HLX := hid hL
  clear hi hj hjl hL
  by_cases hij : i < j
  · have HIJ := hid hij
    have hnn : (0 : Int) ≤ (i : Int) + j := by omega
    have hs1 : wrap64 ((i : Int) + j) = (i : Int) + j := by have := HJL.out; have := HLL.out; unfold wrap64; omega
    have hs2 : IntKind.wrap .u64 ((i : Int) + j) = (i : Int) + j := by have := HJL.out; have := HLL.out; rw [IntKind.wrap_u64]; omega
    obtain ⟨h, hh⟩ : ∃ h, h = (i + j) / 2 := ⟨_, rfl⟩
    have hs3 : ((i : Int) + j) / 2 = (h : Int) := by rw [hh]; omega
    have hs4 : wrap64 (h : Int) = h := by have := HJL.out; have := HLL.out; unfold wrap64; omega
    have hhl : h < l.length := by have := HJL.out; omega
    have hih : i ≤ h := by omega
    have hhj : h < j := by omega
    have HIH := hid hih; have HHJ := hid hhj
    have HHL := hid hhl
    clear hh hih hhj
    go_upto_region 5 with (fail)
    simp only [hs1, hs2, hs3, hs4]
    clear hs1 hs2 hs3 hs4 hnn
    have HK := hid (HLT'.out h hhl)
    obtain ⟨ra, rn, rc, hrv⟩ := HSL.out _ (List.getElem_mem hhl)
    obtain ⟨b1, o1, rfl, -, e1⟩ := HE.out h hhl
    obtain ⟨p1, p2, p3, p4⟩ := e1.later (Later.trans _ _ _ HL1.out HLX.out)
    clear e1
    have hl1 : b1 < wx.heap.size := cell_lt p1
    have hT2 := HLX.out.obj HT1.out
    have t1 := cell_obj (i := 0) hT2 rfl
    have t2 := cell_obj (i := 1) hT2 rfl
    have t3 := cell_obj (i := 2) hT2 rfl
    have hl2 : T < wx.heap.size := cell_lt t1
    clear hT2
    generalize hy : l[h] = y at *
    clear hy
    obtain ⟨⟨yk, yn, yt⟩, yv, yx⟩ := y
    simp only at hrv p1 p2 p3 p4
    subst hrv
    refine wp_region_lex (by kernel_rfl) (by kernel_rfl) Later Later.refl Later.trans (kinds [(6, fun v _ => v = .int .i64 (compareT ⟨yk, yn, yt⟩ ⟨xk, xn, xt⟩))]) (kinds_still (by simp +contextual)) ?_
    simp only [numbered, Nat.reduceAdd]
    refine LexS.out ?_
    iterate 6
      first
      | (refine LexS.skip rfl ?_; simp only [Act.put, List.setIfInBounds_toArray, List.set])
      | (refine LexS.one' rfl rfl ?_
         apply Exists.intro
         refine ⟨fun w hR hF => ?_, ?_⟩
         · have hP := hR
           repeat (first | replace hP := Later.of_drew hP | replace hP := Later.of_drewN hP | replace hP := Later.of_alloc hP)
           have hcs := hR.cells
           have zp1 := hP.cell p1
           have zp2 := hP.cell p2
           have zp3 := hP.cell p3
           have zp4 := hP.cell p4
           have zt1 := hP.cell t1
           have zt2 := hP.cell t2
           have zt3 := hP.cell t3
           clear hR hF hP
           go_simp
           first | done | rfl
         simp only [Act.put, List.setIfInBounds_toArray, List.set])
    refine LexS.anyEq rfl rfl (fun w hR hF => ?_) ?_
    · have hP := hR
      repeat (first | replace hP := Later.of_drew hP | replace hP := Later.of_drewN hP | replace hP := Later.of_alloc hP)
      have hcs := hR.cells
      clear hF hR
      unfold Runs
      go_simp
      unfold Yield
      refine (find1_any yk yn yt ra rn rc ⟨xk, xn, xt⟩ _).mono ?_
      rintro e w' ⟨rfl, hL⟩
      exact ⟨_, rfl, hL, rfl⟩
    simp only [Act.put, List.setIfInBounds_toArray, List.set]
    iterate 1
      first
      | (refine LexS.skip rfl ?_; simp only [Act.put, List.setIfInBounds_toArray, List.set])
      | (refine LexS.one' rfl rfl ?_
         apply Exists.intro
         refine ⟨fun w hR hF => ?_, ?_⟩
         · have hP := hR
           repeat (first | replace hP := Later.of_drew hP | replace hP := Later.of_drewN hP | replace hP := Later.of_alloc hP)
           have hcs := hR.cells
           clear hR hF hP
           go_simp
           first | done | rfl
         simp only [Act.put, List.setIfInBounds_toArray, List.set])
    refine LexS.nil ?_
    intro w2 hR2 hF9
    clear hF9
    repeat (first | replace hR2 := Later.of_drew hR2 | replace hR2 := Later.of_drewN hR2 | replace hR2 := Later.of_alloc hR2)
    have HR2 := hid hR2
    clear hR2 p1 p2 p3 p4 t1 t2 t3 hl1 hl2
    by_cases hc : compareT ⟨yk, yn, yt⟩ ⟨xk, xn, xt⟩ < 0
    · have HP := hid (HK.out.1 hc)
      go_wp2_with fail
      have hw : wrap64 ((h : Int) + 1) = ((h + 1 : Nat) : Int) := by have := HHL.out; have := HLL.out; unfold wrap64; omega
      rw [hw]
      refine Round.mk' HR1.out Hmu1.out rfl ?_ ?_
      · exact ⟨h + 1, j, rfl, rfl, HP.out, HJ.out, HJL.out, Later.trans _ _ _ HLX.out HR2.out⟩
      · have a := HIH.out
        have b := HHJ.out
        simp only [slots, List.getD_cons_succ, List.getD_cons_zero, Hh9.out, Hh10.out, intOf, Int.toNat_natCast]
        omega
    · have HP := hid (Nat.le_of_not_lt (fun e => hc (HK.out.2 e)))
      go_wp2_with fail
      refine Round.mk' HR1.out Hmu1.out rfl ?_ ?_
      · exact ⟨i, h, rfl, rfl, HI.out, HP.out, Nat.le_of_lt HHL.out, Later.trans _ _ _ HLX.out HR2.out⟩
      · have a := HIH.out
        have b := HHJ.out
        simp only [slots, List.getD_cons_succ, List.getD_cons_zero, Hh9.out, Hh10.out, intOf, Int.toNat_natCast]
        omega
  · have hie : i = pp := by have := HI.out; have := HJ.out; omega
    subst hie
    have hji : j = i := by have := HPP; have := HJ.out; omega
    have HIJ : Hid (j ≤ i) := hid (by omega)
    by_cases hil : i < l.length
    · have HIL := hid hil
      go_upto_region 8 with (fail)
      obtain ⟨b1, o1, rfl, -, e1⟩ := HE.out i hil
      obtain ⟨p1, p2, p3, p4⟩ := e1.later (Later.trans _ _ _ HL1.out HLX.out)
      clear e1
      have hl1 : b1 < wx.heap.size := cell_lt p1
      have hT2 := HLX.out.obj HT1.out
      have t1 := cell_obj (i := 0) hT2 rfl
      have t2 := cell_obj (i := 1) hT2 rfl
      have t3 := cell_obj (i := 2) hT2 rfl
      have hl2 : T < wx.heap.size := cell_lt t1
      clear hT2
      obtain ⟨ra, rn, rc, hrv⟩ := HSL.out _ (List.getElem_mem hil)
      have HK : Hid (hasP l ⟨xk, xn, xt⟩ = decide (compareT l[i].tx ⟨xk, xn, xt⟩ = 0)) := hid (by
        rw [HHAS.out, dif_pos (by rw [← HPP.out]; exact hil)]
        rw [pd_eq HPP.out.symm _ hil]
        rfl)
      generalize hy : l[i] = y at *
      clear hy
      obtain ⟨⟨yk, yn, yt⟩, yv, yx⟩ := y
      simp only at hrv p1 p2 p3 p4
      subst hrv
      refine wp_region_lex (by kernel_rfl) (by kernel_rfl) Later Later.refl Later.trans (kinds [(11, fun v _ => v = .int .i64 (compareT ⟨yk, yn, yt⟩ ⟨xk, xn, xt⟩))]) (kinds_still (by simp +contextual)) ?_
      simp only [numbered, Nat.reduceAdd]
      refine LexS.out ?_
      iterate 11
        first
        | (refine LexS.skip rfl ?_; simp only [Act.put, List.setIfInBounds_toArray, List.set])
        | (refine LexS.one' rfl rfl ?_
           apply Exists.intro
           refine ⟨fun w hR hF => ?_, ?_⟩
           · have hP := hR
             repeat (first | replace hP := Later.of_drew hP | replace hP := Later.of_drewN hP | replace hP := Later.of_alloc hP)
             have hcs := hR.cells
             have zp1 := hP.cell p1
             have zp2 := hP.cell p2
             have zp3 := hP.cell p3
             have zp4 := hP.cell p4
             have zt1 := hP.cell t1
             have zt2 := hP.cell t2
             have zt3 := hP.cell t3
             clear hR hF hP
             go_simp
             first | done | rfl
           simp only [Act.put, List.setIfInBounds_toArray, List.set])
      refine LexS.anyEq rfl rfl (fun w hR hF => ?_) ?_
      · have hP := hR
        repeat (first | replace hP := Later.of_drew hP | replace hP := Later.of_drewN hP | replace hP := Later.of_alloc hP)
        have hcs := hR.cells
        clear hF hR
        unfold Runs
        go_simp
        unfold Yield
        refine (find1_any yk yn yt ra rn rc ⟨xk, xn, xt⟩ _).mono ?_
        rintro e w' ⟨rfl, hL⟩
        exact ⟨_, rfl, hL, rfl⟩
      simp only [Act.put, List.setIfInBounds_toArray, List.set]
      iterate 4
        first
        | (refine LexS.skip rfl ?_; simp only [Act.put, List.setIfInBounds_toArray, List.set])
        | (refine LexS.one' rfl rfl ?_
           apply Exists.intro
           refine ⟨fun w hR hF => ?_, ?_⟩
           · have hP := hR
             repeat (first | replace hP := Later.of_drew hP | replace hP := Later.of_drewN hP | replace hP := Later.of_alloc hP)
             have hcs := hR.cells
             clear hR hF hP
             go_simp
             first | done | rfl
           simp only [Act.put, List.setIfInBounds_toArray, List.set])
      refine LexS.nil ?_
      intro w2 hR2 hF9
      clear hF9
      repeat (first | replace hR2 := Later.of_drew hR2 | replace hR2 := Later.of_drewN hR2 | replace hR2 := Later.of_alloc hR2)
      have HR2 := hid hR2
      clear hR2 p1 p2 p3 p4 t1 t2 t3 hl1 hl2
      go_wp2_with fail
      refine bodyPost_ret (v := .tuple #[.int .i64 i, .bool _]) (by simp [results, Tryd.results96, go_sem] <;> rfl) rfl ⟨?_, Later.trans _ _ _ HL1.out (Later.trans _ _ _ HLX.out HR2.out)⟩
      rw [← HPP.out, HK.out]
      rfl
    · have HK : Hid (hasP l ⟨xk, xn, xt⟩ = false) := hid (by
        rw [HHAS.out, dif_neg (by rw [← HPP.out]; exact hil)])
      go_upto_region 8 with (fail)
      refine wp_region_lex (by kernel_rfl) (by kernel_rfl) Later Later.refl Later.trans (fun _ => none) (fun _ _ _ _ _ h => by cases h) ?_
      simp only [numbered, Nat.reduceAdd]
      refine LexS.out ?_
      iterate 16
        first
        | (refine LexS.skip rfl ?_; simp only [Act.put, List.setIfInBounds_toArray, List.set])
        | (refine LexS.one' rfl rfl ?_
           apply Exists.intro
           refine ⟨fun w hR hF => ?_, ?_⟩
           · have hP := hR
             repeat (first | replace hP := Later.of_drew hP | replace hP := Later.of_drewN hP | replace hP := Later.of_alloc hP)
             have hcs := hR.cells
             clear hR hF hP
             go_simp
             first | done | rfl
           simp only [Act.put, List.setIfInBounds_toArray, List.set])
      refine LexS.nil ?_
      intro w2 hR2 hF9
      clear hF9
      repeat (first | replace hR2 := Later.of_drew hR2 | replace hR2 := Later.of_drewN hR2 | replace hR2 := Later.of_alloc hR2)
      have HR2 := hid hR2
      clear hR2
      go_wp2_with fail
      refine bodyPost_ret (v := .tuple #[.int .i64 i, .bool _]) (by simp [results, Tryd.results96, go_sem] <;> rfl) rfl ⟨?_, Later.trans _ _ _ HL1.out (Later.trans _ _ _ HLX.out HR2.out)⟩
      rw [← HPP.out, HK.out]
end Go.Proofs.YtcmpjdnbjhkhdaaDoor
