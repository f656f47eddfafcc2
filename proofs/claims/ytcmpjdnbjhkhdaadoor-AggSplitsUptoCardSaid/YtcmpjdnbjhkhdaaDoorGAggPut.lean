/-
  PROVED HERE: the contracts of Put (onto nothing) of what counts, adds up, chooses.
  PROVED HERE: the contract of Put (onto nothing) of what counts the different values.
  PROVED HERE: the contracts of read of what counts, adds up, chooses: from what Put wrote.
  PROVED HERE: the contract of read of what counts the different values.
  PROVED HERE: the contracts of Join of what chooses, of what counts the different values.
  PROVED HERE: the contracts of Join of what counts, adds up.
  PROVED HERE: Put, read, Join, Add and Value of what takes values together, at the interface's type; the contract of agg.Read.
  PROVED HERE: the contract of agg.Read.
  PROVED HERE: the contract of slices.Clone at values with their times.
  PROVED HERE: the contract of agg.Split.
-/
import Derived.Test.YtcmpjdnbjhkhdaaDoorAggCh
import Derived.Test.YtcmpjdnbjhkhdaaDoorGPutLaws
import Derived.Test.YtcmpjdnbjhkhdaaDoorOwnLaws
import Derived.Test.YtcmpjdnbjhkhdaaDoorAggSet
import Derived.Test.YtcmpjdnbjhkhdaaDoorGReader
import Derived.Test.YtcmpjdnbjhkhdaaDoorAggAcc
import Derived.Test.YtcmpjdnbjhkhdaaDoorFrame
import Derived.Test.YtcmpjdnbjhkhdaaDoorAggFold
import Derived.Test.YtcmpjdnbjhkhdaaDoorGAggPerm
import Derived.Test.YtcmpjdnbjhkhdaaDoorAggTimed
import Derived.Test.YtcmpjdnbjhkhdaaDoorClone
import Derived.WalkSpells
import Derived.Deep.RegionLaw
import Derived.Test.YtcmpjdnbjhkhdaaDoorAggLaw
namespace Go.Proofs.YtcmpjdnbjhkhdaaDoor
set_option linter.unusedSimpArgs false
set_option linter.unusedVariables false
open Go.RowKit

/-- bytes of one's own, from the block 'B' on. -/
def OwnB (B : Nat) (l : List UInt8) (v : Value) (w : World) : Prop := w.ownsRow B 5 1 v l.length (byteCells l)
/-- what a Put onto nothing comes to. -/
def Put0 (w : World) (B : Nat) (l : List UInt8) (e : Ending) (w' : World) : Prop := ∃ v, e = .returned v ∧ OwnB B l v w' ∧ Later w w'
theorem own_nil (w : World) (B : Nat) : w.ownsRow B 5 1 (.slice none 0 0) ([] : List UInt8).length (byteCells []) := ⟨rfl, .inl ⟨rfl, rfl⟩⟩
theorem put0_of {w w' : World} {B : Nat} {l : List UInt8} {v : Value} (h : Put 5 w B (.slice none 0 0) l v w') : Later w w' := (h.keep.mono (S' := fun _ => True) fun _ _ _ => by simp [Value.ownBlock]).later
/-- .. onto what a call has made itself. -/
theorem put_on {w0 w w' : World} {B : Nat} {l : List UInt8} {v v' : Value} (hL : Later w0 w) (hB : w0.heap.size ≤ B) {l0 : List UInt8} (ho : OwnB B l0 v w) (h : Put 5 w B v l v' w') : Later w0 w' :=
  later_keep hL (h.keep.mono fun b _ hb e => by have := (ownb ho b e.symm).1; omega) hB
theorem cnt_put (A : Nat) (n : Int) (cs : List Value) (T : TypeId) (B : Nat) (w : World) (h : w.heap[A]? = some (.cells (.int .i64 n :: cs).toArray T (0, 0))) (hn : (Lit.int .i64 n).wf = true) (hB : B ≤ w.heap.size) :
    Calls Tryd.prog 210 #[.pointer (some ⟨A, 0, none⟩), .slice none 0 0] w (Put0 w B (encInt n)) := by
  have c0 := cell_obj (i := 0) h (v := .int .i64 n) rfl
  have hlt := (Array.getElem?_eq_some_iff.1 h).1
  have HN := hid hn; have HB := hid hB
  clear h hn hB
  go_enter Tryd.func210, Tryd.ntmps210
  go_wp2_with fail
  refine (put_int B (.slice none 0 0) [] n w HN.out (own_nil w B) HB.out (by simp)).mono ?_
  rintro e w1 ⟨v, rfl, hp⟩
  have HP := hid hp
  clear hp
  go_wp2_with fail
  go_ret
  exact ⟨v, rfl, HP.out.own, put0_of HP.out⟩
set_option maxRecDepth 100000 in
theorem sum_put (A : Nat) (s : Int × Int) (B : Nat) (w : World) (h : SumAt w A s) (hn : (Lit.int .i64 s.1).wf = true) (hm : (Lit.int .i64 s.2).wf = true) (hB : B = w.heap.size) :
    Calls Tryd.prog 216 #[.pointer (some ⟨A, 0, none⟩), .slice none 0 0] w (Put0 w B (encInt s.1 ++ encInt s.2)) := by
  obtain ⟨s1, s2⟩ := s
  have HC := hid h
  have c1 := cell_obj (i := 1) h (v := .int .i64 s2) rfl
  have hlt := (Array.getElem?_eq_some_iff.1 h).1
  have HN := hid hn; have HM := hid hm; have HB := hid hB
  clear h hn hm hB
  go_enter Tryd.func216, Tryd.ntmps216
  go_upto_region 1 with (fail)
  refine wp_region_plan (by kernel_rfl) (by kernel_rfl) [] [9, 10] (by kernel_rfl) (fun _ _ d _ _ h => by cases d <;> exact h) (Later) (Later.refl) (Later.trans) (kinds [(4, fun v w => OwnB B (encInt s1) v w)]) (kinds_still (by simp only [List.mem_cons, List.not_mem_nil, or_false, forall_eq_or_imp, forall_eq]; exact fun _ _ _ hR h => owns_at h hR)) ?_
  simp only [body, tail, numbered, Nat.reduceAdd, List.filter_cons, List.filter_nil, List.contains_cons, List.contains_nil, Nat.reduceBEq, Bool.or_false, Bool.or_true, Bool.false_or, Bool.true_or, Bool.not_true, Bool.not_false, Bool.and_true, Bool.and_false, Bool.true_and, Bool.false_and, if_true, if_false, reduceIte, Bool.false_eq_true, List.map_cons, List.map_nil]
  simp only [Pures]
  refine LexS.out ?_
  iterate 4
    first
    | (refine LexS.skip rfl ?_; simp only [Act.put, List.setIfInBounds_toArray, List.set])
    | (refine LexS.one' rfl rfl ?_
       apply Exists.intro
       refine ⟨fun w hR hF => ?_, ?_⟩
       · have hP := hR
         repeat (first | replace hP := Later.of_drew hP | replace hP := Later.of_drewN hP | replace hP := Later.of_alloc hP)
         have hcs := hR.cells
         have zc1 := hP.cell c1
         clear hR hF hP
         go_simp
         first | done | rfl
       simp only [Act.put, List.setIfInBounds_toArray, List.set])
  refine LexS.any rfl rfl (fun w1 hR hF => ?_) ?_
  · have hP := hR
    repeat (first | replace hP := Later.of_drew hP | replace hP := Later.of_drewN hP | replace hP := Later.of_alloc hP)
    clear hF hR
    unfold Runs
    go_simp
    refine yield_enter ?_
    refine (cnt_put A s1 [.int .i64 s2] _ B _ (hP.obj HC.out) HN.out (by rw [HB.out]; exact hP.size)).mono ?_
    rintro e w2 ⟨v, rfl, ho, hL⟩
    exact ⟨_, rfl, hL, ho⟩
  rintro v9 ⟨w2, hR2, hF2⟩
  have ho9 := hF2 _ List.mem_cons_self _ rfl
  obtain ⟨a9, d9, rfl⟩ := ownsRow_slice ho9
  clear ho9 hF2 hR2 w2
  simp only [Act.put, List.setIfInBounds_toArray, List.set]
  iterate 4
    first
    | (refine LexS.skip rfl ?_; simp only [Act.put, List.setIfInBounds_toArray, List.set])
    | (refine LexS.one' rfl rfl ?_
       apply Exists.intro
       refine ⟨fun w hR hF => ?_, ?_⟩
       · have hP := hR
         repeat (first | replace hP := Later.of_drew hP | replace hP := Later.of_drewN hP | replace hP := Later.of_alloc hP)
         have hcs := hR.cells
         have zc1 := hP.cell c1
         clear hR hF hP
         go_simp
         first | done | rfl
       simp only [Act.put, List.setIfInBounds_toArray, List.set])
  refine LexS.nil ?_
  intro w3 hR3 hF3
  have HO3 : Hid (OwnB B (encInt s1) (.slice a9 (encInt s1).length d9) w3) := hid (hF3 _ List.mem_cons_self _ rfl)
  repeat (first | replace hR3 := Later.of_drew hR3 | replace hR3 := Later.of_drewN hR3 | replace hR3 := Later.of_alloc hR3)
  have HL3 := hid hR3
  clear hF3 hR3 c1
  change wpList _ _ _ _ _ _
  go_wp2_with fail
  refine (put_int B _ (encInt s1) s2 w3 HM.out HO3.out (by rw [HB.out]; exact HL3.out.size) (by have := encInt_length s1; omega)).mono ?_
  rintro e w4 ⟨v, rfl, hp⟩
  have HP := hid hp
  clear hp
  go_wp2_with fail
  go_ret
  exact ⟨v, rfl, HP.out.own, put_on HL3.out (Nat.le_of_eq HB.out.symm) HO3.out HP.out⟩
set_option maxRecDepth 100000 in
theorem ch_put (fo : Nat) (sg : Int) (A Bo Bs : Nat) (x : TV) (B : Nat) (w : World) (h : ChAt fo sg w A Bo Bs x) (hn : (Lit.int .i64 x.time).wf = true) (hv : ValOk x.val) (hsz : (encVal x.val).length ≤ 70368744100000) (hB : B = w.heap.size) :
    Calls Tryd.prog 245 #[.pointer (some ⟨A, 0, none⟩), .slice none 0 0] w (Put0 w B (encInt x.time ++ encVal x.val)) := by
  obtain ⟨x1, ⟨xk, xn, xt⟩⟩ := x
  have c1 := cell_obj (i := 1) h.obj (v := .int .i64 x1) rfl
  have c2 := cell_obj (i := 2) h.obj (v := .int .i64 xk) rfl
  have c3 := cell_obj (i := 3) h.obj (v := .int .i64 xn) rfl
  have c4 := cell_obj (i := 4) h.obj (v := .string xt) rfl
  have hlt := (Array.getElem?_eq_some_iff.1 h.obj).1
  have HN := hid hn; have HV := hid hv; have HB := hid hB; have HSZ := hid hsz
  clear h hn hv hB hsz
  go_enter Tryd.func245, Tryd.ntmps245
  go_upto_region 1 with (fail)
  refine wp_region_plan (by kernel_rfl) (by kernel_rfl) [] [12, 13] (by kernel_rfl) (fun _ _ d _ _ h => by cases d <;> exact h) (Later) (Later.refl) (Later.trans) (kinds [(6, fun v w => OwnB B (encInt x1) v w)]) (kinds_still (by simp only [List.mem_cons, List.not_mem_nil, or_false, forall_eq_or_imp, forall_eq]; exact fun _ _ _ hR h => owns_at h hR)) ?_
  simp only [body, tail, numbered, Nat.reduceAdd, List.filter_cons, List.filter_nil, List.contains_cons, List.contains_nil, Nat.reduceBEq, Bool.or_false, Bool.or_true, Bool.false_or, Bool.true_or, Bool.not_true, Bool.not_false, Bool.and_true, Bool.and_false, Bool.true_and, Bool.false_and, if_true, if_false, reduceIte, Bool.false_eq_true, List.map_cons, List.map_nil]
  simp only [Pures]
  refine LexS.out ?_
  iterate 6
    first
    | (refine LexS.skip rfl ?_; simp only [Act.put, List.setIfInBounds_toArray, List.set])
    | (refine LexS.one' rfl rfl ?_
       apply Exists.intro
       refine ⟨fun w hR hF => ?_, ?_⟩
       · have hP := hR
         repeat (first | replace hP := Later.of_drew hP | replace hP := Later.of_drewN hP | replace hP := Later.of_alloc hP)
         have hcs := hR.cells
         have zc1 := hP.cell c1
         have zc2 := hP.cell c2
         have zc3 := hP.cell c3
         have zc4 := hP.cell c4
         clear hR hF hP
         go_simp
         first | done | rfl
       simp only [Act.put, List.setIfInBounds_toArray, List.set])
  refine LexS.any rfl rfl (fun w1 hR hF => ?_) ?_
  · have hP := hR
    repeat (first | replace hP := Later.of_drew hP | replace hP := Later.of_drewN hP | replace hP := Later.of_alloc hP)
    clear hF hR
    unfold Runs
    go_simp
    refine yield_enter ?_
    refine (put_int B (.slice none 0 0) [] x1 w1 HN.out (own_nil w1 B) (by rw [HB.out]; exact hP.size) (by simp)).mono ?_
    rintro e w2 ⟨v, rfl, hp⟩
    exact ⟨_, rfl, put0_of hp, hp.own⟩
  rintro v9 ⟨w2, hR2, hF2⟩
  have ho9 := hF2 _ List.mem_cons_self _ rfl
  obtain ⟨a9, d9, rfl⟩ := ownsRow_slice ho9
  clear ho9 hF2 hR2 w2
  simp only [Act.put, List.setIfInBounds_toArray, List.set]
  iterate 5
    first
    | (refine LexS.skip rfl ?_; simp only [Act.put, List.setIfInBounds_toArray, List.set])
    | (refine LexS.one' rfl rfl ?_
       apply Exists.intro
       refine ⟨fun w hR hF => ?_, ?_⟩
       · have hP := hR
         repeat (first | replace hP := Later.of_drew hP | replace hP := Later.of_drewN hP | replace hP := Later.of_alloc hP)
         have hcs := hR.cells
         have zc1 := hP.cell c1
         have zc2 := hP.cell c2
         have zc3 := hP.cell c3
         have zc4 := hP.cell c4
         clear hR hF hP
         go_simp
         first | done | rfl
       simp only [Act.put, List.setIfInBounds_toArray, List.set])
  refine LexS.nil ?_
  intro w3 hR3 hF3
  have HO3 : Hid (OwnB B (encInt x1) (.slice a9 (encInt x1).length d9) w3) := hid (hF3 _ List.mem_cons_self _ rfl)
  repeat (first | replace hR3 := Later.of_drew hR3 | replace hR3 := Later.of_drewN hR3 | replace hR3 := Later.of_alloc hR3)
  have HL3 := hid hR3
  clear hF3 hR3 c1 c2 c3 c4
  change wpList _ _ _ _ _ _
  go_wp2_with fail
  refine (put_value B _ (encInt x1) ⟨xk, xn, xt⟩ w3 HV.out HO3.out (by rw [HB.out]; exact HL3.out.size) (by have := encInt_length x1; have := HSZ.out; rw [List.length_append]; omega)).mono ?_
  rintro e w4 ⟨v, rfl, hp⟩
  have HP := hid hp
  clear hp
  go_wp2_with fail
  go_ret
  exact ⟨v, rfl, HP.out.own, put_on HL3.out (Nat.le_of_eq HB.out.symm) HO3.out HP.out⟩
end Go.Proofs.YtcmpjdnbjhkhdaaDoor
namespace Go.Proofs.YtcmpjdnbjhkhdaaDoor
set_option linter.unusedSimpArgs false
set_option linter.unusedVariables false
open Go.RowKit

theorem encVals_le (l : List Val) (k : Nat) : (encVals (l.take k)).length ≤ (encVals l).length := by
  have h : encVals l = encVals (l.take k) ++ encVals (l.drop k) := by
    unfold encVals
    rw [← List.flatMap_append, List.take_append_drop]
  rw [h, List.length_append]
  omega
set_option maxRecDepth 100000 in
set_option maxHeartbeats 2000000 in
theorem set_put (A base : Nat) (u : Value) (l : List Val) (B : Nat) (w : World) (h : SetAt w A base u l) (hv : ∀ x ∈ l, ValOk x) (hsz : (encVals l).length ≤ 70368744100000) (hll : l.length ≤ 4398046511104) (hB : B = w.heap.size) :
    Calls Tryd.prog 221 #[.pointer (some ⟨A, 0, none⟩), .slice none 0 0] w (Put0 w B (encInt l.length ++ encVals l)) := by
  obtain ⟨a, c, rfl⟩ := ownsRow_slice h.own
  have HC := hid h
  have c0 := cell_obj (i := 0) h.obj (v := .slice a l.length c) rfl
  have hlt := (Array.getElem?_eq_some_iff.1 h.obj).1
  have HV := hid hv; have HB := hid hB; have HSZ := hid hsz; have HLL := hid hll
  have hwf : (Lit.int .i64 (l.length : Int)).wf = true := by go_wf
  have HWF := hid hwf
  clear h hv hB hsz hwf hll
  go_enter Tryd.func221, Tryd.ntmps221
  go_wp2_with fail
  refine (put_int B (.slice none 0 0) [] (l.length : Int) w HWF.out (own_nil w B) (by rw [HB.out]; exact Nat.le_refl _) (by simp)).mono ?_
  rintro e w1 ⟨v1, rfl, hp⟩
  have HO1 : Hid (OwnB B (encInt l.length) v1 w1) := hid hp.own
  have HL1 := hid (put0_of hp)
  have HC1 := hid (HC.out.later HL1.out)
  obtain ⟨a1, d1, rfl⟩ := ownsRow_slice HO1.out
  clear hp c0 hlt
  have c0 := cell_obj (i := 0) HC1.out.obj (v := .slice a l.length c) rfl
  have hlt := cell_lt c0
  go_wp2_with fail
  have HES : Hid (Elems All ValAt 3 w a l) := hid (by
    obtain ⟨_, _, hq, -, -, -, he⟩ := owned_vals HC.out.own
    simp only [Value.slice.injEq, true_and] at hq
    rw [hq.1]
    exact fun i hi => let ⟨b, o, h1, _, h2⟩ := he i hi; ⟨b, o, h1, trivial, h2⟩)
  clear c0 hlt
  obtain ⟨R1, hR1⟩ : ∃ RR_ : (Nat → Value) → World → Prop, RR_ = (fun us wx => ∃ (n : Nat) (vb : Value), us 19 = .int .i64 n ∧ us 1 = vb ∧ n ≤ l.length ∧ OwnB B (encInt l.length ++ encVals (l.take n)) vb wx ∧ Later w wx) := ⟨_, rfl⟩
  obtain ⟨mu1, hmu1⟩ : ∃ mu : (Nat → Value) → World → Nat, mu = (fun us _ => l.length - (intOf (us 19)).toNat) := ⟨_, rfl⟩
  have HR1 := hid hR1; have Hmu1 := hid hmu1; clear hR1 hmu1
  refine wp_loop_frame' [false, true, false, false, false, false, true, false, false, false, false, false, false, false, false, false, false, false, false, true, true, true, true, true, true, true, true] R1 _ mu1 HR1.out ?_ ?_
  · exact ⟨0, _, rfl, rfl, Nat.zero_le _, by rw [List.take_zero]; show OwnB B (encInt l.length ++ []) _ _; rw [List.append_nil]; exact HO1.out, HL1.out⟩
  intro us1 wx hrel
  obtain ⟨n, vb, h19, h1, hn, ho, hL⟩ := hrel
  simp only [frameOf, Nat.reduceAdd, h19, h1]
  have Hh19 := hid h19; clear h19
  have Hh1 := hid h1; clear h1
  have HN := hid hn; have HLX := hid hL
  obtain ⟨L, hLL⟩ : ∃ L, L = encInt l.length ++ encVals (l.take n) := ⟨_, rfl⟩
  rw [← hLL] at ho
  obtain ⟨ab, db, rfl⟩ := ownsRow_slice ho
  have HO := hid ho; have HLQ := hid hLL
  clear hn ho hL hLL
  by_cases hnl : n < l.length
  · have HW : Hid (wrap64 ((n : Int) + 1) = ((n + 1 : Nat) : Int)) := hid (by have := HLL.out; unfold wrap64; omega)
    obtain ⟨b1, o1, rfl, -, e1⟩ := HES.out n hnl
    obtain ⟨p0, p1, p2⟩ := e1.later HLX.out
    clear e1
    have hl1 : b1 < wx.heap.size := cell_lt p0
    have HTK := hid (encVals_take hnl)
    have HVK := hid (HV.out l[n] (List.getElem_mem _))
    generalize l[n] = t at *
    obtain ⟨tk, tn, tt⟩ := t
    have HSZ2 : Hid ((L ++ encVal ⟨tk, tn, tt⟩).length + 30 ≤ 70368744177664) := hid (by
      rw [HLQ.out]
      have h1 := encVals_le l (n + 1)
      rw [HTK.out] at h1
      have := encInt_length l.length
      have := HSZ.out
      simp only [List.length_append] at h1 ⊢
      omega)
    have HBX : Hid (B ≤ wx.heap.size) := hid (by rw [HB.out]; exact HLX.out.size)
    go_wp2_with fail
    have hcall := fun (o : Obj) => put_value B (.slice ab L.length db) L ⟨tk, tn, tt⟩ (wx.alloc o) HVK.out (owns_at HO.out (Later.alloc _ o)) (Nat.le_trans HBX.out (Later.alloc _ o).size) HSZ2.out
    refine (hcall _).mono ?_
    rintro e w3 ⟨v3, rfl, hp⟩
    have ho3 : OwnB B (L ++ encVal ⟨tk, tn, tt⟩) v3 w3 := hp.own
    have HO3 : Hid (OwnB B (encInt l.length ++ encVals (l.take (n + 1))) v3 w3) := hid (by
      rw [HTK.out, ← List.append_assoc, ← HLQ.out]
      exact ho3)
    clear ho3
    have HL3 : Hid (Later w w3) := hid (put_on (Later.trans _ _ _ HLX.out (Later.alloc _ _)) (Nat.le_of_eq HB.out.symm) (owns_at HO.out (Later.alloc _ _)) hp)
    clear hp p0 p1 p2 hl1
    go_wp2_with fail
    rw [HW.out]
    refine Round.mk' HR1.out Hmu1.out rfl ?_ ?_
    · exact ⟨n + 1, _, rfl, rfl, hnl, HO3.out, HL3.out⟩
    · simp only [slots, List.getD_cons_succ, List.getD_cons_zero, Hh19.out, intOf, Int.toNat_natCast]
      omega
  · have hnl' : n = l.length := by have := HN.out; omega
    subst hnl'
    have HEQ : Hid (L = encInt l.length ++ encVals l) := hid (by rw [HLQ.out, List.take_length])
    go_wp2_with fail
    go_ret
    exact ⟨_, rfl, by rw [← HEQ.out]; exact HO.out, HLX.out⟩
end Go.Proofs.YtcmpjdnbjhkhdaaDoor
namespace Go.Proofs.YtcmpjdnbjhkhdaaDoor
set_option linter.unusedSimpArgs false
set_option linter.unusedVariables false
open Go.RowKit

/-- a read that goes well. -/
def Rd (w : World) (R : Nat) (u : Value) (r : List UInt8) (e : Ending) (w' : World) : Prop := e = .returned u ∧ RdB w' R false r ∧ Keeps (fun b => b ≠ R) w w'
theorem rd_int (R : Nat) (n : Int) (r : List UInt8) (w : World) (h : RdB w R false (encInt n ++ r)) (hn : (Lit.int .i64 n).wf = true) : Calls Tryd.prog 203 #[.pointer (some ⟨R, 0, none⟩)] w (Rd w R (.int .i64 n) r) := by
  have hb : -9223372036854775808 ≤ n ∧ n ≤ 9223372036854775807 := by simpa [Lit.wf, IntKind.min, IntKind.max, IntKind.bits, IntKind.signed] using hn
  refine (read_int R _ w h).mono ?_
  rintro e w' ⟨hk, h2⟩
  rw [dInt_enc hb.1 hb.2] at h2
  exact ⟨h2.1, h2.2, hk⟩
theorem rd_val (R : Nat) (x : Val) (r : List UInt8) (w : World) (h : RdB w R false (encVal x ++ r)) (hv : validV x = true) (ho : ValOk x) : Calls Tryd.prog 201 #[.pointer (some ⟨R, 0, none⟩)] w (Rd w R x.v r) := by
  refine (read_value R _ w h).mono ?_
  rintro e w' ⟨hk, h2⟩
  rw [dVal_enc hv (valOk_int ho) (valOk_text ho)] at h2
  exact ⟨h2.1, h2.2, hk⟩
/-- what a read leaves: a state, the rest of the bytes, all else as it was. -/
def ReadTo (S : World → Prop) (A R : Nat) (r : List UInt8) (w : World) (e : Ending) (w' : World) : Prop := e = .returned (.tuple #[]) ∧ S w' ∧ RdB w' R false r ∧ Keeps (fun b => b ≠ A ∧ b ≠ R) w w'
theorem cnt_read (A R : Nat) (n n0 : Int) (cs : List Value) (T : TypeId) (r : List UInt8) (w : World) (h : w.heap[A]? = some (.cells (.int .i64 n0 :: cs).toArray T (0, 0))) (hR : RdB w R false (encInt n ++ r)) (hn : (Lit.int .i64 n).wf = true) (hRA : R < A) :
    Calls Tryd.prog 212 #[.pointer (some ⟨A, 0, none⟩), .pointer (some ⟨R, 0, none⟩)] w (ReadTo (fun w' => w'.heap[A]? = some (.cells (.int .i64 n :: cs).toArray T (0, 0))) A R r w) := by
  have HC := hid h; have HR := hid hR; have HN := hid hn; have HRA := hid hRA
  clear h hR hn hRA
  go_enter Tryd.func212, Tryd.ntmps212
  go_wp2_with fail
  refine (rd_int R n r w HR.out HN.out).mono ?_
  rintro e w1 ⟨rfl, hr1, hk1⟩
  have HR1 := hid hr1; have HK1 := hid hk1
  have HC1 := hid (hk1.obj (Nat.ne_of_gt HRA.out) HC.out)
  clear hr1 hk1
  have c0 := cell_obj (i := 0) HC1.out (v := .int .i64 n0) rfl
  have f0 := free_obj (i := 0) HC1.out
  have hlt := cell_lt c0
  go_wp2_with fail
  refine bodyPost_end (v := .tuple #[]) (by simp [results, Tryd.results212, go_sem]) rfl ⟨rfl, ?_, HR1.out.other (p := ⟨A, 0, none⟩) HRA.out _, ?_⟩
  · exact obj_setCell (i := 0) HC1.out (.int .i64 n)
  · exact (HK1.out.mono fun b _ hb => hb.2).setCell (p := ⟨A, 0, none⟩) (.inl fun h => h.1 rfl) _
theorem sum_read (A R : Nat) (s s0 : Int × Int) (r : List UInt8) (w : World) (h : SumAt w A s0) (hR : RdB w R false (encInt s.1 ++ (encInt s.2 ++ r))) (hn : (Lit.int .i64 s.1).wf = true) (hm : (Lit.int .i64 s.2).wf = true) (hRA : R < A) :
    Calls Tryd.prog 218 #[.pointer (some ⟨A, 0, none⟩), .pointer (some ⟨R, 0, none⟩)] w (ReadTo (fun w' => SumAt w' A s) A R r w) := by
  obtain ⟨s1, s2⟩ := s
  obtain ⟨q1, q2⟩ := s0
  have HC := hid h; have HR := hid hR; have HN := hid hn; have HM := hid hm; have HRA := hid hRA
  have hlt := (Array.getElem?_eq_some_iff.1 h).1
  clear h hR hn hm hRA
  go_enter Tryd.func218, Tryd.ntmps218
  go_wp2_with fail
  refine (cnt_read A R s1 q1 [.int .i64 q2] _ _ w HC.out HR.out HN.out HRA.out).mono ?_
  rintro e w1 ⟨rfl, hc1, hr1, hk1⟩
  have HC1 := hid hc1; have HR1 := hid hr1; have HK1 := hid hk1
  clear hc1 hr1 hk1 hlt
  go_wp2_with fail
  refine (rd_int R s2 r w1 HR1.out HM.out).mono ?_
  rintro e w2 ⟨rfl, hr2, hk2⟩
  have HR2 := hid hr2; have HK2 := hid (HK1.out.trans (hk2.mono fun b _ hb => hb.2))
  have HC2 := hid (hk2.obj (Nat.ne_of_gt HRA.out) HC1.out)
  clear hr2 hk2
  have c1 := cell_obj (i := 1) HC2.out (v := .int .i64 q2) rfl
  have f1 := free_obj (i := 1) HC2.out
  have hlt := cell_lt c1
  go_wp2_with fail
  refine bodyPost_end (v := .tuple #[]) (by simp [results, Tryd.results218, go_sem]) rfl ⟨rfl, ?_, HR2.out.other (p := ⟨A, 1, none⟩) HRA.out _, ?_⟩
  · exact obj_setCell (i := 1) HC2.out (.int .i64 s2)
  · exact HK2.out.setCell (p := ⟨A, 1, none⟩) (.inl fun h => h.1 rfl) _
theorem RdB.put4 {w : World} {R : Nat} {bad : Bool} {l : List UInt8} (h : RdB w R bad l) {A : Nat} (hp : R < A) (x : TV) : RdB (put4 w A x) R bad l := (((h.other (p := ⟨A, 1, none⟩) hp _).other (p := ⟨A, 2, none⟩) hp _).other (p := ⟨A, 3, none⟩) hp _).other (p := ⟨A, 4, none⟩) hp _
set_option maxRecDepth 100000 in
theorem ch_read (fo : Nat) (sg : Int) (A Bo Bs R : Nat) (x x0 : TV) (r : List UInt8) (w : World) (h : ChAt fo sg w A Bo Bs x0) (hR : RdB w R false (encInt x.time ++ (encVal x.val ++ r))) (hn : (Lit.int .i64 x.time).wf = true) (hv : validV x.val = true) (ho : ValOk x.val) (hRA : R < A) (hRo : Bo ≠ R) (hRs : Bs ≠ R) :
    Calls Tryd.prog 247 #[.pointer (some ⟨A, 0, none⟩), .pointer (some ⟨R, 0, none⟩)] w (ReadTo (fun w' => ChAt fo sg w' A Bo Bs x) A R r w) := by
  have HC := hid h; have HR := hid hR; have HN := hid hn; have HV := hid hv; have HO := hid ho; have HRA := hid hRA; have HRO := hid hRo; have HRS := hid hRs
  clear h hR hn hv ho hRA hRo hRs
  go_enter Tryd.func247, Tryd.ntmps247
  go_wp2_with fail
  refine (rd_int R x.time _ w HR.out HN.out).mono ?_
  rintro e w1 ⟨rfl, hr1, hk1⟩
  have HR1 := hid hr1; have HK1 := hid hk1
  clear hr1 hk1
  go_wp2_with fail
  refine (rd_val R x.val r w1 HR1.out HV.out HO.out).mono ?_
  rintro e w2 ⟨rfl, hr2, hk2⟩
  have HR2 := hid hr2; have HK2 := hid (HK1.out.trans hk2)
  have HC2 := hid (HC.out.keep HK2.out (Nat.ne_of_gt HRA.out) HRO.out HRS.out)
  clear hr2 hk2
  obtain ⟨x1, ⟨xk, xn, xt⟩⟩ := x
  obtain ⟨y1, ⟨yk, yn, yt⟩⟩ := x0
  have c1 := cell_obj (i := 1) HC2.out.obj (v := .int .i64 y1) rfl
  have c2 := cell_obj (i := 2) HC2.out.obj (v := .int .i64 yk) rfl
  have c3 := cell_obj (i := 3) HC2.out.obj (v := .int .i64 yn) rfl
  have c4 := cell_obj (i := 4) HC2.out.obj (v := .string yt) rfl
  have f1 := free_obj (i := 1) HC2.out.obj
  have f2 := free_obj (i := 2) HC2.out.obj
  have f3 := free_obj (i := 3) HC2.out.obj
  have f4 := free_obj (i := 4) HC2.out.obj
  have hlt := cell_lt c1
  go_wp2_with fail
  refine bodyPost_end (v := .tuple #[]) (by simp [results, Tryd.results247, go_sem]) rfl ⟨rfl, ?_, HR2.out.put4 HRA.out ⟨x1, ⟨xk, xn, xt⟩⟩, ?_⟩
  · exact HC2.out.put ⟨x1, ⟨xk, xn, xt⟩⟩
  · exact (HK2.out.mono fun b _ hb => hb.2).trans ((put4_keep w2 A ⟨x1, ⟨xk, xn, xt⟩⟩).mono fun b _ hb => hb.1)
end Go.Proofs.YtcmpjdnbjhkhdaaDoor
namespace Go.Proofs.YtcmpjdnbjhkhdaaDoor
set_option linter.unusedSimpArgs false
set_option linter.unusedVariables false
open Go.RowKit

theorem takeWhile_all {α : Type} (p : α → Bool) : ∀ (l : List α), (∀ y ∈ l, p y = true) → l.takeWhile p = l
  | [], _ => rfl
  | y :: l, h => by
    rw [List.takeWhile_cons, if_pos (h y List.mem_cons_self), takeWhile_all p l fun z hz => h z (List.mem_cons_of_mem _ hz)]
theorem setP_snoc {l : List Val} {x : Val} {t : Int} (hs : SortedV (l ++ [x])) (hx : x.k ≠ 0) : setP l ⟨t, x⟩ = l ++ [x] := by
  have hlt : ∀ y ∈ l, compareV y x < 0 := fun y hy => (List.pairwise_append.1 hs).2.2 y hy x List.mem_cons_self
  have hp : placeV l x = l.length := by
    unfold placeV
    rw [takeWhile_all _ l fun y hy => decide_eq_true (hlt y hy)]
  have hh : hasV l x = false := by
    rw [← Bool.not_eq_true, hasV_mem]
    intro hm
    have := hlt x hm
    have := (compareV_total.eq x x).2 rfl
    omega
  unfold setP
  simp only
  rw [if_pos ⟨hx, hh⟩, hp, List.take_length, List.drop_length]
theorem rd_bad (R : Nat) (bad : Bool) (l : List UInt8) (w : World) (h : RdB w R bad l) : Calls Tryd.prog 200 #[.pointer (some ⟨R, 0, none⟩)] w fun e w' => e = .returned (.bool bad) ∧ w = w' := by
  obtain ⟨v, ho, -⟩ := h
  have r1 := cell_obj (i := 1) ho (v := .bool bad) rfl
  have hlt := cell_lt r1
  clear ho
  go_enter Tryd.func200, Tryd.ntmps200
  go_wp2_with fail
  go_ret
  exact ⟨rfl, rfl⟩
theorem RdB.kept {S : Nat → Prop} {w w' : World} {R : Nat} {bad : Bool} {l : List UInt8} (h : RdB w R bad l) (k : Keeps S w w') (hs : ∀ b, b ≤ R → S b) : RdB w' R bad l :=
  let ⟨v, h1, h2⟩ := h; ⟨v, k.obj (hs R (Nat.le_refl _)) h1, h2.bytes_kept k fun b hb => hs b (Nat.le_of_lt hb)⟩
def ReadSetTo (A base R : Nat) (vs : List Val) (r : List UInt8) (w : World) (e : Ending) (w' : World) : Prop := e = .returned (.tuple #[]) ∧ (∃ u, SetAt w' A base u vs) ∧ RdB w' R false r ∧ Keeps (fun b => b < base ∧ b ≠ R) w w'
set_option maxRecDepth 100000 in
set_option maxHeartbeats 2000000 in
theorem set_read (A base R : Nat) (u : Value) (vs : List Val) (r : List UInt8) (w : World) (h : SetAt w A base u []) (hR : RdB w R false (encInt vs.length ++ (encVals vs ++ r))) (hs : SortedV vs) (hk : ∀ x ∈ vs, x.k ≠ 0) (hv : ∀ x ∈ vs, validV x = true) (ho : ∀ x ∈ vs, ValOk x)
    (hlen : (vs.length + 1) * 32 ≤ 140737488355328) (hRA : R < A) (hAB : base ≤ A) (hRB : R < base) (hbase : base ≤ w.heap.size) :
    Calls Tryd.prog 223 #[.pointer (some ⟨A, 0, none⟩), .pointer (some ⟨R, 0, none⟩)] w (ReadSetTo A base R vs r w) := by
  have HC := hid h; have HR := hid hR; have HS := hid hs; have HK := hid hk; have HV := hid hv; have HO := hid ho; have HLEN := hid hlen; have HRA := hid hRA; have HAB := hid hAB; have HRB := hid hRB; have HBS := hid hbase
  have hwf : (Lit.int .i64 (vs.length : Int)).wf = true := by go_wf
  have HWF := hid hwf
  clear h hR hs hk hv ho hlen hRA hAB hRB hbase hwf
  go_enter Tryd.func223, Tryd.ntmps223
  go_wp2_with fail
  refine (rd_int R vs.length _ w HR.out HWF.out).mono ?_
  rintro e w1 ⟨rfl, hr1, hk1⟩
  have HRX := hid hr1; have HK1 : Hid (Keeps (fun b => b < base ∧ b ≠ R) w w1) := hid (hk1.mono fun b _ hb => hb.2)
  have HC1 := hid (HC.out.keep hk1 (Nat.ne_of_gt HRA.out) (fun g hg => by have := (ownb HC.out.own g hg).1; have := HRB.out; omega))
  clear hr1 hk1
  go_wp2_with fail
  obtain ⟨R1, hR1⟩ : ∃ RR_ : (Nat → Value) → World → Prop, RR_ = (fun us wx => ∃ (i : Nat) (u : Value), us 4 = .int .i64 ((vs.length - i : Nat) : Int) ∧ i ≤ vs.length ∧ SetAt wx A base u (vs.take i) ∧ RdB wx R false (encVals (vs.drop i) ++ r) ∧ Keeps (fun b => b < base ∧ b ≠ R) w wx) := ⟨_, rfl⟩
  obtain ⟨mu1, hmu1⟩ : ∃ mu : (Nat → Value) → World → Nat, mu = (fun us _ => (intOf (us 4)).toNat) := ⟨_, rfl⟩
  have HR1 := hid hR1; have Hmu1 := hid hmu1; clear hR1 hmu1
  refine wp_loop_frame' [false, false, false, false, true, false, false, true, true, true, true, true, true, true, true, true, true, true, true, true, true] R1 _ mu1 HR1.out ?_ ?_
  · exact ⟨0, u, rfl, Nat.zero_le _, HC1.out, HRX.out, HK1.out⟩
  intro us1 wx hrel
  obtain ⟨i, ui, h4, hi, hsa, hrd, hkk⟩ := hrel
  simp only [frameOf, Nat.reduceAdd, h4]
  have Hh4 := hid h4; clear h4
  have HI := hid hi; have HSA := hid hsa; have HRD := hid hrd; have HKK := hid hkk
  clear hi hsa hrd hkk
  by_cases hin : i < vs.length
  · have hpos : (0 : Int) < ((vs.length - i : Nat) : Int) := by omega
    have HD : Hid (encVals (vs.drop i) ++ r = encVal vs[i] ++ (encVals (vs.drop (i + 1)) ++ r)) := hid (by
      rw [List.drop_eq_getElem_cons hin]
      unfold encVals
      rw [List.flatMap_cons, List.append_assoc])
    have HTK : Hid (setP (vs.take i) ⟨0, vs[i]⟩ = vs.take (i + 1)) := hid (by
      rw [List.take_succ_eq_append_getElem hin]
      refine setP_snoc ?_ (HK.out _ (List.getElem_mem _))
      rw [← List.take_succ_eq_append_getElem hin]
      exact HS.out.sublist (List.take_sublist _ _))
    have HVI := hid (HV.out _ (List.getElem_mem hin)); have HOI := hid (HO.out _ (List.getElem_mem hin))
    have HST : Hid (SortedV (vs.take i)) := hid (HS.out.sublist (List.take_sublist _ _))
    have HLT : Hid (((vs.take i).length + 1) * 32 ≤ 140737488355328) := hid (by have := HLEN.out; rw [List.length_take]; omega)
    have HSZ : Hid (base ≤ wx.heap.size) := hid (Nat.le_trans HBS.out HKK.out.size)
    generalize vs[i] = t at *
    go_wp2_with fail
    refine (rd_bad R false _ wx HRD.out).mono ?_
    rintro e w2 ⟨rfl, rfl⟩
    go_wp2_with fail
    refine (rd_val R t _ wx (by rw [← HD.out]; exact HRD.out) HVI.out HOI.out).mono ?_
    rintro e w2 ⟨rfl, hr2, hk2⟩
    have HR2 := hid hr2
    have HSA2 := hid (HSA.out.keep hk2 (Nat.ne_of_gt HRA.out) (fun g hg => by have := (ownb HSA.out.own g hg).1; have := HRB.out; omega))
    have HK2 : Hid (Keeps (fun b => b < base ∧ b ≠ R) w w2) := hid (HKK.out.trans (hk2.mono fun b _ hb => hb.2))
    have HSZ2 : Hid (base ≤ w2.heap.size) := hid (Nat.le_trans HSZ.out hk2.size)
    clear hr2 hk2
    obtain ⟨tk, tn, tt⟩ := t
    go_wp2_with fail
    refine (set_add A base ui (vs.take i) ⟨0, ⟨tk, tn, tt⟩⟩ w2 HSA2.out HST.out HLT.out HSZ2.out).mono ?_
    rintro e w3 ⟨rfl, u3, hs3, hk3, -⟩
    have HS3 : Hid (SetAt w3 A base u3 (vs.take (i + 1))) := hid (by rw [← HTK.out]; exact hs3)
    have HR3 : Hid (RdB w3 R false (encVals (vs.drop (i + 1)) ++ r)) := hid (HR2.out.kept hk3 fun b hb => ⟨by have := HRA.out; omega, fun e => by have := (ownb HSA2.out.own b e.symm).1; have := HRB.out; omega⟩)
    have HK3 : Hid (Keeps (fun b => b < base ∧ b ≠ R) w w3) := hid (HK2.out.trans (hk3.mono fun b _ hb => ⟨by have := HAB.out; omega, fun e => by have := (ownb HSA2.out.own b e.symm).1; omega⟩))
    clear hs3 hk3
    go_wp2_with fail
    have hw : wrap64 (((vs.length - i : Nat) : Int) - 1) = ((vs.length - (i + 1) : Nat) : Int) := by have := HLEN.out; unfold wrap64; omega
    rw [hw]
    refine Round.mk' HR1.out Hmu1.out rfl ?_ ?_
    · exact ⟨i + 1, u3, rfl, hin, HS3.out, HR3.out, HK3.out⟩
    · simp only [slots, List.getD_cons_succ, List.getD_cons_zero, Hh4.out, intOf, Int.toNat_natCast]
      omega
  · have hin' : i = vs.length := by have := HI.out; omega
    subst hin'
    have hz : ((vs.length - vs.length : Nat) : Int) = 0 := by omega
    have HF : Hid (SetAt wx A base ui vs) := hid (by have := HSA.out; rwa [List.take_length] at this)
    have HF2 : Hid (RdB wx R false r) := hid (by have := HRD.out; rw [List.drop_length] at this; exact this)
    rw [hz]
    go_wp2_with fail
    exact bodyPost_end (v := .tuple #[]) (by simp [results, Tryd.results223, go_sem]) rfl ⟨rfl, ⟨ui, HF.out⟩, HF2.out, HKK.out⟩
end Go.Proofs.YtcmpjdnbjhkhdaaDoor
namespace Go.Proofs.YtcmpjdnbjhkhdaaDoor
set_option linter.unusedSimpArgs false
set_option linter.unusedVariables false
open Go.RowKit

theorem ta_ch (p : Value) (w : World) : (Instr.typeAssert (.iface 202 p) 94 202 false).run Tryd.prog w = .ok p w := by kernel_rfl
theorem ta_set (p : Value) (w : World) : (Instr.typeAssert (.iface 165 p) 94 165 false).run Tryd.prog w = .ok p w := by kernel_rfl
attribute [local go_sem] ta_ch ta_set
set_option maxRecDepth 100000 in
theorem ch_join_val (sg : Int) (hsg : sg = 1 ∨ sg = -1) (A Bo Bs C Co Cs : Nat) (fo : Nat) (sh : Int) (x t : TV) (w : World) (h : ChAt 82 sg w A Bo Bs x) (k : ChAt fo sh w C Co Cs t) :
    Calls Tryd.prog 244 #[.pointer (some ⟨A, 0, none⟩), .iface 202 (.pointer (some ⟨C, 0, none⟩))] w (AddTo (fun w' => ChAt 82 sg w' A Bo Bs (chooseP (fun a b => decide (byValue a b * sg < 0)) x t)) A w) := by
  have HC := hid h
  obtain ⟨t1, ⟨tk, tn, tt⟩⟩ := t
  have c1 := cell_obj (i := 1) k.obj (v := .int .i64 t1) rfl
  have c2 := cell_obj (i := 2) k.obj (v := .int .i64 tk) rfl
  have c3 := cell_obj (i := 3) k.obj (v := .int .i64 tn) rfl
  have c4 := cell_obj (i := 4) k.obj (v := .string tt) rfl
  have hlt := cell_lt c1
  clear h k
  go_enter Tryd.func244, Tryd.ntmps244
  go_wp2_with fail
  refine (ch_add_val sg hsg A Bo Bs x ⟨t1, ⟨tk, tn, tt⟩⟩ w HC.out).mono ?_
  rintro e w1 ⟨rfl, hc1, hk1⟩
  have HC1 := hid hc1; have HK1 := hid hk1
  clear hc1 hk1 c1 c2 c3 c4 hlt
  go_wp2_with fail
  exact bodyPost_end (v := .tuple #[]) (by simp [results, Tryd.results244, go_sem]) rfl ⟨rfl, HC1.out, HK1.out⟩
set_option maxRecDepth 100000 in
theorem ch_join_time (sg : Int) (hsg : sg = 1 ∨ sg = -1) (A Bo Bs C Co Cs : Nat) (fo : Nat) (sh : Int) (x t : TV) (w : World) (h : ChAt 83 sg w A Bo Bs x) (k : ChAt fo sh w C Co Cs t) :
    Calls Tryd.prog 244 #[.pointer (some ⟨A, 0, none⟩), .iface 202 (.pointer (some ⟨C, 0, none⟩))] w (AddTo (fun w' => ChAt 83 sg w' A Bo Bs (chooseP (fun a b => decide (byTime a b * sg < 0)) x t)) A w) := by
  have HC := hid h
  obtain ⟨t1, ⟨tk, tn, tt⟩⟩ := t
  have c1 := cell_obj (i := 1) k.obj (v := .int .i64 t1) rfl
  have c2 := cell_obj (i := 2) k.obj (v := .int .i64 tk) rfl
  have c3 := cell_obj (i := 3) k.obj (v := .int .i64 tn) rfl
  have c4 := cell_obj (i := 4) k.obj (v := .string tt) rfl
  have hlt := cell_lt c1
  clear h k
  go_enter Tryd.func244, Tryd.ntmps244
  go_wp2_with fail
  refine (ch_add_time sg hsg A Bo Bs x ⟨t1, ⟨tk, tn, tt⟩⟩ w HC.out).mono ?_
  rintro e w1 ⟨rfl, hc1, hk1⟩
  have HC1 := hid hc1; have HK1 := hid hk1
  clear hc1 hk1 c1 c2 c3 c4 hlt
  go_wp2_with fail
  exact bodyPost_end (v := .tuple #[]) (by simp [results, Tryd.results244, go_sem]) rfl ⟨rfl, HC1.out, HK1.out⟩
theorem foldl_sorted (ts : List TV) : ∀ (l : List Val), SortedV l → SortedV (ts.foldl setP l) := by
  induction ts with
  | nil => intro l h; exact h
  | cons t ts ih => intro l h; exact ih _ (setP_sorted h t)
theorem foldl_len (ts : List TV) : ∀ (l : List Val), (ts.foldl setP l).length ≤ l.length + ts.length := by
  induction ts with
  | nil => intro l; simp
  | cons t ts ih =>
    intro l
    rw [List.foldl_cons]
    have h1 := ih (setP l t)
    have h2 : (setP l t).length ≤ l.length + 1 := by
      by_cases h : t.val.k = 0
      · unfold setP; rw [if_neg (by simp [h])]; omega
      · rw [setP_length h]; split <;> omega
    simp only [List.length_cons]
    omega
theorem foldl_room (l m : List Val) (i : Nat) (h : (l.length + m.length + 1) * 32 ≤ 140737488355328) : ((((m.take i).map fun v => (⟨0, v⟩ : TV)).foldl setP l).length + 1) * 32 ≤ 140737488355328 := by
  have h1 := foldl_len ((m.take i).map fun v => (⟨0, v⟩ : TV)) l
  have h2 : ((m.take i).map fun v => (⟨0, v⟩ : TV)).length ≤ m.length := by rw [List.length_map, List.length_take]; exact Nat.min_le_right _ _
  exact Nat.le_trans (Nat.mul_le_mul_right 32 (Nat.succ_le_succ (Nat.le_trans h1 (Nat.add_le_add_left h2 _)))) h
set_option maxRecDepth 100000 in
set_option maxHeartbeats 2000000 in
theorem set_join (A C base : Nat) (u z : Value) (l m : List Val) (baseC : Nat) (S : Nat → Prop) (w : World) (h : SetAt w A base u l) (hs : SortedV l) (k : SetAt w C baseC z m) (hlen : (l.length + m.length + 1) * 32 ≤ 140737488355328) (hbase : base ≤ w.heap.size)
    (hAB : base ≤ A) (hzs : ∀ g, z.ownBlock = some g → S g) (hap : ∀ g, S g → g < w.heap.size ∧ u.ownBlock ≠ some g ∧ g ≠ A) :
    Calls Tryd.prog 220 #[.pointer (some ⟨A, 0, none⟩), .iface 165 (.pointer (some ⟨C, 0, none⟩))] w fun e w' => e = .returned (.tuple #[]) ∧ (∃ u', SetAt w' A base u' ((m.map fun v => (⟨0, v⟩ : TV)).foldl setP l)) ∧ Keeps (fun b => b < base ∨ S b) w w' := by
  have HZS := hid hzs; have HC := hid h; have HS := hid hs; have HLEN := hid hlen; have HBS := hid hbase; have HAB := hid hAB; have HAP := hid hap
  obtain ⟨a, c, rfl⟩ := ownsRow_slice k.own
  have HES : Hid (Elems S ValAt 3 w a m) := hid (by
    obtain ⟨_, _, hq, -, -, -, he⟩ := owned_vals_at k.own
    simp only [Value.slice.injEq, true_and] at hq
    obtain ⟨rfl, rfl⟩ := hq
    exact fun i hi => let ⟨b, o, h1, h2, h3⟩ := he i hi; ⟨b, o, h1, hzs b h2, h3⟩)
  have c0 := cell_obj (i := 0) k.obj (v := .slice a m.length c) rfl
  have hlt := cell_lt c0
  clear h hs k hlen hbase hAB hap hzs
  go_enter Tryd.func220, Tryd.ntmps220
  go_wp2_with fail
  clear c0 hlt
  obtain ⟨R1, hR1⟩ : ∃ RR_ : (Nat → Value) → World → Prop, RR_ = (fun us wx => ∃ (i : Nat) (u' : Value), us 12 = .int .i64 i ∧ i ≤ m.length ∧ SetAt wx A base u' (((m.take i).map fun v => (⟨0, v⟩ : TV)).foldl setP l) ∧ (∀ g, S g → u'.ownBlock ≠ some g) ∧ Keeps (fun b => b < base ∨ S b) w wx) := ⟨_, rfl⟩
  obtain ⟨mu1, hmu1⟩ : ∃ mu : (Nat → Value) → World → Nat, mu = (fun us _ => m.length - (intOf (us 12)).toNat) := ⟨_, rfl⟩
  have HR1 := hid hR1; have Hmu1 := hid hmu1; clear hR1 hmu1
  refine wp_loop_frame' [false, false, false, false, false, true, false, false, false, false, false, false, true, true, true, true, true, true, true, true, true] R1 _ mu1 HR1.out ?_ ?_
  · exact ⟨0, u, rfl, Nat.zero_le _, HC.out, fun g hg => (HAP.out g hg).2.1, Keeps.refl _ _⟩
  intro us1 wx hrel
  obtain ⟨i, ui, h12, hi, hsa, hne, hkk⟩ := hrel
  simp only [frameOf, Nat.reduceAdd, h12]
  have Hh12 := hid h12; clear h12
  have HI := hid hi; have HSA := hid hsa; have HNE := hid hne; have HKK := hid hkk
  clear hi hsa hne hkk
  by_cases hin : i < m.length
  · have HW : Hid (wrap64 ((i : Int) + 1) = ((i + 1 : Nat) : Int)) := hid (by have := HLEN.out; unfold wrap64; omega)
    have HTK : Hid (((m.take (i + 1)).map fun v => (⟨0, v⟩ : TV)).foldl setP l = setP (((m.take i).map fun v => (⟨0, v⟩ : TV)).foldl setP l) ⟨0, m[i]⟩) := hid (by
      rw [List.take_succ_eq_append_getElem hin, List.map_append, List.foldl_append]
      rfl)
    obtain ⟨b1, o1, rfl, hb1, e1⟩ := HES.out i hin
    obtain ⟨p0, p1, p2⟩ := e1.kept (.inr hb1) HKK.out
    clear e1 hb1
    have hl1 : b1 < wx.heap.size := cell_lt p0
    have HSO : Hid (SortedV (((m.take i).map fun v => (⟨0, v⟩ : TV)).foldl setP l)) := hid (foldl_sorted _ _ HS.out)
    have HLT := hid (foldl_room l m i HLEN.out)
    have HSZ : Hid (base ≤ wx.heap.size) := hid (Nat.le_trans HBS.out HKK.out.size)
    generalize m[i] = t at *
    generalize ((m.take i).map fun v => (⟨0, v⟩ : TV)).foldl setP l = cur at *
    obtain ⟨tk, tn, tt⟩ := t
    go_wp2_with fail
    have hcall := fun (o : Obj) => set_add A base ui cur ⟨0, ⟨tk, tn, tt⟩⟩ (wx.alloc o) (HSA.out.later (Later.alloc _ o)) HSO.out HLT.out (Nat.le_trans HSZ.out (Later.alloc _ o).size)
    refine (hcall _).mono ?_
    rintro e w3 ⟨rfl, u3, hs3, hk3, hb3⟩
    have HS3 : Hid (SetAt w3 A base u3 (((m.take (i + 1)).map fun v => (⟨0, v⟩ : TV)).foldl setP l)) := hid (by rw [HTK.out]; exact hs3)
    have HNE3 : Hid (∀ g, S g → u3.ownBlock ≠ some g) := hid (fun g hg hu => by
      rcases hb3 with h | h
      · exact HNE.out g hg (h ▸ hu)
      · have h1 := h g hu
        have h2 := (HAP.out g hg).1
        have h3 := HKK.out.size
        have h4 := (Later.alloc wx (.cells #[.int .i64 0, .int .i64 tk, .int .i64 tn, .string tt] 36 (0, 0))).size
        simp only [World.size_alloc] at h1
        omega)
    have HK3 : Hid (Keeps (fun b => b < base ∨ S b) w w3) := hid ((HKK.out.alloc _).trans (hk3.mono fun b _ hb => by
      rcases hb with hb | hb
      · exact ⟨by have := HAB.out; omega, fun e => by have := (ownb HSA.out.own b e.symm).1; omega⟩
      · exact ⟨(HAP.out b hb).2.2, fun e => HNE.out b hb e.symm⟩))
    clear hs3 hk3 hb3 p0 p1 p2 hl1
    go_wp2_with fail
    rw [HW.out]
    refine Round.mk' HR1.out Hmu1.out rfl ?_ ?_
    · exact ⟨i + 1, u3, rfl, hin, HS3.out, HNE3.out, HK3.out⟩
    · simp only [slots, List.getD_cons_succ, List.getD_cons_zero, Hh12.out, intOf, Int.toNat_natCast]
      omega
  · have hin' : i = m.length := by have := HI.out; omega
    subst hin'
    have HF : Hid (SetAt wx A base ui ((m.map fun v => (⟨0, v⟩ : TV)).foldl setP l)) := hid (by have := HSA.out; rwa [List.take_length] at this)
    go_wp2_with fail
    exact bodyPost_end (v := .tuple #[]) (by simp [results, Tryd.results220, go_sem]) rfl ⟨rfl, ⟨ui, HF.out⟩, HKK.out⟩
end Go.Proofs.YtcmpjdnbjhkhdaaDoor
namespace Go.Proofs.YtcmpjdnbjhkhdaaDoor
set_option linter.unusedSimpArgs false
set_option linter.unusedVariables false
open Go.RowKit

set_option maxRecDepth 100000 in
theorem cnt_join (A C : Nat) (n m : Int) (cs ds : List Value) (T U : TypeId) (w : World) (h : w.heap[A]? = some (.cells (.int .i64 n :: cs).toArray T (0, 0))) (k : w.heap[C]? = some (.cells (.int .i64 m :: ds).toArray U (0, 0))) :
    Calls Tryd.prog 209 #[.pointer (some ⟨A, 0, none⟩), .iface 157 (.pointer (some ⟨C, 0, none⟩))] w (AddTo (fun w' => w'.heap[A]? = some (.cells (.int .i64 (wrap64 (n + m)) :: cs).toArray T (0, 0))) A w) := by
  have HC := hid h; have HD := hid k
  have c0 := cell_obj (i := 0) h (v := .int .i64 n) rfl
  have d0 := cell_obj (i := 0) k (v := .int .i64 m) rfl
  have hlt := cell_lt c0
  have hlt2 := cell_lt d0
  clear h k
  go_enter Tryd.func209, Tryd.ntmps209
  refine wp_region_plan (by kernel_rfl) (by kernel_rfl) [] [10, 11, 12] (by kernel_rfl) (fun _ _ d _ _ h => by cases d <;> exact h) (Later) (Later.refl) (Later.trans) (fun _ => none) (fun _ _ _ _ _ h => by cases h) ?_
  simp only [body, tail, numbered, Nat.reduceAdd, List.filter_cons, List.filter_nil, List.contains_cons, List.contains_nil, Nat.reduceBEq, Bool.or_false, Bool.or_true, Bool.false_or, Bool.true_or, Bool.not_true, Bool.not_false, Bool.and_true, Bool.and_false, Bool.true_and, Bool.false_and, if_true, if_false, reduceIte, Bool.false_eq_true, List.map_cons, List.map_nil]
  simp only [Pures]
  refine LexS.out ?_
  iterate 10
    first
    | (refine LexS.skip rfl ?_; simp only [Act.put, List.setIfInBounds_toArray, List.set])
    | (refine LexS.one' rfl rfl ?_
       apply Exists.intro
       refine ⟨fun w hR hF => ?_, ?_⟩
       · have hP := hR
         repeat (first | replace hP := Later.of_drew hP | replace hP := Later.of_drewN hP | replace hP := Later.of_alloc hP)
         have hcs := hR.cells
         have zc0 := hP.cell c0
         have zd0 := hP.cell d0
         clear hR hF hP
         go_simp
         first | done | rfl
       simp only [Act.put, List.setIfInBounds_toArray, List.set])
  refine LexS.nil ?_
  intro w2 hR2 hF9
  clear hF9
  repeat (first | replace hR2 := Later.of_drew hR2 | replace hR2 := Later.of_drewN hR2 | replace hR2 := Later.of_alloc hR2)
  have HL2 := hid hR2
  have HC2 := hid (hR2.obj HC.out)
  clear hR2 c0 d0 hlt hlt2
  have c0 := cell_obj (i := 0) HC2.out (v := .int .i64 n) rfl
  have f0 := free_obj (i := 0) HC2.out
  have hlt := cell_lt c0
  change wpList _ _ _ _ _ _
  go_wp2_with fail
  refine bodyPost_end (v := .tuple #[]) (by simp [results, Tryd.results209, go_sem]) rfl ⟨rfl, obj_setCell (i := 0) HC2.out (.int .i64 (wrap64 (n + m))), ?_⟩
  exact ((HL2.out.keeps (fun b => b ≠ A))).setCell (p := ⟨A, 0, none⟩) (.inl fun h => h rfl) _
set_option maxRecDepth 100000 in
theorem sum_join (A C : Nat) (s t : Int × Int) (w : World) (h : SumAt w A s) (k : SumAt w C t) (hne : C ≠ A) :
    Calls Tryd.prog 215 #[.pointer (some ⟨A, 0, none⟩), .iface 160 (.pointer (some ⟨C, 0, none⟩))] w (AddTo (fun w' => SumAt w' A (wrap64 (s.1 + t.1), wrap64 (s.2 + t.2))) A w) := by
  obtain ⟨s1, s2⟩ := s
  obtain ⟨t1, t2⟩ := t
  have HC := hid h; have HD := hid k; have HNE := hid hne
  have hlt : A < w.heap.size := (Array.getElem?_eq_some_iff.1 h).1
  have hlt2 : C < w.heap.size := (Array.getElem?_eq_some_iff.1 k).1
  clear h k hne
  go_enter Tryd.func215, Tryd.ntmps215
  go_upto_region 0 with (fail)
  refine wp_region_plan (by kernel_rfl) (by kernel_rfl) [] [8] (by kernel_rfl) (fun _ _ d _ _ h => by cases d <;> exact h) (Later) (Later.refl) (Later.trans) (fun _ => none) (fun _ _ _ _ _ h => by cases h) ?_
  simp only [body, tail, numbered, Nat.reduceAdd, List.filter_cons, List.filter_nil, List.contains_cons, List.contains_nil, Nat.reduceBEq, Bool.or_false, Bool.or_true, Bool.false_or, Bool.true_or, Bool.not_true, Bool.not_false, Bool.and_true, Bool.and_false, Bool.true_and, Bool.false_and, if_true, if_false, reduceIte, Bool.false_eq_true, List.map_cons, List.map_nil]
  simp only [Pures]
  refine LexS.out ?_
  iterate 8
    first
    | (refine LexS.skip rfl ?_; simp only [Act.put, List.setIfInBounds_toArray, List.set])
    | (refine LexS.one' rfl rfl ?_
       apply Exists.intro
       refine ⟨fun w hR hF => ?_, ?_⟩
       · have hP := hR
         repeat (first | replace hP := Later.of_drew hP | replace hP := Later.of_drewN hP | replace hP := Later.of_alloc hP)
         have hcs := hR.cells
         clear hR hF hP
         go_simp
         first | done | rfl
       simp only [Act.put, List.setIfInBounds_toArray, List.set])
  refine LexS.nil ?_
  intro w1 hR1 hF9
  clear hF9
  repeat (first | replace hR1 := Later.of_drew hR1 | replace hR1 := Later.of_drewN hR1 | replace hR1 := Later.of_alloc hR1)
  have HL1 := hid hR1
  have HC1 := hid (hR1.obj HC.out)
  have HD1 := hid (hR1.obj HD.out)
  clear hR1 hlt hlt2
  change wpList _ _ _ _ _ _
  go_wp2_with fail
  refine (cnt_join A C s1 t1 [.int .i64 s2] [.int .i64 t2] _ _ w1 HC1.out HD1.out).mono ?_
  rintro e w2 ⟨rfl, hc2, hk2⟩
  have HC2 := hid hc2; have HD2 := hid (hk2.obj HNE.out HD1.out); have HK2 := hid ((HL1.out.keeps (fun b => b ≠ A)).trans hk2)
  clear hc2 hk2 HC1 HD1 HL1
  have c1 := cell_obj (i := 1) HC2.out (v := .int .i64 s2) rfl
  have d1 := cell_obj (i := 1) HD2.out (v := .int .i64 t2) rfl
  have hlt := cell_lt c1
  have hlt2 := cell_lt d1
  go_wp2_with fail
  go_upto_region 1 with (fail)
  refine wp_region_plan (by kernel_rfl) (by kernel_rfl) [] [10, 11, 12] (by kernel_rfl) (fun _ _ d _ _ h => by cases d <;> exact h) (Later) (Later.refl) (Later.trans) (fun _ => none) (fun _ _ _ _ _ h => by cases h) ?_
  simp only [body, tail, numbered, Nat.reduceAdd, List.filter_cons, List.filter_nil, List.contains_cons, List.contains_nil, Nat.reduceBEq, Bool.or_false, Bool.or_true, Bool.false_or, Bool.true_or, Bool.not_true, Bool.not_false, Bool.and_true, Bool.and_false, Bool.true_and, Bool.false_and, if_true, if_false, reduceIte, Bool.false_eq_true, List.map_cons, List.map_nil]
  simp only [Pures]
  refine LexS.out ?_
  iterate 10
    first
    | (refine LexS.skip rfl ?_; simp only [Act.put, List.setIfInBounds_toArray, List.set])
    | (refine LexS.one' rfl rfl ?_
       apply Exists.intro
       refine ⟨fun w hR hF => ?_, ?_⟩
       · have hP := hR
         repeat (first | replace hP := Later.of_drew hP | replace hP := Later.of_drewN hP | replace hP := Later.of_alloc hP)
         have hcs := hR.cells
         have zc1 := hP.cell c1
         have zd1 := hP.cell d1
         clear hR hF hP
         go_simp
         first | done | rfl
       simp only [Act.put, List.setIfInBounds_toArray, List.set])
  refine LexS.nil ?_
  intro w3 hR3 hF9
  clear hF9
  repeat (first | replace hR3 := Later.of_drew hR3 | replace hR3 := Later.of_drewN hR3 | replace hR3 := Later.of_alloc hR3)
  have HC3 := hid (hR3.obj HC2.out)
  have HK3 := hid (HK2.out.more hR3)
  clear hR3 c1 d1 hlt hlt2
  have c1 := cell_obj (i := 1) HC3.out (v := .int .i64 s2) rfl
  have f1 := free_obj (i := 1) HC3.out
  have hlt := cell_lt c1
  change wpList _ _ _ _ _ _
  go_wp2_with fail
  refine bodyPost_end (v := .tuple #[]) (by simp [results, Tryd.results215, go_sem]) rfl ⟨rfl, obj_setCell (i := 1) HC3.out (.int .i64 (wrap64 (s2 + t2))), HK3.out.setCell (p := ⟨A, 1, none⟩) (.inl fun h => h rfl) _⟩
end Go.Proofs.YtcmpjdnbjhkhdaaDoor
namespace Go.Proofs.YtcmpjdnbjhkhdaaDoor
set_option linter.unusedSimpArgs false
set_option linter.unusedVariables false
open Go.RowKit

def TvOk (x : TV) : Prop := (Lit.int .i64 x.time).wf = true ∧ ValOk x.val
/-- values that are few, and good. -/
structure Few (l : List TV) : Prop where
  len : l.length ≤ 4194304
  good : ∀ t ∈ l, TvOk t ∧ validV t.val = true
theorem nilTV_ok : TvOk nilTV ∧ validV nilTV.val = true := ⟨⟨by decide, by decide, by decide, by decide⟩, by kernel_rfl⟩
theorem Few.chosen {l : List TV} (h : Few l) (b : TV → TV → Bool) : TvOk (l.foldl (chooseP b) nilTV) ∧ validV (l.foldl (chooseP b) nilTV).val = true := by
  rcases chosen_mem b l with e | e
  · rw [e]; exact nilTV_ok
  · exact h.good _ e
theorem Few.setVal {l : List TV} (h : Few l) {x : Val} (hx : x ∈ setOf l) : ValOk x ∧ validV x = true ∧ x.k ≠ 0 := by
  obtain ⟨t, ht, h0, rfl⟩ := setOf_mem.1 hx
  exact ⟨(h.good t ht).1.2, (h.good t ht).2, h0⟩
theorem encVal_valid {x : Val} (h : validV x = true) : (encVal x).length ≤ 84 := by
  unfold encVal
  split
  · have := encInt_length x.n; simp only [List.length_cons]; omega
  split
  · rename_i h1 h3
    have hs : x.t.size ≤ 60 := by
      unfold validV at h
      rw [if_neg (by omega), if_neg (by omega), if_neg (by omega), if_pos h3, Bool.and_eq_true] at h
      exact of_decide_eq_true h.2
    have := encInt_length x.t.size
    have h4 : x.t.data.toList.length = x.t.size := by rw [Array.length_toList]; rfl
    simp only [List.length_cons, encText, List.length_append]
    omega
  · simp
theorem encVals_valid : ∀ {l : List Val}, (∀ x ∈ l, validV x = true) → (encVals l).length ≤ 84 * l.length
  | [], _ => by simp [encVals]
  | x :: l, h => by
    have h1 := encVal_valid (h x List.mem_cons_self)
    have h2 := encVals_valid (l := l) fun y hy => h y (List.mem_cons_of_mem _ hy)
    unfold encVals at *
    rw [List.flatMap_cons, List.length_append, List.length_cons]
    omega
theorem wf_wrap (n : Int) : (Lit.int .i64 (wrap64 n)).wf = true := by
  have : -9223372036854775808 ≤ wrap64 n ∧ wrap64 n ≤ 9223372036854775807 := by unfold wrap64; omega
  go_wf
theorem wf_sum (l : List TV) : (Lit.int .i64 (l.foldl sumP (0, 0)).1).wf = true ∧ (Lit.int .i64 (l.foldl sumP (0, 0)).2).wf = true := by
  obtain ⟨h1, h2⟩ := sum_wrapped l
  exact ⟨by rw [← h1]; exact wf_wrap _, by rw [← h2]; exact wf_wrap _⟩
theorem enc_cnt (l : List TV) : encA 1 l = encInt (wrap64 l.length) := by unfold encA; rw [if_pos rfl]
theorem enc_sum (l : List TV) : encA 2 l = encInt (l.foldl sumP (0, 0)).1 ++ encInt (l.foldl sumP (0, 0)).2 := by unfold encA; rw [if_neg (by decide), if_pos rfl]
theorem enc_set (l : List TV) : encA 7 l = encInt (setOf l).length ++ encVals (setOf l) := by unfold encA; rw [if_neg (by decide), if_neg (by decide), if_pos rfl]
theorem enc_ch {kind : Int} (h : 3 ≤ kind ∧ kind ≤ 6) (l : List TV) : encA kind l = encInt (l.foldl (chooseP (beforeP kind)) nilTV).time ++ encVal (l.foldl (chooseP (beforeP kind)) nilTV).val := by
  unfold encA chosen
  rw [if_neg (by omega), if_neg (by omega), if_neg (by omega)]
/-- the kinds behind the interface. -/
theorem AccAt.four {kind : Int} {B : Nat} {w : World} {v : Value} {l : List TV} (h : AccAt kind B w v l) :
    ∃ T A, v = .iface T (.pointer (some ⟨A, 0, none⟩)) ∧ B ≤ A ∧ A < w.heap.size ∧ (T = 157 ∨ T = 160 ∨ T = 165 ∨ T = 202) := by
  rcases h with ⟨h0, A, h1, h2, h3⟩ | ⟨h0, A, h1, h2, h3⟩ | ⟨h0, A, u, h1, h2, h3⟩ | ⟨sg, h0, A, Bo, Bs, h1, h2, h3⟩ | ⟨sg, h0, A, Bo, Bs, h1, h2, h3⟩
  · exact ⟨_, A, h2, h1, (Array.getElem?_eq_some_iff.1 h3).1, .inl rfl⟩
  · exact ⟨_, A, h2, h1, (Array.getElem?_eq_some_iff.1 h3).1, .inr (.inl rfl)⟩
  · exact ⟨_, A, h2, h1, (Array.getElem?_eq_some_iff.1 h3.obj).1, .inr (.inr (.inl rfl))⟩
  · exact ⟨_, A, h2, h1.1, (Array.getElem?_eq_some_iff.1 h3.obj).1, .inr (.inr (.inr rfl))⟩
  · exact ⟨_, A, h2, h1.1, (Array.getElem?_eq_some_iff.1 h3.obj).1, .inr (.inr (.inr rfl))⟩
theorem iface_ptr {T U : TypeId} {A A' : Nat} (h : Value.iface T (.pointer (some ⟨A, 0, none⟩)) = .iface U (.pointer (some ⟨A', 0, none⟩))) : T = U ∧ A = A' := by
  simp only [Value.iface.injEq, Value.pointer.injEq, Option.some.injEq, Addr.mk.injEq, and_true] at h
  exact h
theorem inv_cnt {kind : Int} {B A : Nat} {w : World} {l : List TV} (h : AccAt kind B w (.iface 157 (.pointer (some ⟨A, 0, none⟩))) l) : kind = 1 ∧ B ≤ A ∧ CntAt w A (wrap64 l.length) := by
  rcases h with ⟨h0, A, h1, h2, h3⟩ | ⟨h0, A, h1, h2, h3⟩ | ⟨h0, A, u, h1, h2, h3⟩ | ⟨sg, h0, A, Bo, Bs, h1, h2, h3⟩ | ⟨sg, h0, A, Bo, Bs, h1, h2, h3⟩ <;> obtain ⟨hT, rfl⟩ := iface_ptr h2
  · exact ⟨h0, h1, h3⟩
  all_goals exact absurd hT (by decide)
theorem inv_sum {kind : Int} {B A : Nat} {w : World} {l : List TV} (h : AccAt kind B w (.iface 160 (.pointer (some ⟨A, 0, none⟩))) l) : kind = 2 ∧ B ≤ A ∧ SumAt w A (l.foldl sumP (0, 0)) := by
  rcases h with ⟨h0, A, h1, h2, h3⟩ | ⟨h0, A, h1, h2, h3⟩ | ⟨h0, A, u, h1, h2, h3⟩ | ⟨sg, h0, A, Bo, Bs, h1, h2, h3⟩ | ⟨sg, h0, A, Bo, Bs, h1, h2, h3⟩ <;> obtain ⟨hT, rfl⟩ := iface_ptr h2
  · exact absurd hT (by decide)
  · exact ⟨h0, h1, h3⟩
  all_goals exact absurd hT (by decide)
theorem inv_set {kind : Int} {B A : Nat} {w : World} {l : List TV} (h : AccAt kind B w (.iface 165 (.pointer (some ⟨A, 0, none⟩))) l) : kind = 7 ∧ B ≤ A ∧ ∃ u, SetAt w A B u (setOf l) := by
  rcases h with ⟨h0, A, h1, h2, h3⟩ | ⟨h0, A, h1, h2, h3⟩ | ⟨h0, A, u, h1, h2, h3⟩ | ⟨sg, h0, A, Bo, Bs, h1, h2, h3⟩ | ⟨sg, h0, A, Bo, Bs, h1, h2, h3⟩ <;> obtain ⟨hT, rfl⟩ := iface_ptr h2
  · exact absurd hT (by decide)
  · exact absurd hT (by decide)
  · exact ⟨h0, h1, u, h3⟩
  all_goals exact absurd hT (by decide)
theorem inv_ch {kind : Int} {B A : Nat} {w : World} {l : List TV} (h : AccAt kind B w (.iface 202 (.pointer (some ⟨A, 0, none⟩))) l) : ∃ sg Bo Bs, (B ≤ A ∧ B ≤ Bo ∧ B ≤ Bs) ∧
    ((kind = 3 ∧ sg = 1 ∨ kind = 4 ∧ sg = -1) ∧ ChAt 82 sg w A Bo Bs (l.foldl (chooseP (beforeP kind)) nilTV) ∨ (kind = 5 ∧ sg = 1 ∨ kind = 6 ∧ sg = -1) ∧ ChAt 83 sg w A Bo Bs (l.foldl (chooseP (beforeP kind)) nilTV)) := by
  rcases h with ⟨h0, A, h1, h2, h3⟩ | ⟨h0, A, h1, h2, h3⟩ | ⟨h0, A, u, h1, h2, h3⟩ | ⟨sg, h0, A, Bo, Bs, h1, h2, h3⟩ | ⟨sg, h0, A, Bo, Bs, h1, h2, h3⟩ <;> obtain ⟨hT, rfl⟩ := iface_ptr h2
  · exact absurd hT (by decide)
  · exact absurd hT (by decide)
  · exact absurd hT (by decide)
  · exact ⟨sg, Bo, Bs, h1, .inl ⟨h0, h3⟩⟩
  · exact ⟨sg, Bo, Bs, h1, .inr ⟨h0, h3⟩⟩
theorem p_cnt {kind : Int} {B A : Nat} {w : World} {l : List TV} (h : AccAt kind B w (.iface 157 (.pointer (some ⟨A, 0, none⟩))) l) (hf : Few l) :
    Calls Tryd.prog 210 #[.pointer (some ⟨A, 0, none⟩), .slice none 0 0] w (Put0 w w.heap.size (encA kind l)) := by
  obtain ⟨rfl, -, h⟩ := inv_cnt h
  rw [enc_cnt]
  exact cnt_put A _ [] _ _ w h (wf_wrap _) (Nat.le_refl _)
theorem p_sum {kind : Int} {B A : Nat} {w : World} {l : List TV} (h : AccAt kind B w (.iface 160 (.pointer (some ⟨A, 0, none⟩))) l) (hf : Few l) :
    Calls Tryd.prog 216 #[.pointer (some ⟨A, 0, none⟩), .slice none 0 0] w (Put0 w w.heap.size (encA kind l)) := by
  obtain ⟨rfl, -, h⟩ := inv_sum h
  rw [enc_sum]
  exact sum_put A _ _ w h (wf_sum l).1 (wf_sum l).2 rfl
theorem p_set {kind : Int} {B A : Nat} {w : World} {l : List TV} (h : AccAt kind B w (.iface 165 (.pointer (some ⟨A, 0, none⟩))) l) (hf : Few l) :
    Calls Tryd.prog 221 #[.pointer (some ⟨A, 0, none⟩), .slice none 0 0] w (Put0 w w.heap.size (encA kind l)) := by
  obtain ⟨rfl, -, u, h⟩ := inv_set h
  have h1 := encVals_valid fun x hx => (hf.setVal (x := x) hx).2.1
  have h2 := setOf_len l
  have h3 := hf.len
  rw [enc_set]
  exact set_put A B u _ _ w h (fun x hx => (hf.setVal hx).1) (by omega) (by omega) rfl
theorem p_ch {kind : Int} {B A : Nat} {w : World} {l : List TV} (h : AccAt kind B w (.iface 202 (.pointer (some ⟨A, 0, none⟩))) l) (hf : Few l) :
    Calls Tryd.prog 245 #[.pointer (some ⟨A, 0, none⟩), .slice none 0 0] w (Put0 w w.heap.size (encA kind l)) := by
  obtain ⟨sg, Bo, Bs, hB, ⟨hk, h⟩ | ⟨hk, h⟩⟩ := inv_ch h
  all_goals
    have hc := hf.chosen (beforeP kind)
    have := encVal_valid hc.2
    rw [enc_ch (by omega)]
    exact ch_put _ sg A Bo Bs _ _ w h hc.1.1 hc.1.2 (by omega) rfl
/-- what a read leaves behind the interface. -/
def AccRead (kind : Int) (B R : Nat) (v : Value) (l : List TV) (r : List UInt8) (w : World) (e : Ending) (w' : World) : Prop := e = .returned (.tuple #[]) ∧ AccAt kind B w' v l ∧ RdB w' R false r ∧ Keeps (fun b => b < B ∧ b ≠ R) w w'
theorem r_cnt {kind : Int} {B A R : Nat} {w : World} {l : List TV} {r : List UInt8} (h : AccAt kind B w (.iface 157 (.pointer (some ⟨A, 0, none⟩))) []) (hf : Few l) (hR : RdB w R false (encA kind l ++ r)) (hRB : R < B) (hBw : B ≤ w.heap.size) :
    Calls Tryd.prog 212 #[.pointer (some ⟨A, 0, none⟩), .pointer (some ⟨R, 0, none⟩)] w (AccRead kind B R (.iface 157 (.pointer (some ⟨A, 0, none⟩))) l r w) := by
  obtain ⟨rfl, hB, h⟩ := inv_cnt h
  rw [enc_cnt] at hR
  refine (cnt_read A R (wrap64 l.length) _ [] _ r w h hR (wf_wrap _) (by omega)).mono ?_
  rintro e w' ⟨he, hs, hr, hk⟩
  exact ⟨he, .inl ⟨rfl, A, hB, rfl, hs⟩, hr, hk.mono fun b _ hb => ⟨by omega, hb.2⟩⟩
theorem r_sum {kind : Int} {B A R : Nat} {w : World} {l : List TV} {r : List UInt8} (h : AccAt kind B w (.iface 160 (.pointer (some ⟨A, 0, none⟩))) []) (hf : Few l) (hR : RdB w R false (encA kind l ++ r)) (hRB : R < B) (hBw : B ≤ w.heap.size) :
    Calls Tryd.prog 218 #[.pointer (some ⟨A, 0, none⟩), .pointer (some ⟨R, 0, none⟩)] w (AccRead kind B R (.iface 160 (.pointer (some ⟨A, 0, none⟩))) l r w) := by
  obtain ⟨rfl, hB, h⟩ := inv_sum h
  rw [enc_sum, List.append_assoc] at hR
  refine (sum_read A R (l.foldl sumP (0, 0)) _ r w h hR (wf_sum l).1 (wf_sum l).2 (by omega)).mono ?_
  rintro e w' ⟨he, hs, hr, hk⟩
  exact ⟨he, .inr (.inl ⟨rfl, A, hB, rfl, hs⟩), hr, hk.mono fun b _ hb => ⟨by omega, hb.2⟩⟩
theorem r_set {kind : Int} {B A R : Nat} {w : World} {l : List TV} {r : List UInt8} (h : AccAt kind B w (.iface 165 (.pointer (some ⟨A, 0, none⟩))) []) (hf : Few l) (hR : RdB w R false (encA kind l ++ r)) (hRB : R < B) (hBw : B ≤ w.heap.size) :
    Calls Tryd.prog 223 #[.pointer (some ⟨A, 0, none⟩), .pointer (some ⟨R, 0, none⟩)] w (AccRead kind B R (.iface 165 (.pointer (some ⟨A, 0, none⟩))) l r w) := by
  obtain ⟨rfl, hB, u, h⟩ := inv_set h
  rw [enc_set, List.append_assoc] at hR
  have h2 := setOf_len l
  have h3 := hf.len
  refine (set_read A B R u (setOf l) r w h hR (setOf_sorted l) (fun x hx => (hf.setVal hx).2.2) (fun x hx => (hf.setVal hx).2.1) (fun x hx => (hf.setVal hx).1) (by omega) (by omega) hB hRB hBw).mono ?_
  rintro e w' ⟨he, ⟨u', hs⟩, hr, hk⟩
  exact ⟨he, .inr (.inr (.inl ⟨rfl, A, u', hB, rfl, hs⟩)), hr, hk⟩
theorem r_ch {kind : Int} {B A R : Nat} {w : World} {l : List TV} {r : List UInt8} (h : AccAt kind B w (.iface 202 (.pointer (some ⟨A, 0, none⟩))) []) (hf : Few l) (hR : RdB w R false (encA kind l ++ r)) (hRB : R < B) (hBw : B ≤ w.heap.size) :
    Calls Tryd.prog 247 #[.pointer (some ⟨A, 0, none⟩), .pointer (some ⟨R, 0, none⟩)] w (AccRead kind B R (.iface 202 (.pointer (some ⟨A, 0, none⟩))) l r w) := by
  obtain ⟨sg, Bo, Bs, hB, ⟨hk, h⟩ | ⟨hk, h⟩⟩ := inv_ch h
  · have hc := hf.chosen (beforeP kind)
    rw [enc_ch (by omega), List.append_assoc] at hR
    refine (ch_read _ sg A Bo Bs R _ _ r w h hR hc.1.1 hc.2 hc.1.2 (by omega) (by omega) (by omega)).mono ?_
    rintro e w' ⟨he, hs, hr, hk'⟩
    exact ⟨he, .inr (.inr (.inr (.inl ⟨sg, hk, A, Bo, Bs, hB, rfl, hs⟩))), hr, hk'.mono fun b _ hb => ⟨by omega, hb.2⟩⟩
  · have hc := hf.chosen (beforeP kind)
    rw [enc_ch (by omega), List.append_assoc] at hR
    refine (ch_read _ sg A Bo Bs R _ _ r w h hR hc.1.1 hc.2 hc.1.2 (by omega) (by omega) (by omega)).mono ?_
    rintro e w' ⟨he, hs, hr, hk'⟩
    exact ⟨he, .inr (.inr (.inr (.inr ⟨sg, hk, A, Bo, Bs, hB, rfl, hs⟩))), hr, hk'.mono fun b _ hb => ⟨by omega, hb.2⟩⟩
def AccJoin (kind : Int) (B K : Nat) (v : Value) (l : List TV) (w : World) (e : Ending) (w' : World) : Prop := e = .returned (.tuple #[]) ∧ AccAt kind B w' v l ∧ Keeps (fun b => b < B ∨ b = K) w w'
/-- two of a kind joined: the blocks of the other one are its own. -/
theorem j_cnt {kind : Int} {B A B2 C : Nat} {w : World} {l m : List TV} (h : AccAt kind B w (.iface 157 (.pointer (some ⟨A, 0, none⟩))) l) (k : AccAt kind B2 w (.iface 157 (.pointer (some ⟨C, 0, none⟩))) m) (hf : Few l) (hg : Few m) (hA : A < B2) (hBw : B ≤ w.heap.size) (K : Nat) (hKA : K ≠ A) :
    Calls Tryd.prog 209 #[.pointer (some ⟨A, 0, none⟩), .iface 157 (.pointer (some ⟨C, 0, none⟩))] w (AccJoin kind B K (.iface 157 (.pointer (some ⟨A, 0, none⟩))) (l ++ m) w) := by
  obtain ⟨rfl, hB, h⟩ := inv_cnt h
  obtain ⟨-, hB2, k⟩ := inv_cnt k
  refine (cnt_join A C _ _ [] [] _ _ w h k).mono ?_
  rintro e w' ⟨he, hs, hk⟩
  refine ⟨he, .inl ⟨rfl, A, hB, rfl, ?_⟩, hk.mono fun b _ hb => by omega⟩
  rw [wrap_add] at hs
  rw [List.length_append]
  exact hs
theorem j_sum {kind : Int} {B A B2 C : Nat} {w : World} {l m : List TV} (h : AccAt kind B w (.iface 160 (.pointer (some ⟨A, 0, none⟩))) l) (k : AccAt kind B2 w (.iface 160 (.pointer (some ⟨C, 0, none⟩))) m) (hf : Few l) (hg : Few m) (hA : A < B2) (hBw : B ≤ w.heap.size) (K : Nat) (hKA : K ≠ A) :
    Calls Tryd.prog 215 #[.pointer (some ⟨A, 0, none⟩), .iface 160 (.pointer (some ⟨C, 0, none⟩))] w (AccJoin kind B K (.iface 160 (.pointer (some ⟨A, 0, none⟩))) (l ++ m) w) := by
  obtain ⟨rfl, hB, h⟩ := inv_sum h
  obtain ⟨-, hB2, k⟩ := inv_sum k
  refine (sum_join A C _ _ w h k (by omega)).mono ?_
  rintro e w' ⟨he, hs, hk⟩
  refine ⟨he, .inr (.inl ⟨rfl, A, hB, rfl, ?_⟩), hk.mono fun b _ hb => by omega⟩
  rw [sum_join_plain] at hs
  exact hs
theorem j_set {kind : Int} {B A B2 C : Nat} {w : World} {l m : List TV} (h : AccAt kind B w (.iface 165 (.pointer (some ⟨A, 0, none⟩))) l) (k : AccAt kind B2 w (.iface 165 (.pointer (some ⟨C, 0, none⟩))) m) (hf : Few l) (hg : Few m) (hA : A < B2) (hBw : B ≤ w.heap.size) (K : Nat) (hKA : K ≠ A) (hKw : K < w.heap.size)
    (hap : ∀ u, w.heap[A]? = some (.cells #[u] 167 (0, 0)) → ∀ g, u.ownBlock = some g → g < B2 ∧ g ≠ K) :
    Calls Tryd.prog 220 #[.pointer (some ⟨A, 0, none⟩), .iface 165 (.pointer (some ⟨C, 0, none⟩))] w (AccJoin kind B K (.iface 165 (.pointer (some ⟨A, 0, none⟩))) (l ++ m) w) := by
  obtain ⟨rfl, hB, u, h⟩ := inv_set h
  obtain ⟨-, hB2, z, k⟩ := inv_set k
  have h1 := setOf_len l
  have h2 := setOf_len m
  have h3 := hf.len
  have h4 := hg.len
  refine (set_join A C B u z (setOf l) (setOf m) B2 (fun g => z.ownBlock = some g ∨ g = K) w h (setOf_sorted l) k (by omega) hBw hB (fun g hg => .inl hg) (fun g hg => ?_)).mono ?_
  · rcases hg with hg | rfl
    · have := ownb k.own g hg
      exact ⟨this.2, fun e => by have := hap u h.obj g e; omega, by omega⟩
    · exact ⟨hKw, fun e => (hap u h.obj g e).2 rfl, hKA⟩
  rintro e w' ⟨he, ⟨u', hs⟩, hk⟩
  refine ⟨he, .inr (.inr (.inl ⟨rfl, A, u', hB, rfl, ?_⟩)), hk.mono fun b _ hb => hb.elim .inl fun e => .inr (.inr e)⟩
  rw [set_join_plain] at hs
  exact hs
theorem j_ch {kind : Int} {B A B2 C : Nat} {w : World} {l m : List TV} (h : AccAt kind B w (.iface 202 (.pointer (some ⟨A, 0, none⟩))) l) (k : AccAt kind B2 w (.iface 202 (.pointer (some ⟨C, 0, none⟩))) m) (hf : Few l) (hg : Few m) (hA : A < B2) (hBw : B ≤ w.heap.size) (K : Nat) (hKA : K ≠ A) :
    Calls Tryd.prog 244 #[.pointer (some ⟨A, 0, none⟩), .iface 202 (.pointer (some ⟨C, 0, none⟩))] w (AccJoin kind B K (.iface 202 (.pointer (some ⟨A, 0, none⟩))) (l ++ m) w) := by
  obtain ⟨sg, Bo, Bs, hB, ⟨hk, h⟩ | ⟨hk, h⟩⟩ := inv_ch h
  · obtain ⟨fo, sh, Co, Cs, k⟩ : ∃ fo sh Co Cs, ChAt fo sh w C Co Cs (m.foldl (chooseP (beforeP kind)) nilTV) := by
      obtain ⟨sh, Co, Cs, -, ⟨-, k⟩ | ⟨-, k⟩⟩ := inv_ch k <;> exact ⟨_, _, _, _, k⟩
    refine (ch_join_val sg (by rcases hk with ⟨-, h⟩ | ⟨-, h⟩; exact .inl h; exact .inr h) A Bo Bs C Co Cs fo sh _ _ w h k).mono ?_
    rintro e w' ⟨he, hs, hk'⟩
    refine ⟨he, .inr (.inr (.inr (.inl ⟨sg, hk, A, Bo, Bs, hB, rfl, ?_⟩))), hk'.mono fun b _ hb => by omega⟩
    rw [← before_val hk, choose_join (before_strict kind), ← List.foldl_append] at hs
    exact hs
  · obtain ⟨fo, sh, Co, Cs, k⟩ : ∃ fo sh Co Cs, ChAt fo sh w C Co Cs (m.foldl (chooseP (beforeP kind)) nilTV) := by
      obtain ⟨sh, Co, Cs, -, ⟨-, k⟩ | ⟨-, k⟩⟩ := inv_ch k <;> exact ⟨_, _, _, _, k⟩
    refine (ch_join_time sg (by rcases hk with ⟨-, h⟩ | ⟨-, h⟩; exact .inl h; exact .inr h) A Bo Bs C Co Cs fo sh _ _ w h k).mono ?_
    rintro e w' ⟨he, hs, hk'⟩
    refine ⟨he, .inr (.inr (.inr (.inr ⟨sg, hk, A, Bo, Bs, hB, rfl, ?_⟩))), hk'.mono fun b _ hb => by omega⟩
    rw [← before_time hk, choose_join (before_strict kind), ← List.foldl_append] at hs
    exact hs
theorem a_cnt {kind : Int} {B A : Nat} {w : World} {l : List TV} (h : AccAt kind B w (.iface 157 (.pointer (some ⟨A, 0, none⟩))) l) (t : TV) (hlen : (l.length + 1) * 32 ≤ 140737488355328) (hBw : B ≤ w.heap.size) :
    Calls Tryd.prog 208 #[.pointer (some ⟨A, 0, none⟩), t.v] w (AccAdd kind B (.iface 157 (.pointer (some ⟨A, 0, none⟩))) (l ++ [t]) w) := by
  obtain ⟨h0, hB, h⟩ := inv_cnt h
  exact acc_cnt h0 hB h t
theorem a_sum {kind : Int} {B A : Nat} {w : World} {l : List TV} (h : AccAt kind B w (.iface 160 (.pointer (some ⟨A, 0, none⟩))) l) (t : TV) (hlen : (l.length + 1) * 32 ≤ 140737488355328) (hBw : B ≤ w.heap.size) :
    Calls Tryd.prog 214 #[.pointer (some ⟨A, 0, none⟩), t.v] w (AccAdd kind B (.iface 160 (.pointer (some ⟨A, 0, none⟩))) (l ++ [t]) w) := by
  obtain ⟨h0, hB, h⟩ := inv_sum h
  exact acc_sum h0 hB h t
theorem a_set {kind : Int} {B A : Nat} {w : World} {l : List TV} (h : AccAt kind B w (.iface 165 (.pointer (some ⟨A, 0, none⟩))) l) (t : TV) (hlen : (l.length + 1) * 32 ≤ 140737488355328) (hBw : B ≤ w.heap.size) :
    Calls Tryd.prog 219 #[.pointer (some ⟨A, 0, none⟩), t.v] w (AccAdd kind B (.iface 165 (.pointer (some ⟨A, 0, none⟩))) (l ++ [t]) w) := by
  obtain ⟨h0, hB, u, h⟩ := inv_set h
  exact acc_set h0 hB h t hlen hBw
theorem a_ch {kind : Int} {B A : Nat} {w : World} {l : List TV} (h : AccAt kind B w (.iface 202 (.pointer (some ⟨A, 0, none⟩))) l) (t : TV) (hlen : (l.length + 1) * 32 ≤ 140737488355328) (hBw : B ≤ w.heap.size) :
    Calls Tryd.prog 243 #[.pointer (some ⟨A, 0, none⟩), t.v] w (AccAdd kind B (.iface 202 (.pointer (some ⟨A, 0, none⟩))) (l ++ [t]) w) := by
  obtain ⟨sg, Bo, Bs, hB, ⟨hk, h⟩ | ⟨hk, h⟩⟩ := inv_ch h
  · exact acc_chv hk hB h t
  · exact acc_cht hk hB h t
theorem v_cnt {kind : Int} {B A : Nat} {w : World} {l : List TV} (h : AccAt kind B w (.iface 157 (.pointer (some ⟨A, 0, none⟩))) l) (hlen : l.length ≤ 140737488355328) :
    Calls Tryd.prog 211 #[.pointer (some ⟨A, 0, none⟩)] w (ValTo (foldV kind l) w) := by
  obtain ⟨rfl, -, h⟩ := inv_cnt h
  rw [← val_cnt l hlen]
  exact cnt_val A _ w h
theorem v_sum {kind : Int} {B A : Nat} {w : World} {l : List TV} (h : AccAt kind B w (.iface 160 (.pointer (some ⟨A, 0, none⟩))) l) (hlen : l.length ≤ 140737488355328) :
    Calls Tryd.prog 217 #[.pointer (some ⟨A, 0, none⟩)] w (ValTo (foldV kind l) w) := by
  obtain ⟨rfl, -, h⟩ := inv_sum h
  exact sum_val A _ w h
theorem v_set {kind : Int} {B A : Nat} {w : World} {l : List TV} (h : AccAt kind B w (.iface 165 (.pointer (some ⟨A, 0, none⟩))) l) (hlen : l.length ≤ 140737488355328) :
    Calls Tryd.prog 222 #[.pointer (some ⟨A, 0, none⟩)] w (ValTo (foldV kind l) w) := by
  obtain ⟨rfl, -, u, h⟩ := inv_set h
  exact set_val A B u _ w h
theorem v_ch {kind : Int} {B A : Nat} {w : World} {l : List TV} (h : AccAt kind B w (.iface 202 (.pointer (some ⟨A, 0, none⟩))) l) (hlen : l.length ≤ 140737488355328) :
    Calls Tryd.prog 246 #[.pointer (some ⟨A, 0, none⟩)] w (ValTo (foldV kind l) w) := by
  obtain ⟨sg, Bo, Bs, hB, ⟨hk, h⟩ | ⟨hk, h⟩⟩ := inv_ch h
  · rw [← val_ch (by omega)]
    exact ch_val _ sg A Bo Bs _ w h
  · rw [← val_ch (by omega)]
    exact ch_val _ sg A Bo Bs _ w h
end Go.Proofs.YtcmpjdnbjhkhdaaDoor
namespace Go.Proofs.YtcmpjdnbjhkhdaaDoor
set_option linter.unusedSimpArgs false
set_option linter.unusedVariables false
open Go.RowKit

def AggReadTo (kind : Int) (R : Nat) (l : List TV) (w : World) (e : Ending) (w' : World) : Prop := ∃ v, e = .returned v ∧ AccAt kind w.heap.size w' v l ∧ Keeps (fun b => b ≠ R) w w'
set_option maxRecDepth 100000 in
theorem aggread_any (kind : Int) (h1 : 1 ≤ kind) (h7 : kind ≤ 7) (l : List TV) (R : Nat) (r : List UInt8) (w : World) (hf : Few l) (hR : RdB w R false (encA kind l ++ r)) :
    Calls Tryd.prog 51 #[.int .i64 kind, .pointer (some ⟨R, 0, none⟩)] w (AggReadTo kind R l w) := by
  have H1 := hid h1; have H7 := hid h7; have HF := hid hf; have HR := hid hR
  clear h1 h7 hf hR
  go_enter Tryd.func51, Tryd.ntmps51
  go_wp2_with fail
  refine (made_any kind H1.out H7.out w).mono ?_
  rintro e w1 ⟨v, rfl, ha, hL1⟩
  obtain ⟨T, A, rfl, hBA, hA, hT⟩ := ha.four
  have HA := hid ha; have HL1 := hid hL1
  have HR1 : Hid (RdB w1 R false (encA kind l ++ r)) := hid (HR.out.kept (hL1.keeps (fun _ => True)) fun _ _ => trivial)
  have HX := hid (show (1 : Nat) = 1 from rfl)
  have HRB := hid HR.out.lt
  clear ha hL1 hBA hA
  rcases hT with rfl | rfl | rfl | rfl
  all_goals
    go_wp2_with fail
    first
    | refine (r_cnt HA.out HF.out HR1.out HRB.out HL1.out.size).mono ?_
    | refine (r_sum HA.out HF.out HR1.out HRB.out HL1.out.size).mono ?_
    | refine (r_set HA.out HF.out HR1.out HRB.out HL1.out.size).mono ?_
    | refine (r_ch HA.out HF.out HR1.out HRB.out HL1.out.size).mono ?_
    rintro e w2 ⟨rfl, ha2, -, hk2⟩
    have HA2 := hid ha2; have HK2 := hid (((HL1.out.keeps (fun b => b < w.heap.size ∧ b ≠ R)).trans hk2).mono (S' := fun b => b ≠ R) fun b hb hn => ⟨hb, hn⟩)
    clear ha2 hk2
    go_wp2_with fail
    go_ret
    exact ⟨_, rfl, HA2.out, HK2.out⟩
end Go.Proofs.YtcmpjdnbjhkhdaaDoor
namespace Go.Proofs.YtcmpjdnbjhkhdaaDoor
set_option linter.unusedSimpArgs false
set_option linter.unusedVariables false
open Go.RowKit

def ClonedT (w : World) (v : Value) (l : List TV) (e : Ending) (w' : World) : Prop := ∃ v', e = .returned v' ∧ (w'.ownsRow w.heap.size 36 4 v' l.length (timedCells l) ∧ (v' = .slice none 0 0 ↔ v = .slice none 0 0)) ∧ Later w w'
theorem timedCells_ones (l : List TV) : ∀ u ∈ timedCells l, u.oneCell' = true := by
  intro u hu
  obtain ⟨y, -, hy⟩ := List.mem_flatMap.1 hu
  exact timed_ones y u hy
theorem timedCells_at {S : Nat → Prop} {w : World} {a : Addr} {l : List TV} (h : Elems S TimedAt 4 w (some a) l) : ∀ j u, (timedCells l)[j]? = some u → w.cell? (a.add j) = some u := by
  intro j u hu
  have hj : j < l.length * 4 := by
    rw [← timedCells_length]; exact (List.getElem?_eq_some_iff.1 hu).1
  obtain ⟨b, o, ha, _, h1, h2, h3, h4⟩ := h (j / 4) (by omega)
  cases ha
  obtain ⟨q1, q2, q3, q4⟩ := timedCells_get l (j / 4) (by omega)
  rw [add_none rfl]
  rcases (by omega : j = j / 4 * 4 ∨ j = j / 4 * 4 + 1 ∨ j = j / 4 * 4 + 2 ∨ j = j / 4 * 4 + 3) with e | e | e | e
  · rw [e] at hu; rw [q1] at hu; cases hu
    simpa [← e] using h1
  · rw [e] at hu; rw [q2] at hu; cases hu
    rw [Nat.add_assoc, ← e] at h2
    simpa using h2
  · rw [e] at hu; rw [q3] at hu; cases hu
    rw [Nat.add_assoc, Nat.add_assoc, ← e] at h3
    simpa using h3
  · rw [e] at hu; rw [q4] at hu; cases hu
    rw [Nat.add_assoc, Nat.add_assoc, ← e] at h4
    simpa using h4
theorem clone_timeds (l : List TV) (v : Value) (w : World) (hv : IsTimeds w v l) (hl : l.length * 40 ≤ 140737488355328) :
    Calls Tryd.prog 49 #[v] w (ClonedT w v l) := by
  obtain ⟨p, c, rfl, hac, hcm, hnil, hea⟩ := hv
  have hcap : c ≤ 9223372036854775807 := by unfold maxLen at hcm; omega
  cases p with
  | none =>
    obtain rfl : c = 0 := hnil rfl
    have hl0 : l.length = 0 := by omega
    have hl1 : l = [] := List.eq_nil_of_length_eq_zero hl0
    subst hl1
    clear hnil hl0 hac hcm hcap hea hl
    have he := fun (w : World) => Lib.run_eql_slice_nil (P := Tryd.prog) w 22 36 none 0 0 0 0 Tryd.underlying22
    go_enter Tryd.func49, Tryd.ntmps49
    go_wp2
    go_ret
    exact ⟨_, rfl, ⟨⟨rfl, .inl ⟨rfl, rfl⟩⟩, Iff.rfl⟩, Later.refl _⟩
  | some a =>
    obtain ⟨i0, hi, hz0, hz1, hz2⟩ := info_parts infoTimed
    have hown := World.ownsRow_lit (base := w.heap.size) (e := 36) (size := 4) w #[] 0 (Nat.le_refl _) (by unfold maxLen; omega) rfl
    have hnews : ∀ j u, (timedCells l)[j]? = some u → (w.alloc (.cells #[] 36)).cell? (a.add j) = some u := fun j u h => (Later.alloc w _).cell (timedCells_at hea j u h)
    have HO := hid hown; have HN := hid hnews; have HL := hid hl; have HI := hid hi
    clear hown hnews hnil hea hcap hcm hl hi
    have he := fun (w : World) => Lib.run_eql_slice_nil (P := Tryd.prog) w 22 36 (some a) l.length c 0 0 Tryd.underlying22
    go_enter Tryd.func49, Tryd.ntmps49
    go_wp2_with (at_builtin; refine wpList_append_own _ rfl _ _ 22 rfl w.heap.size 36 i0 _ 4 40 Tryd.underlying22 HI.out hz0 hz1 hz2 rfl (by decide) _ _ _ rfl HO.out a l.length c (timedCells l) rfl (timedCells_length l) HN.out (timedCells_ones l) ?c1 ?c2 ?c3 ?_)
    case c1 => have := HL.out; unfold maxLen; omega
    case c2 => have := HL.out; omega
    intro v' w1 hown1 hgrow1 hnil1
    go_wp2
    go_ret
    refine ⟨_, rfl, ⟨hown1, ?_⟩, ?_⟩
    · simp [hnil1]
    · have hb := (Below.refl w.heap.size w).alloc (Nat.le_refl _) (.cells #[] 36)
      exact hb.grown hgrow1 (by simp) (fun k hk => by simp [Value.ownBlock] at hk; omega)
end Go.Proofs.YtcmpjdnbjhkhdaaDoor
namespace Go.Proofs.YtcmpjdnbjhkhdaaDoor
set_option linter.unusedSimpArgs false
set_option linter.unusedVariables false
open Go.RowKit

theorem wpList_append_timeds {w : World} {ops : Array Oper} {rest : List Oper} {o : Oper} {a : Act} {Q : Exit → Act → World → Prop} (hgd : o.guard = none) (s x : Operand)
    (ho : o.op = .call { callee := .builtin .append, args := #[s, x], argTypes := #[22, 22] })
    (base : Nat) (v u : Value) (xs m : List TV) (hs : a.eval s = v) (hown : w.ownsRow base 36 4 v xs.length (timedCells xs)) (hx : a.eval x = u) (hu : IsTimeds w u m)
    (hbytes : (xs.length + m.length) * 40 ≤ 140737488355328) (hbase : base ≤ w.heap.size)
    (h : ∀ v' w', w'.ownsRow base 36 4 v' (xs ++ m).length (timedCells (xs ++ m)) → Keeps (fun b => b < base) w w' → wpList Tryd.prog ops Q rest (a.put o.dst v') w') : wpList Tryd.prog ops Q (o :: rest) a w := by
  obtain ⟨i0, hi, hz0, hz1, hz2⟩ := info_parts infoTimed
  obtain ⟨p, c, rfl, hlc, hcm, hnil, he⟩ := hu
  cases p with
  | none =>
    obtain rfl : c = 0 := hnil rfl
    have hm : m = [] := List.eq_nil_of_length_eq_zero (by omega)
    subst hm
    refine wpList_append_nil w hgd s x _ ho base 36 i0 4 Tryd.underlying22 hi v _ _ hs hown hx (h v w ?_ (Keeps.refl _ _))
    rw [List.append_nil]; exact hown
  | some ad =>
    refine wpList_append w hgd s x _ ho base 36 i0 _ 4 40 Tryd.underlying22 hi hz0 hz1 hz2 rfl (by decide) v _ _ hs hown ad m.length c (timedCells m) hx (timedCells_length m) (timedCells_at he) (timedCells_ones m) (by unfold maxLen; omega) hbytes hbase fun v' w' hA => h v' w' ?_ ?_
    · rw [List.length_append, timedCells_app]; exact hA.own
    · exact (Keeps.of_grown hA.grown).mono fun b _ hb e => by have := (ownb hown b e.symm).1; omega
theorem infoAcc : (Tryd.prog.info? 94).map (fun i => (i.zero, i.size, i.bytes)) = some (some .nilIface, 1, 16) := by kernel_rfl
theorem accElem : ElemInfo Tryd.prog 94 1 16 := ElemInfo.of infoAcc rfl (by decide)
theorem AccAt.keep {kind : Int} {B : Nat} {w w' : World} {v : Value} {l : List TV} (h : AccAt kind B w v l) (k : Keeps (fun b => B ≤ b ∧ b < w.heap.size) w w') : AccAt kind B w' v l := by
  rcases h with ⟨h0, A, h1, h2, h3⟩ | ⟨h0, A, h1, h2, h3⟩ | ⟨h0, A, u, h1, h2, h3⟩ | ⟨sg, h0, A, Bo, Bs, h1, h2, h3⟩ | ⟨sg, h0, A, Bo, Bs, h1, h2, h3⟩
  · exact .inl ⟨h0, A, h1, h2, k.obj ⟨h1, (Array.getElem?_eq_some_iff.1 h3).1⟩ h3⟩
  · exact .inr (.inl ⟨h0, A, h1, h2, k.obj ⟨h1, (Array.getElem?_eq_some_iff.1 h3).1⟩ h3⟩)
  · exact .inr (.inr (.inl ⟨h0, A, u, h1, h2, h3.keep k ⟨h1, (Array.getElem?_eq_some_iff.1 h3.obj).1⟩ fun g hg => ownb h3.own g hg⟩))
  · exact .inr (.inr (.inr (.inl ⟨sg, h0, A, Bo, Bs, h1, h2, h3.keep k ⟨h1.1, (Array.getElem?_eq_some_iff.1 h3.obj).1⟩ ⟨h1.2.1, cell_lt h3.ord⟩ ⟨h1.2.2, cell_lt h3.sign⟩⟩)))
  · exact .inr (.inr (.inr (.inr ⟨sg, h0, A, Bo, Bs, h1, h2, h3.keep k ⟨h1.1, (Array.getElem?_eq_some_iff.1 h3.obj).1⟩ ⟨h1.2.1, cell_lt h3.ord⟩ ⟨h1.2.2, cell_lt h3.sign⟩⟩)))
def pick2 {α : Type} (l m : α) (k : Nat) : α := if k = 0 then l else m
/-- the parts that are done: each in blocks of its own. -/
structure Parts (kind : Int) (X : Nat → List TV) (i : Nat) (v : Value) (vs : List Value) (Bz : Nat) (f : Nat → World) (g : Nat → Nat) (w : World) : Prop where
  len : vs.length = i
  own : w.ownsRow Bz 94 1 v i vs
  acc : ∀ k (h : k < vs.length), AccAt kind (g k) (f k) vs[k] (X k)
  keep : ∀ k, k < i → Keeps (fun b => g k ≤ b ∧ b < (f k).heap.size) (f k) w
  low : ∀ k, k < i → Bz ≤ g k ∧ ∀ b, v.ownBlock = some b → ¬ (g k ≤ b ∧ b < (f k).heap.size)
  apart : ∀ k, k + 1 < i → (f k).heap.size ≤ g (k + 1)
theorem Parts.nil (kind : Int) (X : Nat → List TV) (Bz : Nat) (f : Nat → World) (g : Nat → Nat) (w : World) : Parts kind X 0 (.slice none 0 0) [] Bz f g w :=
  ⟨rfl, ⟨rfl, .inl ⟨rfl, rfl⟩⟩, fun k h => by simp at h, fun k h => by omega, fun k h => by omega, fun k h => by omega⟩
/-- all that was kept below the present size: so are the parts. -/
theorem Parts.step {kind : Int} {X : Nat → List TV} {i : Nat} {v v' : Value} {vs : List Value} {Bz : Nat} {f : Nat → World} {g : Nat → Nat} {w w3 w4 w5 : World} {u : Value} (h : Parts kind X i v vs Bz f g w)
    (hk : Keeps (fun b => b < w.heap.size) w w4) (ha : AccAt kind w3.heap.size w4 u (X i)) (hw3 : w.heap.size ≤ w3.heap.size) (hx : AppX w4 Bz 94 1 v i 1 (vs ++ [u]) v' w5) (hB : Bz ≤ w.heap.size) :
    Parts kind X (i + 1) v' (vs ++ [u]) Bz (fun k => if k = i then w4 else f k) (fun k => if k = i then w3.heap.size else g k) w5 := by
  have hfk : ∀ k, k < i → (f k).heap.size ≤ w.heap.size := fun k hk => (h.keep k hk).size
  have ho4 : w4.ownsRow Bz 94 1 v i vs := owns_keep h.own hk fun b hb => (ownb h.own b hb).2
  have hkx : ∀ S : Nat → Prop, (∀ b, v.ownBlock = some b → ¬ S b) → Keeps S w4 w5 := fun S hS => by
    rcases hx.kind with ⟨b, cap, rfl, rfl, hk5⟩ | ⟨hL, -⟩
    · exact hk5.mono fun c _ hc e => hS b rfl (e ▸ hc)
    · exact hL.keeps S
  have hnew : ∀ b, v'.ownBlock = some b → v.ownBlock = some b ∨ w4.heap.size ≤ b := fun b hb => by
    rcases hx.kind with ⟨b, cap, rfl, rfl, hk5⟩ | ⟨-, hn⟩
    · exact .inl hb
    · exact .inr (hn b hb)
  have hvlt : ∀ b, v.ownBlock = some b → b < w.heap.size := fun b hb => (ownb h.own b hb).2
  refine ⟨by rw [List.length_append, h.len]; rfl, hx.own, fun k hk' => ?_, fun k hk' => ?_, fun k hk' => ?_, fun k hk' => ?_⟩
  · by_cases e : k = i
    · subst e
      simp only [if_true]
      rw [List.getElem_append_right (by rw [h.len]; exact Nat.le_refl _)]
      simpa [h.len] using ha
    · simp only [if_neg e]
      have hki : k < vs.length := by rw [List.length_append, List.length_singleton] at hk'; have := h.len; omega
      rw [List.getElem_append_left hki]
      exact h.acc k hki
  · by_cases e : k = i
    · subst e
      simp only [if_true]
      exact hkx _ fun b hb hS => by have := hvlt b hb; omega
    · simp only [if_neg e]
      have hki : k < i := by omega
      refine ((h.keep k hki).trans (hk.mono fun b _ hb => ?_)).trans (hkx _ (h.low k hki).2)
      have := hfk k hki
      omega
  · by_cases e : k = i
    · subst e
      simp only [if_true]
      refine ⟨Nat.le_trans hB hw3, fun b hb hS => ?_⟩
      rcases hnew b hb with h1 | h1
      · have := hvlt b h1; omega
      · omega
    · simp only [if_neg e]
      have hki : k < i := by omega
      refine ⟨(h.low k hki).1, fun b hb hS => ?_⟩
      rcases hnew b hb with h1 | h1
      · exact (h.low k hki).2 b h1 hS
      · have := hfk k hki; have := hk.size; omega
  · by_cases e : k + 1 = i
    · simp only [if_pos e, if_neg (show ¬ k = i by omega)]
      have := hfk k (by omega)
      omega
    · simp only [if_neg e, if_neg (show ¬ k = i by omega)]
      exact h.apart k (by omega)
end Go.Proofs.YtcmpjdnbjhkhdaaDoor
